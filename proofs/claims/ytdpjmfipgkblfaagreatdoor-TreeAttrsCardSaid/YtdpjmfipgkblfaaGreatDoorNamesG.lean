/- The statements' own helpers of layer 3, by V. -/
import Derived.Test.YtdpjmfipgkblfaaGreatDoorNamesF
set_option linter.unusedSimpArgs false
namespace Go.Proofs.YtdpjmfipgkblfaaGreatDoor
open Go Go.V
attribute [local irreducible] vc vcL vcP vcI vcO stOp Loops condP bx bx2 Meets Back

end Go.Proofs.YtdpjmfipgkblfaaGreatDoor
