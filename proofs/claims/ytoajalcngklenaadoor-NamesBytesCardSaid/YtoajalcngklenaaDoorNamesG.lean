/- The statements' own helpers of layer 3, by V. -/
import Derived.Test.YtoajalcngklenaaDoorNamesF
set_option linter.unusedSimpArgs false
namespace Go.Proofs.YtoajalcngklenaaDoor
open Go Go.V
attribute [local irreducible] vc vcL vcP vcI vcO stOp Loops condP bx bx2 Meets Back

set_option maxRecDepth 20000 in
theorem known_meets (H : List Ent) : Meets nE Tryd.prog 11 [] H (Ret (.d (.bool true)) H) := by
  refine Meets.of_body mixed tok (plan := fun _ => .done) Tryd.func11 Tryd.call11 Tryd.ntmps11 Tryd.results11 rfl (by kernel_rfl) ?_
  simp -dsimp -implicitDefEqProofs only [go_sem, T, Nat.reduceAdd, Nat.reduceSub, Nat.reduceMul, Nat.reduceLT, Nat.reduceLeDiff, Nat.reduceEqDiff, Int.reduceEq, Int.reduceLT, Int.reduceLE]
  refine (custom_meets [120, 45, 97] H).ret ?_
  simp -dsimp -implicitDefEqProofs only [go_sem, T, Nat.reduceAdd, Nat.reduceSub, Nat.reduceMul, Nat.reduceLT, Nat.reduceLeDiff, Nat.reduceEqDiff, Int.reduceEq, Int.reduceLT, Int.reduceLE, show customN ([120, 45, 97] : List UInt8) = true from by kernel_rfl, eq_self]
  refine (custom_meets [120, 97] H).ret ?_
  simp -dsimp -implicitDefEqProofs only [go_sem, T, Nat.reduceAdd, Nat.reduceSub, Nat.reduceMul, Nat.reduceLT, Nat.reduceLeDiff, Nat.reduceEqDiff, Int.reduceEq, Int.reduceLT, Int.reduceLE, show customN ([120, 97] : List UInt8) = false from by kernel_rfl, eq_self]
  refine (custom_meets [102, 111, 110, 116, 45, 102, 97, 99, 101] H).ret ?_
  simp -dsimp -implicitDefEqProofs only [go_sem, T, Nat.reduceAdd, Nat.reduceSub, Nat.reduceMul, Nat.reduceLT, Nat.reduceLeDiff, Nat.reduceEqDiff, Int.reduceEq, Int.reduceLT, Int.reduceLE, show customN ([102, 111, 110, 116, 45, 102, 97, 99, 101] : List UInt8) = false from by kernel_rfl, eq_self]
  refine (void_meets [98, 114] H).ret ?_
  simp -dsimp -implicitDefEqProofs only [go_sem, T, Nat.reduceAdd, Nat.reduceSub, Nat.reduceMul, Nat.reduceLT, Nat.reduceLeDiff, Nat.reduceEqDiff, Int.reduceEq, Int.reduceLT, Int.reduceLE, show voids.contains ([98, 114] : List UInt8) = true from by kernel_rfl, eq_self]
  refine (raw_meets [115, 116, 121, 108, 101] H).ret ?_
  simp -dsimp -implicitDefEqProofs only [go_sem, T, Nat.reduceAdd, Nat.reduceSub, Nat.reduceMul, Nat.reduceLT, Nat.reduceLeDiff, Nat.reduceEqDiff, Int.reduceEq, Int.reduceLT, Int.reduceLE, show raws.contains ([115, 116, 121, 108, 101] : List UInt8) = true from by kernel_rfl, eq_self]
  refine (soft_meets [116, 105, 116, 108, 101] H).ret ?_
  simp -dsimp -implicitDefEqProofs only [go_sem, T, Nat.reduceAdd, Nat.reduceSub, Nat.reduceMul, Nat.reduceLT, Nat.reduceLeDiff, Nat.reduceEqDiff, Int.reduceEq, Int.reduceLT, Int.reduceLE, show softs.contains ([116, 105, 116, 108, 101] : List UInt8) = true from by kernel_rfl, eq_self]
  refine (block_meets [112] H).ret ?_
  simp -dsimp -implicitDefEqProofs only [go_sem, T, Nat.reduceAdd, Nat.reduceSub, Nat.reduceMul, Nat.reduceLT, Nat.reduceLeDiff, Nat.reduceEqDiff, Int.reduceEq, Int.reduceLT, Int.reduceLE, show blocks.contains ([112] : List UInt8) = true from by kernel_rfl, eq_self]
  refine (host_meets [100, 105, 118] H).ret ?_
  simp -dsimp -implicitDefEqProofs only [go_sem, T, Nat.reduceAdd, Nat.reduceSub, Nat.reduceMul, Nat.reduceLT, Nat.reduceLeDiff, Nat.reduceEqDiff, Int.reduceEq, Int.reduceLT, Int.reduceLE, show hostN ([100, 105, 118] : List UInt8) = true from by kernel_rfl, eq_self]
  refine (lower_meets [65, 98] (by decide) H).ret ?_
  simp -dsimp -implicitDefEqProofs only [go_sem, T, Nat.reduceAdd, Nat.reduceSub, Nat.reduceMul, Nat.reduceLT, Nat.reduceLeDiff, Nat.reduceEqDiff, Int.reduceEq, Int.reduceLT, Int.reduceLE, show lowerL [65, 98] = [97, 98] from by kernel_rfl, eq_self]
  refine (valid_meets [97, 49] H).ret ?_
  simp -dsimp -implicitDefEqProofs only [go_sem, T, Nat.reduceAdd, Nat.reduceSub, Nat.reduceMul, Nat.reduceLT, Nat.reduceLeDiff, Nat.reduceEqDiff, Int.reduceEq, Int.reduceLT, Int.reduceLE, show validN ([97, 49] : List UInt8) = true from by kernel_rfl, eq_self]
  exact Fin.ret rfl rfl
end Go.Proofs.YtoajalcngklenaaDoor
