/-
  DERIVED. GIVEN WITH THE SEED: THE CARDS: each row of YtoajalcngklenaaDoorRows.lean that lists a variable, with what it lists TIED to the program's text (the seventh form; the later family's looks); each row that meets fmt, with fmt's text TOLD by the authors' own Lean function (tested against real Go, not proved from fmt's source: count such statements apart). THE CARD IS WHAT COUNTS. Prove the row's statement (the work); the ties are given (YtoajalcngklenaaDoorTie.lean); close each card by the builder's one call (the guide's Derived/Test/ToyasCard.lean, 'card_holds'). Laid BY PROGRAM, IN A SANDBOX (cutbox-door.mjs). By AI agents, Wed Nov 11 2026. No macro, syntax, notation, axiom, sorry.
-/
import Derived.Test.YtoajalcngklenaaDoorRows
import GoSem.ClaimSeven
namespace Go.Proofs.YtoajalcngklenaaDoor
namespace Rows

/-- THE TIED CARD OF 'portierelaw03.NamesBytes'. -/
def namesBytesCard : Claim7 := { stood := { row := namesBytesRow, standIns := [], harness := (true, "8c49c60855ce83d1e3a9d0a80ed8c899641c68cb23e9f1b2e7c6fbde650ee4a7"), looks := false }, kinds := [], alts := [], laidByText := true, laidKinds := [.listed, .data], laidTests := true, laidLooks := .later }
def NamesBytesCardSaid : Prop := Claim7.holds Tryd.pinned (.plain (OpenSpec.ofChange namesBytesSpec)) namesBytesCard

/-- THE TIED CARD OF 'portierelaw03.NamesKinds'. -/
def namesKindsCard : Claim7 := { stood := { row := namesKindsRow, standIns := [], harness := (true, "8c49c60855ce83d1e3a9d0a80ed8c899641c68cb23e9f1b2e7c6fbde650ee4a7"), looks := false }, kinds := [], alts := [], laidByText := true, laidKinds := [.listed, .data], laidTests := true, laidLooks := .later }
def NamesKindsCardSaid : Prop := Claim7.holds Tryd.pinned (.plain (OpenSpec.ofChange namesKindsSpec)) namesKindsCard

/-- THE TIED CARD OF 'portierelaw03.NamesRight'. -/
def namesRightCard : Claim7 := { stood := { row := namesRightRow, standIns := [], harness := (true, "8c49c60855ce83d1e3a9d0a80ed8c899641c68cb23e9f1b2e7c6fbde650ee4a7"), looks := false }, kinds := [], alts := [], laidByText := true, laidKinds := [.listed, .data], laidTests := true, laidLooks := .later }
def NamesRightCardSaid : Prop := Claim7.holds Tryd.pinned (.plain (OpenSpec.ofChange namesRightSpec)) namesRightCard

/-- THE TIED CARD OF 'portierelaw03.NamesLower'. -/
def namesLowerCard : Claim7 := { stood := { row := namesLowerRow, standIns := [], harness := (true, "8c49c60855ce83d1e3a9d0a80ed8c899641c68cb23e9f1b2e7c6fbde650ee4a7"), looks := false }, kinds := [], alts := [], laidByText := true, laidKinds := [.listed, .data], laidTests := true, laidLooks := .later }
def NamesLowerCardSaid : Prop := Claim7.holds Tryd.pinned (.plain (OpenSpec.ofChange namesLowerSpec)) namesLowerCard

/-- THE TIED CARD OF 'portierelaw03.NamesApart'. -/
def namesApartCard : Claim7 := { stood := { row := namesApartRow, standIns := [], harness := (true, "8c49c60855ce83d1e3a9d0a80ed8c899641c68cb23e9f1b2e7c6fbde650ee4a7"), looks := false }, kinds := [], alts := [], laidByText := true, laidKinds := [.listed, .data], laidTests := true, laidLooks := .later }
def NamesApartCardSaid : Prop := Claim7.holds Tryd.pinned (.plain (OpenSpec.ofChange namesApartSpec)) namesApartCard

/-- THE TIED CARD OF 'portierelaw03.NamesGrow'. -/
def namesGrowCard : Claim7 := { stood := { row := namesGrowRow, standIns := [], harness := (true, "8c49c60855ce83d1e3a9d0a80ed8c899641c68cb23e9f1b2e7c6fbde650ee4a7"), looks := false }, kinds := [], alts := [], laidByText := true, laidKinds := [.listed, .data], laidTests := true, laidLooks := .later }
def NamesGrowCardSaid : Prop := Claim7.holds Tryd.pinned (.plain (OpenSpec.ofChange namesGrowSpec)) namesGrowCard

/-- THE TIED CARD OF 'portierelaw03.NamesLetters'. -/
def namesLettersCard : Claim7 := { stood := { row := namesLettersRow, standIns := [], harness := (true, "8c49c60855ce83d1e3a9d0a80ed8c899641c68cb23e9f1b2e7c6fbde650ee4a7"), looks := false }, kinds := [], alts := [], laidByText := true, laidKinds := [.listed, .data], laidTests := true, laidLooks := .later }
def NamesLettersCardSaid : Prop := Claim7.holds Tryd.pinned (.plain (OpenSpec.ofChange namesLettersSpec)) namesLettersCard

/-- THE SECOND FORM's CARD OF 'portierelaw03.NamesBytes'. -/
def namesBytesUptoCard : Claim7 := { stood := { row := namesBytesUptoRow, standIns := [], harness := (true, "8c49c60855ce83d1e3a9d0a80ed8c899641c68cb23e9f1b2e7c6fbde650ee4a7"), looks := false }, kinds := [], alts := [], laidByText := true, laidKinds := [.listed, .data], laidTests := true, laidLooks := .later }
def NamesBytesUptoCardSaid : Prop := Claim7.holds Tryd.pinned (.plain (OpenSpec.upto namesBytesSpec)) namesBytesUptoCard

/-- THE SECOND FORM's CARD OF 'portierelaw03.NamesKinds'. -/
def namesKindsUptoCard : Claim7 := { stood := { row := namesKindsUptoRow, standIns := [], harness := (true, "8c49c60855ce83d1e3a9d0a80ed8c899641c68cb23e9f1b2e7c6fbde650ee4a7"), looks := false }, kinds := [], alts := [], laidByText := true, laidKinds := [.listed, .data], laidTests := true, laidLooks := .later }
def NamesKindsUptoCardSaid : Prop := Claim7.holds Tryd.pinned (.plain (OpenSpec.upto namesKindsSpec)) namesKindsUptoCard

/-- THE SECOND FORM's CARD OF 'portierelaw03.NamesRight'. -/
def namesRightUptoCard : Claim7 := { stood := { row := namesRightUptoRow, standIns := [], harness := (true, "8c49c60855ce83d1e3a9d0a80ed8c899641c68cb23e9f1b2e7c6fbde650ee4a7"), looks := false }, kinds := [], alts := [], laidByText := true, laidKinds := [.listed, .data], laidTests := true, laidLooks := .later }
def NamesRightUptoCardSaid : Prop := Claim7.holds Tryd.pinned (.plain (OpenSpec.upto namesRightSpec)) namesRightUptoCard

/-- THE SECOND FORM's CARD OF 'portierelaw03.NamesLower'. -/
def namesLowerUptoCard : Claim7 := { stood := { row := namesLowerUptoRow, standIns := [], harness := (true, "8c49c60855ce83d1e3a9d0a80ed8c899641c68cb23e9f1b2e7c6fbde650ee4a7"), looks := false }, kinds := [], alts := [], laidByText := true, laidKinds := [.listed, .data], laidTests := true, laidLooks := .later }
def NamesLowerUptoCardSaid : Prop := Claim7.holds Tryd.pinned (.plain (OpenSpec.upto namesLowerSpec)) namesLowerUptoCard

/-- THE SECOND FORM's CARD OF 'portierelaw03.NamesApart'. -/
def namesApartUptoCard : Claim7 := { stood := { row := namesApartUptoRow, standIns := [], harness := (true, "8c49c60855ce83d1e3a9d0a80ed8c899641c68cb23e9f1b2e7c6fbde650ee4a7"), looks := false }, kinds := [], alts := [], laidByText := true, laidKinds := [.listed, .data], laidTests := true, laidLooks := .later }
def NamesApartUptoCardSaid : Prop := Claim7.holds Tryd.pinned (.plain (OpenSpec.upto namesApartSpec)) namesApartUptoCard

/-- THE SECOND FORM's CARD OF 'portierelaw03.NamesGrow'. -/
def namesGrowUptoCard : Claim7 := { stood := { row := namesGrowUptoRow, standIns := [], harness := (true, "8c49c60855ce83d1e3a9d0a80ed8c899641c68cb23e9f1b2e7c6fbde650ee4a7"), looks := false }, kinds := [], alts := [], laidByText := true, laidKinds := [.listed, .data], laidTests := true, laidLooks := .later }
def NamesGrowUptoCardSaid : Prop := Claim7.holds Tryd.pinned (.plain (OpenSpec.upto namesGrowSpec)) namesGrowUptoCard

/-- THE SECOND FORM's CARD OF 'portierelaw03.NamesLetters'. -/
def namesLettersUptoCard : Claim7 := { stood := { row := namesLettersUptoRow, standIns := [], harness := (true, "8c49c60855ce83d1e3a9d0a80ed8c899641c68cb23e9f1b2e7c6fbde650ee4a7"), looks := false }, kinds := [], alts := [], laidByText := true, laidKinds := [.listed, .data], laidTests := true, laidLooks := .later }
def NamesLettersUptoCardSaid : Prop := Claim7.holds Tryd.pinned (.plain (OpenSpec.upto namesLettersSpec)) namesLettersUptoCard
end Rows
end Go.Proofs.YtoajalcngklenaaDoor
