/-
  DERIVED. GIVEN WITH THE SEED: THE CARDS: each row of YtdpjmfipgkblfaaGreatDoorRows.lean that lists a variable, with what it lists TIED to the program's text (the seventh form; the later family's looks); each row that meets fmt, with fmt's text TOLD by the authors' own Lean function (tested against real Go, not proved from fmt's source: count such statements apart). THE CARD IS WHAT COUNTS. Prove the row's statement (the work); the ties are given (YtdpjmfipgkblfaaGreatDoorTie.lean); close each card by the builder's one call (the guide's Derived/Test/ToyasCard.lean, 'card_holds'). Laid BY PROGRAM, IN A SANDBOX (cutbox-door.mjs). By AI agents, Wed Nov 11 2026. No macro, syntax, notation, axiom, sorry.
-/
import Derived.Test.YtdpjmfipgkblfaaGreatDoorRows
import GoSem.ClaimSeven
namespace Go.Proofs.YtdpjmfipgkblfaaGreatDoor
namespace Rows

/-- THE TIED CARD OF 'portierelaw07.TreeFront'. -/
def treeFrontCard : Claim7 := { stood := { row := treeFrontRow, standIns := [], harness := (true, "775b3986449709302117000f30d1d31c4d0f72f7d1ee2c7c5d85c11d32051c1c"), looks := false }, kinds := [], alts := [], laidByText := true, laidKinds := [.listed, .data], laidTests := true, laidLooks := .later }
def TreeFrontCardSaid : Prop := Claim7.holds Tryz.pinned (.plain (OpenSpec.ofChange treeFrontSpec)) treeFrontCard

/-- THE TIED CARD OF 'portierelaw07.TreeLists'. -/
def treeListsCard : Claim7 := { stood := { row := treeListsRow, standIns := [], harness := (true, "775b3986449709302117000f30d1d31c4d0f72f7d1ee2c7c5d85c11d32051c1c"), looks := false }, kinds := [], alts := [], laidByText := true, laidKinds := [.listed, .data], laidTests := true, laidLooks := .later }
def TreeListsCardSaid : Prop := Claim7.holds Tryz.pinned (.plain (OpenSpec.ofChange treeListsSpec)) treeListsCard

/-- THE TIED CARD OF 'portierelaw07.TreeAttrs'. -/
def treeAttrsCard : Claim7 := { stood := { row := treeAttrsRow, standIns := [], harness := (true, "775b3986449709302117000f30d1d31c4d0f72f7d1ee2c7c5d85c11d32051c1c"), looks := false }, kinds := [], alts := [], laidByText := true, laidKinds := [.listed, .data], laidTests := true, laidLooks := .later }
def TreeAttrsCardSaid : Prop := Claim7.holds Tryz.pinned (.plain (OpenSpec.ofChange treeAttrsSpec)) treeAttrsCard

/-- THE TIED CARD OF 'portierelaw07.TreeVoid'. -/
def treeVoidCard : Claim7 := { stood := { row := treeVoidRow, standIns := [], harness := (true, "775b3986449709302117000f30d1d31c4d0f72f7d1ee2c7c5d85c11d32051c1c"), looks := false }, kinds := [], alts := [], laidByText := true, laidKinds := [.listed, .data], laidTests := true, laidLooks := .later }
def TreeVoidCardSaid : Prop := Claim7.holds Tryz.pinned (.plain (OpenSpec.ofChange treeVoidSpec)) treeVoidCard

/-- THE TIED CARD OF 'portierelaw07.TreeTexts'. -/
def treeTextsCard : Claim7 := { stood := { row := treeTextsRow, standIns := [], harness := (true, "775b3986449709302117000f30d1d31c4d0f72f7d1ee2c7c5d85c11d32051c1c"), looks := false }, kinds := [], alts := [], laidByText := true, laidKinds := [.listed, .data], laidTests := true, laidLooks := .later }
def TreeTextsCardSaid : Prop := Claim7.holds Tryz.pinned (.plain (OpenSpec.ofChange treeTextsSpec)) treeTextsCard

/-- THE TIED CARD OF 'portierelaw07.TreeSounds'. -/
def treeSoundsCard : Claim7 := { stood := { row := treeSoundsRow, standIns := [], harness := (true, "775b3986449709302117000f30d1d31c4d0f72f7d1ee2c7c5d85c11d32051c1c"), looks := false }, kinds := [], alts := [], laidByText := true, laidKinds := [.listed, .data], laidTests := true, laidLooks := .later }
def TreeSoundsCardSaid : Prop := Claim7.holds Tryz.pinned (.plain (OpenSpec.ofChange treeSoundsSpec)) treeSoundsCard

/-- THE TIED CARD OF 'portierelaw07.TreeDeep'. -/
def treeDeepCard : Claim7 := { stood := { row := treeDeepRow, standIns := [], harness := (true, "775b3986449709302117000f30d1d31c4d0f72f7d1ee2c7c5d85c11d32051c1c"), looks := false }, kinds := [], alts := [], laidByText := true, laidKinds := [.listed, .data], laidTests := true, laidLooks := .later }
def TreeDeepCardSaid : Prop := Claim7.holds Tryz.pinned (.plain (OpenSpec.ofChange treeDeepSpec)) treeDeepCard

/-- THE TIED CARD OF 'portierelaw07.TreeEnds'. -/
def treeEndsCard : Claim7 := { stood := { row := treeEndsRow, standIns := [], harness := (true, "775b3986449709302117000f30d1d31c4d0f72f7d1ee2c7c5d85c11d32051c1c"), looks := false }, kinds := [], alts := [], laidByText := true, laidKinds := [.listed, .data], laidTests := true, laidLooks := .later }
def TreeEndsCardSaid : Prop := Claim7.holds Tryz.pinned (.plain (OpenSpec.ofChange treeEndsSpec)) treeEndsCard

/-- THE TIED CARD OF 'portierelaw07.TreeParagraphs'. -/
def treeParagraphsCard : Claim7 := { stood := { row := treeParagraphsRow, standIns := [], harness := (true, "775b3986449709302117000f30d1d31c4d0f72f7d1ee2c7c5d85c11d32051c1c"), looks := false }, kinds := [], alts := [], laidByText := true, laidKinds := [.listed, .data], laidTests := true, laidLooks := .later }
def TreeParagraphsCardSaid : Prop := Claim7.holds Tryz.pinned (.plain (OpenSpec.ofChange treeParagraphsSpec)) treeParagraphsCard

/-- THE TIED CARD OF 'portierelaw07.TreeHeads'. -/
def treeHeadsCard : Claim7 := { stood := { row := treeHeadsRow, standIns := [], harness := (true, "775b3986449709302117000f30d1d31c4d0f72f7d1ee2c7c5d85c11d32051c1c"), looks := false }, kinds := [], alts := [], laidByText := true, laidKinds := [.listed, .data], laidTests := true, laidLooks := .later }
def TreeHeadsCardSaid : Prop := Claim7.holds Tryz.pinned (.plain (OpenSpec.ofChange treeHeadsSpec)) treeHeadsCard

/-- THE SECOND FORM's CARD OF 'portierelaw07.TreeFront'. -/
def treeFrontUptoCard : Claim7 := { stood := { row := treeFrontUptoRow, standIns := [], harness := (true, "775b3986449709302117000f30d1d31c4d0f72f7d1ee2c7c5d85c11d32051c1c"), looks := false }, kinds := [], alts := [], laidByText := true, laidKinds := [.listed, .data], laidTests := true, laidLooks := .later }
def TreeFrontUptoCardSaid : Prop := Claim7.holds Tryz.pinned (.plain (OpenSpec.upto treeFrontSpec)) treeFrontUptoCard

/-- THE SECOND FORM's CARD OF 'portierelaw07.TreeLists'. -/
def treeListsUptoCard : Claim7 := { stood := { row := treeListsUptoRow, standIns := [], harness := (true, "775b3986449709302117000f30d1d31c4d0f72f7d1ee2c7c5d85c11d32051c1c"), looks := false }, kinds := [], alts := [], laidByText := true, laidKinds := [.listed, .data], laidTests := true, laidLooks := .later }
def TreeListsUptoCardSaid : Prop := Claim7.holds Tryz.pinned (.plain (OpenSpec.upto treeListsSpec)) treeListsUptoCard

/-- THE SECOND FORM's CARD OF 'portierelaw07.TreeAttrs'. -/
def treeAttrsUptoCard : Claim7 := { stood := { row := treeAttrsUptoRow, standIns := [], harness := (true, "775b3986449709302117000f30d1d31c4d0f72f7d1ee2c7c5d85c11d32051c1c"), looks := false }, kinds := [], alts := [], laidByText := true, laidKinds := [.listed, .data], laidTests := true, laidLooks := .later }
def TreeAttrsUptoCardSaid : Prop := Claim7.holds Tryz.pinned (.plain (OpenSpec.upto treeAttrsSpec)) treeAttrsUptoCard

/-- THE SECOND FORM's CARD OF 'portierelaw07.TreeVoid'. -/
def treeVoidUptoCard : Claim7 := { stood := { row := treeVoidUptoRow, standIns := [], harness := (true, "775b3986449709302117000f30d1d31c4d0f72f7d1ee2c7c5d85c11d32051c1c"), looks := false }, kinds := [], alts := [], laidByText := true, laidKinds := [.listed, .data], laidTests := true, laidLooks := .later }
def TreeVoidUptoCardSaid : Prop := Claim7.holds Tryz.pinned (.plain (OpenSpec.upto treeVoidSpec)) treeVoidUptoCard

/-- THE SECOND FORM's CARD OF 'portierelaw07.TreeTexts'. -/
def treeTextsUptoCard : Claim7 := { stood := { row := treeTextsUptoRow, standIns := [], harness := (true, "775b3986449709302117000f30d1d31c4d0f72f7d1ee2c7c5d85c11d32051c1c"), looks := false }, kinds := [], alts := [], laidByText := true, laidKinds := [.listed, .data], laidTests := true, laidLooks := .later }
def TreeTextsUptoCardSaid : Prop := Claim7.holds Tryz.pinned (.plain (OpenSpec.upto treeTextsSpec)) treeTextsUptoCard

/-- THE SECOND FORM's CARD OF 'portierelaw07.TreeSounds'. -/
def treeSoundsUptoCard : Claim7 := { stood := { row := treeSoundsUptoRow, standIns := [], harness := (true, "775b3986449709302117000f30d1d31c4d0f72f7d1ee2c7c5d85c11d32051c1c"), looks := false }, kinds := [], alts := [], laidByText := true, laidKinds := [.listed, .data], laidTests := true, laidLooks := .later }
def TreeSoundsUptoCardSaid : Prop := Claim7.holds Tryz.pinned (.plain (OpenSpec.upto treeSoundsSpec)) treeSoundsUptoCard

/-- THE SECOND FORM's CARD OF 'portierelaw07.TreeDeep'. -/
def treeDeepUptoCard : Claim7 := { stood := { row := treeDeepUptoRow, standIns := [], harness := (true, "775b3986449709302117000f30d1d31c4d0f72f7d1ee2c7c5d85c11d32051c1c"), looks := false }, kinds := [], alts := [], laidByText := true, laidKinds := [.listed, .data], laidTests := true, laidLooks := .later }
def TreeDeepUptoCardSaid : Prop := Claim7.holds Tryz.pinned (.plain (OpenSpec.upto treeDeepSpec)) treeDeepUptoCard

/-- THE SECOND FORM's CARD OF 'portierelaw07.TreeEnds'. -/
def treeEndsUptoCard : Claim7 := { stood := { row := treeEndsUptoRow, standIns := [], harness := (true, "775b3986449709302117000f30d1d31c4d0f72f7d1ee2c7c5d85c11d32051c1c"), looks := false }, kinds := [], alts := [], laidByText := true, laidKinds := [.listed, .data], laidTests := true, laidLooks := .later }
def TreeEndsUptoCardSaid : Prop := Claim7.holds Tryz.pinned (.plain (OpenSpec.upto treeEndsSpec)) treeEndsUptoCard

/-- THE SECOND FORM's CARD OF 'portierelaw07.TreeParagraphs'. -/
def treeParagraphsUptoCard : Claim7 := { stood := { row := treeParagraphsUptoRow, standIns := [], harness := (true, "775b3986449709302117000f30d1d31c4d0f72f7d1ee2c7c5d85c11d32051c1c"), looks := false }, kinds := [], alts := [], laidByText := true, laidKinds := [.listed, .data], laidTests := true, laidLooks := .later }
def TreeParagraphsUptoCardSaid : Prop := Claim7.holds Tryz.pinned (.plain (OpenSpec.upto treeParagraphsSpec)) treeParagraphsUptoCard

/-- THE SECOND FORM's CARD OF 'portierelaw07.TreeHeads'. -/
def treeHeadsUptoCard : Claim7 := { stood := { row := treeHeadsUptoRow, standIns := [], harness := (true, "775b3986449709302117000f30d1d31c4d0f72f7d1ee2c7c5d85c11d32051c1c"), looks := false }, kinds := [], alts := [], laidByText := true, laidKinds := [.listed, .data], laidTests := true, laidLooks := .later }
def TreeHeadsUptoCardSaid : Prop := Claim7.holds Tryz.pinned (.plain (OpenSpec.upto treeHeadsSpec)) treeHeadsUptoCard
end Rows
end Go.Proofs.YtdpjmfipgkblfaaGreatDoor
