/- The rows of layer 7: arguments that are lists of attributes, and of items. -/
import Derived.Test.YtdpjmfipgkblfaaGreatDoorSevenRow
import Derived.Test.YtdpjmfipgkblfaaGreatDoorVArgsB
set_option linter.unusedSimpArgs false
set_option linter.unusedVariables false
set_option maxRecDepth 100000
namespace Go.Proofs.YtdpjmfipgkblfaaGreatDoor
open Go Go.V Go.ChangeShapes Go.WideShapes Go.ChangeAt Go.RowKit
section
variable {H : Type} {enc : TypeId × Value → H} {W : World}
theorem cellsAttr : Tryz.prog.cellsOf 41 = 2 := by kernel_rfl
theorem cellsItem : Tryz.prog.cellsOf 38 = 5 := by kernel_rfl
theorem cellsStr : Tryz.prog.cellsOf 9 = 1 := by kernel_rfl
theorem cellsInt : Tryz.prog.cellsOf 3 = 1 := by kernel_rfl
theorem cellsAttrs : Tryz.prog.cellsOf 36 = 1 := by kernel_rfl
theorem att_says (cs : List Value) (m : Nat) (y : DataW H × List MemPlace) (hl : cs.length = 2) (h : DataW.trod enc Tryz.prog W 0 (fun _ => true) true m 41 cs = some y) : ∃ a : Att, Says W encAtt 2 cs a := by
  obtain ⟨u0, n0, z0, c0, t0⟩ := field_cell Tryz.underlying41 h (i := 0) (off := 0) rfl rfl cellsStr (by omega)
  obtain ⟨u1, n1, z1, c1, t1⟩ := field_cell Tryz.underlying41 h (i := 1) (off := 1) rfl rfl cellsStr (by omega)
  obtain ⟨s0, rfl⟩ := str_cell Tryz.underlying9 t0
  obtain ⟨s1, rfl⟩ := str_cell Tryz.underlying9 t1
  refine ⟨⟨s0, s1⟩, fun f hf => ?_⟩
  rcases (show f = 0 ∨ f = 1 by omega) with rfl | rfl
  · exact ⟨_, c0, rfl⟩
  · exact ⟨_, c1, rfl⟩
theorem atts_arg {b0 : Nat} {v : Value} {d : DataW H} {ps : List MemPlace} (hval : Value.okWide Tryz.prog W .any b0 36 v) (hd : DataW.Trod enc Tryz.prog W 0 (fun _ => true) true 36 v d ps) :
    ∃ l : List Att, l.length ≤ 9223372036854775807 ∧ (AV.c (encAtts l)).Is (gh0 W) W v :=
  lst_arg Tryz.underlying36 cellsAttr (by omega) hval hd att_says
theorem itm_says (cs : List Value) (m : Nat) (y : DataW H × List MemPlace) (hl : cs.length = 5) (h : DataW.trod enc Tryz.prog W 0 (fun _ => true) true m 38 cs = some y) : ∃ a : Itm, Says W encItm 5 cs a := by
  obtain ⟨u0, n0, z0, c0, t0⟩ := field_cell Tryz.underlying38 h (i := 0) (off := 0) rfl rfl cellsInt (by omega)
  obtain ⟨u1, n1, z1, c1, t1⟩ := field_cell Tryz.underlying38 h (i := 1) (off := 1) rfl rfl cellsU8 (by omega)
  obtain ⟨u2, n2, z2, c2, t2⟩ := field_cell Tryz.underlying38 h (i := 2) (off := 2) rfl rfl cellsStr (by omega)
  obtain ⟨u3, n3, z3, c3, t3⟩ := field_cell Tryz.underlying38 h (i := 3) (off := 3) rfl rfl cellsStr (by omega)
  obtain ⟨u4, n4, z4, c4, t4⟩ := field_cell Tryz.underlying38 h (i := 4) (off := 4) rfl rfl cellsAttrs (by omega)
  obtain ⟨k0, rfl, _⟩ := int_cell Tryz.underlying3 t0
  obtain ⟨k1, rfl, w1⟩ := int_cell Tryz.underlying5 t1
  obtain ⟨s2, rfl⟩ := str_cell Tryz.underlying9 t2
  obtain ⟨s3, rfl⟩ := str_cell Tryz.underlying9 t3
  obtain ⟨v4, hv4, l4, _, i4⟩ := lst_of_trod Tryz.underlying36 cellsAttr (by omega) t4 att_says
  obtain rfl : u4 = v4 := by simpa using hv4
  obtain ⟨k1, rfl, _⟩ := u8_of_wf w1
  refine ⟨⟨k0, k1, s2, s3, l4⟩, fun f hf => ?_⟩
  rcases (show f = 0 ∨ f = 1 ∨ f = 2 ∨ f = 3 ∨ f = 4 by omega) with rfl | rfl | rfl | rfl | rfl
  · exact ⟨_, c0, rfl⟩
  · exact ⟨_, c1, rfl⟩
  · exact ⟨_, c2, rfl⟩
  · exact ⟨_, c3, rfl⟩
  · exact ⟨_, c4, i4⟩
theorem itms_arg {b0 : Nat} {v : Value} {d : DataW H} {ps : List MemPlace} (hval : Value.okWide Tryz.prog W .any b0 28 v) (hd : DataW.Trod enc Tryz.prog W 0 (fun _ => true) true 28 v d ps) :
    ∃ l : List Itm, l.length ≤ 9223372036854775807 ∧ (AV.c (.lst 5 l.length (at2 (l.map encItm)))).Is (gh0 W) W v :=
  lst_arg Tryz.underlying28 cellsItem (by omega) hval hd itm_says
end
end Go.Proofs.YtdpjmfipgkblfaaGreatDoor
