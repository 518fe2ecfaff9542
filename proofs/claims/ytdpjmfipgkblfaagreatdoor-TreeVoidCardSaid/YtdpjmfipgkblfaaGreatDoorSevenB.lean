/- The statement TreeVoid, by V. -/
import Derived.Test.YtdpjmfipgkblfaaGreatDoorSevenU
set_option linter.unusedSimpArgs false
namespace Go.Proofs.YtdpjmfipgkblfaaGreatDoor
open Go Go.V
attribute [local irreducible] vc vcL vcP vcI vcO stOp Loops condP bx bx2 Meets Back

def voidNames : List (List UInt8) := [[97, 114, 101, 97], [98, 97, 115, 101], [98, 114], [99, 111, 108], [101, 109, 98, 101, 100], [105, 109, 103], [105, 110, 112, 117, 116], [108, 105, 110, 107], [109, 101, 116, 97], [115, 111, 117, 114, 99, 101], [116, 114, 97, 99, 107], [119, 98, 114]]
def voidToks (s t : List UInt8) : List Tok := [⟨1, s, [], false, [], 0⟩, ⟨3, [], [], false, t, 0⟩, ⟨2, s, [], false, [], 0⟩]
def voidItems (s t : List UInt8) : List Itm := [⟨0, 1, s, [], []⟩, ⟨0, 2, [], t, []⟩] ++ if s = [98, 114] then [⟨0, 1, s, [], []⟩] else []
theorem void_build (s t : List UInt8) (hs : s ∈ voidNames) (ht : t ≠ []) : (buildB (voidToks s t)).items = voidItems s t ∧ (buildB (voidToks s t)).faults = [⟨8, 0⟩] := by
  have h2 : ∀ b : Bd, tokB ⟨3, [], [], false, t, 0⟩ b = { b with at_ := 0, items := b.items ++ [⟨b.opn.length, 2, [], t, []⟩] } := fun b => by simp [tokB, ht, Bd.item]
  simp only [buildB, voidToks, List.foldl_cons, List.foldl_nil, h2]
  simp only [voidNames, List.mem_cons, List.not_mem_nil, or_false] at hs
  rcases hs with rfl | rfl | rfl | rfl | rfl | rfl | rfl | rfl | rfl | rfl | rfl | rfl <;> exact ⟨by kernel_rfl, by kernel_rfl⟩

attribute [local go_sem] a64 a64l a64r s64 s64l ite_min ite_max zlt_l zlt_r zle_l zle_r zeq len_eq byte_eq Nat.zero_le nth_set_ne List.forall_mem_cons all_nil isPl allSh_strs allNr_strs allSh_itm allNr_itm allSh_flt allNr_flt allSh_att allNr_att strs_length encAtts Nat.reduceAdd Nat.reduceSub Nat.reduceMul Nat.reduceLT Nat.reduceLeDiff Nat.reduceEqDiff Int.reduceEq Int.reduceLT Int.reduceLE
set_option maxRecDepth 20000 in
set_option maxHeartbeats 2000000 in
theorem treeVoid_meets (k : Nat) (hk : k < 256) (s : List UInt8) (H : List Ent) : Meets tE Tryz.prog 6 [.d (.int .u8 k), .d (.str s)] H (Ret (.d (.bool true)) H) := by
  have hm : ((k : Int)).tmod 12 = ((k % 12 : Nat) : Int) := by rw [Int.tmod_eq_emod_of_nonneg (by omega)]; omega
  have hcell := strs_get voidNames (k % 12) (by have : voidNames.length = 12 := rfl; omega)
  have hmem : voidNames.getD (k % 12) [] ∈ voidNames := by
    have hl : voidNames.length = 12 := rfl
    rw [List.getD, List.getElem?_eq_getElem (by omega)]
    exact List.getElem_mem _
  obtain ⟨nm, hnm⟩ : ∃ nm, voidNames.getD (k % 12) [] = nm := ⟨_, rfl⟩
  rw [hnm] at hcell hmem
  simp only [strs, voidNames, List.map_cons, List.map_nil] at hcell
  have hlt : (k % 12 : Nat) < 12 := by omega
  refine Meets.closed fun hc => ?_
  refine Meets.of_body mixed tok (plan := fun _ => .done) Tryz.func6 Tryz.call6 Tryz.ntmps6 Tryz.results6 rfl (by kernel_rfl) ?_
  simp -dsimp -implicitDefEqProofs (maxSteps := 2000000) (disch := first | omega | assumption | (simp only [go_sem] <;> first | omega | assumption | fail) | fail) only [go_sem]
  (refine condP_intro (fun h => ?_) (fun h => ?_) <;> (try simp only [Bool.and_eq_true, Bool.or_eq_true, Bool.not_eq_true', Bool.not_eq_false', Bool.or_eq_false_iff, Bool.and_eq_false_imp, decide_eq_true_eq, decide_eq_false_iff_not, Bool.not_eq_true, Bool.not_eq_false, Int.ofNat_lt, Int.ofNat_le] at h) <;> simp -dsimp -implicitDefEqProofs (maxSteps := 2000000) (disch := first | omega | assumption | (simp only [go_sem] <;> first | omega | assumption | fail) | fail) only [go_sem, h])
  · (refine condP_intro (fun h0 => ?_) (fun h0 => ?_) <;> (try simp only [Bool.and_eq_true, Bool.or_eq_true, Bool.not_eq_true', Bool.not_eq_false', Bool.or_eq_false_iff, Bool.and_eq_false_imp, decide_eq_true_eq, decide_eq_false_iff_not, Bool.not_eq_true, Bool.not_eq_false, Int.ofNat_lt, Int.ofNat_le] at h0) <;> simp -dsimp -implicitDefEqProofs (maxSteps := 2000000) (disch := first | omega | assumption | (simp only [go_sem] <;> first | omega | assumption | fail) | fail) only [go_sem, h0])
    · refine (known7_meets H).ret ?_
      simp -dsimp -implicitDefEqProofs (maxSteps := 2000000) (disch := first | omega | assumption | (simp only [go_sem] <;> first | omega | assumption | fail) | fail) only [go_sem, h0, hm, Int.toNat_natCast, hcell, hlt]
      refine Meets.frz (H.length + 1) ?_
      simp -dsimp -implicitDefEqProofs (maxSteps := 2000000) (disch := first | omega | assumption | (simp only [go_sem] <;> first | omega | assumption | fail) | fail) only [go_sem]
      refine ⟨fun _ => trivial, ?_⟩
      refine Meets.args (args' := [.c (.lst 6 3 (at2 ((voidToks nm s).map encTok)))]) ⟨nilToks_le (voidToks nm s) (by simp [voidToks]), trivial⟩ ?_
      have hvb := void_build nm s hmem h0
      have hb := tbuild_meets (voidToks nm s) (show 3 ≤ 100000 by omega) (by simp [voidToks]) (by unfold tooBig; rw [hvb.1]; by_cases hbr : nm = [98, 114] <;> simp [voidItems, hbr])
      rw [hvb.1, hvb.2] at hb
      refine (hb _).ret ?_
      have f0 : at2 [encFlt ⟨8, 0⟩] 0 0 = .int .u8 8 := rfl
      have i0 : ∀ l, at2 (encItm ⟨0, 1, nm, [], []⟩ :: l) 0 0 = .int .i64 0 := fun _ => rfl
      have i1 : ∀ l, at2 (encItm ⟨0, 1, nm, [], []⟩ :: encItm ⟨0, 2, [], s, []⟩ :: l) 1 0 = .int .i64 0 := fun _ => rfl
      have t0 : Int.toNat 0 = 0 := rfl
      have t1 : Int.toNat 1 = 1 := rfl
      have e1 : ((1 : Nat) : Int) = 1 := rfl
      have e2 : ((2 : Nat) : Int) = 2 := rfl
      have e3 : ((3 : Nat) : Int) = 3 := rfl
      by_cases hbr : nm = [98, 114]
      · subst hbr
        simp -dsimp -implicitDefEqProofs (maxSteps := 2000000) (disch := first | omega | assumption | (simp only [go_sem] <;> first | omega | assumption | fail) | fail) only [go_sem, voidItems, f0, i0, i1, t0, t1, e1, e2, e3]
        exact Fin.cut (Nat.le_refl _) hc ⟨rfl, rfl⟩
      · simp -dsimp -implicitDefEqProofs (maxSteps := 2000000) (disch := first | omega | assumption | (simp only [go_sem] <;> first | omega | assumption | fail) | fail) only [go_sem, voidItems, hbr, f0, i0, i1, t0, t1, e1, e2, e3]
        exact Fin.cut (Nat.le_refl _) hc ⟨rfl, rfl⟩
    · refine (known7_meets H).ret ?_
      simp -dsimp -implicitDefEqProofs (maxSteps := 2000000) (disch := first | omega | assumption | (simp only [go_sem] <;> first | omega | assumption | fail) | fail) only [go_sem]
      exact Fin.ret rfl rfl
  · refine (known7_meets H).ret ?_
    simp -dsimp -implicitDefEqProofs (maxSteps := 2000000) (disch := first | omega | assumption | (simp only [go_sem] <;> first | omega | assumption | fail) | fail) only [go_sem]
    exact Fin.ret rfl rfl
end Go.Proofs.YtdpjmfipgkblfaaGreatDoor
