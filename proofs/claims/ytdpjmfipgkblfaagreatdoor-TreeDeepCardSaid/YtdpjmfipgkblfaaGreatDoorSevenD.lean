/- The statement TreeDeep, by V. -/
import Derived.Test.YtdpjmfipgkblfaaGreatDoorSevenU
import Derived.Test.YtdpjmfipgkblfaaGreatDoorSevenP
set_option linter.unusedSimpArgs false
namespace Go.Proofs.YtdpjmfipgkblfaaGreatDoor
open Go Go.V
attribute [local irreducible] vc vcL vcP vcI vcO stOp Loops condP bx bx2 Meets Back

def nilRow (c : Nat) (l : List Tok) : Ent := .row 43 6 l.length c (at2 (l.map nilTok))
attribute [local go_sem] a64 a64l a64r s64 s64l ite_min ite_max zlt_l zlt_r zle_l zle_r zeq len_eq byte_eq Nat.zero_le nth_set_ne List.forall_mem_cons all_nil isPl allSh_nilT allNr_nilT allSh_strs allNr_strs allSh_itm allNr_itm allSh_flt allNr_flt allSh_att allNr_att strs_length encAtts z0 z1 y0 y1 Nat.reduceAdd Nat.reduceSub Nat.reduceMul Nat.reduceLT Nat.reduceLeDiff Nat.reduceEqDiff Int.reduceEq Int.reduceLT Int.reduceLE
set_option maxRecDepth 20000 in
set_option maxHeartbeats 2000000 in
theorem treeDeep_meets (k : Nat) (hk : k < 256) (m : Nat) (hm : m < 256) (H : List Ent) : Meets tE Tryz.prog 9 [.d (.int .u8 k), .d (.int .u8 m)] H (Ret (.d (.bool true)) H) := by
  have hm1 : ((m : Int)).tmod 5 = ((m % 5 : Nat) : Int) := by rw [Int.tmod_eq_emod_of_nonneg (by omega)]; omega
  have hk1 : ((k : Int)).tmod 150 = ((k % 150 : Nat) : Int) := by rw [Int.tmod_eq_emod_of_nonneg (by omega)]; omega
  have hlt : m % 5 < 5 := by omega
  have hmany : k % 150 < 150 := by omega
  obtain ⟨many, hmn⟩ : ∃ many, k % 150 = many := ⟨_, rfl⟩
  rw [hmn] at hk1 hmany
  have hw : IntKind.i64.wrap (many : Int) = many := wrap_small _ (by omega) (by omega)
  have hcell := strs_get deepNames (m % 5) (by have : deepNames.length = 5 := rfl; omega)
  have hmem : deepNames.getD (m % 5) [] ∈ deepNames := by
    have hl : deepNames.length = 5 := rfl
    rw [List.getD, List.getElem?_eq_getElem (by omega)]
    exact List.getElem_mem _
  obtain ⟨s, hs⟩ : ∃ s, deepNames.getD (m % 5) [] = s := ⟨_, rfl⟩
  rw [hs] at hcell hmem
  simp only [strs, deepNames, List.map_cons, List.map_nil] at hcell
  refine Meets.closed fun hc => ?_
  refine Meets.of_body mixed tok (plan := fun _ => .done) Tryz.func9 Tryz.call9 Tryz.ntmps9 Tryz.results9 rfl (by kernel_rfl) ?_
  simp -dsimp -implicitDefEqProofs (maxSteps := 2000000) (disch := first | omega | assumption | (simp only [go_sem] <;> first | omega | assumption | fail) | fail) only [go_sem, hm1, hk1, hw, Int.toNat_natCast, hcell, hlt]
  refine Loops.on (α := Nat × Nat) (fun q => q.1 ≤ many ∧ q.1 ≤ q.2) (fun q => many - q.1)
    (fun q => [(8, .d (.int .i64 q.1)), (7, .c (.sl (H.length + 1) 6 0 q.1 q.2))]) (fun q => H ++ [.row 9 1 5 5 (at2 (strs deepNames)), nilRow q.2 (List.replicate q.1 (startT s))]) (0, 0) ⟨Nat.zero_le _, Nat.le_refl _⟩ ?_ ?_
  · refine Goes.mv (HMv.nil _ _ 43 6 (at2 [])) (Goes.slots ?_ ?_)
    · simp -dsimp -implicitDefEqProofs (maxSteps := 2000000) (disch := first | omega | assumption | (simp only [go_sem] <;> first | omega | assumption | fail) | fail) only [go_sem]
      exact AvLe_nil _ _ _ _ _
    · simp [nilRow, strs, deepNames]
  rintro ⟨i, c⟩ ⟨hi, hic⟩
  simp only at hi hic
  simp -dsimp -implicitDefEqProofs (maxSteps := 2000000) (disch := first | omega | assumption | (simp only [go_sem] <;> first | omega | assumption | fail) | fail) only [go_sem, hw]
  refine condP_intro (fun h => ?_) (fun h => ?_) <;> simp only [decide_eq_true_eq, decide_eq_false_iff_not] at h
  · simp -dsimp -implicitDefEqProofs (maxSteps := 2000000) (disch := first | omega | assumption | (simp only [go_sem] <;> first | omega | assumption | fail) | fail) only [go_sem, h, nilRow, List.length_replicate]
    (repeat (refine ⟨by first | omega | assumption | trivial | (simp only [List.length_take, List.length_map, List.length_append, List.length_cons, List.length_nil, List.length_drop]; omega), ?_⟩))
    intro c' hc'
    rw [appCell_at2 i _ _ (by simp)]
    refine Back.rnA (N := H.length) [H.length, H.length + 3] rfl (Nat.le_refl _) hc (by simp [rnOk, rnOk.rnFresh]) (by simp -dsimp -implicitDefEqProofs (maxSteps := 2000000) (disch := first | omega | assumption | (simp only [go_sem] <;> first | omega | assumption | fail) | fail) only [go_sem]) ?_
    simp -dsimp -implicitDefEqProofs (maxSteps := 2000000) (disch := first | omega | assumption | (simp only [go_sem] <;> first | omega | assumption | fail) | fail) only [go_sem]
    exact Back.mk (i + 1, c') ⟨⟨h, hc'⟩, by simp only; omega⟩ (Goes.slots (by simp -dsimp -implicitDefEqProofs (maxSteps := 2000000) (disch := first | omega | assumption | (simp only [go_sem] <;> first | omega | assumption | fail) | fail) only [go_sem]) (by simp [nilRow, List.replicate_succ', startT, nilTok]))
  · simp -dsimp -implicitDefEqProofs (maxSteps := 2000000) (disch := first | omega | assumption | (simp only [go_sem] <;> first | omega | assumption | fail) | fail) only [go_sem, h, nilRow, List.length_replicate]
    (repeat (refine ⟨by first | omega | assumption | trivial | (simp only [List.length_take, List.length_map, List.length_append, List.length_cons, List.length_nil, List.length_drop]; omega), ?_⟩))
    intro c' hc'
    obtain rfl : i = many := by omega
    rw [appCell_at2 i _ _ (by simp)]
    refine Meets.frz (H.length + 3) ?_
    simp -dsimp -implicitDefEqProofs (maxSteps := 2000000) (disch := first | omega | assumption | (simp only [go_sem] <;> first | omega | assumption | fail) | fail) only [go_sem]
    refine ⟨fun _ => hc', ?_⟩
    have e : List.map nilTok (List.replicate i (startT s)) ++ [[CV.int .u8 3, .str [], .nil 41 2, .bool false, .str [120], .int .i64 0]] = (deepToks s i).map nilTok := by simp [deepToks, textT, nilTok]
    have hl : (deepToks s i).length = i + 1 := by simp [deepToks]
    rw [e]
    rw [subCell_all (i + 1) _ (by rw [List.length_map]; exact hl)]
    have ha : ∀ t ∈ deepToks s i, t.attrs = [] := fun t ht => by
      simp only [deepToks, List.mem_append, List.mem_replicate, List.mem_singleton] at ht
      rcases ht with ⟨_, rfl⟩ | rfl <;> rfl
    have hle := nilToks_le (deepToks s i) ha
    rw [hl] at hle
    refine Meets.args (args' := [.c (.lst 6 (i + 1) (at2 ((deepToks s i).map encTok)))]) ⟨hle, trivial⟩ ?_
    have hb := deep_build s hmem i
    have hbl : (buildB (deepToks s i)).items.length = i + 1 := by rw [hb.1]; simp [deepItems_len]
    have hm := tbuild_meets (deepToks s i) (by omega) (fun t ht => by rw [ha t ht]; exact ⟨by simp, fun a h => by cases h⟩) (by
      unfold tooBig
      rw [hb.1]
      simp [deepItems]
      omega)
    rw [hl, hb.2, hbl] at hm
    refine (hm _).ret ?_
    have hget := deep_get s i
    rw [← hb.1] at hget
    obtain ⟨its, hits⟩ : ∃ its, (buildB (deepToks s i)).items = its := ⟨_, rfl⟩
    rw [hits] at hget hbl ⊢
    simp -dsimp -implicitDefEqProofs (maxSteps := 2000000) (disch := first | omega | assumption | (simp only [go_sem] <;> first | omega | assumption | fail) | fail) only [go_sem]
    refine Loops.on (α := Nat) (fun j => j ≤ i + 1) (fun j => i + 1 - j) (fun j => [(12, .d (.int .i64 j))])
      (fun _ => H ++ [.row 9 1 5 5 (at2 (strs deepNames)), .dead, .row 43 6 1 1 (at2 [[CV.int .u8 3, .str [], .nil 41 2, .bool false, .str [120], .int .i64 0]]), .dead]) 0 (Nat.zero_le _) ?_ ?_
    · exact Goes.slots (by simp -dsimp -implicitDefEqProofs (maxSteps := 2000000) (disch := first | omega | assumption | (simp only [go_sem] <;> first | omega | assumption | fail) | fail) only [go_sem]) rfl
    rintro j hj
    simp -dsimp -implicitDefEqProofs (maxSteps := 2000000) (disch := first | omega | assumption | (simp only [go_sem] <;> first | omega | assumption | fail) | fail) only [go_sem]
    refine condP_intro (fun h2 => ?_) (fun h2 => ?_) <;> simp only [decide_eq_true_eq, decide_eq_false_iff_not] at h2
    · have g0 := at2_map encItm its j 0 (by omega)
      have hd := hget j h2
      simp only [encItm, List.getD_cons_zero] at g0
      rw [hd] at g0
      simp -dsimp -implicitDefEqProofs (maxSteps := 2000000) (disch := first | omega | assumption | (simp only [go_sem] <;> first | omega | assumption | fail) | fail) only [go_sem, h2, g0]
      (refine condP_intro (fun h3 => ?_) (fun h3 => ?_) <;> (try simp only [Bool.and_eq_true, Bool.or_eq_true, Bool.not_eq_true', Bool.not_eq_false', Bool.or_eq_false_iff, Bool.and_eq_false_imp, decide_eq_true_eq, decide_eq_false_iff_not, Bool.not_eq_true, Bool.not_eq_false, Int.ofNat_lt, Int.ofNat_le] at h3) <;> simp -dsimp -implicitDefEqProofs (maxSteps := 2000000) (disch := first | omega | assumption | (simp only [go_sem] <;> first | omega | assumption | fail) | fail) only [go_sem, h3])
      · exact absurd (by split <;> omega) h3
      · exact Back.mk (j + 1) ⟨h2, by omega⟩ (Goes.slots (by simp -dsimp -implicitDefEqProofs (maxSteps := 2000000) (disch := first | omega | assumption | (simp only [go_sem] <;> first | omega | assumption | fail) | fail) only [go_sem]) rfl)
    · simp -dsimp -implicitDefEqProofs (maxSteps := 2000000) (disch := first | omega | assumption | (simp only [go_sem] <;> first | omega | assumption | fail) | fail) only [go_sem, h2]
      refine (known7_meets _).ret ?_
      simp -dsimp -implicitDefEqProofs (maxSteps := 2000000) (disch := first | omega | assumption | (simp only [go_sem] <;> first | omega | assumption | fail) | fail) only [go_sem]
      exact Fin.cut (Nat.le_refl _) hc ⟨rfl, rfl⟩
end Go.Proofs.YtdpjmfipgkblfaaGreatDoor
