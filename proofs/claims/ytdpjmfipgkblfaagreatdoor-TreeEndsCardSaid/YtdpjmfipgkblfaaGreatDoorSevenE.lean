/- The statement TreeEnds, by V. -/
import Derived.Test.YtdpjmfipgkblfaaGreatDoorSevenU
import Derived.Test.YtdpjmfipgkblfaaGreatDoorSevenP
set_option linter.unusedSimpArgs false
namespace Go.Proofs.YtdpjmfipgkblfaaGreatDoor
open Go Go.V
attribute [local irreducible] vc vcL vcP vcI vcO stOp Loops condP bx bx2 Meets Back

def nilRowE (c : Nat) (l : List Tok) : Ent := .row 43 6 l.length c (at2 (l.map nilTok))
theorem endToks_len (d : List UInt8) : ∀ l : List UInt8, (endToks d l).length = 3 * l.length
  | [] => rfl
  | k :: l => by
    have := endToks_len d l
    simp only [endToks, List.flatMap_cons, List.length_append, List.length_cons, List.length_nil] at this ⊢
    omega
theorem endToks_take (d l : List UInt8) (i : Nat) (h : i < l.length) : endToks d (l.take (i + 1)) = endToks d (l.take i) ++ [startT (endN (l.getD i 0)), textT d, endT (endN (l.getD i 0))] := by
  rw [show l.take (i + 1) = l.take i ++ [l.getD i 0] by rw [List.take_add_one]; simp [List.getD, h]]
  simp [endToks, List.flatMap_append]
theorem endToks_attrs (d l : List UInt8) : ∀ t ∈ endToks d l, t.attrs = [] := by
  intro t ht
  simp only [endToks, List.mem_flatMap, List.mem_cons, List.not_mem_nil, or_false] at ht
  obtain ⟨_, _, rfl | rfl | rfl⟩ := ht <;> rfl
theorem endItems_atts (d l : List UInt8) : ((endItems d l).any fun x => decide (50 < x.attrs.length)) = false := by
  rw [List.any_eq_false]
  intro x hx
  simp only [endItems, List.mem_flatMap, List.mem_cons, List.not_mem_nil, or_false] at hx
  obtain ⟨_, _, rfl | rfl⟩ := hx <;> simp
attribute [local go_sem] a64 a64l a64r s64 s64l ite_min ite_max zlt_l zlt_r zle_l zle_r zeq len_eq byte_eq Nat.zero_le nth_set_ne List.forall_mem_cons all_nil isPl allSh_nilT allNr_nilT allSh_strs allNr_strs allSh_itm allNr_itm allSh_flt allNr_flt allSh_att allNr_att strs_length encAtts z0 z1 y0 y1 Nat.reduceAdd Nat.reduceSub Nat.reduceMul Nat.reduceLT Nat.reduceLeDiff Nat.reduceEqDiff Int.reduceEq Int.reduceLT Int.reduceLE
set_option maxRecDepth 20000 in
set_option maxHeartbeats 2000000 in
theorem treeEnds_meets (l d : List UInt8) (H : List Ent) : Meets tE Tryz.prog 10 [.c (.lst 1 l.length (byteCell l)), .d (.str d)] H (Ret (.d (.bool true)) H) := by
  refine Meets.closed fun hc => ?_
  refine Meets.of_body mixed tok (plan := fun _ => .done) Tryz.func10 Tryz.call10 Tryz.ntmps10 Tryz.results10 rfl (by kernel_rfl) ?_
  simp -dsimp -implicitDefEqProofs (maxSteps := 2000000) (disch := first | omega | assumption | (simp only [go_sem] <;> first | omega | assumption | fail) | fail) only [go_sem]
  (refine condP_intro (fun h => ?_) (fun h => ?_) <;> (try simp only [Bool.and_eq_true, Bool.or_eq_true, Bool.not_eq_true', Bool.not_eq_false', Bool.or_eq_false_iff, Bool.and_eq_false_imp, decide_eq_true_eq, decide_eq_false_iff_not, Bool.not_eq_true, Bool.not_eq_false, Int.ofNat_lt, Int.ofNat_le] at h) <;> simp -dsimp -implicitDefEqProofs (maxSteps := 2000000) (disch := first | omega | assumption | (simp only [go_sem] <;> first | omega | assumption | fail) | fail) only [go_sem, h])
  · (refine condP_intro (fun h0 => ?_) (fun h0 => ?_) <;> (try simp only [Bool.and_eq_true, Bool.or_eq_true, Bool.not_eq_true', Bool.not_eq_false', Bool.or_eq_false_iff, Bool.and_eq_false_imp, decide_eq_true_eq, decide_eq_false_iff_not, Bool.not_eq_true, Bool.not_eq_false, Int.ofNat_lt, Int.ofNat_le] at h0) <;> simp -dsimp -implicitDefEqProofs (maxSteps := 2000000) (disch := first | omega | assumption | (simp only [go_sem] <;> first | omega | assumption | fail) | fail) only [go_sem, h0])
    · (refine condP_intro (fun h1 => ?_) (fun h1 => ?_) <;> (try simp only [Bool.and_eq_true, Bool.or_eq_true, Bool.not_eq_true', Bool.not_eq_false', Bool.or_eq_false_iff, Bool.and_eq_false_imp, decide_eq_true_eq, decide_eq_false_iff_not, Bool.not_eq_true, Bool.not_eq_false, Int.ofNat_lt, Int.ofNat_le] at h1) <;> simp -dsimp -implicitDefEqProofs (maxSteps := 2000000) (disch := first | omega | assumption | (simp only [go_sem] <;> first | omega | assumption | fail) | fail) only [go_sem, h1])
      · refine (known7_meets H).ret ?_
        simp -dsimp -implicitDefEqProofs (maxSteps := 2000000) (disch := first | omega | assumption | (simp only [go_sem] <;> first | omega | assumption | fail) | fail) only [go_sem, h1]
        refine Loops.on (α := Nat × Nat) (fun q => q.1 ≤ l.length ∧ 3 * q.1 ≤ q.2) (fun q => l.length - q.1)
          (fun q => [(6, .d (.int .i64 q.1)), (5, .c (.sl H.length 6 0 (3 * q.1) q.2))]) (fun q => H ++ [nilRowE q.2 (endToks d (l.take q.1))]) (0, 0) ⟨Nat.zero_le _, Nat.le_refl _⟩ ?_ ?_
        · refine Goes.mv (HMv.nil _ _ 43 6 (at2 [])) (Goes.slots ?_ ?_)
          · simp -dsimp -implicitDefEqProofs (maxSteps := 2000000) (disch := first | omega | assumption | (simp only [go_sem] <;> first | omega | assumption | fail) | fail) only [go_sem]
            exact AvLe_nil _ _ _ _ _
          · simp [nilRowE, endToks]
        rintro ⟨i, c⟩ ⟨hi, hic⟩
        simp only at hi hic
        have hlen : (endToks d (l.take i)).length = 3 * i := by rw [endToks_len, List.length_take]; omega
        simp -dsimp -implicitDefEqProofs (maxSteps := 2000000) (disch := first | omega | assumption | (simp only [go_sem] <;> first | omega | assumption | fail) | fail) only [go_sem]
        refine condP_intro (fun h2 => ?_) (fun h2 => ?_) <;> simp only [decide_eq_true_eq, decide_eq_false_iff_not] at h2
        · have hb := byteCell_get l i h2
          have hst := endToks_take d l i h2
          obtain ⟨x, hx⟩ : ∃ x, l.getD i 0 = x := ⟨_, rfl⟩
          rw [hx] at hb hst
          have hm1 : ((x.toNat : Int)).tmod 9 = ((x.toNat % 9 : Nat) : Int) := by rw [Int.tmod_eq_emod_of_nonneg (by omega)]; omega
          have hlt : x.toNat % 9 < 9 := by omega
          have hcell := strs_get endNames (x.toNat % 9) (by have : endNames.length = 9 := rfl; omega)
          rw [show endNames.getD (x.toNat % 9) [] = endN x from rfl] at hcell
          simp only [strs, endNames, List.map_cons, List.map_nil] at hcell
          simp -dsimp -implicitDefEqProofs (maxSteps := 2000000) (disch := first | omega | assumption | (simp only [go_sem] <;> first | omega | assumption | fail) | fail) only [go_sem, h2, hb, hm1, Int.toNat_natCast, hcell, hlt, nilRowE, hlen]
          (repeat (refine ⟨by first | omega | assumption | trivial | (simp only [List.length_take, List.length_map, List.length_append, List.length_cons, List.length_nil, List.length_drop]; omega), ?_⟩))
          intro c' hc'
          refine Back.rnA (N := H.length) [H.length + 3] rfl (Nat.le_refl _) hc (by simp [rnOk, rnOk.rnFresh]) (by simp -dsimp -implicitDefEqProofs (maxSteps := 2000000) (disch := first | omega | assumption | (simp only [go_sem] <;> first | omega | assumption | fail) | fail) only [go_sem]) ?_
          simp -dsimp -implicitDefEqProofs (maxSteps := 2000000) (disch := first | omega | assumption | (simp only [go_sem] <;> first | omega | assumption | fail) | fail) only [go_sem]
          exact Back.mk (i + 1, c') ⟨⟨h2, by simp only; omega⟩, by simp only; omega⟩ (Goes.slots (by simp -dsimp -implicitDefEqProofs (maxSteps := 2000000) (disch := first | omega | assumption | (simp only [go_sem] <;> first | omega | assumption | fail) | fail) only [go_sem]; exact .same (by rw [show 3 * (i + 1) = 3 * i + 3 by omega])) (by rw [nilRowE, hst]; simp [nilTok, startT, textT, endT, hlen]))
        · obtain rfl : i = l.length := by omega
          rw [List.take_length] at hlen ⊢
          simp -dsimp -implicitDefEqProofs (maxSteps := 2000000) (disch := first | omega | assumption | (simp only [go_sem] <;> first | omega | assumption | fail) | fail) only [go_sem, h2, nilRowE, hlen]
          refine Meets.frz H.length ?_
          simp -dsimp -implicitDefEqProofs (maxSteps := 2000000) (disch := first | omega | assumption | (simp only [go_sem] <;> first | omega | assumption | fail) | fail) only [go_sem, nilRowE, hlen]
          refine ⟨fun _ => hic, ?_⟩
          have hle := nilToks_le (endToks d l) (endToks_attrs d l)
          rw [hlen] at hle
          refine Meets.args (args' := [.c (.lst 6 (3 * l.length) (at2 ((endToks d l).map encTok)))]) ⟨hle, trivial⟩ ?_
          have hb := end_build d h1 l
          have hbl : (buildB (endToks d l)).items.length = 2 * l.length := by rw [hb.1, endItems_len]
          have hm := tbuild_meets (endToks d l) (by omega) (fun t ht => by rw [endToks_attrs d l t ht]; exact ⟨by simp, fun a h => by cases h⟩) (by
            unfold tooBig
            rw [hbl, hb.1, endItems_atts, Bool.or_false]
            exact decide_eq_false (by omega))
          rw [hlen, hb.2, hbl] at hm
          refine (hm _).ret ?_
          have hget := end_get d l
          rw [← hb.1] at hget
          obtain ⟨its, hits⟩ : ∃ its, (buildB (endToks d l)).items = its := ⟨_, rfl⟩
          rw [hits] at hget hbl ⊢
          have hmul : (((2 * l.length : Nat) : Int) = mulw .i64 2 (l.length : Int)) = True := eq_true (by
            unfold mulw
            rw [wrap_small _ (by omega) (by omega)]
            omega)
          simp -dsimp -implicitDefEqProofs (maxSteps := 2000000) (disch := first | omega | assumption | (simp only [go_sem] <;> first | omega | assumption | fail) | fail) only [go_sem, hmul]
          refine Loops.on (α := Nat) (fun j => j ≤ 2 * l.length) (fun j => 2 * l.length - j) (fun j => [(11, .d (.int .i64 j))])
            (fun _ => H ++ [.dead]) 0 (Nat.zero_le _) ?_ ?_
          · exact Goes.slots (by simp -dsimp -implicitDefEqProofs (maxSteps := 2000000) (disch := first | omega | assumption | (simp only [go_sem] <;> first | omega | assumption | fail) | fail) only [go_sem]) rfl
          rintro j hj
          simp -dsimp -implicitDefEqProofs (maxSteps := 2000000) (disch := first | omega | assumption | (simp only [go_sem] <;> first | omega | assumption | fail) | fail) only [go_sem]
          refine condP_intro (fun h3 => ?_) (fun h3 => ?_) <;> simp only [decide_eq_true_eq, decide_eq_false_iff_not] at h3
          · have g0 := at2_map encItm its j 0 (by omega)
            have g1 := at2_map encItm its j 1 (by omega)
            obtain ⟨hd, hk⟩ := hget j h3
            simp only [encItm, List.getD_cons_zero, List.getD_cons_succ] at g0 g1
            rw [hd] at g0
            rw [hk] at g1
            have hm2 : ((j : Int)).tmod 2 = ((j % 2 : Nat) : Int) := by rw [Int.tmod_eq_emod_of_nonneg (by omega)]; omega
            simp -dsimp -implicitDefEqProofs (maxSteps := 2000000) (disch := first | omega | assumption | (simp only [go_sem] <;> first | omega | assumption | fail) | fail) only [go_sem, h3, g0, g1, hm2]
            rw [show (decide (((1 + j % 2 : Nat) : Int) = 2) == decide (((j % 2 : Nat) : Int) = 1)) = true by rcases Nat.mod_two_eq_zero_or_one j with h | h <;> rw [h] <;> rfl]
            simp -dsimp -implicitDefEqProofs (maxSteps := 2000000) (disch := first | omega | assumption | (simp only [go_sem] <;> first | omega | assumption | fail) | fail) only [go_sem]
            exact Back.mk (j + 1) ⟨h3, by omega⟩ (Goes.slots (by simp -dsimp -implicitDefEqProofs (maxSteps := 2000000) (disch := first | omega | assumption | (simp only [go_sem] <;> first | omega | assumption | fail) | fail) only [go_sem]) rfl)
          · simp -dsimp -implicitDefEqProofs (maxSteps := 2000000) (disch := first | omega | assumption | (simp only [go_sem] <;> first | omega | assumption | fail) | fail) only [go_sem, h3]
            exact Fin.cut (Nat.le_refl _) hc ⟨rfl, rfl⟩
      · refine (known7_meets H).ret ?_
        simp -dsimp -implicitDefEqProofs (maxSteps := 2000000) (disch := first | omega | assumption | (simp only [go_sem] <;> first | omega | assumption | fail) | fail) only [go_sem]
        exact Fin.ret rfl rfl
    · refine (known7_meets H).ret ?_
      simp -dsimp -implicitDefEqProofs (maxSteps := 2000000) (disch := first | omega | assumption | (simp only [go_sem] <;> first | omega | assumption | fail) | fail) only [go_sem]
      exact Fin.ret rfl rfl
  · refine (known7_meets H).ret ?_
    simp -dsimp -implicitDefEqProofs (maxSteps := 2000000) (disch := first | omega | assumption | (simp only [go_sem] <;> first | omega | assumption | fail) | fail) only [go_sem]
    exact Fin.ret rfl rfl
end Go.Proofs.YtdpjmfipgkblfaaGreatDoor
