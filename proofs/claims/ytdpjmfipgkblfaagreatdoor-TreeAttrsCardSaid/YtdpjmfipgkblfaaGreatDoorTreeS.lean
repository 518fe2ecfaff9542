/- Contracts of package tree, by V: what a start ends. -/
import Derived.Test.YtdpjmfipgkblfaaGreatDoorTreeQ
set_option linter.unusedSimpArgs false
namespace Go.Proofs.YtdpjmfipgkblfaaGreatDoor
open Go Go.V
attribute [local irreducible] vc vcL vcP vcI vcO stOp Loops condP bx bx2 Meets Back
section
variable {b : Bd} {H : List Ent} {n : Nat}

theorem pop_eq (b : Bd) : b.end_ ((b.opn.length - 1 : Nat) : Int) = b.pop := by simp [Bd.end_, Bd.pop]
theorem nearF_le (is stop : List UInt8 → Bool) (l : List (List UInt8)) : ∀ k : Nat, -1 ≤ nearF is stop l k ∧ nearF is stop l k < k
  | 0 => by simp [nearF]
  | k + 1 => by
    have := nearF_le is stop l k
    unfold nearF
    split
    · omega
    split
    · omega
    · omega
theorem nearR_le (is stop : List (List UInt8)) (l : List (List UInt8)) : nearR is stop l ≤ l.length := by
  have := nearF_le (fun x => is.contains x) (fun x => stop.contains x) l l.length
  unfold nearR
  omega
structure BdIn (b : Bd) : Prop where
  opn : b.opn.length ≤ 100
  items : b.items.length < 100000000
  faults : b.faults.length < 100000000
theorem end_len (k : Int) (b : Bd) : (b.end_ k).opn.length ≤ b.opn.length ∧ (b.end_ k).items = b.items ∧ (b.end_ k).faults = b.faults ∧ (b.end_ k).at_ = b.at_ := by
  unfold Bd.end_
  split
  · refine ⟨by simp; omega, rfl, rfl, rfl⟩
  · exact ⟨Nat.le_refl _, rfl, rfl, rfl⟩
theorem BdOk.end_ {b : Bd} (h : BdOk b) (k : Int) : BdOk (b.end_ k) := by
  obtain ⟨h1, h2, h3, _⟩ := end_len k b
  exact ⟨Nat.le_trans h1 h.opn, by rw [h2]; exact h.items, by rw [h3]; exact h.faults⟩
theorem BdIn.ok {b : Bd} (h : BdIn b) : BdOk b := ⟨h.opn, by have := h.items; omega, by have := h.faults; omega⟩
theorem w_li : w "li" = [108, 105] := by kernel_rfl
theorem w_dd : w "dd" = [100, 100] := by kernel_rfl
theorem w_dt : w "dt" = [100, 116] := by kernel_rfl
theorem w_dl : w "dl" = [100, 108] := by kernel_rfl
theorem w_ul : w "ul" = [117, 108] := by kernel_rfl
theorem w_ol : w "ol" = [111, 108] := by kernel_rfl
theorem w_p : w "p" = [112] := by kernel_rfl
theorem w_a : w "a" = [97] := by kernel_rfl
theorem w_br : w "br" = [98, 114] := by kernel_rfl
theorem w_button : w "button" = [98, 117, 116, 116, 111, 110] := by kernel_rfl
theorem w_template : w "template" = [116, 101, 109, 112, 108, 97, 116, 101] := by kernel_rfl
theorem w_option : w "option" = [111, 112, 116, 105, 111, 110] := by kernel_rfl
theorem w_optgroup : w "optgroup" = [111, 112, 116, 103, 114, 111, 117, 112] := by kernel_rfl
theorem bounds_eq : boundsL = [[116, 101, 109, 112, 108, 97, 116, 101], [98, 117, 116, 116, 111, 110], [111, 98, 106, 101, 99, 116]] := by kernel_rfl

theorem fe_li (b : Bd) : firstEnd [108, 105] b = b.end_ (nearR [[108, 105]] (boundsL ++ [[117, 108], [111, 108]]) b.opn) := by
  unfold firstEnd
  rw [w_li, if_pos rfl, w_ul, w_ol]
theorem fe_d (b : Bd) (name : List UInt8) (h0 : ¬ name = [108, 105]) (h : name = [100, 100] ∨ name = [100, 116]) : firstEnd name b = b.end_ (nearR [[100, 100], [100, 116]] (boundsL ++ [[100, 108]]) b.opn) := by
  unfold firstEnd
  rw [w_li, w_dd, w_dt, if_neg h0, if_pos h, w_dl]
theorem fe_option (b : Bd) : firstEnd [111, 112, 116, 105, 111, 110] b = if b.top [[111, 112, 116, 105, 111, 110]] then b.pop else b := by
  unfold firstEnd
  rw [w_li, w_dd, w_dt, w_option, if_neg (by decide), if_neg (by decide), if_pos rfl]
theorem fe_optgroup (b : Bd) : firstEnd [111, 112, 116, 103, 114, 111, 117, 112] b = if (if b.top [[111, 112, 116, 105, 111, 110]] then b.pop else b).top [[111, 112, 116, 103, 114, 111, 117, 112]] then (if b.top [[111, 112, 116, 105, 111, 110]] then b.pop else b).pop else (if b.top [[111, 112, 116, 105, 111, 110]] then b.pop else b) := by
  unfold firstEnd
  rw [w_li, w_dd, w_dt, w_option, w_optgroup, if_neg (by decide), if_neg (by decide), if_neg (by decide), if_pos rfl]
theorem fe_head (b : Bd) (name : List UInt8) (h1 : ¬ name = [108, 105]) (h2 : ¬ (name = [100, 100] ∨ name = [100, 116])) (h3 : ¬ name = [111, 112, 116, 105, 111, 110]) (h4 : ¬ name = [111, 112, 116, 103, 114, 111, 117, 112]) (h5 : headsL.contains name = true) :
    firstEnd name b = if b.top headsL then b.pop.fault 9 else b := by
  unfold firstEnd
  rw [w_li, w_dd, w_dt, w_option, w_optgroup, if_neg h1, if_neg h2, if_neg h3, if_neg h4, if_pos h5]
theorem fe_a (b : Bd) (name : List UInt8) (h1 : ¬ name = [108, 105]) (h2 : ¬ (name = [100, 100] ∨ name = [100, 116])) (h3 : ¬ name = [111, 112, 116, 105, 111, 110]) (h4 : ¬ name = [111, 112, 116, 103, 114, 111, 117, 112]) (h5 : headsL.contains name = false) (h6 : name = [97] ∨ name = [98, 117, 116, 116, 111, 110]) :
    firstEnd name b = if 0 ≤ nearR [name] [[116, 101, 109, 112, 108, 97, 116, 101]] b.opn then (b.end_ (nearR [name] [[116, 101, 109, 112, 108, 97, 116, 101]] b.opn)).fault 9 else b := by
  unfold firstEnd
  rw [w_li, w_dd, w_dt, w_option, w_optgroup, w_a, w_button, w_template, if_neg h1, if_neg h2, if_neg h3, if_neg h4, if_neg (by rw [h5]; simp), if_pos h6]
theorem fe_else (b : Bd) (name : List UInt8) (h1 : ¬ name = [108, 105]) (h2 : ¬ (name = [100, 100] ∨ name = [100, 116])) (h3 : ¬ name = [111, 112, 116, 105, 111, 110]) (h4 : ¬ name = [111, 112, 116, 103, 114, 111, 117, 112]) (h5 : headsL.contains name = false) (h6 : ¬ (name = [97] ∨ name = [98, 117, 116, 116, 111, 110])) :
    firstEnd name b = b := by
  unfold firstEnd
  rw [w_li, w_dd, w_dt, w_option, w_optgroup, w_a, w_button, if_neg h1, if_neg h2, if_neg h3, if_neg h4, if_neg (by rw [h5]; simp), if_neg h6]
theorem BdOk.popIf {b : Bd} (h : BdOk b) (c : Bool) : BdOk (if c then b.pop else b) := by
  split
  · exact ⟨by have := h.opn; simp only [Bd.pop, List.length_take]; omega, h.items, h.faults⟩
  · exact h
theorem BdIn.popIf {b : Bd} (h : BdIn b) (c : Bool) : BdIn (if c then b.pop else b) := by
  split
  · exact ⟨by have := h.opn; simp only [Bd.pop, List.length_take]; omega, h.items, h.faults⟩
  · exact h
theorem BdIn.fltIf {b : Bd} (h : BdIn b) (c : Bool) (k : Nat) : BdOk (if c then b.fault k else b) := by
  obtain ⟨h1, h2, h3⟩ := h
  split
  · exact ⟨h1, by simp only [Bd.fault]; omega, by simp only [Bd.fault, List.length_append, List.length_cons, List.length_nil]; omega⟩
  · exact ⟨h1, by omega, by omega⟩
theorem BdIn.end_ {b : Bd} (h : BdIn b) (k : Int) : BdIn (b.end_ k) := by
  obtain ⟨h1, h2, h3, _⟩ := end_len k b
  exact ⟨Nat.le_trans h1 h.opn, by rw [h2]; exact h.items, by rw [h3]; exact h.faults⟩
theorem first_item (b : Bd) (name : List UInt8) (b1 : Bd) (h : firstEnd name b = b1) (hi : itemN name = true) : firstR name b = b1.end_ (nearR [[112]] boundsL b1.opn) := by
  simp only [firstR, h, w_p, hi, Bool.or_true, if_true]
theorem first_no (b : Bd) (name : List UInt8) (b1 : Bd) (h : firstEnd name b = b1) (h1 : ¬ name = [108, 105]) (h2 : ¬ (name = [100, 100] ∨ name = [100, 116])) : firstR name b = if blocks.contains name then b1.end_ (nearR [[112]] boundsL b1.opn) else b1 := by
  have hi : itemN name = false := by
    unfold itemN
    rw [w_li, w_dd, w_dt, Bool.eq_false_iff, ne_eq, List.contains_iff_mem]
    simp only [List.mem_cons, List.not_mem_nil, or_false]
    rintro (h | h | h)
    · exact h1 h
    · exact h2 (.inl h)
    · exact h2 (.inr h)
  simp only [firstR, h, w_p, hi, Bool.or_false]
attribute [local go_sem] a64 a64l a64r s64 s64l ite_min ite_max zlt_l zlt_r zle_l zle_r zeq len_eq byte_eq Nat.zero_le nth_set_ne List.forall_mem_cons all_nil isPl allSh_strs allNr_strs allSh_itm allNr_itm allSh_flt allNr_flt allSh_att allNr_att strs_length bBox strs_length Bd.top Nat.reduceAdd Nat.reduceSub Nat.reduceMul Nat.reduceLT Nat.reduceLeDiff Nat.reduceEqDiff Int.reduceEq Int.reduceLT Int.reduceLE
set_option maxRecDepth 20000 in
theorem tpop_meets {g : Nat} {caps : List Nat} {is : List UInt8 → Bool} (hn : nth H n = bBox b) (hb : BdOk b) (hf : IsFn H n g caps is) :
    Meets tE Tryz.prog 99 [.c (.ptr n 0 0), .c (.fn g caps)] H
      (Ret (.d (.bool (decide (0 < b.opn.length) && is (b.opn.getD (b.opn.length - 1) [])))) (setn H n (bBox (if decide (0 < b.opn.length) && is (b.opn.getD (b.opn.length - 1) []) then b.pop else b)))) := by
  have hlt := bd_lt hn
  obtain ⟨hb1, hb2, hb3⟩ := hb
  refine Meets.closed fun hc => ?_
  refine Meets.of_body mixed tok (plan := fun _ => .done) Tryz.func99 Tryz.call99 Tryz.ntmps99 Tryz.results99 rfl (by kernel_rfl) ?_
  simp -dsimp -implicitDefEqProofs (maxSteps := 2000000) (disch := first | omega | assumption | (simp only [go_sem] <;> first | omega | assumption | fail) | fail) only [go_sem, hn]
  intro c hcap
  (refine condP_intro (fun h => ?_) (fun h => ?_) <;> (try simp only [Bool.and_eq_true, Bool.or_eq_true, Bool.not_eq_true', Bool.not_eq_false', Bool.or_eq_false_iff, Bool.and_eq_false_imp, decide_eq_true_eq, decide_eq_false_iff_not, Bool.not_eq_true, Bool.not_eq_false, Int.ofNat_lt, Int.ofNat_le] at h) <;> simp -dsimp -implicitDefEqProofs (maxSteps := 2000000) (disch := first | omega | assumption | (simp only [go_sem] <;> first | omega | assumption | fail) | fail) only [go_sem, h])
  · refine Meets.pack n ?_
    simp -dsimp -implicitDefEqProofs (maxSteps := 2000000) (disch := first | omega | assumption | (simp only [go_sem] <;> first | omega | assumption | fail) | fail) only [go_sem]
    (repeat (refine ⟨by first | omega | assumption | trivial | (simp only [List.length_take, List.length_map, List.length_append, List.length_cons, List.length_nil, List.length_drop]; omega), ?_⟩))
    refine Meets.heq (H' := setn H n (bBox b) ++ [.dead]) rfl (Meets.ret (ttop_meets tE (by simp -dsimp -implicitDefEqProofs (maxSteps := 2000000) (disch := first | omega | assumption | (simp only [go_sem] <;> first | omega | assumption | fail) | fail) only [go_sem]) ⟨hb1, hb2, hb3⟩ h) ?_)
    simp -dsimp -implicitDefEqProofs (maxSteps := 2000000) (disch := first | omega | assumption | (simp only [go_sem] <;> first | omega | assumption | fail) | fail) only [go_sem]
    refine (hf _ (setn H n (bBox b) ++ [.dead]) (((Grown.refl n H).set _).app _)).ret ?_
    simp -dsimp -implicitDefEqProofs (maxSteps := 2000000) (disch := first | omega | assumption | (simp only [go_sem] <;> first | omega | assumption | fail) | fail) only [go_sem]
    (refine condP_intro (fun h2 => ?_) (fun h2 => ?_) <;> (try simp only [Bool.and_eq_true, Bool.or_eq_true, Bool.not_eq_true', Bool.not_eq_false', Bool.or_eq_false_iff, Bool.and_eq_false_imp, decide_eq_true_eq, decide_eq_false_iff_not, Bool.not_eq_true, Bool.not_eq_false, Int.ofNat_lt, Int.ofNat_le] at h2) <;> simp -dsimp -implicitDefEqProofs (maxSteps := 2000000) (disch := first | omega | assumption | (simp only [go_sem] <;> first | omega | assumption | fail) | fail) only [go_sem, h2])
    · intro c1 hc1
      refine Meets.pack n ?_
      simp -dsimp -implicitDefEqProofs (maxSteps := 2000000) (disch := first | omega | assumption | (simp only [go_sem] <;> first | omega | assumption | fail) | fail) only [go_sem]
      (repeat (refine ⟨by first | omega | assumption | trivial | (simp only [List.length_take, List.length_map, List.length_append, List.length_cons, List.length_nil, List.length_drop]; omega), ?_⟩))
      have he := tend_meets tE (b := b) (H := setn H n (bBox b) ++ [.dead, .dead]) (n := n) (by simp -dsimp -implicitDefEqProofs (maxSteps := 2000000) (disch := first | omega | assumption | (simp only [go_sem] <;> first | omega | assumption | fail) | fail) only [go_sem]) ⟨hb1, hb2, hb3⟩ ((b.opn.length - 1 : Nat) : Int) (by omega)
      rw [pop_eq] at he
      refine Meets.heq (H' := setn H n (bBox b) ++ [.dead, .dead]) rfl (Meets.ret he ?_)
      simp -dsimp -implicitDefEqProofs (maxSteps := 2000000) (disch := first | omega | assumption | (simp only [go_sem] <;> first | omega | assumption | fail) | fail) only [go_sem]
      have hcond : (decide (0 < b.opn.length) && is (b.opn.getD (b.opn.length - 1) [])) = true := by rw [decide_eq_true h, h2]; rfl
      exact cutSet hc (below_box (by simp -dsimp -implicitDefEqProofs (maxSteps := 2000000) (disch := first | omega | assumption | (simp only [go_sem] <;> first | omega | assumption | fail) | fail) only [go_sem])) ⟨bool_av hcond.symm, by rw [hcond] <;> rfl⟩
    · exact cutSet hc (below_box (by simp -dsimp -implicitDefEqProofs (maxSteps := 2000000) (disch := first | omega | assumption | (simp only [go_sem] <;> first | omega | assumption | fail) | fail) only [go_sem])) ⟨rfl, rfl⟩
  · refine Fin.pack n ?_
    simp -dsimp -implicitDefEqProofs (maxSteps := 2000000) (disch := first | omega | assumption | (simp only [go_sem] <;> first | omega | assumption | fail) | fail) only [go_sem]
    (repeat (refine ⟨by first | omega | assumption | trivial | (simp only [List.length_take, List.length_map, List.length_append, List.length_cons, List.length_nil, List.length_drop]; omega), ?_⟩))
    exact cutSet hc (below_box (by simp -dsimp -implicitDefEqProofs (maxSteps := 2000000) (disch := first | omega | assumption | (simp only [go_sem] <;> first | omega | assumption | fail) | fail) only [go_sem])) ⟨rfl, rfl⟩
-- FIRST
set_option maxRecDepth 20000 in
set_option maxHeartbeats 8000000 in
theorem tfirst_meets (hn : nth H n = bBox b) (hb : BdIn b) (name : List UInt8) :
    Meets tE Tryz.prog 69 [.c (.ptr n 0 0), .d (.str name)] H (Ret (.tup []) (setn H n (bBox (firstR name b)))) := by
  have hlt := bd_lt hn
  have hbo := hb.ok
  refine Meets.closed fun hc => ?_
  refine Meets.of_body mixed tok (plan := (fun | 3 => (.take 0 (.take 1 (.take 2 (.take 3 (.take 4 (.take 5 (.fork 6 (.fork 7 (.one 8 (.one 9 (.one 10 (.one 11 .done)))) (.fork 8 (.one 7 (.one 9 (.one 10 (.one 11 .done)))) .nil)) (.fork 8 (.one 6 (.one 7 (.one 9 (.one 10 (.one 11 .done))))) .nil)))))))) | 7 => (.take 0 (.take 1 (.take 2 (.take 3 (.take 4 (.take 5 (.fork 6 (.fork 7 (.one 8 (.one 9 (.one 10 (.one 11 .done)))) (.fork 8 (.one 7 (.one 9 (.one 10 (.one 11 .done)))) .nil)) (.fork 8 (.one 6 (.one 7 (.one 9 (.one 10 (.one 11 .done))))) .nil)))))))) | 9 => (.take 0 (.take 1 (.take 2 (.one 3 (.one 4 (.one 5 .done)))))) | 11 => (.take 0 (.take 1 (.take 2 (.one 3 (.one 4 (.one 5 .done)))))) | 12 => (.take 0 (.take 1 (.take 2 (.one 3 (.one 4 (.one 5 .done)))))) | 17 => (.take 0 (.take 1 (.take 2 (.take 3 (.take 4 (.take 5 (.take 6 (.take 7 (.fork 8 (.fork 9 (.one 10 (.one 11 (.one 12 (.one 13 .done)))) (.fork 10 (.one 9 (.one 11 (.one 12 (.one 13 .done)))) .nil)) (.fork 10 (.one 8 (.one 9 (.one 11 (.one 12 (.one 13 .done))))) .nil)))))))))) | 19 => (.take 0 (.take 1 (.take 2 (.take 3 (.take 4 (.take 5 (.one 6 (.one 7 (.one 8 (.one 9 (.one 10 .done))))))))))) | _ => .done)) Tryz.func69 Tryz.call69 Tryz.ntmps69 Tryz.results69 rfl (by kernel_rfl) ?_
  simp -dsimp -implicitDefEqProofs (maxSteps := 2000000) (disch := first | omega | assumption | (simp only [go_sem] <;> first | omega | assumption | fail) | fail) only [go_sem, hn]
  (refine condP_intro (fun h1 => ?_) (fun h1 => ?_) <;> (try simp only [Bool.and_eq_true, Bool.or_eq_true, Bool.not_eq_true', Bool.not_eq_false', Bool.or_eq_false_iff, Bool.and_eq_false_imp, decide_eq_true_eq, decide_eq_false_iff_not, Bool.not_eq_true, Bool.not_eq_false, Int.ofNat_lt, Int.ofNat_le] at h1) <;> simp -dsimp -implicitDefEqProofs (maxSteps := 2000000) (disch := first | omega | assumption | (simp only [go_sem] <;> first | omega | assumption | fail) | fail) only [go_sem, h1])
  · subst h1
    have hfe := fe_li b
    rw [bounds_eq] at hfe
    repeat' (first
      | refine And.intro ?_ ?_
      | (refine (tone_meets tE _ _ _ _).ret ?_; simp -dsimp -implicitDefEqProofs (maxSteps := 2000000) (disch := first | omega | assumption | (simp only [go_sem] <;> first | omega | assumption | fail) | fail) only [go_sem])
      | (refine (tbounds_meets tE _ _ _ _ _ ([[117, 108], [111, 108]] : List (List UInt8)) rfl (by decide) (by simp -dsimp -implicitDefEqProofs (maxSteps := 2000000) (disch := first | omega | assumption | (simp only [go_sem] <;> first | omega | assumption | fail) | fail) only [go_sem]; rfl)).mono ?_; rintro _ _ ⟨c', hc', rfl, rfl⟩; simp -dsimp -implicitDefEqProofs (maxSteps := 2000000) (disch := first | omega | assumption | (simp only [go_sem] <;> first | omega | assumption | fail) | fail) only [go_sem, bounds_eq])
      | (refine (tnearOne_meets (b := b) (n := n) (ns := ([[108, 105]] : List (List UInt8))) (ws := ([[116, 101, 109, 112, 108, 97, 116, 101], [98, 117, 116, 116, 111, 110], [111, 98, 106, 101, 99, 116], [117, 108], [111, 108]] : List (List UInt8))) (by simp -dsimp -implicitDefEqProofs (maxSteps := 2000000) (disch := first | omega | assumption | (simp only [go_sem] <;> first | omega | assumption | fail) | fail) only [go_sem, hn] <;> rfl) hbo ⟨_, _, _, _, _, (by simp -dsimp -implicitDefEqProofs (maxSteps := 2000000) (disch := first | omega | assumption | (simp only [go_sem] <;> first | omega | assumption | fail) | fail) only [go_sem]; rfl), (by simp -dsimp -implicitDefEqProofs (maxSteps := 2000000) (disch := first | omega | assumption | (simp only [go_sem] <;> first | omega | assumption | fail) | fail) only [go_sem]; rfl), by decide, fun i hi => strs_get ([[108, 105]] : List (List UInt8)) i hi⟩ (by simp -dsimp -implicitDefEqProofs (maxSteps := 2000000) (disch := first | omega | assumption | (simp only [go_sem] <;> first | omega | assumption | fail) | fail) only [go_sem]; rfl) (by decide) (fun i hi => strs_get ([[116, 101, 109, 112, 108, 97, 116, 101], [98, 117, 116, 116, 111, 110], [111, 98, 106, 101, 99, 116], [117, 108], [111, 108]] : List (List UInt8)) i hi)).ret ?_; simp -dsimp -implicitDefEqProofs (maxSteps := 2000000) (disch := first | omega | assumption | (simp only [go_sem] <;> first | omega | assumption | fail) | fail) only [go_sem]))
    all_goals
      refine (tend_meets tE (b := b) (n := n) (by simp -dsimp -implicitDefEqProofs (maxSteps := 2000000) (disch := first | omega | assumption | (simp only [go_sem] <;> first | omega | assumption | fail) | fail) only [go_sem, hn] <;> rfl) hbo _ (nearR_le _ _ _)).ret ?_
      simp -dsimp -implicitDefEqProofs (maxSteps := 2000000) (disch := first | omega | assumption | (simp only [go_sem] <;> first | omega | assumption | fail) | fail) only [go_sem]
    all_goals
      have hres := first_item b _ _ (hfe) (by decide)
      rw [bounds_eq] at hres
      repeat' (first
        | refine And.intro ?_ ?_
        | (refine (tone_meets tE _ _ _ _).ret ?_; simp -dsimp -implicitDefEqProofs (maxSteps := 2000000) (disch := first | omega | assumption | (simp only [go_sem] <;> first | omega | assumption | fail) | fail) only [go_sem])
        | (refine (tbounds0_meets tE _ _ _).mono ?_; rintro _ _ ⟨c', hc', rfl, rfl⟩; simp -dsimp -implicitDefEqProofs (maxSteps := 2000000) (disch := first | omega | assumption | (simp only [go_sem] <;> first | omega | assumption | fail) | fail) only [go_sem, bounds_eq])
        | (refine (tnearOne_meets (b := (b.end_ (nearR [[108, 105]] ([[116, 101, 109, 112, 108, 97, 116, 101], [98, 117, 116, 116, 111, 110], [111, 98, 106, 101, 99, 116], [117, 108], [111, 108]] : List (List UInt8)) b.opn))) (n := n) (ns := ([[112]] : List (List UInt8))) (ws := ([[116, 101, 109, 112, 108, 97, 116, 101], [98, 117, 116, 116, 111, 110], [111, 98, 106, 101, 99, 116]] : List (List UInt8))) (by simp -dsimp -implicitDefEqProofs (maxSteps := 2000000) (disch := first | omega | assumption | (simp only [go_sem] <;> first | omega | assumption | fail) | fail) only [go_sem, hn] <;> rfl) (hbo.end_ _) ⟨_, _, _, _, _, (by simp -dsimp -implicitDefEqProofs (maxSteps := 2000000) (disch := first | omega | assumption | (simp only [go_sem] <;> first | omega | assumption | fail) | fail) only [go_sem]; rfl), (by simp -dsimp -implicitDefEqProofs (maxSteps := 2000000) (disch := first | omega | assumption | (simp only [go_sem] <;> first | omega | assumption | fail) | fail) only [go_sem]; rfl), by decide, fun i hi => strs_get ([[112]] : List (List UInt8)) i hi⟩ (by simp -dsimp -implicitDefEqProofs (maxSteps := 2000000) (disch := first | omega | assumption | (simp only [go_sem] <;> first | omega | assumption | fail) | fail) only [go_sem]; rfl) (by decide) (fun i hi => strs_get ([[116, 101, 109, 112, 108, 97, 116, 101], [98, 117, 116, 116, 111, 110], [111, 98, 106, 101, 99, 116]] : List (List UInt8)) i hi)).ret ?_; simp -dsimp -implicitDefEqProofs (maxSteps := 2000000) (disch := first | omega | assumption | (simp only [go_sem] <;> first | omega | assumption | fail) | fail) only [go_sem]))
      all_goals
        refine (tend_meets tE (b := (b.end_ (nearR [[108, 105]] ([[116, 101, 109, 112, 108, 97, 116, 101], [98, 117, 116, 116, 111, 110], [111, 98, 106, 101, 99, 116], [117, 108], [111, 108]] : List (List UInt8)) b.opn))) (n := n) (by simp -dsimp -implicitDefEqProofs (maxSteps := 2000000) (disch := first | omega | assumption | (simp only [go_sem] <;> first | omega | assumption | fail) | fail) only [go_sem, hn] <;> rfl) (hbo.end_ _) _ (nearR_le _ _ _)).ret ?_
        simp -dsimp -implicitDefEqProofs (maxSteps := 2000000) (disch := first | omega | assumption | (simp only [go_sem] <;> first | omega | assumption | fail) | fail) only [go_sem]
      all_goals first | exact cutSet hc (below_box (by simp -dsimp -implicitDefEqProofs (maxSteps := 2000000) (disch := first | omega | assumption | (simp only [go_sem] <;> first | omega | assumption | fail) | fail) only [go_sem])) ⟨rfl, by rw [hres] <;> rfl⟩ | exact Fin.now ⟨rfl, by rw [hres] <;> rfl⟩
  (refine condP_intro (fun h2 => ?_) (fun h2 => ?_) <;> (try simp only [Bool.and_eq_true, Bool.or_eq_true, Bool.not_eq_true', Bool.not_eq_false', Bool.or_eq_false_iff, Bool.and_eq_false_imp, decide_eq_true_eq, decide_eq_false_iff_not, Bool.not_eq_true, Bool.not_eq_false, Int.ofNat_lt, Int.ofNat_le] at h2) <;> simp -dsimp -implicitDefEqProofs (maxSteps := 2000000) (disch := first | omega | assumption | (simp only [go_sem] <;> first | omega | assumption | fail) | fail) only [go_sem, h2])
  · subst h2
    have hfe := fe_d b [100, 100] (by decide) (by decide)
    rw [bounds_eq] at hfe
    repeat' (first
      | refine And.intro ?_ ?_
      | (refine (tone_meets tE _ _ _ _).ret ?_; simp -dsimp -implicitDefEqProofs (maxSteps := 2000000) (disch := first | omega | assumption | (simp only [go_sem] <;> first | omega | assumption | fail) | fail) only [go_sem])
      | (refine (tbounds_meets tE _ _ _ _ _ ([[100, 108]] : List (List UInt8)) rfl (by decide) (by simp -dsimp -implicitDefEqProofs (maxSteps := 2000000) (disch := first | omega | assumption | (simp only [go_sem] <;> first | omega | assumption | fail) | fail) only [go_sem]; rfl)).mono ?_; rintro _ _ ⟨c', hc', rfl, rfl⟩; simp -dsimp -implicitDefEqProofs (maxSteps := 2000000) (disch := first | omega | assumption | (simp only [go_sem] <;> first | omega | assumption | fail) | fail) only [go_sem, bounds_eq])
      | (refine (tnearOne_meets (b := b) (n := n) (ns := ([[100, 100], [100, 116]] : List (List UInt8))) (ws := ([[116, 101, 109, 112, 108, 97, 116, 101], [98, 117, 116, 116, 111, 110], [111, 98, 106, 101, 99, 116], [100, 108]] : List (List UInt8))) (by simp -dsimp -implicitDefEqProofs (maxSteps := 2000000) (disch := first | omega | assumption | (simp only [go_sem] <;> first | omega | assumption | fail) | fail) only [go_sem, hn] <;> rfl) hbo ⟨_, _, _, _, _, (by simp -dsimp -implicitDefEqProofs (maxSteps := 2000000) (disch := first | omega | assumption | (simp only [go_sem] <;> first | omega | assumption | fail) | fail) only [go_sem]; rfl), (by simp -dsimp -implicitDefEqProofs (maxSteps := 2000000) (disch := first | omega | assumption | (simp only [go_sem] <;> first | omega | assumption | fail) | fail) only [go_sem]; rfl), by decide, fun i hi => strs_get ([[100, 100], [100, 116]] : List (List UInt8)) i hi⟩ (by simp -dsimp -implicitDefEqProofs (maxSteps := 2000000) (disch := first | omega | assumption | (simp only [go_sem] <;> first | omega | assumption | fail) | fail) only [go_sem]; rfl) (by decide) (fun i hi => strs_get ([[116, 101, 109, 112, 108, 97, 116, 101], [98, 117, 116, 116, 111, 110], [111, 98, 106, 101, 99, 116], [100, 108]] : List (List UInt8)) i hi)).ret ?_; simp -dsimp -implicitDefEqProofs (maxSteps := 2000000) (disch := first | omega | assumption | (simp only [go_sem] <;> first | omega | assumption | fail) | fail) only [go_sem]))
    all_goals
      refine (tend_meets tE (b := b) (n := n) (by simp -dsimp -implicitDefEqProofs (maxSteps := 2000000) (disch := first | omega | assumption | (simp only [go_sem] <;> first | omega | assumption | fail) | fail) only [go_sem, hn] <;> rfl) hbo _ (nearR_le _ _ _)).ret ?_
      simp -dsimp -implicitDefEqProofs (maxSteps := 2000000) (disch := first | omega | assumption | (simp only [go_sem] <;> first | omega | assumption | fail) | fail) only [go_sem]
    all_goals
      have hres := first_item b _ _ (hfe) (by decide)
      rw [bounds_eq] at hres
      repeat' (first
        | refine And.intro ?_ ?_
        | (refine (tone_meets tE _ _ _ _).ret ?_; simp -dsimp -implicitDefEqProofs (maxSteps := 2000000) (disch := first | omega | assumption | (simp only [go_sem] <;> first | omega | assumption | fail) | fail) only [go_sem])
        | (refine (tbounds0_meets tE _ _ _).mono ?_; rintro _ _ ⟨c', hc', rfl, rfl⟩; simp -dsimp -implicitDefEqProofs (maxSteps := 2000000) (disch := first | omega | assumption | (simp only [go_sem] <;> first | omega | assumption | fail) | fail) only [go_sem, bounds_eq])
        | (refine (tnearOne_meets (b := (b.end_ (nearR [[100, 100], [100, 116]] ([[116, 101, 109, 112, 108, 97, 116, 101], [98, 117, 116, 116, 111, 110], [111, 98, 106, 101, 99, 116], [100, 108]] : List (List UInt8)) b.opn))) (n := n) (ns := ([[112]] : List (List UInt8))) (ws := ([[116, 101, 109, 112, 108, 97, 116, 101], [98, 117, 116, 116, 111, 110], [111, 98, 106, 101, 99, 116]] : List (List UInt8))) (by simp -dsimp -implicitDefEqProofs (maxSteps := 2000000) (disch := first | omega | assumption | (simp only [go_sem] <;> first | omega | assumption | fail) | fail) only [go_sem, hn] <;> rfl) (hbo.end_ _) ⟨_, _, _, _, _, (by simp -dsimp -implicitDefEqProofs (maxSteps := 2000000) (disch := first | omega | assumption | (simp only [go_sem] <;> first | omega | assumption | fail) | fail) only [go_sem]; rfl), (by simp -dsimp -implicitDefEqProofs (maxSteps := 2000000) (disch := first | omega | assumption | (simp only [go_sem] <;> first | omega | assumption | fail) | fail) only [go_sem]; rfl), by decide, fun i hi => strs_get ([[112]] : List (List UInt8)) i hi⟩ (by simp -dsimp -implicitDefEqProofs (maxSteps := 2000000) (disch := first | omega | assumption | (simp only [go_sem] <;> first | omega | assumption | fail) | fail) only [go_sem]; rfl) (by decide) (fun i hi => strs_get ([[116, 101, 109, 112, 108, 97, 116, 101], [98, 117, 116, 116, 111, 110], [111, 98, 106, 101, 99, 116]] : List (List UInt8)) i hi)).ret ?_; simp -dsimp -implicitDefEqProofs (maxSteps := 2000000) (disch := first | omega | assumption | (simp only [go_sem] <;> first | omega | assumption | fail) | fail) only [go_sem]))
      all_goals
        refine (tend_meets tE (b := (b.end_ (nearR [[100, 100], [100, 116]] ([[116, 101, 109, 112, 108, 97, 116, 101], [98, 117, 116, 116, 111, 110], [111, 98, 106, 101, 99, 116], [100, 108]] : List (List UInt8)) b.opn))) (n := n) (by simp -dsimp -implicitDefEqProofs (maxSteps := 2000000) (disch := first | omega | assumption | (simp only [go_sem] <;> first | omega | assumption | fail) | fail) only [go_sem, hn] <;> rfl) (hbo.end_ _) _ (nearR_le _ _ _)).ret ?_
        simp -dsimp -implicitDefEqProofs (maxSteps := 2000000) (disch := first | omega | assumption | (simp only [go_sem] <;> first | omega | assumption | fail) | fail) only [go_sem]
      all_goals first | exact cutSet hc (below_box (by simp -dsimp -implicitDefEqProofs (maxSteps := 2000000) (disch := first | omega | assumption | (simp only [go_sem] <;> first | omega | assumption | fail) | fail) only [go_sem])) ⟨rfl, by rw [hres] <;> rfl⟩ | exact Fin.now ⟨rfl, by rw [hres] <;> rfl⟩
  (refine condP_intro (fun h3 => ?_) (fun h3 => ?_) <;> (try simp only [Bool.and_eq_true, Bool.or_eq_true, Bool.not_eq_true', Bool.not_eq_false', Bool.or_eq_false_iff, Bool.and_eq_false_imp, decide_eq_true_eq, decide_eq_false_iff_not, Bool.not_eq_true, Bool.not_eq_false, Int.ofNat_lt, Int.ofNat_le] at h3) <;> simp -dsimp -implicitDefEqProofs (maxSteps := 2000000) (disch := first | omega | assumption | (simp only [go_sem] <;> first | omega | assumption | fail) | fail) only [go_sem, h3])
  · subst h3
    have hfe := fe_d b [100, 116] (by decide) (by decide)
    rw [bounds_eq] at hfe
    repeat' (first
      | refine And.intro ?_ ?_
      | (refine (tone_meets tE _ _ _ _).ret ?_; simp -dsimp -implicitDefEqProofs (maxSteps := 2000000) (disch := first | omega | assumption | (simp only [go_sem] <;> first | omega | assumption | fail) | fail) only [go_sem])
      | (refine (tbounds_meets tE _ _ _ _ _ ([[100, 108]] : List (List UInt8)) rfl (by decide) (by simp -dsimp -implicitDefEqProofs (maxSteps := 2000000) (disch := first | omega | assumption | (simp only [go_sem] <;> first | omega | assumption | fail) | fail) only [go_sem]; rfl)).mono ?_; rintro _ _ ⟨c', hc', rfl, rfl⟩; simp -dsimp -implicitDefEqProofs (maxSteps := 2000000) (disch := first | omega | assumption | (simp only [go_sem] <;> first | omega | assumption | fail) | fail) only [go_sem, bounds_eq])
      | (refine (tnearOne_meets (b := b) (n := n) (ns := ([[100, 100], [100, 116]] : List (List UInt8))) (ws := ([[116, 101, 109, 112, 108, 97, 116, 101], [98, 117, 116, 116, 111, 110], [111, 98, 106, 101, 99, 116], [100, 108]] : List (List UInt8))) (by simp -dsimp -implicitDefEqProofs (maxSteps := 2000000) (disch := first | omega | assumption | (simp only [go_sem] <;> first | omega | assumption | fail) | fail) only [go_sem, hn] <;> rfl) hbo ⟨_, _, _, _, _, (by simp -dsimp -implicitDefEqProofs (maxSteps := 2000000) (disch := first | omega | assumption | (simp only [go_sem] <;> first | omega | assumption | fail) | fail) only [go_sem]; rfl), (by simp -dsimp -implicitDefEqProofs (maxSteps := 2000000) (disch := first | omega | assumption | (simp only [go_sem] <;> first | omega | assumption | fail) | fail) only [go_sem]; rfl), by decide, fun i hi => strs_get ([[100, 100], [100, 116]] : List (List UInt8)) i hi⟩ (by simp -dsimp -implicitDefEqProofs (maxSteps := 2000000) (disch := first | omega | assumption | (simp only [go_sem] <;> first | omega | assumption | fail) | fail) only [go_sem]; rfl) (by decide) (fun i hi => strs_get ([[116, 101, 109, 112, 108, 97, 116, 101], [98, 117, 116, 116, 111, 110], [111, 98, 106, 101, 99, 116], [100, 108]] : List (List UInt8)) i hi)).ret ?_; simp -dsimp -implicitDefEqProofs (maxSteps := 2000000) (disch := first | omega | assumption | (simp only [go_sem] <;> first | omega | assumption | fail) | fail) only [go_sem]))
    all_goals
      refine (tend_meets tE (b := b) (n := n) (by simp -dsimp -implicitDefEqProofs (maxSteps := 2000000) (disch := first | omega | assumption | (simp only [go_sem] <;> first | omega | assumption | fail) | fail) only [go_sem, hn] <;> rfl) hbo _ (nearR_le _ _ _)).ret ?_
      simp -dsimp -implicitDefEqProofs (maxSteps := 2000000) (disch := first | omega | assumption | (simp only [go_sem] <;> first | omega | assumption | fail) | fail) only [go_sem]
    all_goals
      have hres := first_item b _ _ (hfe) (by decide)
      rw [bounds_eq] at hres
      repeat' (first
        | refine And.intro ?_ ?_
        | (refine (tone_meets tE _ _ _ _).ret ?_; simp -dsimp -implicitDefEqProofs (maxSteps := 2000000) (disch := first | omega | assumption | (simp only [go_sem] <;> first | omega | assumption | fail) | fail) only [go_sem])
        | (refine (tbounds0_meets tE _ _ _).mono ?_; rintro _ _ ⟨c', hc', rfl, rfl⟩; simp -dsimp -implicitDefEqProofs (maxSteps := 2000000) (disch := first | omega | assumption | (simp only [go_sem] <;> first | omega | assumption | fail) | fail) only [go_sem, bounds_eq])
        | (refine (tnearOne_meets (b := (b.end_ (nearR [[100, 100], [100, 116]] ([[116, 101, 109, 112, 108, 97, 116, 101], [98, 117, 116, 116, 111, 110], [111, 98, 106, 101, 99, 116], [100, 108]] : List (List UInt8)) b.opn))) (n := n) (ns := ([[112]] : List (List UInt8))) (ws := ([[116, 101, 109, 112, 108, 97, 116, 101], [98, 117, 116, 116, 111, 110], [111, 98, 106, 101, 99, 116]] : List (List UInt8))) (by simp -dsimp -implicitDefEqProofs (maxSteps := 2000000) (disch := first | omega | assumption | (simp only [go_sem] <;> first | omega | assumption | fail) | fail) only [go_sem, hn] <;> rfl) (hbo.end_ _) ⟨_, _, _, _, _, (by simp -dsimp -implicitDefEqProofs (maxSteps := 2000000) (disch := first | omega | assumption | (simp only [go_sem] <;> first | omega | assumption | fail) | fail) only [go_sem]; rfl), (by simp -dsimp -implicitDefEqProofs (maxSteps := 2000000) (disch := first | omega | assumption | (simp only [go_sem] <;> first | omega | assumption | fail) | fail) only [go_sem]; rfl), by decide, fun i hi => strs_get ([[112]] : List (List UInt8)) i hi⟩ (by simp -dsimp -implicitDefEqProofs (maxSteps := 2000000) (disch := first | omega | assumption | (simp only [go_sem] <;> first | omega | assumption | fail) | fail) only [go_sem]; rfl) (by decide) (fun i hi => strs_get ([[116, 101, 109, 112, 108, 97, 116, 101], [98, 117, 116, 116, 111, 110], [111, 98, 106, 101, 99, 116]] : List (List UInt8)) i hi)).ret ?_; simp -dsimp -implicitDefEqProofs (maxSteps := 2000000) (disch := first | omega | assumption | (simp only [go_sem] <;> first | omega | assumption | fail) | fail) only [go_sem]))
      all_goals
        refine (tend_meets tE (b := (b.end_ (nearR [[100, 100], [100, 116]] ([[116, 101, 109, 112, 108, 97, 116, 101], [98, 117, 116, 116, 111, 110], [111, 98, 106, 101, 99, 116], [100, 108]] : List (List UInt8)) b.opn))) (n := n) (by simp -dsimp -implicitDefEqProofs (maxSteps := 2000000) (disch := first | omega | assumption | (simp only [go_sem] <;> first | omega | assumption | fail) | fail) only [go_sem, hn] <;> rfl) (hbo.end_ _) _ (nearR_le _ _ _)).ret ?_
        simp -dsimp -implicitDefEqProofs (maxSteps := 2000000) (disch := first | omega | assumption | (simp only [go_sem] <;> first | omega | assumption | fail) | fail) only [go_sem]
      all_goals first | exact cutSet hc (below_box (by simp -dsimp -implicitDefEqProofs (maxSteps := 2000000) (disch := first | omega | assumption | (simp only [go_sem] <;> first | omega | assumption | fail) | fail) only [go_sem])) ⟨rfl, by rw [hres] <;> rfl⟩ | exact Fin.now ⟨rfl, by rw [hres] <;> rfl⟩
  have h23 : ¬ (name = [100, 100] ∨ name = [100, 116]) := fun h => h.elim h2 h3
  (refine condP_intro (fun h4 => ?_) (fun h4 => ?_) <;> (try simp only [Bool.and_eq_true, Bool.or_eq_true, Bool.not_eq_true', Bool.not_eq_false', Bool.or_eq_false_iff, Bool.and_eq_false_imp, decide_eq_true_eq, decide_eq_false_iff_not, Bool.not_eq_true, Bool.not_eq_false, Int.ofNat_lt, Int.ofNat_le] at h4) <;> simp -dsimp -implicitDefEqProofs (maxSteps := 2000000) (disch := first | omega | assumption | (simp only [go_sem] <;> first | omega | assumption | fail) | fail) only [go_sem, h4])
  · subst h4
    refine (tone_meets tE _ _ _ _).ret ?_
    simp -dsimp -implicitDefEqProofs (maxSteps := 2000000) (disch := first | omega | assumption | (simp only [go_sem] <;> first | omega | assumption | fail) | fail) only [go_sem]
    refine (tpop_meets (b := b) (n := n) (is := fun x => ([[111, 112, 116, 105, 111, 110]] : List (List UInt8)).contains x) (by simp -dsimp -implicitDefEqProofs (maxSteps := 2000000) (disch := first | omega | assumption | (simp only [go_sem] <;> first | omega | assumption | fail) | fail) only [go_sem, hn] <;> rfl) hbo (isFn_one (ws := ([[111, 112, 116, 105, 111, 110]] : List (List UInt8))) (by simp -dsimp -implicitDefEqProofs (maxSteps := 2000000) (disch := first | omega | assumption | (simp only [go_sem] <;> first | omega | assumption | fail) | fail) only [go_sem]; rfl) (by simp -dsimp -implicitDefEqProofs (maxSteps := 2000000) (disch := first | omega | assumption | (simp only [go_sem] <;> first | omega | assumption | fail) | fail) only [go_sem]; rfl) (by decide) (fun i hi => strs_get ([[111, 112, 116, 105, 111, 110]] : List (List UInt8)) i hi) (by omega) (by omega))).ret ?_
    simp -dsimp -implicitDefEqProofs (maxSteps := 2000000) (disch := first | omega | assumption | (simp only [go_sem] <;> first | omega | assumption | fail) | fail) only [go_sem]
    have hF := first_no b _ _ (fe_option b) (by decide) (by decide)
    rw [bounds_eq] at hF
    refine (Meets.more (block_meets _ _)).ret ?_
    simp -dsimp -implicitDefEqProofs (maxSteps := 2000000) (disch := first | omega | assumption | (simp only [go_sem] <;> first | omega | assumption | fail) | fail) only [go_sem]
    (refine condP_intro (fun h9 => ?_) (fun h9 => ?_) <;> (try simp only [Bool.and_eq_true, Bool.or_eq_true, Bool.not_eq_true', Bool.not_eq_false', Bool.or_eq_false_iff, Bool.and_eq_false_imp, decide_eq_true_eq, decide_eq_false_iff_not, Bool.not_eq_true, Bool.not_eq_false, Int.ofNat_lt, Int.ofNat_le] at h9) <;> simp -dsimp -implicitDefEqProofs (maxSteps := 2000000) (disch := first | omega | assumption | (simp only [go_sem] <;> first | omega | assumption | fail) | fail) only [go_sem, h9])
    · have hres := hF.trans (if_pos h9)
      repeat' (first
        | refine And.intro ?_ ?_
        | (refine (tone_meets tE _ _ _ _).ret ?_; simp -dsimp -implicitDefEqProofs (maxSteps := 2000000) (disch := first | omega | assumption | (simp only [go_sem] <;> first | omega | assumption | fail) | fail) only [go_sem])
        | (refine (tbounds0_meets tE _ _ _).mono ?_; rintro _ _ ⟨c', hc', rfl, rfl⟩; simp -dsimp -implicitDefEqProofs (maxSteps := 2000000) (disch := first | omega | assumption | (simp only [go_sem] <;> first | omega | assumption | fail) | fail) only [go_sem, bounds_eq])
        | (refine (tnearOne_meets (b := (if b.top [[111, 112, 116, 105, 111, 110]] then b.pop else b)) (n := n) (ns := ([[112]] : List (List UInt8))) (ws := ([[116, 101, 109, 112, 108, 97, 116, 101], [98, 117, 116, 116, 111, 110], [111, 98, 106, 101, 99, 116]] : List (List UInt8))) (by simp -dsimp -implicitDefEqProofs (maxSteps := 2000000) (disch := first | omega | assumption | (simp only [go_sem] <;> first | omega | assumption | fail) | fail) only [go_sem, hn] <;> rfl) (hbo.popIf _) ⟨_, _, _, _, _, (by simp -dsimp -implicitDefEqProofs (maxSteps := 2000000) (disch := first | omega | assumption | (simp only [go_sem] <;> first | omega | assumption | fail) | fail) only [go_sem]; rfl), (by simp -dsimp -implicitDefEqProofs (maxSteps := 2000000) (disch := first | omega | assumption | (simp only [go_sem] <;> first | omega | assumption | fail) | fail) only [go_sem]; rfl), by decide, fun i hi => strs_get ([[112]] : List (List UInt8)) i hi⟩ (by simp -dsimp -implicitDefEqProofs (maxSteps := 2000000) (disch := first | omega | assumption | (simp only [go_sem] <;> first | omega | assumption | fail) | fail) only [go_sem]; rfl) (by decide) (fun i hi => strs_get ([[116, 101, 109, 112, 108, 97, 116, 101], [98, 117, 116, 116, 111, 110], [111, 98, 106, 101, 99, 116]] : List (List UInt8)) i hi)).ret ?_; simp -dsimp -implicitDefEqProofs (maxSteps := 2000000) (disch := first | omega | assumption | (simp only [go_sem] <;> first | omega | assumption | fail) | fail) only [go_sem]))
      all_goals
        refine (tend_meets tE (b := (if b.top [[111, 112, 116, 105, 111, 110]] then b.pop else b)) (n := n) (by simp -dsimp -implicitDefEqProofs (maxSteps := 2000000) (disch := first | omega | assumption | (simp only [go_sem] <;> first | omega | assumption | fail) | fail) only [go_sem, hn] <;> rfl) (hbo.popIf _) _ (nearR_le _ _ _)).ret ?_
        simp -dsimp -implicitDefEqProofs (maxSteps := 2000000) (disch := first | omega | assumption | (simp only [go_sem] <;> first | omega | assumption | fail) | fail) only [go_sem]
      all_goals first | exact cutSet hc (below_box (by simp -dsimp -implicitDefEqProofs (maxSteps := 2000000) (disch := first | omega | assumption | (simp only [go_sem] <;> first | omega | assumption | fail) | fail) only [go_sem])) ⟨rfl, by rw [hres] <;> rfl⟩ | exact Fin.now ⟨rfl, by rw [hres] <;> rfl⟩
    · have hres := hF.trans (if_neg (by rw [h9]; simp))
      first | exact cutSet hc (below_box (by simp -dsimp -implicitDefEqProofs (maxSteps := 2000000) (disch := first | omega | assumption | (simp only [go_sem] <;> first | omega | assumption | fail) | fail) only [go_sem])) ⟨rfl, by rw [hres] <;> rfl⟩ | exact Fin.now ⟨rfl, by rw [hres] <;> rfl⟩
  (refine condP_intro (fun h5 => ?_) (fun h5 => ?_) <;> (try simp only [Bool.and_eq_true, Bool.or_eq_true, Bool.not_eq_true', Bool.not_eq_false', Bool.or_eq_false_iff, Bool.and_eq_false_imp, decide_eq_true_eq, decide_eq_false_iff_not, Bool.not_eq_true, Bool.not_eq_false, Int.ofNat_lt, Int.ofNat_le] at h5) <;> simp -dsimp -implicitDefEqProofs (maxSteps := 2000000) (disch := first | omega | assumption | (simp only [go_sem] <;> first | omega | assumption | fail) | fail) only [go_sem, h5])
  · subst h5
    refine (tone_meets tE _ _ _ _).ret ?_
    simp -dsimp -implicitDefEqProofs (maxSteps := 2000000) (disch := first | omega | assumption | (simp only [go_sem] <;> first | omega | assumption | fail) | fail) only [go_sem]
    refine (tpop_meets (b := b) (n := n) (is := fun x => ([[111, 112, 116, 105, 111, 110]] : List (List UInt8)).contains x) (by simp -dsimp -implicitDefEqProofs (maxSteps := 2000000) (disch := first | omega | assumption | (simp only [go_sem] <;> first | omega | assumption | fail) | fail) only [go_sem, hn] <;> rfl) hbo (isFn_one (ws := ([[111, 112, 116, 105, 111, 110]] : List (List UInt8))) (by simp -dsimp -implicitDefEqProofs (maxSteps := 2000000) (disch := first | omega | assumption | (simp only [go_sem] <;> first | omega | assumption | fail) | fail) only [go_sem]; rfl) (by simp -dsimp -implicitDefEqProofs (maxSteps := 2000000) (disch := first | omega | assumption | (simp only [go_sem] <;> first | omega | assumption | fail) | fail) only [go_sem]; rfl) (by decide) (fun i hi => strs_get ([[111, 112, 116, 105, 111, 110]] : List (List UInt8)) i hi) (by omega) (by omega))).ret ?_
    simp -dsimp -implicitDefEqProofs (maxSteps := 2000000) (disch := first | omega | assumption | (simp only [go_sem] <;> first | omega | assumption | fail) | fail) only [go_sem]
    refine (tone_meets tE _ _ _ _).ret ?_
    simp -dsimp -implicitDefEqProofs (maxSteps := 2000000) (disch := first | omega | assumption | (simp only [go_sem] <;> first | omega | assumption | fail) | fail) only [go_sem]
    refine (tpop_meets (b := (if b.top [[111, 112, 116, 105, 111, 110]] then b.pop else b)) (n := n) (is := fun x => ([[111, 112, 116, 103, 114, 111, 117, 112]] : List (List UInt8)).contains x) (by simp -dsimp -implicitDefEqProofs (maxSteps := 2000000) (disch := first | omega | assumption | (simp only [go_sem] <;> first | omega | assumption | fail) | fail) only [go_sem, hn] <;> rfl) (hbo.popIf _) (isFn_one (ws := ([[111, 112, 116, 103, 114, 111, 117, 112]] : List (List UInt8))) (by simp -dsimp -implicitDefEqProofs (maxSteps := 2000000) (disch := first | omega | assumption | (simp only [go_sem] <;> first | omega | assumption | fail) | fail) only [go_sem]; rfl) (by simp -dsimp -implicitDefEqProofs (maxSteps := 2000000) (disch := first | omega | assumption | (simp only [go_sem] <;> first | omega | assumption | fail) | fail) only [go_sem]; rfl) (by decide) (fun i hi => strs_get ([[111, 112, 116, 103, 114, 111, 117, 112]] : List (List UInt8)) i hi) (by omega) (by omega))).ret ?_
    simp -dsimp -implicitDefEqProofs (maxSteps := 2000000) (disch := first | omega | assumption | (simp only [go_sem] <;> first | omega | assumption | fail) | fail) only [go_sem]
    have hF := first_no b _ _ (fe_optgroup b) (by decide) (by decide)
    rw [bounds_eq] at hF
    refine (Meets.more (block_meets _ _)).ret ?_
    simp -dsimp -implicitDefEqProofs (maxSteps := 2000000) (disch := first | omega | assumption | (simp only [go_sem] <;> first | omega | assumption | fail) | fail) only [go_sem]
    (refine condP_intro (fun h9 => ?_) (fun h9 => ?_) <;> (try simp only [Bool.and_eq_true, Bool.or_eq_true, Bool.not_eq_true', Bool.not_eq_false', Bool.or_eq_false_iff, Bool.and_eq_false_imp, decide_eq_true_eq, decide_eq_false_iff_not, Bool.not_eq_true, Bool.not_eq_false, Int.ofNat_lt, Int.ofNat_le] at h9) <;> simp -dsimp -implicitDefEqProofs (maxSteps := 2000000) (disch := first | omega | assumption | (simp only [go_sem] <;> first | omega | assumption | fail) | fail) only [go_sem, h9])
    · have hres := hF.trans (if_pos h9)
      repeat' (first
        | refine And.intro ?_ ?_
        | (refine (tone_meets tE _ _ _ _).ret ?_; simp -dsimp -implicitDefEqProofs (maxSteps := 2000000) (disch := first | omega | assumption | (simp only [go_sem] <;> first | omega | assumption | fail) | fail) only [go_sem])
        | (refine (tbounds0_meets tE _ _ _).mono ?_; rintro _ _ ⟨c', hc', rfl, rfl⟩; simp -dsimp -implicitDefEqProofs (maxSteps := 2000000) (disch := first | omega | assumption | (simp only [go_sem] <;> first | omega | assumption | fail) | fail) only [go_sem, bounds_eq])
        | (refine (tnearOne_meets (b := (if (if b.top [[111, 112, 116, 105, 111, 110]] then b.pop else b).top [[111, 112, 116, 103, 114, 111, 117, 112]] then (if b.top [[111, 112, 116, 105, 111, 110]] then b.pop else b).pop else (if b.top [[111, 112, 116, 105, 111, 110]] then b.pop else b))) (n := n) (ns := ([[112]] : List (List UInt8))) (ws := ([[116, 101, 109, 112, 108, 97, 116, 101], [98, 117, 116, 116, 111, 110], [111, 98, 106, 101, 99, 116]] : List (List UInt8))) (by simp -dsimp -implicitDefEqProofs (maxSteps := 2000000) (disch := first | omega | assumption | (simp only [go_sem] <;> first | omega | assumption | fail) | fail) only [go_sem, hn] <;> rfl) ((hbo.popIf _).popIf _) ⟨_, _, _, _, _, (by simp -dsimp -implicitDefEqProofs (maxSteps := 2000000) (disch := first | omega | assumption | (simp only [go_sem] <;> first | omega | assumption | fail) | fail) only [go_sem]; rfl), (by simp -dsimp -implicitDefEqProofs (maxSteps := 2000000) (disch := first | omega | assumption | (simp only [go_sem] <;> first | omega | assumption | fail) | fail) only [go_sem]; rfl), by decide, fun i hi => strs_get ([[112]] : List (List UInt8)) i hi⟩ (by simp -dsimp -implicitDefEqProofs (maxSteps := 2000000) (disch := first | omega | assumption | (simp only [go_sem] <;> first | omega | assumption | fail) | fail) only [go_sem]; rfl) (by decide) (fun i hi => strs_get ([[116, 101, 109, 112, 108, 97, 116, 101], [98, 117, 116, 116, 111, 110], [111, 98, 106, 101, 99, 116]] : List (List UInt8)) i hi)).ret ?_; simp -dsimp -implicitDefEqProofs (maxSteps := 2000000) (disch := first | omega | assumption | (simp only [go_sem] <;> first | omega | assumption | fail) | fail) only [go_sem]))
      all_goals
        refine (tend_meets tE (b := (if (if b.top [[111, 112, 116, 105, 111, 110]] then b.pop else b).top [[111, 112, 116, 103, 114, 111, 117, 112]] then (if b.top [[111, 112, 116, 105, 111, 110]] then b.pop else b).pop else (if b.top [[111, 112, 116, 105, 111, 110]] then b.pop else b))) (n := n) (by simp -dsimp -implicitDefEqProofs (maxSteps := 2000000) (disch := first | omega | assumption | (simp only [go_sem] <;> first | omega | assumption | fail) | fail) only [go_sem, hn] <;> rfl) ((hbo.popIf _).popIf _) _ (nearR_le _ _ _)).ret ?_
        simp -dsimp -implicitDefEqProofs (maxSteps := 2000000) (disch := first | omega | assumption | (simp only [go_sem] <;> first | omega | assumption | fail) | fail) only [go_sem]
      all_goals first | exact cutSet hc (below_box (by simp -dsimp -implicitDefEqProofs (maxSteps := 2000000) (disch := first | omega | assumption | (simp only [go_sem] <;> first | omega | assumption | fail) | fail) only [go_sem])) ⟨rfl, by rw [hres] <;> rfl⟩ | exact Fin.now ⟨rfl, by rw [hres] <;> rfl⟩
    · have hres := hF.trans (if_neg (by rw [h9]; simp))
      first | exact cutSet hc (below_box (by simp -dsimp -implicitDefEqProofs (maxSteps := 2000000) (disch := first | omega | assumption | (simp only [go_sem] <;> first | omega | assumption | fail) | fail) only [go_sem])) ⟨rfl, by rw [hres] <;> rfl⟩ | exact Fin.now ⟨rfl, by rw [hres] <;> rfl⟩
  refine (thead_meets name _).ret ?_
  simp -dsimp -implicitDefEqProofs (maxSteps := 2000000) (disch := first | omega | assumption | (simp only [go_sem] <;> first | omega | assumption | fail) | fail) only [go_sem]
  (refine condP_intro (fun h6 => ?_) (fun h6 => ?_) <;> (try simp only [Bool.and_eq_true, Bool.or_eq_true, Bool.not_eq_true', Bool.not_eq_false', Bool.or_eq_false_iff, Bool.and_eq_false_imp, decide_eq_true_eq, decide_eq_false_iff_not, Bool.not_eq_true, Bool.not_eq_false, Int.ofNat_lt, Int.ofNat_le] at h6) <;> simp -dsimp -implicitDefEqProofs (maxSteps := 2000000) (disch := first | omega | assumption | (simp only [go_sem] <;> first | omega | assumption | fail) | fail) only [go_sem, h6])
  · have hfe := fe_head b name h1 h23 h4 h5 h6
    refine (tpop_meets (b := b) (n := n) (is := fun x => headsL.contains x) (by simp -dsimp -implicitDefEqProofs (maxSteps := 2000000) (disch := first | omega | assumption | (simp only [go_sem] <;> first | omega | assumption | fail) | fail) only [go_sem, hn] <;> rfl) hbo (isFn_head _ _)).ret ?_
    simp -dsimp -implicitDefEqProofs (maxSteps := 2000000) (disch := first | omega | assumption | (simp only [go_sem] <;> first | omega | assumption | fail) | fail) only [go_sem]
    refine (tcloses_meets tE (b := if b.top headsL then b.pop else b) (n := n) (by simp -dsimp -implicitDefEqProofs (maxSteps := 2000000) (disch := first | omega | assumption | (simp only [go_sem] <;> first | omega | assumption | fail) | fail) only [go_sem, hn] <;> rfl) (hbo.popIf _) (b.top headsL)).ret ?_
    simp -dsimp -implicitDefEqProofs (maxSteps := 2000000) (disch := first | omega | assumption | (simp only [go_sem] <;> first | omega | assumption | fail) | fail) only [go_sem]
    have hfe2 : firstEnd name b = (if b.top headsL then (if b.top headsL then b.pop else b).fault 9 else (if b.top headsL then b.pop else b)) := by
      rw [hfe]
      cases b.top headsL <;> rfl
    have hF := first_no b _ _ (hfe2) (h1) (h23)
    rw [bounds_eq] at hF
    refine (Meets.more (block_meets _ _)).ret ?_
    simp -dsimp -implicitDefEqProofs (maxSteps := 2000000) (disch := first | omega | assumption | (simp only [go_sem] <;> first | omega | assumption | fail) | fail) only [go_sem]
    (refine condP_intro (fun h9 => ?_) (fun h9 => ?_) <;> (try simp only [Bool.and_eq_true, Bool.or_eq_true, Bool.not_eq_true', Bool.not_eq_false', Bool.or_eq_false_iff, Bool.and_eq_false_imp, decide_eq_true_eq, decide_eq_false_iff_not, Bool.not_eq_true, Bool.not_eq_false, Int.ofNat_lt, Int.ofNat_le] at h9) <;> simp -dsimp -implicitDefEqProofs (maxSteps := 2000000) (disch := first | omega | assumption | (simp only [go_sem] <;> first | omega | assumption | fail) | fail) only [go_sem, h9])
    · have hres := hF.trans (if_pos h9)
      repeat' (first
        | refine And.intro ?_ ?_
        | (refine (tone_meets tE _ _ _ _).ret ?_; simp -dsimp -implicitDefEqProofs (maxSteps := 2000000) (disch := first | omega | assumption | (simp only [go_sem] <;> first | omega | assumption | fail) | fail) only [go_sem])
        | (refine (tbounds0_meets tE _ _ _).mono ?_; rintro _ _ ⟨c', hc', rfl, rfl⟩; simp -dsimp -implicitDefEqProofs (maxSteps := 2000000) (disch := first | omega | assumption | (simp only [go_sem] <;> first | omega | assumption | fail) | fail) only [go_sem, bounds_eq])
        | (refine (tnearOne_meets (b := (if b.top headsL then (if b.top headsL then b.pop else b).fault 9 else (if b.top headsL then b.pop else b))) (n := n) (ns := ([[112]] : List (List UInt8))) (ws := ([[116, 101, 109, 112, 108, 97, 116, 101], [98, 117, 116, 116, 111, 110], [111, 98, 106, 101, 99, 116]] : List (List UInt8))) (by simp -dsimp -implicitDefEqProofs (maxSteps := 2000000) (disch := first | omega | assumption | (simp only [go_sem] <;> first | omega | assumption | fail) | fail) only [go_sem, hn] <;> rfl) ((hb.popIf _).fltIf _ _) ⟨_, _, _, _, _, (by simp -dsimp -implicitDefEqProofs (maxSteps := 2000000) (disch := first | omega | assumption | (simp only [go_sem] <;> first | omega | assumption | fail) | fail) only [go_sem]; rfl), (by simp -dsimp -implicitDefEqProofs (maxSteps := 2000000) (disch := first | omega | assumption | (simp only [go_sem] <;> first | omega | assumption | fail) | fail) only [go_sem]; rfl), by decide, fun i hi => strs_get ([[112]] : List (List UInt8)) i hi⟩ (by simp -dsimp -implicitDefEqProofs (maxSteps := 2000000) (disch := first | omega | assumption | (simp only [go_sem] <;> first | omega | assumption | fail) | fail) only [go_sem]; rfl) (by decide) (fun i hi => strs_get ([[116, 101, 109, 112, 108, 97, 116, 101], [98, 117, 116, 116, 111, 110], [111, 98, 106, 101, 99, 116]] : List (List UInt8)) i hi)).ret ?_; simp -dsimp -implicitDefEqProofs (maxSteps := 2000000) (disch := first | omega | assumption | (simp only [go_sem] <;> first | omega | assumption | fail) | fail) only [go_sem]))
      all_goals
        refine (tend_meets tE (b := (if b.top headsL then (if b.top headsL then b.pop else b).fault 9 else (if b.top headsL then b.pop else b))) (n := n) (by simp -dsimp -implicitDefEqProofs (maxSteps := 2000000) (disch := first | omega | assumption | (simp only [go_sem] <;> first | omega | assumption | fail) | fail) only [go_sem, hn] <;> rfl) ((hb.popIf _).fltIf _ _) _ (nearR_le _ _ _)).ret ?_
        simp -dsimp -implicitDefEqProofs (maxSteps := 2000000) (disch := first | omega | assumption | (simp only [go_sem] <;> first | omega | assumption | fail) | fail) only [go_sem]
      all_goals first | exact cutSet hc (below_box (by simp -dsimp -implicitDefEqProofs (maxSteps := 2000000) (disch := first | omega | assumption | (simp only [go_sem] <;> first | omega | assumption | fail) | fail) only [go_sem])) ⟨rfl, by rw [hres] <;> rfl⟩ | exact Fin.now ⟨rfl, by rw [hres] <;> rfl⟩
    · have hres := hF.trans (if_neg (by rw [h9]; simp))
      first | exact cutSet hc (below_box (by simp -dsimp -implicitDefEqProofs (maxSteps := 2000000) (disch := first | omega | assumption | (simp only [go_sem] <;> first | omega | assumption | fail) | fail) only [go_sem])) ⟨rfl, by rw [hres] <;> rfl⟩ | exact Fin.now ⟨rfl, by rw [hres] <;> rfl⟩
  (refine condP_intro (fun h7 => ?_) (fun h7 => ?_) <;> (try simp only [Bool.and_eq_true, Bool.or_eq_true, Bool.not_eq_true', Bool.not_eq_false', Bool.or_eq_false_iff, Bool.and_eq_false_imp, decide_eq_true_eq, decide_eq_false_iff_not, Bool.not_eq_true, Bool.not_eq_false, Int.ofNat_lt, Int.ofNat_le] at h7) <;> simp -dsimp -implicitDefEqProofs (maxSteps := 2000000) (disch := first | omega | assumption | (simp only [go_sem] <;> first | omega | assumption | fail) | fail) only [go_sem, h7])
  · subst h7
    have hfe := fe_a b [97] h1 h23 h4 h5 h6 (.inl rfl)
    have hfe2 : firstEnd [97] b = (if decide (0 ≤ (nearR [[97]] ([[116, 101, 109, 112, 108, 97, 116, 101]] : List (List UInt8)) b.opn)) then (b.end_ (nearR [[97]] ([[116, 101, 109, 112, 108, 97, 116, 101]] : List (List UInt8)) b.opn)).fault 9 else b.end_ (nearR [[97]] ([[116, 101, 109, 112, 108, 97, 116, 101]] : List (List UInt8)) b.opn)) := by
      rw [hfe]
      by_cases h : 0 ≤ (nearR [[97]] ([[116, 101, 109, 112, 108, 97, 116, 101]] : List (List UInt8)) b.opn)
      · rw [if_pos h, if_pos (by simpa using h)]
      · rw [if_neg h, if_neg (by simpa using h), Bd.end_, if_neg h]
    clear hfe
    repeat' (first
      | refine And.intro ?_ ?_
      | (refine (tone_meets tE _ _ _ _).ret ?_; simp -dsimp -implicitDefEqProofs (maxSteps := 2000000) (disch := first | omega | assumption | (simp only [go_sem] <;> first | omega | assumption | fail) | fail) only [go_sem])
      | (refine (tbounds0_meets tE _ _ _).mono ?_; rintro _ _ ⟨c', hc', rfl, rfl⟩; simp -dsimp -implicitDefEqProofs (maxSteps := 2000000) (disch := first | omega | assumption | (simp only [go_sem] <;> first | omega | assumption | fail) | fail) only [go_sem, bounds_eq])
      | (refine (tnearOne_meets (b := b) (n := n) (ns := ([[97]] : List (List UInt8))) (ws := ([[116, 101, 109, 112, 108, 97, 116, 101]] : List (List UInt8))) (by simp -dsimp -implicitDefEqProofs (maxSteps := 2000000) (disch := first | omega | assumption | (simp only [go_sem] <;> first | omega | assumption | fail) | fail) only [go_sem, hn] <;> rfl) hbo ⟨_, _, _, _, _, (by simp -dsimp -implicitDefEqProofs (maxSteps := 2000000) (disch := first | omega | assumption | (simp only [go_sem] <;> first | omega | assumption | fail) | fail) only [go_sem]; rfl), (by simp -dsimp -implicitDefEqProofs (maxSteps := 2000000) (disch := first | omega | assumption | (simp only [go_sem] <;> first | omega | assumption | fail) | fail) only [go_sem]; rfl), by decide, fun i hi => strs_get ([[97]] : List (List UInt8)) i hi⟩ (by simp -dsimp -implicitDefEqProofs (maxSteps := 2000000) (disch := first | omega | assumption | (simp only [go_sem] <;> first | omega | assumption | fail) | fail) only [go_sem]; rfl) (by decide) (fun i hi => strs_get ([[116, 101, 109, 112, 108, 97, 116, 101]] : List (List UInt8)) i hi)).ret ?_; simp -dsimp -implicitDefEqProofs (maxSteps := 2000000) (disch := first | omega | assumption | (simp only [go_sem] <;> first | omega | assumption | fail) | fail) only [go_sem]))
    all_goals
      refine (tend_meets tE (b := b) (n := n) (by simp -dsimp -implicitDefEqProofs (maxSteps := 2000000) (disch := first | omega | assumption | (simp only [go_sem] <;> first | omega | assumption | fail) | fail) only [go_sem, hn] <;> rfl) hbo _ (nearR_le _ _ _)).ret ?_
      simp -dsimp -implicitDefEqProofs (maxSteps := 2000000) (disch := first | omega | assumption | (simp only [go_sem] <;> first | omega | assumption | fail) | fail) only [go_sem]
    all_goals
      refine (tcloses_meets tE (b := b.end_ (nearR [[97]] ([[116, 101, 109, 112, 108, 97, 116, 101]] : List (List UInt8)) b.opn)) (n := n) (by simp -dsimp -implicitDefEqProofs (maxSteps := 2000000) (disch := first | omega | assumption | (simp only [go_sem] <;> first | omega | assumption | fail) | fail) only [go_sem, hn] <;> rfl) (hbo.end_ _) (decide (0 ≤ (nearR [[97]] ([[116, 101, 109, 112, 108, 97, 116, 101]] : List (List UInt8)) b.opn)))).ret ?_
      simp -dsimp -implicitDefEqProofs (maxSteps := 2000000) (disch := first | omega | assumption | (simp only [go_sem] <;> first | omega | assumption | fail) | fail) only [go_sem]
    all_goals
      have hF := first_no b _ _ (hfe2) (h1) (h23)
      rw [bounds_eq] at hF
      refine (Meets.more (block_meets _ _)).ret ?_
      simp -dsimp -implicitDefEqProofs (maxSteps := 2000000) (disch := first | omega | assumption | (simp only [go_sem] <;> first | omega | assumption | fail) | fail) only [go_sem]
      (refine condP_intro (fun h9 => ?_) (fun h9 => ?_) <;> (try simp only [Bool.and_eq_true, Bool.or_eq_true, Bool.not_eq_true', Bool.not_eq_false', Bool.or_eq_false_iff, Bool.and_eq_false_imp, decide_eq_true_eq, decide_eq_false_iff_not, Bool.not_eq_true, Bool.not_eq_false, Int.ofNat_lt, Int.ofNat_le] at h9) <;> simp -dsimp -implicitDefEqProofs (maxSteps := 2000000) (disch := first | omega | assumption | (simp only [go_sem] <;> first | omega | assumption | fail) | fail) only [go_sem, h9])
      · have hres := hF.trans (if_pos h9)
        repeat' (first
          | refine And.intro ?_ ?_
          | (refine (tone_meets tE _ _ _ _).ret ?_; simp -dsimp -implicitDefEqProofs (maxSteps := 2000000) (disch := first | omega | assumption | (simp only [go_sem] <;> first | omega | assumption | fail) | fail) only [go_sem])
          | (refine (tbounds0_meets tE _ _ _).mono ?_; rintro _ _ ⟨c', hc', rfl, rfl⟩; simp -dsimp -implicitDefEqProofs (maxSteps := 2000000) (disch := first | omega | assumption | (simp only [go_sem] <;> first | omega | assumption | fail) | fail) only [go_sem, bounds_eq])
          | (refine (tnearOne_meets (b := (if decide (0 ≤ (nearR [[97]] ([[116, 101, 109, 112, 108, 97, 116, 101]] : List (List UInt8)) b.opn)) then (b.end_ (nearR [[97]] ([[116, 101, 109, 112, 108, 97, 116, 101]] : List (List UInt8)) b.opn)).fault 9 else b.end_ (nearR [[97]] ([[116, 101, 109, 112, 108, 97, 116, 101]] : List (List UInt8)) b.opn))) (n := n) (ns := ([[112]] : List (List UInt8))) (ws := ([[116, 101, 109, 112, 108, 97, 116, 101], [98, 117, 116, 116, 111, 110], [111, 98, 106, 101, 99, 116]] : List (List UInt8))) (by simp -dsimp -implicitDefEqProofs (maxSteps := 2000000) (disch := first | omega | assumption | (simp only [go_sem] <;> first | omega | assumption | fail) | fail) only [go_sem, hn] <;> rfl) ((hb.end_ _).fltIf _ _) ⟨_, _, _, _, _, (by simp -dsimp -implicitDefEqProofs (maxSteps := 2000000) (disch := first | omega | assumption | (simp only [go_sem] <;> first | omega | assumption | fail) | fail) only [go_sem]; rfl), (by simp -dsimp -implicitDefEqProofs (maxSteps := 2000000) (disch := first | omega | assumption | (simp only [go_sem] <;> first | omega | assumption | fail) | fail) only [go_sem]; rfl), by decide, fun i hi => strs_get ([[112]] : List (List UInt8)) i hi⟩ (by simp -dsimp -implicitDefEqProofs (maxSteps := 2000000) (disch := first | omega | assumption | (simp only [go_sem] <;> first | omega | assumption | fail) | fail) only [go_sem]; rfl) (by decide) (fun i hi => strs_get ([[116, 101, 109, 112, 108, 97, 116, 101], [98, 117, 116, 116, 111, 110], [111, 98, 106, 101, 99, 116]] : List (List UInt8)) i hi)).ret ?_; simp -dsimp -implicitDefEqProofs (maxSteps := 2000000) (disch := first | omega | assumption | (simp only [go_sem] <;> first | omega | assumption | fail) | fail) only [go_sem]))
        all_goals
          refine (tend_meets tE (b := (if decide (0 ≤ (nearR [[97]] ([[116, 101, 109, 112, 108, 97, 116, 101]] : List (List UInt8)) b.opn)) then (b.end_ (nearR [[97]] ([[116, 101, 109, 112, 108, 97, 116, 101]] : List (List UInt8)) b.opn)).fault 9 else b.end_ (nearR [[97]] ([[116, 101, 109, 112, 108, 97, 116, 101]] : List (List UInt8)) b.opn))) (n := n) (by simp -dsimp -implicitDefEqProofs (maxSteps := 2000000) (disch := first | omega | assumption | (simp only [go_sem] <;> first | omega | assumption | fail) | fail) only [go_sem, hn] <;> rfl) ((hb.end_ _).fltIf _ _) _ (nearR_le _ _ _)).ret ?_
          simp -dsimp -implicitDefEqProofs (maxSteps := 2000000) (disch := first | omega | assumption | (simp only [go_sem] <;> first | omega | assumption | fail) | fail) only [go_sem]
        all_goals first | exact cutSet hc (below_box (by simp -dsimp -implicitDefEqProofs (maxSteps := 2000000) (disch := first | omega | assumption | (simp only [go_sem] <;> first | omega | assumption | fail) | fail) only [go_sem])) ⟨rfl, by rw [hres] <;> rfl⟩ | exact Fin.now ⟨rfl, by rw [hres] <;> rfl⟩
      · have hres := hF.trans (if_neg (by rw [h9]; simp))
        first | exact cutSet hc (below_box (by simp -dsimp -implicitDefEqProofs (maxSteps := 2000000) (disch := first | omega | assumption | (simp only [go_sem] <;> first | omega | assumption | fail) | fail) only [go_sem])) ⟨rfl, by rw [hres] <;> rfl⟩ | exact Fin.now ⟨rfl, by rw [hres] <;> rfl⟩
  (refine condP_intro (fun h8 => ?_) (fun h8 => ?_) <;> (try simp only [Bool.and_eq_true, Bool.or_eq_true, Bool.not_eq_true', Bool.not_eq_false', Bool.or_eq_false_iff, Bool.and_eq_false_imp, decide_eq_true_eq, decide_eq_false_iff_not, Bool.not_eq_true, Bool.not_eq_false, Int.ofNat_lt, Int.ofNat_le] at h8) <;> simp -dsimp -implicitDefEqProofs (maxSteps := 2000000) (disch := first | omega | assumption | (simp only [go_sem] <;> first | omega | assumption | fail) | fail) only [go_sem, h8])
  · subst h8
    have hfe := fe_a b [98, 117, 116, 116, 111, 110] h1 h23 h4 h5 h6 (.inr rfl)
    have hfe2 : firstEnd [98, 117, 116, 116, 111, 110] b = (if decide (0 ≤ (nearR [[98, 117, 116, 116, 111, 110]] ([[116, 101, 109, 112, 108, 97, 116, 101]] : List (List UInt8)) b.opn)) then (b.end_ (nearR [[98, 117, 116, 116, 111, 110]] ([[116, 101, 109, 112, 108, 97, 116, 101]] : List (List UInt8)) b.opn)).fault 9 else b.end_ (nearR [[98, 117, 116, 116, 111, 110]] ([[116, 101, 109, 112, 108, 97, 116, 101]] : List (List UInt8)) b.opn)) := by
      rw [hfe]
      by_cases h : 0 ≤ (nearR [[98, 117, 116, 116, 111, 110]] ([[116, 101, 109, 112, 108, 97, 116, 101]] : List (List UInt8)) b.opn)
      · rw [if_pos h, if_pos (by simpa using h)]
      · rw [if_neg h, if_neg (by simpa using h), Bd.end_, if_neg h]
    clear hfe
    repeat' (first
      | refine And.intro ?_ ?_
      | (refine (tone_meets tE _ _ _ _).ret ?_; simp -dsimp -implicitDefEqProofs (maxSteps := 2000000) (disch := first | omega | assumption | (simp only [go_sem] <;> first | omega | assumption | fail) | fail) only [go_sem])
      | (refine (tbounds0_meets tE _ _ _).mono ?_; rintro _ _ ⟨c', hc', rfl, rfl⟩; simp -dsimp -implicitDefEqProofs (maxSteps := 2000000) (disch := first | omega | assumption | (simp only [go_sem] <;> first | omega | assumption | fail) | fail) only [go_sem, bounds_eq])
      | (refine (tnearOne_meets (b := b) (n := n) (ns := ([[98, 117, 116, 116, 111, 110]] : List (List UInt8))) (ws := ([[116, 101, 109, 112, 108, 97, 116, 101]] : List (List UInt8))) (by simp -dsimp -implicitDefEqProofs (maxSteps := 2000000) (disch := first | omega | assumption | (simp only [go_sem] <;> first | omega | assumption | fail) | fail) only [go_sem, hn] <;> rfl) hbo ⟨_, _, _, _, _, (by simp -dsimp -implicitDefEqProofs (maxSteps := 2000000) (disch := first | omega | assumption | (simp only [go_sem] <;> first | omega | assumption | fail) | fail) only [go_sem]; rfl), (by simp -dsimp -implicitDefEqProofs (maxSteps := 2000000) (disch := first | omega | assumption | (simp only [go_sem] <;> first | omega | assumption | fail) | fail) only [go_sem]; rfl), by decide, fun i hi => strs_get ([[98, 117, 116, 116, 111, 110]] : List (List UInt8)) i hi⟩ (by simp -dsimp -implicitDefEqProofs (maxSteps := 2000000) (disch := first | omega | assumption | (simp only [go_sem] <;> first | omega | assumption | fail) | fail) only [go_sem]; rfl) (by decide) (fun i hi => strs_get ([[116, 101, 109, 112, 108, 97, 116, 101]] : List (List UInt8)) i hi)).ret ?_; simp -dsimp -implicitDefEqProofs (maxSteps := 2000000) (disch := first | omega | assumption | (simp only [go_sem] <;> first | omega | assumption | fail) | fail) only [go_sem]))
    all_goals
      refine (tend_meets tE (b := b) (n := n) (by simp -dsimp -implicitDefEqProofs (maxSteps := 2000000) (disch := first | omega | assumption | (simp only [go_sem] <;> first | omega | assumption | fail) | fail) only [go_sem, hn] <;> rfl) hbo _ (nearR_le _ _ _)).ret ?_
      simp -dsimp -implicitDefEqProofs (maxSteps := 2000000) (disch := first | omega | assumption | (simp only [go_sem] <;> first | omega | assumption | fail) | fail) only [go_sem]
    all_goals
      refine (tcloses_meets tE (b := b.end_ (nearR [[98, 117, 116, 116, 111, 110]] ([[116, 101, 109, 112, 108, 97, 116, 101]] : List (List UInt8)) b.opn)) (n := n) (by simp -dsimp -implicitDefEqProofs (maxSteps := 2000000) (disch := first | omega | assumption | (simp only [go_sem] <;> first | omega | assumption | fail) | fail) only [go_sem, hn] <;> rfl) (hbo.end_ _) (decide (0 ≤ (nearR [[98, 117, 116, 116, 111, 110]] ([[116, 101, 109, 112, 108, 97, 116, 101]] : List (List UInt8)) b.opn)))).ret ?_
      simp -dsimp -implicitDefEqProofs (maxSteps := 2000000) (disch := first | omega | assumption | (simp only [go_sem] <;> first | omega | assumption | fail) | fail) only [go_sem]
    all_goals
      have hF := first_no b _ _ (hfe2) (h1) (h23)
      rw [bounds_eq] at hF
      refine (Meets.more (block_meets _ _)).ret ?_
      simp -dsimp -implicitDefEqProofs (maxSteps := 2000000) (disch := first | omega | assumption | (simp only [go_sem] <;> first | omega | assumption | fail) | fail) only [go_sem]
      (refine condP_intro (fun h9 => ?_) (fun h9 => ?_) <;> (try simp only [Bool.and_eq_true, Bool.or_eq_true, Bool.not_eq_true', Bool.not_eq_false', Bool.or_eq_false_iff, Bool.and_eq_false_imp, decide_eq_true_eq, decide_eq_false_iff_not, Bool.not_eq_true, Bool.not_eq_false, Int.ofNat_lt, Int.ofNat_le] at h9) <;> simp -dsimp -implicitDefEqProofs (maxSteps := 2000000) (disch := first | omega | assumption | (simp only [go_sem] <;> first | omega | assumption | fail) | fail) only [go_sem, h9])
      · have hres := hF.trans (if_pos h9)
        repeat' (first
          | refine And.intro ?_ ?_
          | (refine (tone_meets tE _ _ _ _).ret ?_; simp -dsimp -implicitDefEqProofs (maxSteps := 2000000) (disch := first | omega | assumption | (simp only [go_sem] <;> first | omega | assumption | fail) | fail) only [go_sem])
          | (refine (tbounds0_meets tE _ _ _).mono ?_; rintro _ _ ⟨c', hc', rfl, rfl⟩; simp -dsimp -implicitDefEqProofs (maxSteps := 2000000) (disch := first | omega | assumption | (simp only [go_sem] <;> first | omega | assumption | fail) | fail) only [go_sem, bounds_eq])
          | (refine (tnearOne_meets (b := (if decide (0 ≤ (nearR [[98, 117, 116, 116, 111, 110]] ([[116, 101, 109, 112, 108, 97, 116, 101]] : List (List UInt8)) b.opn)) then (b.end_ (nearR [[98, 117, 116, 116, 111, 110]] ([[116, 101, 109, 112, 108, 97, 116, 101]] : List (List UInt8)) b.opn)).fault 9 else b.end_ (nearR [[98, 117, 116, 116, 111, 110]] ([[116, 101, 109, 112, 108, 97, 116, 101]] : List (List UInt8)) b.opn))) (n := n) (ns := ([[112]] : List (List UInt8))) (ws := ([[116, 101, 109, 112, 108, 97, 116, 101], [98, 117, 116, 116, 111, 110], [111, 98, 106, 101, 99, 116]] : List (List UInt8))) (by simp -dsimp -implicitDefEqProofs (maxSteps := 2000000) (disch := first | omega | assumption | (simp only [go_sem] <;> first | omega | assumption | fail) | fail) only [go_sem, hn] <;> rfl) ((hb.end_ _).fltIf _ _) ⟨_, _, _, _, _, (by simp -dsimp -implicitDefEqProofs (maxSteps := 2000000) (disch := first | omega | assumption | (simp only [go_sem] <;> first | omega | assumption | fail) | fail) only [go_sem]; rfl), (by simp -dsimp -implicitDefEqProofs (maxSteps := 2000000) (disch := first | omega | assumption | (simp only [go_sem] <;> first | omega | assumption | fail) | fail) only [go_sem]; rfl), by decide, fun i hi => strs_get ([[112]] : List (List UInt8)) i hi⟩ (by simp -dsimp -implicitDefEqProofs (maxSteps := 2000000) (disch := first | omega | assumption | (simp only [go_sem] <;> first | omega | assumption | fail) | fail) only [go_sem]; rfl) (by decide) (fun i hi => strs_get ([[116, 101, 109, 112, 108, 97, 116, 101], [98, 117, 116, 116, 111, 110], [111, 98, 106, 101, 99, 116]] : List (List UInt8)) i hi)).ret ?_; simp -dsimp -implicitDefEqProofs (maxSteps := 2000000) (disch := first | omega | assumption | (simp only [go_sem] <;> first | omega | assumption | fail) | fail) only [go_sem]))
        all_goals
          refine (tend_meets tE (b := (if decide (0 ≤ (nearR [[98, 117, 116, 116, 111, 110]] ([[116, 101, 109, 112, 108, 97, 116, 101]] : List (List UInt8)) b.opn)) then (b.end_ (nearR [[98, 117, 116, 116, 111, 110]] ([[116, 101, 109, 112, 108, 97, 116, 101]] : List (List UInt8)) b.opn)).fault 9 else b.end_ (nearR [[98, 117, 116, 116, 111, 110]] ([[116, 101, 109, 112, 108, 97, 116, 101]] : List (List UInt8)) b.opn))) (n := n) (by simp -dsimp -implicitDefEqProofs (maxSteps := 2000000) (disch := first | omega | assumption | (simp only [go_sem] <;> first | omega | assumption | fail) | fail) only [go_sem, hn] <;> rfl) ((hb.end_ _).fltIf _ _) _ (nearR_le _ _ _)).ret ?_
          simp -dsimp -implicitDefEqProofs (maxSteps := 2000000) (disch := first | omega | assumption | (simp only [go_sem] <;> first | omega | assumption | fail) | fail) only [go_sem]
        all_goals first | exact cutSet hc (below_box (by simp -dsimp -implicitDefEqProofs (maxSteps := 2000000) (disch := first | omega | assumption | (simp only [go_sem] <;> first | omega | assumption | fail) | fail) only [go_sem])) ⟨rfl, by rw [hres] <;> rfl⟩ | exact Fin.now ⟨rfl, by rw [hres] <;> rfl⟩
      · have hres := hF.trans (if_neg (by rw [h9]; simp))
        first | exact cutSet hc (below_box (by simp -dsimp -implicitDefEqProofs (maxSteps := 2000000) (disch := first | omega | assumption | (simp only [go_sem] <;> first | omega | assumption | fail) | fail) only [go_sem])) ⟨rfl, by rw [hres] <;> rfl⟩ | exact Fin.now ⟨rfl, by rw [hres] <;> rfl⟩
  have hfe := fe_else b name h1 h23 h4 h5 h6 (fun h => h.elim h7 h8)
  have hF := first_no b _ _ hfe h1 h23
  rw [bounds_eq] at hF
  refine (Meets.more (block_meets _ _)).ret ?_
  simp -dsimp -implicitDefEqProofs (maxSteps := 2000000) (disch := first | omega | assumption | (simp only [go_sem] <;> first | omega | assumption | fail) | fail) only [go_sem]
  (refine condP_intro (fun h9 => ?_) (fun h9 => ?_) <;> (try simp only [Bool.and_eq_true, Bool.or_eq_true, Bool.not_eq_true', Bool.not_eq_false', Bool.or_eq_false_iff, Bool.and_eq_false_imp, decide_eq_true_eq, decide_eq_false_iff_not, Bool.not_eq_true, Bool.not_eq_false, Int.ofNat_lt, Int.ofNat_le] at h9) <;> simp -dsimp -implicitDefEqProofs (maxSteps := 2000000) (disch := first | omega | assumption | (simp only [go_sem] <;> first | omega | assumption | fail) | fail) only [go_sem, h9])
  · have hres := hF.trans (if_pos h9)
    repeat' (first
      | refine And.intro ?_ ?_
      | (refine (tone_meets tE _ _ _ _).ret ?_; simp -dsimp -implicitDefEqProofs (maxSteps := 2000000) (disch := first | omega | assumption | (simp only [go_sem] <;> first | omega | assumption | fail) | fail) only [go_sem])
      | (refine (tbounds0_meets tE _ _ _).mono ?_; rintro _ _ ⟨c', hc', rfl, rfl⟩; simp -dsimp -implicitDefEqProofs (maxSteps := 2000000) (disch := first | omega | assumption | (simp only [go_sem] <;> first | omega | assumption | fail) | fail) only [go_sem, bounds_eq])
      | (refine (tnearOne_meets (b := b) (n := n) (ns := ([[112]] : List (List UInt8))) (ws := ([[116, 101, 109, 112, 108, 97, 116, 101], [98, 117, 116, 116, 111, 110], [111, 98, 106, 101, 99, 116]] : List (List UInt8))) (by simp -dsimp -implicitDefEqProofs (maxSteps := 2000000) (disch := first | omega | assumption | (simp only [go_sem] <;> first | omega | assumption | fail) | fail) only [go_sem, hn] <;> rfl) hbo ⟨_, _, _, _, _, (by simp -dsimp -implicitDefEqProofs (maxSteps := 2000000) (disch := first | omega | assumption | (simp only [go_sem] <;> first | omega | assumption | fail) | fail) only [go_sem]; rfl), (by simp -dsimp -implicitDefEqProofs (maxSteps := 2000000) (disch := first | omega | assumption | (simp only [go_sem] <;> first | omega | assumption | fail) | fail) only [go_sem]; rfl), by decide, fun i hi => strs_get ([[112]] : List (List UInt8)) i hi⟩ (by simp -dsimp -implicitDefEqProofs (maxSteps := 2000000) (disch := first | omega | assumption | (simp only [go_sem] <;> first | omega | assumption | fail) | fail) only [go_sem]; rfl) (by decide) (fun i hi => strs_get ([[116, 101, 109, 112, 108, 97, 116, 101], [98, 117, 116, 116, 111, 110], [111, 98, 106, 101, 99, 116]] : List (List UInt8)) i hi)).ret ?_; simp -dsimp -implicitDefEqProofs (maxSteps := 2000000) (disch := first | omega | assumption | (simp only [go_sem] <;> first | omega | assumption | fail) | fail) only [go_sem]))
    all_goals
      refine (tend_meets tE (b := b) (n := n) (by simp -dsimp -implicitDefEqProofs (maxSteps := 2000000) (disch := first | omega | assumption | (simp only [go_sem] <;> first | omega | assumption | fail) | fail) only [go_sem, hn] <;> rfl) hbo _ (nearR_le _ _ _)).ret ?_
      simp -dsimp -implicitDefEqProofs (maxSteps := 2000000) (disch := first | omega | assumption | (simp only [go_sem] <;> first | omega | assumption | fail) | fail) only [go_sem]
    all_goals first | exact cutSet hc (below_box (by simp -dsimp -implicitDefEqProofs (maxSteps := 2000000) (disch := first | omega | assumption | (simp only [go_sem] <;> first | omega | assumption | fail) | fail) only [go_sem])) ⟨rfl, by rw [hres] <;> rfl⟩ | exact Fin.now ⟨rfl, by rw [hres] <;> rfl⟩
  · have hres := hF.trans (if_neg (by rw [h9]; simp))
    refine Fin.now ⟨rfl, ?_⟩
    rw [hres]
    exact (setn_same hn (by simp [bBox])).symm
end
end Go.Proofs.YtdpjmfipgkblfaaGreatDoor
