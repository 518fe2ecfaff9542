/- Contracts of package tree, by V: tokens, Build. -/
import Derived.Test.YtdpjmfipgkblfaaGreatDoorTreeW
set_option linter.unusedSimpArgs false
namespace Go.Proofs.YtdpjmfipgkblfaaGreatDoor
open Go Go.V
attribute [local irreducible] vc vcL vcP vcI vcO stOp Loops condP bx bx2 Meets Back
section
variable {b : Bd} {H : List Ent} {n : Nat}

/-- What a token may bring. -/
structure TokOk (t : Tok) : Prop where
  attrs : t.attrs.length ≤ 100000
  w : ∀ a ∈ t.attrs, WOk a
theorem nilAtts : CwLe (.nil 41 2) (encAtts []) := CwLe.of (CvLe.nil _ _ _ _)
attribute [local go_sem] a64 a64l a64r s64 s64l ite_min ite_max zlt_l zlt_r zle_l zle_r zeq len_eq byte_eq Nat.zero_le nth_set_ne List.forall_mem_cons all_nil isPl allSh_strs allNr_strs allSh_itm allNr_itm allSh_flt allNr_flt allSh_att allNr_att strs_length bBox encAtts strs_length Nat.reduceAdd Nat.reduceSub Nat.reduceMul Nat.reduceLT Nat.reduceLeDiff Nat.reduceEqDiff Int.reduceEq Int.reduceLT Int.reduceLE
set_option maxRecDepth 20000 in
set_option maxHeartbeats 4000000 in
theorem ttoken_meets (hn : nth H n = bBox b) (hb : BdSm b) (t : Tok) (ht : TokOk t) :
    Meets tE Tryz.prog 27 [.c (.ptr n 0 0), .s (.agg (encTok t))] H (Ret (.tup []) (setn H n (bBox (tokB t b)))) := by
  have hlt := bd_lt hn
  obtain ⟨hl, hw⟩ := ht
  obtain ⟨kd, nm, ats, sf, dt, ps⟩ := t
  simp only at hl hw
  refine Meets.closed fun hc => ?_
  refine Meets.of_body mixed tok (plan := fun _ => .done) Tryz.func27 Tryz.call27 Tryz.ntmps27 Tryz.results27 rfl (by kernel_rfl) ?_
  simp -dsimp -implicitDefEqProofs (maxSteps := 2000000) (disch := first | omega | assumption | (simp only [go_sem] <;> first | omega | assumption | fail) | fail) only [go_sem, encTok, hn]
  obtain ⟨b1, hb1⟩ : ∃ b1 : Bd, { b with at_ := ps } = b1 := ⟨_, rfl⟩
  have hs : BdSm b1 := by rw [← hb1]; exact ⟨hb.opn, hb.items, hb.faults⟩
  have h0 : tokB ⟨kd, nm, ats, sf, dt, ps⟩ b = if kd = 1 then startR ⟨kd, nm, ats, sf, dt, ps⟩ b1 else if kd = 2 then stopR nm b1 else if kd = 3 then (if dt = [] then b1 else b1.item ⟨0, 2, [], dt, []⟩) else if kd = 4 then b1.item ⟨0, 3, [], dt, []⟩ else if kd = 5 then (if b1.items = [] then b1.item ⟨0, 6, nm, [], []⟩ else b1.fault 8) else b1 := by
    rw [← hb1]
    rfl
  have e1 : b1.opn = b.opn := by rw [← hb1]
  have e2 : b1.items = b.items := by rw [← hb1]
  have e3 : b1.faults = b.faults := by rw [← hb1]
  have e4 : b1.at_ = ps := by rw [← hb1]
  clear hb1
  (refine condP_intro (fun h1 => ?_) (fun h1 => ?_) <;> (try simp only [Bool.and_eq_true, Bool.or_eq_true, Bool.not_eq_true', Bool.not_eq_false', Bool.or_eq_false_iff, Bool.and_eq_false_imp, decide_eq_true_eq, decide_eq_false_iff_not, Bool.not_eq_true, Bool.not_eq_false, Int.ofNat_lt, Int.ofNat_le] at h1) <;> simp -dsimp -implicitDefEqProofs (maxSteps := 2000000) (disch := first | omega | assumption | (simp only [go_sem] <;> first | omega | assumption | fail) | fail) only [go_sem, h1, nat_eq])
  · obtain rfl : kd = 1 := by omega
    have hres := h0.trans (if_pos rfl)
    refine (tstart_meets (b := b1) (n := n) (by simp -dsimp -implicitDefEqProofs (maxSteps := 2000000) (disch := first | omega | assumption | (simp only [go_sem] <;> first | omega | assumption | fail) | fail) only [go_sem, e1, e2, e3, e4] <;> rfl) hs ⟨1, nm, ats, sf, dt, ps⟩ (by simp only; omega) hw).ret ?_
    simp -dsimp -implicitDefEqProofs (maxSteps := 2000000) (disch := first | omega | assumption | (simp only [go_sem] <;> first | omega | assumption | fail) | fail) only [go_sem]
    exact cutSet hc (below_box (by simp -dsimp -implicitDefEqProofs (maxSteps := 2000000) (disch := first | omega | assumption | (simp only [go_sem] <;> first | omega | assumption | fail) | fail) only [go_sem])) ⟨rfl, by rw [hres] <;> rfl⟩
  (refine condP_intro (fun h2 => ?_) (fun h2 => ?_) <;> (try simp only [Bool.and_eq_true, Bool.or_eq_true, Bool.not_eq_true', Bool.not_eq_false', Bool.or_eq_false_iff, Bool.and_eq_false_imp, decide_eq_true_eq, decide_eq_false_iff_not, Bool.not_eq_true, Bool.not_eq_false, Int.ofNat_lt, Int.ofNat_le] at h2) <;> simp -dsimp -implicitDefEqProofs (maxSteps := 2000000) (disch := first | omega | assumption | (simp only [go_sem] <;> first | omega | assumption | fail) | fail) only [go_sem, h2, nat_eq])
  · obtain rfl : kd = 2 := by omega
    have hres := h0.trans rfl
    refine (tstop_meets (b := b1) (n := n) (by simp -dsimp -implicitDefEqProofs (maxSteps := 2000000) (disch := first | omega | assumption | (simp only [go_sem] <;> first | omega | assumption | fail) | fail) only [go_sem, e1, e2, e3, e4] <;> rfl) hs.in_ nm).ret ?_
    simp -dsimp -implicitDefEqProofs (maxSteps := 2000000) (disch := first | omega | assumption | (simp only [go_sem] <;> first | omega | assumption | fail) | fail) only [go_sem]
    exact cutSet hc (below_box (by simp -dsimp -implicitDefEqProofs (maxSteps := 2000000) (disch := first | omega | assumption | (simp only [go_sem] <;> first | omega | assumption | fail) | fail) only [go_sem])) ⟨rfl, by rw [hres] <;> rfl⟩
  (refine condP_intro (fun h3 => ?_) (fun h3 => ?_) <;> (try simp only [Bool.and_eq_true, Bool.or_eq_true, Bool.not_eq_true', Bool.not_eq_false', Bool.or_eq_false_iff, Bool.and_eq_false_imp, decide_eq_true_eq, decide_eq_false_iff_not, Bool.not_eq_true, Bool.not_eq_false, Int.ofNat_lt, Int.ofNat_le] at h3) <;> simp -dsimp -implicitDefEqProofs (maxSteps := 2000000) (disch := first | omega | assumption | (simp only [go_sem] <;> first | omega | assumption | fail) | fail) only [go_sem, h3, nat_eq])
  · obtain rfl : kd = 3 := by omega
    (refine condP_intro (fun h4 => ?_) (fun h4 => ?_) <;> (try simp only [Bool.and_eq_true, Bool.or_eq_true, Bool.not_eq_true', Bool.not_eq_false', Bool.or_eq_false_iff, Bool.and_eq_false_imp, decide_eq_true_eq, decide_eq_false_iff_not, Bool.not_eq_true, Bool.not_eq_false, Int.ofNat_lt, Int.ofNat_le] at h4) <;> simp -dsimp -implicitDefEqProofs (maxSteps := 2000000) (disch := first | omega | assumption | (simp only [go_sem] <;> first | omega | assumption | fail) | fail) only [go_sem, h4])
    · have hres := h0.trans (show _ = b1.item ⟨0, 2, [], dt, []⟩ from if_neg h4)
      refine (tlay_meets tE (b := b1) (n := n) (by simp -dsimp -implicitDefEqProofs (maxSteps := 2000000) (disch := first | omega | assumption | (simp only [go_sem] <;> first | omega | assumption | fail) | fail) only [go_sem, e1, e2, e3, e4] <;> rfl) hs.in_.ok ⟨0, 2, [], dt, []⟩ (.nil 41 2) rfl nilAtts).ret ?_
      simp -dsimp -implicitDefEqProofs (maxSteps := 2000000) (disch := first | omega | assumption | (simp only [go_sem] <;> first | omega | assumption | fail) | fail) only [go_sem]
      exact cutSet hc (below_box (by simp -dsimp -implicitDefEqProofs (maxSteps := 2000000) (disch := first | omega | assumption | (simp only [go_sem] <;> first | omega | assumption | fail) | fail) only [go_sem])) ⟨rfl, by rw [hres] <;> rfl⟩
    · have hres := h0.trans (show _ = b1 from if_pos h4)
      simp -dsimp -implicitDefEqProofs (maxSteps := 2000000) (disch := first | omega | assumption | (simp only [go_sem] <;> first | omega | assumption | fail) | fail) only [go_sem, nat_eq]
      exact cutSet hc (below_box (by simp -dsimp -implicitDefEqProofs (maxSteps := 2000000) (disch := first | omega | assumption | (simp only [go_sem] <;> first | omega | assumption | fail) | fail) only [go_sem])) ⟨rfl, by rw [hres, e1, e2, e3, e4] <;> rfl⟩
  (refine condP_intro (fun h5 => ?_) (fun h5 => ?_) <;> (try simp only [Bool.and_eq_true, Bool.or_eq_true, Bool.not_eq_true', Bool.not_eq_false', Bool.or_eq_false_iff, Bool.and_eq_false_imp, decide_eq_true_eq, decide_eq_false_iff_not, Bool.not_eq_true, Bool.not_eq_false, Int.ofNat_lt, Int.ofNat_le] at h5) <;> simp -dsimp -implicitDefEqProofs (maxSteps := 2000000) (disch := first | omega | assumption | (simp only [go_sem] <;> first | omega | assumption | fail) | fail) only [go_sem, h5, nat_eq])
  · obtain rfl : kd = 4 := by omega
    have hres := h0.trans (show _ = b1.item ⟨0, 3, [], dt, []⟩ from rfl)
    refine (tlay_meets tE (b := b1) (n := n) (by simp -dsimp -implicitDefEqProofs (maxSteps := 2000000) (disch := first | omega | assumption | (simp only [go_sem] <;> first | omega | assumption | fail) | fail) only [go_sem, e1, e2, e3, e4] <;> rfl) hs.in_.ok ⟨0, 3, [], dt, []⟩ (.nil 41 2) rfl nilAtts).ret ?_
    simp -dsimp -implicitDefEqProofs (maxSteps := 2000000) (disch := first | omega | assumption | (simp only [go_sem] <;> first | omega | assumption | fail) | fail) only [go_sem]
    exact cutSet hc (below_box (by simp -dsimp -implicitDefEqProofs (maxSteps := 2000000) (disch := first | omega | assumption | (simp only [go_sem] <;> first | omega | assumption | fail) | fail) only [go_sem])) ⟨rfl, by rw [hres] <;> rfl⟩
  (refine condP_intro (fun h6 => ?_) (fun h6 => ?_) <;> (try simp only [Bool.and_eq_true, Bool.or_eq_true, Bool.not_eq_true', Bool.not_eq_false', Bool.or_eq_false_iff, Bool.and_eq_false_imp, decide_eq_true_eq, decide_eq_false_iff_not, Bool.not_eq_true, Bool.not_eq_false, Int.ofNat_lt, Int.ofNat_le] at h6) <;> simp -dsimp -implicitDefEqProofs (maxSteps := 2000000) (disch := first | omega | assumption | (simp only [go_sem] <;> first | omega | assumption | fail) | fail) only [go_sem, h6, nat_eq])
  · obtain rfl : kd = 5 := by omega
    intro c hcap
    (refine condP_intro (fun h7 => ?_) (fun h7 => ?_) <;> (try simp only [Bool.and_eq_true, Bool.or_eq_true, Bool.not_eq_true', Bool.not_eq_false', Bool.or_eq_false_iff, Bool.and_eq_false_imp, decide_eq_true_eq, decide_eq_false_iff_not, Bool.not_eq_true, Bool.not_eq_false, Int.ofNat_lt, Int.ofNat_le] at h7) <;> simp -dsimp -implicitDefEqProofs (maxSteps := 2000000) (disch := first | omega | assumption | (simp only [go_sem] <;> first | omega | assumption | fail) | fail) only [go_sem, h7])
    · have hnil : b1.items = [] := by rw [e2]; exact List.eq_nil_of_length_eq_zero h7
      have hres := h0.trans (show _ = b1.item ⟨0, 6, nm, [], []⟩ from if_pos hnil)
      refine Meets.pack n ?_
      simp -dsimp -implicitDefEqProofs (maxSteps := 2000000) (disch := first | omega | assumption | (simp only [go_sem] <;> first | omega | assumption | fail) | fail) only [go_sem]
      (repeat (refine ⟨by first | omega | assumption | trivial | (simp only [List.length_take, List.length_map, List.length_append, List.length_cons, List.length_nil, List.length_drop]; omega), ?_⟩))
      refine (tlay_meets tE (b := b1) (n := n) (by simp -dsimp -implicitDefEqProofs (maxSteps := 2000000) (disch := first | omega | assumption | (simp only [go_sem] <;> first | omega | assumption | fail) | fail) only [go_sem, e1, e2, e3, e4, h7] <;> rfl) hs.in_.ok ⟨0, 6, nm, [], []⟩ (.nil 41 2) rfl nilAtts).ret ?_
      simp -dsimp -implicitDefEqProofs (maxSteps := 2000000) (disch := first | omega | assumption | (simp only [go_sem] <;> first | omega | assumption | fail) | fail) only [go_sem]
      exact cutSet hc (below_box (by simp -dsimp -implicitDefEqProofs (maxSteps := 2000000) (disch := first | omega | assumption | (simp only [go_sem] <;> first | omega | assumption | fail) | fail) only [go_sem])) ⟨rfl, by rw [hres] <;> rfl⟩
    · have hnil : ¬ b1.items = [] := fun h => h7 (by rw [← e2, h]; rfl)
      have hres := h0.trans (show _ = b1.fault 8 from if_neg hnil)
      simp -dsimp -implicitDefEqProofs (maxSteps := 2000000) (disch := first | omega | assumption | (simp only [go_sem] <;> first | omega | assumption | fail) | fail) only [go_sem, nat_eq]
      refine Meets.pack n ?_
      simp -dsimp -implicitDefEqProofs (maxSteps := 2000000) (disch := first | omega | assumption | (simp only [go_sem] <;> first | omega | assumption | fail) | fail) only [go_sem]
      (repeat (refine ⟨by first | omega | assumption | trivial | (simp only [List.length_take, List.length_map, List.length_append, List.length_cons, List.length_nil, List.length_drop]; omega), ?_⟩))
      refine (tfault_meets tE (b := b1) (n := n) (by simp -dsimp -implicitDefEqProofs (maxSteps := 2000000) (disch := first | omega | assumption | (simp only [go_sem] <;> first | omega | assumption | fail) | fail) only [go_sem, e1, e2, e3, e4] <;> rfl) hs.in_.ok 8).ret ?_
      simp -dsimp -implicitDefEqProofs (maxSteps := 2000000) (disch := first | omega | assumption | (simp only [go_sem] <;> first | omega | assumption | fail) | fail) only [go_sem]
      exact cutSet hc (below_box (by simp -dsimp -implicitDefEqProofs (maxSteps := 2000000) (disch := first | omega | assumption | (simp only [go_sem] <;> first | omega | assumption | fail) | fail) only [go_sem])) ⟨rfl, by rw [hres] <;> rfl⟩
  · have hres := h0.trans ((if_neg (by omega)).trans ((if_neg (by omega)).trans ((if_neg (by omega)).trans ((if_neg (by omega)).trans (if_neg (by omega))))))
    exact cutSet hc (below_box (by simp -dsimp -implicitDefEqProofs (maxSteps := 2000000) (disch := first | omega | assumption | (simp only [go_sem] <;> first | omega | assumption | fail) | fail) only [go_sem])) ⟨rfl, by rw [hres, e1, e2, e3, e4] <;> rfl⟩
/-! ### Build -/
theorem tmany_meets (E : Env) (x : Itm) (H : List Ent) : Meets E Tryz.prog 29 [.s (.agg (encItm x))] H (Ret (.d (.bool (decide (50 < x.attrs.length)))) H) := by
  refine Meets.closed fun hc => ?_
  refine Meets.of_body mixed tok (plan := fun _ => .done) Tryz.func29 Tryz.call29 Tryz.ntmps29 Tryz.results29 rfl (by kernel_rfl) ?_
  simp -dsimp -implicitDefEqProofs (maxSteps := 2000000) (disch := first | omega | assumption | (simp only [go_sem] <;> first | omega | assumption | fail) | fail) only [go_sem, encItm]
  exact Fin.cut (Nat.le_refl _) hc ⟨rfl, rfl⟩
instance : Inhabited Itm := ⟨⟨0, 0, [], [], []⟩⟩
theorem tanyI_meets (E : Env) (m cap c : Nat) (l : List Itm) (hl : l.length < 1073741824) (H : List Ent) (hm : nth H m = .row 38 5 l.length c (at2 (l.map encItm))) :
    Meets E Tryz.prog 28 [.c (.sl m 5 0 l.length cap), .c (.fn 29 [])] H (Ret (.d (.bool (l.any fun x => decide (50 < x.attrs.length)))) H) := by
  have hidx : Meets E Tryz.prog 50 [.c (.sl m 5 0 l.length cap), .c (.fn 29 [])] H (Ret (.d (.int .i64 (firstFrom (fun i => decide (50 < (l.getD i default).attrs.length)) l.length 0))) H) := by
    refine Meets.of_body mixed tok (plan := fun _ => .done) Tryz.func50 Tryz.call50 Tryz.ntmps50 Tryz.results50 rfl (by kernel_rfl) ?_
    simp -dsimp -implicitDefEqProofs (maxSteps := 2000000) (disch := first | omega | assumption | (simp only [go_sem] <;> first | omega | assumption | fail) | fail) only [go_sem]
    refine Loops.on (α := Nat) (fun i => i ≤ l.length ∧ firstFrom (fun i => decide (50 < (l.getD i default).attrs.length)) l.length 0 = firstFrom (fun i => decide (50 < (l.getD i default).attrs.length)) (l.length - i) i) (fun i => l.length - i) (fun i => [(8, .d (.int .i64 i))]) (fun _ => H) 0 ⟨Nat.zero_le _, rfl⟩ ?_ ?_
    · exact Goes.slots (by simp -dsimp -implicitDefEqProofs (maxSteps := 2000000) (disch := first | omega | assumption | (simp only [go_sem] <;> first | omega | assumption | fail) | fail) only [go_sem]; exact .same rfl) rfl
    rintro i ⟨hi, hfst⟩
    simp -dsimp -implicitDefEqProofs (maxSteps := 2000000) (disch := first | omega | assumption | (simp only [go_sem] <;> first | omega | assumption | fail) | fail) only [go_sem]
    refine condP_intro (fun h => ?_) (fun h => ?_) <;> simp only [decide_eq_true_eq, decide_eq_false_iff_not] at h
    · have hst := firstFrom_step (fun i => decide (50 < (l.getD i default).attrs.length)) l.length i h
      have g0 := at2_map encItm l i 0 h
      have g1 := at2_map encItm l i 1 h
      have g2 := at2_map encItm l i 2 h
      have g3 := at2_map encItm l i 3 h
      have g4 := at2_map encItm l i 4 h
      obtain ⟨x, hx⟩ : ∃ x, l.getD i default = x := ⟨_, rfl⟩
      rw [hx] at g0 g1 g2 g3 g4
      simp only [encItm, List.getD_cons_zero, List.getD_cons_succ] at g0 g1 g2 g3 g4
      simp -dsimp -implicitDefEqProofs (maxSteps := 2000000) (disch := first | omega | assumption | (simp only [go_sem] <;> first | omega | assumption | fail) | fail) only [go_sem, h, hm, g0, g1, g2, g3, g4]
      refine (tmany_meets E x H).ret ?_
      simp -dsimp -implicitDefEqProofs (maxSteps := 2000000) (disch := first | omega | assumption | (simp only [go_sem] <;> first | omega | assumption | fail) | fail) only [go_sem]
      rw [hx] at hst
      (refine condP_intro (fun hp => ?_) (fun hp => ?_) <;> (try simp only [Bool.and_eq_true, Bool.or_eq_true, Bool.not_eq_true', Bool.not_eq_false', Bool.or_eq_false_iff, Bool.and_eq_false_imp, decide_eq_true_eq, decide_eq_false_iff_not, Bool.not_eq_true, Bool.not_eq_false, Int.ofNat_lt, Int.ofNat_le] at hp) <;> simp -dsimp -implicitDefEqProofs (maxSteps := 2000000) (disch := first | omega | assumption | (simp only [go_sem] <;> first | omega | assumption | fail) | fail) only [go_sem, hp])
      · exact Fin.ret (int_av (by rw [hfst, hst, if_pos (by rw [decide_eq_true_eq]; exact hp)])) rfl
      · refine Back.mk (i + 1) ⟨⟨h, by rw [hfst, hst, if_neg (by rw [decide_eq_true_eq]; exact hp)]⟩, by omega⟩ (Goes.slots (by simp -dsimp -implicitDefEqProofs (maxSteps := 2000000) (disch := first | omega | assumption | (simp only [go_sem] <;> first | omega | assumption | fail) | fail) only [go_sem]) rfl)
    · simp -dsimp -implicitDefEqProofs (maxSteps := 2000000) (disch := first | omega | assumption | (simp only [go_sem] <;> first | omega | assumption | fail) | fail) only [go_sem, h]
      exact Fin.ret (int_av (by rw [hfst, show l.length - i = 0 by omega]; rfl)) rfl
  refine Meets.of_body mixed tok (plan := fun _ => .done) Tryz.func28 Tryz.call28 Tryz.ntmps28 Tryz.results28 rfl (by kernel_rfl) ?_
  simp -dsimp -implicitDefEqProofs (maxSteps := 2000000) (disch := first | omega | assumption | (simp only [go_sem] <;> first | omega | assumption | fail) | fail) only [go_sem]
  refine hidx.ret ?_
  simp -dsimp -implicitDefEqProofs (maxSteps := 2000000) (disch := first | omega | assumption | (simp only [go_sem] <;> first | omega | assumption | fail) | fail) only [go_sem]
  refine Fin.ret (bool_av ?_) rfl
  rw [Bool.eq_iff_iff, decide_eq_true_eq, firstFrom_nonneg, List.any_eq_true]
  constructor
  · rintro ⟨j, _, h2, h3⟩
    have hj : j < l.length := by omega
    refine ⟨l.getD j default, ?_, h3⟩
    rw [List.getD, List.getElem?_eq_getElem hj]
    exact List.getElem_mem hj
  · rintro ⟨b, hb, hp⟩
    obtain ⟨j, hj⟩ := List.getElem?_of_mem hb
    have hlt := (List.getElem?_eq_some_iff.1 hj).1
    exact ⟨j, Nat.zero_le _, by omega, by simpa [List.getD, hj] using hp⟩
end
end Go.Proofs.YtdpjmfipgkblfaaGreatDoor
