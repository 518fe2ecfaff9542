/- Contracts of package tree, by V: starts, ends, tokens. -/
import Derived.Test.YtdpjmfipgkblfaaGreatDoorTreeT
set_option linter.unusedSimpArgs false
namespace Go.Proofs.YtdpjmfipgkblfaaGreatDoor
open Go Go.V
attribute [local irreducible] vc vcL vcP vcI vcO stOp Loops condP bx bx2 Meets Back
section
variable {b : Bd} {H : List Ent} {n : Nat}

theorem attrsF_len : ∀ (l o : List Att) (b : Bd), (attrsF l o b).1.length ≤ o.length + l.length ∧ (attrsF l o b).2.opn = b.opn ∧ (attrsF l o b).2.items = b.items ∧ (attrsF l o b).2.faults.length ≤ b.faults.length + l.length ∧ (attrsF l o b).2.at_ = b.at_
  | [], o, b => ⟨by simp [attrsF], rfl, rfl, by simp [attrsF], rfl⟩
  | a :: l, o, b => by
    unfold attrsF
    split
    · have := attrsF_len l (o ++ [a]) b
      simp only [List.length_append, List.length_cons, List.length_nil] at this ⊢
      exact ⟨by omega, this.2.1, this.2.2.1, by omega, this.2.2.2.2⟩
    · have := attrsF_len l o (b.fault 5)
      simp only [Bd.fault, List.length_append, List.length_cons, List.length_nil] at this ⊢
      exact ⟨by omega, this.2.1, this.2.2.1, by omega, this.2.2.2.2⟩
theorem firstR_len (name : List UInt8) (b : Bd) : (firstR name b).opn.length ≤ b.opn.length ∧ (firstR name b).items = b.items ∧ (firstR name b).faults.length ≤ b.faults.length + 1 ∧ (firstR name b).at_ = b.at_ := by
  have hpop : ∀ b : Bd, b.pop.opn.length ≤ b.opn.length := fun b => by simp only [Bd.pop, List.length_take]; omega
  have h : ∀ b1, b1 = firstEnd name b → b1.opn.length ≤ b.opn.length ∧ b1.items = b.items ∧ b1.faults.length ≤ b.faults.length + 1 ∧ b1.at_ = b.at_ := by
    rintro b1 rfl
    unfold firstEnd
    split
    · obtain ⟨h1, h2, h3, h4⟩ := end_len (nearR [w "li"] (boundsL ++ [w "ul", w "ol"]) b.opn) b
      exact ⟨h1, h2, by rw [h3]; omega, h4⟩
    split
    · obtain ⟨h1, h2, h3, h4⟩ := end_len (nearR [w "dd", w "dt"] (boundsL ++ [w "dl"]) b.opn) b
      exact ⟨h1, h2, by rw [h3]; omega, h4⟩
    split
    · split
      · exact ⟨hpop b, rfl, Nat.le_succ _, rfl⟩
      · exact ⟨Nat.le_refl _, rfl, Nat.le_succ _, rfl⟩
    split
    · have hb1 : ∀ b1, (if b.top [w "option"] then b.pop else b) = b1 → b1.opn.length ≤ b.opn.length ∧ b1.items = b.items ∧ b1.faults = b.faults ∧ b1.at_ = b.at_ := by
        rintro b1 rfl
        split
        · exact ⟨hpop b, rfl, rfl, rfl⟩
        · exact ⟨Nat.le_refl _, rfl, rfl, rfl⟩
      simp only
      obtain ⟨b1, hbb⟩ : ∃ b1, (if b.top [w "option"] then b.pop else b) = b1 := ⟨_, rfl⟩
      rw [hbb]
      obtain ⟨h1, h2, h3, h4⟩ := hb1 _ hbb
      split
      · exact ⟨Nat.le_trans (hpop _) h1, h2, by show b1.faults.length ≤ _; rw [h3]; omega, h4⟩
      · exact ⟨h1, h2, by rw [h3]; omega, h4⟩
    split
    · split
      · exact ⟨hpop b, rfl, by simp [Bd.fault, Bd.pop], rfl⟩
      · exact ⟨Nat.le_refl _, rfl, Nat.le_succ _, rfl⟩
    split
    · simp only
      split
      · obtain ⟨h1, h2, h3, h4⟩ := end_len (nearR [name] [w "template"] b.opn) b
        exact ⟨h1, h2, by simp only [Bd.fault, List.length_append, List.length_cons, List.length_nil]; rw [h3]; omega, h4⟩
      · exact ⟨Nat.le_refl _, rfl, Nat.le_succ _, rfl⟩
    · exact ⟨Nat.le_refl _, rfl, Nat.le_succ _, rfl⟩
  obtain ⟨h1, h2, h3, h4⟩ := h _ rfl
  unfold firstR
  simp only
  split
  · obtain ⟨g1, g2, g3, g4⟩ := end_len (nearR [w "p"] boundsL (firstEnd name b).opn) (firstEnd name b)
    exact ⟨Nat.le_trans g1 h1, g2.trans h2, by rw [g3]; exact h3, g4.trans h4⟩
  · exact ⟨h1, h2, h3, h4⟩
/-- Small enough for one token more. -/
structure BdSm (b : Bd) : Prop where
  opn : b.opn.length ≤ 100
  items : b.items.length < 50000000
  faults : b.faults.length < 50000000
theorem BdSm.in_ {b : Bd} (h : BdSm b) : BdIn b := ⟨h.opn, by have := h.items; omega, by have := h.faults; omega⟩
attribute [local go_sem] a64 a64l a64r s64 s64l ite_min ite_max zlt_l zlt_r zle_l zle_r zeq len_eq byte_eq Nat.zero_le nth_set_ne List.forall_mem_cons all_nil isPl allSh_strs allNr_strs allSh_itm allNr_itm allSh_flt allNr_flt allSh_att allNr_att strs_length bBox encAtts strs_length Nat.reduceAdd Nat.reduceSub Nat.reduceMul Nat.reduceLT Nat.reduceLeDiff Nat.reduceEqDiff Int.reduceEq Int.reduceLT Int.reduceLE
set_option maxRecDepth 20000 in
set_option maxHeartbeats 2000000 in
theorem tstart_meets (hn : nth H n = bBox b) (hb : BdSm b) (t : Tok) (hl : t.attrs.length ≤ 1000000) (hw : ∀ a ∈ t.attrs, WOk a) :
    Meets tE Tryz.prog 46 [.c (.ptr n 0 0), .s (.agg (encTok t))] H (Ret (.tup []) (setn H n (bBox (startR t b)))) := by
  have hlt := bd_lt hn
  refine Meets.closed fun hc => ?_
  refine Meets.of_body mixed tok (plan := (fun | 4 => (.take 0 (.take 1 (.take 3 (.take 4 (.take 5 (.fork 2 (.one 6 (.take 7 (.one 8 .done))) (.fork 6 (.take 2 (.take 7 (.one 8 .done))) .nil))))))) | 6 => (.take 0 (.take 1 (.take 2 (.take 3 (.take 4 (.take 5 (.take 6 (.take 7 (.one 8 (.one 9 (.take 10 (.take 11 (.take 12 (.one 13 .done)))))))))))))) | _ => .done)) Tryz.func46 Tryz.call46 Tryz.ntmps46 Tryz.results46 rfl (by kernel_rfl) ?_
  simp -dsimp -implicitDefEqProofs (maxSteps := 2000000) (disch := first | omega | assumption | (simp only [go_sem] <;> first | omega | assumption | fail) | fail) only [go_sem, encTok]
  refine (Meets.more (valid_meets _ _)).ret ?_
  simp -dsimp -implicitDefEqProofs (maxSteps := 2000000) (disch := first | omega | assumption | (simp only [go_sem] <;> first | omega | assumption | fail) | fail) only [go_sem]
  (refine condP_intro (fun h1 => ?_) (fun h1 => ?_) <;> (try simp only [Bool.and_eq_true, Bool.or_eq_true, Bool.not_eq_true', Bool.not_eq_false', Bool.or_eq_false_iff, Bool.and_eq_false_imp, decide_eq_true_eq, decide_eq_false_iff_not, Bool.not_eq_true, Bool.not_eq_false, Int.ofNat_lt, Int.ofNat_le] at h1) <;> simp -dsimp -implicitDefEqProofs (maxSteps := 2000000) (disch := first | omega | assumption | (simp only [go_sem] <;> first | omega | assumption | fail) | fail) only [go_sem, h1])
  · refine (tfault_meets tE (b := b) (n := n) (by simp -dsimp -implicitDefEqProofs (maxSteps := 2000000) (disch := first | omega | assumption | (simp only [go_sem] <;> first | omega | assumption | fail) | fail) only [go_sem, hn] <;> rfl) hb.in_.ok 4).ret ?_
    simp -dsimp -implicitDefEqProofs (maxSteps := 2000000) (disch := first | omega | assumption | (simp only [go_sem] <;> first | omega | assumption | fail) | fail) only [go_sem]
    exact cutSet hc (below_box (by simp -dsimp -implicitDefEqProofs (maxSteps := 2000000) (disch := first | omega | assumption | (simp only [go_sem] <;> first | omega | assumption | fail) | fail) only [go_sem])) ⟨rfl, by rw [startR, if_neg (by rw [h1]; simp)] <;> rfl⟩
  · have hf := firstR_len t.name b
    refine (tfirst_meets (b := b) (n := n) (by simp -dsimp -implicitDefEqProofs (maxSteps := 2000000) (disch := first | omega | assumption | (simp only [go_sem] <;> first | omega | assumption | fail) | fail) only [go_sem, hn] <;> rfl) hb.in_ t.name).ret ?_
    simp -dsimp -implicitDefEqProofs (maxSteps := 2000000) (disch := first | omega | assumption | (simp only [go_sem] <;> first | omega | assumption | fail) | fail) only [go_sem]
    have hres0 : startR t b = (let p := attrsF t.attrs [] (firstR t.name b); let b2 := p.2.item ⟨0, 1, t.name, [], p.1⟩; if !voids.contains t.name && decide (b2.opn.length < 100) then { b2 with opn := b2.opn ++ [t.name] } else b2) := by
      rw [startR, if_pos h1]
    obtain ⟨b1, hb1⟩ : ∃ b1, firstR t.name b = b1 := ⟨_, rfl⟩
    rw [hb1] at hf hres0
    rw [hb1]
    have hbi : BdIn b1 := ⟨Nat.le_trans hf.1 hb.opn, by rw [hf.2.1]; have := hb.items; omega, by have := hb.faults; omega⟩
    have ha := attrsF_len t.attrs [] b1
    have hbo2 : BdOk (attrsF t.attrs [] b1).2 := ⟨by rw [ha.2.1]; exact hbi.opn, by rw [ha.2.2.1]; have := hbi.items; omega, by have := hbi.faults; omega⟩
    obtain ⟨p, hp⟩ : ∃ p, attrsF t.attrs [] b1 = p := ⟨_, rfl⟩
    have hat := tattrs_meets (b := b1) (H := setn H n (bBox b1) ++ [.box 43 [.int .u8 t.kind, .str t.name, encAtts t.attrs, .bool t.self, .str t.data, .int .i64 t.pos]]) (n := n) (by simp -dsimp -implicitDefEqProofs (maxSteps := 2000000) (disch := first | omega | assumption | (simp only [go_sem] <;> first | omega | assumption | fail) | fail) only [go_sem]) hbi t.attrs hl hw _ rfl
    rw [hp] at hat ha hbo2 hres0
    simp only at hres0
    obtain ⟨b2, hb2⟩ : ∃ b2, p.2.item ⟨0, 1, t.name, [], p.1⟩ = b2 := ⟨_, rfl⟩
    have hlay := fun H' hh => tlay_meets tE (b := p.2) (H := H') (n := n) hh hbo2 ⟨0, 1, t.name, [], p.1⟩ (encAtts p.1) rfl (CwLe.refl _)
    rw [hb2] at hlay hres0
    have hb2o : b2.opn.length ≤ 100 := by rw [← hb2]; exact hbo2.opn
    repeat' (first
      | refine And.intro ?_ ?_
      | (refine Meets.heq (by first | rfl | simp -dsimp -implicitDefEqProofs (maxSteps := 2000000) (disch := first | omega | assumption | (simp only [go_sem] <;> first | omega | assumption | fail) | fail) only [go_sem]) (Meets.ret hat ?_); simp -dsimp -implicitDefEqProofs (maxSteps := 2000000) (disch := first | omega | assumption | (simp only [go_sem] <;> first | omega | assumption | fail) | fail) only [go_sem])
      | (refine Meets.ret (hlay _ (by simp -dsimp -implicitDefEqProofs (maxSteps := 2000000) (disch := first | omega | assumption | (simp only [go_sem] <;> first | omega | assumption | fail) | fail) only [go_sem])) ?_; simp -dsimp -implicitDefEqProofs (maxSteps := 2000000) (disch := first | omega | assumption | (simp only [go_sem] <;> first | omega | assumption | fail) | fail) only [go_sem]))
    all_goals
      refine (Meets.more (void_meets _ _)).ret ?_
      simp -dsimp -implicitDefEqProofs (maxSteps := 2000000) (disch := first | omega | assumption | (simp only [go_sem] <;> first | omega | assumption | fail) | fail) only [go_sem]
      (refine condP_intro (fun h2 => ?_) (fun h2 => ?_) <;> (try simp only [Bool.and_eq_true, Bool.or_eq_true, Bool.not_eq_true', Bool.not_eq_false', Bool.or_eq_false_iff, Bool.and_eq_false_imp, decide_eq_true_eq, decide_eq_false_iff_not, Bool.not_eq_true, Bool.not_eq_false, Int.ofNat_lt, Int.ofNat_le] at h2) <;> simp -dsimp -implicitDefEqProofs (maxSteps := 2000000) (disch := first | omega | assumption | (simp only [go_sem] <;> first | omega | assumption | fail) | fail) only [go_sem, h2])
      · intro c hcap
        (refine condP_intro (fun h3 => ?_) (fun h3 => ?_) <;> (try simp only [Bool.and_eq_true, Bool.or_eq_true, Bool.not_eq_true', Bool.not_eq_false', Bool.or_eq_false_iff, Bool.and_eq_false_imp, decide_eq_true_eq, decide_eq_false_iff_not, Bool.not_eq_true, Bool.not_eq_false, Int.ofNat_lt, Int.ofNat_le] at h3) <;> simp -dsimp -implicitDefEqProofs (maxSteps := 2000000) (disch := first | omega | assumption | (simp only [go_sem] <;> first | omega | assumption | fail) | fail) only [go_sem, h3])
        · have hres : startR t b = { b2 with opn := b2.opn ++ [t.name] } := by rw [hres0, if_pos (by rw [h2, decide_eq_true h3]; rfl)]
          (repeat (refine ⟨by first | omega | assumption | trivial | (simp only [List.length_take, List.length_map, List.length_append, List.length_cons, List.length_nil, List.length_drop]; omega), ?_⟩))
          intro c' hc'
          refine Fin.pack n ?_
          simp -dsimp -implicitDefEqProofs (maxSteps := 2000000) (disch := first | omega | assumption | (simp only [go_sem] <;> first | omega | assumption | fail) | fail) only [go_sem]
          (repeat (refine ⟨by first | omega | assumption | trivial | (simp only [List.length_take, List.length_map, List.length_append, List.length_cons, List.length_nil, List.length_drop]; omega), ?_⟩))
          refine cutSet hc (below_box (by simp -dsimp -implicitDefEqProofs (maxSteps := 2000000) (disch := first | omega | assumption | (simp only [go_sem] <;> first | omega | assumption | fail) | fail) only [go_sem])) ⟨rfl, ?_⟩
          rw [hres]
          simp only [strs, List.map_append, List.map_cons, List.map_nil, List.length_append, List.length_cons, List.length_nil]
        · have hres : startR t b = b2 := by rw [hres0, if_neg (by rw [h2, decide_eq_false h3]; simp)]
          refine Fin.pack n ?_
          simp -dsimp -implicitDefEqProofs (maxSteps := 2000000) (disch := first | omega | assumption | (simp only [go_sem] <;> first | omega | assumption | fail) | fail) only [go_sem]
          (repeat (refine ⟨by first | omega | assumption | trivial | (simp only [List.length_take, List.length_map, List.length_append, List.length_cons, List.length_nil, List.length_drop]; omega), ?_⟩))
          exact cutSet hc (below_box (by simp -dsimp -implicitDefEqProofs (maxSteps := 2000000) (disch := first | omega | assumption | (simp only [go_sem] <;> first | omega | assumption | fail) | fail) only [go_sem])) ⟨rfl, by rw [hres] <;> rfl⟩
      · have hres : startR t b = b2 := by rw [hres0, if_neg (by rw [h2]; simp)]
        exact cutSet hc (below_box (by simp -dsimp -implicitDefEqProofs (maxSteps := 2000000) (disch := first | omega | assumption | (simp only [go_sem] <;> first | omega | assumption | fail) | fail) only [go_sem])) ⟨rfl, by rw [hres] <;> rfl⟩
theorem tput_meets (hn : nth H n = bBox b) (hb : BdIn b) (name : List UInt8) :
    Meets tE Tryz.prog 75 [.c (.ptr n 0 0), .d (.str name)] H (Ret (.tup []) (setn H n (bBox ((b.fault 8).item ⟨0, 1, name, [], []⟩)))) := by
  have hlt := bd_lt hn
  have hb1 := hb.fltIf true 8
  refine Meets.of_body mixed tok (plan := fun _ => .done) Tryz.func75 Tryz.call75 Tryz.ntmps75 Tryz.results75 rfl (by kernel_rfl) ?_
  simp -dsimp -implicitDefEqProofs (maxSteps := 2000000) (disch := first | omega | assumption | (simp only [go_sem] <;> first | omega | assumption | fail) | fail) only [go_sem]
  refine (tfault_meets tE hn hb.ok 8).ret ?_
  simp -dsimp -implicitDefEqProofs (maxSteps := 2000000) (disch := first | omega | assumption | (simp only [go_sem] <;> first | omega | assumption | fail) | fail) only [go_sem]
  refine (tlay_meets tE (b := b.fault 8) (n := n) (by simp -dsimp -implicitDefEqProofs (maxSteps := 2000000) (disch := first | omega | assumption | (simp only [go_sem] <;> first | omega | assumption | fail) | fail) only [go_sem]) hb1 ⟨0, 1, name, [], []⟩ (.nil 41 2) rfl (CwLe.of (CvLe.nil _ _ _ _))).ret ?_
  simp -dsimp -implicitDefEqProofs (maxSteps := 2000000) (disch := first | omega | assumption | (simp only [go_sem] <;> first | omega | assumption | fail) | fail) only [go_sem]
  exact Fin.ret rfl rfl
theorem tlasts_meets (E : Env) (x : List UInt8) (H : List Ent) :
    Meets E Tryz.prog 78 [.d (.str x)] H (Ret (.d (.bool (!lastsL.contains x))) H) := by
  refine Meets.closed fun hc => ?_
  refine Meets.of_body mixed tok (plan := fun _ => .done) Tryz.func78 Tryz.call78 Tryz.ntmps78 Tryz.results78 rfl (by kernel_rfl) ?_
  simp -dsimp -implicitDefEqProofs (maxSteps := 2000000) (disch := first | omega | assumption | (simp only [go_sem] <;> first | omega | assumption | fail) | fail) only [go_sem]
  refine (tone_meets E _ _ _ _).ret ?_
  simp -dsimp -implicitDefEqProofs (maxSteps := 2000000) (disch := first | omega | assumption | (simp only [go_sem] <;> first | omega | assumption | fail) | fail) only [go_sem]
  have hl : lastsL = [[108, 105], [100, 100], [100, 116], [111, 112, 116, 105, 111, 110], [111, 112, 116, 103, 114, 111, 117, 112], [112]] := by kernel_rfl
  rw [hl]
  refine Meets.ret (tone1_meets E (ws := [[108, 105], [100, 100], [100, 116], [111, 112, 116, 105, 111, 110], [111, 112, 116, 103, 114, 111, 117, 112], [112]]) ⟨_, _, _, _, _, (by simp -dsimp -implicitDefEqProofs (maxSteps := 2000000) (disch := first | omega | assumption | (simp only [go_sem] <;> first | omega | assumption | fail) | fail) only [go_sem]; rfl), (by simp -dsimp -implicitDefEqProofs (maxSteps := 2000000) (disch := first | omega | assumption | (simp only [go_sem] <;> first | omega | assumption | fail) | fail) only [go_sem]; rfl), by decide, fun i hi => strs_get _ i hi⟩ x) ?_
  simp -dsimp -implicitDefEqProofs (maxSteps := 2000000) (disch := first | omega | assumption | (simp only [go_sem] <;> first | omega | assumption | fail) | fail) only [go_sem]
  exact Fin.cut (Nat.le_refl _) hc ⟨rfl, rfl⟩
end
end Go.Proofs.YtdpjmfipgkblfaaGreatDoor
