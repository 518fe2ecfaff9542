/- Contracts of package tree, by V: attributes that may be written, starts. -/
import Derived.Test.YtdpjmfipgkblfaaGreatDoorTreeS
import Derived.Test.YtdpjmfipgkblfaaGreatDoorTokI
set_option linter.unusedSimpArgs false
namespace Go.Proofs.YtdpjmfipgkblfaaGreatDoor
open Go Go.V
attribute [local irreducible] vc vcL vcP vcI vcO stOp Loops condP bx bx2 Meets Back
section
variable {b : Bd} {H : List Ent} {n : Nat}

attribute [local go_sem] a64 a64l a64r s64 s64l ite_min ite_max zlt_l zlt_r zle_l zle_r zeq len_eq byte_eq Nat.zero_le nth_set_ne List.forall_mem_cons all_nil isPl allSh_strs allNr_strs allSh_itm allNr_itm allSh_flt allNr_flt allSh_att allNr_att strs_length bBox attRow strs_length Nat.reduceAdd Nat.reduceSub Nat.reduceMul Nat.reduceLT Nat.reduceLeDiff Nat.reduceEqDiff Int.reduceEq Int.reduceLT Int.reduceLE
set_option maxRecDepth 20000 in
theorem ttwice1_meets (E : Env) {p : Nat} {name : List UInt8} (hp : nth H p = .box 9 [.str name]) (a : Att) :
    Meets E Tryz.prog 83 (.s (.agg (encAtt a)) :: capArgs [p]) H (Ret (.d (.bool (decide (a.name = name)))) H) := by
  have hp1 := nth_lt hp (by simp)
  refine Meets.closed fun hc => ?_
  refine Meets.of_body mixed tok (plan := fun _ => .done) Tryz.func83 Tryz.call83 Tryz.ntmps83 Tryz.results83 rfl (by kernel_rfl) ?_
  simp -dsimp -implicitDefEqProofs (maxSteps := 2000000) (disch := first | omega | assumption | (simp only [go_sem] <;> first | omega | assumption | fail) | fail) only [go_sem, encAtt, hp]
  exact Fin.cut (Nat.le_refl _) hc ⟨rfl, rfl⟩
/-- The place of the first that is so; -1: none. -/
theorem tindexF_meets (E : Env) (g : Nat) (caps : List Nat) (q : Att → Bool) (m cap c : Nat) (l : List Att) (hl : l.length < 1073741824) (H : List Ent) (hm : nth H m = attRow c l)
    (hf : ∀ a, Meets E Tryz.prog g (.s (.agg (encAtt a)) :: capArgs caps) H (Ret (.d (.bool (q a))) H)) :
    Meets E Tryz.prog 107 [.c (.sl m 2 0 l.length cap), .c (.fn g caps)] H (Ret (.d (.int .i64 (firstFrom (fun i => q (l.getD i default)) l.length 0))) H) := by
  refine Meets.of_body mixed tok (plan := fun _ => .done) Tryz.func107 Tryz.call107 Tryz.ntmps107 Tryz.results107 rfl (by kernel_rfl) ?_
  simp -dsimp -implicitDefEqProofs (maxSteps := 2000000) (disch := first | omega | assumption | (simp only [go_sem] <;> first | omega | assumption | fail) | fail) only [go_sem]
  refine Loops.on (α := Nat) (fun i => i ≤ l.length ∧ firstFrom (fun i => q (l.getD i default)) l.length 0 = firstFrom (fun i => q (l.getD i default)) (l.length - i) i) (fun i => l.length - i) (fun i => [(8, .d (.int .i64 i))]) (fun _ => H) 0 ⟨Nat.zero_le _, rfl⟩ ?_ ?_
  · exact Goes.slots (by simp -dsimp -implicitDefEqProofs (maxSteps := 2000000) (disch := first | omega | assumption | (simp only [go_sem] <;> first | omega | assumption | fail) | fail) only [go_sem]; exact .same rfl) rfl
  rintro i ⟨hi, hfst⟩
  simp -dsimp -implicitDefEqProofs (maxSteps := 2000000) (disch := first | omega | assumption | (simp only [go_sem] <;> first | omega | assumption | fail) | fail) only [go_sem]
  (refine condP_intro (fun h => ?_) (fun h => ?_) <;> (try simp only [Bool.and_eq_true, Bool.or_eq_true, Bool.not_eq_true', Bool.not_eq_false', Bool.or_eq_false_iff, Bool.and_eq_false_imp, decide_eq_true_eq, decide_eq_false_iff_not, Bool.not_eq_true, Bool.not_eq_false, Int.ofNat_lt, Int.ofNat_le] at h) <;> simp -dsimp -implicitDefEqProofs (maxSteps := 2000000) (disch := first | omega | assumption | (simp only [go_sem] <;> first | omega | assumption | fail) | fail) only [go_sem, h, hm, attRow])
  · have hst := firstFrom_step (fun i => q (l.getD i default)) l.length i h
    have h0 := at2_map encAtt l i 0 h
    have h1 := at2_map encAtt l i 1 h
    simp only [encAtt, List.getD_cons_zero, List.getD_cons_succ] at h0 h1
    simp -dsimp -implicitDefEqProofs (maxSteps := 2000000) (disch := first | omega | assumption | (simp only [go_sem] <;> first | omega | assumption | fail) | fail) only [go_sem, hm, attRow, h0, h1]
    refine (hf (l.getD i default)).ret ?_
    simp -dsimp -implicitDefEqProofs (maxSteps := 2000000) (disch := first | omega | assumption | (simp only [go_sem] <;> first | omega | assumption | fail) | fail) only [go_sem]
    (refine condP_intro (fun hp => ?_) (fun hp => ?_) <;> (try simp only [Bool.and_eq_true, Bool.or_eq_true, Bool.not_eq_true', Bool.not_eq_false', Bool.or_eq_false_iff, Bool.and_eq_false_imp, decide_eq_true_eq, decide_eq_false_iff_not, Bool.not_eq_true, Bool.not_eq_false, Int.ofNat_lt, Int.ofNat_le] at hp) <;> simp -dsimp -implicitDefEqProofs (maxSteps := 2000000) (disch := first | omega | assumption | (simp only [go_sem] <;> first | omega | assumption | fail) | fail) only [go_sem, hp])
    · exact Fin.ret (int_av (by rw [hfst, hst, if_pos hp])) rfl
    · refine Back.mk (i + 1) ⟨⟨h, by rw [hfst, hst, if_neg (by rw [hp]; simp)]⟩, by omega⟩ (Goes.slots (by simp -dsimp -implicitDefEqProofs (maxSteps := 2000000) (disch := first | omega | assumption | (simp only [go_sem] <;> first | omega | assumption | fail) | fail) only [go_sem]) rfl)
  · exact Fin.ret (by rw [hfst, show l.length - i = 0 by omega]; rfl) rfl
theorem tcontainsF_meets (E : Env) (g : Nat) (caps : List Nat) (q : Att → Bool) (m cap c : Nat) (l : List Att) (hl : l.length < 1073741824) (H : List Ent) (hm : nth H m = attRow c l)
    (hf : ∀ a, Meets E Tryz.prog g (.s (.agg (encAtt a)) :: capArgs caps) H (Ret (.d (.bool (q a))) H)) :
    Meets E Tryz.prog 82 [.c (.sl m 2 0 l.length cap), .c (.fn g caps)] H (Ret (.d (.bool (l.any q))) H) := by
  refine Meets.of_body mixed tok (plan := fun _ => .done) Tryz.func82 Tryz.call82 Tryz.ntmps82 Tryz.results82 rfl (by kernel_rfl) ?_
  simp -dsimp -implicitDefEqProofs (maxSteps := 2000000) (disch := first | omega | assumption | (simp only [go_sem] <;> first | omega | assumption | fail) | fail) only [go_sem]
  refine (tindexF_meets E g caps q m cap c l hl H hm hf).ret ?_
  simp -dsimp -implicitDefEqProofs (maxSteps := 2000000) (disch := first | omega | assumption | (simp only [go_sem] <;> first | omega | assumption | fail) | fail) only [go_sem]
  refine Fin.ret (bool_av ?_) rfl
  rw [Bool.eq_iff_iff, decide_eq_true_eq, firstFrom_nonneg, List.any_eq_true]
  constructor
  · rintro ⟨j, _, h2, h3⟩
    have hj : j < l.length := by omega
    refine ⟨l.getD j default, ?_, h3⟩
    rw [List.getD, List.getElem?_eq_getElem hj]
    exact List.getElem_mem hj
  · rintro ⟨b, hb, hp⟩
    obtain ⟨j, hj⟩ := List.getElem?_of_mem hb
    have hlt := (List.getElem?_eq_some_iff.1 hj).1
    exact ⟨j, Nat.zero_le _, by omega, by simpa [List.getD, hj] using hp⟩
theorem ttwice_meets (E : Env) (m cap c : Nat) (l : List Att) (hl : l.length < 1073741824) (H : List Ent) (hm : nth H m = attRow c l) (name : List UInt8) :
    Meets E Tryz.prog 52 [.c (.sl m 2 0 l.length cap), .d (.str name)] H (Ret (.d (.bool (hasA l name))) H) := by
  have hml : m < H.length := nth_lt hm (by simp [attRow])
  refine Meets.closed fun hc => ?_
  refine Meets.of_body mixed tok (plan := fun _ => .done) Tryz.func52 Tryz.call52 Tryz.ntmps52 Tryz.results52 rfl (by kernel_rfl) ?_
  simp -dsimp -implicitDefEqProofs (maxSteps := 2000000) (disch := first | omega | assumption | (simp only [go_sem] <;> first | omega | assumption | fail) | fail) only [go_sem]
  refine (tcontainsF_meets E _ _ (fun a => decide (a.name = name)) m cap c l hl _ (by simp -dsimp -implicitDefEqProofs (maxSteps := 2000000) (disch := first | omega | assumption | (simp only [go_sem] <;> first | omega | assumption | fail) | fail) only [go_sem]; exact hm) (fun a => ttwice1_meets E (by simp -dsimp -implicitDefEqProofs (maxSteps := 2000000) (disch := first | omega | assumption | (simp only [go_sem] <;> first | omega | assumption | fail) | fail) only [go_sem]) a)).ret ?_
  simp -dsimp -implicitDefEqProofs (maxSteps := 2000000) (disch := first | omega | assumption | (simp only [go_sem] <;> first | omega | assumption | fail) | fail) only [go_sem]
  exact Fin.cut (Nat.le_refl _) hc ⟨rfl, rfl⟩
theorem Back.rnA {E : Env} {N0 N : Nat} {α : Type} {Iv : α → Prop} {μ : α → Nat} {f : α → St} {x : α} {l : List AV} {A L : List Ent} (ix : List Nat) (hA : A.length = N) (hN : N0 ≤ N) (hc : Closed N A) (hix : rnOk N ix) (hrow : rowsNr (ix.map (nth (A ++ L))))
    (h : Back E N0 Iv μ f x ⟨l.map (mapA (rnC N ix)), A ++ (ix.map (nth (A ++ L))).map (rnE N ix)⟩) : Back E N0 Iv μ f x ⟨l, A ++ L⟩ := by
  subst hA
  exact Back.rn ix hN hc hix hrow h
/-- What is known of whether an attribute may be written. -/
def WOk (a : Att) : Prop := ∀ H, Meets tE Tryz.prog 51 [.s (.agg (encAtt a))] H (Ret (.d (.bool (writableA a))) H)
set_option maxRecDepth 20000 in
set_option maxHeartbeats 1000000 in
theorem tattrs_meets (hn : nth H n = bBox b) (hb : BdIn b) (l : List Att) (hl : l.length ≤ 1000000) (hw : ∀ a ∈ l, WOk a) (a0 : CV) (ha0 : a0 = encAtts l) :
    Meets tE Tryz.prog 70 [.c (.ptr n 0 0), .c a0] H (Ret (.c (encAtts (attrsF l [] b).1)) (setn H n (bBox (attrsF l [] b).2))) := by
  have hlt := bd_lt hn
  subst ha0
  refine Meets.closed fun hc => ?_
  refine Meets.of_body mixed tok (plan := fun _ => .done) Tryz.func70 Tryz.call70 Tryz.ntmps70 Tryz.results70 rfl (by kernel_rfl) ?_
  simp -dsimp -implicitDefEqProofs (maxSteps := 2000000) (disch := first | omega | assumption | (simp only [go_sem] <;> first | omega | assumption | fail) | fail) only [go_sem, encAtts]
  refine Loops.on (α := Nat × List Att × Bd × Nat) (fun q => q.1 ≤ l.length ∧ q.2.1.length ≤ q.1 ∧ q.2.1.length ≤ q.2.2.2 ∧ attrsF (l.drop q.1) q.2.1 q.2.2.1 = attrsF l [] b ∧ q.2.2.1.opn = b.opn ∧ q.2.2.1.items = b.items ∧ q.2.2.1.faults.length ≤ b.faults.length + q.1 ∧ q.2.2.1.at_ = b.at_) (fun q => l.length - q.1)
    (fun q => [(10, .d (.int .i64 q.1)), (5, .c (.sl H.length 2 0 q.2.1.length q.2.2.2))]) (fun q => setn H n (bBox q.2.2.1) ++ [attRow q.2.2.2 q.2.1]) (0, [], b, 0) ⟨Nat.zero_le _, Nat.le_refl _, Nat.le_refl _, rfl, rfl, rfl, Nat.le_refl _, rfl⟩ ?_ ?_
  · refine Goes.mv (HMv.nil _ _ 41 2 (at2 [])) (Goes.slots ?_ ?_)
    · simp -dsimp -implicitDefEqProofs (maxSteps := 2000000) (disch := first | omega | assumption | (simp only [go_sem] <;> first | omega | assumption | fail) | fail) only [go_sem]
      exact ⟨AvLe_nil _ _ _ _ _, .same rfl⟩
    · rw [setn_same hn (by simp [bBox])]; rfl
  rintro ⟨i, o, b1, c⟩ ⟨hi, ho, hoc, heq, hb1, hb2, hb3, hb4⟩
  simp only at hi ho hoc heq hb1 hb2 hb3 hb4
  have hbok : BdOk b1 := ⟨by rw [hb1]; exact hb.opn, by rw [hb2]; have := hb.items; omega, by have := hb.faults; omega⟩
  simp -dsimp -implicitDefEqProofs (maxSteps := 2000000) (disch := first | omega | assumption | (simp only [go_sem] <;> first | omega | assumption | fail) | fail) only [go_sem]
  refine condP_intro (fun h => ?_) (fun h => ?_) <;> simp only [decide_eq_true_eq, decide_eq_false_iff_not] at h
  · have h0 := at2_map encAtt l i 0 h
    have h1 := at2_map encAtt l i 1 h
    simp only [encAtt, List.getD_cons_zero, List.getD_cons_succ] at h0 h1
    have hdr : l.drop i = l.getD i default :: l.drop (i + 1) := by rw [List.drop_eq_getElem_cons h]; simp [List.getD, h]
    have hmem : l.getD i default ∈ l := by rw [List.getD, List.getElem?_eq_getElem h]; exact List.getElem_mem h
    rw [hdr] at heq
    obtain ⟨a, ha⟩ : ∃ a, l.getD i default = a := ⟨_, rfl⟩
    rw [ha] at h0 h1 heq hmem
    simp -dsimp -implicitDefEqProofs (maxSteps := 2000000) (disch := first | omega | assumption | (simp only [go_sem] <;> first | omega | assumption | fail) | fail) only [go_sem, h, h0, h1]
    refine (hw a hmem _).ret ?_
    simp -dsimp -implicitDefEqProofs (maxSteps := 2000000) (disch := first | omega | assumption | (simp only [go_sem] <;> first | omega | assumption | fail) | fail) only [go_sem]
    (refine condP_intro (fun hwr => ?_) (fun hwr => ?_) <;> (try simp only [Bool.and_eq_true, Bool.or_eq_true, Bool.not_eq_true', Bool.not_eq_false', Bool.or_eq_false_iff, Bool.and_eq_false_imp, decide_eq_true_eq, decide_eq_false_iff_not, Bool.not_eq_true, Bool.not_eq_false, Int.ofNat_lt, Int.ofNat_le] at hwr) <;> simp -dsimp -implicitDefEqProofs (maxSteps := 2000000) (disch := first | omega | assumption | (simp only [go_sem] <;> first | omega | assumption | fail) | fail) only [go_sem, hwr])
    · refine (ttwice_meets tE H.length c c o (by omega) _ (by simp -dsimp -implicitDefEqProofs (maxSteps := 2000000) (disch := first | omega | assumption | (simp only [go_sem] <;> first | omega | assumption | fail) | fail) only [go_sem] <;> rfl) a.name).ret ?_
      simp -dsimp -implicitDefEqProofs (maxSteps := 2000000) (disch := first | omega | assumption | (simp only [go_sem] <;> first | omega | assumption | fail) | fail) only [go_sem]
      (refine condP_intro (fun htw => ?_) (fun htw => ?_) <;> (try simp only [Bool.and_eq_true, Bool.or_eq_true, Bool.not_eq_true', Bool.not_eq_false', Bool.or_eq_false_iff, Bool.and_eq_false_imp, decide_eq_true_eq, decide_eq_false_iff_not, Bool.not_eq_true, Bool.not_eq_false, Int.ofNat_lt, Int.ofNat_le] at htw) <;> simp -dsimp -implicitDefEqProofs (maxSteps := 2000000) (disch := first | omega | assumption | (simp only [go_sem] <;> first | omega | assumption | fail) | fail) only [go_sem, htw])
      · rw [attrsF, if_neg (by rw [htw]; simp)] at heq
        refine (tfault_meets tE (b := b1) (n := n) (by simp -dsimp -implicitDefEqProofs (maxSteps := 2000000) (disch := first | omega | assumption | (simp only [go_sem] <;> first | omega | assumption | fail) | fail) only [go_sem]) hbok 5).ret ?_
        simp -dsimp -implicitDefEqProofs (maxSteps := 2000000) (disch := first | omega | assumption | (simp only [go_sem] <;> first | omega | assumption | fail) | fail) only [go_sem]
        refine Back.rnA (N := H.length) [H.length] (by rw [setn_length]) (Nat.le_refl _) (Closed.set hc (below_box (by simp -dsimp -implicitDefEqProofs (maxSteps := 2000000) (disch := first | omega | assumption | (simp only [go_sem] <;> first | omega | assumption | fail) | fail) only [go_sem]))) (by simp [rnOk, rnOk.rnFresh]) (by simp -dsimp -implicitDefEqProofs (maxSteps := 2000000) (disch := first | omega | assumption | (simp only [go_sem] <;> first | omega | assumption | fail) | fail) only [go_sem]) ?_
        simp -dsimp -implicitDefEqProofs (maxSteps := 2000000) (disch := first | omega | assumption | (simp only [go_sem] <;> first | omega | assumption | fail) | fail) only [go_sem, hlt]
        exact Back.mk (i + 1, o, b1.fault 5, c) ⟨⟨h, by simp only; omega, hoc, heq, hb1, hb2, by simp only [Bd.fault, List.length_append, List.length_cons, List.length_nil]; omega, hb4⟩, by simp only; omega⟩ (Goes.slots (by simp -dsimp -implicitDefEqProofs (maxSteps := 2000000) (disch := first | omega | assumption | (simp only [go_sem] <;> first | omega | assumption | fail) | fail) only [go_sem]) (by first | rfl | simp -dsimp -implicitDefEqProofs (maxSteps := 2000000) (disch := first | omega | assumption | (simp only [go_sem] <;> first | omega | assumption | fail) | fail) only [go_sem, Bd.fault]))
      · rw [attrsF, if_pos (by rw [hwr, htw]; rfl)] at heq
        (repeat (refine ⟨by first | omega | assumption | trivial | (simp only [List.length_take, List.length_map, List.length_append, List.length_cons, List.length_nil, List.length_drop]; omega), ?_⟩))
        intro c' hc'
        refine Back.rnA (N := H.length) [H.length + 3] (by rw [setn_length]) (Nat.le_refl _) (Closed.set hc (below_box (by simp -dsimp -implicitDefEqProofs (maxSteps := 2000000) (disch := first | omega | assumption | (simp only [go_sem] <;> first | omega | assumption | fail) | fail) only [go_sem]))) (by simp [rnOk, rnOk.rnFresh]) (by simp -dsimp -implicitDefEqProofs (maxSteps := 2000000) (disch := first | omega | assumption | (simp only [go_sem] <;> first | omega | assumption | fail) | fail) only [go_sem]) ?_
        simp -dsimp -implicitDefEqProofs (maxSteps := 2000000) (disch := first | omega | assumption | (simp only [go_sem] <;> first | omega | assumption | fail) | fail) only [go_sem, hlt]
        exact Back.mk (i + 1, o ++ [a], b1, c') ⟨⟨h, by simp only [List.length_append, List.length_cons, List.length_nil]; omega, by simp only [List.length_append, List.length_cons, List.length_nil]; omega, heq, hb1, hb2, by simp only; omega, hb4⟩, by simp only; omega⟩ (Goes.slots (by simp -dsimp -implicitDefEqProofs (maxSteps := 2000000) (disch := first | omega | assumption | (simp only [go_sem] <;> first | omega | assumption | fail) | fail) only [go_sem]) (by first | rfl | simp -dsimp -implicitDefEqProofs (maxSteps := 2000000) (disch := first | omega | assumption | (simp only [go_sem] <;> first | omega | assumption | fail) | fail) only [go_sem, List.map_append, encAtt]))
    · rw [attrsF, if_neg (by rw [hwr]; simp)] at heq
      refine (tfault_meets tE (b := b1) (n := n) (by simp -dsimp -implicitDefEqProofs (maxSteps := 2000000) (disch := first | omega | assumption | (simp only [go_sem] <;> first | omega | assumption | fail) | fail) only [go_sem]) hbok 5).ret ?_
      simp -dsimp -implicitDefEqProofs (maxSteps := 2000000) (disch := first | omega | assumption | (simp only [go_sem] <;> first | omega | assumption | fail) | fail) only [go_sem]
      refine Back.rnA (N := H.length) [H.length] (by rw [setn_length]) (Nat.le_refl _) (Closed.set hc (below_box (by simp -dsimp -implicitDefEqProofs (maxSteps := 2000000) (disch := first | omega | assumption | (simp only [go_sem] <;> first | omega | assumption | fail) | fail) only [go_sem]))) (by simp [rnOk, rnOk.rnFresh]) (by simp -dsimp -implicitDefEqProofs (maxSteps := 2000000) (disch := first | omega | assumption | (simp only [go_sem] <;> first | omega | assumption | fail) | fail) only [go_sem]) ?_
      simp -dsimp -implicitDefEqProofs (maxSteps := 2000000) (disch := first | omega | assumption | (simp only [go_sem] <;> first | omega | assumption | fail) | fail) only [go_sem, hlt]
      exact Back.mk (i + 1, o, b1.fault 5, c) ⟨⟨h, by simp only; omega, hoc, heq, hb1, hb2, by simp only [Bd.fault, List.length_append, List.length_cons, List.length_nil]; omega, hb4⟩, by simp only; omega⟩ (Goes.slots (by simp -dsimp -implicitDefEqProofs (maxSteps := 2000000) (disch := first | omega | assumption | (simp only [go_sem] <;> first | omega | assumption | fail) | fail) only [go_sem]) (by first | rfl | simp -dsimp -implicitDefEqProofs (maxSteps := 2000000) (disch := first | omega | assumption | (simp only [go_sem] <;> first | omega | assumption | fail) | fail) only [go_sem, Bd.fault]))
  · obtain rfl : i = l.length := by omega
    rw [List.drop_length] at heq
    simp -dsimp -implicitDefEqProofs (maxSteps := 2000000) (disch := first | omega | assumption | (simp only [go_sem] <;> first | omega | assumption | fail) | fail) only [go_sem]
    refine Fin.frz H.length ?_
    simp -dsimp -implicitDefEqProofs (maxSteps := 2000000) (disch := first | omega | assumption | (simp only [go_sem] <;> first | omega | assumption | fail) | fail) only [go_sem]
    refine ⟨fun _ => hoc, cutSet hc (below_box (by simp -dsimp -implicitDefEqProofs (maxSteps := 2000000) (disch := first | omega | assumption | (simp only [go_sem] <;> first | omega | assumption | fail) | fail) only [go_sem])) ⟨?_, ?_⟩⟩
    · rw [← heq]
      rfl
    · rw [← heq]
      rfl
end
end Go.Proofs.YtdpjmfipgkblfaaGreatDoor
