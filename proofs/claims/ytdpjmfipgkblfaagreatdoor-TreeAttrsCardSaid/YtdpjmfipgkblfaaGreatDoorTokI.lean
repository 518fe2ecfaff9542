/- Contracts of the document's answer for layer 6, by V: attributes. -/
import Derived.Test.YtdpjmfipgkblfaaGreatDoorTokH
set_option linter.unusedSimpArgs false
namespace Go.Proofs.YtdpjmfipgkblfaaGreatDoor
open Go Go.V
attribute [local irreducible] vc vcL vcP vcI vcO stOp Loops condP bx bx2 Meets Back
section
variable {s : List UInt8} {r : Rd} {H : List Ent} {n m cap : Nat} {l : List Att}

instance : Inhabited Att := ⟨⟨[], []⟩⟩
theorem Fin.rn' {E : Env} {N0 N : Nat} {post : AV → List Ent → Prop} {v : AV} {A L : List Ent} (ix : List Nat) (hA : A.length = N) (hN : N0 ≤ N) (hc : Closed N A) (hix : rnOk N ix) (hrow : rowsNr (ix.map (nth (A ++ L))))
    (h : V.Fin E N0 post (mapA (rnC N ix) v) (A ++ (ix.map (nth (A ++ L))).map (rnE N ix))) : V.Fin E N0 post v (A ++ L) := by
  subst hA
  exact Fin.rn ix hN hc hix hrow h
def attRow (cap : Nat) (l : List Att) : Ent := .row 41 2 l.length cap (at2 (l.map encAtt))
/-- What comes of an attribute: the list as it was, or one more in a new row. -/
def AttrPost (s : List UInt8) (r : Rd) (l : List Att) (H : List Ent) (n m cap : Nat) : AV → List Ent → Prop := fun v H' =>
  ((attrR s l r).1.1 = l ∧ v = .tup [.c (.sl m 2 0 l.length cap), .c (.bool (attrR s l r).1.2)] ∧ H' = setn H n (rdBox s (attrR s l r).2)) ∨
  ∃ x c', (attrR s l r).1 = (l ++ [x], true) ∧ l.length + 1 ≤ c' ∧ v = .tup [.c (.sl H.length 2 0 (l.length + 1) c'), .c (.bool true)] ∧ H' = setn (setn H n (rdBox s (attrR s l r).2)) m .dead ++ [attRow c' (l ++ [x])]
def thereF (name : List UInt8) (l : List Att) (i : Nat) : Bool := decide (50 ≤ l.length) || (l.take i).any fun a => decide (a.name = name)
theorem thereF_all (name : List UInt8) (l : List Att) : thereF name l l.length = thereR l name := by simp [thereF, thereR]
theorem thereF_zero (name : List UInt8) (l : List Att) : thereF name l 0 = decide (50 ≤ l.length) := by simp [thereF]
theorem thereF_step (name : List UInt8) (l : List Att) (i : Nat) (h : i < l.length) : thereF name l (i + 1) = (thereF name l i || decide ((l.getD i ⟨[], []⟩).name = name)) := by
  simp only [thereF, List.take_add_one, List.any_append, Bool.or_assoc]
  simp [List.getD, h]
attribute [local go_sem] a64 a64l a64r s64 s64l ite_min ite_max zlt_l zlt_r zle_l zle_r zeq len_eq byte_eq Nat.zero_le nth_set_ne List.forall_mem_cons all_nil isPl allSh_tok allSh_flt allNr_tok allNr_flt allSh_att allNr_att rdBox attRow Rd.to Rd.fault dn_at dn_f dn_frm dn_text Nat.reduceAdd Nat.reduceSub Nat.reduceMul Nat.reduceLT Nat.reduceLeDiff Nat.reduceEqDiff Int.reduceEq Int.reduceLT Int.reduceLE
set_option maxRecDepth 20000 in
set_option maxHeartbeats 4000000 in
theorem rattr_meets (E : Env) (hn : nth H n = rdBox s r) (hm : nth H m = attRow cap l) (hmn : ¬ m = n) (hl : l.length ≤ 50) (hlc : l.length ≤ cap) (hs : s.length < 100000000) (hr3 : r.f.length < 500000000) (hk : r.at_ < s.length) :
    Meets E Tryz.prog 60 [.c (.ptr n 0 0), .c (.sl m 2 0 l.length cap)] H (AttrPost s r l H n m cap) := by
  have hlt := rd_lt hn
  have hml : m < H.length := nth_lt hm (by simp [attRow])
  have hs' : s.length < 1073741824 := by omega
  refine Meets.closed fun hc => ?_
  refine Meets.of_body mixed tok (plan := fun _ => .done) Tryz.func60 Tryz.call60 Tryz.ntmps60 Tryz.results60 rfl (by kernel_rfl) ?_
  simp -dsimp -implicitDefEqProofs (maxSteps := 2000000) (disch := first | omega | assumption | (simp only [go_sem] <;> first | omega | assumption | fail) | fail) only [go_sem, hn]
  have hw := word_bd (e := [47, 62, 61]) (s := s) (i := r.at_ + 1) hk
  have hb := blanks_bd hw.2
  have hone : (sub s r.at_ (r.at_ + 1)).length ≤ 1 := by simp only [sub, List.length_take]; omega
  have hnm : (cleanL (lowerL (sub s r.at_ (r.at_ + 1)))).length ≤ 3 := by
    have := cleanL_len (lowerL (sub s r.at_ (r.at_ + 1)))
    simp only [lowerL, List.length_map] at this
    simp only [lowerL]
    omega
  have hnm2 : (nameR [47, 62, 61] s (r.at_ + 1)).length ≤ 3 * s.length := by
    have h1 := cleanL_len (lowerL (sub s (r.at_ + 1) (wordE [47, 62, 61] s (r.at_ + 1))))
    simp only [nameR]
    simp only [lowerL, List.length_map, sub, List.length_take, List.length_drop] at h1 ⊢
    omega
  -- behind the first byte
  have hnm' : ¬ n = m := fun h => hmn h.symm
  refine ⟨hk, ?_⟩
  (refine condP_intro (fun h => ?_) (fun h => ?_) <;> (try simp only [Bool.and_eq_true, Bool.or_eq_true, Bool.not_eq_true', Bool.not_eq_false', Bool.or_eq_false_iff, Bool.and_eq_false_imp, decide_eq_true_eq, decide_eq_false_iff_not, Bool.not_eq_true, Bool.not_eq_false, Int.ofNat_lt, Int.ofNat_le] at h) <;> simp -dsimp -implicitDefEqProofs (maxSteps := 2000000) (disch := first | omega | assumption | (simp only [go_sem] <;> first | omega | assumption | fail) | fail) only [go_sem, h, hn])
  · refine (rfault_meets E hn (by omega) 5 r.at_).ret ?_
    simp -dsimp -implicitDefEqProofs (maxSteps := 2000000) (disch := first | omega | assumption | (simp only [go_sem] <;> first | omega | assumption | fail) | fail) only [go_sem]
    have hr1 : (if bAt s r.at_ = 61 then r.fault 5 r.at_ else r) = r.fault 5 r.at_ := if_pos h
    have hR1f : (r.fault 5 r.at_).f.length ≤ r.f.length + 1 := by simp [Rd.fault]
    (repeat (refine ⟨by first | omega | assumption | trivial | (simp only [List.length_take, List.length_map, List.length_append, List.length_cons, List.length_nil, List.length_drop]; omega), ?_⟩))
    refine (rlower_meets (sub s r.at_ (r.at_ + 1)) (by omega) E _).ret ?_
    simp -dsimp -implicitDefEqProofs (maxSteps := 2000000) (disch := first | omega | assumption | (simp only [go_sem] <;> first | omega | assumption | fail) | fail) only [go_sem]
    refine (rclean_meets E (lowerL (sub s r.at_ (r.at_ + 1))) (by simp only [lowerL, List.length_map]; omega) _).ret ?_
    simp -dsimp -implicitDefEqProofs (maxSteps := 2000000) (disch := first | omega | assumption | (simp only [go_sem] <;> first | omega | assumption | fail) | fail) only [go_sem]
    have hX := nth_set H n (rdBox s ((r.fault 5 r.at_).to (r.at_ + 1))) hlt
    refine Meets.heq (H' := setn H n (rdBox s ((r.fault 5 r.at_).to (r.at_ + 1)))) (by first | rfl | simp -dsimp -implicitDefEqProofs (maxSteps := 2000000) (disch := first | omega | assumption | (simp only [go_sem] <;> first | omega | assumption | fail) | fail) only [go_sem]) (Meets.ret (rname_meets E hX hs' hk [47, 62, 61] (by decide)) ?_)
    simp -dsimp -implicitDefEqProofs (maxSteps := 2000000) (disch := first | omega | assumption | (simp only [go_sem] <;> first | omega | assumption | fail) | fail) only [go_sem]
    (repeat (refine ⟨by first | omega | assumption | trivial | (simp only [List.length_take, List.length_map, List.length_append, List.length_cons, List.length_nil, List.length_drop]; omega), ?_⟩))
    have hX := nth_set H n (rdBox s ((r.fault 5 r.at_).to (wordE [47, 62, 61] s (r.at_ + 1)))) hlt
    refine Meets.heq (H' := setn H n (rdBox s ((r.fault 5 r.at_).to (wordE [47, 62, 61] s (r.at_ + 1))))) (by first | rfl | simp -dsimp -implicitDefEqProofs (maxSteps := 2000000) (disch := first | omega | assumption | (simp only [go_sem] <;> first | omega | assumption | fail) | fail) only [go_sem]) (Meets.ret (rblanks_meets E hX hs' hw.2) ?_)
    simp -dsimp -implicitDefEqProofs (maxSteps := 2000000) (disch := first | omega | assumption | (simp only [go_sem] <;> first | omega | assumption | fail) | fail) only [go_sem]
    have hX := nth_set H n (rdBox s ((r.fault 5 r.at_).to (blanksE s (wordE [47, 62, 61] s (r.at_ + 1))))) hlt
    refine Meets.heq (H' := setn H n (rdBox s ((r.fault 5 r.at_).to (blanksE s (wordE [47, 62, 61] s (r.at_ + 1)))))) (by first | rfl | simp -dsimp -implicitDefEqProofs (maxSteps := 2000000) (disch := first | omega | assumption | (simp only [go_sem] <;> first | omega | assumption | fail) | fail) only [go_sem]) (Meets.ret (rlooks_meets E hX hs' hb.2 [61]) ?_)
    simp -dsimp -implicitDefEqProofs (maxSteps := 2000000) (disch := first | omega | assumption | (simp only [go_sem] <;> first | omega | assumption | fail) | fail) only [go_sem]
    (refine condP_intro (fun h2 => ?_) (fun h2 => ?_) <;> (try simp only [Bool.and_eq_true, Bool.or_eq_true, Bool.not_eq_true', Bool.not_eq_false', Bool.or_eq_false_iff, Bool.and_eq_false_imp, decide_eq_true_eq, decide_eq_false_iff_not, Bool.not_eq_true, Bool.not_eq_false, Int.ofNat_lt, Int.ofNat_le] at h2) <;> simp -dsimp -implicitDefEqProofs (maxSteps := 2000000) (disch := first | omega | assumption | (simp only [go_sem] <;> first | omega | assumption | fail) | fail) only [go_sem, h2])
    · have hl61 := looksAt_len h2
      simp only [List.length_cons, List.length_nil] at hl61
      have hvg := valueR_grows (s := s) (r := (r.fault 5 r.at_).to (blanksE s (wordE [47, 62, 61] s (r.at_ + 1)) + 1)) hl61
      have hvb := hvg.1.f
      have hvh := hvg.1.hi
      simp only [to_f, to_at] at hvb
      have hvm := rvalue_meets E (nth_set H n (rdBox s ((r.fault 5 r.at_).to (blanksE s (wordE [47, 62, 61] s (r.at_ + 1)) + 1))) hlt) hs (by simp only [to_f]; omega) hl61
      have hres0 : attrR s l r = if (valueR s ((r.fault 5 r.at_).to (blanksE s (wordE [47, 62, 61] s (r.at_ + 1)) + 1))).1.2 then attrFin r.at_ (cleanL (lowerL (sub s r.at_ (r.at_ + 1))) ++ nameR [47, 62, 61] s (r.at_ + 1)) (valueR s ((r.fault 5 r.at_).to (blanksE s (wordE [47, 62, 61] s (r.at_ + 1)) + 1))).1.1 l (valueR s ((r.fault 5 r.at_).to (blanksE s (wordE [47, 62, 61] s (r.at_ + 1)) + 1))).2 else ((l, false), (valueR s ((r.fault 5 r.at_).to (blanksE s (wordE [47, 62, 61] s (r.at_ + 1)) + 1))).2) := by
        simp only [attrR]
        rw [hr1, if_pos h2]
      generalize valueR s ((r.fault 5 r.at_).to (blanksE s (wordE [47, 62, 61] s (r.at_ + 1)) + 1)) = q at hres0 hvg hvb hvh hvm
      obtain ⟨⟨v, ok⟩, r2⟩ := q
      simp only at hres0 hvg hvb hvh hvm
      have hX := nth_set H n (rdBox s ((r.fault 5 r.at_).to (blanksE s (wordE [47, 62, 61] s (r.at_ + 1)) + 1))) hlt
      refine Meets.heq (H' := setn H n (rdBox s ((r.fault 5 r.at_).to (blanksE s (wordE [47, 62, 61] s (r.at_ + 1)) + 1)))) (by first | rfl | simp -dsimp -implicitDefEqProofs (maxSteps := 2000000) (disch := first | omega | assumption | (simp only [go_sem] <;> first | omega | assumption | fail) | fail) only [go_sem]) (Meets.ret (hvm) ?_)
      simp -dsimp -implicitDefEqProofs (maxSteps := 2000000) (disch := first | omega | assumption | (simp only [go_sem] <;> first | omega | assumption | fail) | fail) only [go_sem]
      (refine condP_intro (fun h3 => ?_) (fun h3 => ?_) <;> (try simp only [Bool.and_eq_true, Bool.or_eq_true, Bool.not_eq_true', Bool.not_eq_false', Bool.or_eq_false_iff, Bool.and_eq_false_imp, decide_eq_true_eq, decide_eq_false_iff_not, Bool.not_eq_true, Bool.not_eq_false, Int.ofNat_lt, Int.ofNat_le] at h3) <;> simp -dsimp -implicitDefEqProofs (maxSteps := 2000000) (disch := first | omega | assumption | (simp only [go_sem] <;> first | omega | assumption | fail) | fail) only [go_sem, h3])
      · rw [h3, if_neg (by simp)] at hres0
        exact Fin.now (.inl (by rw [hres0]; exact ⟨rfl, rfl, rfl⟩))
      · rw [h3, if_pos rfl] at hres0
        have hres := hres0
        refine Loops.on (α := Nat) (fun i => i ≤ l.length) (fun i => l.length - i) (fun i => [(11, .d (.int .i64 i)), (10, .d (.bool (thereF (cleanL (lowerL (sub s r.at_ (r.at_ + 1))) ++ nameR [47, 62, 61] s (r.at_ + 1)) l i)))]) (fun _ => setn H n (rdBox s (r2))) 0 (Nat.zero_le _) ?_ ?_
        · exact Goes.slots (by simp -dsimp -implicitDefEqProofs (maxSteps := 2000000) (disch := first | omega | assumption | (simp only [go_sem] <;> first | omega | assumption | fail) | fail) only [go_sem, thereF_zero]; first | exact ⟨.same rfl, .same rfl⟩ | exact .same rfl) (by first | rfl | simp -dsimp -implicitDefEqProofs (maxSteps := 2000000) (disch := first | omega | assumption | (simp only [go_sem] <;> first | omega | assumption | fail) | fail) only [go_sem])
        intro i hi
        have hfa := thereF_all (cleanL (lowerL (sub s r.at_ (r.at_ + 1))) ++ nameR [47, 62, 61] s (r.at_ + 1)) l
        have hRf : (r2).f.length < 900000000 := by first | omega | (simp only [to_f]; omega)
        simp -dsimp -implicitDefEqProofs (maxSteps := 2000000) (disch := first | omega | assumption | (simp only [go_sem] <;> first | omega | assumption | fail) | fail) only [go_sem]
        (refine condP_intro (fun h4 => ?_) (fun h4 => ?_) <;> (try simp only [Bool.and_eq_true, Bool.or_eq_true, Bool.not_eq_true', Bool.not_eq_false', Bool.or_eq_false_iff, Bool.and_eq_false_imp, decide_eq_true_eq, decide_eq_false_iff_not, Bool.not_eq_true, Bool.not_eq_false, Int.ofNat_lt, Int.ofNat_le] at h4) <;> simp -dsimp -implicitDefEqProofs (maxSteps := 2000000) (disch := first | omega | assumption | (simp only [go_sem] <;> first | omega | assumption | fail) | fail) only [go_sem, h4])
        · have hst := thereF_step (cleanL (lowerL (sub s r.at_ (r.at_ + 1))) ++ nameR [47, 62, 61] s (r.at_ + 1)) l i h4
          have hat := at2_map encAtt l i 0 h4
          (refine condP_intro (fun h5 => ?_) (fun h5 => ?_) <;> (try simp only [Bool.and_eq_true, Bool.or_eq_true, Bool.not_eq_true', Bool.not_eq_false', Bool.or_eq_false_iff, Bool.and_eq_false_imp, decide_eq_true_eq, decide_eq_false_iff_not, Bool.not_eq_true, Bool.not_eq_false, Int.ofNat_lt, Int.ofNat_le] at h5) <;> simp -dsimp -implicitDefEqProofs (maxSteps := 2000000) (disch := first | omega | assumption | (simp only [go_sem] <;> first | omega | assumption | fail) | fail) only [go_sem, h5, hm])
          · simp -dsimp -implicitDefEqProofs (maxSteps := 2000000) (disch := first | omega | assumption | (simp only [go_sem] <;> first | omega | assumption | fail) | fail) only [go_sem, hm, hat]
            (try (repeat (refine ⟨by first | omega | assumption | trivial | (simp only [List.length_take, List.length_map, List.length_append, List.length_cons, List.length_nil, List.length_drop]; omega), ?_⟩)))
            refine Back.mk (i + 1) ⟨h4, by omega⟩ (Goes.slots (by simp -dsimp -implicitDefEqProofs (maxSteps := 2000000) (disch := first | omega | assumption | (simp only [go_sem] <;> first | omega | assumption | fail) | fail) only [go_sem]; exact .same (bool_av (by rw [hst, h5]; rfl))) (by first | rfl | simp -dsimp -implicitDefEqProofs (maxSteps := 2000000) (disch := first | omega | assumption | (simp only [go_sem] <;> first | omega | assumption | fail) | fail) only [go_sem]))
          · refine Back.mk (i + 1) ⟨h4, by omega⟩ (Goes.slots (by simp -dsimp -implicitDefEqProofs (maxSteps := 2000000) (disch := first | omega | assumption | (simp only [go_sem] <;> first | omega | assumption | fail) | fail) only [go_sem]; exact .same (bool_av (by rw [hst, h5]; rfl))) (by first | rfl | simp -dsimp -implicitDefEqProofs (maxSteps := 2000000) (disch := first | omega | assumption | (simp only [go_sem] <;> first | omega | assumption | fail) | fail) only [go_sem]))
        · obtain rfl : i = l.length := by omega
          (refine condP_intro (fun h6 => ?_) (fun h6 => ?_) <;> (try simp only [Bool.and_eq_true, Bool.or_eq_true, Bool.not_eq_true', Bool.not_eq_false', Bool.or_eq_false_iff, Bool.and_eq_false_imp, decide_eq_true_eq, decide_eq_false_iff_not, Bool.not_eq_true, Bool.not_eq_false, Int.ofNat_lt, Int.ofNat_le] at h6) <;> simp -dsimp -implicitDefEqProofs (maxSteps := 2000000) (disch := first | omega | assumption | (simp only [go_sem] <;> first | omega | assumption | fail) | fail) only [go_sem, h6])
          · rw [h6] at hfa
            have hX := nth_set H n (rdBox s (r2)) hlt
            refine Meets.heq (H' := setn H n (rdBox s (r2))) (by first | rfl | simp -dsimp -implicitDefEqProofs (maxSteps := 2000000) (disch := first | omega | assumption | (simp only [go_sem] <;> first | omega | assumption | fail) | fail) only [go_sem]) (Meets.ret (rfault_meets E hX (by omega) 5 r.at_) ?_)
            simp -dsimp -implicitDefEqProofs (maxSteps := 2000000) (disch := first | omega | assumption | (simp only [go_sem] <;> first | omega | assumption | fail) | fail) only [go_sem]
            exact Fin.now (.inl (by rw [hres, attrFin, if_pos hfa.symm]; exact ⟨rfl, rfl, by first | rfl | simp -dsimp -implicitDefEqProofs (maxSteps := 2000000) (disch := first | omega | assumption | (simp only [go_sem] <;> first | omega | assumption | fail) | fail) only [go_sem]⟩))
          · rw [h6] at hfa
            simp -dsimp -implicitDefEqProofs (maxSteps := 2000000) (disch := first | omega | assumption | (simp only [go_sem] <;> first | omega | assumption | fail) | fail) only [go_sem, hm]
            (repeat (refine ⟨by first | omega | assumption | trivial | (simp only [List.length_take, List.length_map, List.length_append, List.length_cons, List.length_nil, List.length_drop]; omega), ?_⟩))
            intro c' hc'
            refine Fin.rn' (N := H.length) [H.length + 1] (by simp only [setn_length]) (Nat.le_refl _) (Closed.set (Closed.set hc (below_box (by simp -dsimp -implicitDefEqProofs (maxSteps := 2000000) (disch := first | omega | assumption | (simp only [go_sem] <;> first | omega | assumption | fail) | fail) only [go_sem]))) trivial) (by simp [rnOk, rnOk.rnFresh]) (by simp -dsimp -implicitDefEqProofs (maxSteps := 2000000) (disch := first | omega | assumption | (simp only [go_sem] <;> first | omega | assumption | fail) | fail) only [go_sem]) ?_
            simp -dsimp -implicitDefEqProofs (maxSteps := 2000000) (disch := first | omega | assumption | (simp only [go_sem] <;> first | omega | assumption | fail) | fail) only [go_sem]
            exact Fin.now (.inr ⟨⟨(cleanL (lowerL (sub s r.at_ (r.at_ + 1))) ++ nameR [47, 62, 61] s (r.at_ + 1)), v⟩, c', by rw [hres, attrFin, if_neg (by rw [← hfa]; simp)], hc', rfl, by rw [hres, attrFin, if_neg (by rw [← hfa]; simp)]; first | rfl | simp -dsimp -implicitDefEqProofs (maxSteps := 2000000) (disch := first | omega | assumption | (simp only [go_sem] <;> first | omega | assumption | fail) | fail) only [go_sem, List.map_append, encAtt]⟩)
    · have hres : attrR s l r = attrFin r.at_ (cleanL (lowerL (sub s r.at_ (r.at_ + 1))) ++ nameR [47, 62, 61] s (r.at_ + 1)) [] l ((r.fault 5 r.at_).to (blanksE s (wordE [47, 62, 61] s (r.at_ + 1)))) := by
        simp only [attrR]
        rw [hr1, if_neg (by rw [h2]; simp)]
      refine Loops.on (α := Nat) (fun i => i ≤ l.length) (fun i => l.length - i) (fun i => [(11, .d (.int .i64 i)), (10, .d (.bool (thereF (cleanL (lowerL (sub s r.at_ (r.at_ + 1))) ++ nameR [47, 62, 61] s (r.at_ + 1)) l i)))]) (fun _ => setn H n (rdBox s ((r.fault 5 r.at_).to (blanksE s (wordE [47, 62, 61] s (r.at_ + 1)))))) 0 (Nat.zero_le _) ?_ ?_
      · exact Goes.slots (by simp -dsimp -implicitDefEqProofs (maxSteps := 2000000) (disch := first | omega | assumption | (simp only [go_sem] <;> first | omega | assumption | fail) | fail) only [go_sem, thereF_zero]; first | exact ⟨.same rfl, .same rfl⟩ | exact .same rfl) (by first | rfl | simp -dsimp -implicitDefEqProofs (maxSteps := 2000000) (disch := first | omega | assumption | (simp only [go_sem] <;> first | omega | assumption | fail) | fail) only [go_sem])
      intro i hi
      have hfa := thereF_all (cleanL (lowerL (sub s r.at_ (r.at_ + 1))) ++ nameR [47, 62, 61] s (r.at_ + 1)) l
      have hRf : ((r.fault 5 r.at_).to (blanksE s (wordE [47, 62, 61] s (r.at_ + 1)))).f.length < 900000000 := by first | omega | (simp only [to_f]; omega)
      simp -dsimp -implicitDefEqProofs (maxSteps := 2000000) (disch := first | omega | assumption | (simp only [go_sem] <;> first | omega | assumption | fail) | fail) only [go_sem]
      (refine condP_intro (fun h4 => ?_) (fun h4 => ?_) <;> (try simp only [Bool.and_eq_true, Bool.or_eq_true, Bool.not_eq_true', Bool.not_eq_false', Bool.or_eq_false_iff, Bool.and_eq_false_imp, decide_eq_true_eq, decide_eq_false_iff_not, Bool.not_eq_true, Bool.not_eq_false, Int.ofNat_lt, Int.ofNat_le] at h4) <;> simp -dsimp -implicitDefEqProofs (maxSteps := 2000000) (disch := first | omega | assumption | (simp only [go_sem] <;> first | omega | assumption | fail) | fail) only [go_sem, h4])
      · have hst := thereF_step (cleanL (lowerL (sub s r.at_ (r.at_ + 1))) ++ nameR [47, 62, 61] s (r.at_ + 1)) l i h4
        have hat := at2_map encAtt l i 0 h4
        (refine condP_intro (fun h5 => ?_) (fun h5 => ?_) <;> (try simp only [Bool.and_eq_true, Bool.or_eq_true, Bool.not_eq_true', Bool.not_eq_false', Bool.or_eq_false_iff, Bool.and_eq_false_imp, decide_eq_true_eq, decide_eq_false_iff_not, Bool.not_eq_true, Bool.not_eq_false, Int.ofNat_lt, Int.ofNat_le] at h5) <;> simp -dsimp -implicitDefEqProofs (maxSteps := 2000000) (disch := first | omega | assumption | (simp only [go_sem] <;> first | omega | assumption | fail) | fail) only [go_sem, h5, hm])
        · simp -dsimp -implicitDefEqProofs (maxSteps := 2000000) (disch := first | omega | assumption | (simp only [go_sem] <;> first | omega | assumption | fail) | fail) only [go_sem, hm, hat]
          (try (repeat (refine ⟨by first | omega | assumption | trivial | (simp only [List.length_take, List.length_map, List.length_append, List.length_cons, List.length_nil, List.length_drop]; omega), ?_⟩)))
          refine Back.mk (i + 1) ⟨h4, by omega⟩ (Goes.slots (by simp -dsimp -implicitDefEqProofs (maxSteps := 2000000) (disch := first | omega | assumption | (simp only [go_sem] <;> first | omega | assumption | fail) | fail) only [go_sem]; exact .same (bool_av (by rw [hst, h5]; rfl))) (by first | rfl | simp -dsimp -implicitDefEqProofs (maxSteps := 2000000) (disch := first | omega | assumption | (simp only [go_sem] <;> first | omega | assumption | fail) | fail) only [go_sem]))
        · refine Back.mk (i + 1) ⟨h4, by omega⟩ (Goes.slots (by simp -dsimp -implicitDefEqProofs (maxSteps := 2000000) (disch := first | omega | assumption | (simp only [go_sem] <;> first | omega | assumption | fail) | fail) only [go_sem]; exact .same (bool_av (by rw [hst, h5]; rfl))) (by first | rfl | simp -dsimp -implicitDefEqProofs (maxSteps := 2000000) (disch := first | omega | assumption | (simp only [go_sem] <;> first | omega | assumption | fail) | fail) only [go_sem]))
      · obtain rfl : i = l.length := by omega
        (refine condP_intro (fun h6 => ?_) (fun h6 => ?_) <;> (try simp only [Bool.and_eq_true, Bool.or_eq_true, Bool.not_eq_true', Bool.not_eq_false', Bool.or_eq_false_iff, Bool.and_eq_false_imp, decide_eq_true_eq, decide_eq_false_iff_not, Bool.not_eq_true, Bool.not_eq_false, Int.ofNat_lt, Int.ofNat_le] at h6) <;> simp -dsimp -implicitDefEqProofs (maxSteps := 2000000) (disch := first | omega | assumption | (simp only [go_sem] <;> first | omega | assumption | fail) | fail) only [go_sem, h6])
        · rw [h6] at hfa
          have hX := nth_set H n (rdBox s ((r.fault 5 r.at_).to (blanksE s (wordE [47, 62, 61] s (r.at_ + 1))))) hlt
          refine Meets.heq (H' := setn H n (rdBox s ((r.fault 5 r.at_).to (blanksE s (wordE [47, 62, 61] s (r.at_ + 1)))))) (by first | rfl | simp -dsimp -implicitDefEqProofs (maxSteps := 2000000) (disch := first | omega | assumption | (simp only [go_sem] <;> first | omega | assumption | fail) | fail) only [go_sem]) (Meets.ret (rfault_meets E hX (by omega) 5 r.at_) ?_)
          simp -dsimp -implicitDefEqProofs (maxSteps := 2000000) (disch := first | omega | assumption | (simp only [go_sem] <;> first | omega | assumption | fail) | fail) only [go_sem]
          exact Fin.now (.inl (by rw [hres, attrFin, if_pos hfa.symm]; exact ⟨rfl, rfl, by first | rfl | simp -dsimp -implicitDefEqProofs (maxSteps := 2000000) (disch := first | omega | assumption | (simp only [go_sem] <;> first | omega | assumption | fail) | fail) only [go_sem]⟩))
        · rw [h6] at hfa
          simp -dsimp -implicitDefEqProofs (maxSteps := 2000000) (disch := first | omega | assumption | (simp only [go_sem] <;> first | omega | assumption | fail) | fail) only [go_sem, hm]
          (repeat (refine ⟨by first | omega | assumption | trivial | (simp only [List.length_take, List.length_map, List.length_append, List.length_cons, List.length_nil, List.length_drop]; omega), ?_⟩))
          intro c' hc'
          refine Fin.rn' (N := H.length) [H.length + 1] (by simp only [setn_length]) (Nat.le_refl _) (Closed.set (Closed.set hc (below_box (by simp -dsimp -implicitDefEqProofs (maxSteps := 2000000) (disch := first | omega | assumption | (simp only [go_sem] <;> first | omega | assumption | fail) | fail) only [go_sem]))) trivial) (by simp [rnOk, rnOk.rnFresh]) (by simp -dsimp -implicitDefEqProofs (maxSteps := 2000000) (disch := first | omega | assumption | (simp only [go_sem] <;> first | omega | assumption | fail) | fail) only [go_sem]) ?_
          simp -dsimp -implicitDefEqProofs (maxSteps := 2000000) (disch := first | omega | assumption | (simp only [go_sem] <;> first | omega | assumption | fail) | fail) only [go_sem]
          exact Fin.now (.inr ⟨⟨(cleanL (lowerL (sub s r.at_ (r.at_ + 1))) ++ nameR [47, 62, 61] s (r.at_ + 1)), []⟩, c', by rw [hres, attrFin, if_neg (by rw [← hfa]; simp)], hc', rfl, by rw [hres, attrFin, if_neg (by rw [← hfa]; simp)]; first | rfl | simp -dsimp -implicitDefEqProofs (maxSteps := 2000000) (disch := first | omega | assumption | (simp only [go_sem] <;> first | omega | assumption | fail) | fail) only [go_sem, List.map_append, encAtt]⟩)
  · skip
    have hr1 : (if bAt s r.at_ = 61 then r.fault 5 r.at_ else r) = r := if_neg h
    have hR1f : (r).f.length ≤ r.f.length + 1 := by simp [Rd.fault]
    (repeat (refine ⟨by first | omega | assumption | trivial | (simp only [List.length_take, List.length_map, List.length_append, List.length_cons, List.length_nil, List.length_drop]; omega), ?_⟩))
    refine (rlower_meets (sub s r.at_ (r.at_ + 1)) (by omega) E _).ret ?_
    simp -dsimp -implicitDefEqProofs (maxSteps := 2000000) (disch := first | omega | assumption | (simp only [go_sem] <;> first | omega | assumption | fail) | fail) only [go_sem]
    refine (rclean_meets E (lowerL (sub s r.at_ (r.at_ + 1))) (by simp only [lowerL, List.length_map]; omega) _).ret ?_
    simp -dsimp -implicitDefEqProofs (maxSteps := 2000000) (disch := first | omega | assumption | (simp only [go_sem] <;> first | omega | assumption | fail) | fail) only [go_sem]
    have hX := nth_set H n (rdBox s ((r).to (r.at_ + 1))) hlt
    refine Meets.heq (H' := setn H n (rdBox s ((r).to (r.at_ + 1)))) (by first | rfl | simp -dsimp -implicitDefEqProofs (maxSteps := 2000000) (disch := first | omega | assumption | (simp only [go_sem] <;> first | omega | assumption | fail) | fail) only [go_sem]) (Meets.ret (rname_meets E hX hs' hk [47, 62, 61] (by decide)) ?_)
    simp -dsimp -implicitDefEqProofs (maxSteps := 2000000) (disch := first | omega | assumption | (simp only [go_sem] <;> first | omega | assumption | fail) | fail) only [go_sem]
    (repeat (refine ⟨by first | omega | assumption | trivial | (simp only [List.length_take, List.length_map, List.length_append, List.length_cons, List.length_nil, List.length_drop]; omega), ?_⟩))
    have hX := nth_set H n (rdBox s ((r).to (wordE [47, 62, 61] s (r.at_ + 1)))) hlt
    refine Meets.heq (H' := setn H n (rdBox s ((r).to (wordE [47, 62, 61] s (r.at_ + 1))))) (by first | rfl | simp -dsimp -implicitDefEqProofs (maxSteps := 2000000) (disch := first | omega | assumption | (simp only [go_sem] <;> first | omega | assumption | fail) | fail) only [go_sem]) (Meets.ret (rblanks_meets E hX hs' hw.2) ?_)
    simp -dsimp -implicitDefEqProofs (maxSteps := 2000000) (disch := first | omega | assumption | (simp only [go_sem] <;> first | omega | assumption | fail) | fail) only [go_sem]
    have hX := nth_set H n (rdBox s ((r).to (blanksE s (wordE [47, 62, 61] s (r.at_ + 1))))) hlt
    refine Meets.heq (H' := setn H n (rdBox s ((r).to (blanksE s (wordE [47, 62, 61] s (r.at_ + 1)))))) (by first | rfl | simp -dsimp -implicitDefEqProofs (maxSteps := 2000000) (disch := first | omega | assumption | (simp only [go_sem] <;> first | omega | assumption | fail) | fail) only [go_sem]) (Meets.ret (rlooks_meets E hX hs' hb.2 [61]) ?_)
    simp -dsimp -implicitDefEqProofs (maxSteps := 2000000) (disch := first | omega | assumption | (simp only [go_sem] <;> first | omega | assumption | fail) | fail) only [go_sem]
    (refine condP_intro (fun h2 => ?_) (fun h2 => ?_) <;> (try simp only [Bool.and_eq_true, Bool.or_eq_true, Bool.not_eq_true', Bool.not_eq_false', Bool.or_eq_false_iff, Bool.and_eq_false_imp, decide_eq_true_eq, decide_eq_false_iff_not, Bool.not_eq_true, Bool.not_eq_false, Int.ofNat_lt, Int.ofNat_le] at h2) <;> simp -dsimp -implicitDefEqProofs (maxSteps := 2000000) (disch := first | omega | assumption | (simp only [go_sem] <;> first | omega | assumption | fail) | fail) only [go_sem, h2])
    · have hl61 := looksAt_len h2
      simp only [List.length_cons, List.length_nil] at hl61
      have hvg := valueR_grows (s := s) (r := (r).to (blanksE s (wordE [47, 62, 61] s (r.at_ + 1)) + 1)) hl61
      have hvb := hvg.1.f
      have hvh := hvg.1.hi
      simp only [to_f, to_at] at hvb
      have hvm := rvalue_meets E (nth_set H n (rdBox s ((r).to (blanksE s (wordE [47, 62, 61] s (r.at_ + 1)) + 1))) hlt) hs (by simp only [to_f]; omega) hl61
      have hres0 : attrR s l r = if (valueR s ((r).to (blanksE s (wordE [47, 62, 61] s (r.at_ + 1)) + 1))).1.2 then attrFin r.at_ (cleanL (lowerL (sub s r.at_ (r.at_ + 1))) ++ nameR [47, 62, 61] s (r.at_ + 1)) (valueR s ((r).to (blanksE s (wordE [47, 62, 61] s (r.at_ + 1)) + 1))).1.1 l (valueR s ((r).to (blanksE s (wordE [47, 62, 61] s (r.at_ + 1)) + 1))).2 else ((l, false), (valueR s ((r).to (blanksE s (wordE [47, 62, 61] s (r.at_ + 1)) + 1))).2) := by
        simp only [attrR]
        rw [hr1, if_pos h2]
      generalize valueR s ((r).to (blanksE s (wordE [47, 62, 61] s (r.at_ + 1)) + 1)) = q at hres0 hvg hvb hvh hvm
      obtain ⟨⟨v, ok⟩, r2⟩ := q
      simp only at hres0 hvg hvb hvh hvm
      have hX := nth_set H n (rdBox s ((r).to (blanksE s (wordE [47, 62, 61] s (r.at_ + 1)) + 1))) hlt
      refine Meets.heq (H' := setn H n (rdBox s ((r).to (blanksE s (wordE [47, 62, 61] s (r.at_ + 1)) + 1)))) (by first | rfl | simp -dsimp -implicitDefEqProofs (maxSteps := 2000000) (disch := first | omega | assumption | (simp only [go_sem] <;> first | omega | assumption | fail) | fail) only [go_sem]) (Meets.ret (hvm) ?_)
      simp -dsimp -implicitDefEqProofs (maxSteps := 2000000) (disch := first | omega | assumption | (simp only [go_sem] <;> first | omega | assumption | fail) | fail) only [go_sem]
      (refine condP_intro (fun h3 => ?_) (fun h3 => ?_) <;> (try simp only [Bool.and_eq_true, Bool.or_eq_true, Bool.not_eq_true', Bool.not_eq_false', Bool.or_eq_false_iff, Bool.and_eq_false_imp, decide_eq_true_eq, decide_eq_false_iff_not, Bool.not_eq_true, Bool.not_eq_false, Int.ofNat_lt, Int.ofNat_le] at h3) <;> simp -dsimp -implicitDefEqProofs (maxSteps := 2000000) (disch := first | omega | assumption | (simp only [go_sem] <;> first | omega | assumption | fail) | fail) only [go_sem, h3])
      · rw [h3, if_neg (by simp)] at hres0
        exact Fin.now (.inl (by rw [hres0]; exact ⟨rfl, rfl, rfl⟩))
      · rw [h3, if_pos rfl] at hres0
        have hres := hres0
        refine Loops.on (α := Nat) (fun i => i ≤ l.length) (fun i => l.length - i) (fun i => [(11, .d (.int .i64 i)), (10, .d (.bool (thereF (cleanL (lowerL (sub s r.at_ (r.at_ + 1))) ++ nameR [47, 62, 61] s (r.at_ + 1)) l i)))]) (fun _ => setn H n (rdBox s (r2))) 0 (Nat.zero_le _) ?_ ?_
        · exact Goes.slots (by simp -dsimp -implicitDefEqProofs (maxSteps := 2000000) (disch := first | omega | assumption | (simp only [go_sem] <;> first | omega | assumption | fail) | fail) only [go_sem, thereF_zero]; first | exact ⟨.same rfl, .same rfl⟩ | exact .same rfl) (by first | rfl | simp -dsimp -implicitDefEqProofs (maxSteps := 2000000) (disch := first | omega | assumption | (simp only [go_sem] <;> first | omega | assumption | fail) | fail) only [go_sem])
        intro i hi
        have hfa := thereF_all (cleanL (lowerL (sub s r.at_ (r.at_ + 1))) ++ nameR [47, 62, 61] s (r.at_ + 1)) l
        have hRf : (r2).f.length < 900000000 := by first | omega | (simp only [to_f]; omega)
        simp -dsimp -implicitDefEqProofs (maxSteps := 2000000) (disch := first | omega | assumption | (simp only [go_sem] <;> first | omega | assumption | fail) | fail) only [go_sem]
        (refine condP_intro (fun h4 => ?_) (fun h4 => ?_) <;> (try simp only [Bool.and_eq_true, Bool.or_eq_true, Bool.not_eq_true', Bool.not_eq_false', Bool.or_eq_false_iff, Bool.and_eq_false_imp, decide_eq_true_eq, decide_eq_false_iff_not, Bool.not_eq_true, Bool.not_eq_false, Int.ofNat_lt, Int.ofNat_le] at h4) <;> simp -dsimp -implicitDefEqProofs (maxSteps := 2000000) (disch := first | omega | assumption | (simp only [go_sem] <;> first | omega | assumption | fail) | fail) only [go_sem, h4])
        · have hst := thereF_step (cleanL (lowerL (sub s r.at_ (r.at_ + 1))) ++ nameR [47, 62, 61] s (r.at_ + 1)) l i h4
          have hat := at2_map encAtt l i 0 h4
          (refine condP_intro (fun h5 => ?_) (fun h5 => ?_) <;> (try simp only [Bool.and_eq_true, Bool.or_eq_true, Bool.not_eq_true', Bool.not_eq_false', Bool.or_eq_false_iff, Bool.and_eq_false_imp, decide_eq_true_eq, decide_eq_false_iff_not, Bool.not_eq_true, Bool.not_eq_false, Int.ofNat_lt, Int.ofNat_le] at h5) <;> simp -dsimp -implicitDefEqProofs (maxSteps := 2000000) (disch := first | omega | assumption | (simp only [go_sem] <;> first | omega | assumption | fail) | fail) only [go_sem, h5, hm])
          · simp -dsimp -implicitDefEqProofs (maxSteps := 2000000) (disch := first | omega | assumption | (simp only [go_sem] <;> first | omega | assumption | fail) | fail) only [go_sem, hm, hat]
            (try (repeat (refine ⟨by first | omega | assumption | trivial | (simp only [List.length_take, List.length_map, List.length_append, List.length_cons, List.length_nil, List.length_drop]; omega), ?_⟩)))
            refine Back.mk (i + 1) ⟨h4, by omega⟩ (Goes.slots (by simp -dsimp -implicitDefEqProofs (maxSteps := 2000000) (disch := first | omega | assumption | (simp only [go_sem] <;> first | omega | assumption | fail) | fail) only [go_sem]; exact .same (bool_av (by rw [hst, h5]; rfl))) (by first | rfl | simp -dsimp -implicitDefEqProofs (maxSteps := 2000000) (disch := first | omega | assumption | (simp only [go_sem] <;> first | omega | assumption | fail) | fail) only [go_sem]))
          · refine Back.mk (i + 1) ⟨h4, by omega⟩ (Goes.slots (by simp -dsimp -implicitDefEqProofs (maxSteps := 2000000) (disch := first | omega | assumption | (simp only [go_sem] <;> first | omega | assumption | fail) | fail) only [go_sem]; exact .same (bool_av (by rw [hst, h5]; rfl))) (by first | rfl | simp -dsimp -implicitDefEqProofs (maxSteps := 2000000) (disch := first | omega | assumption | (simp only [go_sem] <;> first | omega | assumption | fail) | fail) only [go_sem]))
        · obtain rfl : i = l.length := by omega
          (refine condP_intro (fun h6 => ?_) (fun h6 => ?_) <;> (try simp only [Bool.and_eq_true, Bool.or_eq_true, Bool.not_eq_true', Bool.not_eq_false', Bool.or_eq_false_iff, Bool.and_eq_false_imp, decide_eq_true_eq, decide_eq_false_iff_not, Bool.not_eq_true, Bool.not_eq_false, Int.ofNat_lt, Int.ofNat_le] at h6) <;> simp -dsimp -implicitDefEqProofs (maxSteps := 2000000) (disch := first | omega | assumption | (simp only [go_sem] <;> first | omega | assumption | fail) | fail) only [go_sem, h6])
          · rw [h6] at hfa
            have hX := nth_set H n (rdBox s (r2)) hlt
            refine Meets.heq (H' := setn H n (rdBox s (r2))) (by first | rfl | simp -dsimp -implicitDefEqProofs (maxSteps := 2000000) (disch := first | omega | assumption | (simp only [go_sem] <;> first | omega | assumption | fail) | fail) only [go_sem]) (Meets.ret (rfault_meets E hX (by omega) 5 r.at_) ?_)
            simp -dsimp -implicitDefEqProofs (maxSteps := 2000000) (disch := first | omega | assumption | (simp only [go_sem] <;> first | omega | assumption | fail) | fail) only [go_sem]
            exact Fin.now (.inl (by rw [hres, attrFin, if_pos hfa.symm]; exact ⟨rfl, rfl, by first | rfl | simp -dsimp -implicitDefEqProofs (maxSteps := 2000000) (disch := first | omega | assumption | (simp only [go_sem] <;> first | omega | assumption | fail) | fail) only [go_sem]⟩))
          · rw [h6] at hfa
            simp -dsimp -implicitDefEqProofs (maxSteps := 2000000) (disch := first | omega | assumption | (simp only [go_sem] <;> first | omega | assumption | fail) | fail) only [go_sem, hm]
            (repeat (refine ⟨by first | omega | assumption | trivial | (simp only [List.length_take, List.length_map, List.length_append, List.length_cons, List.length_nil, List.length_drop]; omega), ?_⟩))
            intro c' hc'
            refine Fin.rn' (N := H.length) [H.length + 1] (by simp only [setn_length]) (Nat.le_refl _) (Closed.set (Closed.set hc (below_box (by simp -dsimp -implicitDefEqProofs (maxSteps := 2000000) (disch := first | omega | assumption | (simp only [go_sem] <;> first | omega | assumption | fail) | fail) only [go_sem]))) trivial) (by simp [rnOk, rnOk.rnFresh]) (by simp -dsimp -implicitDefEqProofs (maxSteps := 2000000) (disch := first | omega | assumption | (simp only [go_sem] <;> first | omega | assumption | fail) | fail) only [go_sem]) ?_
            simp -dsimp -implicitDefEqProofs (maxSteps := 2000000) (disch := first | omega | assumption | (simp only [go_sem] <;> first | omega | assumption | fail) | fail) only [go_sem]
            exact Fin.now (.inr ⟨⟨(cleanL (lowerL (sub s r.at_ (r.at_ + 1))) ++ nameR [47, 62, 61] s (r.at_ + 1)), v⟩, c', by rw [hres, attrFin, if_neg (by rw [← hfa]; simp)], hc', rfl, by rw [hres, attrFin, if_neg (by rw [← hfa]; simp)]; first | rfl | simp -dsimp -implicitDefEqProofs (maxSteps := 2000000) (disch := first | omega | assumption | (simp only [go_sem] <;> first | omega | assumption | fail) | fail) only [go_sem, List.map_append, encAtt]⟩)
    · have hres : attrR s l r = attrFin r.at_ (cleanL (lowerL (sub s r.at_ (r.at_ + 1))) ++ nameR [47, 62, 61] s (r.at_ + 1)) [] l ((r).to (blanksE s (wordE [47, 62, 61] s (r.at_ + 1)))) := by
        simp only [attrR]
        rw [hr1, if_neg (by rw [h2]; simp)]
      refine Loops.on (α := Nat) (fun i => i ≤ l.length) (fun i => l.length - i) (fun i => [(11, .d (.int .i64 i)), (10, .d (.bool (thereF (cleanL (lowerL (sub s r.at_ (r.at_ + 1))) ++ nameR [47, 62, 61] s (r.at_ + 1)) l i)))]) (fun _ => setn H n (rdBox s ((r).to (blanksE s (wordE [47, 62, 61] s (r.at_ + 1)))))) 0 (Nat.zero_le _) ?_ ?_
      · exact Goes.slots (by simp -dsimp -implicitDefEqProofs (maxSteps := 2000000) (disch := first | omega | assumption | (simp only [go_sem] <;> first | omega | assumption | fail) | fail) only [go_sem, thereF_zero]; first | exact ⟨.same rfl, .same rfl⟩ | exact .same rfl) (by first | rfl | simp -dsimp -implicitDefEqProofs (maxSteps := 2000000) (disch := first | omega | assumption | (simp only [go_sem] <;> first | omega | assumption | fail) | fail) only [go_sem])
      intro i hi
      have hfa := thereF_all (cleanL (lowerL (sub s r.at_ (r.at_ + 1))) ++ nameR [47, 62, 61] s (r.at_ + 1)) l
      have hRf : ((r).to (blanksE s (wordE [47, 62, 61] s (r.at_ + 1)))).f.length < 900000000 := by first | omega | (simp only [to_f]; omega)
      simp -dsimp -implicitDefEqProofs (maxSteps := 2000000) (disch := first | omega | assumption | (simp only [go_sem] <;> first | omega | assumption | fail) | fail) only [go_sem]
      (refine condP_intro (fun h4 => ?_) (fun h4 => ?_) <;> (try simp only [Bool.and_eq_true, Bool.or_eq_true, Bool.not_eq_true', Bool.not_eq_false', Bool.or_eq_false_iff, Bool.and_eq_false_imp, decide_eq_true_eq, decide_eq_false_iff_not, Bool.not_eq_true, Bool.not_eq_false, Int.ofNat_lt, Int.ofNat_le] at h4) <;> simp -dsimp -implicitDefEqProofs (maxSteps := 2000000) (disch := first | omega | assumption | (simp only [go_sem] <;> first | omega | assumption | fail) | fail) only [go_sem, h4])
      · have hst := thereF_step (cleanL (lowerL (sub s r.at_ (r.at_ + 1))) ++ nameR [47, 62, 61] s (r.at_ + 1)) l i h4
        have hat := at2_map encAtt l i 0 h4
        (refine condP_intro (fun h5 => ?_) (fun h5 => ?_) <;> (try simp only [Bool.and_eq_true, Bool.or_eq_true, Bool.not_eq_true', Bool.not_eq_false', Bool.or_eq_false_iff, Bool.and_eq_false_imp, decide_eq_true_eq, decide_eq_false_iff_not, Bool.not_eq_true, Bool.not_eq_false, Int.ofNat_lt, Int.ofNat_le] at h5) <;> simp -dsimp -implicitDefEqProofs (maxSteps := 2000000) (disch := first | omega | assumption | (simp only [go_sem] <;> first | omega | assumption | fail) | fail) only [go_sem, h5, hm])
        · simp -dsimp -implicitDefEqProofs (maxSteps := 2000000) (disch := first | omega | assumption | (simp only [go_sem] <;> first | omega | assumption | fail) | fail) only [go_sem, hm, hat]
          (try (repeat (refine ⟨by first | omega | assumption | trivial | (simp only [List.length_take, List.length_map, List.length_append, List.length_cons, List.length_nil, List.length_drop]; omega), ?_⟩)))
          refine Back.mk (i + 1) ⟨h4, by omega⟩ (Goes.slots (by simp -dsimp -implicitDefEqProofs (maxSteps := 2000000) (disch := first | omega | assumption | (simp only [go_sem] <;> first | omega | assumption | fail) | fail) only [go_sem]; exact .same (bool_av (by rw [hst, h5]; rfl))) (by first | rfl | simp -dsimp -implicitDefEqProofs (maxSteps := 2000000) (disch := first | omega | assumption | (simp only [go_sem] <;> first | omega | assumption | fail) | fail) only [go_sem]))
        · refine Back.mk (i + 1) ⟨h4, by omega⟩ (Goes.slots (by simp -dsimp -implicitDefEqProofs (maxSteps := 2000000) (disch := first | omega | assumption | (simp only [go_sem] <;> first | omega | assumption | fail) | fail) only [go_sem]; exact .same (bool_av (by rw [hst, h5]; rfl))) (by first | rfl | simp -dsimp -implicitDefEqProofs (maxSteps := 2000000) (disch := first | omega | assumption | (simp only [go_sem] <;> first | omega | assumption | fail) | fail) only [go_sem]))
      · obtain rfl : i = l.length := by omega
        (refine condP_intro (fun h6 => ?_) (fun h6 => ?_) <;> (try simp only [Bool.and_eq_true, Bool.or_eq_true, Bool.not_eq_true', Bool.not_eq_false', Bool.or_eq_false_iff, Bool.and_eq_false_imp, decide_eq_true_eq, decide_eq_false_iff_not, Bool.not_eq_true, Bool.not_eq_false, Int.ofNat_lt, Int.ofNat_le] at h6) <;> simp -dsimp -implicitDefEqProofs (maxSteps := 2000000) (disch := first | omega | assumption | (simp only [go_sem] <;> first | omega | assumption | fail) | fail) only [go_sem, h6])
        · rw [h6] at hfa
          have hX := nth_set H n (rdBox s ((r).to (blanksE s (wordE [47, 62, 61] s (r.at_ + 1))))) hlt
          refine Meets.heq (H' := setn H n (rdBox s ((r).to (blanksE s (wordE [47, 62, 61] s (r.at_ + 1)))))) (by first | rfl | simp -dsimp -implicitDefEqProofs (maxSteps := 2000000) (disch := first | omega | assumption | (simp only [go_sem] <;> first | omega | assumption | fail) | fail) only [go_sem]) (Meets.ret (rfault_meets E hX (by omega) 5 r.at_) ?_)
          simp -dsimp -implicitDefEqProofs (maxSteps := 2000000) (disch := first | omega | assumption | (simp only [go_sem] <;> first | omega | assumption | fail) | fail) only [go_sem]
          exact Fin.now (.inl (by rw [hres, attrFin, if_pos hfa.symm]; exact ⟨rfl, rfl, by first | rfl | simp -dsimp -implicitDefEqProofs (maxSteps := 2000000) (disch := first | omega | assumption | (simp only [go_sem] <;> first | omega | assumption | fail) | fail) only [go_sem]⟩))
        · rw [h6] at hfa
          simp -dsimp -implicitDefEqProofs (maxSteps := 2000000) (disch := first | omega | assumption | (simp only [go_sem] <;> first | omega | assumption | fail) | fail) only [go_sem, hm]
          (repeat (refine ⟨by first | omega | assumption | trivial | (simp only [List.length_take, List.length_map, List.length_append, List.length_cons, List.length_nil, List.length_drop]; omega), ?_⟩))
          intro c' hc'
          refine Fin.rn' (N := H.length) [H.length + 1] (by simp only [setn_length]) (Nat.le_refl _) (Closed.set (Closed.set hc (below_box (by simp -dsimp -implicitDefEqProofs (maxSteps := 2000000) (disch := first | omega | assumption | (simp only [go_sem] <;> first | omega | assumption | fail) | fail) only [go_sem]))) trivial) (by simp [rnOk, rnOk.rnFresh]) (by simp -dsimp -implicitDefEqProofs (maxSteps := 2000000) (disch := first | omega | assumption | (simp only [go_sem] <;> first | omega | assumption | fail) | fail) only [go_sem]) ?_
          simp -dsimp -implicitDefEqProofs (maxSteps := 2000000) (disch := first | omega | assumption | (simp only [go_sem] <;> first | omega | assumption | fail) | fail) only [go_sem]
          exact Fin.now (.inr ⟨⟨(cleanL (lowerL (sub s r.at_ (r.at_ + 1))) ++ nameR [47, 62, 61] s (r.at_ + 1)), []⟩, c', by rw [hres, attrFin, if_neg (by rw [← hfa]; simp)], hc', rfl, by rw [hres, attrFin, if_neg (by rw [← hfa]; simp)]; first | rfl | simp -dsimp -implicitDefEqProofs (maxSteps := 2000000) (disch := first | omega | assumption | (simp only [go_sem] <;> first | omega | assumption | fail) | fail) only [go_sem, List.map_append, encAtt]⟩)
end
end Go.Proofs.YtdpjmfipgkblfaaGreatDoor
