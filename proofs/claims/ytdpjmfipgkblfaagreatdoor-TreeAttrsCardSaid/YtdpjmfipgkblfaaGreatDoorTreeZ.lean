/- Contracts of package tree, by V: Sound. -/
import Derived.Test.YtdpjmfipgkblfaaGreatDoorTreeY
set_option linter.unusedSimpArgs false
namespace Go.Proofs.YtdpjmfipgkblfaaGreatDoor
open Go Go.V
attribute [local irreducible] vc vcL vcP vcI vcO stOp Loops condP bx bx2 Meets Back
section
variable {b : Bd} {H : List Ent} {n : Nat}

attribute [local go_sem] a64 a64l a64r s64 s64l ite_min ite_max zlt_l zlt_r zle_l zle_r zeq len_eq byte_eq Nat.zero_le nth_set_ne List.forall_mem_cons all_nil isPl allSh_strs allNr_strs allSh_itm allNr_itm allSh_flt allNr_flt allSh_att allNr_att strs_length encAtts Nat.reduceAdd Nat.reduceSub Nat.reduceMul Nat.reduceLT Nat.reduceLeDiff Nat.reduceEqDiff Int.reduceEq Int.reduceLT Int.reduceLE
theorem tanyL_meets (E : Env) (g : Nat) (caps : List Nat) (q : Att → Bool) (l : List Att) (i0 : Nat) (cell : Nat → Nat → CV) (hcell : ∀ k, k < i0 → ∀ f, cell k f = at2 (l.map encAtt) k f) (hi0 : i0 ≤ l.length) (hl : l.length < 1073741824) (H : List Ent)
    (hf : ∀ a, Meets E Tryz.prog g (.s (.agg (encAtt a)) :: capArgs caps) H (Ret (.d (.bool (q a))) H)) :
    Meets E Tryz.prog 82 [.c (.lst 2 i0 cell), .c (.fn g caps)] H (Ret (.d (.bool ((l.take i0).any q))) H) := by
  have hidx : Meets E Tryz.prog 107 [.c (.lst 2 i0 cell), .c (.fn g caps)] H (Ret (.d (.int .i64 (firstFrom (fun i => q (l.getD i default)) i0 0))) H) := by
    refine Meets.of_body mixed tok (plan := fun _ => .done) Tryz.func107 Tryz.call107 Tryz.ntmps107 Tryz.results107 rfl (by kernel_rfl) ?_
    simp -dsimp -implicitDefEqProofs (maxSteps := 2000000) (disch := first | omega | assumption | (simp only [go_sem] <;> first | omega | assumption | fail) | fail) only [go_sem]
    refine Loops.on (α := Nat) (fun i => i ≤ i0 ∧ firstFrom (fun i => q (l.getD i default)) i0 0 = firstFrom (fun i => q (l.getD i default)) (i0 - i) i) (fun i => i0 - i) (fun i => [(8, .d (.int .i64 i))]) (fun _ => H) 0 ⟨Nat.zero_le _, rfl⟩ ?_ ?_
    · exact Goes.slots (by simp -dsimp -implicitDefEqProofs (maxSteps := 2000000) (disch := first | omega | assumption | (simp only [go_sem] <;> first | omega | assumption | fail) | fail) only [go_sem]; exact .same rfl) rfl
    rintro i ⟨hi, hfst⟩
    simp -dsimp -implicitDefEqProofs (maxSteps := 2000000) (disch := first | omega | assumption | (simp only [go_sem] <;> first | omega | assumption | fail) | fail) only [go_sem]
    refine condP_intro (fun h => ?_) (fun h => ?_) <;> simp only [decide_eq_true_eq, decide_eq_false_iff_not] at h
    · have hst := firstFrom_step (fun i => q (l.getD i default)) i0 i h
      have h0 := (hcell i h 0).trans (at2_map encAtt l i 0 (by omega))
      have h1 := (hcell i h 1).trans (at2_map encAtt l i 1 (by omega))
      obtain ⟨a, ha⟩ : ∃ a, l.getD i default = a := ⟨_, rfl⟩
      rw [ha] at h0 h1
      simp only [encAtt, List.getD_cons_zero, List.getD_cons_succ] at h0 h1
      simp -dsimp -implicitDefEqProofs (maxSteps := 2000000) (disch := first | omega | assumption | (simp only [go_sem] <;> first | omega | assumption | fail) | fail) only [go_sem, h, h0, h1]
      refine (hf a).ret ?_
      simp -dsimp -implicitDefEqProofs (maxSteps := 2000000) (disch := first | omega | assumption | (simp only [go_sem] <;> first | omega | assumption | fail) | fail) only [go_sem]
      rw [ha] at hst
      (refine condP_intro (fun hp => ?_) (fun hp => ?_) <;> (try simp only [Bool.and_eq_true, Bool.or_eq_true, Bool.not_eq_true', Bool.not_eq_false', Bool.or_eq_false_iff, Bool.and_eq_false_imp, decide_eq_true_eq, decide_eq_false_iff_not, Bool.not_eq_true, Bool.not_eq_false, Int.ofNat_lt, Int.ofNat_le] at hp) <;> simp -dsimp -implicitDefEqProofs (maxSteps := 2000000) (disch := first | omega | assumption | (simp only [go_sem] <;> first | omega | assumption | fail) | fail) only [go_sem, hp])
      · exact Fin.ret (int_av (by rw [hfst, hst, if_pos hp])) rfl
      · refine Back.mk (i + 1) ⟨⟨h, by rw [hfst, hst, if_neg (by rw [hp]; simp)]⟩, by omega⟩ (Goes.slots (by simp -dsimp -implicitDefEqProofs (maxSteps := 2000000) (disch := first | omega | assumption | (simp only [go_sem] <;> first | omega | assumption | fail) | fail) only [go_sem]) rfl)
    · simp -dsimp -implicitDefEqProofs (maxSteps := 2000000) (disch := first | omega | assumption | (simp only [go_sem] <;> first | omega | assumption | fail) | fail) only [go_sem, h]
      exact Fin.ret (int_av (by rw [hfst, show i0 - i = 0 by omega]; rfl)) rfl
  refine Meets.of_body mixed tok (plan := fun _ => .done) Tryz.func82 Tryz.call82 Tryz.ntmps82 Tryz.results82 rfl (by kernel_rfl) ?_
  simp -dsimp -implicitDefEqProofs (maxSteps := 2000000) (disch := first | omega | assumption | (simp only [go_sem] <;> first | omega | assumption | fail) | fail) only [go_sem]
  refine hidx.ret ?_
  simp -dsimp -implicitDefEqProofs (maxSteps := 2000000) (disch := first | omega | assumption | (simp only [go_sem] <;> first | omega | assumption | fail) | fail) only [go_sem]
  refine Fin.ret (bool_av ?_) rfl
  rw [Bool.eq_iff_iff, decide_eq_true_eq, firstFrom_nonneg, List.any_eq_true]
  constructor
  · rintro ⟨j, _, h2, h3⟩
    have hj : j < l.length := by omega
    refine ⟨l.getD j default, ?_, h3⟩
    rw [List.getD, List.getElem?_eq_getElem hj]
    exact List.mem_take_iff_getElem.2 ⟨j, by omega, rfl⟩
  · rintro ⟨x, hx, hp⟩
    obtain ⟨j, hj, rfl⟩ := List.mem_take_iff_getElem.1 hx
    exact ⟨j, Nat.zero_le _, by omega, by simpa [List.getD, List.getElem?_eq_getElem (show j < l.length by omega)] using hp⟩
theorem ttwiceL_meets (E : Env) (l : List Att) (i0 : Nat) (cell : Nat → Nat → CV) (hcell : ∀ k, k < i0 → ∀ f, cell k f = at2 (l.map encAtt) k f) (hi0 : i0 ≤ l.length) (hl : l.length < 1073741824) (H : List Ent) (name : List UInt8) :
    Meets E Tryz.prog 52 [.c (.lst 2 i0 cell), .d (.str name)] H (Ret (.d (.bool (hasA (l.take i0) name))) H) := by
  refine Meets.closed fun hc => ?_
  refine Meets.of_body mixed tok (plan := fun _ => .done) Tryz.func52 Tryz.call52 Tryz.ntmps52 Tryz.results52 rfl (by kernel_rfl) ?_
  simp -dsimp -implicitDefEqProofs (maxSteps := 2000000) (disch := first | omega | assumption | (simp only [go_sem] <;> first | omega | assumption | fail) | fail) only [go_sem]
  refine (tanyL_meets E _ _ (fun a => decide (a.name = name)) l i0 cell hcell hi0 hl _ (fun a => ttwice1_meets E (by simp -dsimp -implicitDefEqProofs (maxSteps := 2000000) (disch := first | omega | assumption | (simp only [go_sem] <;> first | omega | assumption | fail) | fail) only [go_sem]) a)).ret ?_
  simp -dsimp -implicitDefEqProofs (maxSteps := 2000000) (disch := first | omega | assumption | (simp only [go_sem] <;> first | omega | assumption | fail) | fail) only [go_sem]
  exact Fin.cut (Nat.le_refl _) hc ⟨rfl, rfl⟩
/-- The attributes up to a place are right. -/
def attsTo (l : List Att) (i : Nat) : Bool := (List.range i).all fun k => writableA (l.getD k default) && !hasA (l.take k) (l.getD k default).name
theorem attsTo_step (l : List Att) (i : Nat) : attsTo l (i + 1) = (attsTo l i && (writableA (l.getD i default) && !hasA (l.take i) (l.getD i default).name)) := by
  simp [attsTo, List.range_succ]
def rightR (x : Itm) (first : Bool) : Bool :=
  if x.kind = 1 then attsTo x.attrs x.attrs.length && (validN x.name && decide (x.data = []) && !decide (50 < x.attrs.length))
  else if x.kind = 2 then decide (x.attrs.length = 0) && decide (x.name = []) && !decide (x.data = [])
  else if x.kind = 3 then decide (x.attrs.length = 0) && decide (x.name = [])
  else if x.kind = 6 then decide (x.attrs.length = 0) && first && decide (x.data = [])
  else false
theorem attsTo_no (l : List Att) (i : Nat) (hi : i < l.length) (h : (writableA (l.getD i default) && !hasA (l.take i) (l.getD i default).name) = false) : attsTo l l.length = false := by
  cases hc : attsTo l l.length with
  | false => rfl
  | true =>
    simp only [attsTo, List.all_eq_true, List.mem_range] at hc
    have := hc i hi
    rw [h] at this
    cases this
set_option maxRecDepth 20000 in
set_option maxHeartbeats 2000000 in
theorem tright_meets (x : Itm) (first : Bool) (hl : x.attrs.length < 1000000) (hw : ∀ a ∈ x.attrs, WOk a) (H : List Ent) :
    Meets tE Tryz.prog 31 [.s (.agg (encItm x)), .d (.bool first)] H (Ret (.d (.bool (rightR x first))) H) := by
  obtain ⟨dp, kd, nm, dt, l⟩ := x
  simp only at hl hw
  refine Meets.closed fun hc => ?_
  refine Meets.of_body mixed tok (plan := (fun | 7 => (.take 0 (.one 1 (.take 2 (.take 3 (.take 4 (.take 5 (.take 6 (.take 7 (.take 8 (.take 9 (.one 10 (.take 11 .done)))))))))))) | _ => .done)) Tryz.func31 Tryz.call31 Tryz.ntmps31 Tryz.results31 rfl (by kernel_rfl) ?_
  simp -dsimp -implicitDefEqProofs (maxSteps := 2000000) (disch := first | omega | assumption | (simp only [go_sem] <;> first | omega | assumption | fail) | fail) only [go_sem, encItm]
  (refine condP_intro (fun h1 => ?_) (fun h1 => ?_) <;> (try simp only [Bool.and_eq_true, Bool.or_eq_true, Bool.not_eq_true', Bool.not_eq_false', Bool.or_eq_false_iff, Bool.and_eq_false_imp, decide_eq_true_eq, decide_eq_false_iff_not, Bool.not_eq_true, Bool.not_eq_false, Int.ofNat_lt, Int.ofNat_le] at h1) <;> simp -dsimp -implicitDefEqProofs (maxSteps := 2000000) (disch := first | omega | assumption | (simp only [go_sem] <;> first | omega | assumption | fail) | fail) only [go_sem, h1, nat_eq])
  · obtain rfl : kd = 1 := by omega
    refine Loops.on (α := Nat) (fun i => i ≤ l.length ∧ attsTo l i = true) (fun i => l.length - i) (fun i => [(19, .d (.int .i64 i))]) (fun _ => H ++ [.box 38 (encItm ⟨dp, 1, nm, dt, l⟩)]) 0 ⟨Nat.zero_le _, rfl⟩ ?_ ?_
    · exact Goes.slots (by simp -dsimp -implicitDefEqProofs (maxSteps := 2000000) (disch := first | omega | assumption | (simp only [go_sem] <;> first | omega | assumption | fail) | fail) only [go_sem]; exact .same rfl) rfl
    rintro i ⟨hi, hat⟩
    simp -dsimp -implicitDefEqProofs (maxSteps := 2000000) (disch := first | omega | assumption | (simp only [go_sem] <;> first | omega | assumption | fail) | fail) only [go_sem, encItm]
    refine condP_intro (fun h => ?_) (fun h => ?_) <;> simp only [decide_eq_true_eq, decide_eq_false_iff_not] at h
    · have h0 := at2_map encAtt l i 0 h
      have h1 := at2_map encAtt l i 1 h
      have hmem : l.getD i default ∈ l := by rw [List.getD, List.getElem?_eq_getElem h]; exact List.getElem_mem h
      have hst := attsTo_step l i
      have hno := attsTo_no l i h
      obtain ⟨a, ha⟩ : ∃ a, l.getD i default = a := ⟨_, rfl⟩
      rw [ha] at h0 h1 hmem hst hno
      simp only [encAtt, List.getD_cons_zero, List.getD_cons_succ] at h0 h1
      simp -dsimp -implicitDefEqProofs (maxSteps := 2000000) (disch := first | omega | assumption | (simp only [go_sem] <;> first | omega | assumption | fail) | fail) only [go_sem, h, h0, h1]
      refine (hw a hmem _).ret ?_
      simp -dsimp -implicitDefEqProofs (maxSteps := 2000000) (disch := first | omega | assumption | (simp only [go_sem] <;> first | omega | assumption | fail) | fail) only [go_sem]
      (refine condP_intro (fun hwr => ?_) (fun hwr => ?_) <;> (try simp only [Bool.and_eq_true, Bool.or_eq_true, Bool.not_eq_true', Bool.not_eq_false', Bool.or_eq_false_iff, Bool.and_eq_false_imp, decide_eq_true_eq, decide_eq_false_iff_not, Bool.not_eq_true, Bool.not_eq_false, Int.ofNat_lt, Int.ofNat_le] at hwr) <;> simp -dsimp -implicitDefEqProofs (maxSteps := 2000000) (disch := first | omega | assumption | (simp only [go_sem] <;> first | omega | assumption | fail) | fail) only [go_sem, hwr])
      · (repeat (refine ⟨by first | omega | assumption | trivial | (simp only [List.length_take, List.length_map, List.length_append, List.length_cons, List.length_nil, List.length_drop]; omega), ?_⟩))
        refine (ttwiceL_meets tE l (i - 0) _ (fun k hk f => by simp only [subCell]; rw [if_pos hk, Nat.zero_add]) (by omega) (by omega) _ a.name).ret ?_
        simp -dsimp -implicitDefEqProofs (maxSteps := 2000000) (disch := first | omega | assumption | (simp only [go_sem] <;> first | omega | assumption | fail) | fail) only [go_sem, Nat.sub_zero]
        (refine condP_intro (fun htw => ?_) (fun htw => ?_) <;> (try simp only [Bool.and_eq_true, Bool.or_eq_true, Bool.not_eq_true', Bool.not_eq_false', Bool.or_eq_false_iff, Bool.and_eq_false_imp, decide_eq_true_eq, decide_eq_false_iff_not, Bool.not_eq_true, Bool.not_eq_false, Int.ofNat_lt, Int.ofNat_le] at htw) <;> simp -dsimp -implicitDefEqProofs (maxSteps := 2000000) (disch := first | omega | assumption | (simp only [go_sem] <;> first | omega | assumption | fail) | fail) only [go_sem, htw])
        · exact Fin.cut (Nat.le_refl _) hc ⟨bool_av (by rw [rightR, if_pos rfl]; simp only; rw [hno (by rw [hwr, htw]; rfl)]; rfl), rfl⟩
        · refine Back.rnA (N := H.length) [H.length] rfl (Nat.le_refl _) hc (by simp [rnOk, rnOk.rnFresh]) (by simp -dsimp -implicitDefEqProofs (maxSteps := 2000000) (disch := first | omega | assumption | (simp only [go_sem] <;> first | omega | assumption | fail) | fail) only [go_sem]) ?_
          simp -dsimp -implicitDefEqProofs (maxSteps := 2000000) (disch := first | omega | assumption | (simp only [go_sem] <;> first | omega | assumption | fail) | fail) only [go_sem]
          exact Back.mk (i + 1) ⟨⟨h, by rw [hst, hat, hwr, htw]; rfl⟩, by omega⟩ (Goes.slots (by simp -dsimp -implicitDefEqProofs (maxSteps := 2000000) (disch := first | omega | assumption | (simp only [go_sem] <;> first | omega | assumption | fail) | fail) only [go_sem]) rfl)
      · exact Fin.cut (Nat.le_refl _) hc ⟨bool_av (by rw [rightR, if_pos rfl]; simp only; rw [hno (by rw [hwr]; rfl)]; rfl), rfl⟩
    · obtain rfl : i = l.length := by omega
      simp -dsimp -implicitDefEqProofs (maxSteps := 2000000) (disch := first | omega | assumption | (simp only [go_sem] <;> first | omega | assumption | fail) | fail) only [go_sem, h]
      refine (Meets.more (valid_meets _ _)).ret ?_
      simp -dsimp -implicitDefEqProofs (maxSteps := 2000000) (disch := first | omega | assumption | (simp only [go_sem] <;> first | omega | assumption | fail) | fail) only [go_sem]
      have hR : rightR ⟨dp, 1, nm, dt, l⟩ first = (validN nm && decide (dt = []) && !decide (50 < l.length)) := by
        rw [rightR, if_pos rfl]
        simp only
        rw [hat, Bool.true_and]
      rw [hR]
      (refine condP_intro (fun hv => ?_) (fun hv => ?_) <;> (try simp only [Bool.and_eq_true, Bool.or_eq_true, Bool.not_eq_true', Bool.not_eq_false', Bool.or_eq_false_iff, Bool.and_eq_false_imp, decide_eq_true_eq, decide_eq_false_iff_not, Bool.not_eq_true, Bool.not_eq_false, Int.ofNat_lt, Int.ofNat_le] at hv) <;> simp -dsimp -implicitDefEqProofs (maxSteps := 2000000) (disch := first | omega | assumption | (simp only [go_sem] <;> first | omega | assumption | fail) | fail) only [go_sem, hv])
      · (refine condP_intro (fun hd => ?_) (fun hd => ?_) <;> (try simp only [Bool.and_eq_true, Bool.or_eq_true, Bool.not_eq_true', Bool.not_eq_false', Bool.or_eq_false_iff, Bool.and_eq_false_imp, decide_eq_true_eq, decide_eq_false_iff_not, Bool.not_eq_true, Bool.not_eq_false, Int.ofNat_lt, Int.ofNat_le] at hd) <;> simp -dsimp -implicitDefEqProofs (maxSteps := 2000000) (disch := first | omega | assumption | (simp only [go_sem] <;> first | omega | assumption | fail) | fail) only [go_sem, hd])
        · refine (tmany_meets tE ⟨dp, 1, nm, [], l⟩ _).ret ?_
          simp -dsimp -implicitDefEqProofs (maxSteps := 2000000) (disch := first | omega | assumption | (simp only [go_sem] <;> first | omega | assumption | fail) | fail) only [go_sem]
          exact Fin.cut (Nat.le_refl _) hc ⟨bool_av (by simp [hv, hd]), rfl⟩
        · exact Fin.cut (Nat.le_refl _) hc ⟨bool_av (by simp [hd]), rfl⟩
      · exact Fin.cut (Nat.le_refl _) hc ⟨bool_av (by simp), rfl⟩
  (refine condP_intro (fun h2 => ?_) (fun h2 => ?_) <;> (try simp only [Bool.and_eq_true, Bool.or_eq_true, Bool.not_eq_true', Bool.not_eq_false', Bool.or_eq_false_iff, Bool.and_eq_false_imp, decide_eq_true_eq, decide_eq_false_iff_not, Bool.not_eq_true, Bool.not_eq_false, Int.ofNat_lt, Int.ofNat_le] at h2) <;> simp -dsimp -implicitDefEqProofs (maxSteps := 2000000) (disch := first | omega | assumption | (simp only [go_sem] <;> first | omega | assumption | fail) | fail) only [go_sem, h2, nat_eq])
  · obtain rfl : kd = 2 := by omega
    (refine condP_intro (fun hb => ?_) (fun hb => ?_) <;> (try simp only [Bool.and_eq_true, Bool.or_eq_true, Bool.not_eq_true', Bool.not_eq_false', Bool.or_eq_false_iff, Bool.and_eq_false_imp, decide_eq_true_eq, decide_eq_false_iff_not, Bool.not_eq_true, Bool.not_eq_false, Int.ofNat_lt, Int.ofNat_le] at hb) <;> simp -dsimp -implicitDefEqProofs (maxSteps := 2000000) (disch := first | omega | assumption | (simp only [go_sem] <;> first | omega | assumption | fail) | fail) only [go_sem, hb])
    · (refine condP_intro (fun hm => ?_) (fun hm => ?_) <;> (try simp only [Bool.and_eq_true, Bool.or_eq_true, Bool.not_eq_true', Bool.not_eq_false', Bool.or_eq_false_iff, Bool.and_eq_false_imp, decide_eq_true_eq, decide_eq_false_iff_not, Bool.not_eq_true, Bool.not_eq_false, Int.ofNat_lt, Int.ofNat_le] at hm) <;> simp -dsimp -implicitDefEqProofs (maxSteps := 2000000) (disch := first | omega | assumption | (simp only [go_sem] <;> first | omega | assumption | fail) | fail) only [go_sem, hm])
      · exact Fin.cut (Nat.le_refl _) hc ⟨bool_av (by simp [rightR, hb, hm]), rfl⟩
      · exact Fin.cut (Nat.le_refl _) hc ⟨bool_av (by simp [rightR, hb, hm]), rfl⟩
    · exact Fin.cut (Nat.le_refl _) hc ⟨bool_av (by simp [rightR, hb]), rfl⟩
  (refine condP_intro (fun h3 => ?_) (fun h3 => ?_) <;> (try simp only [Bool.and_eq_true, Bool.or_eq_true, Bool.not_eq_true', Bool.not_eq_false', Bool.or_eq_false_iff, Bool.and_eq_false_imp, decide_eq_true_eq, decide_eq_false_iff_not, Bool.not_eq_true, Bool.not_eq_false, Int.ofNat_lt, Int.ofNat_le] at h3) <;> simp -dsimp -implicitDefEqProofs (maxSteps := 2000000) (disch := first | omega | assumption | (simp only [go_sem] <;> first | omega | assumption | fail) | fail) only [go_sem, h3, nat_eq])
  · obtain rfl : kd = 3 := by omega
    (refine condP_intro (fun hb => ?_) (fun hb => ?_) <;> (try simp only [Bool.and_eq_true, Bool.or_eq_true, Bool.not_eq_true', Bool.not_eq_false', Bool.or_eq_false_iff, Bool.and_eq_false_imp, decide_eq_true_eq, decide_eq_false_iff_not, Bool.not_eq_true, Bool.not_eq_false, Int.ofNat_lt, Int.ofNat_le] at hb) <;> simp -dsimp -implicitDefEqProofs (maxSteps := 2000000) (disch := first | omega | assumption | (simp only [go_sem] <;> first | omega | assumption | fail) | fail) only [go_sem, hb])
    · exact Fin.cut (Nat.le_refl _) hc ⟨bool_av (by simp [rightR, hb]), rfl⟩
    · exact Fin.cut (Nat.le_refl _) hc ⟨bool_av (by simp [rightR, hb]), rfl⟩
  (refine condP_intro (fun h4 => ?_) (fun h4 => ?_) <;> (try simp only [Bool.and_eq_true, Bool.or_eq_true, Bool.not_eq_true', Bool.not_eq_false', Bool.or_eq_false_iff, Bool.and_eq_false_imp, decide_eq_true_eq, decide_eq_false_iff_not, Bool.not_eq_true, Bool.not_eq_false, Int.ofNat_lt, Int.ofNat_le] at h4) <;> simp -dsimp -implicitDefEqProofs (maxSteps := 2000000) (disch := first | omega | assumption | (simp only [go_sem] <;> first | omega | assumption | fail) | fail) only [go_sem, h4, nat_eq])
  · obtain rfl : kd = 6 := by omega
    (refine condP_intro (fun hb => ?_) (fun hb => ?_) <;> (try simp only [Bool.and_eq_true, Bool.or_eq_true, Bool.not_eq_true', Bool.not_eq_false', Bool.or_eq_false_iff, Bool.and_eq_false_imp, decide_eq_true_eq, decide_eq_false_iff_not, Bool.not_eq_true, Bool.not_eq_false, Int.ofNat_lt, Int.ofNat_le] at hb) <;> simp -dsimp -implicitDefEqProofs (maxSteps := 2000000) (disch := first | omega | assumption | (simp only [go_sem] <;> first | omega | assumption | fail) | fail) only [go_sem, hb])
    · (refine condP_intro (fun hm => ?_) (fun hm => ?_) <;> (try simp only [Bool.and_eq_true, Bool.or_eq_true, Bool.not_eq_true', Bool.not_eq_false', Bool.or_eq_false_iff, Bool.and_eq_false_imp, decide_eq_true_eq, decide_eq_false_iff_not, Bool.not_eq_true, Bool.not_eq_false, Int.ofNat_lt, Int.ofNat_le] at hm) <;> simp -dsimp -implicitDefEqProofs (maxSteps := 2000000) (disch := first | omega | assumption | (simp only [go_sem] <;> first | omega | assumption | fail) | fail) only [go_sem, hm])
      · exact Fin.cut (Nat.le_refl _) hc ⟨bool_av (by simp [rightR, hb, hm]), rfl⟩
      · exact Fin.cut (Nat.le_refl _) hc ⟨bool_av (by simp [rightR, hb, hm]), rfl⟩
    · exact Fin.cut (Nat.le_refl _) hc ⟨bool_av (by simp [rightR, hb]), rfl⟩
  · have g1 : ¬ kd = 1 := by omega
    have g2 : ¬ kd = 2 := by omega
    have g3 : ¬ kd = 3 := by omega
    have g4 : ¬ kd = 6 := by omega
    exact Fin.cut (Nat.le_refl _) hc ⟨bool_av (by simp [rightR, g1, g2, g3, g4]), rfl⟩
def soundF : List Itm → Nat → Int → Bool
  | [], _, _ => true
  | x :: l, i, m => if x.deep < 0 ∨ m < x.deep ∨ rightR x (decide ((i : Int) = 0)) = false then false else soundF l (i + 1) (if x.kind = 1 ∧ voids.contains x.name = false then x.deep + 1 else x.deep)
def soundB (l : List Itm) : Bool := soundF l 0 0 && decide (l.length ≤ 5000)
set_option maxRecDepth 20000 in
set_option maxHeartbeats 4000000 in
theorem tsound_meets (l : List Itm) (hl : l.length < 1000000) (hw : ∀ x ∈ l, x.attrs.length < 1000000 ∧ ∀ a ∈ x.attrs, WOk a) (H : List Ent) :
    Meets tE Tryz.prog 19 [.c (.lst 5 l.length (at2 (l.map encItm)))] H (Ret (.d (.bool (soundB l))) H) := by
  refine Meets.closed fun hc => ?_
  refine Meets.of_body mixed tok (plan := fun _ => .done) Tryz.func19 Tryz.call19 Tryz.ntmps19 Tryz.results19 rfl (by kernel_rfl) ?_
  simp -dsimp -implicitDefEqProofs (maxSteps := 2000000) (disch := first | omega | assumption | (simp only [go_sem] <;> first | omega | assumption | fail) | fail) only [go_sem]
  refine Loops.on (α := Nat × Nat) (fun q => q.1 ≤ l.length ∧ q.2 ≤ q.1 ∧ soundF (l.drop q.1) q.1 q.2 = soundF l 0 0) (fun q => l.length - q.1) (fun q => [(8, .d (.int .i64 q.1)), (3, .d (.int .i64 q.2))]) (fun _ => H) (0, 0) ⟨Nat.zero_le _, Nat.le_refl _, rfl⟩ ?_ ?_
  · exact Goes.slots (by simp -dsimp -implicitDefEqProofs (maxSteps := 2000000) (disch := first | omega | assumption | (simp only [go_sem] <;> first | omega | assumption | fail) | fail) only [go_sem]; exact ⟨.same rfl, .same rfl⟩) rfl
  rintro ⟨i, m⟩ ⟨hi, hm, heq⟩
  simp only at hi hm heq
  simp -dsimp -implicitDefEqProofs (maxSteps := 2000000) (disch := first | omega | assumption | (simp only [go_sem] <;> first | omega | assumption | fail) | fail) only [go_sem]
  refine condP_intro (fun h => ?_) (fun h => ?_) <;> simp only [decide_eq_true_eq, decide_eq_false_iff_not] at h
  · have g0 := at2_map encItm l i 0 h
    have g1 := at2_map encItm l i 1 h
    have g2 := at2_map encItm l i 2 h
    have g3 := at2_map encItm l i 3 h
    have g4 := at2_map encItm l i 4 h
    have hmem : l.getD i default ∈ l := by rw [List.getD, List.getElem?_eq_getElem h]; exact List.getElem_mem h
    have hdr : l.drop i = l.getD i default :: l.drop (i + 1) := by rw [List.drop_eq_getElem_cons h]; simp [List.getD, h]
    rw [hdr] at heq
    obtain ⟨x, hx⟩ : ∃ x, l.getD i default = x := ⟨_, rfl⟩
    rw [hx] at g0 g1 g2 g3 g4 hmem heq
    have hwx := hw x hmem
    obtain ⟨dp, kd, nm, dt, ats⟩ := x
    simp only [encItm, List.getD_cons_zero, List.getD_cons_succ] at g0 g1 g2 g3 g4
    simp only [soundF] at heq
    simp -dsimp -implicitDefEqProofs (maxSteps := 2000000) (disch := first | omega | assumption | (simp only [go_sem] <;> first | omega | assumption | fail) | fail) only [go_sem, h, g0, g1, g2, g3, g4]
    have hfalse : dp < 0 ∨ (m : Int) < dp ∨ rightR ⟨dp, kd, nm, dt, ats⟩ (decide ((i : Int) = 0)) = false → soundB l = false := fun hh => by
      rw [if_pos hh] at heq
      rw [soundB, ← heq]
      rfl
    (refine condP_intro (fun h1 => ?_) (fun h1 => ?_) <;> (try simp only [Bool.and_eq_true, Bool.or_eq_true, Bool.not_eq_true', Bool.not_eq_false', Bool.or_eq_false_iff, Bool.and_eq_false_imp, decide_eq_true_eq, decide_eq_false_iff_not, Bool.not_eq_true, Bool.not_eq_false, Int.ofNat_lt, Int.ofNat_le] at h1) <;> simp -dsimp -implicitDefEqProofs (maxSteps := 2000000) (disch := first | omega | assumption | (simp only [go_sem] <;> first | omega | assumption | fail) | fail) only [go_sem, h1])
    · (refine condP_intro (fun h2 => ?_) (fun h2 => ?_) <;> (try simp only [Bool.and_eq_true, Bool.or_eq_true, Bool.not_eq_true', Bool.not_eq_false', Bool.or_eq_false_iff, Bool.and_eq_false_imp, decide_eq_true_eq, decide_eq_false_iff_not, Bool.not_eq_true, Bool.not_eq_false, Int.ofNat_lt, Int.ofNat_le] at h2) <;> simp -dsimp -implicitDefEqProofs (maxSteps := 2000000) (disch := first | omega | assumption | (simp only [go_sem] <;> first | omega | assumption | fail) | fail) only [go_sem, h2])
      · refine (tright_meets ⟨dp, kd, nm, dt, ats⟩ (decide ((i : Int) = 0)) hwx.1 hwx.2 _).ret ?_
        simp -dsimp -implicitDefEqProofs (maxSteps := 2000000) (disch := first | omega | assumption | (simp only [go_sem] <;> first | omega | assumption | fail) | fail) only [go_sem]
        (refine condP_intro (fun h3 => ?_) (fun h3 => ?_) <;> (try simp only [Bool.and_eq_true, Bool.or_eq_true, Bool.not_eq_true', Bool.not_eq_false', Bool.or_eq_false_iff, Bool.and_eq_false_imp, decide_eq_true_eq, decide_eq_false_iff_not, Bool.not_eq_true, Bool.not_eq_false, Int.ofNat_lt, Int.ofNat_le] at h3) <;> simp -dsimp -implicitDefEqProofs (maxSteps := 2000000) (disch := first | omega | assumption | (simp only [go_sem] <;> first | omega | assumption | fail) | fail) only [go_sem, h3])
        · exact Fin.cut (Nat.le_refl _) hc ⟨bool_av (hfalse (.inr (.inr h3))).symm, rfl⟩
        · rw [if_neg (by rintro (h | h | h); exact h1 h; exact h2 h; rw [h3] at h; cases h)] at heq
          obtain ⟨d, rfl⟩ : ∃ d : Nat, dp = d := ⟨dp.toNat, by omega⟩
          have hdm : d ≤ m := by omega
          (refine condP_intro (fun h4 => ?_) (fun h4 => ?_) <;> (try simp only [Bool.and_eq_true, Bool.or_eq_true, Bool.not_eq_true', Bool.not_eq_false', Bool.or_eq_false_iff, Bool.and_eq_false_imp, decide_eq_true_eq, decide_eq_false_iff_not, Bool.not_eq_true, Bool.not_eq_false, Int.ofNat_lt, Int.ofNat_le] at h4) <;> simp -dsimp -implicitDefEqProofs (maxSteps := 2000000) (disch := first | omega | assumption | (simp only [go_sem] <;> first | omega | assumption | fail) | fail) only [go_sem, h4, nat_eq])
          · obtain rfl : kd = 1 := by omega
            refine (Meets.more (void_meets _ _)).ret ?_
            simp -dsimp -implicitDefEqProofs (maxSteps := 2000000) (disch := first | omega | assumption | (simp only [go_sem] <;> first | omega | assumption | fail) | fail) only [go_sem]
            (refine condP_intro (fun h5 => ?_) (fun h5 => ?_) <;> (try simp only [Bool.and_eq_true, Bool.or_eq_true, Bool.not_eq_true', Bool.not_eq_false', Bool.or_eq_false_iff, Bool.and_eq_false_imp, decide_eq_true_eq, decide_eq_false_iff_not, Bool.not_eq_true, Bool.not_eq_false, Int.ofNat_lt, Int.ofNat_le] at h5) <;> simp -dsimp -implicitDefEqProofs (maxSteps := 2000000) (disch := first | omega | assumption | (simp only [go_sem] <;> first | omega | assumption | fail) | fail) only [go_sem, h5])
            · rw [if_pos ⟨rfl, h5⟩] at heq
              refine Back.rnA (N := H.length) [] rfl (Nat.le_refl _) hc trivial trivial ?_
              simp -dsimp -implicitDefEqProofs (maxSteps := 2000000) (disch := first | omega | assumption | (simp only [go_sem] <;> first | omega | assumption | fail) | fail) only [go_sem]
              exact Back.mk (i + 1, d + 1) ⟨⟨h, by simp only; omega, by simp only; rw [show (((d + 1 : Nat)) : Int) = (d : Int) + 1 by omega]; exact heq⟩, by simp only; omega⟩ (Goes.slots (by simp -dsimp -implicitDefEqProofs (maxSteps := 2000000) (disch := first | omega | assumption | (simp only [go_sem] <;> first | omega | assumption | fail) | fail) only [go_sem]) rfl)
            · rw [if_neg (fun hh => by rw [h5] at hh; cases hh.2)] at heq
              refine Back.rnA (N := H.length) [] rfl (Nat.le_refl _) hc trivial trivial ?_
              simp -dsimp -implicitDefEqProofs (maxSteps := 2000000) (disch := first | omega | assumption | (simp only [go_sem] <;> first | omega | assumption | fail) | fail) only [go_sem]
              exact Back.mk (i + 1, d) ⟨⟨h, by simp only; omega, heq⟩, by simp only; omega⟩ (Goes.slots (by simp -dsimp -implicitDefEqProofs (maxSteps := 2000000) (disch := first | omega | assumption | (simp only [go_sem] <;> first | omega | assumption | fail) | fail) only [go_sem]) rfl)
          · rw [if_neg (fun hh => h4 (by rw [hh.1]; rfl))] at heq
            refine Back.rnA (N := H.length) [] rfl (Nat.le_refl _) hc trivial trivial ?_
            simp -dsimp -implicitDefEqProofs (maxSteps := 2000000) (disch := first | omega | assumption | (simp only [go_sem] <;> first | omega | assumption | fail) | fail) only [go_sem]
            exact Back.mk (i + 1, d) ⟨⟨h, by simp only; omega, heq⟩, by simp only; omega⟩ (Goes.slots (by simp -dsimp -implicitDefEqProofs (maxSteps := 2000000) (disch := first | omega | assumption | (simp only [go_sem] <;> first | omega | assumption | fail) | fail) only [go_sem]) rfl)
      · exact Fin.cut (Nat.le_refl _) hc ⟨bool_av (hfalse (.inr (.inl h2))).symm, rfl⟩
    · exact Fin.cut (Nat.le_refl _) hc ⟨bool_av (hfalse (.inl h1)).symm, rfl⟩
  · obtain rfl : i = l.length := by omega
    have h0 : soundF l 0 0 = true := by rw [← heq, List.drop_length]; rfl
    simp -dsimp -implicitDefEqProofs (maxSteps := 2000000) (disch := first | omega | assumption | (simp only [go_sem] <;> first | omega | assumption | fail) | fail) only [go_sem, h]
    exact Fin.ret (bool_av (by rw [soundB, h0, Bool.true_and])) rfl
end
end Go.Proofs.YtdpjmfipgkblfaaGreatDoor
