/- Contracts of package tree, by V: ends, tokens. -/
import Derived.Test.YtdpjmfipgkblfaaGreatDoorTreeU
set_option linter.unusedSimpArgs false
namespace Go.Proofs.YtdpjmfipgkblfaaGreatDoor
open Go Go.V
attribute [local irreducible] vc vcL vcP vcI vcO stOp Loops condP bx bx2 Meets Back
section
variable {b : Bd} {H : List Ent} {n : Nat}

attribute [local go_sem] a64 a64l a64r s64 s64l ite_min ite_max zlt_l zlt_r zle_l zle_r zeq len_eq byte_eq Nat.zero_le nth_set_ne List.forall_mem_cons all_nil isPl allSh_strs allNr_strs allSh_itm allNr_itm allSh_flt allNr_flt allSh_att allNr_att strs_length bBox encAtts strs_length Nat.reduceAdd Nat.reduceSub Nat.reduceMul Nat.reduceLT Nat.reduceLeDiff Nat.reduceEqDiff Int.reduceEq Int.reduceLT Int.reduceLE
/-- slices.ContainsFunc at names, from a place on. -/
theorem tanyS_meets (E : Env) (g : Nat) (caps : List Nat) (q : List UInt8 → Bool) (m k j cap ty c tot : Nat) (cell : Nat → Nat → CV) (ws : List (List UInt8)) (hk : k < 1073741824) (H : List Ent) (hm : nth H m = .row ty 1 tot c cell) (hj : j + k = tot) (hcell : ∀ i, i < tot → cell i 0 = .str (ws.getD i []))
    (hf : ∀ x, Meets E Tryz.prog g (.d (.str x) :: capArgs caps) H (Ret (.d (.bool (q x))) H)) :
    Meets E Tryz.prog 77 [.c (.sl m 1 j k cap), .c (.fn g caps)] H (Ret (.d (.bool (decide (0 ≤ firstFrom (fun i => q (ws.getD (j + i) [])) k 0)))) H) := by
  have hidx : Meets E Tryz.prog 104 [.c (.sl m 1 j k cap), .c (.fn g caps)] H (Ret (.d (.int .i64 (firstFrom (fun i => q (ws.getD (j + i) [])) k 0))) H) := by
    refine Meets.of_body mixed tok (plan := fun _ => .done) Tryz.func104 Tryz.call104 Tryz.ntmps104 Tryz.results104 rfl (by kernel_rfl) ?_
    simp -dsimp -implicitDefEqProofs (maxSteps := 2000000) (disch := first | omega | assumption | (simp only [go_sem] <;> first | omega | assumption | fail) | fail) only [go_sem]
    refine Loops.on (α := Nat) (fun i => i ≤ k ∧ firstFrom (fun i => q (ws.getD (j + i) [])) k 0 = firstFrom (fun i => q (ws.getD (j + i) [])) (k - i) i) (fun i => k - i) (fun i => [(8, .d (.int .i64 i))]) (fun _ => H) 0 ⟨Nat.zero_le _, rfl⟩ ?_ ?_
    · exact Goes.slots (by simp -dsimp -implicitDefEqProofs (maxSteps := 2000000) (disch := first | omega | assumption | (simp only [go_sem] <;> first | omega | assumption | fail) | fail) only [go_sem]; exact .same rfl) rfl
    rintro i ⟨hi, hfst⟩
    simp -dsimp -implicitDefEqProofs (maxSteps := 2000000) (disch := first | omega | assumption | (simp only [go_sem] <;> first | omega | assumption | fail) | fail) only [go_sem]
    refine condP_intro (fun h => ?_) (fun h => ?_) <;> simp only [decide_eq_true_eq, decide_eq_false_iff_not] at h
    · have hst := firstFrom_step (fun i => q (ws.getD (j + i) [])) k i h
      simp -dsimp -implicitDefEqProofs (maxSteps := 2000000) (disch := first | omega | assumption | (simp only [go_sem] <;> first | omega | assumption | fail) | fail) only [go_sem, h, hm, hcell (j + i) (by omega)]
      (repeat (refine ⟨by first | omega | assumption | trivial | (simp only [List.length_take, List.length_map, List.length_append, List.length_cons, List.length_nil, List.length_drop]; omega), ?_⟩))
      refine (hf _).ret ?_
      simp -dsimp -implicitDefEqProofs (maxSteps := 2000000) (disch := first | omega | assumption | (simp only [go_sem] <;> first | omega | assumption | fail) | fail) only [go_sem]
      (refine condP_intro (fun hp => ?_) (fun hp => ?_) <;> (try simp only [Bool.and_eq_true, Bool.or_eq_true, Bool.not_eq_true', Bool.not_eq_false', Bool.or_eq_false_iff, Bool.and_eq_false_imp, decide_eq_true_eq, decide_eq_false_iff_not, Bool.not_eq_true, Bool.not_eq_false, Int.ofNat_lt, Int.ofNat_le] at hp) <;> simp -dsimp -implicitDefEqProofs (maxSteps := 2000000) (disch := first | omega | assumption | (simp only [go_sem] <;> first | omega | assumption | fail) | fail) only [go_sem, hp])
      · exact Fin.ret (int_av (by rw [hfst, hst, if_pos hp])) rfl
      · refine Back.mk (i + 1) ⟨⟨h, by rw [hfst, hst, if_neg (by rw [hp]; simp)]⟩, by omega⟩ (Goes.slots (by simp -dsimp -implicitDefEqProofs (maxSteps := 2000000) (disch := first | omega | assumption | (simp only [go_sem] <;> first | omega | assumption | fail) | fail) only [go_sem]) rfl)
    · simp -dsimp -implicitDefEqProofs (maxSteps := 2000000) (disch := first | omega | assumption | (simp only [go_sem] <;> first | omega | assumption | fail) | fail) only [go_sem, h]
      exact Fin.ret (int_av (by rw [hfst, show k - i = 0 by omega]; rfl)) rfl
  refine Meets.of_body mixed tok (plan := fun _ => .done) Tryz.func77 Tryz.call77 Tryz.ntmps77 Tryz.results77 rfl (by kernel_rfl) ?_
  simp -dsimp -implicitDefEqProofs (maxSteps := 2000000) (disch := first | omega | assumption | (simp only [go_sem] <;> first | omega | assumption | fail) | fail) only [go_sem]
  refine hidx.ret ?_
  simp -dsimp -implicitDefEqProofs (maxSteps := 2000000) (disch := first | omega | assumption | (simp only [go_sem] <;> first | omega | assumption | fail) | fail) only [go_sem]
  exact Fin.ret rfl rfl
theorem any_drop (q : List UInt8 → Bool) (ws : List (List UInt8)) (j : Nat) (hj : j ≤ ws.length) : decide (0 ≤ firstFrom (fun i => q (ws.getD (j + i) [])) (ws.length - j) 0) = (ws.drop j).any q := by
  rw [Bool.eq_iff_iff, decide_eq_true_eq, firstFrom_nonneg, List.any_eq_true]
  constructor
  · rintro ⟨i, _, h2, h3⟩
    have hi : j + i < ws.length := by omega
    refine ⟨ws.getD (j + i) [], ?_, h3⟩
    rw [List.getD, List.getElem?_eq_getElem hi]
    exact List.mem_drop_iff_getElem.2 ⟨i, by omega, rfl⟩
  · rintro ⟨x, hx, hp⟩
    obtain ⟨i, hi, rfl⟩ := List.mem_drop_iff_getElem.1 hx
    exact ⟨i, Nat.zero_le _, by omega, by simpa [List.getD, List.getElem?_eq_getElem (show j + i < ws.length by omega)] using hp⟩
theorem stop_bd (is stop l : List (List UInt8)) (h : ¬ nearR is stop l < 0) : (nearR is stop l).toNat < l.length ∧ nearR is stop l = ((nearR is stop l).toNat : Int) := by
  have := nearF_le (fun x => is.contains x) (fun x => stop.contains x) l l.length
  unfold nearR at *
  omega
theorem fltIf_opn (c : Bool) (b : Bd) (k : Nat) : (if c then b.fault k else b).opn = b.opn := by split <;> rfl
set_option maxRecDepth 20000 in
set_option maxHeartbeats 4000000 in
theorem tstop_meets (hn : nth H n = bBox b) (hb : BdIn b) (name : List UInt8) :
    Meets tE Tryz.prog 47 [.c (.ptr n 0 0), .d (.str name)] H (Ret (.tup []) (setn H n (bBox (stopR name b)))) := by
  have hlt := bd_lt hn
  have hbo := hb.ok
  refine Meets.closed fun hc => ?_
  refine Meets.of_body mixed tok (plan := (fun | 7 => (.take 0 (.take 1 (.take 2 (.take 3 (.take 4 (.take 5 (.take 6 (.one 7 (.one 8 (.take 9 (.take 10 (.take 11 .done)))))))))))) | _ => .done)) Tryz.func47 Tryz.call47 Tryz.ntmps47 Tryz.results47 rfl (by kernel_rfl) ?_
  simp -dsimp -implicitDefEqProofs (maxSteps := 2000000) (disch := first | omega | assumption | (simp only [go_sem] <;> first | omega | assumption | fail) | fail) only [go_sem, hn]
  refine (tone_meets tE _ _ _ _).ret ?_
  simp -dsimp -implicitDefEqProofs (maxSteps := 2000000) (disch := first | omega | assumption | (simp only [go_sem] <;> first | omega | assumption | fail) | fail) only [go_sem]
  refine (thead_meets name _).ret ?_
  simp -dsimp -implicitDefEqProofs (maxSteps := 2000000) (disch := first | omega | assumption | (simp only [go_sem] <;> first | omega | assumption | fail) | fail) only [go_sem]
  have h0 : stopR name b = if name = [98, 114] ∨ name = [112] ∧ nearR [[112]] boundsL b.opn < 0 then (b.fault 8).item ⟨0, 1, name, [], []⟩ else
      if voids.contains name ∨ nearR (if headsL.contains name then headsL else [name]) [[116, 101, 109, 112, 108, 97, 116, 101]] b.opn < 0 then b.fault 8
      else (if (!decide (b.opn.getD (nearR (if headsL.contains name then headsL else [name]) [[116, 101, 109, 112, 108, 97, 116, 101]] b.opn).toNat [] = name) || (b.opn.drop ((nearR (if headsL.contains name then headsL else [name]) [[116, 101, 109, 112, 108, 97, 116, 101]] b.opn).toNat + 1)).any fun x => !lastsL.contains x) then b.fault 9 else b).end_ (nearR (if headsL.contains name then headsL else [name]) [[116, 101, 109, 112, 108, 97, 116, 101]] b.opn) := by
    unfold stopR
    rw [w_br, w_p, w_template]
  (refine condP_intro (fun h1 => ?_) (fun h1 => ?_) <;> (try simp only [Bool.and_eq_true, Bool.or_eq_true, Bool.not_eq_true', Bool.not_eq_false', Bool.or_eq_false_iff, Bool.and_eq_false_imp, decide_eq_true_eq, decide_eq_false_iff_not, Bool.not_eq_true, Bool.not_eq_false, Int.ofNat_lt, Int.ofNat_le] at h1) <;> simp -dsimp -implicitDefEqProofs (maxSteps := 2000000) (disch := first | omega | assumption | (simp only [go_sem] <;> first | omega | assumption | fail) | fail) only [go_sem, h1])
  · simp only [h1, if_true] at h0
    have hbd := nearF_le (fun x => headsL.contains x) (fun x => ([[116, 101, 109, 112, 108, 97, 116, 101]] : List (List UInt8)).contains x) b.opn b.opn.length
    have hne := tnearHead_meets (b := b) (H := H ++ [Ent.row 9 1 1 1 (at2 [[.str name]]), Ent.box 46 [.sl H.length 1 0 1 1], Ent.row 9 1 1 1 (at2 [[.str [116, 101, 109, 112, 108, 97, 116, 101]]])]) (n := n) (m := H.length + 2) (cap := 1) (ws := ([[116, 101, 109, 112, 108, 97, 116, 101]] : List (List UInt8))) (by simp -dsimp -implicitDefEqProofs (maxSteps := 2000000) (disch := first | omega | assumption | (simp only [go_sem] <;> first | omega | assumption | fail) | fail) only [go_sem, hn] <;> rfl) hbo (by simp -dsimp -implicitDefEqProofs (maxSteps := 2000000) (disch := first | omega | assumption | (simp only [go_sem] <;> first | omega | assumption | fail) | fail) only [go_sem]; rfl) (by decide) (fun i hi => strs_get ([[116, 101, 109, 112, 108, 97, 116, 101]] : List (List UInt8)) i hi)
    change -1 ≤ nearR headsL ([[116, 101, 109, 112, 108, 97, 116, 101]] : List (List UInt8)) b.opn ∧ nearR headsL ([[116, 101, 109, 112, 108, 97, 116, 101]] : List (List UInt8)) b.opn < b.opn.length at hbd
    obtain ⟨k, hk⟩ : ∃ k, nearR headsL ([[116, 101, 109, 112, 108, 97, 116, 101]] : List (List UInt8)) b.opn = k := ⟨_, rfl⟩
    rw [hk] at hne hbd h0
    refine (hne).ret ?_
    simp -dsimp -implicitDefEqProofs (maxSteps := 2000000) (disch := first | omega | assumption | (simp only [go_sem] <;> first | omega | assumption | fail) | fail) only [go_sem]
    (refine condP_intro (fun h2 => ?_) (fun h2 => ?_) <;> (try simp only [Bool.and_eq_true, Bool.or_eq_true, Bool.not_eq_true', Bool.not_eq_false', Bool.or_eq_false_iff, Bool.and_eq_false_imp, decide_eq_true_eq, decide_eq_false_iff_not, Bool.not_eq_true, Bool.not_eq_false, Int.ofNat_lt, Int.ofNat_le] at h2) <;> simp -dsimp -implicitDefEqProofs (maxSteps := 2000000) (disch := first | omega | assumption | (simp only [go_sem] <;> first | omega | assumption | fail) | fail) only [go_sem, h2])
    · subst h2
      exact absurd h1 (by decide)
    (refine condP_intro (fun h3 => ?_) (fun h3 => ?_) <;> (try simp only [Bool.and_eq_true, Bool.or_eq_true, Bool.not_eq_true', Bool.not_eq_false', Bool.or_eq_false_iff, Bool.and_eq_false_imp, decide_eq_true_eq, decide_eq_false_iff_not, Bool.not_eq_true, Bool.not_eq_false, Int.ofNat_lt, Int.ofNat_le] at h3) <;> simp -dsimp -implicitDefEqProofs (maxSteps := 2000000) (disch := first | omega | assumption | (simp only [go_sem] <;> first | omega | assumption | fail) | fail) only [go_sem, h3])
    · subst h3
      exact absurd h1 (by decide)
    have hF0 := h0.trans (if_neg (fun h => h.elim h2 (fun h => h3 h.1)))
    have hF := hF0
    (refine condP_intro (fun h4 => ?_) (fun h4 => ?_) <;> (try simp only [Bool.and_eq_true, Bool.or_eq_true, Bool.not_eq_true', Bool.not_eq_false', Bool.or_eq_false_iff, Bool.and_eq_false_imp, decide_eq_true_eq, decide_eq_false_iff_not, Bool.not_eq_true, Bool.not_eq_false, Int.ofNat_lt, Int.ofNat_le] at h4) <;> simp -dsimp -implicitDefEqProofs (maxSteps := 2000000) (disch := first | omega | assumption | (simp only [go_sem] <;> first | omega | assumption | fail) | fail) only [go_sem, h4])
    · have hres := hF.trans (if_pos (.inr h4))
      refine (tfault_meets tE (b := b) (n := n) (by simp -dsimp -implicitDefEqProofs (maxSteps := 2000000) (disch := first | omega | assumption | (simp only [go_sem] <;> first | omega | assumption | fail) | fail) only [go_sem, hn] <;> rfl) hbo 8).ret ?_
      simp -dsimp -implicitDefEqProofs (maxSteps := 2000000) (disch := first | omega | assumption | (simp only [go_sem] <;> first | omega | assumption | fail) | fail) only [go_sem]
      exact cutSet hc (below_box (by simp -dsimp -implicitDefEqProofs (maxSteps := 2000000) (disch := first | omega | assumption | (simp only [go_sem] <;> first | omega | assumption | fail) | fail) only [go_sem])) ⟨rfl, by rw [hres] <;> rfl⟩
    · refine (Meets.more (void_meets _ _)).ret ?_
      simp -dsimp -implicitDefEqProofs (maxSteps := 2000000) (disch := first | omega | assumption | (simp only [go_sem] <;> first | omega | assumption | fail) | fail) only [go_sem]
      (refine condP_intro (fun h5 => ?_) (fun h5 => ?_) <;> (try simp only [Bool.and_eq_true, Bool.or_eq_true, Bool.not_eq_true', Bool.not_eq_false', Bool.or_eq_false_iff, Bool.and_eq_false_imp, decide_eq_true_eq, decide_eq_false_iff_not, Bool.not_eq_true, Bool.not_eq_false, Int.ofNat_lt, Int.ofNat_le] at h5) <;> simp -dsimp -implicitDefEqProofs (maxSteps := 2000000) (disch := first | omega | assumption | (simp only [go_sem] <;> first | omega | assumption | fail) | fail) only [go_sem, h5])
      · have hres := hF.trans (if_pos (.inl h5))
        refine (tfault_meets tE (b := b) (n := n) (by simp -dsimp -implicitDefEqProofs (maxSteps := 2000000) (disch := first | omega | assumption | (simp only [go_sem] <;> first | omega | assumption | fail) | fail) only [go_sem, hn] <;> rfl) hbo 8).ret ?_
        simp -dsimp -implicitDefEqProofs (maxSteps := 2000000) (disch := first | omega | assumption | (simp only [go_sem] <;> first | omega | assumption | fail) | fail) only [go_sem]
        exact cutSet hc (below_box (by simp -dsimp -implicitDefEqProofs (maxSteps := 2000000) (disch := first | omega | assumption | (simp only [go_sem] <;> first | omega | assumption | fail) | fail) only [go_sem])) ⟨rfl, by rw [hres] <;> rfl⟩
      · have hres := hF.trans (if_neg (by rw [h5]; simp; omega))
        clear hF
        obtain ⟨kn, rfl⟩ : ∃ kn : Nat, k = kn := ⟨k.toNat, by omega⟩
        simp only [Int.toNat_natCast] at hres
        have hkn : kn < b.opn.length := by omega
        have hget := strs_get b.opn kn hkn
        simp -dsimp -implicitDefEqProofs (maxSteps := 2000000) (disch := first | omega | assumption | (simp only [go_sem] <;> first | omega | assumption | fail) | fail) only [go_sem, hn]
        intro c hcap
        simp -dsimp -implicitDefEqProofs (maxSteps := 2000000) (disch := first | omega | assumption | (simp only [go_sem] <;> first | omega | assumption | fail) | fail) only [go_sem, hget]
        (repeat (refine ⟨by first | omega | assumption | trivial | (simp only [List.length_take, List.length_map, List.length_append, List.length_cons, List.length_nil, List.length_drop]; omega), ?_⟩))
        have hlen : b.opn.length ≤ 100 := hb.opn
        (refine condP_intro (fun h6 => ?_) (fun h6 => ?_) <;> (try simp only [Bool.and_eq_true, Bool.or_eq_true, Bool.not_eq_true', Bool.not_eq_false', Bool.or_eq_false_iff, Bool.and_eq_false_imp, decide_eq_true_eq, decide_eq_false_iff_not, Bool.not_eq_true, Bool.not_eq_false, Int.ofNat_lt, Int.ofNat_le] at h6) <;> simp -dsimp -implicitDefEqProofs (maxSteps := 2000000) (disch := first | omega | assumption | (simp only [go_sem] <;> first | omega | assumption | fail) | fail) only [go_sem, h6])
        · have hany := any_drop (fun x => !lastsL.contains x) b.opn (kn + 1) (by omega)
          refine ⟨by omega, rfl, by omega, ?_⟩
          refine (tanyS_meets tE _ [] (fun x => !lastsL.contains x) _ (b.opn.length - (kn + 1)) (kn + 1) _ _ _ b.opn.length _ b.opn (by omega) _ (by simp -dsimp -implicitDefEqProofs (maxSteps := 2000000) (disch := first | omega | assumption | (simp only [go_sem] <;> first | omega | assumption | fail) | fail) only [go_sem]; rfl) (by omega) (fun i hi => strs_get b.opn i hi) (fun x => tlasts_meets tE x _)).ret ?_
          rw [hany]
          simp -dsimp -implicitDefEqProofs (maxSteps := 2000000) (disch := first | omega | assumption | (simp only [go_sem] <;> first | omega | assumption | fail) | fail) only [go_sem]
          refine Meets.pack n ?_
          simp -dsimp -implicitDefEqProofs (maxSteps := 2000000) (disch := first | omega | assumption | (simp only [go_sem] <;> first | omega | assumption | fail) | fail) only [go_sem]
          (repeat (refine ⟨by first | omega | assumption | trivial | (simp only [List.length_take, List.length_map, List.length_append, List.length_cons, List.length_nil, List.length_drop]; omega), ?_⟩))
          refine (tcloses_meets tE (b := b) (n := n) (by simp -dsimp -implicitDefEqProofs (maxSteps := 2000000) (disch := first | omega | assumption | (simp only [go_sem] <;> first | omega | assumption | fail) | fail) only [go_sem, hn] <;> rfl) hbo ((b.opn.drop (kn + 1)).any fun x => !lastsL.contains x)).ret ?_
          simp -dsimp -implicitDefEqProofs (maxSteps := 2000000) (disch := first | omega | assumption | (simp only [go_sem] <;> first | omega | assumption | fail) | fail) only [go_sem]
          refine (tend_meets tE (b := if ((b.opn.drop (kn + 1)).any fun x => !lastsL.contains x) then b.fault 9 else b) (n := n) (by simp -dsimp -implicitDefEqProofs (maxSteps := 2000000) (disch := first | omega | assumption | (simp only [go_sem] <;> first | omega | assumption | fail) | fail) only [go_sem, hn] <;> rfl) (hb.fltIf _ 9) (kn : Int) (by rw [fltIf_opn]; omega)).ret ?_
          simp -dsimp -implicitDefEqProofs (maxSteps := 2000000) (disch := first | omega | assumption | (simp only [go_sem] <;> first | omega | assumption | fail) | fail) only [go_sem]
          simp only [decide_eq_true h6, Bool.not_true, Bool.false_or] at hres
          exact cutSet hc (below_box (by simp -dsimp -implicitDefEqProofs (maxSteps := 2000000) (disch := first | omega | assumption | (simp only [go_sem] <;> first | omega | assumption | fail) | fail) only [go_sem])) ⟨rfl, by rw [hres] <;> rfl⟩
        · refine Meets.pack n ?_
          simp -dsimp -implicitDefEqProofs (maxSteps := 2000000) (disch := first | omega | assumption | (simp only [go_sem] <;> first | omega | assumption | fail) | fail) only [go_sem]
          (repeat (refine ⟨by first | omega | assumption | trivial | (simp only [List.length_take, List.length_map, List.length_append, List.length_cons, List.length_nil, List.length_drop]; omega), ?_⟩))
          refine (tcloses_meets tE (b := b) (n := n) (by simp -dsimp -implicitDefEqProofs (maxSteps := 2000000) (disch := first | omega | assumption | (simp only [go_sem] <;> first | omega | assumption | fail) | fail) only [go_sem, hn] <;> rfl) hbo true).ret ?_
          simp -dsimp -implicitDefEqProofs (maxSteps := 2000000) (disch := first | omega | assumption | (simp only [go_sem] <;> first | omega | assumption | fail) | fail) only [go_sem]
          refine (tend_meets tE (b := if true then b.fault 9 else b) (n := n) (by simp -dsimp -implicitDefEqProofs (maxSteps := 2000000) (disch := first | omega | assumption | (simp only [go_sem] <;> first | omega | assumption | fail) | fail) only [go_sem, hn] <;> rfl) (hb.fltIf true 9) (kn : Int) (by show (kn : Int) ≤ (b.opn.length : Int); omega)).ret ?_
          simp -dsimp -implicitDefEqProofs (maxSteps := 2000000) (disch := first | omega | assumption | (simp only [go_sem] <;> first | omega | assumption | fail) | fail) only [go_sem]
          simp only [decide_eq_false h6, Bool.not_false, Bool.true_or, if_true] at hres
          exact cutSet hc (below_box (by simp -dsimp -implicitDefEqProofs (maxSteps := 2000000) (disch := first | omega | assumption | (simp only [go_sem] <;> first | omega | assumption | fail) | fail) only [go_sem])) ⟨rfl, by rw [hres] <;> rfl⟩
  · simp only [h1, Bool.false_eq_true, if_false] at h0
    have hbd := nearF_le (fun x => [name].contains x) (fun x => ([[116, 101, 109, 112, 108, 97, 116, 101]] : List (List UInt8)).contains x) b.opn b.opn.length
    have hne := tnearOne_meets (b := b) (H := H ++ [Ent.row 9 1 1 1 (at2 [[.str name]]), Ent.box 46 [.sl H.length 1 0 1 1], Ent.row 9 1 1 1 (at2 [[.str [116, 101, 109, 112, 108, 97, 116, 101]]])]) (n := n) (m := H.length + 2) (p := H.length + 1) (cap := 1) (ns := [name]) (ws := ([[116, 101, 109, 112, 108, 97, 116, 101]] : List (List UInt8))) (by simp -dsimp -implicitDefEqProofs (maxSteps := 2000000) (disch := first | omega | assumption | (simp only [go_sem] <;> first | omega | assumption | fail) | fail) only [go_sem, hn] <;> rfl) hbo ⟨_, _, _, _, _, (by simp -dsimp -implicitDefEqProofs (maxSteps := 2000000) (disch := first | omega | assumption | (simp only [go_sem] <;> first | omega | assumption | fail) | fail) only [go_sem]; rfl), (by simp -dsimp -implicitDefEqProofs (maxSteps := 2000000) (disch := first | omega | assumption | (simp only [go_sem] <;> first | omega | assumption | fail) | fail) only [go_sem]; rfl), by show 1 < 1073741824; decide, fun i hi => strs_get [name] i hi⟩ (by simp -dsimp -implicitDefEqProofs (maxSteps := 2000000) (disch := first | omega | assumption | (simp only [go_sem] <;> first | omega | assumption | fail) | fail) only [go_sem]; rfl) (by decide) (fun i hi => strs_get ([[116, 101, 109, 112, 108, 97, 116, 101]] : List (List UInt8)) i hi)
    change -1 ≤ nearR [name] ([[116, 101, 109, 112, 108, 97, 116, 101]] : List (List UInt8)) b.opn ∧ nearR [name] ([[116, 101, 109, 112, 108, 97, 116, 101]] : List (List UInt8)) b.opn < b.opn.length at hbd
    obtain ⟨k, hk⟩ : ∃ k, nearR [name] ([[116, 101, 109, 112, 108, 97, 116, 101]] : List (List UInt8)) b.opn = k := ⟨_, rfl⟩
    rw [hk] at hne hbd h0
    refine (hne).ret ?_
    simp -dsimp -implicitDefEqProofs (maxSteps := 2000000) (disch := first | omega | assumption | (simp only [go_sem] <;> first | omega | assumption | fail) | fail) only [go_sem]
    (refine condP_intro (fun h2 => ?_) (fun h2 => ?_) <;> (try simp only [Bool.and_eq_true, Bool.or_eq_true, Bool.not_eq_true', Bool.not_eq_false', Bool.or_eq_false_iff, Bool.and_eq_false_imp, decide_eq_true_eq, decide_eq_false_iff_not, Bool.not_eq_true, Bool.not_eq_false, Int.ofNat_lt, Int.ofNat_le] at h2) <;> simp -dsimp -implicitDefEqProofs (maxSteps := 2000000) (disch := first | omega | assumption | (simp only [go_sem] <;> first | omega | assumption | fail) | fail) only [go_sem, h2])
    · subst h2
      have hres := h0.trans (if_pos (.inl rfl))
      refine (tput_meets (b := b) (n := n) (by simp -dsimp -implicitDefEqProofs (maxSteps := 2000000) (disch := first | omega | assumption | (simp only [go_sem] <;> first | omega | assumption | fail) | fail) only [go_sem, hn] <;> rfl) hb _).ret ?_
      simp -dsimp -implicitDefEqProofs (maxSteps := 2000000) (disch := first | omega | assumption | (simp only [go_sem] <;> first | omega | assumption | fail) | fail) only [go_sem]
      exact cutSet hc (below_box (by simp -dsimp -implicitDefEqProofs (maxSteps := 2000000) (disch := first | omega | assumption | (simp only [go_sem] <;> first | omega | assumption | fail) | fail) only [go_sem])) ⟨rfl, by rw [hres] <;> rfl⟩
    (refine condP_intro (fun h3 => ?_) (fun h3 => ?_) <;> (try simp only [Bool.and_eq_true, Bool.or_eq_true, Bool.not_eq_true', Bool.not_eq_false', Bool.or_eq_false_iff, Bool.and_eq_false_imp, decide_eq_true_eq, decide_eq_false_iff_not, Bool.not_eq_true, Bool.not_eq_false, Int.ofNat_lt, Int.ofNat_le] at h3) <;> simp -dsimp -implicitDefEqProofs (maxSteps := 2000000) (disch := first | omega | assumption | (simp only [go_sem] <;> first | omega | assumption | fail) | fail) only [go_sem, h3])
    · subst h3
      refine (tbounds0_meets tE _ _ _).mono ?_
      rintro _ _ ⟨c', hc', rfl, rfl⟩
      simp -dsimp -implicitDefEqProofs (maxSteps := 2000000) (disch := first | omega | assumption | (simp only [go_sem] <;> first | omega | assumption | fail) | fail) only [go_sem, bounds_eq]
      refine (tnearOne_meets (b := b) (n := n) (ns := ([[112]] : List (List UInt8))) (ws := boundsL) (by simp -dsimp -implicitDefEqProofs (maxSteps := 2000000) (disch := first | omega | assumption | (simp only [go_sem] <;> first | omega | assumption | fail) | fail) only [go_sem, hn] <;> rfl) hbo ⟨_, _, _, _, _, (by simp -dsimp -implicitDefEqProofs (maxSteps := 2000000) (disch := first | omega | assumption | (simp only [go_sem] <;> first | omega | assumption | fail) | fail) only [go_sem]; rfl), (by simp -dsimp -implicitDefEqProofs (maxSteps := 2000000) (disch := first | omega | assumption | (simp only [go_sem] <;> first | omega | assumption | fail) | fail) only [go_sem]; rfl), by decide, fun i hi => strs_get [[112]] i hi⟩ (by simp -dsimp -implicitDefEqProofs (maxSteps := 2000000) (disch := first | omega | assumption | (simp only [go_sem] <;> first | omega | assumption | fail) | fail) only [go_sem, bounds_eq]; rfl) (by rw [bounds_eq]; decide) (fun i hi => strs_get boundsL i hi)).ret ?_
      simp -dsimp -implicitDefEqProofs (maxSteps := 2000000) (disch := first | omega | assumption | (simp only [go_sem] <;> first | omega | assumption | fail) | fail) only [go_sem]
      (refine condP_intro (fun h3b => ?_) (fun h3b => ?_) <;> (try simp only [Bool.and_eq_true, Bool.or_eq_true, Bool.not_eq_true', Bool.not_eq_false', Bool.or_eq_false_iff, Bool.and_eq_false_imp, decide_eq_true_eq, decide_eq_false_iff_not, Bool.not_eq_true, Bool.not_eq_false, Int.ofNat_lt, Int.ofNat_le] at h3b) <;> simp -dsimp -implicitDefEqProofs (maxSteps := 2000000) (disch := first | omega | assumption | (simp only [go_sem] <;> first | omega | assumption | fail) | fail) only [go_sem, h3b])
      · have hres := h0.trans (if_pos (.inr ⟨rfl, h3b⟩))
        refine (tput_meets (b := b) (n := n) (by simp -dsimp -implicitDefEqProofs (maxSteps := 2000000) (disch := first | omega | assumption | (simp only [go_sem] <;> first | omega | assumption | fail) | fail) only [go_sem, hn] <;> rfl) hb _).ret ?_
        simp -dsimp -implicitDefEqProofs (maxSteps := 2000000) (disch := first | omega | assumption | (simp only [go_sem] <;> first | omega | assumption | fail) | fail) only [go_sem]
        exact cutSet hc (below_box (by simp -dsimp -implicitDefEqProofs (maxSteps := 2000000) (disch := first | omega | assumption | (simp only [go_sem] <;> first | omega | assumption | fail) | fail) only [go_sem])) ⟨rfl, by rw [hres] <;> rfl⟩
      · have hF0 := h0.trans (if_neg (fun h => h.elim (by decide) (fun h => h3b h.2)))
        have hF := hF0
        (refine condP_intro (fun h4 => ?_) (fun h4 => ?_) <;> (try simp only [Bool.and_eq_true, Bool.or_eq_true, Bool.not_eq_true', Bool.not_eq_false', Bool.or_eq_false_iff, Bool.and_eq_false_imp, decide_eq_true_eq, decide_eq_false_iff_not, Bool.not_eq_true, Bool.not_eq_false, Int.ofNat_lt, Int.ofNat_le] at h4) <;> simp -dsimp -implicitDefEqProofs (maxSteps := 2000000) (disch := first | omega | assumption | (simp only [go_sem] <;> first | omega | assumption | fail) | fail) only [go_sem, h4])
        · have hres := hF.trans (if_pos (.inr h4))
          refine (tfault_meets tE (b := b) (n := n) (by simp -dsimp -implicitDefEqProofs (maxSteps := 2000000) (disch := first | omega | assumption | (simp only [go_sem] <;> first | omega | assumption | fail) | fail) only [go_sem, hn] <;> rfl) hbo 8).ret ?_
          simp -dsimp -implicitDefEqProofs (maxSteps := 2000000) (disch := first | omega | assumption | (simp only [go_sem] <;> first | omega | assumption | fail) | fail) only [go_sem]
          exact cutSet hc (below_box (by simp -dsimp -implicitDefEqProofs (maxSteps := 2000000) (disch := first | omega | assumption | (simp only [go_sem] <;> first | omega | assumption | fail) | fail) only [go_sem])) ⟨rfl, by rw [hres] <;> rfl⟩
        · refine (Meets.more (void_meets _ _)).ret ?_
          simp -dsimp -implicitDefEqProofs (maxSteps := 2000000) (disch := first | omega | assumption | (simp only [go_sem] <;> first | omega | assumption | fail) | fail) only [go_sem]
          (refine condP_intro (fun h5 => ?_) (fun h5 => ?_) <;> (try simp only [Bool.and_eq_true, Bool.or_eq_true, Bool.not_eq_true', Bool.not_eq_false', Bool.or_eq_false_iff, Bool.and_eq_false_imp, decide_eq_true_eq, decide_eq_false_iff_not, Bool.not_eq_true, Bool.not_eq_false, Int.ofNat_lt, Int.ofNat_le] at h5) <;> simp -dsimp -implicitDefEqProofs (maxSteps := 2000000) (disch := first | omega | assumption | (simp only [go_sem] <;> first | omega | assumption | fail) | fail) only [go_sem, h5])
          · have hres := hF.trans (if_pos (.inl h5))
            refine (tfault_meets tE (b := b) (n := n) (by simp -dsimp -implicitDefEqProofs (maxSteps := 2000000) (disch := first | omega | assumption | (simp only [go_sem] <;> first | omega | assumption | fail) | fail) only [go_sem, hn] <;> rfl) hbo 8).ret ?_
            simp -dsimp -implicitDefEqProofs (maxSteps := 2000000) (disch := first | omega | assumption | (simp only [go_sem] <;> first | omega | assumption | fail) | fail) only [go_sem]
            exact cutSet hc (below_box (by simp -dsimp -implicitDefEqProofs (maxSteps := 2000000) (disch := first | omega | assumption | (simp only [go_sem] <;> first | omega | assumption | fail) | fail) only [go_sem])) ⟨rfl, by rw [hres] <;> rfl⟩
          · have hres := hF.trans (if_neg (by rw [h5]; simp; omega))
            clear hF
            obtain ⟨kn, rfl⟩ : ∃ kn : Nat, k = kn := ⟨k.toNat, by omega⟩
            simp only [Int.toNat_natCast] at hres
            have hkn : kn < b.opn.length := by omega
            have hget := strs_get b.opn kn hkn
            simp -dsimp -implicitDefEqProofs (maxSteps := 2000000) (disch := first | omega | assumption | (simp only [go_sem] <;> first | omega | assumption | fail) | fail) only [go_sem, hn]
            intro c hcap
            simp -dsimp -implicitDefEqProofs (maxSteps := 2000000) (disch := first | omega | assumption | (simp only [go_sem] <;> first | omega | assumption | fail) | fail) only [go_sem, hget]
            (repeat (refine ⟨by first | omega | assumption | trivial | (simp only [List.length_take, List.length_map, List.length_append, List.length_cons, List.length_nil, List.length_drop]; omega), ?_⟩))
            have hlen : b.opn.length ≤ 100 := hb.opn
            (refine condP_intro (fun h6 => ?_) (fun h6 => ?_) <;> (try simp only [Bool.and_eq_true, Bool.or_eq_true, Bool.not_eq_true', Bool.not_eq_false', Bool.or_eq_false_iff, Bool.and_eq_false_imp, decide_eq_true_eq, decide_eq_false_iff_not, Bool.not_eq_true, Bool.not_eq_false, Int.ofNat_lt, Int.ofNat_le] at h6) <;> simp -dsimp -implicitDefEqProofs (maxSteps := 2000000) (disch := first | omega | assumption | (simp only [go_sem] <;> first | omega | assumption | fail) | fail) only [go_sem, h6])
            · have hany := any_drop (fun x => !lastsL.contains x) b.opn (kn + 1) (by omega)
              refine ⟨by omega, rfl, by omega, ?_⟩
              refine (tanyS_meets tE _ [] (fun x => !lastsL.contains x) _ (b.opn.length - (kn + 1)) (kn + 1) _ _ _ b.opn.length _ b.opn (by omega) _ (by simp -dsimp -implicitDefEqProofs (maxSteps := 2000000) (disch := first | omega | assumption | (simp only [go_sem] <;> first | omega | assumption | fail) | fail) only [go_sem]; rfl) (by omega) (fun i hi => strs_get b.opn i hi) (fun x => tlasts_meets tE x _)).ret ?_
              rw [hany]
              simp -dsimp -implicitDefEqProofs (maxSteps := 2000000) (disch := first | omega | assumption | (simp only [go_sem] <;> first | omega | assumption | fail) | fail) only [go_sem]
              refine Meets.pack n ?_
              simp -dsimp -implicitDefEqProofs (maxSteps := 2000000) (disch := first | omega | assumption | (simp only [go_sem] <;> first | omega | assumption | fail) | fail) only [go_sem]
              (repeat (refine ⟨by first | omega | assumption | trivial | (simp only [List.length_take, List.length_map, List.length_append, List.length_cons, List.length_nil, List.length_drop]; omega), ?_⟩))
              refine (tcloses_meets tE (b := b) (n := n) (by simp -dsimp -implicitDefEqProofs (maxSteps := 2000000) (disch := first | omega | assumption | (simp only [go_sem] <;> first | omega | assumption | fail) | fail) only [go_sem, hn] <;> rfl) hbo ((b.opn.drop (kn + 1)).any fun x => !lastsL.contains x)).ret ?_
              simp -dsimp -implicitDefEqProofs (maxSteps := 2000000) (disch := first | omega | assumption | (simp only [go_sem] <;> first | omega | assumption | fail) | fail) only [go_sem]
              refine (tend_meets tE (b := if ((b.opn.drop (kn + 1)).any fun x => !lastsL.contains x) then b.fault 9 else b) (n := n) (by simp -dsimp -implicitDefEqProofs (maxSteps := 2000000) (disch := first | omega | assumption | (simp only [go_sem] <;> first | omega | assumption | fail) | fail) only [go_sem, hn] <;> rfl) (hb.fltIf _ 9) (kn : Int) (by rw [fltIf_opn]; omega)).ret ?_
              simp -dsimp -implicitDefEqProofs (maxSteps := 2000000) (disch := first | omega | assumption | (simp only [go_sem] <;> first | omega | assumption | fail) | fail) only [go_sem]
              simp only [decide_eq_true h6, Bool.not_true, Bool.false_or] at hres
              exact cutSet hc (below_box (by simp -dsimp -implicitDefEqProofs (maxSteps := 2000000) (disch := first | omega | assumption | (simp only [go_sem] <;> first | omega | assumption | fail) | fail) only [go_sem])) ⟨rfl, by rw [hres] <;> rfl⟩
            · refine Meets.pack n ?_
              simp -dsimp -implicitDefEqProofs (maxSteps := 2000000) (disch := first | omega | assumption | (simp only [go_sem] <;> first | omega | assumption | fail) | fail) only [go_sem]
              (repeat (refine ⟨by first | omega | assumption | trivial | (simp only [List.length_take, List.length_map, List.length_append, List.length_cons, List.length_nil, List.length_drop]; omega), ?_⟩))
              refine (tcloses_meets tE (b := b) (n := n) (by simp -dsimp -implicitDefEqProofs (maxSteps := 2000000) (disch := first | omega | assumption | (simp only [go_sem] <;> first | omega | assumption | fail) | fail) only [go_sem, hn] <;> rfl) hbo true).ret ?_
              simp -dsimp -implicitDefEqProofs (maxSteps := 2000000) (disch := first | omega | assumption | (simp only [go_sem] <;> first | omega | assumption | fail) | fail) only [go_sem]
              refine (tend_meets tE (b := if true then b.fault 9 else b) (n := n) (by simp -dsimp -implicitDefEqProofs (maxSteps := 2000000) (disch := first | omega | assumption | (simp only [go_sem] <;> first | omega | assumption | fail) | fail) only [go_sem, hn] <;> rfl) (hb.fltIf true 9) (kn : Int) (by show (kn : Int) ≤ (b.opn.length : Int); omega)).ret ?_
              simp -dsimp -implicitDefEqProofs (maxSteps := 2000000) (disch := first | omega | assumption | (simp only [go_sem] <;> first | omega | assumption | fail) | fail) only [go_sem]
              simp only [decide_eq_false h6, Bool.not_false, Bool.true_or, if_true] at hres
              exact cutSet hc (below_box (by simp -dsimp -implicitDefEqProofs (maxSteps := 2000000) (disch := first | omega | assumption | (simp only [go_sem] <;> first | omega | assumption | fail) | fail) only [go_sem])) ⟨rfl, by rw [hres] <;> rfl⟩
    have hF0 := h0.trans (if_neg (fun h => h.elim h2 (fun h => h3 h.1)))
    have hF := hF0
    (refine condP_intro (fun h4 => ?_) (fun h4 => ?_) <;> (try simp only [Bool.and_eq_true, Bool.or_eq_true, Bool.not_eq_true', Bool.not_eq_false', Bool.or_eq_false_iff, Bool.and_eq_false_imp, decide_eq_true_eq, decide_eq_false_iff_not, Bool.not_eq_true, Bool.not_eq_false, Int.ofNat_lt, Int.ofNat_le] at h4) <;> simp -dsimp -implicitDefEqProofs (maxSteps := 2000000) (disch := first | omega | assumption | (simp only [go_sem] <;> first | omega | assumption | fail) | fail) only [go_sem, h4])
    · have hres := hF.trans (if_pos (.inr h4))
      refine (tfault_meets tE (b := b) (n := n) (by simp -dsimp -implicitDefEqProofs (maxSteps := 2000000) (disch := first | omega | assumption | (simp only [go_sem] <;> first | omega | assumption | fail) | fail) only [go_sem, hn] <;> rfl) hbo 8).ret ?_
      simp -dsimp -implicitDefEqProofs (maxSteps := 2000000) (disch := first | omega | assumption | (simp only [go_sem] <;> first | omega | assumption | fail) | fail) only [go_sem]
      exact cutSet hc (below_box (by simp -dsimp -implicitDefEqProofs (maxSteps := 2000000) (disch := first | omega | assumption | (simp only [go_sem] <;> first | omega | assumption | fail) | fail) only [go_sem])) ⟨rfl, by rw [hres] <;> rfl⟩
    · refine (Meets.more (void_meets _ _)).ret ?_
      simp -dsimp -implicitDefEqProofs (maxSteps := 2000000) (disch := first | omega | assumption | (simp only [go_sem] <;> first | omega | assumption | fail) | fail) only [go_sem]
      (refine condP_intro (fun h5 => ?_) (fun h5 => ?_) <;> (try simp only [Bool.and_eq_true, Bool.or_eq_true, Bool.not_eq_true', Bool.not_eq_false', Bool.or_eq_false_iff, Bool.and_eq_false_imp, decide_eq_true_eq, decide_eq_false_iff_not, Bool.not_eq_true, Bool.not_eq_false, Int.ofNat_lt, Int.ofNat_le] at h5) <;> simp -dsimp -implicitDefEqProofs (maxSteps := 2000000) (disch := first | omega | assumption | (simp only [go_sem] <;> first | omega | assumption | fail) | fail) only [go_sem, h5])
      · have hres := hF.trans (if_pos (.inl h5))
        refine (tfault_meets tE (b := b) (n := n) (by simp -dsimp -implicitDefEqProofs (maxSteps := 2000000) (disch := first | omega | assumption | (simp only [go_sem] <;> first | omega | assumption | fail) | fail) only [go_sem, hn] <;> rfl) hbo 8).ret ?_
        simp -dsimp -implicitDefEqProofs (maxSteps := 2000000) (disch := first | omega | assumption | (simp only [go_sem] <;> first | omega | assumption | fail) | fail) only [go_sem]
        exact cutSet hc (below_box (by simp -dsimp -implicitDefEqProofs (maxSteps := 2000000) (disch := first | omega | assumption | (simp only [go_sem] <;> first | omega | assumption | fail) | fail) only [go_sem])) ⟨rfl, by rw [hres] <;> rfl⟩
      · have hres := hF.trans (if_neg (by rw [h5]; simp; omega))
        clear hF
        obtain ⟨kn, rfl⟩ : ∃ kn : Nat, k = kn := ⟨k.toNat, by omega⟩
        simp only [Int.toNat_natCast] at hres
        have hkn : kn < b.opn.length := by omega
        have hget := strs_get b.opn kn hkn
        simp -dsimp -implicitDefEqProofs (maxSteps := 2000000) (disch := first | omega | assumption | (simp only [go_sem] <;> first | omega | assumption | fail) | fail) only [go_sem, hn]
        intro c hcap
        simp -dsimp -implicitDefEqProofs (maxSteps := 2000000) (disch := first | omega | assumption | (simp only [go_sem] <;> first | omega | assumption | fail) | fail) only [go_sem, hget]
        (repeat (refine ⟨by first | omega | assumption | trivial | (simp only [List.length_take, List.length_map, List.length_append, List.length_cons, List.length_nil, List.length_drop]; omega), ?_⟩))
        have hlen : b.opn.length ≤ 100 := hb.opn
        (refine condP_intro (fun h6 => ?_) (fun h6 => ?_) <;> (try simp only [Bool.and_eq_true, Bool.or_eq_true, Bool.not_eq_true', Bool.not_eq_false', Bool.or_eq_false_iff, Bool.and_eq_false_imp, decide_eq_true_eq, decide_eq_false_iff_not, Bool.not_eq_true, Bool.not_eq_false, Int.ofNat_lt, Int.ofNat_le] at h6) <;> simp -dsimp -implicitDefEqProofs (maxSteps := 2000000) (disch := first | omega | assumption | (simp only [go_sem] <;> first | omega | assumption | fail) | fail) only [go_sem, h6])
        · have hany := any_drop (fun x => !lastsL.contains x) b.opn (kn + 1) (by omega)
          refine ⟨by omega, rfl, by omega, ?_⟩
          refine (tanyS_meets tE _ [] (fun x => !lastsL.contains x) _ (b.opn.length - (kn + 1)) (kn + 1) _ _ _ b.opn.length _ b.opn (by omega) _ (by simp -dsimp -implicitDefEqProofs (maxSteps := 2000000) (disch := first | omega | assumption | (simp only [go_sem] <;> first | omega | assumption | fail) | fail) only [go_sem]; rfl) (by omega) (fun i hi => strs_get b.opn i hi) (fun x => tlasts_meets tE x _)).ret ?_
          rw [hany]
          simp -dsimp -implicitDefEqProofs (maxSteps := 2000000) (disch := first | omega | assumption | (simp only [go_sem] <;> first | omega | assumption | fail) | fail) only [go_sem]
          refine Meets.pack n ?_
          simp -dsimp -implicitDefEqProofs (maxSteps := 2000000) (disch := first | omega | assumption | (simp only [go_sem] <;> first | omega | assumption | fail) | fail) only [go_sem]
          (repeat (refine ⟨by first | omega | assumption | trivial | (simp only [List.length_take, List.length_map, List.length_append, List.length_cons, List.length_nil, List.length_drop]; omega), ?_⟩))
          refine (tcloses_meets tE (b := b) (n := n) (by simp -dsimp -implicitDefEqProofs (maxSteps := 2000000) (disch := first | omega | assumption | (simp only [go_sem] <;> first | omega | assumption | fail) | fail) only [go_sem, hn] <;> rfl) hbo ((b.opn.drop (kn + 1)).any fun x => !lastsL.contains x)).ret ?_
          simp -dsimp -implicitDefEqProofs (maxSteps := 2000000) (disch := first | omega | assumption | (simp only [go_sem] <;> first | omega | assumption | fail) | fail) only [go_sem]
          refine (tend_meets tE (b := if ((b.opn.drop (kn + 1)).any fun x => !lastsL.contains x) then b.fault 9 else b) (n := n) (by simp -dsimp -implicitDefEqProofs (maxSteps := 2000000) (disch := first | omega | assumption | (simp only [go_sem] <;> first | omega | assumption | fail) | fail) only [go_sem, hn] <;> rfl) (hb.fltIf _ 9) (kn : Int) (by rw [fltIf_opn]; omega)).ret ?_
          simp -dsimp -implicitDefEqProofs (maxSteps := 2000000) (disch := first | omega | assumption | (simp only [go_sem] <;> first | omega | assumption | fail) | fail) only [go_sem]
          simp only [decide_eq_true h6, Bool.not_true, Bool.false_or] at hres
          exact cutSet hc (below_box (by simp -dsimp -implicitDefEqProofs (maxSteps := 2000000) (disch := first | omega | assumption | (simp only [go_sem] <;> first | omega | assumption | fail) | fail) only [go_sem])) ⟨rfl, by rw [hres] <;> rfl⟩
        · refine Meets.pack n ?_
          simp -dsimp -implicitDefEqProofs (maxSteps := 2000000) (disch := first | omega | assumption | (simp only [go_sem] <;> first | omega | assumption | fail) | fail) only [go_sem]
          (repeat (refine ⟨by first | omega | assumption | trivial | (simp only [List.length_take, List.length_map, List.length_append, List.length_cons, List.length_nil, List.length_drop]; omega), ?_⟩))
          refine (tcloses_meets tE (b := b) (n := n) (by simp -dsimp -implicitDefEqProofs (maxSteps := 2000000) (disch := first | omega | assumption | (simp only [go_sem] <;> first | omega | assumption | fail) | fail) only [go_sem, hn] <;> rfl) hbo true).ret ?_
          simp -dsimp -implicitDefEqProofs (maxSteps := 2000000) (disch := first | omega | assumption | (simp only [go_sem] <;> first | omega | assumption | fail) | fail) only [go_sem]
          refine (tend_meets tE (b := if true then b.fault 9 else b) (n := n) (by simp -dsimp -implicitDefEqProofs (maxSteps := 2000000) (disch := first | omega | assumption | (simp only [go_sem] <;> first | omega | assumption | fail) | fail) only [go_sem, hn] <;> rfl) (hb.fltIf true 9) (kn : Int) (by show (kn : Int) ≤ (b.opn.length : Int); omega)).ret ?_
          simp -dsimp -implicitDefEqProofs (maxSteps := 2000000) (disch := first | omega | assumption | (simp only [go_sem] <;> first | omega | assumption | fail) | fail) only [go_sem]
          simp only [decide_eq_false h6, Bool.not_false, Bool.true_or, if_true] at hres
          exact cutSet hc (below_box (by simp -dsimp -implicitDefEqProofs (maxSteps := 2000000) (disch := first | omega | assumption | (simp only [go_sem] <;> first | omega | assumption | fail) | fail) only [go_sem])) ⟨rfl, by rw [hres] <;> rfl⟩
end
end Go.Proofs.YtdpjmfipgkblfaaGreatDoor
