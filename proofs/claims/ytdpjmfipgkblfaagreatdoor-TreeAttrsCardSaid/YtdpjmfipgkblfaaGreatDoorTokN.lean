/- Contracts of the document's answer for layer 6, by V: what begins with a sign, all tokens. -/
import Derived.Test.YtdpjmfipgkblfaaGreatDoorTokK
set_option linter.unusedSimpArgs false
namespace Go.Proofs.YtdpjmfipgkblfaaGreatDoor
open Go Go.V
attribute [local irreducible] vc vcL vcP vcI vcO stOp Loops condP bx bx2 Meets Back
section
variable {s : List UInt8} {r : Rd} {H : List Ent} {n : Nat}

/-- What the reader's contracts ask. -/
structure RdIn (s : List UInt8) (r : Rd) : Prop where
  len : s.length < 10000000
  ok : RdOk s r
theorem RdIn.t {s : List UInt8} {r : Rd} (h : RdIn s r) : r.t.length < 100000000 := by have := h.ok.t; have := h.ok.at_; have := h.len; omega
theorem RdIn.f {s : List UInt8} {r : Rd} (h : RdIn s r) : r.f.length < 50000000 := by have := h.ok.f; have := h.ok.at_; have := h.len; omega
theorem RdIn.text {s : List UInt8} {r : Rd} (h : RdIn s r) : r.text.length < 50000000 := by have := h.ok.text; have := h.ok.at_; have := h.len; omega
attribute [local go_sem] a64 a64l a64r s64 s64l ite_min ite_max zlt_l zlt_r zle_l zle_r zeq len_eq byte_eq Nat.zero_le nth_set_ne List.forall_mem_cons all_nil isPl allSh_tok allSh_flt allNr_tok allNr_flt allSh_att allNr_att rdBox Rd.to Rd.fault dn_at dn_f dn_frm dn_text Nat.reduceAdd Nat.reduceSub Nat.reduceMul Nat.reduceLT Nat.reduceLeDiff Nat.reduceEqDiff Int.reduceEq Int.reduceLT Int.reduceLE
set_option maxRecDepth 20000 in
set_option maxHeartbeats 4000000 in
theorem rcloses_meets (E : Env) (hn : nth H n = rdBox s r) (hi : RdIn s r) (hk : r.at_ + 2 ≤ s.length) :
    Meets E Tryz.prog 38 [.c (.ptr n 0 0)] H (Ret (.tup []) (setn H n (rdBox s (closesR s r)))) := by
  have hlt := rd_lt hn
  have h1 := hi.len; have h2 := hi.t; have h3 := hi.f; have h4 := hi.text
  refine Meets.of_body mixed tok (plan := (fun | 1 => (.take 0 (.take 1 (.take 2 (.take 3 (.take 4 (.take 5 (.take 6 (.take 7 (.take 8 (.take 9 (.take 10 (.take 11 .done)))))))))))) | 4 => (.take 0 (.take 1 (.take 2 (.take 3 (.take 4 (.take 5 (.take 6 (.take 7 (.take 8 (.take 9 (.one 10 (.take 11 .done)))))))))))) | 6 => (.take 0 (.take 1 (.take 2 (.take 3 (.take 4 (.take 5 (.take 6 (.take 7 (.take 8 (.take 9 (.take 10 (.take 11 .done)))))))))))) | _ => .done)) Tryz.func38 Tryz.call38 Tryz.ntmps38 Tryz.results38 rfl (by kernel_rfl) ?_
  simp -dsimp -implicitDefEqProofs (maxSteps := 2000000) (disch := first | omega | assumption | (simp only [go_sem] <;> first | omega | assumption | fail) | fail) only [go_sem, hn]
  (refine condP_intro (fun h5 => ?_) (fun h5 => ?_) <;> (try simp only [Bool.and_eq_true, Bool.or_eq_true, Bool.not_eq_true', Bool.not_eq_false', Bool.or_eq_false_iff, Bool.and_eq_false_imp, decide_eq_true_eq, decide_eq_false_iff_not, Bool.not_eq_true, Bool.not_eq_false, Int.ofNat_lt, Int.ofNat_le] at h5) <;> simp -dsimp -implicitDefEqProofs (maxSteps := 2000000) (disch := first | omega | assumption | (simp only [go_sem] <;> first | omega | assumption | fail) | fail) only [go_sem, h5, hn])
  · refine (rfault_meets E hn (by omega) 6 r.at_).ret ?_
    simp -dsimp -implicitDefEqProofs (maxSteps := 2000000) (disch := first | omega | assumption | (simp only [go_sem] <;> first | omega | assumption | fail) | fail) only [go_sem]
    have hX := nth_set H n (rdBox s (r.fault 6 r.at_)) hlt
    refine Meets.heq (H' := setn H n (rdBox s (r.fault 6 r.at_))) (by first | rfl | simp -dsimp -implicitDefEqProofs (maxSteps := 2000000) (disch := first | omega | assumption | (simp only [go_sem] <;> first | omega | assumption | fail) | fail) only [go_sem]) (Meets.ret (rtext_meets E hX (by omega) (by show r.text.length < _; omega) [60, 47] (by decide) 2 hk) ?_)
    simp -dsimp -implicitDefEqProofs (maxSteps := 2000000) (disch := first | omega | assumption | (simp only [go_sem] <;> first | omega | assumption | fail) | fail) only [go_sem]
    exact Fin.ret rfl (by rw [closesR, if_pos h5] <;> rfl)
  · (repeat (refine ⟨by first | omega | assumption | trivial | (simp only [List.length_take, List.length_map, List.length_append, List.length_cons, List.length_nil, List.length_drop]; omega), ?_⟩))
    refine (rletter_meets E _ _).ret ?_
    simp -dsimp -implicitDefEqProofs (maxSteps := 2000000) (disch := first | omega | assumption | (simp only [go_sem] <;> first | omega | assumption | fail) | fail) only [go_sem]
    (refine condP_intro (fun h6 => ?_) (fun h6 => ?_) <;> (try simp only [Bool.and_eq_true, Bool.or_eq_true, Bool.not_eq_true', Bool.not_eq_false', Bool.or_eq_false_iff, Bool.and_eq_false_imp, decide_eq_true_eq, decide_eq_false_iff_not, Bool.not_eq_true, Bool.not_eq_false, Int.ofNat_lt, Int.ofNat_le] at h6) <;> simp -dsimp -implicitDefEqProofs (maxSteps := 2000000) (disch := first | omega | assumption | (simp only [go_sem] <;> first | omega | assumption | fail) | fail) only [go_sem, h6, hn])
    · refine (rtag_meets E hn (by omega) (by omega) (by omega) (by omega) 2 2 (by omega) hk).ret ?_
      simp -dsimp -implicitDefEqProofs (maxSteps := 2000000) (disch := first | omega | assumption | (simp only [go_sem] <;> first | omega | assumption | fail) | fail) only [go_sem]
      exact Fin.ret rfl (by rw [closesR, if_neg h5, if_pos h6] <;> rfl)
    · (repeat (refine ⟨by first | omega | assumption | trivial | (simp only [List.length_take, List.length_map, List.length_append, List.length_cons, List.length_nil, List.length_drop]; omega), ?_⟩))
      (refine condP_intro (fun h7 => ?_) (fun h7 => ?_) <;> (try simp only [Bool.and_eq_true, Bool.or_eq_true, Bool.not_eq_true', Bool.not_eq_false', Bool.or_eq_false_iff, Bool.and_eq_false_imp, decide_eq_true_eq, decide_eq_false_iff_not, Bool.not_eq_true, Bool.not_eq_false, Int.ofNat_lt, Int.ofNat_le] at h7) <;> simp -dsimp -implicitDefEqProofs (maxSteps := 2000000) (disch := first | omega | assumption | (simp only [go_sem] <;> first | omega | assumption | fail) | fail) only [go_sem, h7, hn])
      · refine (rfault_meets E hn (by omega) 4 r.at_).ret ?_
        simp -dsimp -implicitDefEqProofs (maxSteps := 2000000) (disch := first | omega | assumption | (simp only [go_sem] <;> first | omega | assumption | fail) | fail) only [go_sem]
        exact Fin.ret rfl (by rw [closesR, if_neg h5, if_neg (by show ¬ letter6 _ = true; rw [h6]; simp), if_pos h7] <;> simp -dsimp -implicitDefEqProofs (maxSteps := 2000000) (disch := first | omega | assumption | (simp only [go_sem] <;> first | omega | assumption | fail) | fail) only [go_sem])
      · refine (rnote_meets E hn (by omega) (by omega) (by omega) (by omega) 2 hk).ret ?_
        simp -dsimp -implicitDefEqProofs (maxSteps := 2000000) (disch := first | omega | assumption | (simp only [go_sem] <;> first | omega | assumption | fail) | fail) only [go_sem]
        exact Fin.ret rfl (by rw [closesR, if_neg h5, if_neg (by show ¬ letter6 _ = true; rw [h6]; simp), if_neg h7] <;> rfl)
set_option maxRecDepth 20000 in
set_option maxHeartbeats 4000000 in
theorem ropens_meets (E : Env) (hn : nth H n = rdBox s r) (hi : RdIn s r) (hk : r.at_ + 1 ≤ s.length) :
    Meets E Tryz.prog 22 [.c (.ptr n 0 0)] H (Ret (.tup []) (setn H n (rdBox s (opensR s r)))) := by
  have hlt := rd_lt hn
  have h1 := hi.len; have h2 := hi.t; have h3 := hi.f; have h4 := hi.text
  refine Meets.of_body mixed tok (plan := (fun | 1 => (.take 0 (.take 1 (.take 2 (.take 3 (.take 4 (.take 5 (.take 6 (.take 7 (.take 8 (.take 9 (.take 10 .done))))))))))) | 2 => (.take 0 (.take 1 (.take 2 (.take 3 (.take 4 (.take 5 (.take 6 (.take 7 (.take 8 (.take 9 (.take 10 .done))))))))))) | _ => .done)) Tryz.func22 Tryz.call22 Tryz.ntmps22 Tryz.results22 rfl (by kernel_rfl) ?_
  simp -dsimp -implicitDefEqProofs (maxSteps := 2000000) (disch := first | omega | assumption | (simp only [go_sem] <;> first | omega | assumption | fail) | fail) only [go_sem, hn]
  have hO0 : ∀ c : UInt8, (if r.at_ + 1 < s.length then bAt s (r.at_ + 1) else 0) = c → opensR s r = if letter6 (c.toNat : Int) then tagR s 1 1 r else if c = 47 then closesR s r else if looksAt s r.at_ [60, 33, 45, 45] then commentR s r else if looksAt s r.at_ [60, 33, 100, 111, 99, 116, 121, 112, 101] then doctypeR s r else if c = 33 then noteR s 2 r else if c = 63 then noteR s 1 r else (r.fault 4 r.at_).more [60] 1 := fun c h => by rw [← h]; rfl
  (refine condP_intro (fun h5 => ?_) (fun h5 => ?_) <;> (try simp only [Bool.and_eq_true, Bool.or_eq_true, Bool.not_eq_true', Bool.not_eq_false', Bool.or_eq_false_iff, Bool.and_eq_false_imp, decide_eq_true_eq, decide_eq_false_iff_not, Bool.not_eq_true, Bool.not_eq_false, Int.ofNat_lt, Int.ofNat_le] at h5) <;> simp -dsimp -implicitDefEqProofs (maxSteps := 2000000) (disch := first | omega | assumption | (simp only [go_sem] <;> first | omega | assumption | fail) | fail) only [go_sem, h5, hn])
  · (repeat (refine ⟨by first | omega | assumption | trivial | (simp only [List.length_take, List.length_map, List.length_append, List.length_cons, List.length_nil, List.length_drop]; omega), ?_⟩))
    have hO := hO0 (s.getD (r.at_ + 1) 0) (if_pos h5)
    refine (rletter_meets E ((s.getD (r.at_ + 1) 0).toNat : Int) _).ret ?_
    simp -dsimp -implicitDefEqProofs (maxSteps := 2000000) (disch := first | omega | assumption | (simp only [go_sem] <;> first | omega | assumption | fail) | fail) only [go_sem]
    (refine condP_intro (fun h6 => ?_) (fun h6 => ?_) <;> (try simp only [Bool.and_eq_true, Bool.or_eq_true, Bool.not_eq_true', Bool.not_eq_false', Bool.or_eq_false_iff, Bool.and_eq_false_imp, decide_eq_true_eq, decide_eq_false_iff_not, Bool.not_eq_true, Bool.not_eq_false, Int.ofNat_lt, Int.ofNat_le] at h6) <;> simp -dsimp -implicitDefEqProofs (maxSteps := 2000000) (disch := first | omega | assumption | (simp only [go_sem] <;> first | omega | assumption | fail) | fail) only [go_sem, h6])
    · refine (rtag_meets E hn (by omega) (by omega) (by omega) (by omega) 1 1 (by omega) hk).ret ?_
      simp -dsimp -implicitDefEqProofs (maxSteps := 2000000) (disch := first | omega | assumption | (simp only [go_sem] <;> first | omega | assumption | fail) | fail) only [go_sem]
      exact Fin.ret rfl (by rw [hO, if_pos h6] <;> rfl)
    have h6' : ¬ letter6 (((s.getD (r.at_ + 1) 0) : UInt8).toNat : Int) = true := by rw [show letter6 (((s.getD (r.at_ + 1) 0) : UInt8).toNat : Int) = false from h6]; simp
    (refine condP_intro (fun h7 => ?_) (fun h7 => ?_) <;> (try simp only [Bool.and_eq_true, Bool.or_eq_true, Bool.not_eq_true', Bool.not_eq_false', Bool.or_eq_false_iff, Bool.and_eq_false_imp, decide_eq_true_eq, decide_eq_false_iff_not, Bool.not_eq_true, Bool.not_eq_false, Int.ofNat_lt, Int.ofNat_le] at h7) <;> simp -dsimp -implicitDefEqProofs (maxSteps := 2000000) (disch := first | omega | assumption | (simp only [go_sem] <;> first | omega | assumption | fail) | fail) only [go_sem, h7])
    · refine (rcloses_meets E hn hi (by omega)).ret ?_
      simp -dsimp -implicitDefEqProofs (maxSteps := 2000000) (disch := first | omega | assumption | (simp only [go_sem] <;> first | omega | assumption | fail) | fail) only [go_sem]
      exact Fin.ret rfl (by rw [hO, if_neg h6', if_pos h7] <;> rfl)
    refine (rlooks_meets E hn (by omega) (by omega) [60, 33, 45, 45]).ret ?_
    simp -dsimp -implicitDefEqProofs (maxSteps := 2000000) (disch := first | omega | assumption | (simp only [go_sem] <;> first | omega | assumption | fail) | fail) only [go_sem]
    (refine condP_intro (fun h8 => ?_) (fun h8 => ?_) <;> (try simp only [Bool.and_eq_true, Bool.or_eq_true, Bool.not_eq_true', Bool.not_eq_false', Bool.or_eq_false_iff, Bool.and_eq_false_imp, decide_eq_true_eq, decide_eq_false_iff_not, Bool.not_eq_true, Bool.not_eq_false, Int.ofNat_lt, Int.ofNat_le] at h8) <;> simp -dsimp -implicitDefEqProofs (maxSteps := 2000000) (disch := first | omega | assumption | (simp only [go_sem] <;> first | omega | assumption | fail) | fail) only [go_sem, h8])
    · have hlen := looksAt_len h8
      simp only [List.length_cons, List.length_nil] at hlen
      refine (rcomment_meets E hn (by omega) (by omega) (by omega) (by omega) (by omega)).ret ?_
      simp -dsimp -implicitDefEqProofs (maxSteps := 2000000) (disch := first | omega | assumption | (simp only [go_sem] <;> first | omega | assumption | fail) | fail) only [go_sem]
      exact Fin.ret rfl (by rw [hO, if_neg h6', if_neg h7, if_pos h8] <;> rfl)
    have h8' : ¬ looksAt s r.at_ [60, 33, 45, 45] = true := by rw [h8]; simp
    refine (rlooks_meets E hn (by omega) (by omega) [60, 33, 100, 111, 99, 116, 121, 112, 101]).ret ?_
    simp -dsimp -implicitDefEqProofs (maxSteps := 2000000) (disch := first | omega | assumption | (simp only [go_sem] <;> first | omega | assumption | fail) | fail) only [go_sem]
    (refine condP_intro (fun h9 => ?_) (fun h9 => ?_) <;> (try simp only [Bool.and_eq_true, Bool.or_eq_true, Bool.not_eq_true', Bool.not_eq_false', Bool.or_eq_false_iff, Bool.and_eq_false_imp, decide_eq_true_eq, decide_eq_false_iff_not, Bool.not_eq_true, Bool.not_eq_false, Int.ofNat_lt, Int.ofNat_le] at h9) <;> simp -dsimp -implicitDefEqProofs (maxSteps := 2000000) (disch := first | omega | assumption | (simp only [go_sem] <;> first | omega | assumption | fail) | fail) only [go_sem, h9])
    · have hlen := looksAt_len h9
      simp only [List.length_cons, List.length_nil] at hlen
      refine (rdoctype_meets E hn (by omega) (by omega) (by omega) (by omega) (by omega)).ret ?_
      simp -dsimp -implicitDefEqProofs (maxSteps := 2000000) (disch := first | omega | assumption | (simp only [go_sem] <;> first | omega | assumption | fail) | fail) only [go_sem]
      exact Fin.ret rfl (by rw [hO, if_neg h6', if_neg h7, if_neg h8', if_pos h9] <;> rfl)
    have h9' : ¬ looksAt s r.at_ [60, 33, 100, 111, 99, 116, 121, 112, 101] = true := by rw [h9]; simp
    (refine condP_intro (fun h10 => ?_) (fun h10 => ?_) <;> (try simp only [Bool.and_eq_true, Bool.or_eq_true, Bool.not_eq_true', Bool.not_eq_false', Bool.or_eq_false_iff, Bool.and_eq_false_imp, decide_eq_true_eq, decide_eq_false_iff_not, Bool.not_eq_true, Bool.not_eq_false, Int.ofNat_lt, Int.ofNat_le] at h10) <;> simp -dsimp -implicitDefEqProofs (maxSteps := 2000000) (disch := first | omega | assumption | (simp only [go_sem] <;> first | omega | assumption | fail) | fail) only [go_sem, h10])
    · refine (rnote_meets E hn (by omega) (by omega) (by omega) (by omega) 2 (by omega)).ret ?_
      simp -dsimp -implicitDefEqProofs (maxSteps := 2000000) (disch := first | omega | assumption | (simp only [go_sem] <;> first | omega | assumption | fail) | fail) only [go_sem]
      exact Fin.ret rfl (by rw [hO, if_neg h6', if_neg h7, if_neg h8', if_neg h9', if_pos h10] <;> rfl)
    (refine condP_intro (fun h11 => ?_) (fun h11 => ?_) <;> (try simp only [Bool.and_eq_true, Bool.or_eq_true, Bool.not_eq_true', Bool.not_eq_false', Bool.or_eq_false_iff, Bool.and_eq_false_imp, decide_eq_true_eq, decide_eq_false_iff_not, Bool.not_eq_true, Bool.not_eq_false, Int.ofNat_lt, Int.ofNat_le] at h11) <;> simp -dsimp -implicitDefEqProofs (maxSteps := 2000000) (disch := first | omega | assumption | (simp only [go_sem] <;> first | omega | assumption | fail) | fail) only [go_sem, h11])
    · refine (rnote_meets E hn (by omega) (by omega) (by omega) (by omega) 1 (by omega)).ret ?_
      simp -dsimp -implicitDefEqProofs (maxSteps := 2000000) (disch := first | omega | assumption | (simp only [go_sem] <;> first | omega | assumption | fail) | fail) only [go_sem]
      exact Fin.ret rfl (by rw [hO, if_neg h6', if_neg h7, if_neg h8', if_neg h9', if_neg h10, if_pos h11] <;> rfl)
    simp -dsimp -implicitDefEqProofs (maxSteps := 2000000) (disch := first | omega | assumption | (simp only [go_sem] <;> first | omega | assumption | fail) | fail) only [go_sem, hn]
    refine (rfault_meets E hn (by omega) 4 r.at_).ret ?_
    simp -dsimp -implicitDefEqProofs (maxSteps := 2000000) (disch := first | omega | assumption | (simp only [go_sem] <;> first | omega | assumption | fail) | fail) only [go_sem]
    have hX := nth_set H n (rdBox s (r.fault 4 r.at_)) hlt
    refine Meets.heq (H' := setn H n (rdBox s (r.fault 4 r.at_))) (by first | rfl | simp -dsimp -implicitDefEqProofs (maxSteps := 2000000) (disch := first | omega | assumption | (simp only [go_sem] <;> first | omega | assumption | fail) | fail) only [go_sem]) (Meets.ret (rtext_meets E hX (by omega) (by show r.text.length < _; omega) [60] (by decide) 1 hk) ?_)
    simp -dsimp -implicitDefEqProofs (maxSteps := 2000000) (disch := first | omega | assumption | (simp only [go_sem] <;> first | omega | assumption | fail) | fail) only [go_sem]
    exact Fin.ret rfl (by rw [hO, if_neg h6', if_neg h7, if_neg h8', if_neg h9', if_neg h10, if_neg h11] <;> rfl)
  · have hO := hO0 0 (if_neg h5)
    have h6' : ¬ letter6 ((0 : UInt8).toNat : Int) = true := by decide
    have h6z : letter6 0 = false := by decide
    refine (rletter_meets E 0 _).ret ?_
    simp -dsimp -implicitDefEqProofs (maxSteps := 2000000) (disch := first | omega | assumption | (simp only [go_sem] <;> first | omega | assumption | fail) | fail) only [go_sem, h6z]
    refine (rlooks_meets E hn (by omega) (by omega) [60, 33, 45, 45]).ret ?_
    simp -dsimp -implicitDefEqProofs (maxSteps := 2000000) (disch := first | omega | assumption | (simp only [go_sem] <;> first | omega | assumption | fail) | fail) only [go_sem]
    (refine condP_intro (fun h8 => ?_) (fun h8 => ?_) <;> (try simp only [Bool.and_eq_true, Bool.or_eq_true, Bool.not_eq_true', Bool.not_eq_false', Bool.or_eq_false_iff, Bool.and_eq_false_imp, decide_eq_true_eq, decide_eq_false_iff_not, Bool.not_eq_true, Bool.not_eq_false, Int.ofNat_lt, Int.ofNat_le] at h8) <;> simp -dsimp -implicitDefEqProofs (maxSteps := 2000000) (disch := first | omega | assumption | (simp only [go_sem] <;> first | omega | assumption | fail) | fail) only [go_sem, h8])
    · have hlen := looksAt_len h8
      simp only [List.length_cons, List.length_nil] at hlen
      refine (rcomment_meets E hn (by omega) (by omega) (by omega) (by omega) (by omega)).ret ?_
      simp -dsimp -implicitDefEqProofs (maxSteps := 2000000) (disch := first | omega | assumption | (simp only [go_sem] <;> first | omega | assumption | fail) | fail) only [go_sem]
      exact Fin.ret rfl (by rw [hO, if_neg h6', if_neg (by decide), if_pos h8] <;> rfl)
    have h8' : ¬ looksAt s r.at_ [60, 33, 45, 45] = true := by rw [h8]; simp
    refine (rlooks_meets E hn (by omega) (by omega) [60, 33, 100, 111, 99, 116, 121, 112, 101]).ret ?_
    simp -dsimp -implicitDefEqProofs (maxSteps := 2000000) (disch := first | omega | assumption | (simp only [go_sem] <;> first | omega | assumption | fail) | fail) only [go_sem]
    (refine condP_intro (fun h9 => ?_) (fun h9 => ?_) <;> (try simp only [Bool.and_eq_true, Bool.or_eq_true, Bool.not_eq_true', Bool.not_eq_false', Bool.or_eq_false_iff, Bool.and_eq_false_imp, decide_eq_true_eq, decide_eq_false_iff_not, Bool.not_eq_true, Bool.not_eq_false, Int.ofNat_lt, Int.ofNat_le] at h9) <;> simp -dsimp -implicitDefEqProofs (maxSteps := 2000000) (disch := first | omega | assumption | (simp only [go_sem] <;> first | omega | assumption | fail) | fail) only [go_sem, h9])
    · have hlen := looksAt_len h9
      simp only [List.length_cons, List.length_nil] at hlen
      refine (rdoctype_meets E hn (by omega) (by omega) (by omega) (by omega) (by omega)).ret ?_
      simp -dsimp -implicitDefEqProofs (maxSteps := 2000000) (disch := first | omega | assumption | (simp only [go_sem] <;> first | omega | assumption | fail) | fail) only [go_sem]
      exact Fin.ret rfl (by rw [hO, if_neg h6', if_neg (by decide), if_neg h8', if_pos h9] <;> rfl)
    have h9' : ¬ looksAt s r.at_ [60, 33, 100, 111, 99, 116, 121, 112, 101] = true := by rw [h9]; simp
    simp -dsimp -implicitDefEqProofs (maxSteps := 2000000) (disch := first | omega | assumption | (simp only [go_sem] <;> first | omega | assumption | fail) | fail) only [go_sem, hn]
    refine (rfault_meets E hn (by omega) 4 r.at_).ret ?_
    simp -dsimp -implicitDefEqProofs (maxSteps := 2000000) (disch := first | omega | assumption | (simp only [go_sem] <;> first | omega | assumption | fail) | fail) only [go_sem]
    have hX := nth_set H n (rdBox s (r.fault 4 r.at_)) hlt
    refine Meets.heq (H' := setn H n (rdBox s (r.fault 4 r.at_))) (by first | rfl | simp -dsimp -implicitDefEqProofs (maxSteps := 2000000) (disch := first | omega | assumption | (simp only [go_sem] <;> first | omega | assumption | fail) | fail) only [go_sem]) (Meets.ret (rtext_meets E hX (by omega) (by show r.text.length < _; omega) [60] (by decide) 1 hk) ?_)
    simp -dsimp -implicitDefEqProofs (maxSteps := 2000000) (disch := first | omega | assumption | (simp only [go_sem] <;> first | omega | assumption | fail) | fail) only [go_sem]
    exact Fin.ret rfl (by rw [hO, if_neg h6', if_neg (by decide), if_neg h8', if_neg h9', if_neg (by decide), if_neg (by decide)] <;> rfl)
theorem takeR_code (s : List UInt8) (p : Nat) (h : p ≤ s.length) : (takeR s p false).2.2 ≤ 2 := (takeR_len s p false h).2.1
set_option maxRecDepth 20000 in
set_option maxHeartbeats 4000000 in
theorem rtokens_meets (E : Env) (s : List UInt8) (hs : s.length < 10000000) (H : List Ent) :
    Meets E Tryz.prog 14 [.d (.str s)] H (Ret (.tup [.c (.lst 6 (tokensT s).length (at2 ((tokensT s).map encTok))), .c (.lst 2 (tokensF s).length (at2 ((tokensF s).map encFlt)))]) H) := by
  refine Meets.closed fun hc => ?_
  refine Meets.of_body mixed tok (plan := (fun | 5 => (.take 0 (.take 1 (.take 2 (.take 3 (.take 4 (.take 5 (.take 6 (.take 7 (.take 8 (.take 9 (.take 10 (.take 11 (.one 12 .done))))))))))))) | 19 => (.take 0 (.take 1 (.take 2 (.take 3 (.take 4 (.take 5 (.take 6 (.take 7 (.take 8 (.take 9 .done)))))))))) | _ => .done)) Tryz.func14 Tryz.call14 Tryz.ntmps14 Tryz.results14 rfl (by kernel_rfl) ?_
  simp -dsimp -implicitDefEqProofs (maxSteps := 2000000) (disch := first | omega | assumption | (simp only [go_sem] <;> first | omega | assumption | fail) | fail) only [go_sem]
  refine Loops.on (α := Nat × Rd) (fun q => RdOk s q.2 ∧ s.length ≤ q.1 + q.2.at_ ∧ tokF s s.length ⟨0, [], [], [], 0⟩ = tokF s q.1 q.2) (fun q => s.length - q.2.at_) (fun _ => []) (fun q => H ++ [rdBox s q.2]) (s.length, ⟨0, [], [], [], 0⟩) ⟨⟨Nat.zero_le _, by simp, by simp, by simp, by simp⟩, by simp, rfl⟩ ?_ ?_
  · refine Goes.pack H.length ?_
    simp -dsimp -implicitDefEqProofs (maxSteps := 2000000) (disch := first | omega | assumption | (simp only [go_sem] <;> first | omega | assumption | fail) | fail) only [go_sem]
    exact Goes.slots (by simp -dsimp -implicitDefEqProofs (maxSteps := 2000000) (disch := first | omega | assumption | (simp only [go_sem] <;> first | omega | assumption | fail) | fail) only [go_sem]) rfl
  rintro ⟨k, r⟩ ⟨hok, hk, heq⟩
  simp only at hok hk heq
  have hi : RdIn s r := ⟨hs, hok⟩
  have h1 := hi.t; have h2 := hi.f; have h3 := hi.text
  have hat := hok.at_
  have hn : nth (H ++ [rdBox s r]) H.length = rdBox s r := nth_self _ _
  have hlt : H.length < (H ++ [rdBox s r]).length := by simp
  simp -dsimp -implicitDefEqProofs (maxSteps := 2000000) (disch := first | omega | assumption | (simp only [go_sem] <;> first | omega | assumption | fail) | fail) only [go_sem]
  (refine condP_intro (fun h => ?_) (fun h => ?_) <;> (try simp only [Bool.and_eq_true, Bool.or_eq_true, Bool.not_eq_true', Bool.not_eq_false', Bool.or_eq_false_iff, Bool.and_eq_false_imp, decide_eq_true_eq, decide_eq_false_iff_not, Bool.not_eq_true, Bool.not_eq_false, Int.ofNat_lt, Int.ofNat_le] at h) <;> simp -dsimp -implicitDefEqProofs (maxSteps := 2000000) (disch := first | omega | assumption | (simp only [go_sem] <;> first | omega | assumption | fail) | fail) only [go_sem, h])
  · obtain ⟨k, rfl⟩ : ∃ k', k = k' + 1 := ⟨k - 1, by omega⟩
    have hst := stepR_ok hok h
    have hnext : tokF s s.length ⟨0, [], [], [], 0⟩ = tokF s k (stepR s r) := by rw [heq, tokF, if_pos h]
    have back : ∀ r2, stepR s r = r2 → RdOk s r2 ∧ r.at_ < r2.at_ ∧ tokF s s.length ⟨0, [], [], [], 0⟩ = tokF s k r2 := fun r2 h => ⟨h ▸ hst.1, h ▸ hst.2, h ▸ hnext⟩
    (refine condP_intro (fun h4 => ?_) (fun h4 => ?_) <;> (try simp only [Bool.and_eq_true, Bool.or_eq_true, Bool.not_eq_true', Bool.not_eq_false', Bool.or_eq_false_iff, Bool.and_eq_false_imp, decide_eq_true_eq, decide_eq_false_iff_not, Bool.not_eq_true, Bool.not_eq_false, Int.ofNat_lt, Int.ofNat_le] at h4) <;> simp -dsimp -implicitDefEqProofs (maxSteps := 2000000) (disch := first | omega | assumption | (simp only [go_sem] <;> first | omega | assumption | fail) | fail) only [go_sem, h4])
    · obtain ⟨b1, b2, b3⟩ := back (opensR s r) (by rw [stepR, if_pos h4])
      refine (ropens_meets E (H := H ++ [rdBox s r]) hn hi h).ret ?_
      simp -dsimp -implicitDefEqProofs (maxSteps := 2000000) (disch := first | omega | assumption | (simp only [go_sem] <;> first | omega | assumption | fail) | fail) only [go_sem]
      exact Back.mk (k, opensR s r) ⟨⟨b1, by simp only; omega, b3⟩, by simp only; omega⟩ (Goes.slots (by simp -dsimp -implicitDefEqProofs (maxSteps := 2000000) (disch := first | omega | assumption | (simp only [go_sem] <;> first | omega | assumption | fail) | fail) only [go_sem]) rfl)
    (refine condP_intro (fun h5 => ?_) (fun h5 => ?_) <;> (try simp only [Bool.and_eq_true, Bool.or_eq_true, Bool.not_eq_true', Bool.not_eq_false', Bool.or_eq_false_iff, Bool.and_eq_false_imp, decide_eq_true_eq, decide_eq_false_iff_not, Bool.not_eq_true, Bool.not_eq_false, Int.ofNat_lt, Int.ofNat_le] at h5) <;> simp -dsimp -implicitDefEqProofs (maxSteps := 2000000) (disch := first | omega | assumption | (simp only [go_sem] <;> first | omega | assumption | fail) | fail) only [go_sem, h5])
    · obtain ⟨b1, b2, b3⟩ := back ((r.fault 3 r.at_).to (r.at_ + 1)) (by rw [stepR, if_neg h4, if_pos h5])
      refine (rfault_meets E (H := H ++ [rdBox s r]) hn (by omega) 3 r.at_).ret ?_
      simp -dsimp -implicitDefEqProofs (maxSteps := 2000000) (disch := first | omega | assumption | (simp only [go_sem] <;> first | omega | assumption | fail) | fail) only [go_sem]
      exact Back.mk (k, (r.fault 3 r.at_).to (r.at_ + 1)) ⟨⟨b1, by simp only [to_at]; omega, b3⟩, by simp only [to_at]; omega⟩ (Goes.slots (by simp -dsimp -implicitDefEqProofs (maxSteps := 2000000) (disch := first | omega | assumption | (simp only [go_sem] <;> first | omega | assumption | fail) | fail) only [go_sem]) (by first | rfl | simp -dsimp -implicitDefEqProofs (maxSteps := 2000000) (disch := first | omega | assumption | (simp only [go_sem] <;> first | omega | assumption | fail) | fail) only [go_sem]))
    (refine condP_intro (fun h6 => ?_) (fun h6 => ?_) <;> (try simp only [Bool.and_eq_true, Bool.or_eq_true, Bool.not_eq_true', Bool.not_eq_false', Bool.or_eq_false_iff, Bool.and_eq_false_imp, decide_eq_true_eq, decide_eq_false_iff_not, Bool.not_eq_true, Bool.not_eq_false, Int.ofNat_lt, Int.ofNat_le] at h6) <;> simp -dsimp -implicitDefEqProofs (maxSteps := 2000000) (disch := first | omega | assumption | (simp only [go_sem] <;> first | omega | assumption | fail) | fail) only [go_sem, h6])
    · have ht := takeR_len s r.at_ false hat
      refine (rtake_meets E s r.at_ false (by omega) h _).ret ?_
      simp -dsimp -implicitDefEqProofs (maxSteps := 2000000) (disch := first | omega | assumption | (simp only [go_sem] <;> first | omega | assumption | fail) | fail) only [go_sem]
      (refine condP_intro (fun h7 => ?_) (fun h7 => ?_) <;> (try simp only [Bool.and_eq_true, Bool.or_eq_true, Bool.not_eq_true', Bool.not_eq_false', Bool.or_eq_false_iff, Bool.and_eq_false_imp, decide_eq_true_eq, decide_eq_false_iff_not, Bool.not_eq_true, Bool.not_eq_false, Int.ofNat_lt, Int.ofNat_le] at h7) <;> simp -dsimp -implicitDefEqProofs (maxSteps := 2000000) (disch := first | omega | assumption | (simp only [go_sem] <;> first | omega | assumption | fail) | fail) only [go_sem, h7, nat_eq])
      · have h7' : ¬ (takeR s r.at_ false).2.2 = 0 := by omega
        refine (rfault_meets E (H := H ++ [rdBox s r]) hn (by omega) (takeR s r.at_ false).2.2 r.at_).ret ?_
        simp -dsimp -implicitDefEqProofs (maxSteps := 2000000) (disch := first | omega | assumption | (simp only [go_sem] <;> first | omega | assumption | fail) | fail) only [go_sem]
        (refine condP_intro (fun h8 => ?_) (fun h8 => ?_) <;> (try simp only [Bool.and_eq_true, Bool.or_eq_true, Bool.not_eq_true', Bool.not_eq_false', Bool.or_eq_false_iff, Bool.and_eq_false_imp, decide_eq_true_eq, decide_eq_false_iff_not, Bool.not_eq_true, Bool.not_eq_false, Int.ofNat_lt, Int.ofNat_le] at h8) <;> simp -dsimp -implicitDefEqProofs (maxSteps := 2000000) (disch := first | omega | assumption | (simp only [go_sem] <;> first | omega | assumption | fail) | fail) only [go_sem, h8])
        · obtain ⟨b1, b2, b3⟩ := back ((r.fault (takeR s r.at_ false).2.2 r.at_).more (takeR s r.at_ false).1 (takeR s r.at_ false).2.1) (by rw [stepR, if_neg h4, if_neg h5, if_pos h6]; simp only; rw [if_neg h7', if_pos h8])
          refine Meets.heq (H' := H ++ [rdBox s ((r.fault (takeR s r.at_ false).2.2 r.at_))]) (by first | rfl | simp -dsimp -implicitDefEqProofs (maxSteps := 2000000) (disch := first | omega | assumption | (simp only [go_sem] <;> first | omega | assumption | fail) | fail) only [go_sem]) (Meets.ret (rtext_meets E (r := (r.fault (takeR s r.at_ false).2.2 r.at_)) (nth_self _ _) (by omega) (by show r.text.length < _; omega) (takeR s r.at_ false).1 (by omega) (takeR s r.at_ false).2.1 (by show r.at_ + _ ≤ _; omega)) ?_)
          simp -dsimp -implicitDefEqProofs (maxSteps := 2000000) (disch := first | omega | assumption | (simp only [go_sem] <;> first | omega | assumption | fail) | fail) only [go_sem]
          exact Back.mk (k, (r.fault (takeR s r.at_ false).2.2 r.at_).more (takeR s r.at_ false).1 (takeR s r.at_ false).2.1) ⟨⟨b1, by simp only; omega, b3⟩, by simp only; omega⟩ (Goes.slots (by simp -dsimp -implicitDefEqProofs (maxSteps := 2000000) (disch := first | omega | assumption | (simp only [go_sem] <;> first | omega | assumption | fail) | fail) only [go_sem]) (by first | rfl | simp -dsimp -implicitDefEqProofs (maxSteps := 2000000) (disch := first | omega | assumption | (simp only [go_sem] <;> first | omega | assumption | fail) | fail) only [go_sem]))
        · obtain ⟨b1, b2, b3⟩ := back ((r.fault (takeR s r.at_ false).2.2 r.at_).more [38] 1) (by rw [stepR, if_neg h4, if_neg h5, if_pos h6]; simp only; rw [if_neg h7', if_neg h8])
          refine Meets.heq (H' := H ++ [rdBox s ((r.fault (takeR s r.at_ false).2.2 r.at_))]) (by first | rfl | simp -dsimp -implicitDefEqProofs (maxSteps := 2000000) (disch := first | omega | assumption | (simp only [go_sem] <;> first | omega | assumption | fail) | fail) only [go_sem]) (Meets.ret (rtext_meets E (r := (r.fault (takeR s r.at_ false).2.2 r.at_)) (nth_self _ _) (by omega) (by show r.text.length < _; omega) [38] (by simp) 1 (by show r.at_ + 1 ≤ _; omega)) ?_)
          simp -dsimp -implicitDefEqProofs (maxSteps := 2000000) (disch := first | omega | assumption | (simp only [go_sem] <;> first | omega | assumption | fail) | fail) only [go_sem]
          exact Back.mk (k, (r.fault (takeR s r.at_ false).2.2 r.at_).more [38] 1) ⟨⟨b1, by simp only; omega, b3⟩, by simp only; omega⟩ (Goes.slots (by simp -dsimp -implicitDefEqProofs (maxSteps := 2000000) (disch := first | omega | assumption | (simp only [go_sem] <;> first | omega | assumption | fail) | fail) only [go_sem]) (by first | rfl | simp -dsimp -implicitDefEqProofs (maxSteps := 2000000) (disch := first | omega | assumption | (simp only [go_sem] <;> first | omega | assumption | fail) | fail) only [go_sem]))
      · have h7' : (takeR s r.at_ false).2.2 = 0 := by omega
        (refine condP_intro (fun h8 => ?_) (fun h8 => ?_) <;> (try simp only [Bool.and_eq_true, Bool.or_eq_true, Bool.not_eq_true', Bool.not_eq_false', Bool.or_eq_false_iff, Bool.and_eq_false_imp, decide_eq_true_eq, decide_eq_false_iff_not, Bool.not_eq_true, Bool.not_eq_false, Int.ofNat_lt, Int.ofNat_le] at h8) <;> simp -dsimp -implicitDefEqProofs (maxSteps := 2000000) (disch := first | omega | assumption | (simp only [go_sem] <;> first | omega | assumption | fail) | fail) only [go_sem, h8])
        · obtain ⟨b1, b2, b3⟩ := back (r.more (takeR s r.at_ false).1 (takeR s r.at_ false).2.1) (by rw [stepR, if_neg h4, if_neg h5, if_pos h6]; simp only; rw [if_pos h7', if_pos h8])
          refine Meets.heq (H' := H ++ [rdBox s (r)]) (by first | rfl | simp -dsimp -implicitDefEqProofs (maxSteps := 2000000) (disch := first | omega | assumption | (simp only [go_sem] <;> first | omega | assumption | fail) | fail) only [go_sem]) (Meets.ret (rtext_meets E (r := r) (nth_self _ _) (by omega) (by show r.text.length < _; omega) (takeR s r.at_ false).1 (by omega) (takeR s r.at_ false).2.1 (by show r.at_ + _ ≤ _; omega)) ?_)
          simp -dsimp -implicitDefEqProofs (maxSteps := 2000000) (disch := first | omega | assumption | (simp only [go_sem] <;> first | omega | assumption | fail) | fail) only [go_sem]
          exact Back.mk (k, r.more (takeR s r.at_ false).1 (takeR s r.at_ false).2.1) ⟨⟨b1, by simp only; omega, b3⟩, by simp only; omega⟩ (Goes.slots (by simp -dsimp -implicitDefEqProofs (maxSteps := 2000000) (disch := first | omega | assumption | (simp only [go_sem] <;> first | omega | assumption | fail) | fail) only [go_sem]) (by first | rfl | simp -dsimp -implicitDefEqProofs (maxSteps := 2000000) (disch := first | omega | assumption | (simp only [go_sem] <;> first | omega | assumption | fail) | fail) only [go_sem]))
        · obtain ⟨b1, b2, b3⟩ := back (r.more [38] 1) (by rw [stepR, if_neg h4, if_neg h5, if_pos h6]; simp only; rw [if_pos h7', if_neg h8])
          refine Meets.heq (H' := H ++ [rdBox s (r)]) (by first | rfl | simp -dsimp -implicitDefEqProofs (maxSteps := 2000000) (disch := first | omega | assumption | (simp only [go_sem] <;> first | omega | assumption | fail) | fail) only [go_sem]) (Meets.ret (rtext_meets E (r := r) (nth_self _ _) (by omega) (by show r.text.length < _; omega) [38] (by simp) 1 (by show r.at_ + 1 ≤ _; omega)) ?_)
          simp -dsimp -implicitDefEqProofs (maxSteps := 2000000) (disch := first | omega | assumption | (simp only [go_sem] <;> first | omega | assumption | fail) | fail) only [go_sem]
          exact Back.mk (k, r.more [38] 1) ⟨⟨b1, by simp only; omega, b3⟩, by simp only; omega⟩ (Goes.slots (by simp -dsimp -implicitDefEqProofs (maxSteps := 2000000) (disch := first | omega | assumption | (simp only [go_sem] <;> first | omega | assumption | fail) | fail) only [go_sem]) (by first | rfl | simp -dsimp -implicitDefEqProofs (maxSteps := 2000000) (disch := first | omega | assumption | (simp only [go_sem] <;> first | omega | assumption | fail) | fail) only [go_sem]))
    · obtain ⟨b1, b2, b3⟩ := back (r.more [bAt s r.at_] 1) (by rw [stepR, if_neg h4, if_neg h5, if_neg h6])
      (repeat (refine ⟨by first | omega | assumption | trivial | (simp only [List.length_take, List.length_map, List.length_append, List.length_cons, List.length_nil, List.length_drop]; omega), ?_⟩))
      have hone : (s.drop r.at_).take (r.at_ + 1 - r.at_) = [s.getD r.at_ 0] := by
        rw [show r.at_ + 1 - r.at_ = 1 by omega]
        simp [List.getD, h, List.take_one, List.head?_drop]
      rw [hone]
      refine (rtext_meets E (H := H ++ [rdBox s r]) hn (by omega) (by omega) [s.getD r.at_ 0] (by simp) 1 h).ret ?_
      simp -dsimp -implicitDefEqProofs (maxSteps := 2000000) (disch := first | omega | assumption | (simp only [go_sem] <;> first | omega | assumption | fail) | fail) only [go_sem]
      exact Back.mk (k, r.more [bAt s r.at_] 1) ⟨⟨b1, by simp only; omega, b3⟩, by simp only; omega⟩ (Goes.slots (by simp -dsimp -implicitDefEqProofs (maxSteps := 2000000) (disch := first | omega | assumption | (simp only [go_sem] <;> first | omega | assumption | fail) | fail) only [go_sem]) rfl)
  · have hend : tokF s k r = r := by
      cases k with
      | zero => rfl
      | succ k => rw [tokF, if_neg h]
    have hT : tokensRd s = r.done := by rw [tokensRd, heq, hend]
    refine (rdone_meets E (H := H ++ [rdBox s r]) hn (by omega) (by omega)).ret ?_
    simp -dsimp -implicitDefEqProofs (maxSteps := 2000000) (disch := first | omega | assumption | (simp only [go_sem] <;> first | omega | assumption | fail) | fail) only [go_sem]
    have eT : tokensT s = r.done.t := by rw [tokensT, hT]
    have eF : tokensF s = r.f := by rw [tokensF, hT]; rfl
    rw [eT, eF]
    intro c hcap c1 hc1
    refine Fin.frz (H.length + 1) ?_
    simp -dsimp -implicitDefEqProofs (maxSteps := 2000000) (disch := first | omega | assumption | (simp only [go_sem] <;> first | omega | assumption | fail) | fail) only [go_sem]
    refine ⟨⟨fun _ => hcap, fun h => h.elim⟩, ?_⟩
    refine Fin.frz (H.length + 2) ?_
    simp -dsimp -implicitDefEqProofs (maxSteps := 2000000) (disch := first | omega | assumption | (simp only [go_sem] <;> first | omega | assumption | fail) | fail) only [go_sem]
    refine ⟨fun _ => hc1, Fin.cut (Nat.le_refl _) hc ⟨rfl, rfl⟩⟩
end
end Go.Proofs.YtdpjmfipgkblfaaGreatDoor
