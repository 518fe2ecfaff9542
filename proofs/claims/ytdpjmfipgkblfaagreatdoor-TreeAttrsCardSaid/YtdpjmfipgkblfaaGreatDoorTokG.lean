/- Contracts of the document's answer for layer 6, by V: blanks, words, what stands there. -/
import Derived.Test.YtdpjmfipgkblfaaGreatDoorTokF
set_option linter.unusedSimpArgs false
namespace Go.Proofs.YtdpjmfipgkblfaaGreatDoor
open Go Go.V
attribute [local irreducible] vc vcL vcP vcI vcO stOp Loops condP bx bx2 Meets Back
section
variable {s : List UInt8} {r : Rd} {H : List Ent} {n : Nat}

theorem Meets.heq {E : Env} {P : Program} {f : FuncId} {args : List AV} {H H' : List Ent} {post : AV → List Ent → Prop} (h : H = H') (hm : Meets E P f args H' post) : Meets E P f args H post := h ▸ hm
theorem dn_at (r : Rd) : r.done.at_ = r.at_ := rfl
theorem dn_f (r : Rd) : r.done.f = r.f := rfl
theorem dn_frm (r : Rd) : r.done.frm = r.frm := rfl
theorem dn_text (r : Rd) : r.done.text = [] := rfl
theorem dn_len (r : Rd) : r.done.t.length ≤ r.t.length + 1 := by simp only [Rd.done]; split <;> simp
attribute [local go_sem] a64 a64l a64r s64 s64l ite_min ite_max zlt_l zlt_r zle_l zle_r zeq len_eq byte_eq Nat.zero_le nth_set_ne List.forall_mem_cons all_nil isPl allSh_tok allSh_flt allNr_tok allNr_flt allSh_att allNr_att rdBox Rd.to Rd.fault dn_at dn_f dn_frm dn_text Nat.reduceAdd Nat.reduceSub Nat.reduceMul Nat.reduceLT Nat.reduceLeDiff Nat.reduceEqDiff Int.reduceEq Int.reduceLT Int.reduceLE
set_option maxRecDepth 20000 in
theorem rblanks_meets (E : Env) (hn : nth H n = rdBox s r) (hs : s.length < 1073741824) (hr : r.at_ ≤ s.length) :
    Meets E Tryz.prog 67 [.c (.ptr n 0 0)] H (Ret (.tup []) (setn H n (rdBox s (r.to (blanksE s r.at_))))) := by
  have hlt := rd_lt hn
  refine Meets.of_body mixed tok (plan := (fun | 0 => (.take 0 (.take 1 (.take 2 (.take 3 (.take 4 (.take 5 (.take 6 (.take 7 (.take 8 (.take 9 (.take 10 (.take 11 (.take 12 (.take 13 (.take 14 (.take 15 (.take 16 (.take 17 (.take 18 (.take 19 (.one 20 (.take 21 .done)))))))))))))))))))))) | _ => .done)) Tryz.func67 Tryz.call67 Tryz.ntmps67 Tryz.results67 rfl (by kernel_rfl) ?_
  simp -dsimp -implicitDefEqProofs (maxSteps := 2000000) (disch := first | omega | assumption | (simp only [go_sem] <;> first | omega | assumption | fail) | fail) only [go_sem]
  refine Loops.on (α := Nat) (fun j => j ≤ s.length ∧ blanksE s r.at_ = blanksE s j) (fun j => s.length - j) (fun _ => []) (fun j => setn H n (rdBox s (r.to j))) r.at_ ⟨hr, rfl⟩ ?_ ?_
  · exact Goes.slots (by simp -dsimp -implicitDefEqProofs (maxSteps := 2000000) (disch := first | omega | assumption | (simp only [go_sem] <;> first | omega | assumption | fail) | fail) only [go_sem]) (setn_same hn (by simp [rdBox])).symm
  rintro j ⟨hj, heq⟩
  simp -dsimp -implicitDefEqProofs (maxSteps := 2000000) (disch := first | omega | assumption | (simp only [go_sem] <;> first | omega | assumption | fail) | fail) only [go_sem, rdBox, Rd.to]
  (refine condP_intro (fun h => ?_) (fun h => ?_) <;> (try simp only [Bool.and_eq_true, Bool.or_eq_true, Bool.not_eq_true', Bool.not_eq_false', Bool.or_eq_false_iff, Bool.and_eq_false_imp, decide_eq_true_eq, decide_eq_false_iff_not, Bool.not_eq_true, Bool.not_eq_false, Int.ofNat_lt, Int.ofNat_le] at h) <;> simp -dsimp -implicitDefEqProofs (maxSteps := 2000000) (disch := first | omega | assumption | (simp only [go_sem] <;> first | omega | assumption | fail) | fail) only [go_sem, h])
  · refine (rblank_meets E _ _).ret ?_
    simp -dsimp -implicitDefEqProofs (maxSteps := 2000000) (disch := first | omega | assumption | (simp only [go_sem] <;> first | omega | assumption | fail) | fail) only [go_sem]
    (refine condP_intro (fun h1 => ?_) (fun h1 => ?_) <;> (try simp only [Bool.and_eq_true, Bool.or_eq_true, Bool.not_eq_true', Bool.not_eq_false', Bool.or_eq_false_iff, Bool.and_eq_false_imp, decide_eq_true_eq, decide_eq_false_iff_not, Bool.not_eq_true, Bool.not_eq_false, Int.ofNat_lt, Int.ofNat_le] at h1) <;> simp -dsimp -implicitDefEqProofs (maxSteps := 2000000) (disch := first | omega | assumption | (simp only [go_sem] <;> first | omega | assumption | fail) | fail) only [go_sem, h1])
    · refine Back.mk (j + 1) ⟨⟨h, heq.trans (scan_step h h1)⟩, by omega⟩ (Goes.slots (by simp -dsimp -implicitDefEqProofs (maxSteps := 2000000) (disch := first | omega | assumption | (simp only [go_sem] <;> first | omega | assumption | fail) | fail) only [go_sem]) rfl)
    · refine Fin.ret rfl ?_
      rw [heq, blanksE, scan_stop (fun _ => h1)]
  · refine Fin.ret rfl ?_
    rw [heq, blanksE, scan_stop (fun hl => absurd hl h)]
set_option maxRecDepth 20000 in
theorem rword_meets (E : Env) (hn : nth H n = rdBox s r) (hs : s.length < 1073741824) (hr : r.at_ ≤ s.length) (ends : List UInt8) (he : ends.length < 1073741824) :
    Meets E Tryz.prog 96 [.c (.ptr n 0 0), .d (.str ends)] H (Ret (.d (.str (sub s r.at_ (wordE ends s r.at_)))) (setn H n (rdBox s (r.to (wordE ends s r.at_))))) := by
  have hlt := rd_lt hn
  refine Meets.of_body mixed tok (plan := (fun | 2 => (.take 0 (.take 1 (.take 2 (.take 3 (.take 4 (.take 5 (.take 6 (.take 7 (.take 8 (.take 9 (.take 10 (.take 11 (.take 12 (.take 13 (.take 14 (.take 15 (.take 16 (.take 17 (.take 18 (.take 19 (.one 20 (.take 21 (.take 22 (.take 23 (.take 24 (.take 25 (.take 26 (.take 27 (.take 28 (.take 29 (.take 30 (.take 31 (.take 32 (.take 33 (.one 34 (.take 35 (.take 36 .done))))))))))))))))))))))))))))))))))))) | 4 => (.take 0 (.take 1 (.take 2 (.take 3 (.take 4 (.take 5 (.take 6 (.take 7 (.take 8 (.take 9 (.take 10 .done))))))))))) | _ => .done)) Tryz.func96 Tryz.call96 Tryz.ntmps96 Tryz.results96 rfl (by kernel_rfl) ?_
  simp -dsimp -implicitDefEqProofs (maxSteps := 2000000) (disch := first | omega | assumption | (simp only [go_sem] <;> first | omega | assumption | fail) | fail) only [go_sem, hn, rdBox]
  refine Loops.on (α := Nat) (fun j => j ≤ s.length ∧ r.at_ ≤ j ∧ wordE ends s r.at_ = wordE ends s j) (fun j => s.length - j) (fun _ => []) (fun j => setn H n (rdBox s (r.to j))) r.at_ ⟨hr, Nat.le_refl _, rfl⟩ ?_ ?_
  · exact Goes.slots (by simp -dsimp -implicitDefEqProofs (maxSteps := 2000000) (disch := first | omega | assumption | (simp only [go_sem] <;> first | omega | assumption | fail) | fail) only [go_sem]) (setn_same hn (by simp [rdBox])).symm
  rintro j ⟨hj, hj2, heq⟩
  simp -dsimp -implicitDefEqProofs (maxSteps := 2000000) (disch := first | omega | assumption | (simp only [go_sem] <;> first | omega | assumption | fail) | fail) only [go_sem, rdBox, Rd.to]
  have hstop : (j < s.length → (!blankB (bAt s j) && !ends.contains (bAt s j)) = false) → wordE ends s r.at_ = j := fun h => by rw [heq, wordE, scan_stop h]
  (refine condP_intro (fun h => ?_) (fun h => ?_) <;> (try simp only [Bool.and_eq_true, Bool.or_eq_true, Bool.not_eq_true', Bool.not_eq_false', Bool.or_eq_false_iff, Bool.and_eq_false_imp, decide_eq_true_eq, decide_eq_false_iff_not, Bool.not_eq_true, Bool.not_eq_false, Int.ofNat_lt, Int.ofNat_le] at h) <;> simp -dsimp -implicitDefEqProofs (maxSteps := 2000000) (disch := first | omega | assumption | (simp only [go_sem] <;> first | omega | assumption | fail) | fail) only [go_sem, h])
  · refine (rblank_meets E _ _).ret ?_
    simp -dsimp -implicitDefEqProofs (maxSteps := 2000000) (disch := first | omega | assumption | (simp only [go_sem] <;> first | omega | assumption | fail) | fail) only [go_sem]
    (refine condP_intro (fun h1 => ?_) (fun h1 => ?_) <;> (try simp only [Bool.and_eq_true, Bool.or_eq_true, Bool.not_eq_true', Bool.not_eq_false', Bool.or_eq_false_iff, Bool.and_eq_false_imp, decide_eq_true_eq, decide_eq_false_iff_not, Bool.not_eq_true, Bool.not_eq_false, Int.ofNat_lt, Int.ofNat_le] at h1) <;> simp -dsimp -implicitDefEqProofs (maxSteps := 2000000) (disch := first | omega | assumption | (simp only [go_sem] <;> first | omega | assumption | fail) | fail) only [go_sem, h1])
    · refine ⟨h, ?_⟩
      refine (rin_meets E ends he _ _).ret ?_
      simp -dsimp -implicitDefEqProofs (maxSteps := 2000000) (disch := first | omega | assumption | (simp only [go_sem] <;> first | omega | assumption | fail) | fail) only [go_sem]
      (refine condP_intro (fun h2 => ?_) (fun h2 => ?_) <;> (try simp only [Bool.and_eq_true, Bool.or_eq_true, Bool.not_eq_true', Bool.not_eq_false', Bool.or_eq_false_iff, Bool.and_eq_false_imp, decide_eq_true_eq, decide_eq_false_iff_not, Bool.not_eq_true, Bool.not_eq_false, Int.ofNat_lt, Int.ofNat_le] at h2) <;> simp -dsimp -implicitDefEqProofs (maxSteps := 2000000) (disch := first | omega | assumption | (simp only [go_sem] <;> first | omega | assumption | fail) | fail) only [go_sem, h2])
      · refine Back.mk (j + 1) ⟨⟨h, by omega, heq.trans (scan_step h (by simp only [blankB, bAt, h1, h2]; rfl))⟩, by omega⟩ (Goes.slots (by simp -dsimp -implicitDefEqProofs (maxSteps := 2000000) (disch := first | omega | assumption | (simp only [go_sem] <;> first | omega | assumption | fail) | fail) only [go_sem]) rfl)
      · have hw := hstop (fun _ => by simp only [bAt, h2, Bool.not_true, Bool.and_false])
        refine ⟨by omega, by omega, Fin.ret (str_av (by rw [hw]; rfl)) (by rw [hw])⟩
    · have hw := hstop (fun _ => by simp only [blankB, bAt, h1]; rfl)
      refine ⟨by omega, by omega, Fin.ret (str_av (by rw [hw]; rfl)) (by rw [hw])⟩
  · have hw := hstop (fun hl => absurd hl h)
    refine ⟨by omega, by omega, Fin.ret (str_av (by rw [hw]; rfl)) (by rw [hw])⟩
set_option maxRecDepth 20000 in
theorem rlooks_meets (E : Env) (hn : nth H n = rdBox s r) (hs : s.length < 1073741824) (hr : r.at_ ≤ s.length) (t : List UInt8) :
    Meets E Tryz.prog 39 [.c (.ptr n 0 0), .d (.str t)] H (Ret (.d (.bool (looksAt s r.at_ t))) H) := by
  have hlt := rd_lt hn
  refine Meets.of_body mixed tok (plan := (fun | 1 => (.take 0 (.take 1 (.take 2 (.take 3 (.take 4 (.take 5 (.take 6 (.take 7 (.take 8 (.take 9 (.take 10 (.take 11 (.take 12 (.take 13 (.take 14 (.take 15 (.take 16 (.take 17 (.take 18 (.take 19 (.take 20 (.take 21 (.take 22 (.take 23 (.take 24 (.take 25 (.take 26 (.take 27 (.take 28 (.take 29 (.take 31 (.one 30 (.take 32 (.take 33 (.take 34 .done))))))))))))))))))))))))))))))))))) | _ => .done)) Tryz.func39 Tryz.call39 Tryz.ntmps39 Tryz.results39 rfl (by kernel_rfl) ?_
  simp -dsimp -implicitDefEqProofs (maxSteps := 2000000) (disch := first | omega | assumption | (simp only [go_sem] <;> first | omega | assumption | fail) | fail) only [go_sem, hn, rdBox]
  (refine condP_intro (fun h => ?_) (fun h => ?_) <;> (try simp only [Bool.and_eq_true, Bool.or_eq_true, Bool.not_eq_true', Bool.not_eq_false', Bool.or_eq_false_iff, Bool.and_eq_false_imp, decide_eq_true_eq, decide_eq_false_iff_not, Bool.not_eq_true, Bool.not_eq_false, Int.ofNat_lt, Int.ofNat_le] at h) <;> simp -dsimp -implicitDefEqProofs (maxSteps := 2000000) (disch := first | omega | assumption | (simp only [go_sem] <;> first | omega | assumption | fail) | fail) only [go_sem, h, hn, rdBox])
  · (repeat (refine ⟨by first | omega | assumption | trivial | (simp only [List.length_take, List.length_map, List.length_append, List.length_cons, List.length_nil, List.length_drop]; omega), ?_⟩))
    refine (rlower_meets _ (by simp only [List.length_take, List.length_drop]; omega) E H).ret ?_
    simp -dsimp -implicitDefEqProofs (maxSteps := 2000000) (disch := first | omega | assumption | (simp only [go_sem] <;> first | omega | assumption | fail) | fail) only [go_sem]
    exact Fin.ret (bool_av (by simp only [looksAt, decide_eq_true (show r.at_ + t.length ≤ s.length by omega), Bool.true_and, Nat.add_sub_cancel_left])) rfl
  · exact Fin.ret (bool_av (by simp only [looksAt, decide_eq_false (show ¬ r.at_ + t.length ≤ s.length by omega), Bool.false_and])) rfl
set_option maxRecDepth 20000 in
theorem rname_meets (E : Env) (hn : nth H n = rdBox s r) (hs : s.length < 1073741824) (hr : r.at_ ≤ s.length) (ends : List UInt8) (he : ends.length < 1073741824) :
    Meets E Tryz.prog 58 [.c (.ptr n 0 0), .d (.str ends)] H (Ret (.d (.str (nameR ends s r.at_))) (setn H n (rdBox s (r.to (wordE ends s r.at_))))) := by
  have hlt := rd_lt hn
  have hl : (sub s r.at_ (wordE ends s r.at_)).length ≤ s.length := by simp only [sub, List.length_take, List.length_drop]; omega
  refine Meets.of_body mixed tok (plan := fun _ => .done) Tryz.func58 Tryz.call58 Tryz.ntmps58 Tryz.results58 rfl (by kernel_rfl) ?_
  simp -dsimp -implicitDefEqProofs (maxSteps := 2000000) (disch := first | omega | assumption | (simp only [go_sem] <;> first | omega | assumption | fail) | fail) only [go_sem]
  refine (rword_meets E hn hs hr ends he).ret ?_
  simp -dsimp -implicitDefEqProofs (maxSteps := 2000000) (disch := first | omega | assumption | (simp only [go_sem] <;> first | omega | assumption | fail) | fail) only [go_sem]
  refine (rlower_meets _ (by omega) E _).ret ?_
  simp -dsimp -implicitDefEqProofs (maxSteps := 2000000) (disch := first | omega | assumption | (simp only [go_sem] <;> first | omega | assumption | fail) | fail) only [go_sem]
  refine (rclean_meets E _ (by simp only [lowerL, List.length_map]; omega) _).ret ?_
  simp -dsimp -implicitDefEqProofs (maxSteps := 2000000) (disch := first | omega | assumption | (simp only [go_sem] <;> first | omega | assumption | fail) | fail) only [go_sem]
  exact Fin.ret rfl rfl
set_option maxRecDepth 20000 in
set_option maxHeartbeats 4000000 in
theorem rnote_meets (E : Env) (hn : nth H n = rdBox s r) (hs : s.length < 1073741824) (hr : r.t.length < 536870912) (hr2 : r.text.length < 1073741824) (hr3 : r.f.length < 1073741824) (k : Nat) (hk : r.at_ + k ≤ s.length) :
    Meets E Tryz.prog 42 [.c (.ptr n 0 0), .d (.int .i64 k)] H (Ret (.tup []) (setn H n (rdBox s (noteR s k r)))) := by
  have hlt := rd_lt hn
  refine Meets.closed fun hc => ?_
  refine Meets.of_body mixed tok (plan := (fun | 4 => (.take 0 (.take 1 (.take 2 (.take 3 (.take 5 (.take 6 (.take 7 (.take 8 (.take 9 (.take 10 (.take 11 (.take 13 (.take 14 (.take 15 (.fork 4 (.fork 12 (.take 16 (.take 17 (.one 18 (.one 19 (.take 20 (.take 21 (.one 22 .done))))))) (.fork 16 (.one 12 (.take 17 (.one 18 (.one 19 (.take 20 (.take 21 (.one 22 .done))))))) .nil)) (.fork 12 (.take 4 (.take 16 (.take 17 (.one 18 (.one 19 (.take 20 (.take 21 (.one 22 .done)))))))) (.fork 16 (.fork 4 (.one 12 (.take 17 (.one 18 (.one 19 (.take 20 (.take 21 (.one 22 .done))))))) (.fork 12 (.take 4 (.take 17 (.one 18 (.one 19 (.take 20 (.take 21 (.one 22 .done))))))) .nil)) .nil))))))))))))))))) | _ => .done)) Tryz.func42 Tryz.call42 Tryz.ntmps42 Tryz.results42 rfl (by kernel_rfl) ?_
  simp -dsimp -implicitDefEqProofs (maxSteps := 2000000) (disch := first | omega | assumption | (simp only [go_sem] <;> first | omega | assumption | fail) | fail) only [go_sem]
  refine (rdone_meets E hn (by omega) hr2).ret ?_
  simp -dsimp -implicitDefEqProofs (maxSteps := 2000000) (disch := first | omega | assumption | (simp only [go_sem] <;> first | omega | assumption | fail) | fail) only [go_sem]
  have hd := dn_len r
  have hX := nth_set H n (rdBox s (r.done)) hlt
  refine Meets.heq (H' := setn H n (rdBox s (r.done))) (by first | rfl | simp -dsimp -implicitDefEqProofs (maxSteps := 2000000) (disch := first | omega | assumption | (simp only [go_sem] <;> first | omega | assumption | fail) | fail) only [go_sem]) (Meets.ret (rfault_meets E hX hr3 7 r.at_) ?_)
  simp -dsimp -implicitDefEqProofs (maxSteps := 2000000) (disch := first | omega | assumption | (simp only [go_sem] <;> first | omega | assumption | fail) | fail) only [go_sem]
  have hf1 : r.at_ + k ≤ findB s 62 (r.at_ + k) := scan_ge _ s.length (r.at_ + k)
  have hf2 : findB s 62 (r.at_ + k) ≤ s.length := scan_le _ s.length (r.at_ + k) hk
  have hX := nth_set H n (rdBox s (r.done.fault 7 r.at_)) hlt
  refine Meets.heq (H' := setn H n (rdBox s (r.done.fault 7 r.at_))) (by first | rfl | simp -dsimp -implicitDefEqProofs (maxSteps := 2000000) (disch := first | omega | assumption | (simp only [go_sem] <;> first | omega | assumption | fail) | fail) only [go_sem]) (Meets.ret (rfind_meets E hX hs 62 (r.at_ + k) hk) ?_)
  simp -dsimp -implicitDefEqProofs (maxSteps := 2000000) (disch := first | omega | assumption | (simp only [go_sem] <;> first | omega | assumption | fail) | fail) only [go_sem]
  have hle : (List.take (findB s 62 (r.at_ + k) - (r.at_ + k)) (List.drop (r.at_ + k) s)).length < 1073741824 := by simp only [List.length_take, List.length_drop]; omega
  repeat' (first | omega | refine And.intro ?_ ?_ | (intro c hcap) | (refine (rclean_meets E _ hle _).ret ?_; simp -dsimp -implicitDefEqProofs (maxSteps := 2000000) (disch := first | omega | assumption | (simp only [go_sem] <;> first | omega | assumption | fail) | fail) only [go_sem]))
  all_goals
    refine Fin.pack n ?_
    simp -dsimp -implicitDefEqProofs (maxSteps := 2000000) (disch := first | omega | assumption | (simp only [go_sem] <;> first | omega | assumption | fail) | fail) only [go_sem]
    refine ⟨by omega, by assumption, tokNil ⟨4, [], [], false, _, r.at_⟩ rfl (cutSet hc (below_box (by simp -dsimp -implicitDefEqProofs (maxSteps := 2000000) (disch := first | omega | assumption | (simp only [go_sem] <;> first | omega | assumption | fail) | fail) only [go_sem])) ⟨rfl, ?_⟩)⟩
    simp only [rdBox, noteR, Rd.tok, Rd.to, Rd.fault, dn_at, dn_f, dn_frm, dn_text, List.map_append, List.length_append, List.map_cons, List.map_nil, List.length_cons, List.length_nil, Nat.zero_add]
    rfl
end
end Go.Proofs.YtdpjmfipgkblfaaGreatDoor
