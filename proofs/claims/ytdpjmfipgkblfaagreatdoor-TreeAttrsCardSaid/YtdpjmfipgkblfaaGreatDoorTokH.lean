/- Contracts of the document's answer for layer 6, by V: comments, doctypes, values. -/
import Derived.Test.YtdpjmfipgkblfaaGreatDoorTokG
import Derived.Test.YtdpjmfipgkblfaaGreatDoorTokE
import Derived.Test.YtdpjmfipgkblfaaGreatDoorTokM
set_option linter.unusedSimpArgs false
namespace Go.Proofs.YtdpjmfipgkblfaaGreatDoor
open Go Go.V
attribute [local irreducible] vc vcL vcP vcI vcO stOp Loops condP bx bx2 Meets Back
section
variable {s : List UInt8} {r : Rd} {H : List Ent} {n : Nat}


attribute [local go_sem] a64 a64l a64r s64 s64l ite_min ite_max zlt_l zlt_r zle_l zle_r zeq len_eq byte_eq Nat.zero_le nth_set_ne List.forall_mem_cons all_nil isPl allSh_tok allSh_flt allNr_tok allNr_flt allSh_att allNr_att rdBox Rd.to Rd.fault dn_at dn_f dn_frm dn_text Nat.reduceAdd Nat.reduceSub Nat.reduceMul Nat.reduceLT Nat.reduceLeDiff Nat.reduceEqDiff Int.reduceEq Int.reduceLT Int.reduceLE
set_option maxRecDepth 20000 in
set_option maxHeartbeats 4000000 in
theorem rcomment_meets (E : Env) (hn : nth H n = rdBox s r) (hs : s.length < 100000000) (hr : r.t.length < 536870912) (hr2 : r.text.length < 1073741824) (hr3 : r.f.length < 1073741824) (hk : r.at_ + 4 ≤ s.length) :
    Meets E Tryz.prog 40 [.c (.ptr n 0 0)] H (Ret (.tup []) (setn H n (rdBox s (commentR s r)))) := by
  have hlt := rd_lt hn
  refine Meets.closed fun hc => ?_
  refine Meets.of_body mixed tok (plan := (fun | 8 => (.take 0 (.take 1 (.take 2 (.take 3 (.take 4 (.take 5 (.take 6 (.take 7 (.take 8 (.take 9 (.take 10 (.take 11 (.one 12 (.take 13 (.take 14 (.take 15 (.take 16 (.one 17 (.take 18 (.take 19 .done)))))))))))))))))))) | 10 => (.take 0 (.take 1 (.take 2 (.take 3 (.take 4 (.take 5 (.take 6 (.take 7 (.take 8 (.take 9 (.take 10 .done))))))))))) | 11 => (.take 0 (.take 1 (.take 2 (.take 3 (.take 4 (.take 5 (.take 6 (.take 7 (.take 8 (.take 9 .done)))))))))) | 17 => (.take 0 (.take 1 (.take 2 (.take 3 (.take 5 (.take 7 (.fork 4 (.one 6 (.take 8 (.one 9 (.one 10 (.take 11 (.take 12 (.one 13 .done))))))) (.fork 6 (.take 4 (.take 8 (.one 9 (.one 10 (.take 11 (.take 12 (.one 13 .done))))))) .nil)))))))) | _ => .done)) Tryz.func40 Tryz.call40 Tryz.ntmps40 Tryz.results40 rfl (by kernel_rfl) ?_
  simp -dsimp -implicitDefEqProofs (maxSteps := 2000000) (disch := first | omega | assumption | (simp only [go_sem] <;> first | omega | assumption | fail) | fail) only [go_sem]
  refine (rdone_meets E hn (by omega) hr2).ret ?_
  simp -dsimp -implicitDefEqProofs (maxSteps := 2000000) (disch := first | omega | assumption | (simp only [go_sem] <;> first | omega | assumption | fail) | fail) only [go_sem]
  have hd := dn_len r
  have hs' : s.length < 1073741824 := by omega
  have hfb := find_bd (c := 62) hk
  have hX := nth_set H n (rdBox s (r.done.to (r.at_ + 4))) hlt
  refine Meets.heq (H' := setn H n (rdBox s (r.done.to (r.at_ + 4)))) (by first | rfl | simp -dsimp -implicitDefEqProofs (maxSteps := 2000000) (disch := first | omega | assumption | (simp only [go_sem] <;> first | omega | assumption | fail) | fail) only [go_sem]) (Meets.ret (rlooks_meets E hX hs' hk [62]) ?_)
  simp -dsimp -implicitDefEqProofs (maxSteps := 2000000) (disch := first | omega | assumption | (simp only [go_sem] <;> first | omega | assumption | fail) | fail) only [go_sem]
  have hA : ∀ b1 b2, looksAt s (r.at_ + 4) [62] = b1 → looksAt s (r.at_ + 4) [45, 62] = b2 → (b1 || b2) = true → commentR s r = ((r.done.fault 7 r.at_).to (findB s 62 (r.at_ + 4) + 1)).tok ⟨4, [], [], false, [], r.at_⟩ := fun b1 b2 h1 h2 h3 => by
    simp only [commentR]
    rw [h1, h2, if_pos h3]
  have hB : looksAt s (r.at_ + 4) [62] = false → looksAt s (r.at_ + 4) [45, 62] = false → ∀ e, commentE s (r.at_ + 4) = e → commentR s r = (if e = s.length then (r.done.fault 6 e).to e else if looksAt s e [45, 45, 62] then r.done.to (e + 3) else (r.done.fault 7 r.at_).to (e + 4)).tok ⟨4, [], [], false, cleanL (sub s (r.at_ + 4) e), r.at_⟩ := fun h1 h2 e he => by
    simp only [commentR]
    rw [h1, h2, he, if_neg (by simp)]
  (refine condP_intro (fun h1 => ?_) (fun h1 => ?_) <;> (try simp only [Bool.and_eq_true, Bool.or_eq_true, Bool.not_eq_true', Bool.not_eq_false', Bool.or_eq_false_iff, Bool.and_eq_false_imp, decide_eq_true_eq, decide_eq_false_iff_not, Bool.not_eq_true, Bool.not_eq_false, Int.ofNat_lt, Int.ofNat_le] at h1) <;> simp -dsimp -implicitDefEqProofs (maxSteps := 2000000) (disch := first | omega | assumption | (simp only [go_sem] <;> first | omega | assumption | fail) | fail) only [go_sem, h1])
  · have hX := nth_set H n (rdBox s (r.done.to (r.at_ + 4))) hlt
    refine Meets.heq (H' := setn H n (rdBox s (r.done.to (r.at_ + 4)))) (by first | rfl | simp -dsimp -implicitDefEqProofs (maxSteps := 2000000) (disch := first | omega | assumption | (simp only [go_sem] <;> first | omega | assumption | fail) | fail) only [go_sem]) (Meets.ret (rlooks_meets E hX hs' hk [45, 62]) ?_)
    simp -dsimp -implicitDefEqProofs (maxSteps := 2000000) (disch := first | omega | assumption | (simp only [go_sem] <;> first | omega | assumption | fail) | fail) only [go_sem]
    (refine condP_intro (fun h2 => ?_) (fun h2 => ?_) <;> (try simp only [Bool.and_eq_true, Bool.or_eq_true, Bool.not_eq_true', Bool.not_eq_false', Bool.or_eq_false_iff, Bool.and_eq_false_imp, decide_eq_true_eq, decide_eq_false_iff_not, Bool.not_eq_true, Bool.not_eq_false, Int.ofNat_lt, Int.ofNat_le] at h2) <;> simp -dsimp -implicitDefEqProofs (maxSteps := 2000000) (disch := first | omega | assumption | (simp only [go_sem] <;> first | omega | assumption | fail) | fail) only [go_sem, h2])
    · have hres := hA _ _ h1 h2 rfl
      have hX := nth_set H n (rdBox s (r.done.to (r.at_ + 4))) hlt
      refine Meets.heq (H' := setn H n (rdBox s (r.done.to (r.at_ + 4)))) (by first | rfl | simp -dsimp -implicitDefEqProofs (maxSteps := 2000000) (disch := first | omega | assumption | (simp only [go_sem] <;> first | omega | assumption | fail) | fail) only [go_sem]) (Meets.ret (rfault_meets E hX hr3 7 r.at_) ?_)
      simp -dsimp -implicitDefEqProofs (maxSteps := 2000000) (disch := first | omega | assumption | (simp only [go_sem] <;> first | omega | assumption | fail) | fail) only [go_sem]
      have hX := nth_set H n (rdBox s ((r.done.to (r.at_ + 4)).fault 7 r.at_)) hlt
      refine Meets.heq (H' := setn H n (rdBox s ((r.done.to (r.at_ + 4)).fault 7 r.at_))) (by first | rfl | simp -dsimp -implicitDefEqProofs (maxSteps := 2000000) (disch := first | omega | assumption | (simp only [go_sem] <;> first | omega | assumption | fail) | fail) only [go_sem]) (Meets.ret (rfind_meets E hX hs' 62 (r.at_ + 4) hk) ?_)
      simp -dsimp -implicitDefEqProofs (maxSteps := 2000000) (disch := first | omega | assumption | (simp only [go_sem] <;> first | omega | assumption | fail) | fail) only [go_sem]
      repeat' (first | omega | refine And.intro ?_ ?_ | (intro c hcap))
      (refine Fin.pack n ?_; simp -dsimp -implicitDefEqProofs (maxSteps := 2000000) (disch := first | omega | assumption | (simp only [go_sem] <;> first | omega | assumption | fail) | fail) only [go_sem]; refine ⟨by omega, by assumption, tokNil ⟨4, [], [], false, _, r.at_⟩ rfl (cutSet hc (below_box (by simp -dsimp -implicitDefEqProofs (maxSteps := 2000000) (disch := first | omega | assumption | (simp only [go_sem] <;> first | omega | assumption | fail) | fail) only [go_sem])) ⟨rfl, ?_⟩)⟩; rw [hres]; simp only [rdBox, Rd.tok, Rd.to, Rd.fault, dn_at, dn_f, dn_frm, dn_text, List.map_append, List.length_append, List.map_cons, List.map_nil, List.length_cons, List.length_nil, Nat.zero_add]; (try rfl))
    · refine Loops.on (α := Nat) (fun j => r.at_ + 4 ≤ j ∧ j ≤ s.length ∧ commentE s (r.at_ + 4) = commentE s j) (fun j => s.length - j) (fun _ => []) (fun j => setn H n (rdBox s (r.done.to j))) (r.at_ + 4) ⟨Nat.le_refl _, hk, rfl⟩ ?_ ?_
      · exact Goes.slots (by simp -dsimp -implicitDefEqProofs (maxSteps := 2000000) (disch := first | omega | assumption | (simp only [go_sem] <;> first | omega | assumption | fail) | fail) only [go_sem]) rfl
      rintro j ⟨hj1, hj2, heq⟩
      simp -dsimp -implicitDefEqProofs (maxSteps := 2000000) (disch := first | omega | assumption | (simp only [go_sem] <;> first | omega | assumption | fail) | fail) only [go_sem]
      (refine condP_intro (fun h3 => ?_) (fun h3 => ?_) <;> (try simp only [Bool.and_eq_true, Bool.or_eq_true, Bool.not_eq_true', Bool.not_eq_false', Bool.or_eq_false_iff, Bool.and_eq_false_imp, decide_eq_true_eq, decide_eq_false_iff_not, Bool.not_eq_true, Bool.not_eq_false, Int.ofNat_lt, Int.ofNat_le] at h3) <;> simp -dsimp -implicitDefEqProofs (maxSteps := 2000000) (disch := first | omega | assumption | (simp only [go_sem] <;> first | omega | assumption | fail) | fail) only [go_sem, h3])
      · have hX := nth_set H n (rdBox s (r.done.to j)) hlt
        refine Meets.heq (H' := setn H n (rdBox s (r.done.to j))) (by first | rfl | simp -dsimp -implicitDefEqProofs (maxSteps := 2000000) (disch := first | omega | assumption | (simp only [go_sem] <;> first | omega | assumption | fail) | fail) only [go_sem]) (Meets.ret (rlooks_meets E hX hs' hj2 [45, 45, 62]) ?_)
        simp -dsimp -implicitDefEqProofs (maxSteps := 2000000) (disch := first | omega | assumption | (simp only [go_sem] <;> first | omega | assumption | fail) | fail) only [go_sem]
        (refine condP_intro (fun h4 => ?_) (fun h4 => ?_) <;> (try simp only [Bool.and_eq_true, Bool.or_eq_true, Bool.not_eq_true', Bool.not_eq_false', Bool.or_eq_false_iff, Bool.and_eq_false_imp, decide_eq_true_eq, decide_eq_false_iff_not, Bool.not_eq_true, Bool.not_eq_false, Int.ofNat_lt, Int.ofNat_le] at h4) <;> simp -dsimp -implicitDefEqProofs (maxSteps := 2000000) (disch := first | omega | assumption | (simp only [go_sem] <;> first | omega | assumption | fail) | fail) only [go_sem, h4])
        · have hX := nth_set H n (rdBox s (r.done.to j)) hlt
          refine Meets.heq (H' := setn H n (rdBox s (r.done.to j))) (by first | rfl | simp -dsimp -implicitDefEqProofs (maxSteps := 2000000) (disch := first | omega | assumption | (simp only [go_sem] <;> first | omega | assumption | fail) | fail) only [go_sem]) (Meets.ret (rlooks_meets E hX hs' hj2 [45, 45, 33, 62]) ?_)
          simp -dsimp -implicitDefEqProofs (maxSteps := 2000000) (disch := first | omega | assumption | (simp only [go_sem] <;> first | omega | assumption | fail) | fail) only [go_sem]
          (refine condP_intro (fun h5 => ?_) (fun h5 => ?_) <;> (try simp only [Bool.and_eq_true, Bool.or_eq_true, Bool.not_eq_true', Bool.not_eq_false', Bool.or_eq_false_iff, Bool.and_eq_false_imp, decide_eq_true_eq, decide_eq_false_iff_not, Bool.not_eq_true, Bool.not_eq_false, Int.ofNat_lt, Int.ofNat_le] at h5) <;> simp -dsimp -implicitDefEqProofs (maxSteps := 2000000) (disch := first | omega | assumption | (simp only [go_sem] <;> first | omega | assumption | fail) | fail) only [go_sem, h5])
          · refine Back.mk (j + 1) ⟨⟨by omega, by omega, heq.trans (scan_step h3 (by simp only [h4, h5]; rfl))⟩, by omega⟩ (Goes.slots (by simp -dsimp -implicitDefEqProofs (maxSteps := 2000000) (disch := first | omega | assumption | (simp only [go_sem] <;> first | omega | assumption | fail) | fail) only [go_sem]) rfl)
          · have he : commentE s (r.at_ + 4) = j := heq.trans (scan_stop fun _ => by simp only [h4, h5]; rfl)
            have hres := hB h1 h2 j he
            rw [if_neg (by omega), h4, if_neg (by simp)] at hres
            (repeat (refine ⟨by first | omega | assumption | trivial | (simp only [List.length_take, List.length_map, List.length_append, List.length_cons, List.length_nil, List.length_drop]; omega), ?_⟩))
            (refine condP_intro (fun h6 => ?_) (fun h6 => ?_) <;> (try simp only [Bool.and_eq_true, Bool.or_eq_true, Bool.not_eq_true', Bool.not_eq_false', Bool.or_eq_false_iff, Bool.and_eq_false_imp, decide_eq_true_eq, decide_eq_false_iff_not, Bool.not_eq_true, Bool.not_eq_false, Int.ofNat_lt, Int.ofNat_le] at h6) <;> simp -dsimp -implicitDefEqProofs (maxSteps := 2000000) (disch := first | omega | assumption | (simp only [go_sem] <;> first | omega | assumption | fail) | fail) only [go_sem, h6])
            · omega
            · have hX := nth_set H n (rdBox s (r.done.to j)) hlt
              refine Meets.heq (H' := setn H n (rdBox s (r.done.to j))) (by first | rfl | simp -dsimp -implicitDefEqProofs (maxSteps := 2000000) (disch := first | omega | assumption | (simp only [go_sem] <;> first | omega | assumption | fail) | fail) only [go_sem]) (Meets.ret (rlooks_meets E hX hs' hj2 [45, 45, 62]) ?_)
              simp -dsimp -implicitDefEqProofs (maxSteps := 2000000) (disch := first | omega | assumption | (simp only [go_sem] <;> first | omega | assumption | fail) | fail) only [go_sem]
              simp -dsimp -implicitDefEqProofs (maxSteps := 2000000) (disch := first | omega | assumption | (simp only [go_sem] <;> first | omega | assumption | fail) | fail) only [go_sem, h4]
              have hX := nth_set H n (rdBox s (r.done.to j)) hlt
              refine Meets.heq (H' := setn H n (rdBox s (r.done.to j))) (by first | rfl | simp -dsimp -implicitDefEqProofs (maxSteps := 2000000) (disch := first | omega | assumption | (simp only [go_sem] <;> first | omega | assumption | fail) | fail) only [go_sem]) (Meets.ret (rfault_meets E hX hr3 7 r.at_) ?_)
              simp -dsimp -implicitDefEqProofs (maxSteps := 2000000) (disch := first | omega | assumption | (simp only [go_sem] <;> first | omega | assumption | fail) | fail) only [go_sem]
              have hle : (List.take (j - (r.at_ + 4)) (List.drop (r.at_ + 4) s)).length < 1073741824 := by simp only [List.length_take, List.length_drop]; omega
              repeat' (first | omega | refine And.intro ?_ ?_ | (intro c hcap) | (refine (rclean_meets E _ hle _).ret ?_; simp -dsimp -implicitDefEqProofs (maxSteps := 2000000) (disch := first | omega | assumption | (simp only [go_sem] <;> first | omega | assumption | fail) | fail) only [go_sem]))
              all_goals (refine Fin.pack n ?_; simp -dsimp -implicitDefEqProofs (maxSteps := 2000000) (disch := first | omega | assumption | (simp only [go_sem] <;> first | omega | assumption | fail) | fail) only [go_sem]; refine ⟨by omega, by assumption, tokNil ⟨4, [], [], false, _, r.at_⟩ rfl (cutSet hc (below_box (by simp -dsimp -implicitDefEqProofs (maxSteps := 2000000) (disch := first | omega | assumption | (simp only [go_sem] <;> first | omega | assumption | fail) | fail) only [go_sem])) ⟨rfl, ?_⟩)⟩; rw [hres]; simp only [rdBox, Rd.tok, Rd.to, Rd.fault, dn_at, dn_f, dn_frm, dn_text, List.map_append, List.length_append, List.map_cons, List.map_nil, List.length_cons, List.length_nil, Nat.zero_add]; (try rfl))
        · have he : commentE s (r.at_ + 4) = j := heq.trans (scan_stop fun _ => by simp only [h4]; rfl)
          have hres := hB h1 h2 j he
          rw [if_neg (by omega), h4, if_pos rfl] at hres
          (repeat (refine ⟨by first | omega | assumption | trivial | (simp only [List.length_take, List.length_map, List.length_append, List.length_cons, List.length_nil, List.length_drop]; omega), ?_⟩))
          (refine condP_intro (fun h6 => ?_) (fun h6 => ?_) <;> (try simp only [Bool.and_eq_true, Bool.or_eq_true, Bool.not_eq_true', Bool.not_eq_false', Bool.or_eq_false_iff, Bool.and_eq_false_imp, decide_eq_true_eq, decide_eq_false_iff_not, Bool.not_eq_true, Bool.not_eq_false, Int.ofNat_lt, Int.ofNat_le] at h6) <;> simp -dsimp -implicitDefEqProofs (maxSteps := 2000000) (disch := first | omega | assumption | (simp only [go_sem] <;> first | omega | assumption | fail) | fail) only [go_sem, h6])
          · omega
          · have hX := nth_set H n (rdBox s (r.done.to j)) hlt
            refine Meets.heq (H' := setn H n (rdBox s (r.done.to j))) (by first | rfl | simp -dsimp -implicitDefEqProofs (maxSteps := 2000000) (disch := first | omega | assumption | (simp only [go_sem] <;> first | omega | assumption | fail) | fail) only [go_sem]) (Meets.ret (rlooks_meets E hX hs' hj2 [45, 45, 62]) ?_)
            simp -dsimp -implicitDefEqProofs (maxSteps := 2000000) (disch := first | omega | assumption | (simp only [go_sem] <;> first | omega | assumption | fail) | fail) only [go_sem]
            simp -dsimp -implicitDefEqProofs (maxSteps := 2000000) (disch := first | omega | assumption | (simp only [go_sem] <;> first | omega | assumption | fail) | fail) only [go_sem, h4]
            have hle : (List.take (j - (r.at_ + 4)) (List.drop (r.at_ + 4) s)).length < 1073741824 := by simp only [List.length_take, List.length_drop]; omega
            repeat' (first | omega | refine And.intro ?_ ?_ | (intro c hcap) | (refine (rclean_meets E _ hle _).ret ?_; simp -dsimp -implicitDefEqProofs (maxSteps := 2000000) (disch := first | omega | assumption | (simp only [go_sem] <;> first | omega | assumption | fail) | fail) only [go_sem]))
            all_goals (refine Fin.pack n ?_; simp -dsimp -implicitDefEqProofs (maxSteps := 2000000) (disch := first | omega | assumption | (simp only [go_sem] <;> first | omega | assumption | fail) | fail) only [go_sem]; refine ⟨by omega, by assumption, tokNil ⟨4, [], [], false, _, r.at_⟩ rfl (cutSet hc (below_box (by simp -dsimp -implicitDefEqProofs (maxSteps := 2000000) (disch := first | omega | assumption | (simp only [go_sem] <;> first | omega | assumption | fail) | fail) only [go_sem])) ⟨rfl, ?_⟩)⟩; rw [hres]; simp only [rdBox, Rd.tok, Rd.to, Rd.fault, dn_at, dn_f, dn_frm, dn_text, List.map_append, List.length_append, List.map_cons, List.map_nil, List.length_cons, List.length_nil, Nat.zero_add]; (try rfl))
      · have he : commentE s (r.at_ + 4) = j := heq.trans (scan_stop fun hl => absurd hl h3)
        have hres := hB h1 h2 j he
        obtain rfl : j = s.length := by omega
        rw [if_pos rfl] at hres
        (repeat (refine ⟨by first | omega | assumption | trivial | (simp only [List.length_take, List.length_map, List.length_append, List.length_cons, List.length_nil, List.length_drop]; omega), ?_⟩))
        (refine condP_intro (fun h6 => ?_) (fun h6 => ?_) <;> (try simp only [Bool.and_eq_true, Bool.or_eq_true, Bool.not_eq_true', Bool.not_eq_false', Bool.or_eq_false_iff, Bool.and_eq_false_imp, decide_eq_true_eq, decide_eq_false_iff_not, Bool.not_eq_true, Bool.not_eq_false, Int.ofNat_lt, Int.ofNat_le] at h6) <;> simp -dsimp -implicitDefEqProofs (maxSteps := 2000000) (disch := first | omega | assumption | (simp only [go_sem] <;> first | omega | assumption | fail) | fail) only [go_sem, h6])
        · have hX := nth_set H n (rdBox s (r.done.to s.length)) hlt
          refine Meets.heq (H' := setn H n (rdBox s (r.done.to s.length))) (by first | rfl | simp -dsimp -implicitDefEqProofs (maxSteps := 2000000) (disch := first | omega | assumption | (simp only [go_sem] <;> first | omega | assumption | fail) | fail) only [go_sem]) (Meets.ret (rfault_meets E hX hr3 6 s.length) ?_)
          simp -dsimp -implicitDefEqProofs (maxSteps := 2000000) (disch := first | omega | assumption | (simp only [go_sem] <;> first | omega | assumption | fail) | fail) only [go_sem]
          have hle : (List.take (s.length - (r.at_ + 4)) (List.drop (r.at_ + 4) s)).length < 1073741824 := by simp only [List.length_take, List.length_drop]; omega
          repeat' (first | omega | refine And.intro ?_ ?_ | (intro c hcap) | (refine (rclean_meets E _ hle _).ret ?_; simp -dsimp -implicitDefEqProofs (maxSteps := 2000000) (disch := first | omega | assumption | (simp only [go_sem] <;> first | omega | assumption | fail) | fail) only [go_sem]))
          all_goals (refine Fin.pack n ?_; simp -dsimp -implicitDefEqProofs (maxSteps := 2000000) (disch := first | omega | assumption | (simp only [go_sem] <;> first | omega | assumption | fail) | fail) only [go_sem]; refine ⟨by omega, by assumption, tokNil ⟨4, [], [], false, _, r.at_⟩ rfl (cutSet hc (below_box (by simp -dsimp -implicitDefEqProofs (maxSteps := 2000000) (disch := first | omega | assumption | (simp only [go_sem] <;> first | omega | assumption | fail) | fail) only [go_sem])) ⟨rfl, ?_⟩)⟩; rw [hres]; simp only [rdBox, Rd.tok, Rd.to, Rd.fault, dn_at, dn_f, dn_frm, dn_text, List.map_append, List.length_append, List.map_cons, List.map_nil, List.length_cons, List.length_nil, Nat.zero_add]; (try rfl))
        · exact (h6 trivial).elim
  · have hres := hA _ _ h1 rfl (by simp)
    have hX := nth_set H n (rdBox s (r.done.to (r.at_ + 4))) hlt
    refine Meets.heq (H' := setn H n (rdBox s (r.done.to (r.at_ + 4)))) (by first | rfl | simp -dsimp -implicitDefEqProofs (maxSteps := 2000000) (disch := first | omega | assumption | (simp only [go_sem] <;> first | omega | assumption | fail) | fail) only [go_sem]) (Meets.ret (rfault_meets E hX hr3 7 r.at_) ?_)
    simp -dsimp -implicitDefEqProofs (maxSteps := 2000000) (disch := first | omega | assumption | (simp only [go_sem] <;> first | omega | assumption | fail) | fail) only [go_sem]
    have hX := nth_set H n (rdBox s ((r.done.to (r.at_ + 4)).fault 7 r.at_)) hlt
    refine Meets.heq (H' := setn H n (rdBox s ((r.done.to (r.at_ + 4)).fault 7 r.at_))) (by first | rfl | simp -dsimp -implicitDefEqProofs (maxSteps := 2000000) (disch := first | omega | assumption | (simp only [go_sem] <;> first | omega | assumption | fail) | fail) only [go_sem]) (Meets.ret (rfind_meets E hX hs' 62 (r.at_ + 4) hk) ?_)
    simp -dsimp -implicitDefEqProofs (maxSteps := 2000000) (disch := first | omega | assumption | (simp only [go_sem] <;> first | omega | assumption | fail) | fail) only [go_sem]
    repeat' (first | omega | refine And.intro ?_ ?_ | (intro c hcap))
    (refine Fin.pack n ?_; simp -dsimp -implicitDefEqProofs (maxSteps := 2000000) (disch := first | omega | assumption | (simp only [go_sem] <;> first | omega | assumption | fail) | fail) only [go_sem]; refine ⟨by omega, by assumption, tokNil ⟨4, [], [], false, _, r.at_⟩ rfl (cutSet hc (below_box (by simp -dsimp -implicitDefEqProofs (maxSteps := 2000000) (disch := first | omega | assumption | (simp only [go_sem] <;> first | omega | assumption | fail) | fail) only [go_sem])) ⟨rfl, ?_⟩)⟩; rw [hres]; simp only [rdBox, Rd.tok, Rd.to, Rd.fault, dn_at, dn_f, dn_frm, dn_text, List.map_append, List.length_append, List.map_cons, List.map_nil, List.length_cons, List.length_nil, Nat.zero_add]; (try rfl))
set_option maxRecDepth 20000 in
set_option maxHeartbeats 4000000 in
theorem rdoctype_meets (E : Env) (hn : nth H n = rdBox s r) (hs : s.length < 100000000) (hr : r.t.length < 536870912) (hr2 : r.text.length < 1073741824) (hr3 : r.f.length < 1073741824) (hk : r.at_ + 9 ≤ s.length) :
    Meets E Tryz.prog 41 [.c (.ptr n 0 0)] H (Ret (.tup []) (setn H n (rdBox s (doctypeR s r)))) := by
  have hlt := rd_lt hn
  refine Meets.closed fun hc => ?_
  refine Meets.of_body mixed tok (plan := (fun | 6 => (.take 0 (.take 1 (.take 2 (.take 3 (.take 4 (.take 5 (.take 6 (.take 7 (.take 8 (.take 9 .done)))))))))) | _ => .done)) Tryz.func41 Tryz.call41 Tryz.ntmps41 Tryz.results41 rfl (by kernel_rfl) ?_
  simp -dsimp -implicitDefEqProofs (maxSteps := 2000000) (disch := first | omega | assumption | (simp only [go_sem] <;> first | omega | assumption | fail) | fail) only [go_sem]
  refine (rdone_meets E hn (by omega) hr2).ret ?_
  simp -dsimp -implicitDefEqProofs (maxSteps := 2000000) (disch := first | omega | assumption | (simp only [go_sem] <;> first | omega | assumption | fail) | fail) only [go_sem]
  have hd := dn_len r
  have hs' : s.length < 1073741824 := by omega
  have hb1 := blanks_bd hk
  have hb2 := word_bd (e := [62]) hb1.2
  have hb3 := find_bd (c := 62) hb2.2
  have hX := nth_set H n (rdBox s (r.done.to (r.at_ + 9))) hlt
  refine Meets.heq (H' := setn H n (rdBox s (r.done.to (r.at_ + 9)))) (by first | rfl | simp -dsimp -implicitDefEqProofs (maxSteps := 2000000) (disch := first | omega | assumption | (simp only [go_sem] <;> first | omega | assumption | fail) | fail) only [go_sem]) (Meets.ret (rblanks_meets E hX hs' hk) ?_)
  simp -dsimp -implicitDefEqProofs (maxSteps := 2000000) (disch := first | omega | assumption | (simp only [go_sem] <;> first | omega | assumption | fail) | fail) only [go_sem]
  have hX := nth_set H n (rdBox s (r.done.to (blanksE s (r.at_ + 9)))) hlt
  refine Meets.heq (H' := setn H n (rdBox s (r.done.to (blanksE s (r.at_ + 9))))) (by first | rfl | simp -dsimp -implicitDefEqProofs (maxSteps := 2000000) (disch := first | omega | assumption | (simp only [go_sem] <;> first | omega | assumption | fail) | fail) only [go_sem]) (Meets.ret (rname_meets E hX hs' hb1.2 [62] (by decide)) ?_)
  simp -dsimp -implicitDefEqProofs (maxSteps := 2000000) (disch := first | omega | assumption | (simp only [go_sem] <;> first | omega | assumption | fail) | fail) only [go_sem]
  have hX := nth_set H n (rdBox s (r.done.to (wordE [62] s (blanksE s (r.at_ + 9))))) hlt
  refine Meets.heq (H' := setn H n (rdBox s (r.done.to (wordE [62] s (blanksE s (r.at_ + 9)))))) (by first | rfl | simp -dsimp -implicitDefEqProofs (maxSteps := 2000000) (disch := first | omega | assumption | (simp only [go_sem] <;> first | omega | assumption | fail) | fail) only [go_sem]) (Meets.ret (rfind_meets E hX hs' 62 _ hb2.2) ?_)
  simp -dsimp -implicitDefEqProofs (maxSteps := 2000000) (disch := first | omega | assumption | (simp only [go_sem] <;> first | omega | assumption | fail) | fail) only [go_sem]
  have hres0 : doctypeR s r = (if findB s 62 (wordE [62] s (blanksE s (r.at_ + 9))) = s.length then (r.done.fault 6 (findB s 62 (wordE [62] s (blanksE s (r.at_ + 9))))).to (findB s 62 (wordE [62] s (blanksE s (r.at_ + 9)))) else r.done.to (findB s 62 (wordE [62] s (blanksE s (r.at_ + 9))) + 1)).tok ⟨5, nameR [62] s (blanksE s (r.at_ + 9)), [], false, [], r.at_⟩ := rfl
  generalize findB s 62 (wordE [62] s (blanksE s (r.at_ + 9))) = i3 at hb3 hres0
  by_cases h1 : i3 = s.length
  · have hres := hres0.trans (by rw [if_pos h1])
    subst h1
    (refine condP_intro (fun h2 => ?_) (fun h2 => ?_) <;> (try simp only [Bool.and_eq_true, Bool.or_eq_true, Bool.not_eq_true', Bool.not_eq_false', Bool.or_eq_false_iff, Bool.and_eq_false_imp, decide_eq_true_eq, decide_eq_false_iff_not, Bool.not_eq_true, Bool.not_eq_false, Int.ofNat_lt, Int.ofNat_le] at h2) <;> simp -dsimp -implicitDefEqProofs (maxSteps := 2000000) (disch := first | omega | assumption | (simp only [go_sem] <;> first | omega | assumption | fail) | fail) only [go_sem, h2])
    · have hX := nth_set H n (rdBox s (r.done.to s.length)) hlt
      refine Meets.heq (H' := setn H n (rdBox s (r.done.to s.length))) (by first | rfl | simp -dsimp -implicitDefEqProofs (maxSteps := 2000000) (disch := first | omega | assumption | (simp only [go_sem] <;> first | omega | assumption | fail) | fail) only [go_sem]) (Meets.ret (rfault_meets E hX hr3 6 s.length) ?_)
      simp -dsimp -implicitDefEqProofs (maxSteps := 2000000) (disch := first | omega | assumption | (simp only [go_sem] <;> first | omega | assumption | fail) | fail) only [go_sem]
      repeat' (first | omega | refine And.intro ?_ ?_ | (intro c hcap))
      (refine Fin.pack n ?_; simp -dsimp -implicitDefEqProofs (maxSteps := 2000000) (disch := first | omega | assumption | (simp only [go_sem] <;> first | omega | assumption | fail) | fail) only [go_sem]; refine ⟨by omega, by assumption, tokNil ⟨5, _, [], false, _, r.at_⟩ rfl (cutSet hc (below_box (by simp -dsimp -implicitDefEqProofs (maxSteps := 2000000) (disch := first | omega | assumption | (simp only [go_sem] <;> first | omega | assumption | fail) | fail) only [go_sem])) ⟨rfl, ?_⟩)⟩; rw [hres]; simp only [rdBox, Rd.tok, Rd.to, Rd.fault, dn_at, dn_f, dn_frm, dn_text, List.map_append, List.length_append, List.map_cons, List.map_nil, List.length_cons, List.length_nil, Nat.zero_add]; (try rfl))
    · exact (h2 trivial).elim
  · have hres := hres0.trans (by rw [if_neg h1])
    (refine condP_intro (fun h2 => ?_) (fun h2 => ?_) <;> (try simp only [Bool.and_eq_true, Bool.or_eq_true, Bool.not_eq_true', Bool.not_eq_false', Bool.or_eq_false_iff, Bool.and_eq_false_imp, decide_eq_true_eq, decide_eq_false_iff_not, Bool.not_eq_true, Bool.not_eq_false, Int.ofNat_lt, Int.ofNat_le] at h2) <;> simp -dsimp -implicitDefEqProofs (maxSteps := 2000000) (disch := first | omega | assumption | (simp only [go_sem] <;> first | omega | assumption | fail) | fail) only [go_sem, h2])
    · exact absurd h2 h1
    · repeat' (first | omega | refine And.intro ?_ ?_ | (intro c hcap))
      (refine Fin.pack n ?_; simp -dsimp -implicitDefEqProofs (maxSteps := 2000000) (disch := first | omega | assumption | (simp only [go_sem] <;> first | omega | assumption | fail) | fail) only [go_sem]; refine ⟨by omega, by assumption, tokNil ⟨5, _, [], false, _, r.at_⟩ rfl (cutSet hc (below_box (by simp -dsimp -implicitDefEqProofs (maxSteps := 2000000) (disch := first | omega | assumption | (simp only [go_sem] <;> first | omega | assumption | fail) | fail) only [go_sem])) ⟨rfl, ?_⟩)⟩; rw [hres]; simp only [rdBox, Rd.tok, Rd.to, Rd.fault, dn_at, dn_f, dn_frm, dn_text, List.map_append, List.length_append, List.map_cons, List.map_nil, List.length_cons, List.length_nil, Nat.zero_add]; (try rfl))
set_option maxRecDepth 20000 in
set_option maxHeartbeats 4000000 in
theorem rvalue_meets (E : Env) (hn : nth H n = rdBox s r) (hs : s.length < 100000000) (hr3 : r.f.length < 1073741824) (hk : r.at_ ≤ s.length) :
    Meets E Tryz.prog 97 [.c (.ptr n 0 0)] H (Ret (.tup [.c (.str (valueR s r).1.1), .c (.bool (valueR s r).1.2)]) (setn H n (rdBox s (valueR s r).2))) := by
  have hlt := rd_lt hn
  refine Meets.of_body mixed tok (plan := (fun | 2 => (.take 0 (.take 1 (.take 2 (.take 3 (.take 4 (.take 5 (.take 6 (.take 7 (.take 8 (.take 9 .done)))))))))) | 4 => (.take 0 (.take 1 (.take 2 (.take 3 (.take 4 (.take 5 (.take 6 (.take 7 (.take 8 (.take 9 .done)))))))))) | 11 => (.take 0 (.take 1 (.take 2 (.take 3 (.take 4 (.take 5 (.take 6 (.take 7 (.take 8 (.take 9 (.take 10 (.take 11 .done)))))))))))) | 13 => (.take 0 (.take 3 (.take 4 (.take 5 (.take 6 (.fork 1 (.fork 2 (.take 7 (.take 8 (.take 9 (.take 10 (.take 11 .done))))) (.fork 7 (.take 8 (.take 9 (.one 2 (.take 10 (.take 11 .done))))) .nil)) (.fork 7 (.take 8 (.take 9 (.one 1 (.one 2 (.take 10 (.take 11 .done)))))) .nil))))))) | _ => .done)) Tryz.func97 Tryz.call97 Tryz.ntmps97 Tryz.results97 rfl (by kernel_rfl) ?_
  simp -dsimp -implicitDefEqProofs (maxSteps := 2000000) (disch := first | omega | assumption | (simp only [go_sem] <;> first | omega | assumption | fail) | fail) only [go_sem]
  have hs' : s.length < 1073741824 := by omega
  have hb1 := blanks_bd hk
  refine (rblanks_meets E hn hs' hk).ret ?_
  simp -dsimp -implicitDefEqProofs (maxSteps := 2000000) (disch := first | omega | assumption | (simp only [go_sem] <;> first | omega | assumption | fail) | fail) only [go_sem]
  have hv1 : ∀ i, blanksE s r.at_ = i → valueR s r = if i = s.length then (([], true), r.to i) else if bAt s i = 62 then (([], true), (r.to i).fault 5 i) else if bAt s i ≠ 34 ∧ bAt s i ≠ 39 then ((allR (cleanL (sub s i (wordE [62] s i))) true, true), r.to (wordE [62] s i)) else ((allR (cleanL (sub s (i + 1) (findB s (bAt s i) (i + 1)))) true, decide (findB s (bAt s i) (i + 1) < s.length)), r.to (min (findB s (bAt s i) (i + 1) + 1) s.length)) := fun i h => by rw [← h]; rfl
  have hv := hv1 _ rfl
  generalize blanksE s r.at_ = i at hb1 hv
  clear hv1
  by_cases h1 : i = s.length
  · rw [if_pos h1] at hv
    subst h1
    (refine condP_intro (fun h2 => ?_) (fun h2 => ?_) <;> (try simp only [Bool.and_eq_true, Bool.or_eq_true, Bool.not_eq_true', Bool.not_eq_false', Bool.or_eq_false_iff, Bool.and_eq_false_imp, decide_eq_true_eq, decide_eq_false_iff_not, Bool.not_eq_true, Bool.not_eq_false, Int.ofNat_lt, Int.ofNat_le] at h2) <;> simp -dsimp -implicitDefEqProofs (maxSteps := 2000000) (disch := first | omega | assumption | (simp only [go_sem] <;> first | omega | assumption | fail) | fail) only [go_sem, h2])
    · rw [hv]
      exact Fin.ret rfl rfl
    · exact (h2 trivial).elim
  · rw [if_neg h1] at hv
    (refine condP_intro (fun h0 => ?_) (fun h0 => ?_) <;> (try simp only [Bool.and_eq_true, Bool.or_eq_true, Bool.not_eq_true', Bool.not_eq_false', Bool.or_eq_false_iff, Bool.and_eq_false_imp, decide_eq_true_eq, decide_eq_false_iff_not, Bool.not_eq_true, Bool.not_eq_false, Int.ofNat_lt, Int.ofNat_le] at h0) <;> simp -dsimp -implicitDefEqProofs (maxSteps := 2000000) (disch := first | omega | assumption | (simp only [go_sem] <;> first | omega | assumption | fail) | fail) only [go_sem, h0])
    · exact absurd h0 h1
    (repeat (refine ⟨by first | omega | assumption | trivial | (simp only [List.length_take, List.length_map, List.length_append, List.length_cons, List.length_nil, List.length_drop]; omega), ?_⟩))
    (refine condP_intro (fun h2 => ?_) (fun h2 => ?_) <;> (try simp only [Bool.and_eq_true, Bool.or_eq_true, Bool.not_eq_true', Bool.not_eq_false', Bool.or_eq_false_iff, Bool.and_eq_false_imp, decide_eq_true_eq, decide_eq_false_iff_not, Bool.not_eq_true, Bool.not_eq_false, Int.ofNat_lt, Int.ofNat_le] at h2) <;> simp -dsimp -implicitDefEqProofs (maxSteps := 2000000) (disch := first | omega | assumption | (simp only [go_sem] <;> first | omega | assumption | fail) | fail) only [go_sem, h2])
    · rw [if_pos h2] at hv
      have hX := nth_set H n (rdBox s (r.to i)) hlt
      refine Meets.heq (H' := setn H n (rdBox s (r.to i))) (by first | rfl | simp -dsimp -implicitDefEqProofs (maxSteps := 2000000) (disch := first | omega | assumption | (simp only [go_sem] <;> first | omega | assumption | fail) | fail) only [go_sem]) (Meets.ret (rfault_meets E hX hr3 5 i) ?_)
      simp -dsimp -implicitDefEqProofs (maxSteps := 2000000) (disch := first | omega | assumption | (simp only [go_sem] <;> first | omega | assumption | fail) | fail) only [go_sem]
      rw [hv]
      exact Fin.ret rfl (by simp -dsimp -implicitDefEqProofs (maxSteps := 2000000) (disch := first | omega | assumption | (simp only [go_sem] <;> first | omega | assumption | fail) | fail) only [go_sem])
    · rw [if_neg h2] at hv
      (refine condP_intro (fun h3 => ?_) (fun h3 => ?_) <;> (try simp only [Bool.and_eq_true, Bool.or_eq_true, Bool.not_eq_true', Bool.not_eq_false', Bool.or_eq_false_iff, Bool.and_eq_false_imp, decide_eq_true_eq, decide_eq_false_iff_not, Bool.not_eq_true, Bool.not_eq_false, Int.ofNat_lt, Int.ofNat_le] at h3) <;> simp -dsimp -implicitDefEqProofs (maxSteps := 2000000) (disch := first | omega | assumption | (simp only [go_sem] <;> first | omega | assumption | fail) | fail) only [go_sem, h3])
      · (refine condP_intro (fun h4 => ?_) (fun h4 => ?_) <;> (try simp only [Bool.and_eq_true, Bool.or_eq_true, Bool.not_eq_true', Bool.not_eq_false', Bool.or_eq_false_iff, Bool.and_eq_false_imp, decide_eq_true_eq, decide_eq_false_iff_not, Bool.not_eq_true, Bool.not_eq_false, Int.ofNat_lt, Int.ofNat_le] at h4) <;> simp -dsimp -implicitDefEqProofs (maxSteps := 2000000) (disch := first | omega | assumption | (simp only [go_sem] <;> first | omega | assumption | fail) | fail) only [go_sem, h4])
        · rw [if_pos ⟨h3, h4⟩] at hv
          have hb2 := word_bd (e := [62]) hb1.2
          have hl : (sub s i (wordE [62] s i)).length ≤ s.length := by simp only [sub, List.length_take, List.length_drop]; omega
          have hc1 := cleanL_len (sub s i (wordE [62] s i))
          have hX := nth_set H n (rdBox s (r.to i)) hlt
          refine Meets.heq (H' := setn H n (rdBox s (r.to i))) (by first | rfl | simp -dsimp -implicitDefEqProofs (maxSteps := 2000000) (disch := first | omega | assumption | (simp only [go_sem] <;> first | omega | assumption | fail) | fail) only [go_sem]) (Meets.ret (rword_meets E hX hs' hb1.2 [62] (by decide)) ?_)
          simp -dsimp -implicitDefEqProofs (maxSteps := 2000000) (disch := first | omega | assumption | (simp only [go_sem] <;> first | omega | assumption | fail) | fail) only [go_sem]
          refine (rclean_meets E (sub s i (wordE [62] s i)) (by omega) _).ret ?_
          simp -dsimp -implicitDefEqProofs (maxSteps := 2000000) (disch := first | omega | assumption | (simp only [go_sem] <;> first | omega | assumption | fail) | fail) only [go_sem]
          refine (rall_meets E _ true (by omega) _).ret ?_
          simp -dsimp -implicitDefEqProofs (maxSteps := 2000000) (disch := first | omega | assumption | (simp only [go_sem] <;> first | omega | assumption | fail) | fail) only [go_sem]
          rw [hv]
          exact Fin.ret rfl rfl
        · have hv2 : valueR s r = ((allR (cleanL (sub s (i + 1) (findB s 39 (i + 1)))) true, decide (findB s 39 (i + 1) < s.length)), r.to (min (findB s 39 (i + 1) + 1) s.length)) := by
            rw [hv, if_neg (by rintro ⟨a, b⟩; exact b h4)]
            simp only [bAt, h4]
          have hb2 := find_bd (s := s) (c := 39) (i := i + 1) (by omega)
          have hX := nth_set H n (rdBox s (r.to i)) hlt
          refine Meets.heq (H' := setn H n (rdBox s (r.to i))) (by first | rfl | simp -dsimp -implicitDefEqProofs (maxSteps := 2000000) (disch := first | omega | assumption | (simp only [go_sem] <;> first | omega | assumption | fail) | fail) only [go_sem]) (Meets.ret (rfind_meets E hX hs' 39 (i + 1) (by omega)) ?_)
          simp -dsimp -implicitDefEqProofs (maxSteps := 2000000) (disch := first | omega | assumption | (simp only [go_sem] <;> first | omega | assumption | fail) | fail) only [go_sem]
          generalize findB s 39 (i + 1) = e at hb2 hv2
          have hl : (sub s (i + 1) e).length ≤ s.length := by simp only [sub, List.length_take, List.length_drop]; omega
          have hc1 := cleanL_len (sub s (i + 1) e)
          repeat' (first | omega | refine And.intro ?_ ?_ | (refine (rclean_meets E (sub s (i + 1) e) (by omega) _).ret ?_; simp -dsimp -implicitDefEqProofs (maxSteps := 2000000) (disch := first | omega | assumption | (simp only [go_sem] <;> first | omega | assumption | fail) | fail) only [go_sem]) | (refine (rall_meets E _ true (by omega) _).ret ?_; simp -dsimp -implicitDefEqProofs (maxSteps := 2000000) (disch := first | omega | assumption | (simp only [go_sem] <;> first | omega | assumption | fail) | fail) only [go_sem]))
          all_goals
            rw [hv2]
            exact Fin.ret rfl rfl
      · have hv2 : valueR s r = ((allR (cleanL (sub s (i + 1) (findB s 34 (i + 1)))) true, decide (findB s 34 (i + 1) < s.length)), r.to (min (findB s 34 (i + 1) + 1) s.length)) := by
          rw [hv, if_neg (by rintro ⟨a, b⟩; exact a h3)]
          simp only [bAt, h3]
        have hb2 := find_bd (s := s) (c := 34) (i := i + 1) (by omega)
        have hX := nth_set H n (rdBox s (r.to i)) hlt
        refine Meets.heq (H' := setn H n (rdBox s (r.to i))) (by first | rfl | simp -dsimp -implicitDefEqProofs (maxSteps := 2000000) (disch := first | omega | assumption | (simp only [go_sem] <;> first | omega | assumption | fail) | fail) only [go_sem]) (Meets.ret (rfind_meets E hX hs' 34 (i + 1) (by omega)) ?_)
        simp -dsimp -implicitDefEqProofs (maxSteps := 2000000) (disch := first | omega | assumption | (simp only [go_sem] <;> first | omega | assumption | fail) | fail) only [go_sem]
        generalize findB s 34 (i + 1) = e at hb2 hv2
        have hl : (sub s (i + 1) e).length ≤ s.length := by simp only [sub, List.length_take, List.length_drop]; omega
        have hc1 := cleanL_len (sub s (i + 1) e)
        repeat' (first | omega | refine And.intro ?_ ?_ | (refine (rclean_meets E (sub s (i + 1) e) (by omega) _).ret ?_; simp -dsimp -implicitDefEqProofs (maxSteps := 2000000) (disch := first | omega | assumption | (simp only [go_sem] <;> first | omega | assumption | fail) | fail) only [go_sem]) | (refine (rall_meets E _ true (by omega) _).ret ?_; simp -dsimp -implicitDefEqProofs (maxSteps := 2000000) (disch := first | omega | assumption | (simp only [go_sem] <;> first | omega | assumption | fail) | fail) only [go_sem]))
        all_goals
          rw [hv2]
          exact Fin.ret rfl rfl
end
end Go.Proofs.YtdpjmfipgkblfaaGreatDoor
