/- Contracts of the document's answer for layer 6, by V: text alone, tags. -/
import Derived.Test.YtdpjmfipgkblfaaGreatDoorTokI
set_option linter.unusedSimpArgs false
namespace Go.Proofs.YtdpjmfipgkblfaaGreatDoor
open Go Go.V
attribute [local irreducible] vc vcL vcP vcI vcO stOp Loops condP bx bx2 Meets Back
section
variable {s : List UInt8} {r : Rd} {H : List Ent} {n : Nat}

attribute [local go_sem] a64 a64l a64r s64 s64l ite_min ite_max zlt_l zlt_r zle_l zle_r zeq len_eq byte_eq Nat.zero_le nth_set_ne List.forall_mem_cons all_nil isPl allSh_tok allSh_flt allNr_tok allNr_flt allSh_att allNr_att rdBox Rd.to Rd.fault dn_at dn_f dn_frm dn_text Nat.reduceAdd Nat.reduceSub Nat.reduceMul Nat.reduceLT Nat.reduceLeDiff Nat.reduceEqDiff Int.reduceEq Int.reduceLT Int.reduceLE
set_option maxRecDepth 20000 in
set_option maxHeartbeats 4000000 in
theorem rraw_meets6 (E : Env) (hn : nth H n = rdBox s r) (hs : s.length < 100000000) (hr : r.t.length < 536870912) (hk : r.at_ ≤ s.length) (name : List UInt8) (hnm : name.length < 400000000) (soft : Bool) :
    Meets E Tryz.prog 63 [.c (.ptr n 0 0), .d (.str name), .d (.bool soft)] H (Ret (.tup []) (setn H n (rdBox s (rawR s name soft r)))) := by
  have hlt := rd_lt hn
  have hs' : s.length < 1073741824 := by omega
  refine Meets.closed fun hc => ?_
  refine Meets.of_body mixed tok (plan := (fun | 1 => (.take 0 (.take 1 (.take 2 (.take 3 (.take 4 (.take 5 (.take 6 (.take 7 (.take 8 (.take 9 .done)))))))))) | 5 => (.take 0 (.take 1 (.take 2 (.take 3 (.take 4 (.take 5 (.take 6 (.take 7 (.take 8 (.take 9 (.one 10 (.take 11 .done)))))))))))) | _ => .done)) Tryz.func63 Tryz.call63 Tryz.ntmps63 Tryz.results63 rfl (by kernel_rfl) ?_
  simp -dsimp -implicitDefEqProofs (maxSteps := 2000000) (disch := first | omega | assumption | (simp only [go_sem] <;> first | omega | assumption | fail) | fail) only [go_sem, hn]
  refine Loops.on (α := Nat) (fun j => r.at_ ≤ j ∧ j ≤ s.length ∧ rawE s name r.at_ = rawE s name j) (fun j => s.length - j) (fun _ => []) (fun j => setn H n (rdBox s (r.to j))) r.at_ ⟨Nat.le_refl _, hk, rfl⟩ ?_ ?_
  · exact Goes.slots (by simp -dsimp -implicitDefEqProofs (maxSteps := 2000000) (disch := first | omega | assumption | (simp only [go_sem] <;> first | omega | assumption | fail) | fail) only [go_sem]) (setn_same hn (by simp [rdBox])).symm
  rintro j ⟨hj1, hj2, heq⟩
  simp -dsimp -implicitDefEqProofs (maxSteps := 2000000) (disch := first | omega | assumption | (simp only [go_sem] <;> first | omega | assumption | fail) | fail) only [go_sem]
  -- RAWBODY
  have hstep : (j < s.length) → (!(looksAt s j ([60, 47] ++ name) && (decide (j + 2 + name.length < s.length) && (blankB (bAt s (j + 2 + name.length)) || decide (bAt s (j + 2 + name.length) = 47) || decide (bAt s (j + 2 + name.length) = 62))))) = true → rawE s name r.at_ = rawE s name (j + 1) := fun h hq => heq.trans (scan_step h hq)
  (refine condP_intro (fun h => ?_) (fun h => ?_) <;> (try simp only [Bool.and_eq_true, Bool.or_eq_true, Bool.not_eq_true', Bool.not_eq_false', Bool.or_eq_false_iff, Bool.and_eq_false_imp, decide_eq_true_eq, decide_eq_false_iff_not, Bool.not_eq_true, Bool.not_eq_false, Int.ofNat_lt, Int.ofNat_le] at h) <;> simp -dsimp -implicitDefEqProofs (maxSteps := 2000000) (disch := first | omega | assumption | (simp only [go_sem] <;> first | omega | assumption | fail) | fail) only [go_sem, h])
  · (repeat (refine ⟨by first | omega | assumption | trivial | (simp only [List.length_take, List.length_map, List.length_append, List.length_cons, List.length_nil, List.length_drop]; omega), ?_⟩))
    have hX := nth_set H n (rdBox s (r.to j)) hlt
    refine Meets.heq (H' := setn H n (rdBox s (r.to j))) (by first | rfl | simp -dsimp -implicitDefEqProofs (maxSteps := 2000000) (disch := first | omega | assumption | (simp only [go_sem] <;> first | omega | assumption | fail) | fail) only [go_sem]) (Meets.ret (rlooks_meets E hX hs' hj2 (60 :: 47 :: name)) ?_)
    simp -dsimp -implicitDefEqProofs (maxSteps := 2000000) (disch := first | omega | assumption | (simp only [go_sem] <;> first | omega | assumption | fail) | fail) only [go_sem]
    (refine condP_intro (fun h1 => ?_) (fun h1 => ?_) <;> (try simp only [Bool.and_eq_true, Bool.or_eq_true, Bool.not_eq_true', Bool.not_eq_false', Bool.or_eq_false_iff, Bool.and_eq_false_imp, decide_eq_true_eq, decide_eq_false_iff_not, Bool.not_eq_true, Bool.not_eq_false, Int.ofNat_lt, Int.ofNat_le] at h1) <;> simp -dsimp -implicitDefEqProofs (maxSteps := 2000000) (disch := first | omega | assumption | (simp only [go_sem] <;> first | omega | assumption | fail) | fail) only [go_sem, h1])
    · (refine condP_intro (fun h2 => ?_) (fun h2 => ?_) <;> (try simp only [Bool.and_eq_true, Bool.or_eq_true, Bool.not_eq_true', Bool.not_eq_false', Bool.or_eq_false_iff, Bool.and_eq_false_imp, decide_eq_true_eq, decide_eq_false_iff_not, Bool.not_eq_true, Bool.not_eq_false, Int.ofNat_lt, Int.ofNat_le] at h2) <;> simp -dsimp -implicitDefEqProofs (maxSteps := 2000000) (disch := first | omega | assumption | (simp only [go_sem] <;> first | omega | assumption | fail) | fail) only [go_sem, h2])
      · (repeat (refine ⟨by first | omega | assumption | trivial | (simp only [List.length_take, List.length_map, List.length_append, List.length_cons, List.length_nil, List.length_drop]; omega), ?_⟩))
        refine (rblank_meets E _ _).ret ?_
        simp -dsimp -implicitDefEqProofs (maxSteps := 2000000) (disch := first | omega | assumption | (simp only [go_sem] <;> first | omega | assumption | fail) | fail) only [go_sem]
        (refine condP_intro (fun h3 => ?_) (fun h3 => ?_) <;> (try simp only [Bool.and_eq_true, Bool.or_eq_true, Bool.not_eq_true', Bool.not_eq_false', Bool.or_eq_false_iff, Bool.and_eq_false_imp, decide_eq_true_eq, decide_eq_false_iff_not, Bool.not_eq_true, Bool.not_eq_false, Int.ofNat_lt, Int.ofNat_le] at h3) <;> simp -dsimp -implicitDefEqProofs (maxSteps := 2000000) (disch := first | omega | assumption | (simp only [go_sem] <;> first | omega | assumption | fail) | fail) only [go_sem, h3])
        · (repeat (refine ⟨by first | omega | assumption | trivial | (simp only [List.length_take, List.length_map, List.length_append, List.length_cons, List.length_nil, List.length_drop]; omega), ?_⟩))
          (refine condP_intro (fun h4 => ?_) (fun h4 => ?_) <;> (try simp only [Bool.and_eq_true, Bool.or_eq_true, Bool.not_eq_true', Bool.not_eq_false', Bool.or_eq_false_iff, Bool.and_eq_false_imp, decide_eq_true_eq, decide_eq_false_iff_not, Bool.not_eq_true, Bool.not_eq_false, Int.ofNat_lt, Int.ofNat_le] at h4) <;> simp -dsimp -implicitDefEqProofs (maxSteps := 2000000) (disch := first | omega | assumption | (simp only [go_sem] <;> first | omega | assumption | fail) | fail) only [go_sem, h4])
          · (repeat (refine ⟨by first | omega | assumption | trivial | (simp only [List.length_take, List.length_map, List.length_append, List.length_cons, List.length_nil, List.length_drop]; omega), ?_⟩))
            (refine condP_intro (fun h5 => ?_) (fun h5 => ?_) <;> (try simp only [Bool.and_eq_true, Bool.or_eq_true, Bool.not_eq_true', Bool.not_eq_false', Bool.or_eq_false_iff, Bool.and_eq_false_imp, decide_eq_true_eq, decide_eq_false_iff_not, Bool.not_eq_true, Bool.not_eq_false, Int.ofNat_lt, Int.ofNat_le] at h5) <;> simp -dsimp -implicitDefEqProofs (maxSteps := 2000000) (disch := first | omega | assumption | (simp only [go_sem] <;> first | omega | assumption | fail) | fail) only [go_sem, h5])
            · have he : rawE s name r.at_ = j := heq.trans (scan_stop fun _ => by simp only [blankB, bAt, List.cons_append, List.nil_append, Nat.add_assoc, h1, decide_eq_true (show j + (2 + name.length) < s.length by omega), h3, h5, decide_true, Bool.or_true]; rfl)
              have hd0 : rawR s name soft r = if (if soft = true then allR (cleanL (sub s r.at_ j)) false else cleanL (sub s r.at_ j)) = [] then r.to j else (r.to j).tok ⟨3, [], [], false, if soft = true then allR (cleanL (sub s r.at_ j)) false else cleanL (sub s r.at_ j), r.at_⟩ := by simp only [rawR, he]
              have hl : (sub s r.at_ j).length ≤ s.length := by simp only [sub, List.length_take, List.length_drop]; omega
              have hc1 := cleanL_len (sub s r.at_ j)
              (repeat (refine ⟨by first | omega | assumption | trivial | (simp only [List.length_take, List.length_map, List.length_append, List.length_cons, List.length_nil, List.length_drop]; omega), ?_⟩))
              refine (rclean_meets E (sub s r.at_ j) (by omega) _).ret ?_
              simp -dsimp -implicitDefEqProofs (maxSteps := 2000000) (disch := first | omega | assumption | (simp only [go_sem] <;> first | omega | assumption | fail) | fail) only [go_sem]
              (refine condP_intro (fun hsf => ?_) (fun hsf => ?_) <;> (try simp only [Bool.and_eq_true, Bool.or_eq_true, Bool.not_eq_true', Bool.not_eq_false', Bool.or_eq_false_iff, Bool.and_eq_false_imp, decide_eq_true_eq, decide_eq_false_iff_not, Bool.not_eq_true, Bool.not_eq_false, Int.ofNat_lt, Int.ofNat_le] at hsf) <;> simp -dsimp -implicitDefEqProofs (maxSteps := 2000000) (disch := first | omega | assumption | (simp only [go_sem] <;> first | omega | assumption | fail) | fail) only [go_sem, hsf])
              · have hres0 := hd0
                rw [if_pos hsf] at hres0
                refine (rall_meets E _ false (by omega) _).ret ?_
                simp -dsimp -implicitDefEqProofs (maxSteps := 2000000) (disch := first | omega | assumption | (simp only [go_sem] <;> first | omega | assumption | fail) | fail) only [go_sem]
                (refine condP_intro (fun hd => ?_) (fun hd => ?_) <;> (try simp only [Bool.and_eq_true, Bool.or_eq_true, Bool.not_eq_true', Bool.not_eq_false', Bool.or_eq_false_iff, Bool.and_eq_false_imp, decide_eq_true_eq, decide_eq_false_iff_not, Bool.not_eq_true, Bool.not_eq_false, Int.ofNat_lt, Int.ofNat_le] at hd) <;> simp -dsimp -implicitDefEqProofs (maxSteps := 2000000) (disch := first | omega | assumption | (simp only [go_sem] <;> first | omega | assumption | fail) | fail) only [go_sem, hd])
                · have hres := hres0.trans (if_neg hd)
                  repeat' (first | omega | refine And.intro ?_ ?_ | (intro c hcap))
                  (refine Fin.pack n ?_; simp -dsimp -implicitDefEqProofs (maxSteps := 2000000) (disch := first | omega | assumption | (simp only [go_sem] <;> first | omega | assumption | fail) | fail) only [go_sem]; refine ⟨by omega, by assumption, tokNil ⟨3, [], [], false, _, r.at_⟩ rfl (cutSet hc (below_box (by simp -dsimp -implicitDefEqProofs (maxSteps := 2000000) (disch := first | omega | assumption | (simp only [go_sem] <;> first | omega | assumption | fail) | fail) only [go_sem])) ⟨rfl, ?_⟩)⟩; rw [hres]; simp only [rdBox, Rd.tok, Rd.to, Rd.fault, dn_at, dn_f, dn_frm, dn_text, List.map_append, List.length_append, List.map_cons, List.map_nil, List.length_cons, List.length_nil, Nat.zero_add]; (try rfl))
                · have hres := hres0.trans (if_pos hd)
                  exact Fin.ret rfl (by rw [hres] <;> rfl)
              · have hres0 : rawR s name soft r = if cleanL (sub s r.at_ j) = [] then r.to j else (r.to j).tok ⟨3, [], [], false, cleanL (sub s r.at_ j), r.at_⟩ := hd0.trans (by simp only [hsf, Bool.false_eq_true, if_false])
                (refine condP_intro (fun hd => ?_) (fun hd => ?_) <;> (try simp only [Bool.and_eq_true, Bool.or_eq_true, Bool.not_eq_true', Bool.not_eq_false', Bool.or_eq_false_iff, Bool.and_eq_false_imp, decide_eq_true_eq, decide_eq_false_iff_not, Bool.not_eq_true, Bool.not_eq_false, Int.ofNat_lt, Int.ofNat_le] at hd) <;> simp -dsimp -implicitDefEqProofs (maxSteps := 2000000) (disch := first | omega | assumption | (simp only [go_sem] <;> first | omega | assumption | fail) | fail) only [go_sem, hd])
                · have hres := hres0.trans (if_neg hd)
                  repeat' (first | omega | refine And.intro ?_ ?_ | (intro c hcap))
                  (refine Fin.pack n ?_; simp -dsimp -implicitDefEqProofs (maxSteps := 2000000) (disch := first | omega | assumption | (simp only [go_sem] <;> first | omega | assumption | fail) | fail) only [go_sem]; refine ⟨by omega, by assumption, tokNil ⟨3, [], [], false, _, r.at_⟩ rfl (cutSet hc (below_box (by simp -dsimp -implicitDefEqProofs (maxSteps := 2000000) (disch := first | omega | assumption | (simp only [go_sem] <;> first | omega | assumption | fail) | fail) only [go_sem])) ⟨rfl, ?_⟩)⟩; rw [hres]; simp only [rdBox, Rd.tok, Rd.to, Rd.fault, dn_at, dn_f, dn_frm, dn_text, List.map_append, List.length_append, List.map_cons, List.map_nil, List.length_cons, List.length_nil, Nat.zero_add]; (try rfl))
                · have hres := hres0.trans (if_pos hd)
                  exact Fin.ret rfl (by rw [hres] <;> rfl)
            · refine Back.mk (j + 1) ⟨⟨by omega, by omega, hstep h (by simp only [blankB, bAt, List.cons_append, List.nil_append, Nat.add_assoc, h1, decide_eq_true (show j + (2 + name.length) < s.length by omega), h3, decide_eq_false h4, decide_eq_false h5]; rfl)⟩, by omega⟩ (Goes.slots (by simp -dsimp -implicitDefEqProofs (maxSteps := 2000000) (disch := first | omega | assumption | (simp only [go_sem] <;> first | omega | assumption | fail) | fail) only [go_sem]) rfl)
          · have he : rawE s name r.at_ = j := heq.trans (scan_stop fun _ => by simp only [blankB, bAt, List.cons_append, List.nil_append, Nat.add_assoc, h1, decide_eq_true (show j + (2 + name.length) < s.length by omega), h3, h4, decide_true]; rfl)
            have hd0 : rawR s name soft r = if (if soft = true then allR (cleanL (sub s r.at_ j)) false else cleanL (sub s r.at_ j)) = [] then r.to j else (r.to j).tok ⟨3, [], [], false, if soft = true then allR (cleanL (sub s r.at_ j)) false else cleanL (sub s r.at_ j), r.at_⟩ := by simp only [rawR, he]
            have hl : (sub s r.at_ j).length ≤ s.length := by simp only [sub, List.length_take, List.length_drop]; omega
            have hc1 := cleanL_len (sub s r.at_ j)
            (repeat (refine ⟨by first | omega | assumption | trivial | (simp only [List.length_take, List.length_map, List.length_append, List.length_cons, List.length_nil, List.length_drop]; omega), ?_⟩))
            refine (rclean_meets E (sub s r.at_ j) (by omega) _).ret ?_
            simp -dsimp -implicitDefEqProofs (maxSteps := 2000000) (disch := first | omega | assumption | (simp only [go_sem] <;> first | omega | assumption | fail) | fail) only [go_sem]
            (refine condP_intro (fun hsf => ?_) (fun hsf => ?_) <;> (try simp only [Bool.and_eq_true, Bool.or_eq_true, Bool.not_eq_true', Bool.not_eq_false', Bool.or_eq_false_iff, Bool.and_eq_false_imp, decide_eq_true_eq, decide_eq_false_iff_not, Bool.not_eq_true, Bool.not_eq_false, Int.ofNat_lt, Int.ofNat_le] at hsf) <;> simp -dsimp -implicitDefEqProofs (maxSteps := 2000000) (disch := first | omega | assumption | (simp only [go_sem] <;> first | omega | assumption | fail) | fail) only [go_sem, hsf])
            · have hres0 := hd0
              rw [if_pos hsf] at hres0
              refine (rall_meets E _ false (by omega) _).ret ?_
              simp -dsimp -implicitDefEqProofs (maxSteps := 2000000) (disch := first | omega | assumption | (simp only [go_sem] <;> first | omega | assumption | fail) | fail) only [go_sem]
              (refine condP_intro (fun hd => ?_) (fun hd => ?_) <;> (try simp only [Bool.and_eq_true, Bool.or_eq_true, Bool.not_eq_true', Bool.not_eq_false', Bool.or_eq_false_iff, Bool.and_eq_false_imp, decide_eq_true_eq, decide_eq_false_iff_not, Bool.not_eq_true, Bool.not_eq_false, Int.ofNat_lt, Int.ofNat_le] at hd) <;> simp -dsimp -implicitDefEqProofs (maxSteps := 2000000) (disch := first | omega | assumption | (simp only [go_sem] <;> first | omega | assumption | fail) | fail) only [go_sem, hd])
              · have hres := hres0.trans (if_neg hd)
                repeat' (first | omega | refine And.intro ?_ ?_ | (intro c hcap))
                (refine Fin.pack n ?_; simp -dsimp -implicitDefEqProofs (maxSteps := 2000000) (disch := first | omega | assumption | (simp only [go_sem] <;> first | omega | assumption | fail) | fail) only [go_sem]; refine ⟨by omega, by assumption, tokNil ⟨3, [], [], false, _, r.at_⟩ rfl (cutSet hc (below_box (by simp -dsimp -implicitDefEqProofs (maxSteps := 2000000) (disch := first | omega | assumption | (simp only [go_sem] <;> first | omega | assumption | fail) | fail) only [go_sem])) ⟨rfl, ?_⟩)⟩; rw [hres]; simp only [rdBox, Rd.tok, Rd.to, Rd.fault, dn_at, dn_f, dn_frm, dn_text, List.map_append, List.length_append, List.map_cons, List.map_nil, List.length_cons, List.length_nil, Nat.zero_add]; (try rfl))
              · have hres := hres0.trans (if_pos hd)
                exact Fin.ret rfl (by rw [hres] <;> rfl)
            · have hres0 : rawR s name soft r = if cleanL (sub s r.at_ j) = [] then r.to j else (r.to j).tok ⟨3, [], [], false, cleanL (sub s r.at_ j), r.at_⟩ := hd0.trans (by simp only [hsf, Bool.false_eq_true, if_false])
              (refine condP_intro (fun hd => ?_) (fun hd => ?_) <;> (try simp only [Bool.and_eq_true, Bool.or_eq_true, Bool.not_eq_true', Bool.not_eq_false', Bool.or_eq_false_iff, Bool.and_eq_false_imp, decide_eq_true_eq, decide_eq_false_iff_not, Bool.not_eq_true, Bool.not_eq_false, Int.ofNat_lt, Int.ofNat_le] at hd) <;> simp -dsimp -implicitDefEqProofs (maxSteps := 2000000) (disch := first | omega | assumption | (simp only [go_sem] <;> first | omega | assumption | fail) | fail) only [go_sem, hd])
              · have hres := hres0.trans (if_neg hd)
                repeat' (first | omega | refine And.intro ?_ ?_ | (intro c hcap))
                (refine Fin.pack n ?_; simp -dsimp -implicitDefEqProofs (maxSteps := 2000000) (disch := first | omega | assumption | (simp only [go_sem] <;> first | omega | assumption | fail) | fail) only [go_sem]; refine ⟨by omega, by assumption, tokNil ⟨3, [], [], false, _, r.at_⟩ rfl (cutSet hc (below_box (by simp -dsimp -implicitDefEqProofs (maxSteps := 2000000) (disch := first | omega | assumption | (simp only [go_sem] <;> first | omega | assumption | fail) | fail) only [go_sem])) ⟨rfl, ?_⟩)⟩; rw [hres]; simp only [rdBox, Rd.tok, Rd.to, Rd.fault, dn_at, dn_f, dn_frm, dn_text, List.map_append, List.length_append, List.map_cons, List.map_nil, List.length_cons, List.length_nil, Nat.zero_add]; (try rfl))
              · have hres := hres0.trans (if_pos hd)
                exact Fin.ret rfl (by rw [hres] <;> rfl)
        · have he : rawE s name r.at_ = j := heq.trans (scan_stop fun _ => by simp only [blankB, bAt, List.cons_append, List.nil_append, Nat.add_assoc, h1, decide_eq_true (show j + (2 + name.length) < s.length by omega), h3]; rfl)
          have hd0 : rawR s name soft r = if (if soft = true then allR (cleanL (sub s r.at_ j)) false else cleanL (sub s r.at_ j)) = [] then r.to j else (r.to j).tok ⟨3, [], [], false, if soft = true then allR (cleanL (sub s r.at_ j)) false else cleanL (sub s r.at_ j), r.at_⟩ := by simp only [rawR, he]
          have hl : (sub s r.at_ j).length ≤ s.length := by simp only [sub, List.length_take, List.length_drop]; omega
          have hc1 := cleanL_len (sub s r.at_ j)
          (repeat (refine ⟨by first | omega | assumption | trivial | (simp only [List.length_take, List.length_map, List.length_append, List.length_cons, List.length_nil, List.length_drop]; omega), ?_⟩))
          refine (rclean_meets E (sub s r.at_ j) (by omega) _).ret ?_
          simp -dsimp -implicitDefEqProofs (maxSteps := 2000000) (disch := first | omega | assumption | (simp only [go_sem] <;> first | omega | assumption | fail) | fail) only [go_sem]
          (refine condP_intro (fun hsf => ?_) (fun hsf => ?_) <;> (try simp only [Bool.and_eq_true, Bool.or_eq_true, Bool.not_eq_true', Bool.not_eq_false', Bool.or_eq_false_iff, Bool.and_eq_false_imp, decide_eq_true_eq, decide_eq_false_iff_not, Bool.not_eq_true, Bool.not_eq_false, Int.ofNat_lt, Int.ofNat_le] at hsf) <;> simp -dsimp -implicitDefEqProofs (maxSteps := 2000000) (disch := first | omega | assumption | (simp only [go_sem] <;> first | omega | assumption | fail) | fail) only [go_sem, hsf])
          · have hres0 := hd0
            rw [if_pos hsf] at hres0
            refine (rall_meets E _ false (by omega) _).ret ?_
            simp -dsimp -implicitDefEqProofs (maxSteps := 2000000) (disch := first | omega | assumption | (simp only [go_sem] <;> first | omega | assumption | fail) | fail) only [go_sem]
            (refine condP_intro (fun hd => ?_) (fun hd => ?_) <;> (try simp only [Bool.and_eq_true, Bool.or_eq_true, Bool.not_eq_true', Bool.not_eq_false', Bool.or_eq_false_iff, Bool.and_eq_false_imp, decide_eq_true_eq, decide_eq_false_iff_not, Bool.not_eq_true, Bool.not_eq_false, Int.ofNat_lt, Int.ofNat_le] at hd) <;> simp -dsimp -implicitDefEqProofs (maxSteps := 2000000) (disch := first | omega | assumption | (simp only [go_sem] <;> first | omega | assumption | fail) | fail) only [go_sem, hd])
            · have hres := hres0.trans (if_neg hd)
              repeat' (first | omega | refine And.intro ?_ ?_ | (intro c hcap))
              (refine Fin.pack n ?_; simp -dsimp -implicitDefEqProofs (maxSteps := 2000000) (disch := first | omega | assumption | (simp only [go_sem] <;> first | omega | assumption | fail) | fail) only [go_sem]; refine ⟨by omega, by assumption, tokNil ⟨3, [], [], false, _, r.at_⟩ rfl (cutSet hc (below_box (by simp -dsimp -implicitDefEqProofs (maxSteps := 2000000) (disch := first | omega | assumption | (simp only [go_sem] <;> first | omega | assumption | fail) | fail) only [go_sem])) ⟨rfl, ?_⟩)⟩; rw [hres]; simp only [rdBox, Rd.tok, Rd.to, Rd.fault, dn_at, dn_f, dn_frm, dn_text, List.map_append, List.length_append, List.map_cons, List.map_nil, List.length_cons, List.length_nil, Nat.zero_add]; (try rfl))
            · have hres := hres0.trans (if_pos hd)
              exact Fin.ret rfl (by rw [hres] <;> rfl)
          · have hres0 : rawR s name soft r = if cleanL (sub s r.at_ j) = [] then r.to j else (r.to j).tok ⟨3, [], [], false, cleanL (sub s r.at_ j), r.at_⟩ := hd0.trans (by simp only [hsf, Bool.false_eq_true, if_false])
            (refine condP_intro (fun hd => ?_) (fun hd => ?_) <;> (try simp only [Bool.and_eq_true, Bool.or_eq_true, Bool.not_eq_true', Bool.not_eq_false', Bool.or_eq_false_iff, Bool.and_eq_false_imp, decide_eq_true_eq, decide_eq_false_iff_not, Bool.not_eq_true, Bool.not_eq_false, Int.ofNat_lt, Int.ofNat_le] at hd) <;> simp -dsimp -implicitDefEqProofs (maxSteps := 2000000) (disch := first | omega | assumption | (simp only [go_sem] <;> first | omega | assumption | fail) | fail) only [go_sem, hd])
            · have hres := hres0.trans (if_neg hd)
              repeat' (first | omega | refine And.intro ?_ ?_ | (intro c hcap))
              (refine Fin.pack n ?_; simp -dsimp -implicitDefEqProofs (maxSteps := 2000000) (disch := first | omega | assumption | (simp only [go_sem] <;> first | omega | assumption | fail) | fail) only [go_sem]; refine ⟨by omega, by assumption, tokNil ⟨3, [], [], false, _, r.at_⟩ rfl (cutSet hc (below_box (by simp -dsimp -implicitDefEqProofs (maxSteps := 2000000) (disch := first | omega | assumption | (simp only [go_sem] <;> first | omega | assumption | fail) | fail) only [go_sem])) ⟨rfl, ?_⟩)⟩; rw [hres]; simp only [rdBox, Rd.tok, Rd.to, Rd.fault, dn_at, dn_f, dn_frm, dn_text, List.map_append, List.length_append, List.map_cons, List.map_nil, List.length_cons, List.length_nil, Nat.zero_add]; (try rfl))
            · have hres := hres0.trans (if_pos hd)
              exact Fin.ret rfl (by rw [hres] <;> rfl)
      · refine Back.mk (j + 1) ⟨⟨by omega, by omega, hstep h (by simp only [blankB, bAt, List.cons_append, List.nil_append, Nat.add_assoc, h1, decide_eq_false (show ¬ j + (2 + name.length) < s.length by omega)]; rfl)⟩, by omega⟩ (Goes.slots (by simp -dsimp -implicitDefEqProofs (maxSteps := 2000000) (disch := first | omega | assumption | (simp only [go_sem] <;> first | omega | assumption | fail) | fail) only [go_sem]) rfl)
    · refine Back.mk (j + 1) ⟨⟨by omega, by omega, hstep h (by simp only [blankB, bAt, List.cons_append, List.nil_append, Nat.add_assoc, h1]; rfl)⟩, by omega⟩ (Goes.slots (by simp -dsimp -implicitDefEqProofs (maxSteps := 2000000) (disch := first | omega | assumption | (simp only [go_sem] <;> first | omega | assumption | fail) | fail) only [go_sem]) rfl)
  · obtain rfl : j = s.length := by omega
    have he : rawE s name r.at_ = s.length := heq.trans (scan_stop fun hl => absurd hl h)
    have hd0 : rawR s name soft r = if (if soft = true then allR (cleanL (sub s r.at_ s.length)) false else cleanL (sub s r.at_ s.length)) = [] then r.to s.length else (r.to s.length).tok ⟨3, [], [], false, if soft = true then allR (cleanL (sub s r.at_ s.length)) false else cleanL (sub s r.at_ s.length), r.at_⟩ := by simp only [rawR, he]
    have hl : (sub s r.at_ s.length).length ≤ s.length := by simp only [sub, List.length_take, List.length_drop]; omega
    have hc1 := cleanL_len (sub s r.at_ s.length)
    (repeat (refine ⟨by first | omega | assumption | trivial | (simp only [List.length_take, List.length_map, List.length_append, List.length_cons, List.length_nil, List.length_drop]; omega), ?_⟩))
    refine (rclean_meets E (sub s r.at_ s.length) (by omega) _).ret ?_
    simp -dsimp -implicitDefEqProofs (maxSteps := 2000000) (disch := first | omega | assumption | (simp only [go_sem] <;> first | omega | assumption | fail) | fail) only [go_sem]
    (refine condP_intro (fun hsf => ?_) (fun hsf => ?_) <;> (try simp only [Bool.and_eq_true, Bool.or_eq_true, Bool.not_eq_true', Bool.not_eq_false', Bool.or_eq_false_iff, Bool.and_eq_false_imp, decide_eq_true_eq, decide_eq_false_iff_not, Bool.not_eq_true, Bool.not_eq_false, Int.ofNat_lt, Int.ofNat_le] at hsf) <;> simp -dsimp -implicitDefEqProofs (maxSteps := 2000000) (disch := first | omega | assumption | (simp only [go_sem] <;> first | omega | assumption | fail) | fail) only [go_sem, hsf])
    · have hres0 := hd0
      rw [if_pos hsf] at hres0
      refine (rall_meets E _ false (by omega) _).ret ?_
      simp -dsimp -implicitDefEqProofs (maxSteps := 2000000) (disch := first | omega | assumption | (simp only [go_sem] <;> first | omega | assumption | fail) | fail) only [go_sem]
      (refine condP_intro (fun hd => ?_) (fun hd => ?_) <;> (try simp only [Bool.and_eq_true, Bool.or_eq_true, Bool.not_eq_true', Bool.not_eq_false', Bool.or_eq_false_iff, Bool.and_eq_false_imp, decide_eq_true_eq, decide_eq_false_iff_not, Bool.not_eq_true, Bool.not_eq_false, Int.ofNat_lt, Int.ofNat_le] at hd) <;> simp -dsimp -implicitDefEqProofs (maxSteps := 2000000) (disch := first | omega | assumption | (simp only [go_sem] <;> first | omega | assumption | fail) | fail) only [go_sem, hd])
      · have hres := hres0.trans (if_neg hd)
        repeat' (first | omega | refine And.intro ?_ ?_ | (intro c hcap))
        (refine Fin.pack n ?_; simp -dsimp -implicitDefEqProofs (maxSteps := 2000000) (disch := first | omega | assumption | (simp only [go_sem] <;> first | omega | assumption | fail) | fail) only [go_sem]; refine ⟨by omega, by assumption, tokNil ⟨3, [], [], false, _, r.at_⟩ rfl (cutSet hc (below_box (by simp -dsimp -implicitDefEqProofs (maxSteps := 2000000) (disch := first | omega | assumption | (simp only [go_sem] <;> first | omega | assumption | fail) | fail) only [go_sem])) ⟨rfl, ?_⟩)⟩; rw [hres]; simp only [rdBox, Rd.tok, Rd.to, Rd.fault, dn_at, dn_f, dn_frm, dn_text, List.map_append, List.length_append, List.map_cons, List.map_nil, List.length_cons, List.length_nil, Nat.zero_add]; (try rfl))
      · have hres := hres0.trans (if_pos hd)
        exact Fin.ret rfl (by rw [hres] <;> rfl)
    · have hres0 : rawR s name soft r = if cleanL (sub s r.at_ s.length) = [] then r.to s.length else (r.to s.length).tok ⟨3, [], [], false, cleanL (sub s r.at_ s.length), r.at_⟩ := hd0.trans (by simp only [hsf, Bool.false_eq_true, if_false])
      (refine condP_intro (fun hd => ?_) (fun hd => ?_) <;> (try simp only [Bool.and_eq_true, Bool.or_eq_true, Bool.not_eq_true', Bool.not_eq_false', Bool.or_eq_false_iff, Bool.and_eq_false_imp, decide_eq_true_eq, decide_eq_false_iff_not, Bool.not_eq_true, Bool.not_eq_false, Int.ofNat_lt, Int.ofNat_le] at hd) <;> simp -dsimp -implicitDefEqProofs (maxSteps := 2000000) (disch := first | omega | assumption | (simp only [go_sem] <;> first | omega | assumption | fail) | fail) only [go_sem, hd])
      · have hres := hres0.trans (if_neg hd)
        repeat' (first | omega | refine And.intro ?_ ?_ | (intro c hcap))
        (refine Fin.pack n ?_; simp -dsimp -implicitDefEqProofs (maxSteps := 2000000) (disch := first | omega | assumption | (simp only [go_sem] <;> first | omega | assumption | fail) | fail) only [go_sem]; refine ⟨by omega, by assumption, tokNil ⟨3, [], [], false, _, r.at_⟩ rfl (cutSet hc (below_box (by simp -dsimp -implicitDefEqProofs (maxSteps := 2000000) (disch := first | omega | assumption | (simp only [go_sem] <;> first | omega | assumption | fail) | fail) only [go_sem])) ⟨rfl, ?_⟩)⟩; rw [hres]; simp only [rdBox, Rd.tok, Rd.to, Rd.fault, dn_at, dn_f, dn_frm, dn_text, List.map_append, List.length_append, List.map_cons, List.map_nil, List.length_cons, List.length_nil, Nat.zero_add]; (try rfl))
      · have hres := hres0.trans (if_pos hd)
        exact Fin.ret rfl (by rw [hres] <;> rfl)
-- RAWEND
end
end Go.Proofs.YtdpjmfipgkblfaaGreatDoor
