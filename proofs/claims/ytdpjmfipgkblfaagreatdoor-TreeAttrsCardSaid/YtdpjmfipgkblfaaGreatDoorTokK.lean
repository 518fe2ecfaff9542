/- Contracts of the document's answer for layer 6, by V: tags. -/
import Derived.Test.YtdpjmfipgkblfaaGreatDoorTokJ
set_option linter.unusedSimpArgs false
namespace Go.Proofs.YtdpjmfipgkblfaaGreatDoor
open Go Go.V
attribute [local irreducible] vc vcL vcP vcI vcO stOp Loops condP bx bx2 Meets Back
section
variable {s : List UInt8} {r : Rd} {H : List Ent} {n : Nat}

/-- The tag that is read, in its box. -/
def tagBox (kind p : Nat) (name : List UInt8) (l : List Att) (self : Bool) : Ent := .box 43 [.int .u8 kind, .str name, .own 41 2 l.length (at2 (l.map encAtt)), .bool self, .str [], .int .i64 p]
theorem Back.rn' {E : Env} {N0 N : Nat} {α : Type} {Iv : α → Prop} {μ : α → Nat} {f : α → St} {x : α} {l : List AV} {A L : List Ent} (ix : List Nat) (hA : A.length = N) (hN : N0 ≤ N) (hc : Closed N A) (hix : rnOk N ix) (hrow : rowsNr (ix.map (nth (A ++ L))))
    (h : Back E N0 Iv μ f x ⟨l.map (mapA (rnC N ix)), A ++ (ix.map (nth (A ++ L))).map (rnE N ix)⟩) : Back E N0 Iv μ f x ⟨l, A ++ L⟩ := by
  subst hA
  exact Back.rn ix hN hc hix hrow h
theorem frz_atts (l : List Att) : (fun k f => (at2 (l.map encAtt) k f).frz) = at2 (l.map encAtt) := by
  funext k f
  simp only [at2, List.getD, List.getElem?_map]
  cases l[k]? with
  | none => rfl
  | some a => match f with
    | 0 => rfl
    | 1 => rfl
    | f + 2 => rfl
def slashE (s : List UInt8) (i j : Nat) : Bool := decide (i < j) && decide (bAt s (j - 1) = 47)
attribute [local go_sem] a64 a64l a64r s64 s64l ite_min ite_max zlt_l zlt_r zle_l zle_r zeq len_eq byte_eq Nat.zero_le nth_set_ne List.forall_mem_cons all_nil isPl allSh_tok allSh_flt allNr_tok allNr_flt allSh_att allNr_att rdBox tagBox Rd.to Rd.fault dn_at dn_f dn_frm dn_text Nat.reduceAdd Nat.reduceSub Nat.reduceMul Nat.reduceLT Nat.reduceLeDiff Nat.reduceEqDiff Int.reduceEq Int.reduceLT Int.reduceLE
set_option maxRecDepth 20000 in
set_option maxHeartbeats 8000000 in
theorem rtag_meets (E : Env) (hn : nth H n = rdBox s r) (hs : s.length < 100000000) (hr : r.t.length < 500000000) (hr2 : r.text.length < 1073741824) (hr3 : r.f.length < 100000000) (kind k : Nat) (hk2 : kind < 256) (hk : r.at_ + k ≤ s.length) :
    Meets E Tryz.prog 37 [.c (.ptr n 0 0), .d (.int .u8 kind), .d (.int .i64 k)] H (Ret (.tup []) (setn H n (rdBox s (tagR s kind k r)))) := by
  have hlt := rd_lt hn
  have hs' : s.length < 1073741824 := by omega
  refine Meets.closed fun hc => ?_
  refine Meets.of_body mixed tok (plan := (fun | 5 => (.take 0 (.take 1 (.take 2 (.take 3 (.take 4 (.take 5 (.take 6 (.take 7 (.take 8 (.take 9 (.take 10 (.take 11 (.take 12 (.take 13 (.take 14 (.take 15 (.take 16 (.take 17 (.take 18 (.take 19 (.one 20 (.take 21 (.take 22 (.take 23 (.take 24 (.take 25 (.take 26 (.take 27 (.take 28 (.take 29 (.take 30 (.take 31 (.take 32 (.take 33 .done)))))))))))))))))))))))))))))))))) | 6 => (.take 0 (.take 1 (.take 2 (.take 3 (.take 4 (.take 5 (.take 6 (.take 7 (.take 8 (.take 9 (.take 10 .done))))))))))) | 8 => (.take 0 (.take 1 (.take 2 (.take 3 (.take 4 (.take 5 (.take 6 (.take 7 (.take 8 (.take 9 .done)))))))))) | 10 => (.take 0 (.take 1 (.take 2 (.take 3 (.take 4 (.take 5 (.take 6 (.take 7 (.take 8 (.take 9 .done)))))))))) | 21 => (.take 0 (.take 1 (.take 2 (.take 3 (.take 4 (.take 5 (.one 6 (.one 7 (.take 8 (.take 9 (.one 10 .done))))))))))) | _ => .done)) Tryz.func37 Tryz.call37 Tryz.ntmps37 Tryz.results37 rfl (by kernel_rfl) ?_
  simp -dsimp -implicitDefEqProofs (maxSteps := 2000000) (disch := first | omega | assumption | (simp only [go_sem] <;> first | omega | assumption | fail) | fail) only [go_sem, frz_atts]
  refine (rdone_meets E hn (by omega) hr2).ret ?_
  simp -dsimp -implicitDefEqProofs (maxSteps := 2000000) (disch := first | omega | assumption | (simp only [go_sem] <;> first | omega | assumption | fail) | fail) only [go_sem, frz_atts]
  have hd := dn_len r
  have hw := word_bd (e := [47, 62]) hk
  have hg0 := tagF_grows (s := s) (s.length + 1) [] (r.done.to (wordE [47, 62] s (r.at_ + k))) hw.2 (by simp)
  have hT : ∀ q, tagF s (s.length + 1) [] (r.done.to (wordE [47, 62] s (r.at_ + k))) = q → tagR s kind k r = match q with
      | (none, r') => r'
      | (some (l, self), r') =>
        if kind = 1 ∧ (softs.contains (nameR [47, 62] s (r.at_ + k)) = true ∨ raws.contains (nameR [47, 62] s (r.at_ + k)) = true) then rawR s (nameR [47, 62] s (r.at_ + k)) (softs.contains (nameR [47, 62] s (r.at_ + k))) (r'.tok (if kind = 2 then ⟨kind, nameR [47, 62] s (r.at_ + k), [], false, [], r.at_⟩ else ⟨kind, nameR [47, 62] s (r.at_ + k), l, self, [], r.at_⟩)) else r'.tok (if kind = 2 then ⟨kind, nameR [47, 62] s (r.at_ + k), [], false, [], r.at_⟩ else ⟨kind, nameR [47, 62] s (r.at_ + k), l, self, [], r.at_⟩) := fun q h => by
    rw [← h]
    unfold tagR
    rfl
  have hnm2 : (nameR [47, 62] s (r.at_ + k)).length ≤ 3 * s.length := by
    have h1 := cleanL_len (lowerL (sub s (r.at_ + k) (wordE [47, 62] s (r.at_ + k))))
    simp only [nameR]
    simp only [lowerL, List.length_map, sub, List.length_take, List.length_drop] at h1 ⊢
    omega
  have hX : nth (setn H n (rdBox s (r.done.to (r.at_ + k))) ++ [.box 43 [.int .u8 kind, .str [], .nil 41 2, .bool false, .str [], .int .i64 r.at_]]) n = rdBox s (r.done.to (r.at_ + k)) := by rw [nth_app_lt _ _ _ (by rw [setn_length]; exact hlt)]; exact nth_set _ _ _ hlt
  refine Meets.heq (H' := setn H n (rdBox s (r.done.to (r.at_ + k))) ++ [.box 43 [.int .u8 kind, .str [], .nil 41 2, .bool false, .str [], .int .i64 r.at_]]) (by first | rfl | simp -dsimp -implicitDefEqProofs (maxSteps := 2000000) (disch := first | omega | assumption | (simp only [go_sem] <;> first | omega | assumption | fail) | fail) only [go_sem, frz_atts]) (Meets.ret (rname_meets E hX hs' hk [47, 62] (by decide)) ?_)
  simp -dsimp -implicitDefEqProofs (maxSteps := 2000000) (disch := first | omega | assumption | (simp only [go_sem] <;> first | omega | assumption | fail) | fail) only [go_sem, frz_atts]
  generalize hname : nameR [47, 62] s (r.at_ + k) = name at hT hnm2
  have hw1 : r.at_ + k ≤ wordE [47, 62] s (r.at_ + k) := hw.1
  have hw2 := hw.2
  have hg1 := hg0.1.f
  have hg2 := hg0.1.hi
  clear hg0
  generalize hr0 : r.done.to (wordE [47, 62] s (r.at_ + k)) = r0 at hT
  have e1 : r0.at_ = wordE [47, 62] s (r.at_ + k) := by rw [← hr0]; rfl
  have e2 : r0.t = r.done.t := by rw [← hr0]; rfl
  have e3 : r0.f = r.f := by rw [← hr0]; rfl
  have e4 : r0.text = [] := by rw [← hr0]; rfl
  have e5 : r0.frm = r.frm := by rw [← hr0]; rfl
  refine Loops.on (α := Nat × List Att × Rd) (fun q => q.2.2.at_ ≤ s.length ∧ q.2.1.length ≤ 50 ∧ s.length + 1 - q.2.2.at_ ≤ q.1 ∧ tagF s (s.length + 1) [] r0 = tagF s q.1 q.2.1 q.2.2 ∧ q.2.2.t = r.done.t ∧ q.2.2.text = [] ∧ q.2.2.f.length ≤ r.f.length + 3 * q.2.2.at_) (fun q => s.length - q.2.2.at_) (fun _ => []) (fun q => setn H n (rdBox s q.2.2) ++ [tagBox kind r.at_ name q.2.1 false]) (s.length + 1, [], r0) ⟨by rw [e1]; exact hw2, by simp, by simp, rfl, e2, e4, by rw [e3]; omega⟩ ?_ ?_
  · refine Goes.pack H.length ?_
    simp -dsimp -implicitDefEqProofs (maxSteps := 2000000) (disch := first | omega | assumption | (simp only [go_sem] <;> first | omega | assumption | fail) | fail) only [go_sem, frz_atts]
    refine Goes.slots (by simp -dsimp -implicitDefEqProofs (maxSteps := 2000000) (disch := first | omega | assumption | (simp only [go_sem] <;> first | omega | assumption | fail) | fail) only [go_sem, frz_atts]) ?_
    rw [e1, e2, e3, e4, e5]
    rfl
  rintro ⟨fu, l, r1⟩ ⟨h1, h2, h3, h4, h5, h6, h7⟩
  simp only at h1 h2 h3 h4 h5 h6 h7
  obtain ⟨fu, rfl⟩ : ∃ fu', fu = fu' + 1 := ⟨fu - 1, by omega⟩
  simp -dsimp -implicitDefEqProofs (maxSteps := 2000000) (disch := first | omega | assumption | (simp only [go_sem] <;> first | omega | assumption | fail) | fail) only [go_sem, frz_atts]
  refine Loops.on (α := Nat) (fun j => r1.at_ ≤ j ∧ j ≤ s.length ∧ spaceE s r1.at_ = spaceE s j) (fun j => s.length - j) (fun j => [(7, .d (.bool (slashE s r1.at_ j)))]) (fun j => setn H n (rdBox s (r1.to j)) ++ [tagBox kind r.at_ name l false]) r1.at_ ⟨Nat.le_refl _, h1, rfl⟩ ?_ ?_
  · exact Goes.slots (by simp -dsimp -implicitDefEqProofs (maxSteps := 2000000) (disch := first | omega | assumption | (simp only [go_sem] <;> first | omega | assumption | fail) | fail) only [go_sem, frz_atts]; exact .same (bool_av (by simp [slashE]))) rfl
  rintro j ⟨hj1, hj2, heq⟩
  simp -dsimp -implicitDefEqProofs (maxSteps := 2000000) (disch := first | omega | assumption | (simp only [go_sem] <;> first | omega | assumption | fail) | fail) only [go_sem, frz_atts]
  (refine condP_intro (fun h8 => ?_) (fun h8 => ?_) <;> (try simp only [Bool.and_eq_true, Bool.or_eq_true, Bool.not_eq_true', Bool.not_eq_false', Bool.or_eq_false_iff, Bool.and_eq_false_imp, decide_eq_true_eq, decide_eq_false_iff_not, Bool.not_eq_true, Bool.not_eq_false, Int.ofNat_lt, Int.ofNat_le] at h8) <;> simp -dsimp -implicitDefEqProofs (maxSteps := 2000000) (disch := first | omega | assumption | (simp only [go_sem] <;> first | omega | assumption | fail) | fail) only [go_sem, frz_atts, h8])
  · refine (rblank_meets E _ _).ret ?_
    simp -dsimp -implicitDefEqProofs (maxSteps := 2000000) (disch := first | omega | assumption | (simp only [go_sem] <;> first | omega | assumption | fail) | fail) only [go_sem, frz_atts]
    (refine condP_intro (fun h9 => ?_) (fun h9 => ?_) <;> (try simp only [Bool.and_eq_true, Bool.or_eq_true, Bool.not_eq_true', Bool.not_eq_false', Bool.or_eq_false_iff, Bool.and_eq_false_imp, decide_eq_true_eq, decide_eq_false_iff_not, Bool.not_eq_true, Bool.not_eq_false, Int.ofNat_lt, Int.ofNat_le] at h9) <;> simp -dsimp -implicitDefEqProofs (maxSteps := 2000000) (disch := first | omega | assumption | (simp only [go_sem] <;> first | omega | assumption | fail) | fail) only [go_sem, frz_atts, h9])
    · (repeat (refine ⟨by first | omega | assumption | trivial | (simp only [List.length_take, List.length_map, List.length_append, List.length_cons, List.length_nil, List.length_drop]; omega), ?_⟩))
      (refine condP_intro (fun h10 => ?_) (fun h10 => ?_) <;> (try simp only [Bool.and_eq_true, Bool.or_eq_true, Bool.not_eq_true', Bool.not_eq_false', Bool.or_eq_false_iff, Bool.and_eq_false_imp, decide_eq_true_eq, decide_eq_false_iff_not, Bool.not_eq_true, Bool.not_eq_false, Int.ofNat_lt, Int.ofNat_le] at h10) <;> simp -dsimp -implicitDefEqProofs (maxSteps := 2000000) (disch := first | omega | assumption | (simp only [go_sem] <;> first | omega | assumption | fail) | fail) only [go_sem, frz_atts, h10])
      · (repeat (refine ⟨by first | omega | assumption | trivial | (simp only [List.length_take, List.length_map, List.length_append, List.length_cons, List.length_nil, List.length_drop]; omega), ?_⟩))
        refine Back.mk (j + 1) ⟨⟨by omega, by omega, heq.trans (scan_step h8 (by simp only [bAt, h10, decide_true, Bool.or_true]))⟩, by omega⟩ (Goes.slots (by simp -dsimp -implicitDefEqProofs (maxSteps := 2000000) (disch := first | omega | assumption | (simp only [go_sem] <;> first | omega | assumption | fail) | fail) only [go_sem, frz_atts]; exact .same (bool_av (by simp only [slashE, Nat.add_sub_cancel, bAt, h10]; rw [decide_eq_true (show r1.at_ < j + 1 by omega)]; rfl))) rfl)
      · have he : spaceE s r1.at_ = j := heq.trans (scan_stop fun _ => by simp only [blankB, bAt, h9, decide_eq_false h10]; rfl)
        (refine condP_intro (fun h11 => ?_) (fun h11 => ?_) <;> (try simp only [Bool.and_eq_true, Bool.or_eq_true, Bool.not_eq_true', Bool.not_eq_false', Bool.or_eq_false_iff, Bool.and_eq_false_imp, decide_eq_true_eq, decide_eq_false_iff_not, Bool.not_eq_true, Bool.not_eq_false, Int.ofNat_lt, Int.ofNat_le] at h11) <;> simp -dsimp -implicitDefEqProofs (maxSteps := 2000000) (disch := first | omega | assumption | (simp only [go_sem] <;> first | omega | assumption | fail) | fail) only [go_sem, frz_atts, h11])
        · omega
        (repeat (refine ⟨by first | omega | assumption | trivial | (simp only [List.length_take, List.length_map, List.length_append, List.length_cons, List.length_nil, List.length_drop]; omega), ?_⟩))
        (refine condP_intro (fun h12 => ?_) (fun h12 => ?_) <;> (try simp only [Bool.and_eq_true, Bool.or_eq_true, Bool.not_eq_true', Bool.not_eq_false', Bool.or_eq_false_iff, Bool.and_eq_false_imp, decide_eq_true_eq, decide_eq_false_iff_not, Bool.not_eq_true, Bool.not_eq_false, Int.ofNat_lt, Int.ofNat_le] at h12) <;> simp -dsimp -implicitDefEqProofs (maxSteps := 2000000) (disch := first | omega | assumption | (simp only [go_sem] <;> first | omega | assumption | fail) | fail) only [go_sem, frz_atts, h12])
        · have hq : tagF s (s.length + 1) [] r0 = (some (l, slashE s r1.at_ j), r1.to (j + 1)) := by
            rw [h4, tagF]
            simp only
            rw [he, if_neg h11, if_pos h12]
            rfl
          have hres := hT _ hq
          have hrt : r1.t.length < 500000002 := by rw [h5]; omega
          (refine condP_intro (fun hk3 => ?_) (fun hk3 => ?_) <;> (try simp only [Bool.and_eq_true, Bool.or_eq_true, Bool.not_eq_true', Bool.not_eq_false', Bool.or_eq_false_iff, Bool.and_eq_false_imp, decide_eq_true_eq, decide_eq_false_iff_not, Bool.not_eq_true, Bool.not_eq_false, Int.ofNat_lt, Int.ofNat_le] at hk3) <;> simp -dsimp -implicitDefEqProofs (maxSteps := 2000000) (disch := first | omega | assumption | (simp only [go_sem] <;> first | omega | assumption | fail) | fail) only [go_sem, frz_atts, hk3, nat_eq])
          · obtain rfl : kind = 2 := by omega
            have hres : tagR s 2 k r = (r1.to (j + 1)).tok ⟨2, name, [], false, [], r.at_⟩ := hres.trans (by simp)
            intro c hcap
            (repeat (refine ⟨by first | omega | assumption | trivial | (simp only [List.length_take, List.length_map, List.length_append, List.length_cons, List.length_nil, List.length_drop]; omega), ?_⟩))
            intro c1 hc1
            refine (rsoft_meets E name _).ret ?_
            simp -dsimp -implicitDefEqProofs (maxSteps := 2000000) (disch := first | omega | assumption | (simp only [go_sem] <;> first | omega | assumption | fail) | fail) only [go_sem, frz_atts]
            (refine Fin.pack n ?_; simp -dsimp -implicitDefEqProofs (maxSteps := 2000000) (disch := first | omega | assumption | (simp only [go_sem] <;> first | omega | assumption | fail) | fail) only [go_sem, frz_atts]; refine ⟨by omega, by assumption, tokNil ⟨2, _, [], false, [], r.at_⟩ rfl (cutSet hc (below_box (by simp -dsimp -implicitDefEqProofs (maxSteps := 2000000) (disch := first | omega | assumption | (simp only [go_sem] <;> first | omega | assumption | fail) | fail) only [go_sem, frz_atts])) ⟨rfl, ?_⟩)⟩; rw [hres]; simp only [rdBox, Rd.tok, Rd.to, Rd.fault, dn_at, dn_f, dn_frm, dn_text, List.map_append, List.length_append, List.map_cons, List.map_nil, List.length_cons, List.length_nil, Nat.zero_add]; (try rfl))
          · have hk3 : ¬ kind = 2 := by omega
            have hres2 : tagR s kind k r = if kind = 1 ∧ (softs.contains name = true ∨ raws.contains name = true) then rawR s name (softs.contains name) ((r1.to (j + 1)).tok ⟨kind, name, l, slashE s r1.at_ j, [], r.at_⟩) else (r1.to (j + 1)).tok ⟨kind, name, l, slashE s r1.at_ j, [], r.at_⟩ := hres.trans (by simp only [if_neg hk3])
            clear hres
            intro c hcap
            (repeat (refine ⟨by first | omega | assumption | trivial | (simp only [List.length_take, List.length_map, List.length_append, List.length_cons, List.length_nil, List.length_drop]; omega), ?_⟩))
            intro c1 hc1
            refine (rsoft_meets E name _).ret ?_
            simp -dsimp -implicitDefEqProofs (maxSteps := 2000000) (disch := first | omega | assumption | (simp only [go_sem] <;> first | omega | assumption | fail) | fail) only [go_sem, frz_atts]
            (refine condP_intro (fun hk4 => ?_) (fun hk4 => ?_) <;> (try simp only [Bool.and_eq_true, Bool.or_eq_true, Bool.not_eq_true', Bool.not_eq_false', Bool.or_eq_false_iff, Bool.and_eq_false_imp, decide_eq_true_eq, decide_eq_false_iff_not, Bool.not_eq_true, Bool.not_eq_false, Int.ofNat_lt, Int.ofNat_le] at hk4) <;> simp -dsimp -implicitDefEqProofs (maxSteps := 2000000) (disch := first | omega | assumption | (simp only [go_sem] <;> first | omega | assumption | fail) | fail) only [go_sem, frz_atts, hk4, nat_eq])
            · obtain rfl : kind = 1 := by omega
              (refine condP_intro (fun hsf => ?_) (fun hsf => ?_) <;> (try simp only [Bool.and_eq_true, Bool.or_eq_true, Bool.not_eq_true', Bool.not_eq_false', Bool.or_eq_false_iff, Bool.and_eq_false_imp, decide_eq_true_eq, decide_eq_false_iff_not, Bool.not_eq_true, Bool.not_eq_false, Int.ofNat_lt, Int.ofNat_le] at hsf) <;> simp -dsimp -implicitDefEqProofs (maxSteps := 2000000) (disch := first | omega | assumption | (simp only [go_sem] <;> first | omega | assumption | fail) | fail) only [go_sem, frz_atts, hsf])
              · refine (rraw_meets E name _).ret ?_
                simp -dsimp -implicitDefEqProofs (maxSteps := 2000000) (disch := first | omega | assumption | (simp only [go_sem] <;> first | omega | assumption | fail) | fail) only [go_sem, frz_atts]
                (refine condP_intro (fun hrw => ?_) (fun hrw => ?_) <;> (try simp only [Bool.and_eq_true, Bool.or_eq_true, Bool.not_eq_true', Bool.not_eq_false', Bool.or_eq_false_iff, Bool.and_eq_false_imp, decide_eq_true_eq, decide_eq_false_iff_not, Bool.not_eq_true, Bool.not_eq_false, Int.ofNat_lt, Int.ofNat_le] at hrw) <;> simp -dsimp -implicitDefEqProofs (maxSteps := 2000000) (disch := first | omega | assumption | (simp only [go_sem] <;> first | omega | assumption | fail) | fail) only [go_sem, frz_atts, hrw])
                · have hres : tagR s 1 k r = rawR s name false ((r1.to (j + 1)).tok ⟨1, name, l, slashE s r1.at_ j, [], r.at_⟩) := hres2.trans (by rw [if_pos ⟨rfl, .inr hrw⟩, hsf])
                  refine Meets.pack n ?_
                  simp -dsimp -implicitDefEqProofs (maxSteps := 2000000) (disch := first | omega | assumption | (simp only [go_sem] <;> first | omega | assumption | fail) | fail) only [go_sem, frz_atts]
                  (repeat (refine ⟨by first | omega | assumption | trivial | (simp only [List.length_take, List.length_map, List.length_append, List.length_cons, List.length_nil, List.length_drop]; omega), ?_⟩))
                  refine (rraw_meets6 E (r := (r1.to (j + 1)).tok ⟨1, name, l, slashE s r1.at_ j, [], r.at_⟩) (n := n) (by simp -dsimp -implicitDefEqProofs (maxSteps := 2000000) (disch := first | omega | assumption | (simp only [go_sem] <;> first | omega | assumption | fail) | fail) only [go_sem, frz_atts, Rd.tok, List.map_append, encTok, encAtts] <;> rfl) hs (by rw [tok_len, to_t]; omega) (by show j + 1 ≤ s.length; omega) name (by omega) false).ret ?_
                  simp -dsimp -implicitDefEqProofs (maxSteps := 2000000) (disch := first | omega | assumption | (simp only [go_sem] <;> first | omega | assumption | fail) | fail) only [go_sem, frz_atts]
                  exact cutSet hc (below_box (by simp -dsimp -implicitDefEqProofs (maxSteps := 2000000) (disch := first | omega | assumption | (simp only [go_sem] <;> first | omega | assumption | fail) | fail) only [go_sem, frz_atts])) ⟨rfl, by rw [hres] <;> rfl⟩
                · have hres : tagR s 1 k r = (r1.to (j + 1)).tok ⟨1, name, l, slashE s r1.at_ j, [], r.at_⟩ := hres2.trans (by rw [if_neg (by rw [hsf, hrw]; simp)])
                  refine Fin.pack n ?_
                  simp -dsimp -implicitDefEqProofs (maxSteps := 2000000) (disch := first | omega | assumption | (simp only [go_sem] <;> first | omega | assumption | fail) | fail) only [go_sem, frz_atts]
                  (repeat (refine ⟨by first | omega | assumption | trivial | (simp only [List.length_take, List.length_map, List.length_append, List.length_cons, List.length_nil, List.length_drop]; omega), ?_⟩))
                  refine cutSet hc (below_box (by simp -dsimp -implicitDefEqProofs (maxSteps := 2000000) (disch := first | omega | assumption | (simp only [go_sem] <;> first | omega | assumption | fail) | fail) only [go_sem, frz_atts])) ⟨rfl, ?_⟩
                  rw [hres]
                  simp only [rdBox, Rd.tok, Rd.to, List.map_append, List.length_append, List.map_cons, List.map_nil, List.length_cons, List.length_nil, encTok, encAtts]
                  try rfl
              · have hres : tagR s 1 k r = rawR s name true ((r1.to (j + 1)).tok ⟨1, name, l, slashE s r1.at_ j, [], r.at_⟩) := hres2.trans (by rw [if_pos ⟨rfl, .inl hsf⟩, hsf])
                refine Meets.pack n ?_
                simp -dsimp -implicitDefEqProofs (maxSteps := 2000000) (disch := first | omega | assumption | (simp only [go_sem] <;> first | omega | assumption | fail) | fail) only [go_sem, frz_atts]
                (repeat (refine ⟨by first | omega | assumption | trivial | (simp only [List.length_take, List.length_map, List.length_append, List.length_cons, List.length_nil, List.length_drop]; omega), ?_⟩))
                refine (rraw_meets6 E (r := (r1.to (j + 1)).tok ⟨1, name, l, slashE s r1.at_ j, [], r.at_⟩) (n := n) (by simp -dsimp -implicitDefEqProofs (maxSteps := 2000000) (disch := first | omega | assumption | (simp only [go_sem] <;> first | omega | assumption | fail) | fail) only [go_sem, frz_atts, Rd.tok, List.map_append, encTok, encAtts] <;> rfl) hs (by rw [tok_len, to_t]; omega) (by show j + 1 ≤ s.length; omega) name (by omega) true).ret ?_
                simp -dsimp -implicitDefEqProofs (maxSteps := 2000000) (disch := first | omega | assumption | (simp only [go_sem] <;> first | omega | assumption | fail) | fail) only [go_sem, frz_atts]
                exact cutSet hc (below_box (by simp -dsimp -implicitDefEqProofs (maxSteps := 2000000) (disch := first | omega | assumption | (simp only [go_sem] <;> first | omega | assumption | fail) | fail) only [go_sem, frz_atts])) ⟨rfl, by rw [hres] <;> rfl⟩
            · have hk4 : ¬ kind = 1 := by omega
              have hres : tagR s kind k r = (r1.to (j + 1)).tok ⟨kind, name, l, slashE s r1.at_ j, [], r.at_⟩ := hres2.trans (by rw [if_neg (fun h => hk4 h.1)])
              refine Fin.pack n ?_
              simp -dsimp -implicitDefEqProofs (maxSteps := 2000000) (disch := first | omega | assumption | (simp only [go_sem] <;> first | omega | assumption | fail) | fail) only [go_sem, frz_atts]
              (repeat (refine ⟨by first | omega | assumption | trivial | (simp only [List.length_take, List.length_map, List.length_append, List.length_cons, List.length_nil, List.length_drop]; omega), ?_⟩))
              refine cutSet hc (below_box (by simp -dsimp -implicitDefEqProofs (maxSteps := 2000000) (disch := first | omega | assumption | (simp only [go_sem] <;> first | omega | assumption | fail) | fail) only [go_sem, frz_atts])) ⟨rfl, ?_⟩
              rw [hres]
              simp only [rdBox, Rd.tok, Rd.to, List.map_append, List.length_append, List.map_cons, List.map_nil, List.length_cons, List.length_nil, encTok, encAtts]
              try rfl
        · intro c hcap
          refine (rattr_meets E (r := r1.to j) (l := l) (m := H.length + 1) (cap := c) (n := n) (by simp -dsimp -implicitDefEqProofs (maxSteps := 2000000) (disch := first | omega | assumption | (simp only [go_sem] <;> first | omega | assumption | fail) | fail) only [go_sem, frz_atts]) (by simp -dsimp -implicitDefEqProofs (maxSteps := 2000000) (disch := first | omega | assumption | (simp only [go_sem] <;> first | omega | assumption | fail) | fail) only [go_sem, frz_atts]; rfl) (by omega) h2 hcap hs (by simp only [to_f]; omega) (by simp only [to_at]; omega)).mono ?_
          have hag := attrR_grows (s := s) (l := l) (r := r1.to j) (by simp only [to_at]; omega)
          have hal := attrR_len (s := s) (l := l) (r := r1.to j) h2
          have hq : tagF s (s.length + 1) [] r0 = if (attrR s l (r1.to j)).1.2 then tagF s fu (attrR s l (r1.to j)).1.1 (attrR s l (r1.to j)).2 else (none, ((attrR s l (r1.to j)).2.fault 6 s.length).to s.length) := by
            rw [h4, tagF]
            simp only
            rw [he, if_neg h11, if_neg h12]
          rintro _ _ (⟨ha1, rfl, rfl⟩ | ⟨x, c', ha1, hc', rfl, rfl⟩)
          · generalize attrR s l (r1.to j) = a at hag hal hq ha1
            obtain ⟨⟨l', ok⟩, r2⟩ := a
            simp only at ha1 hal hq hag
            subst ha1
            simp -dsimp -implicitDefEqProofs (maxSteps := 2000000) (disch := first | omega | assumption | (simp only [go_sem] <;> first | omega | assumption | fail) | fail) only [go_sem, frz_atts]
            have g1 : j < r2.at_ := hag.1
            have g2 := hag.2.hi
            have g3 : r2.f.length ≤ r1.f.length + 3 * (r2.at_ - j) + 0 := hag.2.f
            have g4 : r2.t = r1.t := hag.2.t
            have g5 : r2.text = r1.text := hag.2.text
            (refine condP_intro (fun hok => ?_) (fun hok => ?_) <;> (try simp only [Bool.and_eq_true, Bool.or_eq_true, Bool.not_eq_true', Bool.not_eq_false', Bool.or_eq_false_iff, Bool.and_eq_false_imp, decide_eq_true_eq, decide_eq_false_iff_not, Bool.not_eq_true, Bool.not_eq_false, Int.ofNat_lt, Int.ofNat_le] at hok) <;> simp -dsimp -implicitDefEqProofs (maxSteps := 2000000) (disch := first | omega | assumption | (simp only [go_sem] <;> first | omega | assumption | fail) | fail) only [go_sem, frz_atts, hok])
            · rw [hok, if_neg (by simp)] at hq
              have hres := hT _ hq
              refine (rfault_meets E (s := s) (r := r2) (n := n) (by simp -dsimp -implicitDefEqProofs (maxSteps := 2000000) (disch := first | omega | assumption | (simp only [go_sem] <;> first | omega | assumption | fail) | fail) only [go_sem, frz_atts]) (by omega) 6 s.length).ret ?_
              simp -dsimp -implicitDefEqProofs (maxSteps := 2000000) (disch := first | omega | assumption | (simp only [go_sem] <;> first | omega | assumption | fail) | fail) only [go_sem, frz_atts]
              exact cutSet hc (below_box (by simp -dsimp -implicitDefEqProofs (maxSteps := 2000000) (disch := first | omega | assumption | (simp only [go_sem] <;> first | omega | assumption | fail) | fail) only [go_sem, frz_atts])) ⟨rfl, by rw [hres] <;> simp -dsimp -implicitDefEqProofs (maxSteps := 2000000) (disch := first | omega | assumption | (simp only [go_sem] <;> first | omega | assumption | fail) | fail) only [go_sem, frz_atts]⟩
            · rw [hok, if_pos rfl] at hq
              refine Back.pack H.length ?_
              simp -dsimp -implicitDefEqProofs (maxSteps := 2000000) (disch := first | omega | assumption | (simp only [go_sem] <;> first | omega | assumption | fail) | fail) only [go_sem, frz_atts]
              (repeat (refine ⟨by first | omega | assumption | trivial | (simp only [List.length_take, List.length_map, List.length_append, List.length_cons, List.length_nil, List.length_drop]; omega), ?_⟩))
              refine Back.rn' (N := H.length) [H.length] (by rw [setn_length]) (Nat.le_refl _) (Closed.set hc (below_box (by simp -dsimp -implicitDefEqProofs (maxSteps := 2000000) (disch := first | omega | assumption | (simp only [go_sem] <;> first | omega | assumption | fail) | fail) only [go_sem, frz_atts]))) (by simp [rnOk, rnOk.rnFresh]) (by simp -dsimp -implicitDefEqProofs (maxSteps := 2000000) (disch := first | omega | assumption | (simp only [go_sem] <;> first | omega | assumption | fail) | fail) only [go_sem, frz_atts]) ?_
              simp -dsimp -implicitDefEqProofs (maxSteps := 2000000) (disch := first | omega | assumption | (simp only [go_sem] <;> first | omega | assumption | fail) | fail) only [go_sem, frz_atts, hlt]
              exact Back.mk (fu, l', r2) ⟨⟨g2, hal, by simp only; omega, hq, by rw [g4, h5], by rw [g5, h6], by simp only; omega⟩, by simp only; omega⟩ (Goes.slots (by simp -dsimp -implicitDefEqProofs (maxSteps := 2000000) (disch := first | omega | assumption | (simp only [go_sem] <;> first | omega | assumption | fail) | fail) only [go_sem, frz_atts]) rfl)
          · generalize attrR s l (r1.to j) = a at hag hal hq ha1
            obtain ⟨⟨l', ok⟩, r2⟩ := a
            simp only [Prod.mk.injEq] at ha1 hal hq hag
            obtain ⟨rfl, rfl⟩ := ha1
            simp -dsimp -implicitDefEqProofs (maxSteps := 2000000) (disch := first | omega | assumption | (simp only [go_sem] <;> first | omega | assumption | fail) | fail) only [go_sem, frz_atts]
            have g1 : j < r2.at_ := hag.1
            have g2 := hag.2.hi
            have g3 : r2.f.length ≤ r1.f.length + 3 * (r2.at_ - j) + 0 := hag.2.f
            have g4 : r2.t = r1.t := hag.2.t
            have g5 : r2.text = r1.text := hag.2.text
            rw [if_pos rfl] at hq
            refine Back.pack H.length ?_
            simp -dsimp -implicitDefEqProofs (maxSteps := 2000000) (disch := first | omega | assumption | (simp only [go_sem] <;> first | omega | assumption | fail) | fail) only [go_sem, frz_atts]
            (repeat (first | refine And.intro (by first | omega | (simp only [List.length_append, List.length_cons, List.length_nil]; omega)) ?_ | refine And.intro (of_eq_true (NrC_at2 _ _ _ (allNr_att _))) ?_))
            refine Back.rn' (N := H.length) [H.length] (by rw [setn_length]) (Nat.le_refl _) (Closed.set hc (below_box (by simp -dsimp -implicitDefEqProofs (maxSteps := 2000000) (disch := first | omega | assumption | (simp only [go_sem] <;> first | omega | assumption | fail) | fail) only [go_sem, frz_atts]))) (by simp [rnOk, rnOk.rnFresh]) (by simp -dsimp -implicitDefEqProofs (maxSteps := 2000000) (disch := first | omega | assumption | (simp only [go_sem] <;> first | omega | assumption | fail) | fail) only [go_sem, frz_atts]) ?_
            simp -dsimp -implicitDefEqProofs (maxSteps := 2000000) (disch := first | omega | assumption | (simp only [go_sem] <;> first | omega | assumption | fail) | fail) only [go_sem, frz_atts, hlt]
            exact Back.mk (fu, l ++ [x], r2) ⟨⟨g2, hal, by simp only; omega, hq, by rw [g4, h5], by rw [g5, h6], by simp only; omega⟩, by simp only; omega⟩ (Goes.slots (by simp -dsimp -implicitDefEqProofs (maxSteps := 2000000) (disch := first | omega | assumption | (simp only [go_sem] <;> first | omega | assumption | fail) | fail) only [go_sem, frz_atts]) (by first | rfl | simp -dsimp -implicitDefEqProofs (maxSteps := 2000000) (disch := first | omega | assumption | (simp only [go_sem] <;> first | omega | assumption | fail) | fail) only [go_sem, frz_atts]))
    · (repeat (refine ⟨by first | omega | assumption | trivial | (simp only [List.length_take, List.length_map, List.length_append, List.length_cons, List.length_nil, List.length_drop]; omega), ?_⟩))
      refine Back.mk (j + 1) ⟨⟨by omega, by omega, heq.trans (scan_step h8 (by simp only [blankB, bAt, h9, Bool.true_or]))⟩, by omega⟩ (Goes.slots (by simp -dsimp -implicitDefEqProofs (maxSteps := 2000000) (disch := first | omega | assumption | (simp only [go_sem] <;> first | omega | assumption | fail) | fail) only [go_sem, frz_atts]; exact .same (bool_av (by simp only [slashE, Nat.add_sub_cancel]; rw [decide_eq_true (show r1.at_ < j + 1 by omega), Bool.true_and]))) rfl)
  · obtain rfl : j = s.length := by omega
    have he : spaceE s r1.at_ = s.length := heq.trans (scan_stop fun hl => absurd hl h8)
    have hq : tagF s (s.length + 1) [] r0 = (none, (r1.to s.length).fault 6 s.length) := by
      rw [h4, tagF]
      simp only
      rw [he, if_pos rfl]
    have hres := hT _ hq
    (refine condP_intro (fun h11 => ?_) (fun h11 => ?_) <;> (try simp only [Bool.and_eq_true, Bool.or_eq_true, Bool.not_eq_true', Bool.not_eq_false', Bool.or_eq_false_iff, Bool.and_eq_false_imp, decide_eq_true_eq, decide_eq_false_iff_not, Bool.not_eq_true, Bool.not_eq_false, Int.ofNat_lt, Int.ofNat_le] at h11) <;> simp -dsimp -implicitDefEqProofs (maxSteps := 2000000) (disch := first | omega | assumption | (simp only [go_sem] <;> first | omega | assumption | fail) | fail) only [go_sem, frz_atts, h11])
    · have hX : nth (setn H n (rdBox s (r1.to s.length)) ++ [tagBox kind r.at_ name l false]) n = rdBox s (r1.to s.length) := by rw [nth_app_lt _ _ _ (by rw [setn_length]; exact hlt)]; exact nth_set _ _ _ hlt
      refine Meets.heq (H' := setn H n (rdBox s (r1.to s.length)) ++ [tagBox kind r.at_ name l false]) (by first | rfl | simp -dsimp -implicitDefEqProofs (maxSteps := 2000000) (disch := first | omega | assumption | (simp only [go_sem] <;> first | omega | assumption | fail) | fail) only [go_sem, frz_atts]) (Meets.ret (rfault_meets E hX (by simp only [to_f]; omega) 6 s.length) ?_)
      simp -dsimp -implicitDefEqProofs (maxSteps := 2000000) (disch := first | omega | assumption | (simp only [go_sem] <;> first | omega | assumption | fail) | fail) only [go_sem, frz_atts]
      refine cutSet hc (below_box (by simp -dsimp -implicitDefEqProofs (maxSteps := 2000000) (disch := first | omega | assumption | (simp only [go_sem] <;> first | omega | assumption | fail) | fail) only [go_sem, frz_atts])) ⟨rfl, by rw [hres] <;> simp -dsimp -implicitDefEqProofs (maxSteps := 2000000) (disch := first | omega | assumption | (simp only [go_sem] <;> first | omega | assumption | fail) | fail) only [go_sem, frz_atts]⟩
    · exact (h11 trivial).elim
end
end Go.Proofs.YtdpjmfipgkblfaaGreatDoor
