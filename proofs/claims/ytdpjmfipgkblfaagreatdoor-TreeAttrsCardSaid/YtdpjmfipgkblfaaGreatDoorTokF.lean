/- Contracts of the document's answer for layer 6, by V: the reader. -/
import Derived.Test.YtdpjmfipgkblfaaGreatDoorTokE
set_option linter.unusedSimpArgs false
namespace Go.Proofs.YtdpjmfipgkblfaaGreatDoor
open Go Go.V
attribute [local irreducible] vc vcL vcP vcI vcO stOp Loops condP bx bx2 Meets Back

def encAtt (a : Att) : List CV := [.str a.name, .str a.value]
def encAtts (l : List Att) : CV := .lst 2 l.length (at2 (l.map encAtt))
def encTok (t : Tok) : List CV := [.int .u8 t.kind, .str t.name, encAtts t.attrs, .bool t.self, .str t.data, .int .i64 t.pos]
def encFlt (x : Flt) : List CV := [.int .u8 x.kind, .int .i64 x.pos]
theorem encAtt_pl (x : Att) : (encAtt x).all isPl = true := rfl
theorem encTok_pl (x : Tok) : (encTok x).all isPl = true := rfl
theorem encFlt_pl (x : Flt) : (encFlt x).all isPl = true := rfl
theorem allSh_tok (l : List Tok) : allSh (l.map encTok) = true := allSh_pl _ _ encTok_pl
theorem allSh_flt (l : List Flt) : allSh (l.map encFlt) = true := allSh_pl _ _ encFlt_pl
theorem allSh_att (l : List Att) : allSh (l.map encAtt) = true := allSh_pl _ _ encAtt_pl
theorem allNr_tok (l : List Tok) : allNr (l.map encTok) = true := allNr_pl _ _ encTok_pl
theorem allNr_flt (l : List Flt) : allNr (l.map encFlt) = true := allNr_pl _ _ encFlt_pl
theorem allNr_att (l : List Att) : allNr (l.map encAtt) = true := allNr_pl _ _ encAtt_pl
def rdBox (s : List UInt8) (r : Rd) : Ent := .box 58 [.str s, .int .i64 r.at_, .own 43 6 r.t.length (at2 (r.t.map encTok)), .own 48 2 r.f.length (at2 (r.f.map encFlt)), .own 5 1 r.text.length (byteCell r.text), .int .i64 r.frm]
section
variable {s : List UInt8} {r : Rd} {H : List Ent} {n : Nat}
theorem cutSet {E : Env} {post : AV → List Ent → Prop} {v : AV} {e : Ent} {L : List Ent} (hc : Closed H.length H) (he : e.below H.length) (h : post (mapA (rnC H.length []) v) (setn H n e)) : V.Fin E H.length post v (setn H n e ++ L) :=
  Fin.cut (by rw [setn_length]; exact Nat.le_refl _) (by rw [setn_length]; exact Closed.set hc he) (by rw [setn_length]; exact h)
theorem rd_lt (hn : nth H n = rdBox s r) : n < H.length := nth_lt hn (by simp [rdBox])

attribute [local go_sem] a64 a64l a64r s64 s64l ite_min ite_max zlt_l zlt_r zle_l zle_r zeq len_eq byte_eq Nat.zero_le nth_set_ne List.forall_mem_cons all_nil isPl allSh_tok allSh_flt allNr_tok allNr_flt allSh_att allNr_att Nat.reduceAdd Nat.reduceSub Nat.reduceMul Nat.reduceLT Nat.reduceLeDiff Nat.reduceEqDiff Int.reduceEq Int.reduceLT Int.reduceLE
theorem rfind_meets (E : Env) (hn : nth H n = rdBox s r) (hs : s.length < 1073741824) (c : UInt8) (i : Nat) (hi : i ≤ s.length) :
    Meets E Tryz.prog 65 [.c (.ptr n 0 0), .d (.int .u8 c.toNat), .d (.int .i64 i)] H (Ret (.d (.int .i64 (findB s c i))) H) := by
  refine Meets.of_body mixed tok (plan := fun _ => .done) Tryz.func65 Tryz.call65 Tryz.ntmps65 Tryz.results65 rfl (by kernel_rfl) ?_
  simp -dsimp -implicitDefEqProofs (maxSteps := 2000000) (disch := first | omega | assumption | (simp only [go_sem] <;> first | omega | assumption | fail) | fail) only [go_sem]
  refine Loops.on (α := Nat) (fun j => j ≤ s.length ∧ findB s c i = findB s c j) (fun j => s.length - j) (fun j => [(7, .d (.int .i64 j))]) (fun _ => H) i ⟨hi, rfl⟩ ?_ ?_
  · exact Goes.slots (by simp -dsimp -implicitDefEqProofs (maxSteps := 2000000) (disch := first | omega | assumption | (simp only [go_sem] <;> first | omega | assumption | fail) | fail) only [go_sem]) rfl
  rintro j ⟨hj, heq⟩
  simp -dsimp -implicitDefEqProofs (maxSteps := 2000000) (disch := first | omega | assumption | (simp only [go_sem] <;> first | omega | assumption | fail) | fail) only [go_sem, hn, rdBox]
  (repeat ((first | (refine condP_pick (fun hg => by (have hg' := hg; (try simp only [Bool.and_eq_true, Bool.or_eq_true, Bool.not_eq_true', Bool.not_eq_false', Bool.or_eq_false_iff, Bool.and_eq_false_imp, decide_eq_true_eq, decide_eq_false_iff_not] at hg'); (try simp -dsimp -implicitDefEqProofs (maxSteps := 2000000) (disch := first | omega | assumption | (simp only [go_sem] <;> first | omega | assumption | fail) | fail) only [go_sem, hg]); (try simp -dsimp -implicitDefEqProofs (maxSteps := 2000000) (disch := first | omega | assumption | (simp only [go_sem] <;> first | omega | assumption | fail) | fail) only [go_sem, hg', hn, rdBox]); exact rfl)) (fun hg => by (have hg' := hg; (try simp only [Bool.and_eq_true, Bool.or_eq_true, Bool.not_eq_true', Bool.not_eq_false', Bool.or_eq_false_iff, Bool.and_eq_false_imp, decide_eq_true_eq, decide_eq_false_iff_not] at hg'); (try simp -dsimp -implicitDefEqProofs (maxSteps := 2000000) (disch := first | omega | assumption | (simp only [go_sem] <;> first | omega | assumption | fail) | fail) only [go_sem, hg]); (try simp -dsimp -implicitDefEqProofs (maxSteps := 2000000) (disch := first | omega | assumption | (simp only [go_sem] <;> first | omega | assumption | fail) | fail) only [go_sem, hg', hn, rdBox]); exact rfl)) ?_) | (refine condP_calm _ rfl (fun hg => by (have hg' := hg; (try simp only [Bool.and_eq_true, Bool.or_eq_true, Bool.not_eq_true', Bool.not_eq_false', Bool.or_eq_false_iff, Bool.and_eq_false_imp, decide_eq_true_eq, decide_eq_false_iff_not] at hg'); (try simp -dsimp -implicitDefEqProofs (maxSteps := 2000000) (disch := first | omega | assumption | (simp only [go_sem] <;> first | omega | assumption | fail) | fail) only [go_sem, hg]); (try simp -dsimp -implicitDefEqProofs (maxSteps := 2000000) (disch := first | omega | assumption | (simp only [go_sem] <;> first | omega | assumption | fail) | fail) only [go_sem, hg', hn, rdBox]); (repeat (refine ⟨by omega, ?_⟩)); first | exact rfl | exact (by assumption) | (refine condP_pickR (fun hk => by (have hk' := hk; (try simp only [Bool.and_eq_true, Bool.or_eq_true, Bool.not_eq_true', Bool.not_eq_false', Bool.or_eq_false_iff, Bool.and_eq_false_imp, decide_eq_true_eq, decide_eq_false_iff_not] at hk'); (try simp -dsimp -implicitDefEqProofs (maxSteps := 2000000) (disch := first | omega | assumption | (simp only [go_sem] <;> first | omega | assumption | fail) | fail) only [go_sem, hg]); (try simp -dsimp -implicitDefEqProofs (maxSteps := 2000000) (disch := first | omega | assumption | (simp only [go_sem] <;> first | omega | assumption | fail) | fail) only [go_sem, hk]); (try simp -dsimp -implicitDefEqProofs (maxSteps := 2000000) (disch := first | omega | assumption | (simp only [go_sem] <;> first | omega | assumption | fail) | fail) only [go_sem, hk']); (try simp -dsimp -implicitDefEqProofs (maxSteps := 2000000) (disch := first | omega | assumption | (simp only [go_sem] <;> first | omega | assumption | fail) | fail) only [go_sem, hg', hn, rdBox]); exact rfl)) (fun hk => by (have hk' := hk; (try simp only [Bool.and_eq_true, Bool.or_eq_true, Bool.not_eq_true', Bool.not_eq_false', Bool.or_eq_false_iff, Bool.and_eq_false_imp, decide_eq_true_eq, decide_eq_false_iff_not] at hk'); (try simp -dsimp -implicitDefEqProofs (maxSteps := 2000000) (disch := first | omega | assumption | (simp only [go_sem] <;> first | omega | assumption | fail) | fail) only [go_sem, hg]); (try simp -dsimp -implicitDefEqProofs (maxSteps := 2000000) (disch := first | omega | assumption | (simp only [go_sem] <;> first | omega | assumption | fail) | fail) only [go_sem, hk]); (try simp -dsimp -implicitDefEqProofs (maxSteps := 2000000) (disch := first | omega | assumption | (simp only [go_sem] <;> first | omega | assumption | fail) | fail) only [go_sem, hk']); (try simp -dsimp -implicitDefEqProofs (maxSteps := 2000000) (disch := first | omega | assumption | (simp only [go_sem] <;> first | omega | assumption | fail) | fail) only [go_sem, hg', hn, rdBox]); exact rfl)) rfl))) ?_) | (refine condP_load _ (fun hg => by (have hg' := hg; (try simp only [Bool.and_eq_true, Bool.or_eq_true, Bool.not_eq_true', Bool.not_eq_false', Bool.or_eq_false_iff, Bool.and_eq_false_imp, decide_eq_true_eq, decide_eq_false_iff_not] at hg'); (try simp -dsimp -implicitDefEqProofs (maxSteps := 2000000) (disch := first | omega | assumption | (simp only [go_sem] <;> first | omega | assumption | fail) | fail) only [go_sem, hg]); (try simp -dsimp -implicitDefEqProofs (maxSteps := 2000000) (disch := first | omega | assumption | (simp only [go_sem] <;> first | omega | assumption | fail) | fail) only [go_sem, hg', hn, rdBox]); (repeat (refine ⟨by omega, ?_⟩)); exact ⟨rfl, rfl⟩)) ?_)); (try simp -dsimp -implicitDefEqProofs (maxSteps := 2000000) (disch := first | omega | assumption | (simp only [go_sem] <;> first | omega | assumption | fail) | fail) only [go_sem, hn, rdBox])))
  (refine condP_intro (fun h => ?_) (fun h => ?_) <;> (try simp only [Bool.and_eq_true, Bool.or_eq_true, Bool.not_eq_true', Bool.not_eq_false', Bool.or_eq_false_iff, Bool.and_eq_false_imp, decide_eq_true_eq, decide_eq_false_iff_not, Bool.not_eq_true, Bool.not_eq_false, Int.ofNat_lt, Int.ofNat_le] at h) <;> simp -dsimp -implicitDefEqProofs (maxSteps := 2000000) (disch := first | omega | assumption | (simp only [go_sem] <;> first | omega | assumption | fail) | fail) only [go_sem, h])
  · refine Back.mk (j + 1) ⟨⟨h.1, heq.trans (scan_step h.1 (by simp only [bAt]; simpa [← UInt8.toNat_inj] using h.2))⟩, by omega⟩ (Goes.slots (by simp -dsimp -implicitDefEqProofs (maxSteps := 2000000) (disch := first | omega | assumption | (simp only [go_sem] <;> first | omega | assumption | fail) | fail) only [go_sem]) rfl)
  · refine Fin.ret (int_av ?_) rfl
    rw [heq, findB, scan_stop]
    intro hl
    have := h hl
    simpa [← UInt8.toNat_inj] using this
theorem rfault_meets (E : Env) (hn : nth H n = rdBox s r) (hr : r.f.length < 1073741824) (k p : Nat) :
    Meets E Tryz.prog 23 [.c (.ptr n 0 0), .d (.int .u8 k), .d (.int .i64 p)] H (Ret (.tup []) (setn H n (rdBox s (r.fault k p)))) := by
  have hlt := rd_lt hn
  refine Meets.closed fun hc => ?_
  refine Meets.of_body mixed tok (plan := (fun | 1 => (.take 0 (.take 1 (.take 2 (.take 3 (.take 4 (.take 5 (.one 6 (.one 7 (.take 8 (.take 9 (.one 10 .done))))))))))) | _ => .done)) Tryz.func23 Tryz.call23 Tryz.ntmps23 Tryz.results23 rfl (by kernel_rfl) ?_
  simp -dsimp -implicitDefEqProofs (maxSteps := 2000000) (disch := first | omega | assumption | (simp only [go_sem] <;> first | omega | assumption | fail) | fail) only [go_sem, hn, rdBox]
  intro c hcap
  (repeat (refine ⟨by first | omega | assumption | trivial | (simp only [List.length_take, List.length_map, List.length_append, List.length_cons, List.length_nil, List.length_drop]; omega), ?_⟩))
  intro c' hc'
  refine Fin.pack n ?_
  simp -dsimp -implicitDefEqProofs (maxSteps := 2000000) (disch := first | omega | assumption | (simp only [go_sem] <;> first | omega | assumption | fail) | fail) only [go_sem]
  refine ⟨by omega, hc', cutSet hc (below_box (by simp -dsimp -implicitDefEqProofs (maxSteps := 2000000) (disch := first | omega | assumption | (simp only [go_sem] <;> first | omega | assumption | fail) | fail) only [go_sem])) ⟨rfl, ?_⟩⟩
  simp only [Rd.fault, List.map_append, List.length_append, List.map_cons, List.map_nil, List.length_cons, List.length_nil]
  rfl
set_option maxRecDepth 20000 in
theorem rtext_meets (E : Env) (hn : nth H n = rdBox s r) (hs : s.length < 1073741824) (hr : r.text.length < 1073741824) (u : List UInt8) (hu : u.length < 1073741824) (k : Nat) (hk : r.at_ + k ≤ s.length) :
    Meets E Tryz.prog 25 [.c (.ptr n 0 0), .d (.str u), .d (.int .i64 k)] H (Ret (.tup []) (setn H n (rdBox s (r.more u k)))) := by
  have hlt := rd_lt hn
  refine Meets.closed fun hc => ?_
  refine Meets.of_body mixed tok (plan := fun _ => .done) Tryz.func25 Tryz.call25 Tryz.ntmps25 Tryz.results25 rfl (by kernel_rfl) ?_
  simp -dsimp -implicitDefEqProofs (maxSteps := 2000000) (disch := first | omega | assumption | (simp only [go_sem] <;> first | omega | assumption | fail) | fail) only [go_sem, hn, rdBox]
  intro c hcap
  (refine condP_intro (fun h => ?_) (fun h => ?_) <;> (try simp only [Bool.and_eq_true, Bool.or_eq_true, Bool.not_eq_true', Bool.not_eq_false', Bool.or_eq_false_iff, Bool.and_eq_false_imp, decide_eq_true_eq, decide_eq_false_iff_not, Bool.not_eq_true, Bool.not_eq_false, Int.ofNat_lt, Int.ofNat_le] at h) <;> simp -dsimp -implicitDefEqProofs (maxSteps := 2000000) (disch := first | omega | assumption | (simp only [go_sem] <;> first | omega | assumption | fail) | fail) only [go_sem, h])
  · (repeat (refine ⟨by first | omega | assumption | trivial | (simp only [List.length_take, List.length_map, List.length_append, List.length_cons, List.length_nil, List.length_drop]; omega), ?_⟩))
    intro c' hc'
    (repeat (refine ⟨by first | omega | assumption | trivial | (simp only [List.length_take, List.length_map, List.length_append, List.length_cons, List.length_nil, List.length_drop]; omega), ?_⟩))
    have hnil : r.text = [] := List.eq_nil_of_length_eq_zero h
    refine Fin.pack n ?_
    simp -dsimp -implicitDefEqProofs (maxSteps := 2000000) (disch := first | omega | assumption | (simp only [go_sem] <;> first | omega | assumption | fail) | fail) only [go_sem]
    refine ⟨by omega, hc', cutSet hc (below_box (by simp -dsimp -implicitDefEqProofs (maxSteps := 2000000) (disch := first | omega | assumption | (simp only [go_sem] <;> first | omega | assumption | fail) | fail) only [go_sem])) ⟨rfl, ?_⟩⟩
    simp only [rdBox, Rd.more, hnil, if_true, List.nil_append]
  · (repeat (refine ⟨by first | omega | assumption | trivial | (simp only [List.length_take, List.length_map, List.length_append, List.length_cons, List.length_nil, List.length_drop]; omega), ?_⟩))
    intro c' hc'
    have hne : r.text ≠ [] := fun h' => h (by rw [h']; rfl)
    refine Fin.pack n ?_
    simp -dsimp -implicitDefEqProofs (maxSteps := 2000000) (disch := first | omega | assumption | (simp only [go_sem] <;> first | omega | assumption | fail) | fail) only [go_sem]
    refine ⟨by omega, hc', cutSet hc (below_box (by simp -dsimp -implicitDefEqProofs (maxSteps := 2000000) (disch := first | omega | assumption | (simp only [go_sem] <;> first | omega | assumption | fail) | fail) only [go_sem])) ⟨rfl, ?_⟩⟩
    simp only [rdBox, Rd.more, hne, if_false, List.length_append]
theorem CwLe.last {ty wd k : Nat} {L : List (List CV)} {x y : List CV} (h : F2 CwLe x y) : CwLe (.own ty wd k (at2 (L ++ [x]))) (.own ty wd k (at2 (L ++ [y]))) := by
  have hr : F2 (F2 CwLe) (L ++ [x]) (L ++ [y]) := F2.append (F2.refl (fun r => F2.refl CwLe.refl r) L) ⟨h, trivial⟩
  exact CwLe.of (CvLe.own fun k _ f _ => CwLe.rows (wd := wd) hr k f)
/-- A token without attributes, behind what was there. -/
theorem tokNil {E : Env} {N0 ty a b c q : Nat} {post : AV → List Ent → Prop} {v : AV} {k0 k1 : CV} {ks : List CV} {R : List Ent} {L : List (List CV)} (t : Tok) (hk : encAtts t.attrs = .lst 2 0 (at2 []))
    (h : V.Fin E N0 post v (setn H n (.box ty (k0 :: k1 :: .own a b c (at2 (L ++ [encTok t])) :: ks)) ++ R)) :
    V.Fin E N0 post v (setn H n (.box ty (k0 :: k1 :: .own a b c (at2 (L ++ [[.int .u8 t.kind, .str t.name, .nil q 2, .bool t.self, .str t.data, .int .i64 t.pos]])) :: ks)) ++ R) := by
  refine Fin.mv (HMv.le (F2.append (HeapLe.set (e' := .box ty (k0 :: k1 :: .own a b c (at2 (L ++ [encTok t])) :: ks)) (EntLe.box ⟨CwLe.refl _, CwLe.refl _, CwLe.last ?_, F2.refl CwLe.refl _⟩)) (HeapLe.refl _))) h
  unfold encTok
  rw [hk]
  exact ⟨CwLe.refl _, CwLe.refl _, CwLe.of (CvLe.nil _ _ _ _), CwLe.refl _, CwLe.refl _, CwLe.refl _, trivial⟩
set_option maxRecDepth 20000 in
set_option maxHeartbeats 4000000 in
theorem rdone_meets (E : Env) (hn : nth H n = rdBox s r) (hr : r.t.length < 1073741824) (hr2 : r.text.length < 1073741824) :
    Meets E Tryz.prog 26 [.c (.ptr n 0 0)] H (Ret (.tup []) (setn H n (rdBox s r.done))) := by
  have hlt := rd_lt hn
  refine Meets.closed fun hc => ?_
  refine Meets.of_body mixed tok (plan := (fun | 1 => (.take 0 (.take 1 (.take 2 (.take 3 (.take 4 (.take 5 (.take 6 (.take 7 (.take 8 (.take 10 (.take 11 (.take 12 (.take 13 (.one 9 (.take 14 (.one 15 (.one 16 (.take 17 (.take 18 (.one 19 .done)))))))))))))))))))) | _ => .done)) Tryz.func26 Tryz.call26 Tryz.ntmps26 Tryz.results26 rfl (by kernel_rfl) ?_
  simp -dsimp -implicitDefEqProofs (maxSteps := 2000000) (disch := first | omega | assumption | (simp only [go_sem] <;> first | omega | assumption | fail) | fail) only [go_sem, hn, rdBox]
  intro c hcap
  (refine condP_intro (fun h => ?_) (fun h => ?_) <;> (try simp only [Bool.and_eq_true, Bool.or_eq_true, Bool.not_eq_true', Bool.not_eq_false', Bool.or_eq_false_iff, Bool.and_eq_false_imp, decide_eq_true_eq, decide_eq_false_iff_not, Bool.not_eq_true, Bool.not_eq_false, Int.ofNat_lt, Int.ofNat_le] at h) <;> simp -dsimp -implicitDefEqProofs (maxSteps := 2000000) (disch := first | omega | assumption | (simp only [go_sem] <;> first | omega | assumption | fail) | fail) only [go_sem, h])
  · have hne : r.text ≠ [] := fun h' => by rw [h'] at h; exact absurd h (Nat.lt_irrefl _)
    intro c1 hc1
    (repeat (refine ⟨by first | omega | assumption | trivial | (simp only [List.length_take, List.length_map, List.length_append, List.length_cons, List.length_nil, List.length_drop]; omega), ?_⟩))
    intro c2 hc2
    refine Fin.pack n ?_
    simp -dsimp -implicitDefEqProofs (maxSteps := 2000000) (disch := first | omega | assumption | (simp only [go_sem] <;> first | omega | assumption | fail) | fail) only [go_sem]
    refine ⟨by omega, hc2, tokNil ⟨3, [], [], false, r.text, r.frm⟩ rfl (cutSet hc (below_box (by simp -dsimp -implicitDefEqProofs (maxSteps := 2000000) (disch := first | omega | assumption | (simp only [go_sem] <;> first | omega | assumption | fail) | fail) only [go_sem])) ⟨rfl, ?_⟩)⟩
    simp only [rdBox, Rd.done, hne, if_false, List.map_append, List.length_append, List.map_cons, List.map_nil, List.length_cons, List.length_nil]
    rfl
  · have hnil : r.text = [] := List.eq_nil_of_length_eq_zero (by omega)
    refine Fin.mv (HMv.le (F2.append (HeapLe.set (e' := .box 58 [.str s, .int .i64 r.at_, .own 43 6 r.t.length (at2 (r.t.map encTok)), .own 48 2 r.f.length (at2 (r.f.map encFlt)), .own 5 1 0 (byteCell []), .int .i64 r.frm]) (EntLe.box ⟨CwLe.refl _, CwLe.refl _, CwLe.refl _, CwLe.refl _, CwLe.nil _ _ _ _ _, CwLe.refl _, trivial⟩)) (HeapLe.refl _))) ?_
    refine cutSet hc (below_box (by simp -dsimp -implicitDefEqProofs (maxSteps := 2000000) (disch := first | omega | assumption | (simp only [go_sem] <;> first | omega | assumption | fail) | fail) only [go_sem])) ⟨rfl, ?_⟩
    simp only [rdBox, Rd.done, hnil, if_true, List.length_nil]
end
end Go.Proofs.YtdpjmfipgkblfaaGreatDoor
