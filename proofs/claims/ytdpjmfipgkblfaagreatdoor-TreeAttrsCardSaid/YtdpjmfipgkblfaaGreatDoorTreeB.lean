/- Contracts of package tree, by V: the builder's small methods. -/
import Derived.Test.YtdpjmfipgkblfaaGreatDoorTreeA
set_option linter.unusedSimpArgs false
namespace Go.Proofs.YtdpjmfipgkblfaaGreatDoor
open Go Go.V
attribute [local irreducible] vc vcL vcP vcI vcO stOp Loops condP bx bx2 Meets Back

def encItm (x : Itm) : List CV := [.int .i64 x.deep, .int .u8 x.kind, .str x.name, .str x.data, encAtts x.attrs]
theorem encItm_pl (x : Itm) : (encItm x).all isPl = true := rfl
theorem allSh_itm (l : List Itm) : allSh (l.map encItm) = true := allSh_pl _ _ encItm_pl
theorem allNr_itm (l : List Itm) : allNr (l.map encItm) = true := allNr_pl _ _ encItm_pl
def bBox (b : Bd) : Ent := .box 67 [.own 9 1 b.opn.length (at2 (strs b.opn)), .own 38 5 b.items.length (at2 (b.items.map encItm)), .own 48 2 b.faults.length (at2 (b.faults.map encFlt)), .int .i64 b.at_]
/-- What is small enough. -/
structure BdOk (b : Bd) : Prop where
  opn : b.opn.length ≤ 100
  items : b.items.length < 1000000000
  faults : b.faults.length < 1000000000
section
variable {b : Bd} {H : List Ent} {n : Nat}
theorem bd_lt (hn : nth H n = bBox b) : n < H.length := nth_lt hn (by simp [bBox])
attribute [local go_sem] a64 a64l a64r s64 s64l ite_min ite_max zlt_l zlt_r zle_l zle_r zeq len_eq byte_eq Nat.zero_le nth_set_ne List.forall_mem_cons all_nil isPl allSh_strs allNr_strs allSh_itm allNr_itm allSh_flt allNr_flt allSh_att allNr_att strs_length bBox strs_length Nat.reduceAdd Nat.reduceSub Nat.reduceMul Nat.reduceLT Nat.reduceLeDiff Nat.reduceEqDiff Int.reduceEq Int.reduceLT Int.reduceLE
set_option maxRecDepth 20000 in
theorem tfault_meets (E : Env) (hn : nth H n = bBox b) (hb : BdOk b) (k : Nat) :
    Meets E Tryz.prog 49 [.c (.ptr n 0 0), .d (.int .u8 k)] H (Ret (.tup []) (setn H n (bBox (b.fault k)))) := by
  have hlt := bd_lt hn
  obtain ⟨hb1, hb2, hb3⟩ := hb
  refine Meets.closed fun hc => ?_
  refine Meets.of_body mixed tok (plan := (fun | 0 => (.take 0 (.take 1 (.take 2 (.take 3 (.take 4 (.take 5 (.take 6 (.take 7 (.take 8 (.take 9 (.take 10 (.one 11 (.one 12 (.take 13 (.take 14 (.one 15 .done)))))))))))))))) | _ => .done)) Tryz.func49 Tryz.call49 Tryz.ntmps49 Tryz.results49 rfl (by kernel_rfl) ?_
  simp -dsimp -implicitDefEqProofs (maxSteps := 2000000) (disch := first | omega | assumption | (simp only [go_sem] <;> first | omega | assumption | fail) | fail) only [go_sem, hn]
  intro c hcap
  (repeat (refine ⟨by first | omega | assumption | trivial | (simp only [List.length_take, List.length_map, List.length_append, List.length_cons, List.length_nil, List.length_drop]; omega), ?_⟩))
  intro c' hc'
  refine Fin.pack n ?_
  simp -dsimp -implicitDefEqProofs (maxSteps := 2000000) (disch := first | omega | assumption | (simp only [go_sem] <;> first | omega | assumption | fail) | fail) only [go_sem]
  refine ⟨by omega, hc', cutSet hc (below_box (by simp -dsimp -implicitDefEqProofs (maxSteps := 2000000) (disch := first | omega | assumption | (simp only [go_sem] <;> first | omega | assumption | fail) | fail) only [go_sem])) ⟨rfl, ?_⟩⟩
  simp only [Bd.fault, bBox, List.map_append, List.length_append, List.map_cons, List.map_nil, List.length_cons, List.length_nil]
  rfl
set_option maxRecDepth 20000 in
theorem tcloses_meets (E : Env) (hn : nth H n = bBox b) (hb : BdOk b) (c : Bool) :
    Meets E Tryz.prog 76 [.c (.ptr n 0 0), .d (.bool c)] H (Ret (.tup []) (setn H n (bBox (if c then b.fault 9 else b)))) := by
  have hlt := bd_lt hn
  refine Meets.of_body mixed tok (plan := fun _ => .done) Tryz.func76 Tryz.call76 Tryz.ntmps76 Tryz.results76 rfl (by kernel_rfl) ?_
  simp -dsimp -implicitDefEqProofs (maxSteps := 2000000) (disch := first | omega | assumption | (simp only [go_sem] <;> first | omega | assumption | fail) | fail) only [go_sem]
  (refine condP_intro (fun h => ?_) (fun h => ?_) <;> (try simp only [Bool.and_eq_true, Bool.or_eq_true, Bool.not_eq_true', Bool.not_eq_false', Bool.or_eq_false_iff, Bool.and_eq_false_imp, decide_eq_true_eq, decide_eq_false_iff_not, Bool.not_eq_true, Bool.not_eq_false, Int.ofNat_lt, Int.ofNat_le] at h) <;> simp -dsimp -implicitDefEqProofs (maxSteps := 2000000) (disch := first | omega | assumption | (simp only [go_sem] <;> first | omega | assumption | fail) | fail) only [go_sem, h])
  · refine (tfault_meets E hn hb 9).ret ?_
    subst h
    simp -dsimp -implicitDefEqProofs (maxSteps := 2000000) (disch := first | omega | assumption | (simp only [go_sem] <;> first | omega | assumption | fail) | fail) only [go_sem]
    exact Fin.ret rfl rfl
  · subst h
    exact Fin.ret rfl (setn_same hn (by simp [bBox])).symm
set_option maxRecDepth 20000 in
theorem tend_meets (E : Env) (hn : nth H n = bBox b) (hb : BdOk b) (k : Int) (hk : k ≤ b.opn.length) :
    Meets E Tryz.prog 79 [.c (.ptr n 0 0), .d (.int .i64 k)] H (Ret (.d (.bool (decide (0 ≤ k)))) (setn H n (bBox (b.end_ k)))) := by
  have hlt := bd_lt hn
  obtain ⟨hb1, hb2, hb3⟩ := hb
  refine Meets.closed fun hc => ?_
  refine Meets.of_body mixed tok (plan := fun _ => .done) Tryz.func79 Tryz.call79 Tryz.ntmps79 Tryz.results79 rfl (by kernel_rfl) ?_
  simp -dsimp -implicitDefEqProofs (maxSteps := 2000000) (disch := first | omega | assumption | (simp only [go_sem] <;> first | omega | assumption | fail) | fail) only [go_sem]
  (refine condP_intro (fun h => ?_) (fun h => ?_) <;> (try simp only [Bool.and_eq_true, Bool.or_eq_true, Bool.not_eq_true', Bool.not_eq_false', Bool.or_eq_false_iff, Bool.and_eq_false_imp, decide_eq_true_eq, decide_eq_false_iff_not, Bool.not_eq_true, Bool.not_eq_false, Int.ofNat_lt, Int.ofNat_le] at h) <;> simp -dsimp -implicitDefEqProofs (maxSteps := 2000000) (disch := first | omega | assumption | (simp only [go_sem] <;> first | omega | assumption | fail) | fail) only [go_sem, h])
  · refine Fin.ret (bool_av (by rw [decide_eq_false (by omega)])) ?_
    rw [Bd.end_, if_neg (by omega)]
    exact (setn_same hn (by simp [bBox])).symm
  · obtain ⟨j, rfl⟩ : ∃ j : Nat, k = j := ⟨k.toNat, by omega⟩
    simp -dsimp -implicitDefEqProofs (maxSteps := 2000000) (disch := first | omega | assumption | (simp only [go_sem] <;> first | omega | assumption | fail) | fail) only [go_sem, hn]
    intro c hcap
    (repeat (refine ⟨by first | omega | assumption | trivial | (simp only [List.length_take, List.length_map, List.length_append, List.length_cons, List.length_nil, List.length_drop]; omega), ?_⟩))
    refine Fin.pack n ?_
    simp -dsimp -implicitDefEqProofs (maxSteps := 2000000) (disch := first | omega | assumption | (simp only [go_sem] <;> first | omega | assumption | fail) | fail) only [go_sem, Nat.sub_zero]
    (repeat (refine ⟨by first | omega | assumption | trivial | (simp only [List.length_take, List.length_map, List.length_append, List.length_cons, List.length_nil, List.length_drop]; omega), ?_⟩))
    refine Fin.mv (HMv.le (F2.append (HeapLe.set (e' := bBox (b.end_ j)) (EntLe.box ⟨?_, CwLe.of_eq ?_, CwLe.of_eq ?_, CwLe.of_eq ?_, trivial⟩)) (HeapLe.refl _))) ?_
    · have hjl : j ≤ b.opn.length := by omega
      have he : (b.end_ (j : Int)).opn = b.opn.take j := by rw [Bd.end_, if_pos (by omega)]; simp
      rw [he, show (b.opn.take j).length = j by simp; omega]
      refine CwLe.of (CvLe.own fun k hk' f hf => CwLe.of_eq ?_)
      obtain rfl : f = 0 := by omega
      rw [strs_get _ _ (by omega), strs_get _ _ (by simp; omega)]
      simp [List.getD, List.getElem?_take, hk']
    · rw [Bd.end_, if_pos (by omega)]
    · rw [Bd.end_, if_pos (by omega)]
    · rw [Bd.end_, if_pos (by omega)]
    · exact cutSet hc (below_box (by simp -dsimp -implicitDefEqProofs (maxSteps := 2000000) (disch := first | omega | assumption | (simp only [go_sem] <;> first | omega | assumption | fail) | fail) only [go_sem])) ⟨bool_av (by simp), rfl⟩
set_option maxRecDepth 20000 in
theorem ttop_meets (E : Env) (hn : nth H n = bBox b) (hb : BdOk b) (hl : 0 < b.opn.length) :
    Meets E Tryz.prog 117 [.c (.ptr n 0 0)] H (Ret (.d (.str (b.opn.getD (b.opn.length - 1) []))) H) := by
  have hlt := bd_lt hn
  obtain ⟨hb1, hb2, hb3⟩ := hb
  refine Meets.closed fun hc => ?_
  refine Meets.of_body mixed tok (plan := (fun | 3 => (.take 0 (.take 1 (.take 2 (.take 3 (.take 4 (.take 5 (.take 6 (.take 7 (.take 8 (.take 9 (.take 10 (.take 11 (.take 12 .done))))))))))))) | _ => .done)) Tryz.func117 Tryz.call117 Tryz.ntmps117 Tryz.results117 rfl (by kernel_rfl) ?_
  simp -dsimp -implicitDefEqProofs (maxSteps := 2000000) (disch := first | omega | assumption | (simp only [go_sem] <;> first | omega | assumption | fail) | fail) only [go_sem, hn]
  intro c hcap
  (refine condP_intro (fun h => ?_) (fun h => ?_) <;> (try simp only [Bool.and_eq_true, Bool.or_eq_true, Bool.not_eq_true', Bool.not_eq_false', Bool.or_eq_false_iff, Bool.and_eq_false_imp, decide_eq_true_eq, decide_eq_false_iff_not, Bool.not_eq_true, Bool.not_eq_false, Int.ofNat_lt, Int.ofNat_le] at h) <;> simp -dsimp -implicitDefEqProofs (maxSteps := 2000000) (disch := first | omega | assumption | (simp only [go_sem] <;> first | omega | assumption | fail) | fail) only [go_sem, h])
  · omega
  · (repeat (refine ⟨by first | omega | assumption | trivial | (simp only [List.length_take, List.length_map, List.length_append, List.length_cons, List.length_nil, List.length_drop]; omega), ?_⟩))
    have hs := strs_get b.opn (b.opn.length - 1) (by omega)
    simp -dsimp -implicitDefEqProofs (maxSteps := 2000000) (disch := first | omega | assumption | (simp only [go_sem] <;> first | omega | assumption | fail) | fail) only [go_sem, hs]
    (repeat (refine ⟨by first | omega | assumption | trivial | (simp only [List.length_take, List.length_map, List.length_append, List.length_cons, List.length_nil, List.length_drop]; omega), ?_⟩))
    refine Fin.pack n ?_
    simp -dsimp -implicitDefEqProofs (maxSteps := 2000000) (disch := first | omega | assumption | (simp only [go_sem] <;> first | omega | assumption | fail) | fail) only [go_sem]
    (repeat (refine ⟨by first | omega | assumption | trivial | (simp only [List.length_take, List.length_map, List.length_append, List.length_cons, List.length_nil, List.length_drop]; omega), ?_⟩))
    refine cutSet hc (below_box (by simp -dsimp -implicitDefEqProofs (maxSteps := 2000000) (disch := first | omega | assumption | (simp only [go_sem] <;> first | omega | assumption | fail) | fail) only [go_sem])) ⟨rfl, ?_⟩
    exact setn_same hn (by simp [bBox])
/-- Items where the last one's attributes are told otherwise. -/
theorem bdLast {E : Env} {N0 ty e wd c : Nat} {post : AV → List Ent → Prop} {v : AV} {k0 : CV} {ks : List CV} {R : List Ent} {L : List (List CV)} {x y : List CV} (hxy : F2 CwLe x y)
    (h : V.Fin E N0 post v (setn H n (.box ty (k0 :: .own e wd c (at2 (L ++ [y])) :: ks)) ++ R)) : V.Fin E N0 post v (setn H n (.box ty (k0 :: .own e wd c (at2 (L ++ [x])) :: ks)) ++ R) :=
  Fin.mv (HMv.le (F2.append (HeapLe.set (e' := .box ty (k0 :: .own e wd c (at2 (L ++ [y])) :: ks)) (EntLe.box ⟨CwLe.refl _, CwLe.last hxy, F2.refl CwLe.refl _⟩)) (HeapLe.refl _))) h
/-- A heap that holds what another one does, but for one box; and more. -/
def Grown (n : Nat) (H H' : List Ent) : Prop := H.length ≤ H'.length ∧ ∀ i, i < H.length → i ≠ n → nth H' i = nth H i
/-- What says whether a name is sought, wherever the builder stands. -/
def IsFn (H : List Ent) (n g : Nat) (caps : List Nat) (is : List UInt8 → Bool) : Prop :=
  ∀ x H', Grown n H H' → Meets tE Tryz.prog g (.d (.str x) :: capArgs caps) H' (Ret (.d (.bool (is x))) H')
theorem Grown.refl (n : Nat) (H : List Ent) : Grown n H H := ⟨Nat.le_refl _, fun _ _ _ => rfl⟩
theorem Grown.set {n : Nat} {H H' : List Ent} (h : Grown n H H') (e : Ent) : Grown n H (setn H' n e) := ⟨by rw [setn_length]; exact h.1, fun i hi hne => by rw [nth_set_ne _ _ _ _ (Ne.symm hne)]; exact h.2 i hi hne⟩
theorem Grown.app {n : Nat} {H H' : List Ent} (h : Grown n H H') (L : List Ent) : Grown n H (H' ++ L) := ⟨by rw [List.length_append]; exact Nat.le_trans h.1 (Nat.le_add_right _ _), fun i hi hne => by rw [nth_app_lt _ _ _ (Nat.lt_of_lt_of_le hi h.1)]; exact h.2 i hi hne⟩
theorem Grown.trans {n : Nat} {H H' H'' : List Ent} (h : Grown n H H') (h' : Grown n H' H'') : Grown n H H'' := ⟨Nat.le_trans h.1 h'.1, fun i hi hne => (h'.2 i (Nat.lt_of_lt_of_le hi h.1) hne).trans (h.2 i hi hne)⟩
theorem isFn_one {H : List Ent} {n p m cap ty c : Nat} {cell : Nat → Nat → CV} {ws : List (List UInt8)} (hp : nth H p = .box 46 [.sl m 1 0 ws.length cap]) (hm : nth H m = .row ty 1 ws.length c cell) (hl : ws.length < 1073741824) (hcell : ∀ i, i < ws.length → cell i 0 = .str (ws.getD i [])) (hpn : p ≠ n) (hmn : m ≠ n) :
    IsFn H n 101 [p] (fun x => ws.contains x) := fun x H' hg =>
  tone1_meets tE ⟨m, cap, ty, c, cell, by rw [hg.2 p (nth_lt hp (by simp)) hpn]; exact hp, by rw [hg.2 m (nth_lt hm (by simp)) hmn]; exact hm, hl, hcell⟩ x
theorem isFn_head (H : List Ent) (n : Nat) : IsFn H n 72 [] (fun x => headsL.contains x) := fun x H' _ => thead_meets x H'
theorem IsFn.grown {H H' : List Ent} {n g : Nat} {caps : List Nat} {is : List UInt8 → Bool} (h : IsFn H n g caps is) (hg : Grown n H H') : IsFn H' n g caps is := fun x H'' hg' => h x H'' (hg.trans hg')
set_option maxRecDepth 20000 in
theorem tlay_meets (E : Env) (hn : nth H n = bBox b) (hb : BdOk b) (x : Itm) (a : CV) (hpl : isPl a = true) (ha : CwLe a (encAtts x.attrs)) :
    Meets E Tryz.prog 48 [.c (.ptr n 0 0), .s (.agg [.int .i64 x.deep, .int .u8 x.kind, .str x.name, .str x.data, a])] H (Ret (.tup []) (setn H n (bBox (b.item x)))) := by
  have hlt := bd_lt hn
  obtain ⟨hb1, hb2, hb3⟩ := hb
  refine Meets.closed fun hc => ?_
  refine Meets.of_body mixed tok (plan := (fun | 2 => (.take 0 (.take 1 (.take 2 (.take 3 (.take 4 (.take 5 (.one 6 (.one 7 (.take 8 (.take 9 (.one 10 .done))))))))))) | _ => .done)) Tryz.func48 Tryz.call48 Tryz.ntmps48 Tryz.results48 rfl (by kernel_rfl) ?_
  have hown : anyOwn [a] = false := by cases a <;> simp [isPl] at hpl <;> rfl
  have hsh := isPl_sh hpl
  have hnr := isPl_nr hpl
  simp -dsimp -implicitDefEqProofs (maxSteps := 2000000) (disch := first | omega | assumption | (simp only [go_sem] <;> first | omega | assumption | fail) | fail) only [go_sem, hn, hown]
  have hall : allSh [[CV.int .i64 b.opn.length, .int .u8 x.kind, .str x.name, .str x.data, a]] = true := by
    simp only [allSh, List.all_cons, List.all_nil, hsh, Bool.and_true, Bool.true_and]
    rfl
  have hallN : allNr (b.items.map encItm ++ [[CV.int .i64 b.opn.length, .int .u8 x.kind, .str x.name, .str x.data, a]]) = true := by
    simp only [allNr_app, allNr_itm, allNr, List.all_cons, List.all_nil, hnr, Bool.and_true, Bool.true_and]
    rfl
  intro c hcap c1 hc1
  refine ⟨of_eq_true (ShC_at2 _ _ _ _ hall), by omega, by omega, fun c2 hc2 => ?_⟩
  refine Fin.pack n ?_
  simp -dsimp -implicitDefEqProofs (maxSteps := 2000000) (disch := first | omega | assumption | (simp only [go_sem] <;> first | omega | assumption | fail) | fail) only [go_sem, NrC_at2 _ _ _ hallN]
  (repeat (refine ⟨by first | omega | assumption | trivial | (simp only [List.length_take, List.length_map, List.length_append, List.length_cons, List.length_nil, List.length_drop]; omega), ?_⟩))
  refine bdLast (y := encItm { x with deep := b.opn.length }) ⟨CwLe.refl _, CwLe.refl _, CwLe.refl _, CwLe.refl _, ha, trivial⟩ (cutSet hc (below_box (by simp -dsimp -implicitDefEqProofs (maxSteps := 2000000) (disch := first | omega | assumption | (simp only [go_sem] <;> first | omega | assumption | fail) | fail) only [go_sem])) ⟨rfl, ?_⟩)
  simp only [Bd.item, bBox, List.map_append, List.length_append, List.map_cons, List.map_nil, List.length_cons, List.length_nil]
end
end Go.Proofs.YtdpjmfipgkblfaaGreatDoor
