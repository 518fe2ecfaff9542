/- Contracts of package tree, by V: Build. -/
import Derived.Test.YtdpjmfipgkblfaaGreatDoorTreeX
set_option linter.unusedSimpArgs false
namespace Go.Proofs.YtdpjmfipgkblfaaGreatDoor
open Go Go.V
attribute [local irreducible] vc vcL vcP vcI vcO stOp Loops condP bx bx2 Meets Back
section
variable {b : Bd} {H : List Ent} {n : Nat}

/-- How far a token may go. -/
def Bd.le (b' b : Bd) (k : Nat) : Prop := (b.opn.length ≤ 100 → b'.opn.length ≤ 100) ∧ b'.items.length ≤ b.items.length + 1 ∧ b'.faults.length ≤ b.faults.length + k
theorem startR_le (t : Tok) (b : Bd) : (startR t b).le b (t.attrs.length + 2) := by
  unfold startR
  split
  · have hf := firstR_len t.name b
    have ha := attrsF_len t.attrs [] (firstR t.name b)
    simp only
    obtain ⟨p, hp⟩ : ∃ p, attrsF t.attrs [] (firstR t.name b) = p := ⟨_, rfl⟩
    rw [hp] at ha ⊢
    split
    · rename_i hc
      simp only [Bool.and_eq_true, decide_eq_true_eq] at hc
      refine ⟨fun _ => ?_, ?_, ?_⟩
      · simp only [List.length_append, List.length_cons, List.length_nil]
        have := hc.2
        omega
      · simp only [Bd.item, List.length_append, List.length_cons, List.length_nil]
        rw [ha.2.2.1, hf.2.1]; omega
      · simp only [Bd.item]
        omega
    · refine ⟨fun h => ?_, ?_, ?_⟩
      · simp only [Bd.item]
        rw [ha.2.1]; omega
      · simp only [Bd.item, List.length_append, List.length_cons, List.length_nil]
        rw [ha.2.2.1, hf.2.1]; omega
      · simp only [Bd.item]
        omega
  · exact ⟨fun h => h, Nat.le_succ _, by simp only [Bd.fault, List.length_append, List.length_cons, List.length_nil]; omega⟩
theorem stopR_le (name : List UInt8) (b : Bd) : (stopR name b).le b 2 := by
  unfold stopR
  simp only
  generalize nearR (if headsL.contains name = true then headsL else [name]) [w "template"] b.opn = k
  generalize (!decide (b.opn.getD k.toNat [] = name) || (b.opn.drop (k.toNat + 1)).any fun x => !lastsL.contains x) = c
  split
  · exact ⟨fun h => h, by simp [Bd.item, Bd.fault], by simp [Bd.item, Bd.fault]⟩
  split
  · exact ⟨fun h => h, Nat.le_succ _, by simp [Bd.fault]⟩
  · have h1 : (if c = true then b.fault 9 else b).opn = b.opn ∧ (if c = true then b.fault 9 else b).items = b.items ∧ (if c = true then b.fault 9 else b).faults.length ≤ b.faults.length + 1 := by
      cases c
      · exact ⟨rfl, rfl, Nat.le_succ _⟩
      · exact ⟨rfl, rfl, by simp [Bd.fault]⟩
    obtain ⟨e1, e2, e3, _⟩ := end_len k (if c = true then b.fault 9 else b)
    exact ⟨fun h => by rw [h1.1] at e1; omega, by rw [e2, h1.2.1]; omega, by rw [e3]; omega⟩
theorem tokB_le (t : Tok) (b : Bd) : (tokB t b).le b (t.attrs.length + 2) := by
  unfold tokB
  simp only
  split
  · have := startR_le t { b with at_ := t.pos }
    exact ⟨this.1, this.2.1, this.2.2⟩
  split
  · obtain ⟨h1, h2, h3⟩ := stopR_le t.name { b with at_ := t.pos }
    exact ⟨h1, h2, by have h3 : _ ≤ b.faults.length + 2 := h3; omega⟩
  split
  · split
    · exact ⟨fun h => h, Nat.le_succ _, Nat.le_add_right _ _⟩
    · exact ⟨fun h => h, by simp [Bd.item], by simp [Bd.item]⟩
  split
  · exact ⟨fun h => h, by simp [Bd.item], by simp [Bd.item]⟩
  split
  · split
    · exact ⟨fun h => h, by simp [Bd.item], by simp [Bd.item]⟩
    · exact ⟨fun h => h, Nat.le_succ _, by simp only [Bd.fault, List.length_append, List.length_cons, List.length_nil]; omega⟩
  · exact ⟨fun h => h, Nat.le_succ _, Nat.le_add_right _ _⟩
def buildTo (l : List Tok) (i : Nat) : Bd := buildB (l.take i)
instance : Inhabited Tok := ⟨⟨0, [], [], false, [], 0⟩⟩
theorem buildTo_step (l : List Tok) (i : Nat) (h : i < l.length) : buildTo l (i + 1) = tokB (l.getD i default) (buildTo l i) := by
  unfold buildTo buildB
  rw [List.take_add_one, List.foldl_append]
  simp [List.getD, h]
theorem buildTo_le (l : List Tok) (hl : ∀ t ∈ l, t.attrs.length ≤ 100) : ∀ i, i ≤ l.length → (buildTo l i).opn.length ≤ 100 ∧ (buildTo l i).items.length ≤ i ∧ (buildTo l i).faults.length ≤ 102 * i
  | 0, _ => by simp [buildTo, buildB, bd0]
  | i + 1, h => by
    obtain ⟨h1, h2, h3⟩ := buildTo_le l hl i (by omega)
    rw [buildTo_step l i (by omega)]
    obtain ⟨g1, g2, g3⟩ := tokB_le (l.getD i default) (buildTo l i)
    have ht := hl (l.getD i default) (by rw [List.getD, List.getElem?_eq_getElem (by omega)]; exact List.getElem_mem _)
    exact ⟨g1 h1, by omega, by omega⟩
attribute [local go_sem] a64 a64l a64r s64 s64l ite_min ite_max zlt_l zlt_r zle_l zle_r zeq len_eq byte_eq Nat.zero_le nth_set_ne List.forall_mem_cons all_nil isPl allSh_strs allNr_strs allSh_itm allNr_itm allSh_flt allNr_flt allSh_att allNr_att strs_length bBox encAtts strs_length Nat.reduceAdd Nat.reduceSub Nat.reduceMul Nat.reduceLT Nat.reduceLeDiff Nat.reduceEqDiff Int.reduceEq Int.reduceLT Int.reduceLE
set_option maxRecDepth 20000 in
set_option maxHeartbeats 4000000 in
theorem tbuild_meets (l : List Tok) (hl : l.length ≤ 100000) (ha : ∀ t ∈ l, t.attrs.length ≤ 100 ∧ ∀ a ∈ t.attrs, WOk a) (hbig : tooBig (buildB l) = false) (H : List Ent) :
    Meets tE Tryz.prog 15 [.c (.lst 6 l.length (at2 (l.map encTok)))] H
      (Ret (.tup [.c (.lst 5 (buildB l).items.length (at2 ((buildB l).items.map encItm))), .c (.lst 2 (buildB l).faults.length (at2 ((buildB l).faults.map encFlt))), .c (.int .u16 0)]) H) := by
  refine Meets.closed fun hc => ?_
  refine Meets.of_body mixed tok (plan := (fun | 9 => (.take 0 (.take 1 (.take 2 (.take 3 (.take 4 (.take 5 (.take 6 (.take 7 (.take 8 (.take 9 (.take 10 .done))))))))))) | _ => .done)) Tryz.func15 Tryz.call15 Tryz.ntmps15 Tryz.results15 rfl (by kernel_rfl) ?_
  simp -dsimp -implicitDefEqProofs (maxSteps := 2000000) (disch := first | omega | assumption | (simp only [go_sem] <;> first | omega | assumption | fail) | fail) only [go_sem]
  refine Loops.on (α := Nat) (fun i => i ≤ l.length) (fun i => l.length - i) (fun i => [(12, .d (.int .i64 i))]) (fun i => H ++ [bBox (buildTo l i)]) 0 (Nat.zero_le _) ?_ ?_
  · refine Goes.pack H.length ?_
    simp -dsimp -implicitDefEqProofs (maxSteps := 2000000) (disch := first | omega | assumption | (simp only [go_sem] <;> first | omega | assumption | fail) | fail) only [go_sem]
    exact Goes.slots (by simp -dsimp -implicitDefEqProofs (maxSteps := 2000000) (disch := first | omega | assumption | (simp only [go_sem] <;> first | omega | assumption | fail) | fail) only [go_sem]; first | exact .same rfl | rfl) rfl
  rintro i hi
  have hle := buildTo_le l (fun t ht => (ha t ht).1) i hi
  simp -dsimp -implicitDefEqProofs (maxSteps := 2000000) (disch := first | omega | assumption | (simp only [go_sem] <;> first | omega | assumption | fail) | fail) only [go_sem]
  refine condP_intro (fun h => ?_) (fun h => ?_) <;> simp only [decide_eq_true_eq, decide_eq_false_iff_not] at h
  · have hst := buildTo_step l i h
    have g0 := at2_map encTok l i 0 h
    have g1 := at2_map encTok l i 1 h
    have g2 := at2_map encTok l i 2 h
    have g3 := at2_map encTok l i 3 h
    have g4 := at2_map encTok l i 4 h
    have g5 := at2_map encTok l i 5 h
    have hmem : l.getD i default ∈ l := by rw [List.getD, List.getElem?_eq_getElem h]; exact List.getElem_mem h
    obtain ⟨t, ht⟩ : ∃ t, l.getD i default = t := ⟨_, rfl⟩
    rw [ht] at g0 g1 g2 g3 g4 g5 hmem hst
    simp only [encTok, List.getD_cons_zero, List.getD_cons_succ] at g0 g1 g2 g3 g4 g5
    simp -dsimp -implicitDefEqProofs (maxSteps := 2000000) (disch := first | omega | assumption | (simp only [go_sem] <;> first | omega | assumption | fail) | fail) only [go_sem, h, g0, g1, g2, g3, g4, g5]
    refine (ttoken_meets (b := buildTo l i) (n := H.length) (by simp -dsimp -implicitDefEqProofs (maxSteps := 2000000) (disch := first | omega | assumption | (simp only [go_sem] <;> first | omega | assumption | fail) | fail) only [go_sem]) ⟨hle.1, by omega, by omega⟩ t ⟨by have := (ha t hmem).1; omega, (ha t hmem).2⟩).ret ?_
    simp -dsimp -implicitDefEqProofs (maxSteps := 2000000) (disch := first | omega | assumption | (simp only [go_sem] <;> first | omega | assumption | fail) | fail) only [go_sem]
    refine Back.rnA (N := H.length) [H.length] rfl (Nat.le_refl _) hc (by simp [rnOk, rnOk.rnFresh]) (by simp -dsimp -implicitDefEqProofs (maxSteps := 2000000) (disch := first | omega | assumption | (simp only [go_sem] <;> first | omega | assumption | fail) | fail) only [go_sem]) ?_
    simp -dsimp -implicitDefEqProofs (maxSteps := 2000000) (disch := first | omega | assumption | (simp only [go_sem] <;> first | omega | assumption | fail) | fail) only [go_sem]
    exact Back.mk (i + 1) ⟨h, by omega⟩ (Goes.slots (by simp -dsimp -implicitDefEqProofs (maxSteps := 2000000) (disch := first | omega | assumption | (simp only [go_sem] <;> first | omega | assumption | fail) | fail) only [go_sem]) (by rw [hst] <;> rfl))
  · obtain rfl : i = l.length := by omega
    have hall : buildTo l l.length = buildB l := by rw [buildTo, List.take_length]
    rw [hall] at hle
    simp -dsimp -implicitDefEqProofs (maxSteps := 2000000) (disch := first | omega | assumption | (simp only [go_sem] <;> first | omega | assumption | fail) | fail) only [go_sem, h, hall]
    simp only [tooBig, Bool.or_eq_false_iff, decide_eq_false_iff_not] at hbig
    intro c hcap
    (refine condP_intro (fun h2 => ?_) (fun h2 => ?_) <;> (try simp only [Bool.and_eq_true, Bool.or_eq_true, Bool.not_eq_true', Bool.not_eq_false', Bool.or_eq_false_iff, Bool.and_eq_false_imp, decide_eq_true_eq, decide_eq_false_iff_not, Bool.not_eq_true, Bool.not_eq_false, Int.ofNat_lt, Int.ofNat_le] at h2) <;> simp -dsimp -implicitDefEqProofs (maxSteps := 2000000) (disch := first | omega | assumption | (simp only [go_sem] <;> first | omega | assumption | fail) | fail) only [go_sem, h2])
    · refine (tanyI_meets tE _ _ _ (buildB l).items (by omega) _ (by simp -dsimp -implicitDefEqProofs (maxSteps := 2000000) (disch := first | omega | assumption | (simp only [go_sem] <;> first | omega | assumption | fail) | fail) only [go_sem] <;> rfl)).ret ?_
      simp -dsimp -implicitDefEqProofs (maxSteps := 2000000) (disch := first | omega | assumption | (simp only [go_sem] <;> first | omega | assumption | fail) | fail) only [go_sem, hbig.2]
      intro c1 hc1
      refine Fin.frz (H.length + 1) ?_
      simp -dsimp -implicitDefEqProofs (maxSteps := 2000000) (disch := first | omega | assumption | (simp only [go_sem] <;> first | omega | assumption | fail) | fail) only [go_sem]
      refine ⟨⟨fun _ => hcap, fun h => h.elim⟩, ?_⟩
      refine Fin.frz (H.length + 2) ?_
      simp -dsimp -implicitDefEqProofs (maxSteps := 2000000) (disch := first | omega | assumption | (simp only [go_sem] <;> first | omega | assumption | fail) | fail) only [go_sem]
      refine ⟨fun _ => hc1, Fin.cut (Nat.le_refl _) hc ⟨rfl, rfl⟩⟩
    · exact absurd hbig.1 (by omega)
end
end Go.Proofs.YtdpjmfipgkblfaaGreatDoor
