/- Plain laws of layer 7: what is built grows; its size; paragraphs. No program is in sight. -/
import Derived.Test.YtdpjmfipgkblfaaGreatDoorTreeY
import Derived.Test.YtdpjmfipgkblfaaGreatDoorSevenP
set_option linter.unusedSimpArgs false
namespace Go.Proofs.YtdpjmfipgkblfaaGreatDoor
open Go Go.V

/-! ### what is built is not taken back -/
structure Onward (b b' : Bd) : Prop where
  items : b.items <+: b'.items
  faults : b.faults <+: b'.faults
theorem Onward.refl (b : Bd) : Onward b b := ⟨List.prefix_refl _, List.prefix_refl _⟩
theorem Onward.trans {a b c : Bd} (h : Onward a b) (k : Onward b c) : Onward a c := ⟨h.items.trans k.items, h.faults.trans k.faults⟩
theorem Onward.same {b b' : Bd} (h : b'.items = b.items) (k : b'.faults = b.faults) : Onward b b' := ⟨by rw [h]; exact List.prefix_refl _, by rw [k]; exact List.prefix_refl _⟩
theorem on_fault (k : Nat) (b : Bd) : Onward b (b.fault k) := ⟨List.prefix_refl _, List.prefix_append _ _⟩
theorem on_item (x : Itm) (b : Bd) : Onward b (b.item x) := ⟨List.prefix_append _ _, List.prefix_refl _⟩
theorem on_end (k : Int) (b : Bd) : Onward b (b.end_ k) := Onward.same (end_len k b).2.1 (end_len k b).2.2.1
theorem on_pop (b : Bd) : Onward b b.pop := Onward.same rfl rfl
theorem on_firstEnd (name : List UInt8) (b : Bd) : Onward b (firstEnd name b) := by
  unfold firstEnd
  have h1 : Onward b (if b.top [w "option"] = true then b.pop else b) := by split; exact on_pop _; exact Onward.refl _
  simp only
  generalize (if b.top [w "option"] = true then b.pop else b) = b1 at h1 ⊢
  split
  · exact on_end _ _
  split
  · exact on_end _ _
  split
  · exact h1
  split
  · refine h1.trans ?_
    split
    · exact on_pop _
    · exact Onward.refl _
  split
  · split
    · exact (on_pop _).trans (on_fault _ _)
    · exact Onward.refl _
  split
  · split
    · exact (on_end _ _).trans (on_fault _ _)
    · exact Onward.refl _
  · exact Onward.refl _
theorem on_firstR (name : List UInt8) (b : Bd) : Onward b (firstR name b) := by
  unfold firstR
  simp only
  split
  · exact (on_firstEnd name b).trans (on_end _ _)
  · exact on_firstEnd name b
theorem on_attrs : ∀ (l o : List Att) (b : Bd), Onward b (attrsF l o b).2
  | [], o, b => Onward.refl _
  | a :: l, o, b => by
    unfold attrsF
    split
    · exact on_attrs l _ b
    · exact (on_fault 5 b).trans (on_attrs l o _)
theorem on_start (t : Tok) (b : Bd) : Onward b (startR t b) := by
  unfold startR
  split
  · simp only
    have h := ((on_firstR t.name b).trans (on_attrs t.attrs [] (firstR t.name b))).trans (on_item ⟨0, 1, t.name, [], (attrsF t.attrs [] (firstR t.name b)).1⟩ _)
    split
    · exact h.trans (Onward.same rfl rfl)
    · exact h
  · exact on_fault _ _
theorem on_stop (name : List UInt8) (b : Bd) : Onward b (stopR name b) := by
  unfold stopR
  simp only
  generalize nearR (if headsL.contains name = true then headsL else [name]) [w "template"] b.opn = k
  generalize (!decide (b.opn.getD k.toNat [] = name) || (b.opn.drop (k.toNat + 1)).any fun x => !lastsL.contains x) = c
  split
  · exact (on_fault _ _).trans (on_item _ _)
  split
  · exact on_fault _ _
  · refine Onward.trans ?_ (on_end _ _)
    split
    · exact on_fault _ _
    · exact Onward.refl _
theorem on_tok (t : Tok) (b : Bd) : Onward b (tokB t b) := by
  have h0 : Onward b { b with at_ := t.pos } := Onward.same rfl rfl
  refine h0.trans ?_
  unfold tokB
  simp only
  split
  · exact on_start _ _
  split
  · exact on_stop _ _
  split
  · split
    · exact Onward.refl _
    · exact on_item _ _
  split
  · exact on_item _ _
  split
  · split
    · exact on_item _ _
    · exact on_fault _ _
  · exact Onward.refl _
theorem on_fold : ∀ (l : List Tok) (b : Bd), Onward b (l.foldl (fun b t => tokB t b) b)
  | [], b => Onward.refl b
  | t :: l, b => (on_tok t b).trans (on_fold l _)
theorem build_front (l : List Tok) (n : Nat) : Onward (buildB (l.take n)) (buildB l) := by
  have h := on_fold (l.drop n) (buildB (l.take n))
  rw [buildB, ← List.foldl_append, List.take_append_drop] at h
  exact h

/-! ### no item has more attributes than its token -/
def AttsLe (k : Nat) (b : Bd) : Prop := ∀ x ∈ b.items, x.attrs.length ≤ k
theorem atts_same {k : Nat} {b b' : Bd} (h : AttsLe k b) (e : b'.items = b.items) : AttsLe k b' := by unfold AttsLe; rw [e]; exact h
theorem atts_item {k : Nat} {b : Bd} (h : AttsLe k b) (x : Itm) (hx : x.attrs.length ≤ k) : AttsLe k (b.item x) := fun y hy => by
  simp only [Bd.item, List.mem_append, List.mem_singleton] at hy
  rcases hy with hy | rfl
  · exact h y hy
  · exact hx
theorem atts_tok {k : Nat} (t : Tok) (b : Bd) (h : AttsLe k b) (ht : t.attrs.length ≤ k) : AttsLe k (tokB t b) := by
  have h0 : AttsLe k { b with at_ := t.pos } := atts_same h rfl
  generalize hb : ({ b with at_ := t.pos } : Bd) = b0 at h0
  unfold tokB
  simp only [hb]
  split
  · unfold startR
    split
    · simp only
      have h1 : AttsLe k (firstR t.name b0) := atts_same h0 (firstR_len t.name b0).2.1
      have ha := attrsF_len t.attrs [] (firstR t.name b0)
      have h2 : AttsLe k (attrsF t.attrs [] (firstR t.name b0)).2 := atts_same h1 ha.2.2.1
      have h3 := atts_item h2 ⟨0, 1, t.name, [], (attrsF t.attrs [] (firstR t.name b0)).1⟩ (by
        have := ha.1
        simp only [List.length_nil] at this
        show (attrsF t.attrs [] (firstR t.name b0)).1.length ≤ k
        omega)
      split
      · exact atts_same h3 rfl
      · exact h3
    · exact atts_same h0 rfl
  split
  · unfold stopR
    simp only
    generalize nearR (if headsL.contains t.name = true then headsL else [t.name]) [w "template"] b0.opn = kk
    generalize (!decide (b0.opn.getD kk.toNat [] = t.name) || (b0.opn.drop (kk.toNat + 1)).any fun x => !lastsL.contains x) = cc
    split
    · exact atts_item (atts_same h0 rfl) _ (Nat.zero_le _)
    split
    · exact atts_same h0 rfl
    · refine atts_same h0 ?_
      rw [(end_len _ _).2.1]
      split <;> rfl
  split
  · split
    · exact h0
    · exact atts_item h0 _ (Nat.zero_le _)
  split
  · exact atts_item h0 _ (Nat.zero_le _)
  split
  · split
    · exact atts_item h0 _ (Nat.zero_le _)
    · exact atts_same h0 rfl
  · exact h0
theorem atts_fold {k : Nat} : ∀ (l : List Tok) (b : Bd), AttsLe k b → (∀ t ∈ l, t.attrs.length ≤ k) → AttsLe k (l.foldl (fun b t => tokB t b) b)
  | [], _, h, _ => h
  | t :: l, b, h, ht => atts_fold l _ (atts_tok t b h (ht t (List.mem_cons_self ..))) fun u hu => ht u (List.mem_cons_of_mem _ hu)
theorem build_small (l : List Tok) (hl : l.length ≤ 5000) (ha : ∀ t ∈ l, t.attrs.length ≤ 50) : tooBig (buildB l) = false ∧ (buildB l).items.length ≤ l.length ∧ (buildB l).faults.length ≤ 102 * l.length := by
  have h1 := buildTo_le l (fun t ht => by have := ha t ht; omega) l.length (Nat.le_refl _)
  rw [buildTo, List.take_length] at h1
  have h2 : AttsLe 50 (buildB l) := atts_fold l bd0 (fun x hx => by cases hx) ha
  refine ⟨?_, h1.2.1, h1.2.2⟩
  unfold tooBig
  rw [Bool.or_eq_false_iff]
  refine ⟨decide_eq_false (by omega), ?_⟩
  rw [List.any_eq_false]
  intro x hx
  have := h2 x hx
  simpa using this
end Go.Proofs.YtdpjmfipgkblfaaGreatDoor
