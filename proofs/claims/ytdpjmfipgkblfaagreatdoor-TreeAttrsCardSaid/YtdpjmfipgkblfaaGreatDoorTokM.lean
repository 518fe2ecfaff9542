/- Bounds of what the reader of layer 6 does; no program is in sight. -/
import Derived.Test.YtdpjmfipgkblfaaGreatDoorTokL
set_option linter.unusedSimpArgs false
namespace Go.Proofs.YtdpjmfipgkblfaaGreatDoor
open Go Go.V

theorem find_bd {s : List UInt8} {c : UInt8} {i : Nat} (h : i ≤ s.length) : i ≤ findB s c i ∧ findB s c i ≤ s.length := ⟨scan_ge _ _ _, scan_le _ _ _ h⟩
theorem blanks_bd {s : List UInt8} {i : Nat} (h : i ≤ s.length) : i ≤ blanksE s i ∧ blanksE s i ≤ s.length := ⟨scan_ge _ _ _, scan_le _ _ _ h⟩
theorem word_bd {e s : List UInt8} {i : Nat} (h : i ≤ s.length) : i ≤ wordE e s i ∧ wordE e s i ≤ s.length := ⟨scan_ge _ _ _, scan_le _ _ _ h⟩
theorem space_bd {s : List UInt8} {i : Nat} (h : i ≤ s.length) : i ≤ spaceE s i ∧ spaceE s i ≤ s.length := ⟨scan_ge _ _ _, scan_le _ _ _ h⟩
theorem raw_bd {s name : List UInt8} {i : Nat} (h : i ≤ s.length) : i ≤ rawE s name i ∧ rawE s name i ≤ s.length := ⟨scan_ge _ _ _, scan_le _ _ _ h⟩
theorem comment_bd {s : List UInt8} {i : Nat} (h : i ≤ s.length) : i ≤ commentE s i ∧ commentE s i ≤ s.length := ⟨scan_ge _ _ _, scan_le _ _ _ h⟩
theorem looksAt_len {s t : List UInt8} {i : Nat} (h : looksAt s i t = true) : i + t.length ≤ s.length := by
  simp only [looksAt, Bool.and_eq_true, decide_eq_true_eq] at h
  exact h.1
/-- What goes on: the place, what came. -/
structure Grows (s : List UInt8) (d : Nat) (r r' : Rd) : Prop where
  lo : r.at_ ≤ r'.at_
  hi : r'.at_ ≤ s.length
  f : r'.f.length ≤ r.f.length + 3 * (r'.at_ - r.at_) + d
  t : r'.t = r.t
  text : r'.text = r.text
theorem valueR_grows {s : List UInt8} {r : Rd} (h : r.at_ ≤ s.length) : Grows s 1 r (valueR s r).2 ∧ ((valueR s r).1.2 = false → (valueR s r).2.at_ = s.length) := by
  have hb := blanks_bd h
  have hw := word_bd (e := [62]) hb.2
  simp only [valueR]
  by_cases h1 : blanksE s r.at_ = s.length
  · rw [if_pos h1]; exact ⟨⟨hb.1, hb.2, by simp only [Rd.to]; omega, rfl, rfl⟩, by simp⟩
  rw [if_neg h1]
  by_cases h2 : bAt s (blanksE s r.at_) = 62
  · rw [if_pos h2]; exact ⟨⟨hb.1, hb.2, by simp only [Rd.fault, Rd.to, List.length_append, List.length_cons, List.length_nil]; omega, rfl, rfl⟩, by simp⟩
  rw [if_neg h2]
  split
  · exact ⟨⟨by simp only [Rd.to]; omega, hw.2, by simp only [Rd.to]; omega, rfl, rfl⟩, by simp⟩
  · have hf := find_bd (s := s) (c := bAt s (blanksE s r.at_)) (i := blanksE s r.at_ + 1) (by omega)
    refine ⟨⟨by simp only [Rd.to]; omega, by simp only [Rd.to]; omega, by simp only [Rd.to]; omega, rfl, rfl⟩, ?_⟩
    simp only [Rd.to, decide_eq_false_iff_not]
    omega
theorem attrFin_grows {s : List UInt8} {p : Nat} {name value : List UInt8} {l : List Att} {r : Rd} (h : r.at_ ≤ s.length) : Grows s 1 r (attrFin p name value l r).2 := by
  unfold attrFin
  split
  · exact ⟨Nat.le_refl _, h, by simp only [Rd.fault, List.length_append, List.length_cons, List.length_nil]; omega, rfl, rfl⟩
  · exact ⟨Nat.le_refl _, h, by simp only; omega, rfl, rfl⟩
theorem attrFin_ok {p : Nat} {name value : List UInt8} {l : List Att} {r : Rd} : (attrFin p name value l r).1.2 = true := by
  unfold attrFin
  split <;> rfl
theorem attrFin_len {p : Nat} {name value : List UInt8} {l : List Att} {r : Rd} (h : l.length ≤ 50) : (attrFin p name value l r).1.1.length ≤ 50 := by
  unfold attrFin
  split
  · exact h
  · rename_i h1
    simp only [thereR, Bool.or_eq_true, decide_eq_true_eq, not_or] at h1
    simp only [List.length_append, List.length_cons, List.length_nil]
    omega
theorem to_at (i : Nat) (r : Rd) : (r.to i).at_ = i := rfl
theorem to_f (i : Nat) (r : Rd) : (r.to i).f = r.f := rfl
theorem to_t (i : Nat) (r : Rd) : (r.to i).t = r.t := rfl
theorem to_text (i : Nat) (r : Rd) : (r.to i).text = r.text := rfl
theorem attrR_grows {s : List UInt8} {l : List Att} {r : Rd} (h : r.at_ < s.length) : r.at_ < (attrR s l r).2.at_ ∧ Grows s 0 r (attrR s l r).2 := by
  obtain ⟨r1, h1, hat, hf, ht, htx⟩ : ∃ r1, r1 = (if bAt s r.at_ = 61 then r.fault 5 r.at_ else r) ∧ r1.at_ = r.at_ ∧ r1.f.length ≤ r.f.length + 1 ∧ r1.t = r.t ∧ r1.text = r.text := by
    refine ⟨_, rfl, ?_⟩
    split
    · exact ⟨rfl, by simp [Rd.fault], rfl, rfl⟩
    · exact ⟨rfl, by omega, rfl, rfl⟩
  have hw := word_bd (e := [47, 62, 61]) (s := s) (i := r.at_ + 1) h
  have hb := blanks_bd hw.2
  simp only [attrR]
  rw [← h1]
  split
  · rename_i hl
    have hl := looksAt_len hl
    simp only [List.length_cons, List.length_nil] at hl
    have hv := valueR_grows (s := s) (r := r1.to (blanksE s (wordE [47, 62, 61] s (r.at_ + 1)) + 1)) hl
    obtain ⟨⟨a1, a2, a3, a4, a5⟩, a6⟩ := hv
    simp only [to_at, to_f, to_t, to_text] at a1 a3 a4 a5
    split
    · have hg := attrFin_grows (s := s) (p := r.at_) (name := cleanL (lowerL (sub s r.at_ (r.at_ + 1))) ++ nameR [47, 62, 61] s (r.at_ + 1)) (value := (valueR s (r1.to (blanksE s (wordE [47, 62, 61] s (r.at_ + 1)) + 1))).1.1) (l := l) a2
      obtain ⟨b1, b2, b3, b4, b5⟩ := hg
      exact ⟨by omega, by omega, b2, by omega, by rw [b4, a4, ht], by rw [b5, a5, htx]⟩
    · simp only [to_at, to_f, to_t, to_text] at *
      exact ⟨by omega, by omega, a2, by omega, by rw [a4, ht], by rw [a5, htx]⟩
  · have hg := attrFin_grows (s := s) (p := r.at_) (name := cleanL (lowerL (sub s r.at_ (r.at_ + 1))) ++ nameR [47, 62, 61] s (r.at_ + 1)) (value := []) (l := l) (r := r1.to (blanksE s (wordE [47, 62, 61] s (r.at_ + 1)))) hb.2
    obtain ⟨b1, b2, b3, b4, b5⟩ := hg
    simp only [to_at, to_f, to_t, to_text] at b1 b3 b4 b5
    exact ⟨by omega, by omega, b2, by omega, by rw [b4, ht], by rw [b5, htx]⟩
theorem attrR_len {s : List UInt8} {l : List Att} {r : Rd} (h : l.length ≤ 50) : (attrR s l r).1.1.length ≤ 50 := by
  simp only [attrR]
  generalize (if bAt s r.at_ = 61 then r.fault 5 r.at_ else r) = r1
  split
  · split
    · exact attrFin_len h
    · exact h
  · exact attrFin_len h
theorem tagF_grows {s : List UInt8} : ∀ (k : Nat) (l : List Att) (r : Rd), r.at_ ≤ s.length → l.length ≤ 50 → Grows s 1 r (tagF s k l r).2 ∧ ∀ a, (tagF s k l r).1 = some a → a.1.length ≤ 50
  | 0, l, r, h, hl => ⟨⟨Nat.le_refl _, h, by simp only [tagF]; omega, rfl, rfl⟩, by simp [tagF]⟩
  | k + 1, l, r, h, hl => by
    have hb := space_bd h
    simp only [tagF]
    split
    · exact ⟨⟨hb.1, hb.2, by simp only [Rd.fault, Rd.to, List.length_append, List.length_cons, List.length_nil]; omega, rfl, rfl⟩, by simp⟩
    rename_i h1
    split
    · exact ⟨⟨by simp only [Rd.to]; omega, by simp only [Rd.to]; omega, by simp only [Rd.to]; omega, rfl, rfl⟩, by simp only [Option.some.injEq]; rintro a rfl; exact hl⟩
    have ha := attrR_grows (s := s) (l := l) (r := r.to (spaceE s r.at_)) (by simp only [Rd.to]; omega)
    obtain ⟨a0, a1, a2, a3, a4, a5⟩ := ha
    simp only [to_at, to_f, to_t, to_text] at a0 a1 a3 a4 a5
    split
    · obtain ⟨⟨b1, b2, b3, b4, b5⟩, b6⟩ := tagF_grows k (attrR s l (r.to (spaceE s r.at_))).1.1 (attrR s l (r.to (spaceE s r.at_))).2 a2 (attrR_len hl)
      exact ⟨⟨by omega, b2, by omega, by rw [b4, a4], by rw [b5, a5]⟩, b6⟩
    · simp only [to_at, to_f, to_t, to_text] at *
      exact ⟨⟨by simp only [to_at]; omega, Nat.le_refl _, by simp only [to_at, to_f]; simp only [Rd.fault, List.length_append, List.length_cons, List.length_nil]; omega, a4, a5⟩, by simp⟩
/-- The reader's state is no greater than what was read. -/
structure RdOk (s : List UInt8) (r : Rd) : Prop where
  at_ : r.at_ ≤ s.length
  t : r.t.length ≤ 3 * r.at_
  f : r.f.length ≤ 4 * r.at_
  text : r.text.length ≤ 4 * r.at_
  attrs : ∀ x ∈ r.t, x.attrs.length ≤ 50
theorem done_t (r : Rd) : r.done.t.length ≤ r.t.length + 1 ∧ ((∀ x ∈ r.t, x.attrs.length ≤ 50) → ∀ x ∈ r.done.t, x.attrs.length ≤ 50) := by
  simp only [Rd.done]
  split
  · exact ⟨by omega, fun h => h⟩
  · refine ⟨by simp, fun h x hx => ?_⟩
    rcases List.mem_append.1 hx with hx | hx
    · exact h x hx
    · simp only [List.mem_singleton] at hx
      subst hx
      simp
theorem scan_first {q : Nat → Bool} {n i : Nat} (j : Nat) (h1 : i ≤ j) (h2 : j < scan q n i) : q j = true := by
  unfold scan at h2
  generalize n - i = k at h2
  induction k generalizing i with
  | zero => simp only [scanF] at h2; omega
  | succ k ih =>
    unfold scanF at h2
    cases hq : q i with
    | false => rw [hq] at h2; simp at h2; omega
    | true =>
      rw [hq, if_pos rfl] at h2
      rcases Nat.eq_or_lt_of_le h1 with rfl | h1
      · exact hq
      · exact ih h1 h2
theorem looksAt_byte {s t : List UInt8} {i : Nat} (h : looksAt s i t = true) {k : Nat} (hk : k < t.length) (hs : t.getD k 0 < 97) : bAt s (i + k) = t.getD k 0 := by
  have hl := looksAt_len h
  simp only [looksAt, Bool.and_eq_true, decide_eq_true_eq] at h
  have h2 : (lowerL ((s.drop i).take t.length)).getD k 0 = t.getD k 0 := by rw [h.2]
  have h3 : (lowerL ((s.drop i).take t.length)).getD k 0 = smallB (bAt s (i + k)) := by
    simp only [lowerL, List.getD, List.getElem?_map, bAt]
    rw [List.getElem?_take_of_lt hk, List.getElem?_drop]
    simp [List.getElem?_eq_getElem (show i + k < s.length by omega)]
  rw [h3] at h2
  rw [← h2] at hs ⊢
  unfold smallB at hs ⊢
  split
  · rename_i hc
    rw [if_pos hc] at hs
    have h4 : (bAt s (i + k) + 32).toNat = (bAt s (i + k)).toNat + 32 := by rw [UInt8.toNat_add]; show ((bAt s (i + k)).toNat + 32) % 256 = _; omega
    have h5 : (bAt s (i + k) + 32).toNat < 97 := by simpa using UInt8.lt_iff_toNat_lt.1 hs
    omega
  · rfl
/-- A step's end. -/
theorem RdOk.step {s : List UInt8} {r r' : Rd} (h : RdOk s r) (h1 : r.at_ < r'.at_) (h2 : r'.at_ ≤ s.length) (ht : r'.t.length ≤ r.t.length + 3) (hf : r'.f.length ≤ r.f.length + 4 * (r'.at_ - r.at_)) (hx : r'.text.length ≤ r.text.length + 4 * (r'.at_ - r.at_))
    (ha : ∀ x ∈ r'.t, x ∈ r.done.t ∨ x.attrs.length ≤ 50) : RdOk s r' ∧ r.at_ < r'.at_ := by
  obtain ⟨a1, a2, a3, a4, a5⟩ := h
  refine ⟨⟨h2, by omega, by omega, by omega, fun x hx => ?_⟩, h1⟩
  rcases ha x hx with h | h
  · exact (done_t r).2 a5 x h
  · exact h
theorem done_text (r : Rd) : r.done.text = [] := rfl
theorem noteR_ok {s : List UInt8} {k : Nat} {r : Rd} (h : RdOk s r) (hk1 : 1 ≤ k) (hk : r.at_ + k ≤ s.length) : RdOk s (noteR s k r) ∧ r.at_ < (noteR s k r).at_ := by
  have hd := done_t r
  have hf := find_bd (c := 62) hk
  have hat : (noteR s k r).at_ = min (findB s 62 (r.at_ + k) + 1) s.length := rfl
  have ht : (noteR s k r).t.length = r.done.t.length + 1 := by simp [noteR, Rd.to, Rd.tok, Rd.fault]
  have hff : (noteR s k r).f.length = r.f.length + 1 := by simp [noteR, Rd.to, Rd.tok, Rd.fault, Rd.done]
  refine h.step (by omega) (by omega) (by omega) (by omega) (by show ([] : List UInt8).length ≤ _; simp) fun x hx => ?_
  have hx : x ∈ r.done.t ++ [_] := hx
  rcases List.mem_append.1 hx with hx | hx
  · exact .inl hx
  · simp only [List.mem_singleton] at hx
    subst hx
    exact .inr (by simp)
theorem tok_mem {r : Rd} {x y : Tok} (hy : y.attrs = []) (hx : x ∈ (r.tok y).t) : x ∈ r.t ∨ x.attrs.length ≤ 50 := by
  have hx : x ∈ r.t ++ [y] := hx
  rcases List.mem_append.1 hx with hx | hx
  · exact .inl hx
  · simp only [List.mem_singleton] at hx
    subst hx
    rw [hy]
    exact .inr (by simp)
theorem tok_len (r : Rd) (y : Tok) : (r.tok y).t.length = r.t.length + 1 := by simp [Rd.tok]
theorem findB_at {s : List UInt8} {c : UInt8} {i : Nat} (h : bAt s i = c) : findB s c i = i := scan_stop fun _ => by simp only [h, decide_true, Bool.not_true]
theorem commentR_ok {s : List UInt8} {r : Rd} (h : RdOk s r) (hk : r.at_ + 4 ≤ s.length) : RdOk s (commentR s r) ∧ r.at_ < (commentR s r).at_ := by
  have hd := done_t r
  have hf := find_bd (c := 62) hk
  have hce := comment_bd hk
  simp only [commentR]
  split
  · rename_i hl
    have hlt : findB s 62 (r.at_ + 4) < s.length := by
      rcases Nat.lt_or_ge (findB s 62 (r.at_ + 4)) s.length with h1 | h1
      · exact h1
      exfalso
      have hall : ∀ j, r.at_ + 4 ≤ j → j < s.length → bAt s j ≠ 62 := by
        intro j hj hjl he
        have := scan_first (q := fun j => !decide (bAt s j = 62)) (n := s.length) (i := r.at_ + 4) j hj (by show j < findB s 62 (r.at_ + 4); omega)
        simp only [he, decide_true, Bool.not_true, Bool.false_eq_true] at this
      rcases Bool.or_eq_true _ _ ▸ hl with hl | hl
      · have h3 := looksAt_len hl
        simp only [List.length_cons, List.length_nil] at h3
        exact hall _ (Nat.le_refl _) (by omega) (looksAt_byte hl (k := 0) (by simp) (by simp))
      · have h3 := looksAt_len hl
        simp only [List.length_cons, List.length_nil] at h3
        exact hall (r.at_ + 4 + 1) (by omega) (by omega) (looksAt_byte hl (k := 1) (by simp) (by simp))
    refine h.step (by show r.at_ < findB s 62 (r.at_ + 4) + 1; omega) (by show findB s 62 (r.at_ + 4) + 1 ≤ _; omega) (by rw [tok_len]; show r.done.t.length + 1 ≤ _; omega) (by simp only [Rd.tok, Rd.to, Rd.fault, List.length_append, List.length_cons, List.length_nil]; show r.f.length + 1 ≤ _; omega) (by show ([] : List UInt8).length ≤ _; simp) fun x hx => tok_mem rfl hx
  · split
    · rename_i he
      refine h.step (by show r.at_ < commentE s (r.at_ + 4); omega) (by show commentE s (r.at_ + 4) ≤ _; omega) (by rw [tok_len]; show r.done.t.length + 1 ≤ _; omega) (by simp only [Rd.tok, Rd.to, Rd.fault, List.length_append, List.length_cons, List.length_nil]; show r.f.length + 1 ≤ _; omega) (by show ([] : List UInt8).length ≤ _; simp) fun x hx => tok_mem rfl hx
    · rename_i he
      have hlt : commentE s (r.at_ + 4) < s.length := by omega
      have hq := scan_lt (q := fun j => !looksAt s j [45, 45, 62] && !looksAt s j [45, 45, 33, 62]) (i := r.at_ + 4) hlt
      split
      · rename_i h3
        have h3 := looksAt_len h3
        simp only [List.length_cons, List.length_nil] at h3
        refine h.step (by show r.at_ < commentE s (r.at_ + 4) + 3; omega) (by show commentE s (r.at_ + 4) + 3 ≤ _; omega) (by rw [tok_len]; show r.done.t.length + 1 ≤ _; omega) (by simp only [Rd.tok, Rd.to]; show r.f.length ≤ _; omega) (by show ([] : List UInt8).length ≤ _; simp) fun x hx => tok_mem rfl hx
      · rename_i h3
        have h4 : looksAt s (commentE s (r.at_ + 4)) [45, 45, 33, 62] = true := by
          change (!looksAt s (commentE s (r.at_ + 4)) [45, 45, 62] && !looksAt s (commentE s (r.at_ + 4)) [45, 45, 33, 62]) = false at hq
          simp only [Bool.not_eq_true] at h3
          rw [h3] at hq
          simpa using hq
        have h4 := looksAt_len h4
        simp only [List.length_cons, List.length_nil] at h4
        refine h.step (by show r.at_ < commentE s (r.at_ + 4) + 4; omega) (by show commentE s (r.at_ + 4) + 4 ≤ _; omega) (by rw [tok_len]; show r.done.t.length + 1 ≤ _; omega) (by simp only [Rd.tok, Rd.to, Rd.fault, List.length_append, List.length_cons, List.length_nil]; show r.f.length + 1 ≤ _; omega) (by show ([] : List UInt8).length ≤ _; simp) fun x hx => tok_mem rfl hx
theorem doctypeR_ok {s : List UInt8} {r : Rd} (h : RdOk s r) (hk : r.at_ + 9 ≤ s.length) : RdOk s (doctypeR s r) ∧ r.at_ < (doctypeR s r).at_ := by
  have hd := done_t r
  have hb := blanks_bd hk
  have hw := word_bd (e := [62]) hb.2
  have hf := find_bd (c := 62) hw.2
  simp only [doctypeR]
  split
  · refine h.step (by simp only [Rd.tok, Rd.to]; omega) (by simp only [Rd.tok, Rd.to]; omega) (by rw [tok_len]; show r.done.t.length + 1 ≤ _; omega) (by simp only [Rd.tok, Rd.to, Rd.fault, List.length_append, List.length_cons, List.length_nil]; show r.f.length + 1 ≤ _; omega) (by show ([] : List UInt8).length ≤ _; simp) fun x hx => tok_mem rfl hx
  · refine h.step (by simp only [Rd.tok, Rd.to]; omega) (by simp only [Rd.tok, Rd.to]; omega) (by rw [tok_len]; show r.done.t.length + 1 ≤ _; omega) (by simp only [Rd.tok, Rd.to]; show r.f.length ≤ _; omega) (by show ([] : List UInt8).length ≤ _; simp) fun x hx => tok_mem rfl hx
theorem rawR_grows {s name : List UInt8} {soft : Bool} {r : Rd} (h : r.at_ ≤ s.length) : r.at_ ≤ (rawR s name soft r).at_ ∧ (rawR s name soft r).at_ ≤ s.length ∧ (rawR s name soft r).t.length ≤ r.t.length + 1 ∧ (rawR s name soft r).f = r.f ∧ (rawR s name soft r).text = r.text ∧ ∀ x ∈ (rawR s name soft r).t, x ∈ r.t ∨ x.attrs.length ≤ 50 := by
  have hb := raw_bd (name := name) h
  simp only [rawR]
  generalize (if soft = true then allR (cleanL (sub s r.at_ (rawE s name r.at_))) false else cleanL (sub s r.at_ (rawE s name r.at_))) = d
  split
  · exact ⟨hb.1, hb.2, by show r.t.length ≤ _; omega, rfl, rfl, fun x hx => .inl hx⟩
  · exact ⟨hb.1, hb.2, by rw [tok_len]; exact Nat.le_refl _, rfl, rfl, fun x hx => tok_mem rfl hx⟩
theorem tagR_ok {s : List UInt8} {kind n : Nat} {r : Rd} (h : RdOk s r) (hn : 1 ≤ n) (hk : r.at_ + n ≤ s.length) : RdOk s (tagR s kind n r) ∧ r.at_ < (tagR s kind n r).at_ := by
  have hd := done_t r
  have hw := word_bd (e := [47, 62]) hk
  obtain ⟨hg, hl⟩ := tagF_grows (s := s) (s.length + 1) [] (r.done.to (wordE [47, 62] s (r.at_ + n))) hw.2 (by simp)
  unfold tagR
  simp only
  generalize tagF s (s.length + 1) [] (r.done.to (wordE [47, 62] s (r.at_ + n))) = q at hg hl
  obtain ⟨a1, a2, a3, a4, a5⟩ := hg
  have b1 : wordE [47, 62] s (r.at_ + n) ≤ q.2.at_ := a1
  have b3 : q.2.f.length ≤ r.f.length + 3 * (q.2.at_ - wordE [47, 62] s (r.at_ + n)) + 1 := a3
  have b4 : q.2.t = r.done.t := a4
  have b5 : q.2.text = [] := a5
  obtain ⟨o, r'⟩ := q
  simp only at a1 a2 a3 b1 b3 b4 b5 hl
  cases o with
  | none =>
    refine h.step (by simp only; omega) a2 (by simp only [b4]; omega) (by simp only; omega) (by simp only [b5, List.length_nil]; omega) fun x hx => ?_
    simp only [b4] at hx
    exact .inl hx
  | some a =>
    simp only
    have hmem : ∀ y : Tok, y.attrs.length ≤ 50 → ∀ x ∈ (r'.tok y).t, x ∈ r.done.t ∨ x.attrs.length ≤ 50 := fun y hy x hx => by
      have hx : x ∈ r'.t ++ [y] := hx
      rcases List.mem_append.1 hx with hx | hx
      · exact .inl (b4 ▸ hx)
      · simp only [List.mem_singleton] at hx
        subst hx
        exact .inr hy
    obtain ⟨y, hy, hy2⟩ : ∃ y, y = (if kind = 2 then (⟨kind, nameR [47, 62] s (r.at_ + n), [], false, [], r.at_⟩ : Tok) else ⟨kind, nameR [47, 62] s (r.at_ + n), a.1, a.2, [], r.at_⟩) ∧ y.attrs.length ≤ 50 := by
      refine ⟨_, rfl, ?_⟩
      split
      · simp
      · exact hl a rfl
    rw [← hy]
    have ht1 := tok_len r' y
    rw [b4] at ht1
    split
    · have hr := rawR_grows (s := s) (name := nameR [47, 62] s (r.at_ + n)) (soft := softs.contains (nameR [47, 62] s (r.at_ + n))) (r := r'.tok y) a2
      obtain ⟨c1, c2, c3, c4, c5, c6⟩ := hr
      have c1 : r'.at_ ≤ _ := c1
      have c4 : _ = r'.f := c4
      have c5 : _ = r'.text := c5
      refine h.step (by omega) c2 (by omega) (by rw [c4]; omega) (by rw [c5, b5]; simp) fun x hx => ?_
      rcases c6 x hx with hx | hx
      · exact hmem y hy2 x hx
      · exact .inr hx
    · refine h.step (by show r.at_ < r'.at_; omega) a2 (by omega) (by show r'.f.length ≤ _ + 4 * (r'.at_ - r.at_); omega) (by show r'.text.length ≤ _; rw [b5]; simp) fun x hx => hmem y hy2 x hx
theorem more_ok {s : List UInt8} {r r' : Rd} {u : List UInt8} {n : Nat} (h : RdOk s r) (hn : 1 ≤ n) (hk : r.at_ + n ≤ s.length) (hu : u.length ≤ 4) (h1 : r'.at_ = r.at_) (h2 : r'.t = r.t) (h3 : r'.f.length ≤ r.f.length + 1) (h4 : r'.text = r.text) : RdOk s (r'.more u n) ∧ r.at_ < (r'.more u n).at_ := by
  obtain ⟨a1, a2, a3, a4, a5⟩ := h
  have e1 : (r'.more u n).at_ = r.at_ + n := by simp [Rd.more, h1]
  have e2 : (r'.more u n).t = r.t := h2
  have e3 : (r'.more u n).f = r'.f := rfl
  have e4 : (r'.more u n).text = r.text ++ u := by simp [Rd.more, h4]
  exact ⟨⟨by omega, by rw [e2]; omega, by rw [e3]; omega, by rw [e4, List.length_append]; omega, by rw [e2]; exact a5⟩, by omega⟩
theorem to_ok {s : List UInt8} {r r' : Rd} {i : Nat} (h : RdOk s r) (hn : r.at_ < i) (hk : i ≤ s.length) (h2 : r'.t = r.t) (h3 : r'.f.length ≤ r.f.length + 1) (h4 : r'.text = r.text) : RdOk s (r'.to i) ∧ r.at_ < (r'.to i).at_ := by
  obtain ⟨a1, a2, a3, a4, a5⟩ := h
  exact ⟨⟨hk, by rw [to_t, h2, to_at]; omega, by rw [to_f, to_at]; omega, by rw [to_text, h4, to_at]; omega, by rw [to_t, h2]; exact a5⟩, hn⟩
theorem fault_len (r : Rd) (k p : Nat) : (r.fault k p).f.length = r.f.length + 1 := by simp [Rd.fault]
theorem closesR_ok {s : List UInt8} {r : Rd} (h : RdOk s r) (hk : r.at_ + 2 ≤ s.length) : RdOk s (closesR s r) ∧ r.at_ < (closesR s r).at_ := by
  unfold closesR
  split
  · exact more_ok h (by omega) hk (by simp) rfl rfl (by rw [fault_len]; omega) rfl
  rename_i h1
  split
  · exact tagR_ok h (by omega) hk
  split
  · exact to_ok h (by omega) (by omega) rfl (by rw [fault_len]; omega) rfl
  · exact noteR_ok h (by omega) (by omega)
theorem opensR_ok {s : List UInt8} {r : Rd} (h : RdOk s r) (hk : r.at_ < s.length) : RdOk s (opensR s r) ∧ r.at_ < (opensR s r).at_ := by
  unfold opensR
  simp only
  generalize hc : (if r.at_ + 1 < s.length then bAt s (r.at_ + 1) else 0) = c
  have hlt : c ≠ 0 → r.at_ + 1 < s.length := fun hne => by
    rcases Nat.lt_or_ge (r.at_ + 1) s.length with h1 | h1
    · exact h1
    · rw [if_neg (by omega)] at hc; exact absurd hc.symm hne
  split
  · exact tagR_ok h (by omega) (by omega)
  split
  · rename_i h2
    have := hlt (by rw [h2]; decide)
    exact closesR_ok h (by omega)
  split
  · rename_i h2
    have := looksAt_len h2
    simp only [List.length_cons, List.length_nil] at this
    exact commentR_ok h this
  split
  · rename_i h2
    have := looksAt_len h2
    simp only [List.length_cons, List.length_nil] at this
    exact doctypeR_ok h this
  split
  · rename_i h2
    have := hlt (by rw [h2]; decide)
    exact noteR_ok h (by omega) (by omega)
  split
  · rename_i h2
    have := hlt (by rw [h2]; decide)
    exact noteR_ok h (by omega) (by omega)
  · exact more_ok h (by omega) (by omega) (by simp) rfl rfl (by rw [fault_len]; omega) rfl
theorem stepR_ok {s : List UInt8} {r : Rd} (h : RdOk s r) (hk : r.at_ < s.length) : RdOk s (stepR s r) ∧ r.at_ < (stepR s r).at_ := by
  have ht := takeR_len s r.at_ false (Nat.le_of_lt hk)
  unfold stepR
  split
  · exact opensR_ok h hk
  split
  · exact to_ok h (by omega) (by omega) rfl (by rw [fault_len]; omega) rfl
  split
  · simp only
    have h1 : ∀ k, (if (takeR s r.at_ false).2.2 = 0 then r else r.fault k r.at_).at_ = r.at_ ∧ (if (takeR s r.at_ false).2.2 = 0 then r else r.fault k r.at_).t = r.t ∧ (if (takeR s r.at_ false).2.2 = 0 then r else r.fault k r.at_).f.length ≤ r.f.length + 1 ∧ (if (takeR s r.at_ false).2.2 = 0 then r else r.fault k r.at_).text = r.text := by
      intro k
      split
      · exact ⟨rfl, rfl, by omega, rfl⟩
      · exact ⟨rfl, rfl, by rw [fault_len]; omega, rfl⟩
    obtain ⟨e1, e2, e3, e4⟩ := h1 (takeR s r.at_ false).2.2
    split
    · rename_i hp
      exact more_ok h hp ht.1 ht.2.2 e1 e2 e3 e4
    · exact more_ok h (by omega) (by omega) (by simp) e1 e2 e3 e4
  · exact more_ok h (by omega) (by omega) (by simp) rfl rfl (by omega) rfl
theorem tokF_ok {s : List UInt8} : ∀ (k : Nat) (r : Rd), RdOk s r → RdOk s (tokF s k r)
  | 0, r, h => h
  | k + 1, r, h => by
    unfold tokF
    split
    · rename_i hk
      exact tokF_ok k _ (stepR_ok h hk).1
    · exact h
theorem tokensT_ok (s : List UInt8) : (tokensT s).length ≤ 3 * s.length + 1 ∧ (tokensF s).length ≤ 4 * s.length ∧ ∀ x ∈ tokensT s, x.attrs.length ≤ 50 := by
  obtain ⟨a1, a2, a3, a4, a5⟩ := tokF_ok s.length (s := s) ⟨0, [], [], [], 0⟩ ⟨Nat.zero_le _, by simp, by simp, by simp, by simp⟩
  have hd := done_t (tokF s s.length ⟨0, [], [], [], 0⟩)
  refine ⟨?_, ?_, hd.2 a5⟩
  · have : (tokensT s).length ≤ _ := hd.1
    omega
  · have : (tokensF s).length = (tokF s s.length ⟨0, [], [], [], 0⟩).f.length := rfl
    omega
end Go.Proofs.YtdpjmfipgkblfaaGreatDoor
