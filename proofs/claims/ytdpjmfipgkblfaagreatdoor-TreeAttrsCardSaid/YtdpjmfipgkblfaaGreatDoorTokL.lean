/- Bounds of the document's answers for layers 4 and 6; no program is in sight. -/
import Derived.Test.YtdpjmfipgkblfaaGreatDoorTokR
set_option linter.unusedSimpArgs false
namespace Go.Proofs.YtdpjmfipgkblfaaGreatDoor
open Go Go.V

theorem uenc_len (z : Int) : (uenc z).length ≤ 4 := by
  unfold uenc Utf8.encode
  dsimp only
  generalize (if Utf8.valid z = true then z.toNat else Utf8.runeError) = c
  by_cases h1 : c < 0x80
  · rw [if_pos h1]; simp
  by_cases h2 : c < 0x800
  · rw [if_neg h1, if_pos h2]; simp
  by_cases h3 : c < 0x10000
  · rw [if_neg h1, if_neg h2, if_pos h3]; simp
  · rw [if_neg h1, if_neg h2, if_neg h3]; simp
theorem startsAt_len {s t : List UInt8} {i : Nat} (h : startsAt s i t = true) : i + t.length ≤ s.length := by
  simp only [startsAt, Bool.and_eq_true, decide_eq_true_eq] at h
  exact h.1
theorem numF_le (s : List UInt8) (base : Int) : ∀ (k i : Nat) (n : Int), i ≤ (numF s base k i n).1 ∧ (numF s base k i n).1 ≤ i + k
  | 0, i, n => ⟨Nat.le_refl _, Nat.le_refl _⟩
  | k + 1, i, n => by
    unfold numF
    split
    · have := numF_le s base k (i + 1) (if 1114112 < n * base + digitZ ((bAt s i).toNat : Int) base then 1114112 else n * base + digitZ ((bAt s i).toNat : Int) base)
      omega
    · simp
theorem numFin_le (p i : Nat) (n : Int) (f : Nat) (hf : f ≤ 2) : (numFin p i n f).2.1 = i - p ∧ (numFin p i n f).2.2 ≤ 2 ∧ (numFin p i n f).1.length ≤ 4 := by
  unfold numFin
  have h1 := uenc_len (winCodes.getD (n - 128).toNat 0)
  have h2 := uenc_len n
  by_cases h3 : n = 0 ∨ 1114111 < n ∨ (55296 ≤ n ∧ n ≤ 57343)
  · rw [if_pos h3]; exact ⟨rfl, Nat.le_refl _, by simp⟩
  by_cases h4 : 128 ≤ n ∧ n ≤ 159
  · rw [if_neg h3, if_pos h4]; exact ⟨rfl, Nat.le_refl _, h1⟩
  · rw [if_neg h3, if_neg h4]; exact ⟨rfl, hf, h2⟩
theorem numRes_le (s : List UInt8) (p fr : Nat) (base : Int) (hp : p ≤ fr) (hf : fr ≤ s.length) : p + (numRes s p fr base).2.1 ≤ s.length ∧ (numRes s p fr base).2.2 ≤ 2 ∧ (numRes s p fr base).1.length ≤ 4 := by
  have h := numF_le s base (s.length - fr) fr 0
  unfold numRes
  simp only
  split
  · exact ⟨by simp only; omega, by simp, by simp⟩
  split
  · have := numFin_le p ((numF s base (s.length - fr) fr 0).1 + 1) (numF s base (s.length - fr) fr 0).2 0 (by omega)
    rw [this.1]
    exact ⟨by omega, this.2⟩
  · have := numFin_le p ((numF s base (s.length - fr) fr 0).1) (numF s base (s.length - fr) fr 0).2 1 (by omega)
    rw [this.1]
    exact ⟨by omega, this.2⟩
theorem tk_no {s : List UInt8} {p k : Nat} (h : startsAt s (p + 1) (refNames.getD k []) = false) : takeK s p (k + 1) = takeK s p k := by
  rw [takeK, takeStep, if_neg (by rw [h]; simp)]
theorem tk_end {s : List UInt8} {p k : Nat} (h : startsAt s (p + 1) (refNames.getD k []) = true) (h5 : startsAt s (p + (1 + (refNames.getD k []).length)) [59] = true) (h6 : (takeK s p k).1 < 1 + ((refNames.getD k []).length + 1)) :
    takeK s p (k + 1) = (1 + ((refNames.getD k []).length + 1), uenc (refCodes.getD k 0), 0) := by
  rw [takeK, takeStep, if_pos h, if_pos ⟨by simp only [h5, if_true]; omega, .inl h5⟩]
  simp only [h5, if_true, Nat.add_assoc]
theorem tk_end_no {s : List UInt8} {p k : Nat} (h : startsAt s (p + 1) (refNames.getD k []) = true) (h5 : startsAt s (p + (1 + (refNames.getD k []).length)) [59] = true) (h6 : ¬ (takeK s p k).1 < 1 + ((refNames.getD k []).length + 1)) :
    takeK s p (k + 1) = takeK s p k := by
  rw [takeK, takeStep, if_pos h, if_neg (by simp only [h5, if_true]; omega)]
theorem tk_bare {s : List UInt8} {p k : Nat} (h : startsAt s (p + 1) (refNames.getD k []) = true) (h5 : startsAt s (p + (1 + (refNames.getD k []).length)) [59] = false) (h6 : (takeK s p k).1 < 1 + (refNames.getD k []).length ∧ refBare.getD k 0 = 98) :
    takeK s p (k + 1) = (1 + (refNames.getD k []).length, uenc (refCodes.getD k 0), 1) := by
  rw [takeK, takeStep, if_pos h, if_pos ⟨by simp only [h5]; exact h6.1, .inr h6.2⟩]
  simp only [h5]
  rfl
theorem tk_bare_no {s : List UInt8} {p k : Nat} (h : startsAt s (p + 1) (refNames.getD k []) = true) (h5 : startsAt s (p + (1 + (refNames.getD k []).length)) [59] = false) (h6 : (takeK s p k).1 < 1 + (refNames.getD k []).length → ¬ refBare.getD k 0 = 98) :
    takeK s p (k + 1) = takeK s p k := by
  rw [takeK, takeStep, if_pos h, if_neg]
  simp only [h5]
  rintro ⟨h7, h8⟩
  exact h8.elim (fun h => by cases h) (h6 h7)
theorem takeK_len (s : List UInt8) (p : Nat) (hp : p ≤ s.length) : ∀ k, p + (takeK s p k).1 ≤ s.length ∧ (takeK s p k).2.2 ≤ 2 ∧ (takeK s p k).2.1.length ≤ 4
  | 0 => ⟨hp, by simp [takeK], by simp [takeK]⟩
  | k + 1 => by
    have ih := takeK_len s p hp k
    have hu := uenc_len (refCodes.getD k 0)
    cases h1 : startsAt s (p + 1) (refNames.getD k []) with
    | false => rw [tk_no h1]; exact ih
    | true =>
      have h1' := startsAt_len h1
      cases h3 : startsAt s (p + (1 + (refNames.getD k []).length)) [59] with
      | true =>
        have h3' := startsAt_len h3
        simp only [List.length_cons, List.length_nil] at h3'
        by_cases h6 : (takeK s p k).1 < 1 + ((refNames.getD k []).length + 1)
        · rw [tk_end h1 h3 h6]; exact ⟨by simp only; omega, Nat.zero_le _, hu⟩
        · rw [tk_end_no h1 h3 h6]; exact ih
      | false =>
        by_cases h6 : (takeK s p k).1 < 1 + (refNames.getD k []).length ∧ refBare.getD k 0 = 98
        · rw [tk_bare h1 h3 h6]; exact ⟨by simp only; omega, by simp only; omega, hu⟩
        · rw [tk_bare_no h1 h3 (fun h h' => h6 ⟨h, h'⟩)]; exact ih
theorem takeR_len (s : List UInt8) (p : Nat) (attr : Bool) (hp : p ≤ s.length) : p + (takeR s p attr).2.1 ≤ s.length ∧ (takeR s p attr).2.2 ≤ 2 ∧ (takeR s p attr).1.length ≤ 4 := by
  unfold takeR
  split
  · split
    · rename_i h
      unfold numericR
      split
      · exact numRes_le s p _ 16 (by omega) (by omega)
      · exact numRes_le s p _ 10 (by omega) (by omega)
    · simp only
      split
      · exact ⟨hp, by simp, by simp⟩
      · have := takeK_len s p hp 22
        exact this
  · exact ⟨hp, by simp, by simp⟩
theorem allF_len (s : List UInt8) (attr : Bool) : ∀ (k i : Nat), (allF s attr k i).length ≤ 4 * k
  | 0, _ => by simp [allF]
  | k + 1, i => by
    unfold allF
    split
    · split
      · have h1 := allF_len s attr k (i + (takeR s i attr).2.1)
        have h2 := takeR_len s i attr (by omega)
        simp only [List.length_append]; omega
      · have := allF_len s attr k (i + 1)
        simp only [List.length_cons]; omega
    · simp
theorem allR_len (s : List UInt8) (attr : Bool) : (allR s attr).length ≤ 4 * s.length := allF_len s attr _ _
end Go.Proofs.YtdpjmfipgkblfaaGreatDoor
