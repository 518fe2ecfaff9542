/- Contracts of the document's answer for layer 3, by V: lists of words. -/
import Derived.Test.YtdpjmfipgkblfaaGreatDoorNamesD
set_option linter.unusedSimpArgs false
namespace Go.Proofs.YtdpjmfipgkblfaaGreatDoor
open Go Go.V
attribute [local irreducible] vc vcL vcP vcI vcO stOp Loops condP bx bx2 Meets Back

def splitSp : List UInt8 → List (List UInt8)
  | [] => [[]]
  | c :: l => if c = 32 then [] :: splitSp l else match splitSp l with
    | s :: ss => (c :: s) :: ss
    | [] => [[c]]
theorem splitSp_none : ∀ s : List UInt8, (∀ b ∈ s, b ≠ 32) → splitSp s = [s]
  | [], _ => rfl
  | c :: s, h => by
    have ih := splitSp_none s (fun b hb => h b (by simp [hb]))
    simp [splitSp, ih, h c (by simp)]
theorem splitSp_at : ∀ (s r : List UInt8), (∀ b ∈ s, b ≠ 32) → splitSp (s ++ 32 :: r) = s :: splitSp r
  | [], r, _ => by simp [splitSp]
  | c :: s, r, h => by
    have ih := splitSp_at s r (fun b hb => h b (by simp [hb]))
    simp [splitSp, ih, h c (by simp)]
def amongR (l x : List UInt8) : Bool := !x.isEmpty && (splitSp l).contains x

theorem take_step (l : List UInt8) (f i : Nat) (hf : f ≤ i) (h : i < l.length) : (l.drop f).take (i + 1 - f) = (l.drop f).take (i - f) ++ [l.getD i 0] := by
  rw [show i + 1 - f = (i - f) + 1 by omega, List.take_add_one]
  congr 1
  rw [List.getElem?_drop, show f + (i - f) = i by omega]
  simp [List.getD, h]
theorem drop_split (l : List UInt8) (f i : Nat) (hf : f ≤ i) (h : i < l.length) : l.drop f = (l.drop f).take (i - f) ++ l.getD i 0 :: l.drop (i + 1) := by
  have h1 : l.drop i = l.getD i 0 :: l.drop (i + 1) := by rw [List.drop_eq_getElem_cons h]; simp [List.getD, h]
  have h2 : (l.drop f).drop (i - f) = l.drop i := by rw [List.drop_drop]; congr 1; omega
  rw [← h1, ← h2, List.take_append_drop]

attribute [local go_sem] Nat.reduceAdd Nat.reduceSub Nat.reduceMul Nat.reduceLT Nat.reduceLeDiff Nat.reduceEqDiff Int.reduceEq Int.reduceLT Int.reduceLE
set_option maxRecDepth 10000 in
set_option maxHeartbeats 1000000 in
theorem ramong_meets (E : Env) (l x : List UInt8) (hl : l.length < 1073741824) (H : List Ent) : Meets E Tryz.prog 57 [.d (.str l), .d (.str x)] H (Ret (.d (.bool (amongR l x))) H) := by
  refine Meets.of_body mixed tok (plan := fun _ => .done) Tryz.func57 Tryz.call57 Tryz.ntmps57 Tryz.results57 rfl (by kernel_rfl) ?_
  simp -dsimp -implicitDefEqProofs (maxSteps := 2000000) only [go_sem]
  refine Loops.on (α := Nat × Nat) (fun p => (p.1 ≤ l.length ∧ p.2 ≤ p.1 ∧ (∀ b ∈ (l.drop p.2).take (p.1 - p.2), b ≠ 32) ∧ amongR l x = (!x.isEmpty && (splitSp (l.drop p.2)).contains x)) ∨ (p.1 = l.length + 1 ∧ amongR l x = false)) (fun p => l.length + 1 - p.1) (fun p => [(6, .d (.int .i64 p.1)), (5, .d (.int .i64 p.2)), (4, .d (.bool false))]) (fun _ => H) (0, 0) (.inl ⟨Nat.zero_le _, Nat.le_refl _, by simp, rfl⟩) ?_ ?_
  · exact Goes.slots (by simp -dsimp -implicitDefEqProofs (maxSteps := 2000000) only [go_sem]; exact ⟨.same rfl, .same rfl⟩) rfl
  rintro ⟨i, f⟩ hx
  simp -dsimp -implicitDefEqProofs (maxSteps := 2000000) only [go_sem]
  (refine condP_intro (fun h => ?_) (fun h => ?_) <;> (try simp only [Bool.and_eq_true, Bool.or_eq_true, Bool.not_eq_true', Bool.not_eq_false', Bool.or_eq_false_iff, Bool.and_eq_false_imp, decide_eq_true_eq, decide_eq_false_iff_not, Bool.not_eq_true, Bool.not_eq_false, Int.ofNat_lt, Int.ofNat_le] at h) <;> simp -dsimp -implicitDefEqProofs (maxSteps := 2000000) only [go_sem, h])
  · have hx := hx.resolve_right (by omega)
    obtain ⟨hi, hf, hno, heq⟩ := hx
    simp only at hi hf hno heq
    clear hx
    by_cases hil : i = l.length
    · subst hil
      have hall : (l.drop f).take (l.length - f) = l.drop f := List.take_of_length_le (by simp)
      rw [hall] at hno
      have hseg := splitSp_none _ hno
      rw [hseg] at heq
      simp -dsimp -implicitDefEqProofs (maxSteps := 2000000) only [go_sem, eq_self, hall]
      refine ⟨hf, ?_⟩
      (refine condP_intro (fun h4 => ?_) (fun h4 => ?_) <;> (try simp only [Bool.and_eq_true, Bool.or_eq_true, Bool.not_eq_true', Bool.not_eq_false', Bool.or_eq_false_iff, Bool.and_eq_false_imp, decide_eq_true_eq, decide_eq_false_iff_not, Bool.not_eq_true, Bool.not_eq_false, Int.ofNat_lt, Int.ofNat_le] at h4) <;> simp -dsimp -implicitDefEqProofs (maxSteps := 2000000) only [go_sem, h4])
      · (refine condP_intro (fun h5 => ?_) (fun h5 => ?_) <;> (try simp only [Bool.and_eq_true, Bool.or_eq_true, Bool.not_eq_true', Bool.not_eq_false', Bool.or_eq_false_iff, Bool.and_eq_false_imp, decide_eq_true_eq, decide_eq_false_iff_not, Bool.not_eq_true, Bool.not_eq_false, Int.ofNat_lt, Int.ofNat_le] at h5) <;> simp -dsimp -implicitDefEqProofs (maxSteps := 2000000) only [go_sem, h5])
        · refine Fin.ret (bool_av ?_) rfl
          rw [heq]; simp [h5, h4]
        · refine Back.mk (l.length + 1, l.length + 1) ⟨.inr ⟨rfl, ?_⟩, by simp only; omega⟩ (Goes.slots (by simp -dsimp -implicitDefEqProofs (maxSteps := 2000000) only [go_sem]; exact ⟨AvLe_str h5.symm, AvLe_int _ _ _ (addw_i64 (by omega) (by omega)), AvLe_int _ _ _ (addw_i64 (by omega) (by omega))⟩) rfl)
          rw [heq, h5]; rfl
      · refine Back.mk (l.length + 1, l.length + 1) ⟨.inr ⟨rfl, ?_⟩, by simp only; omega⟩ (Goes.slots (by simp -dsimp -implicitDefEqProofs (maxSteps := 2000000) only [go_sem]; exact ⟨AvLe_int _ _ _ (addw_i64 (by omega) (by omega)), AvLe_int _ _ _ (addw_i64 (by omega) (by omega))⟩) rfl)
        rw [heq]
        have : ¬ x = l.drop f := fun h => h4 h.symm
        simp [this]
    · have hlt : i < l.length := by omega
      have hne : ¬ ((i : Int) = (l.length : Int)) := by omega
      simp -dsimp -implicitDefEqProofs (maxSteps := 2000000) only [go_sem, hne, hlt]
      have hst := drop_split l f i hf hlt
      (refine condP_intro (fun h3 => ?_) (fun h3 => ?_) <;> (try simp only [Bool.and_eq_true, Bool.or_eq_true, Bool.not_eq_true', Bool.not_eq_false', Bool.or_eq_false_iff, Bool.and_eq_false_imp, decide_eq_true_eq, decide_eq_false_iff_not, Bool.not_eq_true, Bool.not_eq_false, Int.ofNat_lt, Int.ofNat_le] at h3) <;> simp -dsimp -implicitDefEqProofs (maxSteps := 2000000) only [go_sem, h3])
      · have h32 : l.getD i 0 = 32 := by
          apply UInt8.toNat_inj.1
          have : ((32 : UInt8)).toNat = 32 := rfl
          omega
        rw [h32] at hst
        have hseg := splitSp_at _ (l.drop (i + 1)) hno
        rw [hst, hseg] at heq
        refine ⟨hi, hf, ?_⟩
        (refine condP_intro (fun h4 => ?_) (fun h4 => ?_) <;> (try simp only [Bool.and_eq_true, Bool.or_eq_true, Bool.not_eq_true', Bool.not_eq_false', Bool.or_eq_false_iff, Bool.and_eq_false_imp, decide_eq_true_eq, decide_eq_false_iff_not, Bool.not_eq_true, Bool.not_eq_false, Int.ofNat_lt, Int.ofNat_le] at h4) <;> simp -dsimp -implicitDefEqProofs (maxSteps := 2000000) only [go_sem, h4])
        · (refine condP_intro (fun h5 => ?_) (fun h5 => ?_) <;> (try simp only [Bool.and_eq_true, Bool.or_eq_true, Bool.not_eq_true', Bool.not_eq_false', Bool.or_eq_false_iff, Bool.and_eq_false_imp, decide_eq_true_eq, decide_eq_false_iff_not, Bool.not_eq_true, Bool.not_eq_false, Int.ofNat_lt, Int.ofNat_le] at h5) <;> simp -dsimp -implicitDefEqProofs (maxSteps := 2000000) only [go_sem, h5])
          · refine Fin.ret (bool_av ?_) rfl
            rw [heq]; simp [h5, h4]
          · refine Back.mk (i + 1, i + 1) ⟨.inl ⟨hlt, Nat.le_refl _, by simp, ?_⟩, by simp only; omega⟩ (Goes.slots (by simp -dsimp -implicitDefEqProofs (maxSteps := 2000000) only [go_sem]; exact ⟨AvLe_str h5.symm, AvLe_int _ _ _ (addw_i64 (by omega) (by omega)), AvLe_int _ _ _ (addw_i64 (by omega) (by omega))⟩) rfl)
            rw [heq, h5]; rfl
        · refine Back.mk (i + 1, i + 1) ⟨.inl ⟨hlt, Nat.le_refl _, by simp, ?_⟩, by simp only; omega⟩ (Goes.slots (by simp -dsimp -implicitDefEqProofs (maxSteps := 2000000) only [go_sem]; exact ⟨AvLe_int _ _ _ (addw_i64 (by omega) (by omega)), AvLe_int _ _ _ (addw_i64 (by omega) (by omega))⟩) rfl)
          rw [heq]
          have : ¬ x = (l.drop f).take (i - f) := fun h => h4 h.symm
          simp [this]
      · refine Back.mk (i + 1, f) ⟨.inl ⟨hlt, by simp only; omega, ?_, heq⟩, by simp only; omega⟩ (Goes.slots (by simp -dsimp -implicitDefEqProofs (maxSteps := 2000000) only [go_sem]; exact AvLe_int _ _ _ (addw_i64 (by omega) (by omega))) rfl)
        intro b hb
        simp only at hb
        rw [take_step l f i hf hlt, List.mem_append] at hb
        rcases hb with hb | hb
        · exact hno b hb
        · obtain rfl : b = l.getD i 0 := by simpa using hb
          intro h32; rw [h32] at h3; exact h3 rfl
  · have hx := hx.resolve_left (by omega)
    exact Fin.ret (bool_av hx.2.symm) rfl
end Go.Proofs.YtdpjmfipgkblfaaGreatDoor
