/- Contracts of package tree, by V: whether an attribute may be written, whatever bytes it has. -/
import Derived.Test.YtdpjmfipgkblfaaGreatDoorTreeT
import Derived.Test.YtdpjmfipgkblfaaGreatDoorOdd
set_option linter.unusedSimpArgs false
namespace Go.Proofs.YtdpjmfipgkblfaaGreatDoor
open Go Go.V
attribute [local irreducible] vc vcL vcP vcI vcO stOp Loops condP bx bx2 Meets Back

theorem containsAny_any (chars : List UInt8) : ∀ s : List UInt8, Lib.containsAny s chars = s.any chars.contains
  | [] => rfl
  | b :: l => by
    have ih := containsAny_any chars l
    have hge := Lib.indexAny_ge chars l
    simp only [Lib.containsAny] at ih ⊢
    simp only [Lib.indexAny, List.any_cons]
    rw [← ih]
    split
    · rename_i h; rw [h, Bool.true_or]; exact decide_eq_true (by omega)
    · rename_i h
      rw [Bool.not_eq_true] at h
      rw [h, Bool.false_or]
      split
      · rename_i h1
        rw [beq_iff_eq] at h1
        rw [h1]
      · rename_i h1
        rw [beq_iff_eq] at h1
        rw [decide_eq_true (show 0 ≤ Lib.indexAny l chars by omega), decide_eq_true (by omega)]
theorem containsAnyS_meets (E : Env) (l x : List UInt8) (hl : l.length < 4294967281) (h2 : 2 ≤ x.length) (hx : x.length < 4294967281) (hac : x.all (fun b => decide (b.toNat < 128)) = true) (H : List Ent) :
    Meets E Tryz.prog 80 [.d (.str l), .d (.str x)] H (Ret (.d (.bool (l.any x.contains))) H) := by
  refine Meets.belowC Tryz.call80 fun g w us r hu => ?_
  match us, hu with
  | [u, u'], hu =>
    have hv : u = .string (bstr l) := hu.1
    have hv' : u' = .string (bstr x) := hu.2.1
    subst hv; subst hv'
    refine ⟨.bool (l.any x.contains), rfl, ?_⟩
    have := odd_strings_ContainsAny_bytes Tryz.lays150 (by kernel_rfl) (bstr l) (bstr x) w (by rw [bstr_size]; exact hl) (by rw [bstr_size]; exact h2) (by rw [bstr_size]; exact hx) (fun j b hb => by
      have := List.all_eq_true.1 hac b (by simpa [bstr] using List.mem_of_getElem? hb)
      simpa using this)
    rw [containsAny_any] at this
    exact this
def oddB : List UInt8 := [0, 32, 9, 10, 12, 47, 62, 61]
theorem lowerL_same (l : List UInt8) : (lowerL l = l) ↔ ∀ b ∈ l, ¬ (65 ≤ b.toNat ∧ b.toNat ≤ 90) := by
  have hb : ∀ b : UInt8, smallB b = b ↔ ¬ (65 ≤ b.toNat ∧ b.toNat ≤ 90) := by
    have : ∀ n, n < 256 → (smallB (UInt8.ofNat n) = UInt8.ofNat n ↔ ¬ (65 ≤ (UInt8.ofNat n).toNat ∧ (UInt8.ofNat n).toNat ≤ 90)) := by decide +kernel
    intro b
    have h := this b.toNat (UInt8.toNat_lt b)
    rwa [UInt8.ofNat_toNat] at h
  induction l with
  | nil => simp [lowerL]
  | cons a l ih =>
    simp only [lowerL, List.map_cons, List.cons.injEq, List.mem_cons, forall_eq_or_imp] at ih ⊢
    rw [hb]
    exact and_congr_right fun _ => ih
theorem badAttr_odd (b : UInt8) : badAttrB b = ((decide (65 ≤ b.toNat) && decide (b.toNat ≤ 90)) || oddB.contains b) := by
  have : ∀ n, n < 256 → badAttrB (UInt8.ofNat n) = ((decide (65 ≤ (UInt8.ofNat n).toNat) && decide ((UInt8.ofNat n).toNat ≤ 90)) || oddB.contains (UInt8.ofNat n)) := by decide +kernel
  have h := this b.toNat (UInt8.toNat_lt b)
  rwa [UInt8.ofNat_toNat] at h
theorem writableA_eq (a : Att) : writableA a = (!decide (a.name = []) && decide (a.name.length ≤ 60) && decide (a.value.length ≤ 2000) && !a.name.any oddB.contains && decide (lowerL a.name = a.name)) := by
  obtain ⟨n, v⟩ := a
  simp only [writableA]
  have h1 : n.any badAttrB = (n.any oddB.contains || !decide (lowerL n = n)) := by
    rw [Bool.eq_iff_iff]
    simp only [List.any_eq_true, Bool.or_eq_true, Bool.not_eq_true', decide_eq_false_iff_not, badAttr_odd, Bool.and_eq_true, decide_eq_true_eq]
    rw [lowerL_same]
    constructor
    · rintro ⟨b, hb, h | h⟩
      · exact .inr fun hh => hh b hb h
      · exact .inl ⟨b, hb, h⟩
    · rintro (⟨b, hb, h⟩ | h)
      · exact ⟨b, hb, .inr h⟩
      · by_cases hx : ∃ b ∈ n, 65 ≤ b.toNat ∧ b.toNat ≤ 90
        · obtain ⟨b, hb, h⟩ := hx
          exact ⟨b, hb, .inl h⟩
        · exact absurd (fun b hb hh => hx ⟨b, hb, hh⟩) h
  have h2 : decide (1 ≤ n.length) = !decide (n = []) := by
    cases n <;> simp
  rw [h1, h2]
  cases decide (n = []) <;> cases n.any oddB.contains <;> cases decide (lowerL n = n) <;> cases decide (n.length ≤ 60) <;> cases decide (v.length ≤ 2000) <;> rfl
attribute [local go_sem] a64 a64l a64r s64 s64l ite_min ite_max zlt_l zlt_r zle_l zle_r zeq len_eq byte_eq Nat.zero_le nth_set_ne List.forall_mem_cons all_nil isPl Nat.reduceAdd Nat.reduceSub Nat.reduceMul Nat.reduceLT Nat.reduceLeDiff Nat.reduceEqDiff Int.reduceEq Int.reduceLT Int.reduceLE
set_option maxRecDepth 20000 in
set_option maxHeartbeats 2000000 in
theorem wok (a : Att) : WOk a := by
  intro H
  rw [writableA_eq]
  obtain ⟨n, v⟩ := a
  refine Meets.closed fun hc => ?_
  refine Meets.of_body mixed tok (plan := (fun | 1 => (.take 0 (.take 1 (.take 2 (.take 3 (.take 4 (.take 5 (.take 6 (.take 7 (.take 8 (.take 9 (.take 10 (.take 11 (.take 12 (.take 13 (.take 14 (.take 15 (.take 16 (.take 17 (.one 18 (.take 19 (.take 20 (.take 21 (.take 22 (.take 23 (.take 25 (.fork 24 (.take 26 (.take 27 (.take 28 (.take 29 .done)))) (.fork 26 (.one 24 (.take 27 (.take 28 (.take 29 .done)))) .nil))))))))))))))))))))))))))) | _ => .done)) Tryz.func51 Tryz.call51 Tryz.ntmps51 Tryz.results51 rfl (by kernel_rfl) ?_
  simp -dsimp -implicitDefEqProofs (maxSteps := 2000000) (disch := first | omega | assumption | (simp only [go_sem] <;> first | omega | assumption | fail) | fail) only [go_sem, encAtt]
  (refine condP_intro (fun h1 => ?_) (fun h1 => ?_) <;> (try simp only [Bool.and_eq_true, Bool.or_eq_true, Bool.not_eq_true', Bool.not_eq_false', Bool.or_eq_false_iff, Bool.and_eq_false_imp, decide_eq_true_eq, decide_eq_false_iff_not, Bool.not_eq_true, Bool.not_eq_false, Int.ofNat_lt, Int.ofNat_le] at h1) <;> simp -dsimp -implicitDefEqProofs (maxSteps := 2000000) (disch := first | omega | assumption | (simp only [go_sem] <;> first | omega | assumption | fail) | fail) only [go_sem, h1])
  · (refine condP_intro (fun h2 => ?_) (fun h2 => ?_) <;> (try simp only [Bool.and_eq_true, Bool.or_eq_true, Bool.not_eq_true', Bool.not_eq_false', Bool.or_eq_false_iff, Bool.and_eq_false_imp, decide_eq_true_eq, decide_eq_false_iff_not, Bool.not_eq_true, Bool.not_eq_false, Int.ofNat_lt, Int.ofNat_le] at h2) <;> simp -dsimp -implicitDefEqProofs (maxSteps := 2000000) (disch := first | omega | assumption | (simp only [go_sem] <;> first | omega | assumption | fail) | fail) only [go_sem, h2])
    · (refine condP_intro (fun h3 => ?_) (fun h3 => ?_) <;> (try simp only [Bool.and_eq_true, Bool.or_eq_true, Bool.not_eq_true', Bool.not_eq_false', Bool.or_eq_false_iff, Bool.and_eq_false_imp, decide_eq_true_eq, decide_eq_false_iff_not, Bool.not_eq_true, Bool.not_eq_false, Int.ofNat_lt, Int.ofNat_le] at h3) <;> simp -dsimp -implicitDefEqProofs (maxSteps := 2000000) (disch := first | omega | assumption | (simp only [go_sem] <;> first | omega | assumption | fail) | fail) only [go_sem, h3])
      · refine (containsAnyS_meets tE n oddB (by omega) (by decide) (by decide) (by decide) _).ret ?_
        simp -dsimp -implicitDefEqProofs (maxSteps := 2000000) (disch := first | omega | assumption | (simp only [go_sem] <;> first | omega | assumption | fail) | fail) only [go_sem]
        (refine condP_intro (fun h4 => ?_) (fun h4 => ?_) <;> (try simp only [Bool.and_eq_true, Bool.or_eq_true, Bool.not_eq_true', Bool.not_eq_false', Bool.or_eq_false_iff, Bool.and_eq_false_imp, decide_eq_true_eq, decide_eq_false_iff_not, Bool.not_eq_true, Bool.not_eq_false, Int.ofNat_lt, Int.ofNat_le] at h4) <;> simp -dsimp -implicitDefEqProofs (maxSteps := 2000000) (disch := first | omega | assumption | (simp only [go_sem] <;> first | omega | assumption | fail) | fail) only [go_sem, h4])
        · constructor
          all_goals
            refine (Meets.more (lower_meets n (by omega) _)).ret ?_
            simp -dsimp -implicitDefEqProofs (maxSteps := 2000000) (disch := first | omega | assumption | (simp only [go_sem] <;> first | omega | assumption | fail) | fail) only [go_sem]
            exact Fin.cut (Nat.le_refl _) hc ⟨bool_av (by simp [h1, h2, h3, h4]), rfl⟩
        · refine and_self_iff.2 ?_
          exact Fin.cut (Nat.le_refl _) hc ⟨bool_av (by simp), rfl⟩
      · refine and_self_iff.2 ?_
        exact Fin.cut (Nat.le_refl _) hc ⟨bool_av (by simp), rfl⟩
    · refine and_self_iff.2 ?_
      exact Fin.cut (Nat.le_refl _) hc ⟨bool_av (by simp), rfl⟩
  · refine and_self_iff.2 ?_
    exact Fin.cut (Nat.le_refl _) hc ⟨bool_av (by simp), rfl⟩
end Go.Proofs.YtdpjmfipgkblfaaGreatDoor
