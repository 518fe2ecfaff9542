/- Contracts of the document's answer for layer 4, by V: All. -/
import Derived.Test.YtdpjmfipgkblfaaGreatDoorTokD
import Derived.Test.YtdpjmfipgkblfaaGreatDoorTokL
set_option linter.unusedSimpArgs false
namespace Go.Proofs.YtdpjmfipgkblfaaGreatDoor
open Go Go.V
attribute [local irreducible] vc vcL vcP vcI vcO stOp Loops condP bx bx2 Meets Back

attribute [local go_sem] a64 a64l a64r s64 s64l ite_min ite_max zlt_l zlt_r zle_l zle_r zeq len_eq byte_eq Nat.zero_le nth_set_ne List.forall_mem_cons all_nil isPl Nat.reduceAdd Nat.reduceSub Nat.reduceMul Nat.reduceLT Nat.reduceLeDiff Nat.reduceEqDiff Int.reduceEq Int.reduceLT Int.reduceLE
set_option maxRecDepth 20000 in
theorem rall_meets (E : Env) (s : List UInt8) (attr : Bool) (hs : s.length < 536870912) (H : List Ent) :
    Meets E Tryz.prog 98 [.d (.str s), .d (.bool attr)] H (Ret (.d (.str (allR s attr))) H) := by
  refine Meets.of_body mixed tok (plan := fun _ => .done) Tryz.func98 Tryz.call98 Tryz.ntmps98 Tryz.results98 rfl (by kernel_rfl) ?_
  simp -dsimp -implicitDefEqProofs (maxSteps := 2000000) (disch := first | omega | assumption | (simp only [go_sem] <;> first | omega | assumption | fail) | fail) only [go_sem]
  refine Loops.on (α := Nat × Nat × List UInt8) (fun q => q.1 ≤ s.length ∧ s.length - q.1 ≤ q.2.1 ∧ q.2.2 ++ allF s attr q.2.1 q.1 = allR s attr) (fun q => s.length - q.1) (fun q => [(5, .d (.str q.2.2)), (6, .d (.int .i64 q.1))]) (fun _ => H) (0, s.length, []) ⟨Nat.zero_le _, by simp, rfl⟩ ?_ ?_
  · exact Goes.slots (by simp -dsimp -implicitDefEqProofs (maxSteps := 2000000) (disch := first | omega | assumption | (simp only [go_sem] <;> first | omega | assumption | fail) | fail) only [go_sem]; exact .same rfl) rfl
  rintro ⟨i, k, out⟩ ⟨hi, hk, heq⟩
  simp only at hi hk heq
  have hol : out.length ≤ 4 * s.length := by
    have h1 := allR_len s attr
    have h2 := congrArg List.length heq
    simp only [List.length_append] at h2
    omega
  have ht := takeR_len s i attr hi
  simp -dsimp -implicitDefEqProofs (maxSteps := 2000000) (disch := first | omega | assumption | (simp only [go_sem] <;> first | omega | assumption | fail) | fail) only [go_sem]
  (refine condP_intro (fun h => ?_) (fun h => ?_) <;> (try simp only [Bool.and_eq_true, Bool.or_eq_true, Bool.not_eq_true', Bool.not_eq_false', Bool.or_eq_false_iff, Bool.and_eq_false_imp, decide_eq_true_eq, decide_eq_false_iff_not, Bool.not_eq_true, Bool.not_eq_false, Int.ofNat_lt, Int.ofNat_le] at h) <;> simp -dsimp -implicitDefEqProofs (maxSteps := 2000000) (disch := first | omega | assumption | (simp only [go_sem] <;> first | omega | assumption | fail) | fail) only [go_sem, h])
  · obtain ⟨k, rfl⟩ : ∃ k', k = k' + 1 := ⟨k - 1, by omega⟩
    rw [allF, if_pos h] at heq
    refine (rtake_meets E s i attr (by omega) h H).ret ?_
    simp -dsimp -implicitDefEqProofs (maxSteps := 2000000) (disch := first | omega | assumption | (simp only [go_sem] <;> first | omega | assumption | fail) | fail) only [go_sem]
    (refine condP_intro (fun h1 => ?_) (fun h1 => ?_) <;> (try simp only [Bool.and_eq_true, Bool.or_eq_true, Bool.not_eq_true', Bool.not_eq_false', Bool.or_eq_false_iff, Bool.and_eq_false_imp, decide_eq_true_eq, decide_eq_false_iff_not, Bool.not_eq_true, Bool.not_eq_false, Int.ofNat_lt, Int.ofNat_le] at h1) <;> simp -dsimp -implicitDefEqProofs (maxSteps := 2000000) (disch := first | omega | assumption | (simp only [go_sem] <;> first | omega | assumption | fail) | fail) only [go_sem, h1])
    · (repeat (refine ⟨by first | omega | assumption | trivial | (simp only [List.length_take, List.length_map, List.length_append, List.length_cons, List.length_nil, List.length_drop]; omega), ?_⟩))
      rw [if_pos h1] at heq
      refine Back.mk (i + (takeR s i attr).2.1, k, out ++ (takeR s i attr).1) ⟨⟨by simp only; omega, by simp only; omega, by simp only [List.append_assoc]; exact heq⟩, by simp only; omega⟩ (Goes.slots (by simp -dsimp -implicitDefEqProofs (maxSteps := 2000000) (disch := first | omega | assumption | (simp only [go_sem] <;> first | omega | assumption | fail) | fail) only [go_sem]) rfl)
    · (repeat (refine ⟨by first | omega | assumption | trivial | (simp only [List.length_take, List.length_map, List.length_append, List.length_cons, List.length_nil, List.length_drop]; omega), ?_⟩))
      rw [if_neg h1] at heq
      have hone : (s.drop i).take (i + 1 - i) = [s.getD i 0] := by
        rw [show i + 1 - i = 1 by omega]
        simp [List.getD, h, List.take_one, List.head?_drop]
      refine Back.mk (i + 1, k, out ++ [s.getD i 0]) ⟨⟨by simp only; omega, by simp only; omega, by simp only [List.append_assoc]; exact heq⟩, by simp only; omega⟩ (Goes.slots (by simp -dsimp -implicitDefEqProofs (maxSteps := 2000000) (disch := first | omega | assumption | (simp only [go_sem] <;> first | omega | assumption | fail) | fail) only [go_sem]; exact AvLe_str (by rw [hone])) rfl)
  · obtain rfl : i = s.length := by omega
    refine Fin.ret (str_av ?_) rfl
    rw [← heq]
    cases k with
    | zero => simp [allF]
    | succ k => simp [allF]
end Go.Proofs.YtdpjmfipgkblfaaGreatDoor
