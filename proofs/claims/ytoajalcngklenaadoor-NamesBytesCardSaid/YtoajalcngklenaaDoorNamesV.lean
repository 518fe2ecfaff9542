/- Contracts of package names, by V. -/
import Derived.Test.YtoajalcngklenaaDoorVT
import Derived.Test.YtoajalcngklenaaDoorV18
set_option linter.unusedSimpArgs false
namespace Go.Proofs.YtoajalcngklenaaDoor
open Go Go.V

def letterZ (c : Int) : Bool := decide (97 ≤ c) && decide (c ≤ 122)
def okZ (c : Int) : Bool := letterZ c || (decide (48 ≤ c) && decide (c ≤ 57)) || c == 45 || c == 46 || c == 95
def smallZ (c : Int) : Int := if 65 ≤ c ∧ c ≤ 90 then c + 32 else c

theorem letter_meets (E : Env) (c : Int) (H : List Ent) : Meets E Tryd.prog 28 [.d (.int .u8 c)] H (Ret (.d (.bool (letterZ c))) H) := by
  refine Meets.of_body mixed tok (plan := fun _ => .done) Tryd.func28 Tryd.call28 Tryd.ntmps28 Tryd.results28 rfl (by kernel_rfl) ?_
  simp -dsimp -implicitDefEqProofs only [go_sem, T, Nat.reduceAdd, Nat.reduceSub, Nat.reduceMul, Nat.reduceLT, Nat.reduceLeDiff, Nat.reduceEqDiff, Int.reduceEq, Int.reduceLT, Int.reduceLE]
  repeat' (refine condP_intro (fun h => ?_) (fun h => ?_) <;> simp only [decide_eq_true_eq, decide_eq_false_iff_not, Bool.not_eq_true', Bool.not_eq_false'] at h <;> simp -dsimp -implicitDefEqProofs only [go_sem, T, Nat.reduceAdd, Nat.reduceSub, Nat.reduceMul, Nat.reduceLT, Nat.reduceLeDiff, Nat.reduceEqDiff, Int.reduceEq, Int.reduceLT, Int.reduceLE, h, decide_true, decide_false])
  all_goals (refine Fin.ret ?_ rfl; simp [letterZ, *])

theorem odd_meets (E : Env) (c : Int) (H : List Ent) : Meets E Tryd.prog 29 [.d (.int .u8 c)] H (Ret (.d (.bool (!okZ c))) H) := by
  refine Meets.of_body mixed tok (plan := fun _ => .done) Tryd.func29 Tryd.call29 Tryd.ntmps29 Tryd.results29 rfl (by kernel_rfl) ?_
  simp -dsimp -implicitDefEqProofs only [go_sem, T, Nat.reduceAdd, Nat.reduceSub, Nat.reduceMul, Nat.reduceLT, Nat.reduceLeDiff, Nat.reduceEqDiff, Int.reduceEq, Int.reduceLT, Int.reduceLE]
  refine (letter_meets E c H).ret ?_
  simp -dsimp -implicitDefEqProofs only [go_sem, T, Nat.reduceAdd, Nat.reduceSub, Nat.reduceMul, Nat.reduceLT, Nat.reduceLeDiff, Nat.reduceEqDiff, Int.reduceEq, Int.reduceLT, Int.reduceLE]
  repeat' (refine condP_intro (fun h => ?_) (fun h => ?_) <;> simp only [decide_eq_true_eq, decide_eq_false_iff_not, Bool.not_eq_true', Bool.not_eq_false'] at h <;> simp -dsimp -implicitDefEqProofs only [go_sem, T, Nat.reduceAdd, Nat.reduceSub, Nat.reduceMul, Nat.reduceLT, Nat.reduceLeDiff, Nat.reduceEqDiff, Int.reduceEq, Int.reduceLT, Int.reduceLE, h, decide_true, decide_false])
  all_goals (refine Fin.ret (bool_av ?_) rfl; rw [Bool.eq_iff_iff]; simp [okZ, *]; try omega)

theorem small_meets (E : Env) (c : Int) (h0 : 0 ≤ c) (h1 : c < 256) (H : List Ent) : Meets E Tryd.prog 34 [.d (.int .u8 c)] H (Ret (.d (.int .u8 (smallZ c))) H) := by
  refine Meets.of_body mixed tok (plan := fun _ => .done) Tryd.func34 Tryd.call34 Tryd.ntmps34 Tryd.results34 rfl (by kernel_rfl) ?_
  simp -dsimp -implicitDefEqProofs only [go_sem, T, Nat.reduceAdd, Nat.reduceSub, Nat.reduceMul, Nat.reduceLT, Nat.reduceLeDiff, Nat.reduceEqDiff, Int.reduceEq, Int.reduceLT, Int.reduceLE]
  repeat' (refine condP_intro (fun h => ?_) (fun h => ?_) <;> simp only [decide_eq_true_eq, decide_eq_false_iff_not, Bool.not_eq_true', Bool.not_eq_false'] at h <;> simp -dsimp -implicitDefEqProofs only [go_sem, T, Nat.reduceAdd, Nat.reduceSub, Nat.reduceMul, Nat.reduceLT, Nat.reduceLeDiff, Nat.reduceEqDiff, Int.reduceEq, Int.reduceLT, Int.reduceLE, h, decide_true, decide_false])
  all_goals (refine Fin.ret (int_av ?_) rfl; unfold smallZ)
  · rw [if_pos (by omega), addw_u8 (by omega) (by omega), subw_u8 (by omega) (by omega)]; omega
  · rw [if_neg (by omega)]
  · rw [if_neg (by omega)]

end Go.Proofs.YtoajalcngklenaaDoor
