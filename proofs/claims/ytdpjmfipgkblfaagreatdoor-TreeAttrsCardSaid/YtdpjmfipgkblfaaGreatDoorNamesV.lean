/- Contracts of package names, by V. -/
import Derived.Test.YtdpjmfipgkblfaaGreatDoorVT
import Derived.Test.YtdpjmfipgkblfaaGreatDoorV19
set_option linter.unusedSimpArgs false
namespace Go.Proofs.YtdpjmfipgkblfaaGreatDoor
open Go Go.V

def letterZ (c : Int) : Bool := decide (97 ≤ c) && decide (c ≤ 122)
def okZ (c : Int) : Bool := letterZ c || (decide (48 ≤ c) && decide (c ≤ 57)) || c == 45 || c == 46 || c == 95
def smallZ (c : Int) : Int := if 65 ≤ c ∧ c ≤ 90 then c + 32 else c

attribute [local go_sem] Nat.reduceAdd Nat.reduceSub Nat.reduceMul Nat.reduceLT Nat.reduceLeDiff Nat.reduceEqDiff Int.reduceEq Int.reduceLT Int.reduceLE
theorem letter_meets (E : Env) (c : Int) (H : List Ent) : Meets E Tryz.prog 84 [.d (.int .u8 c)] H (Ret (.d (.bool (letterZ c))) H) := by
  refine Meets.of_body mixed tok (plan := fun _ => .done) Tryz.func84 Tryz.call84 Tryz.ntmps84 Tryz.results84 rfl (by kernel_rfl) ?_
  simp -dsimp -implicitDefEqProofs (maxSteps := 2000000) only [go_sem]
  repeat' (refine condP_intro (fun h => ?_) (fun h => ?_) <;> simp only [decide_eq_true_eq, decide_eq_false_iff_not, Bool.not_eq_true', Bool.not_eq_false'] at h <;> simp -dsimp -implicitDefEqProofs (maxSteps := 2000000) only [go_sem, h, decide_true, decide_false])
  all_goals (refine Fin.ret ?_ rfl; simp [letterZ, *])

theorem odd_meets (E : Env) (c : Int) (H : List Ent) : Meets E Tryz.prog 85 [.d (.int .u8 c)] H (Ret (.d (.bool (!okZ c))) H) := by
  refine Meets.of_body mixed tok (plan := fun _ => .done) Tryz.func85 Tryz.call85 Tryz.ntmps85 Tryz.results85 rfl (by kernel_rfl) ?_
  simp -dsimp -implicitDefEqProofs (maxSteps := 2000000) only [go_sem]
  refine (letter_meets E c H).ret ?_
  simp -dsimp -implicitDefEqProofs (maxSteps := 2000000) only [go_sem]
  repeat' (refine condP_intro (fun h => ?_) (fun h => ?_) <;> simp only [decide_eq_true_eq, decide_eq_false_iff_not, Bool.not_eq_true', Bool.not_eq_false'] at h <;> simp -dsimp -implicitDefEqProofs (maxSteps := 2000000) only [go_sem, h, decide_true, decide_false])
  all_goals (refine Fin.ret (bool_av ?_) rfl; rw [Bool.eq_iff_iff]; simp [okZ, *]; try omega)

theorem small_meets (E : Env) (c : Int) (h0 : 0 ≤ c) (h1 : c < 256) (H : List Ent) : Meets E Tryz.prog 106 [.d (.int .u8 c)] H (Ret (.d (.int .u8 (smallZ c))) H) := by
  refine Meets.of_body mixed tok (plan := fun _ => .done) Tryz.func106 Tryz.call106 Tryz.ntmps106 Tryz.results106 rfl (by kernel_rfl) ?_
  simp -dsimp -implicitDefEqProofs (maxSteps := 2000000) only [go_sem]
  repeat' (refine condP_intro (fun h => ?_) (fun h => ?_) <;> simp only [decide_eq_true_eq, decide_eq_false_iff_not, Bool.not_eq_true', Bool.not_eq_false'] at h <;> simp -dsimp -implicitDefEqProofs (maxSteps := 2000000) only [go_sem, h, decide_true, decide_false])
  all_goals (refine Fin.ret (int_av ?_) rfl; unfold smallZ)
  · rw [if_pos (by omega), addw_u8 (by omega) (by omega), subw_u8 (by omega) (by omega)]; omega
  · rw [if_neg (by omega)]
  · rw [if_neg (by omega)]

end Go.Proofs.YtdpjmfipgkblfaaGreatDoor
