/- Contracts of the document's answer for layer 3, by V. -/
import Derived.Test.YtoajalcngklenaaDoorNamesC
set_option linter.unusedSimpArgs false
namespace Go.Proofs.YtoajalcngklenaaDoor
open Go Go.V
attribute [local irreducible] vc vcL vcP vcI vcO stOp Loops condP bx bx2 Meets Back

def validFrom : List UInt8 → Nat → Bool
  | [], _ => true
  | b :: l, i => (letterZ (b.toNat : Int) || (decide (i ≠ 0) && okB b)) && validFrom l (i + 1)
def validR (l : List UInt8) : Bool := validFrom l 0 && decide (1 ≤ l.length) && decide (l.length ≤ 60)

theorem validFrom_step (l : List UInt8) (i : Nat) (h : i < l.length) : validFrom (l.drop i) i = ((letterZ ((l.getD i 0).toNat : Int) || (decide (i ≠ 0) && okB (l.getD i 0))) && validFrom (l.drop (i + 1)) (i + 1)) := by
  rw [List.drop_eq_getElem_cons h]; simp [validFrom, h]

set_option maxRecDepth 10000 in
set_option maxHeartbeats 2000000 in
theorem rvalid_meets (E : Env) (l : List UInt8) (hl : l.length < 1073741824) (H : List Ent) : Meets E Tryd.prog 21 [.d (.str l)] H (Ret (.d (.bool (validR l))) H) := by
  refine Meets.of_body mixed tok (plan := fun _ => .done) Tryd.func21 Tryd.call21 Tryd.ntmps21 Tryd.results21 rfl (by kernel_rfl) ?_
  simp -dsimp -implicitDefEqProofs only [go_sem, T, exThen, Nat.reduceAdd, Nat.reduceSub, Nat.reduceMul, Nat.reduceLT, Nat.reduceLeDiff, Nat.reduceEqDiff]
  refine Loops.on (α := Nat) (fun i => i ≤ l.length ∧ validFrom l 0 = validFrom (l.drop i) i) (fun i => l.length - i) (fun i => [(3, .d (.int .i64 i)), (2, .d (.bool false))]) (fun _ => H) 0 ⟨Nat.zero_le _, rfl⟩ ?_ ?_
  · exact Goes.slots (by simp -dsimp -implicitDefEqProofs only [go_sem, T, exThen, Nat.reduceAdd, Nat.reduceSub, Nat.reduceMul, Nat.reduceLT, Nat.reduceLeDiff, Nat.reduceEqDiff]; exact .inr rfl) rfl
  intro i hx
  have hi := hx.1
  have hv := hx.2
  simp -dsimp -implicitDefEqProofs only [go_sem, T, exThen, Nat.reduceAdd, Nat.reduceSub, Nat.reduceMul, Nat.reduceLT, Nat.reduceLeDiff, Nat.reduceEqDiff]
  (refine condP_intro (fun h => ?_) (fun h => ?_) <;> (try simp only [decide_eq_true_eq, decide_eq_false_iff_not, Bool.not_eq_true', Bool.not_eq_false', Bool.not_eq_true, Bool.not_eq_false, Int.ofNat_lt, Int.ofNat_le] at h) <;> simp -dsimp -implicitDefEqProofs only [go_sem, T, exThen, Nat.reduceAdd, Nat.reduceSub, Nat.reduceMul, Nat.reduceLT, Nat.reduceLeDiff, Nat.reduceEqDiff, h])
  · have hst := validFrom_step l i h
    generalize hb : l.getD i 0 = b at hst
    try simp -dsimp -implicitDefEqProofs only [go_sem, T, exThen, Nat.reduceAdd, Nat.reduceSub, Nat.reduceMul, Nat.reduceLT, Nat.reduceLeDiff, Nat.reduceEqDiff, hb]
    repeat' (refine condP_intro (fun h2 => ?_) (fun h2 => ?_) <;> (try simp only [decide_eq_true_eq, decide_eq_false_iff_not, Bool.not_eq_true', Bool.not_eq_false', Bool.not_eq_true, Bool.not_eq_false, Int.ofNat_lt, Int.ofNat_le] at h2) <;> simp -dsimp -implicitDefEqProofs only [go_sem, T, exThen, Nat.reduceAdd, Nat.reduceSub, Nat.reduceMul, Nat.reduceLT, Nat.reduceLeDiff, Nat.reduceEqDiff, h2])
    all_goals first
      | (refine Fin.ret (bool_av ?_) rfl; unfold validR; rw [hv, hst]; clear hv hst hx hb hi hl; simp [okB, okZ, letterZ, *]; done)
      | (refine Fin.ret (bool_av ?_) rfl; unfold validR; rw [hv, hst]; clear hv hst hx hb hi hl; simp [okB, okZ, letterZ, *]; omega)
      | (refine Back.mk (i + 1) ⟨⟨by omega, ?_⟩, by omega⟩ (Goes.slots (by simp -dsimp -implicitDefEqProofs only [go_sem, T, exThen, Nat.reduceAdd, Nat.reduceSub, Nat.reduceMul, Nat.reduceLT, Nat.reduceLeDiff, Nat.reduceEqDiff]; exact AvLe_int _ _ _ (addw_i64 (by omega) (by omega))) rfl); rw [hv, hst]; clear hv hst hx hb hi hl; simp [okB, okZ, letterZ, *]; done)
      | (refine Back.mk (i + 1) ⟨⟨by omega, ?_⟩, by omega⟩ (Goes.slots (by simp -dsimp -implicitDefEqProofs only [go_sem, T, exThen, Nat.reduceAdd, Nat.reduceSub, Nat.reduceMul, Nat.reduceLT, Nat.reduceLeDiff, Nat.reduceEqDiff]; exact AvLe_int _ _ _ (addw_i64 (by omega) (by omega))) rfl); rw [hv, hst]; clear hv hst hx hb hi hl; simp [okB, okZ, letterZ, *]; omega)
  · obtain rfl : i = l.length := by omega
    (refine condP_intro (fun h3 => ?_) (fun h3 => ?_) <;> (try simp only [decide_eq_true_eq, decide_eq_false_iff_not, Bool.not_eq_true', Bool.not_eq_false', Bool.not_eq_true, Bool.not_eq_false, Int.ofNat_lt, Int.ofNat_le] at h3) <;> simp -dsimp -implicitDefEqProofs only [go_sem, T, exThen, Nat.reduceAdd, Nat.reduceSub, Nat.reduceMul, Nat.reduceLT, Nat.reduceLeDiff, Nat.reduceEqDiff, h3])
    all_goals refine Fin.ret (bool_av ?_) rfl
    all_goals (unfold validR; rw [hv, Bool.eq_iff_iff]; simp [validFrom]; try omega)
end Go.Proofs.YtoajalcngklenaaDoor
