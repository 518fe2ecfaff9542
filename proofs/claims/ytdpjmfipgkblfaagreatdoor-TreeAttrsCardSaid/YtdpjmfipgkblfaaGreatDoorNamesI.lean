/- Contracts of the document's answer for layer 3, by V: Lower, Custom, Host. -/
import Derived.Test.YtdpjmfipgkblfaaGreatDoorNamesH
set_option linter.unusedSimpArgs false
namespace Go.Proofs.YtdpjmfipgkblfaaGreatDoor
open Go Go.V
attribute [local irreducible] vc vcL vcP vcI vcO stOp Loops condP bx bx2 Meets Back

theorem smallB_add (b : UInt8) (h : 65 ≤ b.toNat ∧ b.toNat ≤ 90) : addw .u8 (b.toNat : Int) 32 = ((smallB b).toNat : Int) := by
  rw [addw_u8 (by omega) (by omega), smallB, if_pos h]
  have : (b + 32).toNat = b.toNat + 32 := by rw [UInt8.toNat_add]; simp; omega
  omega
theorem lowerL_take (l : List UInt8) (i : Nat) (h : i < l.length) : lowerL (l.take (i + 1)) = lowerL (l.take i) ++ [smallB (l.getD i 0)] := by
  simp only [lowerL, List.take_add_one, List.map_append]
  simp [List.getD, h]
theorem smallB_no (b : UInt8) (h : ¬ (65 ≤ b.toNat ∧ b.toNat ≤ 90)) : smallB b = b := by rw [smallB, if_neg h]

attribute [local go_sem] Nat.reduceAdd Nat.reduceSub Nat.reduceMul Nat.reduceLT Nat.reduceLeDiff Nat.reduceEqDiff Int.reduceEq Int.reduceLT Int.reduceLE
set_option maxRecDepth 10000 in
theorem rlower_meets (l : List UInt8) (hl : l.length < 1073741824) (E : Env) (H : List Ent) : Meets E Tryz.prog 64 [.d (.str l)] H (Ret (.d (.str (lowerL l))) H) := by
  refine Meets.closed fun hc => ?_
  refine Meets.of_body mixed tok (plan := fun _ => .done) Tryz.func64 Tryz.call64 Tryz.ntmps64 Tryz.results64 rfl (by kernel_rfl) ?_
  simp -dsimp -implicitDefEqProofs (maxSteps := 2000000) only [go_sem]
  refine Loops.on (α := Nat × Nat) (fun p => p.1 ≤ l.length ∧ p.1 ≤ p.2) (fun p => l.length - p.1) (fun p => [(4, .d (.int .i64 p.1)), (3, .c (.sl H.length 1 0 p.1 p.2))]) (fun p => H ++ [.row 5 1 p.1 p.2 (byteCell (lowerL (l.take p.1)))]) (0, 0) ⟨Nat.zero_le _, Nat.zero_le _⟩ ?_ ?_
  · refine Goes.mv (HMv.nil _ _ 5 1 (byteCell [])) (Goes.slots ?_ ?_)
    · simp -dsimp -implicitDefEqProofs (maxSteps := 2000000) only [go_sem]
      exact ⟨AvLe_nil _ _ _ _ _, .same rfl⟩
    · simp [lowerL]
  rintro ⟨i, c⟩ ⟨hi, hic⟩
  simp only at hi hic
  simp -dsimp -implicitDefEqProofs (maxSteps := 2000000) only [go_sem]
  (refine condP_intro (fun h => ?_) (fun h => ?_) <;> (try simp only [Bool.and_eq_true, Bool.or_eq_true, Bool.not_eq_true', Bool.not_eq_false', Bool.or_eq_false_iff, Bool.and_eq_false_imp, decide_eq_true_eq, decide_eq_false_iff_not, Bool.not_eq_true, Bool.not_eq_false, Int.ofNat_lt, Int.ofNat_le] at h) <;> simp -dsimp -implicitDefEqProofs (maxSteps := 2000000) only [go_sem, h])
  · have hb := lowerL_take l i h
    have hll : (lowerL (l.take i)).length = i := by simp [lowerL]; omega
    have hs : ∀ z, z = ((smallB (l.getD i 0)).toNat : Int) → ∀ c', i + 1 ≤ c' → H ++ [Ent.row 5 1 (i + 1) c' (appCell i (byteCell (lowerL (l.take i))) (at2 [[.int .u8 z]]))] = H ++ [Ent.row 5 1 (i + 1) c' (byteCell (lowerL (l.take (i + 1))))] := fun z hz c' _ => by
      rw [hz, at2_byte, appCell_byte _ _ _ hll, ← hb]
    repeat' (refine condP_intro (fun h1 => ?_) (fun h1 => ?_) <;> (try simp only [Bool.and_eq_true, Bool.or_eq_true, Bool.not_eq_true', Bool.not_eq_false', Bool.or_eq_false_iff, Bool.and_eq_false_imp, decide_eq_true_eq, decide_eq_false_iff_not, Bool.not_eq_true, Bool.not_eq_false, Int.ofNat_lt, Int.ofNat_le] at h1) <;> simp -dsimp -implicitDefEqProofs (maxSteps := 2000000) only [go_sem, h1])
    all_goals (repeat (refine ⟨by first | omega | assumption | trivial | (simp only [List.length_take, List.length_map, List.length_append, List.length_cons, List.length_nil, List.length_drop]; omega), ?_⟩))
    all_goals intro c' hc'
    all_goals refine Back.rn [H.length + 2] (Nat.le_refl _) hc (by simp [rnOk, rnOk.rnFresh]) (by simp -dsimp -implicitDefEqProofs (maxSteps := 2000000) only [go_sem, hll]) ?_
    all_goals simp -dsimp -implicitDefEqProofs (maxSteps := 2000000) only [go_sem, hll]
    all_goals refine Back.mk (i + 1, c') ⟨⟨h, hc'⟩, by simp only; omega⟩ (Goes.slots (by simp -dsimp -implicitDefEqProofs (maxSteps := 2000000) only [go_sem]; exact AvLe_int _ _ _ (addw_i64 (by omega) (by omega))) ?_)
    · exact hs _ (smallB_add _ ⟨by omega, by omega⟩) c' hc'
    all_goals rw [hb]; simp only [smallB_no (l.getD i 0) (by omega)]
  · obtain rfl : i = l.length := by omega
    have hll : (lowerL l).length = l.length := by simp [lowerL]
    simp -dsimp -implicitDefEqProofs (maxSteps := 2000000) only [go_sem, List.take_length, hll]
    exact Fin.cut (Nat.le_refl _) hc ⟨rfl, rfl⟩

def hasHy (l : List UInt8) (i : Nat) : Bool := (l.take i).contains 45
theorem hasHy_step (l : List UInt8) (i : Nat) (h : i < l.length) : hasHy l (i + 1) = (hasHy l i || decide (l.getD i 0 = 45)) := by
  have hg : l[i]?.toList = [l.getD i 0] := by simp [List.getD, h]
  simp only [hasHy, List.take_add_one, hg, List.contains_append]
  congr 1
  by_cases hb : l.getD i 0 = 45
  · rw [hb]; rfl
  · rw [decide_eq_false hb]
    simp only [List.contains_cons, List.contains_nil, Bool.or_false, beq_eq_false_iff_ne]
    exact fun h => hb h.symm
def customR (l : List UInt8) : Bool := l.contains 45 && validR l && !others.contains l
def hostR (l : List UInt8) : Bool := customR l || hosts.contains l
/-! ### the two say the same -/
theorem validFrom_pos : ∀ (l : List UInt8) (i : Nat), 0 < i → validFrom l i = l.all okB
  | [], _, _ => rfl
  | b :: l, i, h => by
    rw [validFrom, validFrom_pos l (i + 1) (by omega), List.all_cons, decide_eq_true (show i ≠ 0 by omega)]
    cases hl : letterZ (b.toNat : Int) <;> simp [okB, okZ, hl]
theorem validR_eq (l : List UInt8) : validR l = validN l := by
  cases l with
  | nil => rfl
  | cons b l =>
    unfold validR validN
    rw [validFrom, validFrom_pos l 1 (by omega)]
    have hok : letterZ (b.toNat : Int) = true → okB b = true := fun h => by simp [okB, okZ, h]
    simp only [List.headD_cons, List.all_cons, List.length_cons, List.isEmpty_cons]
    cases hl : letterZ (b.toNat : Int) with
    | true => simp [hok hl, Bool.and_comm]
    | false => simp
theorem customR_eq (l : List UInt8) : customR l = customN l := by
  unfold customR customN
  rw [validR_eq, Bool.and_comm (l.contains 45)]
theorem hostR_eq (l : List UInt8) : hostR l = hostN l := by unfold hostR hostN; rw [customR_eq]
end Go.Proofs.YtdpjmfipgkblfaaGreatDoor
