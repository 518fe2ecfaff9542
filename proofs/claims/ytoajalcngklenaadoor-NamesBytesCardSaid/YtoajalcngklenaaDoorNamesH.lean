/- The statements' own helpers of layer 3, by V: one of the words. -/
import Derived.Test.YtoajalcngklenaaDoorNamesG
set_option linter.unusedSimpArgs false
namespace Go.Proofs.YtoajalcngklenaaDoor
open Go Go.V
attribute [local irreducible] vc vcL vcP vcI vcO stOp Loops condP bx bx2 Meets Back

def ones : List (List UInt8) := splitSp (w "area base br col embed hr img input link meta source track wbr script style xmp iframe noembed noframes title textarea address article aside blockquote details dialog div dl fieldset figcaption figure footer form h1 h2 h3 h4 h5 h6 header hgroup main menu nav ol p pre search section summary table ul body span annotation-xml color-profile font-face font-face-src font-face-uri font-face-format font-face-name missing-glyph x-a a li")
def oneN (k : Nat) (s : List UInt8) : List UInt8 := (ones[k]?).getD s
set_option maxRecDepth 20000 in
theorem one_lits : [[CV.str [97, 114, 101, 97]], [CV.str [98, 97, 115, 101]], [CV.str [98, 114]], [CV.str [99, 111, 108]], [CV.str [101, 109, 98, 101, 100]], [CV.str [104, 114]], [CV.str [105, 109, 103]], [CV.str [105, 110, 112, 117, 116]], [CV.str [108, 105, 110, 107]], [CV.str [109, 101, 116, 97]], [CV.str [115, 111, 117, 114, 99, 101]], [CV.str [116, 114, 97, 99, 107]], [CV.str [119, 98, 114]], [CV.str [115, 99, 114, 105, 112, 116]], [CV.str [115, 116, 121, 108, 101]], [CV.str [120, 109, 112]], [CV.str [105, 102, 114, 97, 109, 101]], [CV.str [110, 111, 101, 109, 98, 101, 100]], [CV.str [110, 111, 102, 114, 97, 109, 101, 115]], [CV.str [116, 105, 116, 108, 101]], [CV.str [116, 101, 120, 116, 97, 114, 101, 97]], [CV.str [97, 100, 100, 114, 101, 115, 115]], [CV.str [97, 114, 116, 105, 99, 108, 101]], [CV.str [97, 115, 105, 100, 101]], [CV.str [98, 108, 111, 99, 107, 113, 117, 111, 116, 101]], [CV.str [100, 101, 116, 97, 105, 108, 115]], [CV.str [100, 105, 97, 108, 111, 103]], [CV.str [100, 105, 118]], [CV.str [100, 108]], [CV.str [102, 105, 101, 108, 100, 115, 101, 116]], [CV.str [102, 105, 103, 99, 97, 112, 116, 105, 111, 110]], [CV.str [102, 105, 103, 117, 114, 101]], [CV.str [102, 111, 111, 116, 101, 114]], [CV.str [102, 111, 114, 109]], [CV.str [104, 49]], [CV.str [104, 50]], [CV.str [104, 51]], [CV.str [104, 52]], [CV.str [104, 53]], [CV.str [104, 54]], [CV.str [104, 101, 97, 100, 101, 114]], [CV.str [104, 103, 114, 111, 117, 112]], [CV.str [109, 97, 105, 110]], [CV.str [109, 101, 110, 117]], [CV.str [110, 97, 118]], [CV.str [111, 108]], [CV.str [112]], [CV.str [112, 114, 101]], [CV.str [115, 101, 97, 114, 99, 104]], [CV.str [115, 101, 99, 116, 105, 111, 110]], [CV.str [115, 117, 109, 109, 97, 114, 121]], [CV.str [116, 97, 98, 108, 101]], [CV.str [117, 108]], [CV.str [98, 111, 100, 121]], [CV.str [115, 112, 97, 110]], [CV.str [97, 110, 110, 111, 116, 97, 116, 105, 111, 110, 45, 120, 109, 108]], [CV.str [99, 111, 108, 111, 114, 45, 112, 114, 111, 102, 105, 108, 101]], [CV.str [102, 111, 110, 116, 45, 102, 97, 99, 101]], [CV.str [102, 111, 110, 116, 45, 102, 97, 99, 101, 45, 115, 114, 99]], [CV.str [102, 111, 110, 116, 45, 102, 97, 99, 101, 45, 117, 114, 105]], [CV.str [102, 111, 110, 116, 45, 102, 97, 99, 101, 45, 102, 111, 114, 109, 97, 116]], [CV.str [102, 111, 110, 116, 45, 102, 97, 99, 101, 45, 110, 97, 109, 101]], [CV.str [109, 105, 115, 115, 105, 110, 103, 45, 103, 108, 121, 112, 104]], [CV.str [120, 45, 97]], [CV.str [97]], [CV.str [108, 105]]] = ones.map fun x => [CV.str x] := by kernel_rfl
set_option maxRecDepth 20000 in
theorem one_cell (k : Nat) (h : k < 66) : at2 [[CV.str [97, 114, 101, 97]], [CV.str [98, 97, 115, 101]], [CV.str [98, 114]], [CV.str [99, 111, 108]], [CV.str [101, 109, 98, 101, 100]], [CV.str [104, 114]], [CV.str [105, 109, 103]], [CV.str [105, 110, 112, 117, 116]], [CV.str [108, 105, 110, 107]], [CV.str [109, 101, 116, 97]], [CV.str [115, 111, 117, 114, 99, 101]], [CV.str [116, 114, 97, 99, 107]], [CV.str [119, 98, 114]], [CV.str [115, 99, 114, 105, 112, 116]], [CV.str [115, 116, 121, 108, 101]], [CV.str [120, 109, 112]], [CV.str [105, 102, 114, 97, 109, 101]], [CV.str [110, 111, 101, 109, 98, 101, 100]], [CV.str [110, 111, 102, 114, 97, 109, 101, 115]], [CV.str [116, 105, 116, 108, 101]], [CV.str [116, 101, 120, 116, 97, 114, 101, 97]], [CV.str [97, 100, 100, 114, 101, 115, 115]], [CV.str [97, 114, 116, 105, 99, 108, 101]], [CV.str [97, 115, 105, 100, 101]], [CV.str [98, 108, 111, 99, 107, 113, 117, 111, 116, 101]], [CV.str [100, 101, 116, 97, 105, 108, 115]], [CV.str [100, 105, 97, 108, 111, 103]], [CV.str [100, 105, 118]], [CV.str [100, 108]], [CV.str [102, 105, 101, 108, 100, 115, 101, 116]], [CV.str [102, 105, 103, 99, 97, 112, 116, 105, 111, 110]], [CV.str [102, 105, 103, 117, 114, 101]], [CV.str [102, 111, 111, 116, 101, 114]], [CV.str [102, 111, 114, 109]], [CV.str [104, 49]], [CV.str [104, 50]], [CV.str [104, 51]], [CV.str [104, 52]], [CV.str [104, 53]], [CV.str [104, 54]], [CV.str [104, 101, 97, 100, 101, 114]], [CV.str [104, 103, 114, 111, 117, 112]], [CV.str [109, 97, 105, 110]], [CV.str [109, 101, 110, 117]], [CV.str [110, 97, 118]], [CV.str [111, 108]], [CV.str [112]], [CV.str [112, 114, 101]], [CV.str [115, 101, 97, 114, 99, 104]], [CV.str [115, 101, 99, 116, 105, 111, 110]], [CV.str [115, 117, 109, 109, 97, 114, 121]], [CV.str [116, 97, 98, 108, 101]], [CV.str [117, 108]], [CV.str [98, 111, 100, 121]], [CV.str [115, 112, 97, 110]], [CV.str [97, 110, 110, 111, 116, 97, 116, 105, 111, 110, 45, 120, 109, 108]], [CV.str [99, 111, 108, 111, 114, 45, 112, 114, 111, 102, 105, 108, 101]], [CV.str [102, 111, 110, 116, 45, 102, 97, 99, 101]], [CV.str [102, 111, 110, 116, 45, 102, 97, 99, 101, 45, 115, 114, 99]], [CV.str [102, 111, 110, 116, 45, 102, 97, 99, 101, 45, 117, 114, 105]], [CV.str [102, 111, 110, 116, 45, 102, 97, 99, 101, 45, 102, 111, 114, 109, 97, 116]], [CV.str [102, 111, 110, 116, 45, 102, 97, 99, 101, 45, 110, 97, 109, 101]], [CV.str [109, 105, 115, 115, 105, 110, 103, 45, 103, 108, 121, 112, 104]], [CV.str [120, 45, 97]], [CV.str [97]], [CV.str [108, 105]]] k 0 = .str (ones.getD k []) := by
  have hl : ones.length = 66 := by kernel_rfl
  rw [one_lits, at2_map _ _ _ _ (by omega)]; rfl
set_option maxRecDepth 20000 in
set_option maxHeartbeats 1000000 in
theorem one_meets (k : Nat) (hk : k < 256) (s : List UInt8) (H : List Ent) : Meets nE Tryd.prog 12 [.d (.int .u8 k), .d (.str s)] H (Ret (.d (.str (oneN k s))) H) := by
  refine Meets.closed fun hc => ?_
  refine Meets.of_body mixed tok (plan := fun _ => .done) Tryd.func12 Tryd.call12 Tryd.ntmps12 Tryd.results12 rfl (by kernel_rfl) ?_
  simp -dsimp -implicitDefEqProofs only [go_sem, T, Nat.reduceAdd, Nat.reduceSub, Nat.reduceMul, Nat.reduceLT, Nat.reduceLeDiff, Nat.reduceEqDiff, Int.reduceEq, Int.reduceLT, Int.reduceLE, List.append_eq]
  simp only [wrap_small (k : Int) (by omega) (by omega)]
  (refine condP_intro (fun h => ?_) (fun h => ?_) <;> (try simp only [Bool.and_eq_true, Bool.or_eq_true, Bool.not_eq_true', Bool.not_eq_false', Bool.or_eq_false_iff, Bool.and_eq_false_imp, decide_eq_true_eq, decide_eq_false_iff_not, Bool.not_eq_true, Bool.not_eq_false, Int.ofNat_lt, Int.ofNat_le] at h) <;> simp -dsimp -implicitDefEqProofs only [go_sem, T, Nat.reduceAdd, Nat.reduceSub, Nat.reduceMul, Nat.reduceLT, Nat.reduceLeDiff, Nat.reduceEqDiff, Int.reduceEq, Int.reduceLT, Int.reduceLE, h])
  · have hk2 : k < 66 := by omega
    simp -dsimp -implicitDefEqProofs only [go_sem, T, Nat.reduceAdd, Nat.reduceSub, Nat.reduceMul, Nat.reduceLT, Nat.reduceLeDiff, Nat.reduceEqDiff, Int.reduceEq, Int.reduceLT, Int.reduceLE, hk2, one_cell k hk2]
    have hl : ones.length = 66 := by kernel_rfl
    exact Fin.cut (Nat.le_refl _) hc ⟨str_av (by simp [oneN, List.getD, List.getElem?_eq_getElem (show k < ones.length by omega)]), rfl⟩
  · have hl : ones.length = 66 := by kernel_rfl
    exact Fin.cut (Nat.le_refl _) hc ⟨str_av (by simp [oneN, List.getElem?_eq_none (show ones.length ≤ k by omega)]), rfl⟩

set_option maxRecDepth 20000 in
theorem namesKinds_meets (k : Nat) (hk : k < 256) (s : List UInt8) (H : List Ent) : Meets nE Tryd.prog 4 [.d (.int .u8 k), .d (.str s)] H (Ret (.d (.bool true)) H) := by
  refine Meets.of_body mixed tok (plan := fun _ => .done) Tryd.func4 Tryd.call4 Tryd.ntmps4 Tryd.results4 rfl (by kernel_rfl) ?_
  simp -dsimp -implicitDefEqProofs only [go_sem, T, Nat.reduceAdd, Nat.reduceSub, Nat.reduceMul, Nat.reduceLT, Nat.reduceLeDiff, Nat.reduceEqDiff, Int.reduceEq, Int.reduceLT, Int.reduceLE]
  refine (one_meets k hk s H).ret ?_
  generalize oneN k s = n
  simp -dsimp -implicitDefEqProofs only [go_sem, T, Nat.reduceAdd, Nat.reduceSub, Nat.reduceMul, Nat.reduceLT, Nat.reduceLeDiff, Nat.reduceEqDiff, Int.reduceEq, Int.reduceLT, Int.reduceLE]
  (refine condP_intro (fun h => ?_) (fun h => ?_) <;> (try simp only [Bool.and_eq_true, Bool.or_eq_true, Bool.not_eq_true', Bool.not_eq_false', Bool.or_eq_false_iff, Bool.and_eq_false_imp, decide_eq_true_eq, decide_eq_false_iff_not, Bool.not_eq_true, Bool.not_eq_false, Int.ofNat_lt, Int.ofNat_le] at h) <;> simp -dsimp -implicitDefEqProofs only [go_sem, T, Nat.reduceAdd, Nat.reduceSub, Nat.reduceMul, Nat.reduceLT, Nat.reduceLeDiff, Nat.reduceEqDiff, Int.reduceEq, Int.reduceLT, Int.reduceLE, h])
  · refine (known_meets H).ret ?_
    simp -dsimp -implicitDefEqProofs only [go_sem, T, Nat.reduceAdd, Nat.reduceSub, Nat.reduceMul, Nat.reduceLT, Nat.reduceLeDiff, Nat.reduceEqDiff, Int.reduceEq, Int.reduceLT, Int.reduceLE, h]
    refine (void_meets n H).ret ?_
    simp -dsimp -implicitDefEqProofs only [go_sem, T, Nat.reduceAdd, Nat.reduceSub, Nat.reduceMul, Nat.reduceLT, Nat.reduceLeDiff, Nat.reduceEqDiff, Int.reduceEq, Int.reduceLT, Int.reduceLE]
    refine (rvoid_meets nE n H).ret ?_
    simp -dsimp -implicitDefEqProofs only [go_sem, T, Nat.reduceAdd, Nat.reduceSub, Nat.reduceMul, Nat.reduceLT, Nat.reduceLeDiff, Nat.reduceEqDiff, Int.reduceEq, Int.reduceLT, Int.reduceLE]
    refine (raw_meets n H).ret ?_
    simp -dsimp -implicitDefEqProofs only [go_sem, T, Nat.reduceAdd, Nat.reduceSub, Nat.reduceMul, Nat.reduceLT, Nat.reduceLeDiff, Nat.reduceEqDiff, Int.reduceEq, Int.reduceLT, Int.reduceLE]
    refine (rraw_meets nE n H).ret ?_
    simp -dsimp -implicitDefEqProofs only [go_sem, T, Nat.reduceAdd, Nat.reduceSub, Nat.reduceMul, Nat.reduceLT, Nat.reduceLeDiff, Nat.reduceEqDiff, Int.reduceEq, Int.reduceLT, Int.reduceLE]
    refine (soft_meets n H).ret ?_
    simp -dsimp -implicitDefEqProofs only [go_sem, T, Nat.reduceAdd, Nat.reduceSub, Nat.reduceMul, Nat.reduceLT, Nat.reduceLeDiff, Nat.reduceEqDiff, Int.reduceEq, Int.reduceLT, Int.reduceLE]
    refine (rsoft_meets nE n H).ret ?_
    simp -dsimp -implicitDefEqProofs only [go_sem, T, Nat.reduceAdd, Nat.reduceSub, Nat.reduceMul, Nat.reduceLT, Nat.reduceLeDiff, Nat.reduceEqDiff, Int.reduceEq, Int.reduceLT, Int.reduceLE]
    refine (block_meets n H).ret ?_
    simp -dsimp -implicitDefEqProofs only [go_sem, T, Nat.reduceAdd, Nat.reduceSub, Nat.reduceMul, Nat.reduceLT, Nat.reduceLeDiff, Nat.reduceEqDiff, Int.reduceEq, Int.reduceLT, Int.reduceLE]
    refine (rblock_meets nE n H).ret ?_
    simp -dsimp -implicitDefEqProofs only [go_sem, T, Nat.reduceAdd, Nat.reduceSub, Nat.reduceMul, Nat.reduceLT, Nat.reduceLeDiff, Nat.reduceEqDiff, Int.reduceEq, Int.reduceLT, Int.reduceLE]
    exact Fin.ret rfl rfl
  · refine (known_meets H).ret ?_
    simp -dsimp -implicitDefEqProofs only [go_sem, T, Nat.reduceAdd, Nat.reduceSub, Nat.reduceMul, Nat.reduceLT, Nat.reduceLeDiff, Nat.reduceEqDiff, Int.reduceEq, Int.reduceLT, Int.reduceLE, h]
    exact Fin.ret rfl rfl
end Go.Proofs.YtoajalcngklenaaDoor
