/- Contracts of the document's answer for layer 4, by V: references. -/
import Derived.Test.YtdpjmfipgkblfaaGreatDoorTokA
set_option linter.unusedSimpArgs false
namespace Go.Proofs.YtdpjmfipgkblfaaGreatDoor
open Go Go.V
attribute [local irreducible] vc vcL vcP vcI vcO stOp Loops condP bx bx2 Meets Back

set_option maxRecDepth 20000 in
theorem code_lits1 : [[CV.str [97, 109, 112]], [CV.str [108, 116]], [CV.str [103, 116]], [CV.str [113, 117, 111, 116]], [CV.str [97, 112, 111, 115]], [CV.str [110, 98, 115, 112]], [CV.str [99, 111, 112, 121]], [CV.str [114, 101, 103]], [CV.str [104, 101, 108, 108, 105, 112]], [CV.str [109, 100, 97, 115, 104]], [CV.str [110, 100, 97, 115, 104]], [CV.str [108, 115, 113, 117, 111]], [CV.str [114, 115, 113, 117, 111]], [CV.str [108, 100, 113, 117, 111]], [CV.str [114, 100, 113, 117, 111]], [CV.str [101, 117, 114, 111]], [CV.str [116, 105, 109, 101, 115]], [CV.str [100, 105, 118, 105, 100, 101]], [CV.str [112, 97, 114, 97]], [CV.str [115, 101, 99, 116]], [CV.str [110, 111, 116]], [CV.str [110, 111, 116, 105, 110]]] = refNames.map fun x => [CV.str x] := by kernel_rfl
set_option maxRecDepth 20000 in
theorem code_cell1 (k : Nat) (h : k < 22) : at2 [[CV.str [97, 109, 112]], [CV.str [108, 116]], [CV.str [103, 116]], [CV.str [113, 117, 111, 116]], [CV.str [97, 112, 111, 115]], [CV.str [110, 98, 115, 112]], [CV.str [99, 111, 112, 121]], [CV.str [114, 101, 103]], [CV.str [104, 101, 108, 108, 105, 112]], [CV.str [109, 100, 97, 115, 104]], [CV.str [110, 100, 97, 115, 104]], [CV.str [108, 115, 113, 117, 111]], [CV.str [114, 115, 113, 117, 111]], [CV.str [108, 100, 113, 117, 111]], [CV.str [114, 100, 113, 117, 111]], [CV.str [101, 117, 114, 111]], [CV.str [116, 105, 109, 101, 115]], [CV.str [100, 105, 118, 105, 100, 101]], [CV.str [112, 97, 114, 97]], [CV.str [115, 101, 99, 116]], [CV.str [110, 111, 116]], [CV.str [110, 111, 116, 105, 110]]] k 0 = .str (refNames.getD k []) := by
  have hl : refNames.length = 22 := by kernel_rfl
  rw [code_lits1, at2_map _ _ _ _ (by omega)]
  simp [List.getD, List.getElem?_eq_getElem (show k < refNames.length by omega)]
set_option maxRecDepth 20000 in
theorem code_lits2 : [[CV.int .i32 38], [CV.int .i32 60], [CV.int .i32 62], [CV.int .i32 34], [CV.int .i32 39], [CV.int .i32 160], [CV.int .i32 169], [CV.int .i32 174], [CV.int .i32 8230], [CV.int .i32 8212], [CV.int .i32 8211], [CV.int .i32 8216], [CV.int .i32 8217], [CV.int .i32 8220], [CV.int .i32 8221], [CV.int .i32 8364], [CV.int .i32 215], [CV.int .i32 247], [CV.int .i32 182], [CV.int .i32 167], [CV.int .i32 172], [CV.int .i32 8713]] = refCodes.map fun x => [CV.int .i32 x] := by kernel_rfl
set_option maxRecDepth 20000 in
theorem code_cell2 (k : Nat) (h : k < 22) : at2 [[CV.int .i32 38], [CV.int .i32 60], [CV.int .i32 62], [CV.int .i32 34], [CV.int .i32 39], [CV.int .i32 160], [CV.int .i32 169], [CV.int .i32 174], [CV.int .i32 8230], [CV.int .i32 8212], [CV.int .i32 8211], [CV.int .i32 8216], [CV.int .i32 8217], [CV.int .i32 8220], [CV.int .i32 8221], [CV.int .i32 8364], [CV.int .i32 215], [CV.int .i32 247], [CV.int .i32 182], [CV.int .i32 167], [CV.int .i32 172], [CV.int .i32 8713]] k 0 = .int .i32 (refCodes.getD k 0) := by
  have hl : refCodes.length = 22 := by kernel_rfl
  rw [code_lits2, at2_map _ _ _ _ (by omega)]
  simp [List.getD, List.getElem?_eq_getElem (show k < refCodes.length by omega)]
set_option maxRecDepth 20000 in
theorem code_bare : [98, 98, 98, 98, 46, 98, 98, 98, 46, 46, 46, 46, 46, 46, 46, 46, 98, 98, 98, 98, 98, 46] = refBare := by kernel_rfl
attribute [local go_sem] a64 a64l a64r s64 s64l ite_min ite_max zlt_l zlt_r zle_l zle_r zeq len_eq byte_eq Nat.zero_le nth_set_ne List.forall_mem_cons all_nil isPl Nat.reduceAdd Nat.reduceSub Nat.reduceMul Nat.reduceLT Nat.reduceLeDiff Nat.reduceEqDiff Int.reduceEq Int.reduceLT Int.reduceLE
set_option maxRecDepth 20000 in
set_option maxHeartbeats 1000000 in
theorem rcode_meets (E : Env) (k : Nat) (hk : k < 22) (H : List Ent) :
    Meets E Tryz.prog 44 [.d (.int .i64 k)] H (Ret (.tup [.c (.int .i32 (refCodes.getD k 0)), .c (.str (refNames.getD k [])), .c (.bool (decide (refBare.getD k 0 = 98)))]) H) := by
  refine Meets.closed fun hc => ?_
  refine Meets.of_body mixed tok (plan := (fun | 6 => (.take 0 (.take 1 (.take 2 (.take 3 (.take 4 (.take 5 (.take 6 (.take 7 (.take 8 (.take 9 (.take 10 (.take 11 (.take 12 (.take 13 (.take 14 .done))))))))))))))) | _ => .done)) Tryz.func44 Tryz.call44 Tryz.ntmps44 Tryz.results44 rfl (by kernel_rfl) ?_
  simp -dsimp -implicitDefEqProofs (maxSteps := 2000000) (disch := first | omega | assumption | (simp only [go_sem] <;> first | omega | assumption | fail) | fail) only [go_sem, List.append_eq]
  (refine condP_intro (fun h => ?_) (fun h => ?_) <;> (try simp only [Bool.and_eq_true, Bool.or_eq_true, Bool.not_eq_true', Bool.not_eq_false', Bool.or_eq_false_iff, Bool.and_eq_false_imp, decide_eq_true_eq, decide_eq_false_iff_not, Bool.not_eq_true, Bool.not_eq_false, Int.ofNat_lt, Int.ofNat_le] at h) <;> simp -dsimp -implicitDefEqProofs (maxSteps := 2000000) (disch := first | omega | assumption | (simp only [go_sem] <;> first | omega | assumption | fail) | fail) only [go_sem, h])
  · omega
  · simp -dsimp -implicitDefEqProofs (maxSteps := 2000000) (disch := first | omega | assumption | (simp only [go_sem] <;> first | omega | assumption | fail) | fail) only [go_sem, code_cell1 k hk, code_cell2 k hk, code_bare]
    (repeat (refine ⟨by first | omega | assumption | trivial | (simp only [List.length_take, List.length_map, List.length_append, List.length_cons, List.length_nil, List.length_drop]; omega), ?_⟩))

    exact Fin.cut (Nat.le_refl _) hc ⟨rfl, rfl⟩

theorem takeK_le (s : List UInt8) (p : Nat) : ∀ k, k ≤ 22 → (takeK s p k).1 ≤ 8 ∧ (takeK s p k).2.2 ≤ 1 ∧ (takeK s p k).2.1.length ≤ 8
  | 0, _ => ⟨by simp [takeK], by simp [takeK], by simp [takeK]⟩
  | k + 1, hk => by
    have ih := takeK_le s p k (by omega)
    have h1 : ∀ k, k < 22 → (refNames.getD k []).length ≤ 6 ∧ (uenc (refCodes.getD k 0)).length ≤ 8 := by decide +kernel
    have := h1 k (by omega)
    simp only [takeK, takeStep]
    repeat' split
    all_goals first | exact ih | (simp only; omega)
end Go.Proofs.YtdpjmfipgkblfaaGreatDoor
