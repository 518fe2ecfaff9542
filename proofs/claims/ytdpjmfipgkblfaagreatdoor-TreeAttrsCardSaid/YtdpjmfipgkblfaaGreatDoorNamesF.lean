/- Contracts of the document's answer for layer 3, by V: kinds of names. -/
import Derived.Test.YtdpjmfipgkblfaaGreatDoorNamesE
set_option linter.unusedSimpArgs false
namespace Go.Proofs.YtdpjmfipgkblfaaGreatDoor
open Go Go.V
attribute [local irreducible] vc vcL vcP vcI vcO stOp Loops condP bx bx2 Meets Back

def wordsR (l : List UInt8) (ws : List (List UInt8)) : Prop := splitSp l = ws ∧ ws.contains [] = false ∧ l.length < 1073741824
theorem ramong_const (E : Env) (l x : List UInt8) (ws : List (List UInt8)) (h : wordsR l ws) (H : List Ent) : Meets E Tryz.prog 57 [.d (.str l), .d (.str x)] H (Ret (.d (.bool (ws.contains x))) H) := by
  obtain ⟨rfl, h1, h2⟩ := h
  have he : (splitSp l).contains x = amongR l x := by
    unfold amongR
    cases x with
    | nil => simpa using h1
    | cons a x => simp
  rw [he]
  exact ramong_meets E l x h2 H
theorem voids_wordsR : wordsR (w "area base br col embed hr img input link meta source track wbr") voids := ⟨by kernel_rfl, by kernel_rfl, of_decide_eq_true (by kernel_rfl)⟩
theorem raws_wordsR : wordsR (w "script style xmp iframe noembed noframes") raws := ⟨by kernel_rfl, by kernel_rfl, of_decide_eq_true (by kernel_rfl)⟩
theorem softs_wordsR : wordsR (w "title textarea") softs := ⟨by kernel_rfl, by kernel_rfl, of_decide_eq_true (by kernel_rfl)⟩
theorem blocks_wordsR : wordsR (w "address article aside blockquote details dialog div dl fieldset figcaption figure footer form h1 h2 h3 h4 h5 h6 header hgroup hr main menu nav ol p pre search section summary table ul") blocks := ⟨by kernel_rfl, by kernel_rfl, of_decide_eq_true (by kernel_rfl)⟩
theorem hosts_wordsR : wordsR (w "article aside blockquote body div footer h1 h2 h3 h4 h5 h6 header main nav p section span") hosts := ⟨by kernel_rfl, by kernel_rfl, of_decide_eq_true (by kernel_rfl)⟩
theorem others_wordsR : wordsR (w "annotation-xml color-profile font-face font-face-src font-face-uri font-face-format font-face-name missing-glyph") others := ⟨by kernel_rfl, by kernel_rfl, of_decide_eq_true (by kernel_rfl)⟩
attribute [local go_sem] Nat.reduceAdd Nat.reduceSub Nat.reduceMul Nat.reduceLT Nat.reduceLeDiff Nat.reduceEqDiff Int.reduceEq Int.reduceLT Int.reduceLE
set_option maxRecDepth 20000 in
theorem rvoid_meets (E : Env) (l : List UInt8) (H : List Ent) : Meets E Tryz.prog 35 [.d (.str l)] H (Ret (.d (.bool (voids.contains l))) H) := by
  refine Meets.of_body mixed tok (plan := fun _ => .done) Tryz.func35 Tryz.call35 Tryz.ntmps35 Tryz.results35 rfl (by kernel_rfl) ?_
  simp -dsimp -implicitDefEqProofs (maxSteps := 2000000) only [go_sem]
  refine (ramong_const E _ l voids voids_wordsR H).ret ?_
  simp -dsimp -implicitDefEqProofs (maxSteps := 2000000) only [go_sem]
  exact Fin.ret rfl rfl
set_option maxRecDepth 20000 in
theorem rraw_meets (E : Env) (l : List UInt8) (H : List Ent) : Meets E Tryz.prog 62 [.d (.str l)] H (Ret (.d (.bool (raws.contains l))) H) := by
  refine Meets.of_body mixed tok (plan := fun _ => .done) Tryz.func62 Tryz.call62 Tryz.ntmps62 Tryz.results62 rfl (by kernel_rfl) ?_
  simp -dsimp -implicitDefEqProofs (maxSteps := 2000000) only [go_sem]
  refine (ramong_const E _ l raws raws_wordsR H).ret ?_
  simp -dsimp -implicitDefEqProofs (maxSteps := 2000000) only [go_sem]
  exact Fin.ret rfl rfl
set_option maxRecDepth 20000 in
theorem rsoft_meets (E : Env) (l : List UInt8) (H : List Ent) : Meets E Tryz.prog 61 [.d (.str l)] H (Ret (.d (.bool (softs.contains l))) H) := by
  refine Meets.of_body mixed tok (plan := fun _ => .done) Tryz.func61 Tryz.call61 Tryz.ntmps61 Tryz.results61 rfl (by kernel_rfl) ?_
  simp -dsimp -implicitDefEqProofs (maxSteps := 2000000) only [go_sem]
  refine (ramong_const E _ l softs softs_wordsR H).ret ?_
  simp -dsimp -implicitDefEqProofs (maxSteps := 2000000) only [go_sem]
  exact Fin.ret rfl rfl
set_option maxRecDepth 20000 in
theorem rblock_meets (E : Env) (l : List UInt8) (H : List Ent) : Meets E Tryz.prog 126 [.d (.str l)] H (Ret (.d (.bool (blocks.contains l))) H) := by
  refine Meets.of_body mixed tok (plan := fun _ => .done) Tryz.func126 Tryz.call126 Tryz.ntmps126 Tryz.results126 rfl (by kernel_rfl) ?_
  simp -dsimp -implicitDefEqProofs (maxSteps := 2000000) only [go_sem]
  refine (ramong_const E _ l blocks blocks_wordsR H).ret ?_
  simp -dsimp -implicitDefEqProofs (maxSteps := 2000000) only [go_sem]
  exact Fin.ret rfl rfl
end Go.Proofs.YtdpjmfipgkblfaaGreatDoor
