/- The document's answer for layer 7, by V: what is the same (where it is the same). -/
import Derived.Test.YtdpjmfipgkblfaaGreatDoorTreeZ
set_option linter.unusedSimpArgs false
namespace Go.Proofs.YtdpjmfipgkblfaaGreatDoor
open Go Go.V
attribute [local irreducible] vc vcL vcP vcI vcO stOp Loops condP bx bx2 Meets Back

instance : Inhabited Flt := ⟨⟨0, 0⟩⟩
attribute [local go_sem] a64 a64l a64r s64 s64l ite_min ite_max zlt_l zlt_r zle_l zle_r zeq len_eq byte_eq Nat.zero_le nth_set_ne List.forall_mem_cons all_nil isPl allSh_strs allNr_strs allSh_itm allNr_itm allSh_flt allNr_flt allSh_att allNr_att strs_length encAtts Nat.reduceAdd Nat.reduceSub Nat.reduceMul Nat.reduceLT Nat.reduceLeDiff Nat.reduceEqDiff Int.reduceEq Int.reduceLT Int.reduceLE
set_option maxRecDepth 20000 in
theorem sameAtts_meets (E : Env) (l : List Att) (hl : l.length < 1073741824) (H : List Ent) :
    Meets E Tryz.prog 30 [.c (.lst 2 l.length (at2 (l.map encAtt))), .c (.lst 2 l.length (at2 (l.map encAtt)))] H (Ret (.d (.bool true)) H) := by
  refine Meets.closed fun hc => ?_
  refine Meets.of_body mixed tok (plan := (fun | 6 => (.take 0 (.take 1 (.take 2 (.take 3 (.take 4 (.take 5 (.take 6 (.take 7 (.take 8 .done))))))))) | _ => .done)) Tryz.func30 Tryz.call30 Tryz.ntmps30 Tryz.results30 rfl (by kernel_rfl) ?_
  simp -dsimp -implicitDefEqProofs (maxSteps := 2000000) (disch := first | omega | assumption | (simp only [go_sem] <;> first | omega | assumption | fail) | fail) only [go_sem]
  refine Loops.on (α := Nat) (fun i => i ≤ l.length) (fun i => l.length - i) (fun i => [(5, .d (.int .i64 i))]) (fun _ => H) 0 (Nat.zero_le _) ?_ ?_
  · exact Goes.slots (by simp -dsimp -implicitDefEqProofs (maxSteps := 2000000) (disch := first | omega | assumption | (simp only [go_sem] <;> first | omega | assumption | fail) | fail) only [go_sem]; first | exact .same rfl | rfl) rfl
  rintro i hi
  simp -dsimp -implicitDefEqProofs (maxSteps := 2000000) (disch := first | omega | assumption | (simp only [go_sem] <;> first | omega | assumption | fail) | fail) only [go_sem]
  refine condP_intro (fun h => ?_) (fun h => ?_) <;> simp only [decide_eq_true_eq, decide_eq_false_iff_not] at h
  · have g0 := at2_map encAtt l i 0 h
    have g1 := at2_map encAtt l i 1 h
    simp only [encAtt, List.getD_cons_zero, List.getD_cons_succ] at g0 g1
    simp -dsimp -implicitDefEqProofs (maxSteps := 2000000) (disch := first | omega | assumption | (simp only [go_sem] <;> first | omega | assumption | fail) | fail) only [go_sem, h, g0, g1]
    exact Back.mk (i + 1) ⟨h, by omega⟩ (Goes.slots (by simp -dsimp -implicitDefEqProofs (maxSteps := 2000000) (disch := first | omega | assumption | (simp only [go_sem] <;> first | omega | assumption | fail) | fail) only [go_sem]) rfl)
  · simp -dsimp -implicitDefEqProofs (maxSteps := 2000000) (disch := first | omega | assumption | (simp only [go_sem] <;> first | omega | assumption | fail) | fail) only [go_sem, h]
    exact Fin.ret rfl rfl
set_option maxRecDepth 20000 in
theorem sameFlts_meets (E : Env) (l : List Flt) (hl : l.length < 1073741824) (cell : Nat → Nat → CV) (hcell : ∀ k, k < l.length → ∀ f, cell k f = at2 (l.map encFlt) k f) (H : List Ent) :
    Meets E Tryz.prog 17 [.c (.lst 2 l.length cell), .c (.lst 2 l.length (at2 (l.map encFlt)))] H (Ret (.d (.bool true)) H) := by
  refine Meets.closed fun hc => ?_
  refine Meets.of_body mixed tok (plan := (fun | 6 => (.take 0 (.take 1 (.take 2 (.take 3 (.take 4 (.take 5 (.take 6 (.take 7 (.take 8 .done))))))))) | _ => .done)) Tryz.func17 Tryz.call17 Tryz.ntmps17 Tryz.results17 rfl (by kernel_rfl) ?_
  simp -dsimp -implicitDefEqProofs (maxSteps := 2000000) (disch := first | omega | assumption | (simp only [go_sem] <;> first | omega | assumption | fail) | fail) only [go_sem]
  refine Loops.on (α := Nat) (fun i => i ≤ l.length) (fun i => l.length - i) (fun i => [(5, .d (.int .i64 i))]) (fun _ => H) 0 (Nat.zero_le _) ?_ ?_
  · exact Goes.slots (by simp -dsimp -implicitDefEqProofs (maxSteps := 2000000) (disch := first | omega | assumption | (simp only [go_sem] <;> first | omega | assumption | fail) | fail) only [go_sem]; first | exact .same rfl | rfl) rfl
  rintro i hi
  simp -dsimp -implicitDefEqProofs (maxSteps := 2000000) (disch := first | omega | assumption | (simp only [go_sem] <;> first | omega | assumption | fail) | fail) only [go_sem]
  refine condP_intro (fun h => ?_) (fun h => ?_) <;> simp only [decide_eq_true_eq, decide_eq_false_iff_not] at h
  · have g0 := at2_map encFlt l i 0 h
    have g1 := at2_map encFlt l i 1 h
    simp only [encFlt, List.getD_cons_zero, List.getD_cons_succ] at g0 g1
    simp -dsimp -implicitDefEqProofs (maxSteps := 2000000) (disch := first | omega | assumption | (simp only [go_sem] <;> first | omega | assumption | fail) | fail) only [go_sem, h, hcell i h, g0, g1]
    exact Back.mk (i + 1) ⟨h, by omega⟩ (Goes.slots (by simp -dsimp -implicitDefEqProofs (maxSteps := 2000000) (disch := first | omega | assumption | (simp only [go_sem] <;> first | omega | assumption | fail) | fail) only [go_sem]) rfl)
  · simp -dsimp -implicitDefEqProofs (maxSteps := 2000000) (disch := first | omega | assumption | (simp only [go_sem] <;> first | omega | assumption | fail) | fail) only [go_sem, h]
    exact Fin.ret rfl rfl
set_option maxRecDepth 20000 in
set_option maxHeartbeats 2000000 in
theorem sameItms_meets (E : Env) (l : List Itm) (hl : l.length < 1073741824) (ha : ∀ x ∈ l, x.attrs.length < 1073741824) (cell : Nat → Nat → CV) (hcell : ∀ k, k < l.length → ∀ f, cell k f = at2 (l.map encItm) k f) (H : List Ent) :
    Meets E Tryz.prog 16 [.c (.lst 5 l.length cell), .c (.lst 5 l.length (at2 (l.map encItm)))] H (Ret (.d (.bool true)) H) := by
  refine Meets.closed fun hc => ?_
  refine Meets.of_body mixed tok (plan := fun _ => .done) Tryz.func16 Tryz.call16 Tryz.ntmps16 Tryz.results16 rfl (by kernel_rfl) ?_
  simp -dsimp -implicitDefEqProofs (maxSteps := 2000000) (disch := first | omega | assumption | (simp only [go_sem] <;> first | omega | assumption | fail) | fail) only [go_sem]
  refine Loops.on (α := Nat) (fun i => i ≤ l.length) (fun i => l.length - i) (fun i => [(5, .d (.int .i64 i))]) (fun _ => H) 0 (Nat.zero_le _) ?_ ?_
  · exact Goes.slots (by simp -dsimp -implicitDefEqProofs (maxSteps := 2000000) (disch := first | omega | assumption | (simp only [go_sem] <;> first | omega | assumption | fail) | fail) only [go_sem]; first | exact .same rfl | rfl) rfl
  rintro i hi
  simp -dsimp -implicitDefEqProofs (maxSteps := 2000000) (disch := first | omega | assumption | (simp only [go_sem] <;> first | omega | assumption | fail) | fail) only [go_sem]
  refine condP_intro (fun h => ?_) (fun h => ?_) <;> simp only [decide_eq_true_eq, decide_eq_false_iff_not] at h
  · have g0 := at2_map encItm l i 0 h
    have g1 := at2_map encItm l i 1 h
    have g2 := at2_map encItm l i 2 h
    have g3 := at2_map encItm l i 3 h
    have g4 := at2_map encItm l i 4 h
    have hmem : l.getD i default ∈ l := by rw [List.getD, List.getElem?_eq_getElem h]; exact List.getElem_mem h
    obtain ⟨x, hx⟩ : ∃ x, l.getD i default = x := ⟨_, rfl⟩
    rw [hx] at g0 g1 g2 g3 g4 hmem
    have hax := ha x hmem
    simp only [encItm, List.getD_cons_zero, List.getD_cons_succ] at g0 g1 g2 g3 g4
    simp -dsimp -implicitDefEqProofs (maxSteps := 2000000) (disch := first | omega | assumption | (simp only [go_sem] <;> first | omega | assumption | fail) | fail) only [go_sem, h, hcell i h, g0, g1, g2, g3, g4]
    clear g0 g1 g2 g3 g4 hmem hx
    refine (sameAtts_meets E x.attrs hax _).ret ?_
    simp -dsimp -implicitDefEqProofs (maxSteps := 2000000) (disch := first | omega | assumption | (simp only [go_sem] <;> first | omega | assumption | fail) | fail) only [go_sem]
    refine Back.rnA (N := H.length) [] rfl (Nat.le_refl _) hc trivial trivial ?_
    simp -dsimp -implicitDefEqProofs (maxSteps := 2000000) (disch := first | omega | assumption | (simp only [go_sem] <;> first | omega | assumption | fail) | fail) only [go_sem]
    exact Back.mk (i + 1) ⟨h, by omega⟩ (Goes.slots (by simp -dsimp -implicitDefEqProofs (maxSteps := 2000000) (disch := first | omega | assumption | (simp only [go_sem] <;> first | omega | assumption | fail) | fail) only [go_sem]) rfl)
  · simp -dsimp -implicitDefEqProofs (maxSteps := 2000000) (disch := first | omega | assumption | (simp only [go_sem] <;> first | omega | assumption | fail) | fail) only [go_sem, h]
    exact Fin.ret rfl rfl
end Go.Proofs.YtdpjmfipgkblfaaGreatDoor
