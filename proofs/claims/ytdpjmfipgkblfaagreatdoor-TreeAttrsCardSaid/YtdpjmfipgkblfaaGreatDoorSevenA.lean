/- The statements' own helpers of layer 7, by V: the chapter's example. -/
import Derived.Test.YtdpjmfipgkblfaaGreatDoorTreeZ
import Derived.Test.YtdpjmfipgkblfaaGreatDoorTokN
set_option linter.unusedSimpArgs false
namespace Go.Proofs.YtdpjmfipgkblfaaGreatDoor
open Go Go.V
attribute [local irreducible] vc vcL vcP vcI vcO stOp Loops condP bx bx2 Meets Back

def exS : List UInt8 := [60, 117, 108, 62, 60, 108, 105, 62, 97, 60, 108, 105, 62, 98, 60, 47, 117, 108, 62]
def exI : List Itm := [⟨0, 1, [117, 108], [], []⟩, ⟨1, 1, [108, 105], [], []⟩, ⟨2, 2, [], [97], []⟩, ⟨1, 1, [108, 105], [], []⟩, ⟨2, 2, [], [98], []⟩]
set_option maxRecDepth 20000 in
theorem ex_toks : (tokensT exS).all (fun t => t.attrs.isEmpty) = true ∧ (tokensT exS).length ≤ 100000 := by
  constructor
  · decide +kernel
  · decide +kernel
set_option maxRecDepth 20000 in
theorem ex_items : (buildB (tokensT exS)).items = exI ∧ (buildB (tokensT exS)).faults = [] := by
  constructor
  · decide +kernel
  · decide +kernel
theorem noAtts (l : List Tok) (h : l.all (fun t => t.attrs.isEmpty) = true) : ∀ t ∈ l, t.attrs.length ≤ 100 ∧ ∀ a ∈ t.attrs, WOk a := fun t ht => by
  have := List.all_eq_true.1 h t ht
  have h0 : t.attrs = [] := by simpa using this
  rw [h0]
  exact ⟨by simp, fun a ha => by cases ha⟩
theorem noAttsI (l : List Itm) (h : l.all (fun t => t.attrs.isEmpty) = true) : ∀ t ∈ l, t.attrs.length < 1000000 ∧ ∀ a ∈ t.attrs, WOk a := fun t ht => by
  have := List.all_eq_true.1 h t ht
  have h0 : t.attrs = [] := by simpa using this
  rw [h0]
  exact ⟨by simp, fun a ha => by cases ha⟩
attribute [local go_sem] a64 a64l a64r s64 s64l ite_min ite_max zlt_l zlt_r zle_l zle_r zeq len_eq byte_eq Nat.zero_le nth_set_ne List.forall_mem_cons all_nil isPl allSh_strs allNr_strs allSh_itm allNr_itm allSh_flt allNr_flt allSh_att allNr_att strs_length encAtts Nat.reduceAdd Nat.reduceSub Nat.reduceMul Nat.reduceLT Nat.reduceLeDiff Nat.reduceEqDiff Int.reduceEq Int.reduceLT Int.reduceLE
set_option maxRecDepth 20000 in
set_option maxHeartbeats 2000000 in
theorem known7_meets (H : List Ent) : Meets tE Tryz.prog 13 [] H (Ret (.d (.bool true)) H) := by
  refine Meets.closed fun hc => ?_
  refine Meets.of_body mixed tok (plan := fun _ => .done) Tryz.func13 Tryz.call13 Tryz.ntmps13 Tryz.results13 rfl (by kernel_rfl) ?_
  simp -dsimp -implicitDefEqProofs (maxSteps := 2000000) (disch := first | omega | assumption | (simp only [go_sem] <;> first | omega | assumption | fail) | fail) only [go_sem]
  refine (rtokens_meets tE exS (by decide) H).ret ?_
  simp -dsimp -implicitDefEqProofs (maxSteps := 2000000) (disch := first | omega | assumption | (simp only [go_sem] <;> first | omega | assumption | fail) | fail) only [go_sem]
  have hb := tbuild_meets (tokensT exS) ex_toks.2 (noAtts _ ex_toks.1) (by unfold tooBig; rw [ex_items.1]; decide) H
  rw [ex_items.1, ex_items.2] at hb
  refine hb.ret ?_
  have e0 : (exI.length = 5) = True := eq_true rfl
  have e1 : (1 < exI.length) = True := eq_true (by decide)
  have e2 : (2 < exI.length) = True := eq_true (by decide)
  have e3 : (3 < exI.length) = True := eq_true (by decide)
  have c1 : at2 (exI.map encItm) 1 2 = .str [108, 105] := rfl
  have c2 : at2 (exI.map encItm) 1 0 = .int .i64 1 := rfl
  have c3 : at2 (exI.map encItm) 2 3 = .str [97] := rfl
  have c4 : at2 (exI.map encItm) 3 0 = .int .i64 1 := rfl
  have t1 : Int.toNat 1 = 1 := rfl
  have t2 : Int.toNat 2 = 2 := rfl
  have t3 : Int.toNat 3 = 3 := rfl
  have t0 : Int.toNat 0 = 0 := rfl
  simp -dsimp -implicitDefEqProofs (maxSteps := 2000000) (disch := first | omega | assumption | (simp only [go_sem] <;> first | omega | assumption | fail) | fail) only [go_sem, nat_eq, t0, t1, t2, t3, e0, e1, e2, e3, c1, c2, c3, c4]
  have hs1 : soundB exI = true := by decide +kernel
  have h1 := tsound_meets exI (by decide) (noAttsI exI (by decide)) H
  rw [hs1] at h1
  refine h1.ret ?_
  simp -dsimp -implicitDefEqProofs (maxSteps := 2000000) (disch := first | omega | assumption | (simp only [go_sem] <;> first | omega | assumption | fail) | fail) only [go_sem]
  refine Meets.frz H.length ?_
  simp -dsimp -implicitDefEqProofs (maxSteps := 2000000) (disch := first | omega | assumption | (simp only [go_sem] <;> first | omega | assumption | fail) | fail) only [go_sem]
  refine ⟨fun _ => trivial, ?_⟩
  refine Meets.args (args' := [.c (.lst 5 1 (at2 ([(⟨1, 2, [], [120], []⟩ : Itm)].map encItm)))]) ⟨AvLe.c (CvLe.lst fun k _ f _ => CvLe.rows (wd := 5) (show F2 (F2 CvLe) [[CV.int .i64 1, .int .u8 2, .str [], .str [120], .nil 41 2]] ([(⟨1, 2, [], [120], []⟩ : Itm)].map encItm) from ⟨⟨CvLe.refl _, CvLe.refl _, CvLe.refl _, CvLe.refl _, CvLe.nil _ _ _ _, trivial⟩, trivial⟩) k f), trivial⟩ ?_
  have hs2 : soundB [⟨1, 2, [], [120], []⟩] = false := by decide +kernel
  have h2 := tsound_meets [⟨1, 2, [], [120], []⟩] (by decide) (noAttsI _ (by decide)) (H ++ [Ent.dead])
  rw [hs2] at h2
  refine h2.ret ?_
  simp -dsimp -implicitDefEqProofs (maxSteps := 2000000) (disch := first | omega | assumption | (simp only [go_sem] <;> first | omega | assumption | fail) | fail) only [go_sem]
  exact Fin.cut (Nat.le_refl _) hc ⟨rfl, rfl⟩
end Go.Proofs.YtdpjmfipgkblfaaGreatDoor
