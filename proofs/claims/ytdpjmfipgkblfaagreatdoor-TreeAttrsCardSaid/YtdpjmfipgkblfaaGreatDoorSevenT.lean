/- The statement TreeAttrs, by V. -/
import Derived.Test.YtdpjmfipgkblfaaGreatDoorSevenU
set_option linter.unusedSimpArgs false
namespace Go.Proofs.YtdpjmfipgkblfaaGreatDoor
open Go Go.V
attribute [local irreducible] vc vcL vcP vcI vcO stOp Loops condP bx bx2 Meets Back

theorem attsTo_app (out : List Att) (a : Att) : attsTo (out ++ [a]) (out.length + 1) = (attsTo out out.length && (writableA a && !hasA out a.name)) := by
  rw [attsTo_step]
  have e1 : (out ++ [a]).getD out.length default = a := by simp [List.getD]
  have e2 : (out ++ [a]).take out.length = out := by rw [List.take_left]
  rw [e1, e2]
  congr 1
  unfold attsTo
  rw [Bool.eq_iff_iff]
  simp only [List.all_eq_true, List.mem_range]
  have hk : ∀ k, k < out.length → (out ++ [a]).getD k default = out.getD k default ∧ (out ++ [a]).take k = out.take k := fun k h =>
    ⟨by simp [List.getD, List.getElem?_append, h], by rw [List.take_append_of_le_length (by omega)]⟩
  constructor
  · intro h k hk'
    have := h k hk'
    rw [(hk k hk').1, (hk k hk').2] at this
    exact this
  · intro h k hk'
    rw [(hk k hk').1, (hk k hk').2]
    exact h k hk'
theorem attrsF_spec : ∀ (l out : List Att) (b : Bd), (∃ s, (attrsF l out b).1 = out ++ s ∧ s.Sublist l) ∧ (attrsF l out b).1.length + (attrsF l out b).2.faults.length = out.length + b.faults.length + l.length ∧
    (attsTo out out.length = true → attsTo (attrsF l out b).1 (attrsF l out b).1.length = true)
  | [], out, b => ⟨⟨[], by simp [attrsF], List.Sublist.refl _⟩, by simp [attrsF], fun h => h⟩
  | a :: l, out, b => by
    unfold attrsF
    split
    · rename_i hc
      obtain ⟨⟨s, h1, h2⟩, h3, h4⟩ := attrsF_spec l (out ++ [a]) b
      refine ⟨⟨a :: s, by rw [h1]; simp, h2.cons_cons a⟩, by rw [h3]; simp; omega, fun h => h4 ?_⟩
      rw [List.length_append, List.length_singleton, attsTo_app, h, Bool.true_and]
      exact hc
    · obtain ⟨⟨s, h1, h2⟩, h3, h4⟩ := attrsF_spec l out (b.fault 5)
      refine ⟨⟨s, h1, h2.cons a⟩, by rw [h3]; simp [Bd.fault]; omega, h4⟩
def divN : List UInt8 := [100, 105, 118]
def attrTok (l : List Att) : Tok := ⟨1, divN, l, false, [], 0⟩
theorem attr_build (l : List Att) : (buildB [attrTok l]).items = [⟨0, 1, divN, [], (attrsF l [] bd0).1⟩] ∧ (buildB [attrTok l]).faults = (attrsF l [] bd0).2.faults := by
  have hv : validN divN = true := by decide +kernel
  have hb : voids.contains divN = false := by decide +kernel
  have hf : firstR divN bd0 = bd0 := by kernel_rfl
  have ha := attrsF_len l [] bd0
  show (startR (attrTok l) bd0).items = _ ∧ (startR (attrTok l) bd0).faults = _
  unfold startR
  simp only [attrTok, hv, if_true, hf, hb, Bd.item, ha.2.1, ha.2.2.1]
  constructor <;> rfl
theorem attr_sound (l : List Att) (hl : l.length ≤ 40) : soundB [⟨0, 1, divN, [], (attrsF l [] bd0).1⟩] = true := by
  have hv : validN divN = true := by decide +kernel
  obtain ⟨_, h2, h3⟩ := attrsF_spec l [] bd0
  have h2 : (attrsF l [] bd0).1.length + (attrsF l [] bd0).2.faults.length = l.length := by simpa [bd0] using h2
  have hr : rightR ⟨0, 1, divN, [], (attrsF l [] bd0).1⟩ (decide (((0 : Nat) : Int) = 0)) = true := by
    rw [rightR, if_pos rfl]
    simp only
    rw [h3 rfl, hv, Bool.true_and, Bool.true_and]
    simp
    omega
  simp only [soundB, soundF]
  rw [if_neg (by rw [hr]; simp)]
  simp
attribute [local go_sem] a64 a64l a64r s64 s64l ite_min ite_max zlt_l zlt_r zle_l zle_r zeq len_eq byte_eq Nat.zero_le nth_set_ne List.forall_mem_cons all_nil isPl allSh_nilT allNr_nilT allSh_strs allNr_strs allSh_itm allNr_itm allSh_flt allNr_flt allSh_att allNr_att strs_length encAtts Nat.reduceAdd Nat.reduceSub Nat.reduceMul Nat.reduceLT Nat.reduceLeDiff Nat.reduceEqDiff Int.reduceEq Int.reduceLT Int.reduceLE
set_option maxRecDepth 20000 in
set_option maxHeartbeats 4000000 in
theorem treeAttrs_meets (l : List Att) (hl : l.length ≤ 9223372036854775807) (H : List Ent) : Meets tE Tryz.prog 5 [.c (encAtts l)] H (Ret (.d (.bool true)) H) := by
  refine Meets.closed fun hc => ?_
  refine Meets.of_body mixed tok (plan := (fun | 5 => (.take 0 (.take 1 (.take 2 (.take 3 (.take 4 (.take 5 (.take 6 (.take 7 (.take 8 (.take 9 (.take 10 (.take 11 (.take 12 (.take 13 (.take 14 (.take 15 .done)))))))))))))))) | 15 => (.take 0 (.take 1 (.take 2 (.take 3 (.take 4 (.take 5 (.take 6 (.take 7 (.take 8 (.take 9 (.take 10 (.take 11 .done)))))))))))) | _ => .done)) Tryz.func5 Tryz.call5 Tryz.ntmps5 Tryz.results5 rfl (by kernel_rfl) ?_
  simp -dsimp -implicitDefEqProofs (maxSteps := 2000000) (disch := first | omega | assumption | (simp only [go_sem] <;> first | omega | assumption | fail) | fail) only [go_sem]
  refine Loops.on (α := Nat × Int) (fun q => q.1 ≤ l.length) (fun q => l.length - q.1) (fun q => [(4, .d (.int .i64 q.1)), (3, .d (.int .i64 q.2))]) (fun _ => H) (0, 0) (Nat.zero_le _) ?_ ?_
  · exact Goes.slots (by simp -dsimp -implicitDefEqProofs (maxSteps := 2000000) (disch := first | omega | assumption | (simp only [go_sem] <;> first | omega | assumption | fail) | fail) only [go_sem]; first | exact .same rfl | exact ⟨.same rfl, .same rfl⟩ | rfl) rfl
  rintro ⟨i, n⟩ hi
  simp only at hi
  simp -dsimp -implicitDefEqProofs (maxSteps := 2000000) (disch := first | omega | assumption | (simp only [go_sem] <;> first | omega | assumption | fail) | fail) only [go_sem]
  refine condP_intro (fun h => ?_) (fun h => ?_) <;> simp only [decide_eq_true_eq, decide_eq_false_iff_not] at h
  · have g0 := at2_map encAtt l i 0 h
    have g1 := at2_map encAtt l i 1 h
    obtain ⟨a, ha⟩ : ∃ a, l.getD i default = a := ⟨_, rfl⟩
    rw [ha] at g0 g1
    simp only [encAtt, List.getD_cons_zero, List.getD_cons_succ] at g0 g1
    simp -dsimp -implicitDefEqProofs (maxSteps := 2000000) (disch := first | omega | assumption | (simp only [go_sem] <;> first | omega | assumption | fail) | fail) only [go_sem, h, g0, g1]
    exact Back.mk (i + 1, addw .i64 n (addw .i64 a.name.length a.value.length)) ⟨h, by simp only; omega⟩ (Goes.slots (by simp -dsimp -implicitDefEqProofs (maxSteps := 2000000) (disch := first | omega | assumption | (simp only [go_sem] <;> first | omega | assumption | fail) | fail) only [go_sem]) rfl)
  · obtain rfl : i = l.length := by omega
    simp -dsimp -implicitDefEqProofs (maxSteps := 2000000) (disch := first | omega | assumption | (simp only [go_sem] <;> first | omega | assumption | fail) | fail) only [go_sem, h]
    (refine condP_intro (fun h1 => ?_) (fun h1 => ?_) <;> (try simp only [Bool.and_eq_true, Bool.or_eq_true, Bool.not_eq_true', Bool.not_eq_false', Bool.or_eq_false_iff, Bool.and_eq_false_imp, decide_eq_true_eq, decide_eq_false_iff_not, Bool.not_eq_true, Bool.not_eq_false, Int.ofNat_lt, Int.ofNat_le] at h1) <;> simp -dsimp -implicitDefEqProofs (maxSteps := 2000000) (disch := first | omega | assumption | (simp only [go_sem] <;> first | omega | assumption | fail) | fail) only [go_sem, h1])
    · (refine condP_intro (fun h2 => ?_) (fun h2 => ?_) <;> (try simp only [Bool.and_eq_true, Bool.or_eq_true, Bool.not_eq_true', Bool.not_eq_false', Bool.or_eq_false_iff, Bool.and_eq_false_imp, decide_eq_true_eq, decide_eq_false_iff_not, Bool.not_eq_true, Bool.not_eq_false, Int.ofNat_lt, Int.ofNat_le] at h2) <;> simp -dsimp -implicitDefEqProofs (maxSteps := 2000000) (disch := first | omega | assumption | (simp only [go_sem] <;> first | omega | assumption | fail) | fail) only [go_sem, h2])
      · refine (known7_meets H).ret ?_
        simp -dsimp -implicitDefEqProofs (maxSteps := 2000000) (disch := first | omega | assumption | (simp only [go_sem] <;> first | omega | assumption | fail) | fail) only [go_sem, h2]
        obtain ⟨⟨kept, e1, e2⟩, e3, _⟩ := attrsF_spec l [] bd0
        have hso := attr_sound l (by omega)
        have hb := attr_build l
        rw [List.nil_append] at e1
        rw [e1] at hb hso e3
        obtain ⟨fs, hfs⟩ : ∃ fs, (attrsF l [] bd0).2.faults = fs := ⟨_, rfl⟩
        rw [hfs] at hb e3
        have e3 : kept.length + fs.length = l.length := by simpa [bd0] using e3
        have hm := tbuild_meets [attrTok l] (by simp) (fun t ht => by
          obtain rfl : t = attrTok l := by simpa using ht
          exact ⟨by show l.length ≤ 100; omega, fun a _ => wok a⟩) (by
            unfold tooBig
            rw [hb.1]
            simp
            omega)
        rw [hb.1, hb.2] at hm
        have hs := fun H => tsound_meets [⟨0, 1, divN, [], kept⟩] (by simp) (fun x hx => by
          obtain rfl : x = ⟨0, 1, divN, [], kept⟩ := by simpa using hx
          exact ⟨by show kept.length < 1000000; omega, fun a _ => wok a⟩) H
        rw [hso] at hs
        clear hb hso hfs e1
        refine Meets.frz H.length ?_
        simp -dsimp -implicitDefEqProofs (maxSteps := 2000000) (disch := first | omega | assumption | (simp only [go_sem] <;> first | omega | assumption | fail) | fail) only [go_sem]
        refine ⟨fun _ => trivial, ?_⟩
        refine (hm _).ret ?_
        have f4 : at2 [encItm ⟨0, 1, divN, [], kept⟩] 0 4 = .lst 2 kept.length (at2 (kept.map encAtt)) := rfl
        have t0 : Int.toNat 0 = 0 := rfl
        have e11 : ((1 : Nat) : Int) = 1 := rfl
        have hkl : kept.length ≤ 40 := by omega
        have hll : l.length ≤ 40 := by omega
        have hfl : fs.length ≤ 40 := by omega
        clear hm hl hi h h2
        simp -dsimp -implicitDefEqProofs (maxSteps := 2000000) (disch := first | omega | assumption | (simp only [go_sem] <;> first | omega | assumption | fail) | fail) only [go_sem, f4, t0, e11, e3]
        refine Loops.on (α := Nat × Nat) (fun q => q.1 ≤ l.length ∧ q.2 ≤ kept.length ∧ (kept.drop q.2).Sublist (l.drop q.1)) (fun q => l.length - q.1)
          (fun q => [(9, .d (.int .i64 q.1)), (8, .d (.int .i64 q.2))]) (fun _ => H ++ [.dead]) (0, 0) ⟨Nat.zero_le _, Nat.zero_le _, e2⟩ ?_ ?_
        · exact Goes.slots (by simp -dsimp -implicitDefEqProofs (maxSteps := 2000000) (disch := first | omega | assumption | (simp only [go_sem] <;> first | omega | assumption | fail) | fail) only [go_sem]; first | exact .same rfl | exact ⟨.same rfl, .same rfl⟩ | rfl) rfl
        rintro ⟨i, k⟩ ⟨hi, hk, hsub⟩
        simp only at hi hk hsub
        simp -dsimp -implicitDefEqProofs (maxSteps := 2000000) (disch := first | omega | assumption | (simp only [go_sem] <;> first | omega | assumption | fail) | fail) only [go_sem, f4, t0]
        (refine condP_intro (fun h3 => ?_) (fun h3 => ?_) <;> (try simp only [Bool.and_eq_true, Bool.or_eq_true, Bool.not_eq_true', Bool.not_eq_false', Bool.or_eq_false_iff, Bool.and_eq_false_imp, decide_eq_true_eq, decide_eq_false_iff_not, Bool.not_eq_true, Bool.not_eq_false, Int.ofNat_lt, Int.ofNat_le] at h3) <;> simp -dsimp -implicitDefEqProofs (maxSteps := 2000000) (disch := first | omega | assumption | (simp only [go_sem] <;> first | omega | assumption | fail) | fail) only [go_sem, h3, f4, t0])
        · (refine condP_intro (fun h4 => ?_) (fun h4 => ?_) <;> (try simp only [Bool.and_eq_true, Bool.or_eq_true, Bool.not_eq_true', Bool.not_eq_false', Bool.or_eq_false_iff, Bool.and_eq_false_imp, decide_eq_true_eq, decide_eq_false_iff_not, Bool.not_eq_true, Bool.not_eq_false, Int.ofNat_lt, Int.ofNat_le] at h4) <;> simp -dsimp -implicitDefEqProofs (maxSteps := 2000000) (disch := first | omega | assumption | (simp only [go_sem] <;> first | omega | assumption | fail) | fail) only [go_sem, h4, f4, t0])
          · have gl0 := at2_map encAtt l i 0 h3
            have gl1 := at2_map encAtt l i 1 h3
            have gk0 := at2_map encAtt kept k 0 h4
            have gk1 := at2_map encAtt kept k 1 h4
            have dl : l.drop i = l.getD i default :: l.drop (i + 1) := by rw [List.drop_eq_getElem_cons h3]; simp [List.getD, h3]
            have dk : kept.drop k = kept.getD k default :: kept.drop (k + 1) := by rw [List.drop_eq_getElem_cons h4]; simp [List.getD, h4]
            rw [dl, dk] at hsub
            obtain ⟨a, ha⟩ : ∃ a, l.getD i default = a := ⟨_, rfl⟩
            obtain ⟨b, hb⟩ : ∃ b, kept.getD k default = b := ⟨_, rfl⟩
            rw [ha] at gl0 gl1 hsub
            rw [hb] at gk0 gk1 hsub
            simp only [encAtt, List.getD_cons_zero, List.getD_cons_succ] at gl0 gl1 gk0 gk1
            have hsub' : Aside ((b :: kept.drop (k + 1)).Sublist (a :: l.drop (i + 1))) := hsub
            have dk' : Aside (kept.drop k = b :: kept.drop (k + 1)) := by rw [hb] at dk; exact dk
            clear hsub dl dk ha hb e2
            simp -dsimp -implicitDefEqProofs (maxSteps := 2000000) (disch := first | omega | assumption | (simp only [go_sem] <;> first | omega | assumption | fail) | fail) only [go_sem, gl0, gl1, gk0, gk1]
            refine ⟨h3, ?_⟩
            refine condP_intro (fun h5 => ?_) (fun h5 => ?_)
            · have hab : b = a := by
                cases a; cases b
                simpa using h5
              simp -dsimp -implicitDefEqProofs (maxSteps := 2000000) (disch := first | omega | assumption | (simp only [go_sem] <;> first | omega | assumption | fail) | fail) only [go_sem]
              exact Back.mk (i + 1, k + 1) ⟨⟨h3, h4, by
                have := hsub'
                unfold Aside at this
                rw [hab] at this
                exact List.cons_sublist_cons.1 this⟩, by simp only; omega⟩ (Goes.slots (by simp -dsimp -implicitDefEqProofs (maxSteps := 2000000) (disch := first | omega | assumption | (simp only [go_sem] <;> first | omega | assumption | fail) | fail) only [go_sem]) rfl)
            · have hab : b ≠ a := by
                intro hh
                rw [hh] at h5
                simp at h5
              simp -dsimp -implicitDefEqProofs (maxSteps := 2000000) (disch := first | omega | assumption | (simp only [go_sem] <;> first | omega | assumption | fail) | fail) only [go_sem]
              exact Back.mk (i + 1, k) ⟨⟨h3, hk, by
                have d := dk'
                unfold Aside at d
                simp only
                rw [d]
                have := hsub'
                unfold Aside at this
                cases this with
                | cons _ h => exact h
                | cons_cons _ h => exact absurd rfl hab⟩, by simp only; omega⟩ (Goes.slots (by simp -dsimp -implicitDefEqProofs (maxSteps := 2000000) (disch := first | omega | assumption | (simp only [go_sem] <;> first | omega | assumption | fail) | fail) only [go_sem]) rfl)
          · clear h3
            have hkk : k = kept.length := by omega
            simp -dsimp -implicitDefEqProofs (maxSteps := 2000000) (disch := first | omega | assumption | (simp only [go_sem] <;> first | omega | assumption | fail) | fail) only [go_sem, f4, t0, hkk]
            refine (hs _).ret ?_
            simp -dsimp -implicitDefEqProofs (maxSteps := 2000000) (disch := first | omega | assumption | (simp only [go_sem] <;> first | omega | assumption | fail) | fail) only [go_sem]
            exact Fin.cut (Nat.le_refl _) hc ⟨rfl, rfl⟩
        · have hd : l.drop i = [] := List.drop_eq_nil_of_le (by omega)
          rw [hd] at hsub
          have hk2 : kept.drop k = [] := List.sublist_nil.1 hsub
          have hkk : k = kept.length := by have := List.drop_eq_nil_iff.1 hk2; omega
          simp -dsimp -implicitDefEqProofs (maxSteps := 2000000) (disch := first | omega | assumption | (simp only [go_sem] <;> first | omega | assumption | fail) | fail) only [go_sem, f4, t0, hkk]
          refine (hs _).ret ?_
          simp -dsimp -implicitDefEqProofs (maxSteps := 2000000) (disch := first | omega | assumption | (simp only [go_sem] <;> first | omega | assumption | fail) | fail) only [go_sem]
          exact Fin.cut (Nat.le_refl _) hc ⟨rfl, rfl⟩
      · refine (known7_meets H).ret ?_
        simp -dsimp -implicitDefEqProofs (maxSteps := 2000000) (disch := first | omega | assumption | (simp only [go_sem] <;> first | omega | assumption | fail) | fail) only [go_sem]
        exact Fin.ret rfl rfl
    · refine (known7_meets H).ret ?_
      simp -dsimp -implicitDefEqProofs (maxSteps := 2000000) (disch := first | omega | assumption | (simp only [go_sem] <;> first | omega | assumption | fail) | fail) only [go_sem]
      exact Fin.ret rfl rfl
end Go.Proofs.YtdpjmfipgkblfaaGreatDoor
