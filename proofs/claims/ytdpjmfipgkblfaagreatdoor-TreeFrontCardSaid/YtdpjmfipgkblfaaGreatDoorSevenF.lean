/- The statement TreeFront, by V. -/
import Derived.Test.YtdpjmfipgkblfaaGreatDoorSevenS
import Derived.Test.YtdpjmfipgkblfaaGreatDoorSevenQ
import Derived.Test.YtdpjmfipgkblfaaGreatDoorSevenU
set_option linter.unusedSimpArgs false
namespace Go.Proofs.YtdpjmfipgkblfaaGreatDoor
open Go Go.V
attribute [local irreducible] vc vcL vcP vcI vcO stOp Loops condP bx bx2 Meets Back

theorem at2_pre {α : Type} {en : α → List CV} {l l' : List α} (h : l <+: l') {k : Nat} (hk : k < l.length) (f : Nat) : at2 (l'.map en) k f = at2 (l.map en) k f := by
  obtain ⟨t, rfl⟩ := h
  simp [at2, List.getD, List.getElem?_append, hk]
attribute [local go_sem] a64 a64l a64r s64 s64l ite_min ite_max zlt_l zlt_r zle_l zle_r zeq len_eq byte_eq Nat.zero_le nth_set_ne List.forall_mem_cons all_nil isPl allSh_nilT allNr_nilT allSh_strs allNr_strs allSh_itm allNr_itm allSh_flt allNr_flt allSh_att allNr_att strs_length encAtts Nat.reduceAdd Nat.reduceSub Nat.reduceMul Nat.reduceLT Nat.reduceLeDiff Nat.reduceEqDiff Int.reduceEq Int.reduceLT Int.reduceLE
set_option maxRecDepth 20000 in
set_option maxHeartbeats 2000000 in
theorem treeFront_meets (s : List UInt8) (k : Nat) (hk : k < 65536) (H : List Ent) : Meets tE Tryz.prog 3 [.d (.str s), .d (.int .u16 k)] H (Ret (.d (.bool true)) H) := by
  refine Meets.closed fun hc => ?_
  refine Meets.of_body mixed tok (plan := fun _ => .done) Tryz.func3 Tryz.call3 Tryz.ntmps3 Tryz.results3 rfl (by kernel_rfl) ?_
  simp -dsimp -implicitDefEqProofs (maxSteps := 2000000) (disch := first | omega | assumption | (simp only [go_sem] <;> first | omega | assumption | fail) | fail) only [go_sem]
  (refine condP_intro (fun h => ?_) (fun h => ?_) <;> (try simp only [Bool.and_eq_true, Bool.or_eq_true, Bool.not_eq_true', Bool.not_eq_false', Bool.or_eq_false_iff, Bool.and_eq_false_imp, decide_eq_true_eq, decide_eq_false_iff_not, Bool.not_eq_true, Bool.not_eq_false, Int.ofNat_lt, Int.ofNat_le] at h) <;> simp -dsimp -implicitDefEqProofs (maxSteps := 2000000) (disch := first | omega | assumption | (simp only [go_sem] <;> first | omega | assumption | fail) | fail) only [go_sem, h])
  · refine (known7_meets H).ret ?_
    simp -dsimp -implicitDefEqProofs (maxSteps := 2000000) (disch := first | omega | assumption | (simp only [go_sem] <;> first | omega | assumption | fail) | fail) only [go_sem, h]
    obtain ⟨o1, o2, o3⟩ := tokensT_ok s
    refine (rtokens_meets tE s (by omega) H).ret ?_
    obtain ⟨T0, hT⟩ : ∃ T0, tokensT s = T0 := ⟨_, rfl⟩
    rw [hT] at o1 o3 ⊢
    have hw : IntKind.i64.wrap (k : Int) = k := wrap_small _ (by omega) (by omega)
    have hmod : ((k : Int)).tmod ((T0.length + 1 : Nat) : Int) = ((k % (T0.length + 1) : Nat) : Int) := by rw [Int.tmod_eq_emod_of_nonneg (by omega)]; omega
    have hnz : (((T0.length + 1 : Nat) : Int) = 0) = False := eq_false (by omega)
    have hle : k % (T0.length + 1) ≤ T0.length := by have := Nat.mod_lt k (show 0 < T0.length + 1 by omega); omega
    obtain ⟨n, hn⟩ : ∃ n, k % (T0.length + 1) = n := ⟨_, rfl⟩
    rw [hn] at hmod hle
    have hall : ∀ t ∈ T0, t.attrs.length ≤ 100 ∧ ∀ a ∈ t.attrs, WOk a := fun t ht => ⟨by have := o3 t ht; omega, fun a _ => wok a⟩
    have hsm := build_small T0 (by omega) o3
    have hsm2 := build_small (T0.take n) (by rw [List.length_take]; omega) (fun t ht => o3 t (List.mem_of_mem_take ht))
    have c1 := tbuild_meets T0 (by omega) hall hsm.1
    have c2 := tbuild_meets (T0.take n) (by rw [List.length_take]; omega) (fun t ht => hall t (List.mem_of_mem_take ht)) hsm2.1
    have hg := build_front T0 n
    have hlen : (T0.take n).length = n := by rw [List.length_take]; omega
    rw [hlen] at c2 hsm2
    have hba : ∀ x ∈ (buildB (T0.take n)).items, x.attrs.length ≤ 50 := atts_fold (T0.take n) bd0 (fun x hx => by cases hx) (fun t ht => o3 t (List.mem_of_mem_take ht))
    obtain ⟨a, ha⟩ : ∃ a, buildB T0 = a := ⟨_, rfl⟩
    obtain ⟨b, hb⟩ : ∃ b, buildB (T0.take n) = b := ⟨_, rfl⟩
    rw [ha] at c1 hg hsm
    rw [hb] at c2 hg hsm2 hba
    have hl1 := hg.items.length_le
    have hl2 := hg.faults.length_le
    simp -dsimp -implicitDefEqProofs (maxSteps := 2000000) (disch := first | omega | assumption | (simp only [go_sem] <;> first | omega | assumption | fail) | fail) only [go_sem, hw, hmod, hnz]
    refine (c1 H).ret ?_
    clear c1 o2 hT hall hk hn hlen hsm
    simp -dsimp -implicitDefEqProofs (maxSteps := 2000000) (disch := first | omega | assumption | (simp only [go_sem] <;> first | omega | assumption | fail) | fail) only [go_sem, hle]
    (repeat (refine ⟨by first | omega | assumption | trivial | (simp only [List.length_take, List.length_map, List.length_append, List.length_cons, List.length_nil, List.length_drop]; omega), ?_⟩))
    have hsl : AvLe (.c (.lst 6 n (subCell 0 n (at2 (T0.map encTok))))) (.c (.lst 6 n (at2 ((T0.take n).map encTok)))) := AvLe.c (CvLe.lst fun i hi f _ => by
      have e : subCell 0 n (at2 (T0.map encTok)) i f = at2 ((T0.take n).map encTok) i f := by
        simp only [subCell]
        rw [if_pos hi, Nat.zero_add]
        simp [at2, List.getD, List.getElem?_take, hi]
      rw [e]
      exact CvLe.refl _)
    refine Meets.args (args' := [.c (.lst 6 n (at2 ((T0.take n).map encTok)))]) ⟨?_, trivial⟩ ?_
    · exact hsl
    refine (c2 H).ret ?_
    have n1 : ¬ a.items.length < b.items.length := by omega
    have n2 : ¬ a.faults.length < b.faults.length := by omega
    have hbl : b.items.length ≤ 10000 := by omega
    have hfl : b.faults.length ≤ 1000000 := by omega
    clear c2 hsl hle o1 o3 hmod hnz
    simp -dsimp -implicitDefEqProofs (maxSteps := 2000000) (disch := first | omega | assumption | (simp only [go_sem] <;> first | omega | assumption | fail) | fail) only [go_sem, hl1, hl2, n1, n2]
    (repeat (refine ⟨by first | omega | assumption | trivial | (simp only [List.length_take, List.length_map, List.length_append, List.length_cons, List.length_nil, List.length_drop]; omega), ?_⟩))
    refine (sameItms_meets tE b.items (by omega) (fun x hx => by have := hba x hx; omega) _ (fun i hi f => ?_) H).ret ?_
    · simp only [subCell, Nat.sub_zero]
      rw [if_pos hi, Nat.zero_add]
      exact at2_pre hg.items hi f
    simp -dsimp -implicitDefEqProofs (maxSteps := 2000000) (disch := first | omega | assumption | (simp only [go_sem] <;> first | omega | assumption | fail) | fail) only [go_sem, hl2]
    (repeat (refine ⟨by first | omega | assumption | trivial | (simp only [List.length_take, List.length_map, List.length_append, List.length_cons, List.length_nil, List.length_drop]; omega), ?_⟩))
    refine (sameFlts_meets tE b.faults (by omega) _ (fun i hi f => ?_) H).ret ?_
    · simp only [subCell, Nat.sub_zero]
      rw [if_pos hi, Nat.zero_add]
      exact at2_pre hg.faults hi f
    simp -dsimp -implicitDefEqProofs (maxSteps := 2000000) (disch := first | omega | assumption | (simp only [go_sem] <;> first | omega | assumption | fail) | fail) only [go_sem]
    exact Fin.ret rfl rfl
  · refine (known7_meets H).ret ?_
    simp -dsimp -implicitDefEqProofs (maxSteps := 2000000) (disch := first | omega | assumption | (simp only [go_sem] <;> first | omega | assumption | fail) | fail) only [go_sem]
    exact Fin.ret rfl rfl
end Go.Proofs.YtdpjmfipgkblfaaGreatDoor
