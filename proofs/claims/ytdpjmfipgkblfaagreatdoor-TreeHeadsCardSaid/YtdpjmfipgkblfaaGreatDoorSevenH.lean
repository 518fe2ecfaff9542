/- The statement TreeHeads, by V. -/
import Derived.Test.YtdpjmfipgkblfaaGreatDoorSevenU
import Derived.Test.YtdpjmfipgkblfaaGreatDoorSevenP
set_option linter.unusedSimpArgs false
namespace Go.Proofs.YtdpjmfipgkblfaaGreatDoor
open Go Go.V
attribute [local irreducible] vc vcL vcP vcI vcO stOp Loops condP bx bx2 Meets Back

def nilRowH (c : Nat) (l : List Tok) : Ent := .row 43 6 l.length c (at2 (l.map nilTok))
theorem headToks_len : ∀ (l : List UInt8) (i : Nat), (headToks l i).length = l.length
  | [], _ => rfl
  | k :: l, i => by simp [headToks, headToks_len l]
theorem headToks_app : ∀ (l l' : List UInt8) (i : Nat), headToks (l ++ l') i = headToks l i ++ headToks l' (i + l.length)
  | [], l', i => by simp [headToks]
  | k :: l, l', i => by simp [headToks, headToks_app l l', show i + 1 + l.length = i + (l.length + 1) by omega]
theorem headToks_take (l : List UInt8) (i : Nat) (h : i < l.length) : headToks (l.take (i + 1)) 0 = headToks (l.take i) 0 ++ [hStart (headN (l.getD i 0)) i] := by
  rw [show l.take (i + 1) = l.take i ++ [l.getD i 0] by rw [List.take_add_one]; simp [List.getD, h], headToks_app]
  simp [headToks, List.length_take, Nat.min_eq_left (Nat.le_of_lt h)]
theorem headToks_attrs : ∀ (l : List UInt8) (i : Nat), ∀ t ∈ headToks l i, t.attrs = []
  | [], _, t, ht => by cases ht
  | k :: l, i, t, ht => by
    rcases List.mem_cons.1 ht with rfl | h
    · rfl
    · exact headToks_attrs l _ t h
theorem headAll_attrs (l : List UInt8) : ∀ t ∈ headAll l, t.attrs = [] := fun t ht => by
  simp only [headAll, List.mem_append, List.mem_cons, List.not_mem_nil, or_false] at ht
  rcases ht with h | rfl | rfl
  · exact headToks_attrs l _ t h
  · rfl
  · rfl
attribute [local go_sem] a64 a64l a64r s64 s64l ite_min ite_max zlt_l zlt_r zle_l zle_r zeq len_eq byte_eq Nat.zero_le nth_set_ne List.forall_mem_cons all_nil isPl allSh_nilT allNr_nilT allSh_strs allNr_strs allSh_itm allNr_itm allSh_flt allNr_flt allSh_att allNr_att strs_length encAtts Nat.reduceAdd Nat.reduceSub Nat.reduceMul Nat.reduceLT Nat.reduceLeDiff Nat.reduceEqDiff Int.reduceEq Int.reduceLT Int.reduceLE
set_option maxRecDepth 20000 in
set_option maxHeartbeats 4000000 in
theorem treeHeads_meets (l : List UInt8) (H : List Ent) : Meets tE Tryz.prog 12 [.c (.lst 1 l.length (byteCell l))] H (Ret (.d (.bool true)) H) := by
  refine Meets.closed fun hc => ?_
  refine Meets.of_body mixed tok (plan := fun _ => .done) Tryz.func12 Tryz.call12 Tryz.ntmps12 Tryz.results12 rfl (by kernel_rfl) ?_
  simp -dsimp -implicitDefEqProofs (maxSteps := 2000000) (disch := first | omega | assumption | (simp only [go_sem] <;> first | omega | assumption | fail) | fail) only [go_sem]
  (refine condP_intro (fun h => ?_) (fun h => ?_) <;> (try simp only [Bool.and_eq_true, Bool.or_eq_true, Bool.not_eq_true', Bool.not_eq_false', Bool.or_eq_false_iff, Bool.and_eq_false_imp, decide_eq_true_eq, decide_eq_false_iff_not, Bool.not_eq_true, Bool.not_eq_false, Int.ofNat_lt, Int.ofNat_le] at h) <;> simp -dsimp -implicitDefEqProofs (maxSteps := 2000000) (disch := first | omega | assumption | (simp only [go_sem] <;> first | omega | assumption | fail) | fail) only [go_sem, h])
  · refine (known7_meets H).ret ?_
    simp -dsimp -implicitDefEqProofs (maxSteps := 2000000) (disch := first | omega | assumption | (simp only [go_sem] <;> first | omega | assumption | fail) | fail) only [go_sem, h]
    refine Loops.on (α := Nat × Nat) (fun q => q.1 ≤ l.length ∧ q.1 ≤ q.2) (fun q => l.length - q.1)
      (fun q => [(4, .d (.int .i64 q.1)), (3, .c (.sl H.length 6 0 q.1 q.2))]) (fun q => H ++ [nilRowH q.2 (headToks (l.take q.1) 0)]) (0, 0) ⟨Nat.zero_le _, Nat.le_refl _⟩ ?_ ?_
    · refine Goes.mv (HMv.nil _ _ 43 6 (at2 [])) (Goes.slots ?_ ?_)
      · simp -dsimp -implicitDefEqProofs (maxSteps := 2000000) (disch := first | omega | assumption | (simp only [go_sem] <;> first | omega | assumption | fail) | fail) only [go_sem]
        exact ⟨AvLe_nil _ _ _ _ _, .same rfl⟩
      · simp [nilRowH, headToks]
    rintro ⟨i, c⟩ ⟨hi, hic⟩
    simp only at hi hic
    have hlen : (headToks (l.take i) 0).length = i := by rw [headToks_len, List.length_take]; omega
    simp -dsimp -implicitDefEqProofs (maxSteps := 2000000) (disch := first | omega | assumption | (simp only [go_sem] <;> first | omega | assumption | fail) | fail) only [go_sem]
    refine condP_intro (fun h2 => ?_) (fun h2 => ?_) <;> simp only [decide_eq_true_eq, decide_eq_false_iff_not] at h2
    · have hb := byteCell_get l i h2
      have hst := headToks_take l i h2
      obtain ⟨x, hx⟩ : ∃ x, l.getD i 0 = x := ⟨_, rfl⟩
      rw [hx] at hb hst
      have hm1 : ((x.toNat : Int)).tmod 6 = ((x.toNat % 6 : Nat) : Int) := by rw [Int.tmod_eq_emod_of_nonneg (by omega)]; omega
      have hlt : x.toNat % 6 < 6 := by omega
      have hadd : addw .u8 49 ((x.toNat % 6 : Nat) : Int) = ((UInt8.ofNat (49 + x.toNat % 6)).toNat : Int) := by
        have : ∀ n, n < 6 → addw .u8 49 ((n : Nat) : Int) = ((UInt8.ofNat (49 + n)).toNat : Int) := by decide
        exact this _ hlt
      simp -dsimp -implicitDefEqProofs (maxSteps := 2000000) (disch := first | omega | assumption | (simp only [go_sem] <;> first | omega | assumption | fail) | fail) only [go_sem, h2, hb, hm1, Int.toNat_natCast, nilRowH, hlen, hadd]
      (repeat (refine ⟨by first | omega | assumption | trivial | (simp only [List.length_take, List.length_map, List.length_append, List.length_cons, List.length_nil, List.length_drop]; omega), ?_⟩))
      intro c' hc'
      refine Back.rnA (N := H.length) [H.length + 3] rfl (Nat.le_refl _) hc (by simp [rnOk, rnOk.rnFresh]) (by simp -dsimp -implicitDefEqProofs (maxSteps := 2000000) (disch := first | omega | assumption | (simp only [go_sem] <;> first | omega | assumption | fail) | fail) only [go_sem]) ?_
      simp -dsimp -implicitDefEqProofs (maxSteps := 2000000) (disch := first | omega | assumption | (simp only [go_sem] <;> first | omega | assumption | fail) | fail) only [go_sem]
      exact Back.mk (i + 1, c') ⟨⟨h2, hc'⟩, by simp only; omega⟩ (Goes.slots (by simp -dsimp -implicitDefEqProofs (maxSteps := 2000000) (disch := first | omega | assumption | (simp only [go_sem] <;> first | omega | assumption | fail) | fail) only [go_sem]) (by rw [nilRowH, hst]; simp [nilTok, hStart, headN, hlen]))
    · obtain rfl : i = l.length := by omega
      rw [List.take_length] at hlen ⊢
      simp -dsimp -implicitDefEqProofs (maxSteps := 2000000) (disch := first | omega | assumption | (simp only [go_sem] <;> first | omega | assumption | fail) | fail) only [go_sem, h2, nilRowH, hlen]
      (repeat (refine ⟨by first | omega | assumption | trivial | (simp only [List.length_take, List.length_map, List.length_append, List.length_cons, List.length_nil, List.length_drop]; omega), ?_⟩))
      intro c' hc'
      refine Meets.frz (H.length + 2) ?_
      simp -dsimp -implicitDefEqProofs (maxSteps := 2000000) (disch := first | omega | assumption | (simp only [go_sem] <;> first | omega | assumption | fail) | fail) only [go_sem]
      refine ⟨fun _ => hc', ?_⟩
      have e : List.map nilTok (headToks l 0) ++ [[CV.int .u8 2, .str [104, 49], .nil 41 2, .bool false, .str [], .int .i64 l.length], [CV.int .u8 3, .str [], .nil 41 2, .bool false, .str [120], .int .i64 0]] = (headAll l).map nilTok := by simp [headAll, headEnd, textT, nilTok]
      have hl : (headAll l).length = l.length + 2 := by simp [headAll, headToks_len]
      rw [e]
      try rw [subCell_all (l.length + 2) _ (by rw [List.length_map]; exact hl)]
      have hle := nilToks_le (headAll l) (headAll_attrs l)
      rw [hl] at hle
      refine Meets.args (args' := [.c (.lst 6 (l.length + 2) (at2 ((headAll l).map encTok)))]) ⟨hle, trivial⟩ ?_
      cases l with
      | nil =>
        have hb := head_build0
        have hm := tbuild_meets (headAll []) (by decide) (fun t ht => by rw [headAll_attrs [] t ht]; exact ⟨by simp, fun a h => by cases h⟩) (by unfold tooBig; rw [hb.1]; decide)
        rw [hb.1, hb.2] at hm
        refine (hm _).ret ?_
        have f0 : at2 [encFlt ⟨8, 0⟩] 0 0 = .int .u8 8 := rfl
        have t0 : Int.toNat 0 = 0 := rfl
        have e11 : ((1 : Nat) : Int) = 1 := rfl
        simp -dsimp -implicitDefEqProofs (maxSteps := 2000000) (disch := first | omega | assumption | (simp only [go_sem] <;> first | omega | assumption | fail) | fail) only [go_sem]
        refine condP_intro (fun _ => ?_) (fun h => absurd h (by decide))
        simp -dsimp -implicitDefEqProofs (maxSteps := 2000000) (disch := first | omega | assumption | (simp only [go_sem] <;> first | omega | assumption | fail) | fail) only [go_sem, f0, t0, e11]
        exact Fin.cut (Nat.le_refl _) hc ⟨rfl, rfl⟩
      | cons k l =>
        simp only [List.length_cons] at h hi hic hl hc' hle ⊢
        have hb := head_build l k
        have hbl : (buildB (headAll (k :: l))).items.length = l.length + 2 := by rw [hb.1]; simp [headItems]
        have hm := tbuild_meets (headAll (k :: l)) (by omega) (fun t ht => by rw [headAll_attrs _ t ht]; exact ⟨by simp, fun a h => by cases h⟩) (by
          unfold tooBig
          rw [hbl, hb.1]
          simp [headItems]
          omega)
        rw [hl, hbl] at hm
        refine (hm _).ret ?_
        have hget : ∀ j, j < l.length + 2 → ((buildB (headAll (k :: l))).items.getD j default).deep = 0 := fun j hj => by
          rw [hb.1]
          have hall : ∀ x ∈ headItems (k :: l) ++ [(⟨0, 2, [], [120], []⟩ : Itm)], x.deep = 0 := fun x hx => by
            simp only [headItems, List.mem_append, List.mem_map, List.mem_singleton] at hx
            rcases hx with ⟨_, _, rfl⟩ | rfl <;> rfl
          refine hall _ ?_
          have hj' : j < (headItems (k :: l) ++ [(⟨0, 2, [], [120], []⟩ : Itm)]).length := by simp [headItems]; omega
          rw [List.getD, List.getElem?_eq_getElem hj']
          exact List.getElem_mem _
        have hfl := hb.2
        obtain ⟨its, hits⟩ : ∃ its, (buildB (headAll (k :: l))).items = its := ⟨_, rfl⟩
        obtain ⟨fs, hfs⟩ : ∃ fs, (buildB (headAll (k :: l))).faults = fs := ⟨_, rfl⟩
        rw [hits] at hget hbl ⊢
        rw [hfs] at hfl ⊢
        have e1 : (((l.length + 2 : Nat) : Int) = addw .i64 ((l.length + 1 : Nat) : Int) 1) = True := eq_true (by
          unfold addw
          rw [wrap_small _ (by omega) (by omega)]
          omega)
        simp -dsimp -implicitDefEqProofs (maxSteps := 2000000) (disch := first | omega | assumption | (simp only [go_sem] <;> first | omega | assumption | fail) | fail) only [go_sem, e1]
        refine condP_intro (fun h => absurd (of_decide_eq_true h) (by omega)) (fun _ => ?_)
        have hbc := byteCell_get (k :: l) l.length (by simp)
        obtain ⟨x, hx⟩ : ∃ x, (k :: l).getD l.length 0 = x := ⟨_, rfl⟩
        rw [hx] at hfl hbc
        have hm1 : ((x.toNat : Int)).tmod 6 = ((x.toNat % 6 : Nat) : Int) := by rw [Int.tmod_eq_emod_of_nonneg (by omega)]; omega
        simp -dsimp -implicitDefEqProofs (maxSteps := 2000000) (disch := first | omega | assumption | (simp only [go_sem] <;> first | omega | assumption | fail) | fail) only [go_sem, hbc, hm1, Nat.add_sub_cancel, Int.toNat_natCast, List.length_cons, Nat.lt_succ_self]
        have hround : ∀ (j : Nat), j < l.length + 2 → at2 (its.map encItm) j 0 = .int .i64 0 := fun j hj => by
          have g0 := at2_map encItm its j 0 (by omega)
          simp only [encItm, List.getD_cons_zero] at g0
          rw [hget j hj] at g0
          exact g0
        (refine condP_intro (fun h5 => ?_) (fun h5 => ?_) <;> (try simp only [Bool.and_eq_true, Bool.or_eq_true, Bool.not_eq_true', Bool.not_eq_false', Bool.or_eq_false_iff, Bool.and_eq_false_imp, decide_eq_true_eq, decide_eq_false_iff_not, Bool.not_eq_true, Bool.not_eq_false, Int.ofNat_lt, Int.ofNat_le] at h5) <;> simp -dsimp -implicitDefEqProofs (maxSteps := 2000000) (disch := first | omega | assumption | (simp only [go_sem] <;> first | omega | assumption | fail) | fail) only [go_sem, h5])
        · rw [if_neg (fun hh => h5 (by omega))] at hfl
          refine Loops.on (α := Nat) (fun j => j ≤ l.length + 2) (fun j => l.length + 2 - j) (fun j => [(9, .d (.int .i64 j))])
            (fun _ => H ++ [.dead, .row 43 6 2 2 (at2 [[CV.int .u8 2, .str [104, 49], .nil 41 2, .bool false, .str [], .int .i64 ((l.length + 1 : Nat) : Int)], [CV.int .u8 3, .str [], .nil 41 2, .bool false, .str [120], .int .i64 0]]), .dead]) 0 (Nat.zero_le _) ?_ ?_
          · exact Goes.slots (by simp -dsimp -implicitDefEqProofs (maxSteps := 2000000) (disch := first | omega | assumption | (simp only [go_sem] <;> first | omega | assumption | fail) | fail) only [go_sem]; exact .same rfl) rfl
          rintro j hj
          simp -dsimp -implicitDefEqProofs (maxSteps := 2000000) (disch := first | omega | assumption | (simp only [go_sem] <;> first | omega | assumption | fail) | fail) only [go_sem]
          refine condP_intro (fun h3 => ?_) (fun h3 => ?_) <;> simp only [decide_eq_true_eq, decide_eq_false_iff_not] at h3
          · simp -dsimp -implicitDefEqProofs (maxSteps := 2000000) (disch := first | omega | assumption | (simp only [go_sem] <;> first | omega | assumption | fail) | fail) only [go_sem, h3, hround j h3]
            exact Back.mk (j + 1) ⟨h3, by omega⟩ (Goes.slots (by simp -dsimp -implicitDefEqProofs (maxSteps := 2000000) (disch := first | omega | assumption | (simp only [go_sem] <;> first | omega | assumption | fail) | fail) only [go_sem]) rfl)
          · simp -dsimp -implicitDefEqProofs (maxSteps := 2000000) (disch := first | omega | assumption | (simp only [go_sem] <;> first | omega | assumption | fail) | fail) only [go_sem, h3, hfl]
            exact Fin.cut (Nat.le_refl _) hc ⟨bool_av (decide_eq_true (by
              rw [if_neg (by omega)]
              unfold addw
              rw [wrap_small _ (by omega) (by omega)]
              omega)), rfl⟩
        · rw [if_pos (by omega)] at hfl
          refine Loops.on (α := Nat) (fun j => j ≤ l.length + 2) (fun j => l.length + 2 - j) (fun j => [(9, .d (.int .i64 j))])
            (fun _ => H ++ [.dead, .row 43 6 2 2 (at2 [[CV.int .u8 2, .str [104, 49], .nil 41 2, .bool false, .str [], .int .i64 ((l.length + 1 : Nat) : Int)], [CV.int .u8 3, .str [], .nil 41 2, .bool false, .str [120], .int .i64 0]]), .dead]) 0 (Nat.zero_le _) ?_ ?_
          · exact Goes.slots (by simp -dsimp -implicitDefEqProofs (maxSteps := 2000000) (disch := first | omega | assumption | (simp only [go_sem] <;> first | omega | assumption | fail) | fail) only [go_sem]; exact .same rfl) rfl
          rintro j hj
          simp -dsimp -implicitDefEqProofs (maxSteps := 2000000) (disch := first | omega | assumption | (simp only [go_sem] <;> first | omega | assumption | fail) | fail) only [go_sem]
          refine condP_intro (fun h3 => ?_) (fun h3 => ?_) <;> simp only [decide_eq_true_eq, decide_eq_false_iff_not] at h3
          · simp -dsimp -implicitDefEqProofs (maxSteps := 2000000) (disch := first | omega | assumption | (simp only [go_sem] <;> first | omega | assumption | fail) | fail) only [go_sem, h3, hround j h3]
            exact Back.mk (j + 1) ⟨h3, by omega⟩ (Goes.slots (by simp -dsimp -implicitDefEqProofs (maxSteps := 2000000) (disch := first | omega | assumption | (simp only [go_sem] <;> first | omega | assumption | fail) | fail) only [go_sem]) rfl)
          · simp -dsimp -implicitDefEqProofs (maxSteps := 2000000) (disch := first | omega | assumption | (simp only [go_sem] <;> first | omega | assumption | fail) | fail) only [go_sem, h3, hfl]
            exact Fin.cut (Nat.le_refl _) hc ⟨bool_av (decide_eq_true (by rw [if_neg (by omega)])), rfl⟩
  · refine (known7_meets H).ret ?_
    simp -dsimp -implicitDefEqProofs (maxSteps := 2000000) (disch := first | omega | assumption | (simp only [go_sem] <;> first | omega | assumption | fail) | fail) only [go_sem]
    exact Fin.ret rfl rfl
end Go.Proofs.YtdpjmfipgkblfaaGreatDoor
