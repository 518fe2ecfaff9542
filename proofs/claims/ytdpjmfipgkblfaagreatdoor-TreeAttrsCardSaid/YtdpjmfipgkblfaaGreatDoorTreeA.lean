/- Contracts of package tree, by V: lists of names, what says whether a name is one of some, elements that are open. -/
import Derived.Test.YtdpjmfipgkblfaaGreatDoorTokG
import Derived.Test.YtdpjmfipgkblfaaGreatDoorTreeR
set_option linter.unusedSimpArgs false
namespace Go.Proofs.YtdpjmfipgkblfaaGreatDoor
open Go Go.V
attribute [local irreducible] vc vcL vcP vcI vcO stOp Loops condP bx bx2 Meets Back

/-- .. and a variable of the library holds a number. -/
def cellEnv (E : Env) (b : Nat) : Env where
  inv κ w := E.inv κ w ∧ κ b = .imm ∧ ∃ m : Int, w.cell? ⟨b, 0, none⟩ = some (.int .i64 m)
  keeps κ κ' w w' h hm := ⟨E.keeps κ κ' w w' h.1 hm, (hm b h.2.1).1, by
    obtain ⟨m, hc⟩ := h.2.2
    exact ⟨m, (cell?_of_heap (a := ⟨b, 0, none⟩) (hm b h.2.1).2).trans hc⟩⟩
theorem RelH.env {E E' : Env} {g : Gh} {H : List Ent} {w : World} (h : RelH E g H w) (hi : E'.inv g.κ w) : RelH E' g H w := ⟨h.ent, hi, h.lt, h.dom, h.rol, h.rols⟩
/-- A contract holds where more stands besides. -/
theorem Meets.more {E : Env} {b : Nat} {P : Program} {f : FuncId} {args : List AV} {H : List Ent} {post : AV → List Ent → Prop} (h : Meets E P f args H post) : Meets (cellEnv E b) P f args H post := by
  unfold Meets at h ⊢
  intro g w us r hu
  refine (h g w us (RelH.env r r.inv.1) hu).mono ?_
  rintro v w' ⟨g', H', av, hp, hl, r', hi, hS⟩
  exact ⟨g', H', av, hp, hl, RelH.env r' ⟨r'.inv, ((cellEnv E b).keeps _ _ _ _ r.inv hS.imm).2⟩, hi, hS⟩
abbrev tE : Env := cellEnv nE 2
def strs (ws : List (List UInt8)) : List (List CV) := ws.map fun x => [.str x]
theorem allSh_strs (ws : List (List UInt8)) : allSh (strs ws) = true := allSh_pl _ _ fun _ => rfl
theorem allNr_strs (ws : List (List UInt8)) : allNr (strs ws) = true := allNr_pl _ _ fun _ => rfl
theorem strs_length (ws : List (List UInt8)) : (strs ws).length = ws.length := by simp [strs]
theorem strs_app (a b : List (List UInt8)) : strs a ++ strs b = strs (a ++ b) := by simp [strs]
theorem strs_get (ws : List (List UInt8)) (i : Nat) (h : i < ws.length) : at2 (strs ws) i 0 = .str (ws.getD i []) := by
  simp only [strs]
  rw [at2_map _ _ _ _ h]
  rfl

attribute [local go_sem] a64 a64l a64r s64 s64l ite_min ite_max zlt_l zlt_r zle_l zle_r zeq len_eq byte_eq Nat.zero_le nth_set_ne List.forall_mem_cons all_nil isPl allSh_strs allNr_strs Nat.reduceAdd Nat.reduceSub Nat.reduceMul Nat.reduceLT Nat.reduceLeDiff Nat.reduceEqDiff Int.reduceEq Int.reduceLT Int.reduceLE
theorem tindex_meets (E : Env) (m n cap ty c : Nat) (cell : Nat → Nat → CV) (ws : List (List UInt8)) (x : List UInt8) (hl : ws.length = n) (hn : n < 1073741824) (H : List Ent) (hm : nth H m = .row ty 1 n c cell) (hcell : ∀ i, i < n → cell i 0 = .str (ws.getD i [])) :
    Meets E Tryz.prog 109 [.c (.sl m 1 0 n cap), .d (.str x)] H (Ret (.d (.int .i64 (firstFrom (fun i => decide (x = ws.getD i [])) n 0))) H) := by
  refine Meets.of_body mixed tok (plan := fun _ => .done) Tryz.func109 Tryz.call109 Tryz.ntmps109 Tryz.results109 rfl (by kernel_rfl) ?_
  simp -dsimp -implicitDefEqProofs (maxSteps := 2000000) (disch := first | omega | assumption | (simp only [go_sem] <;> first | omega | assumption | fail) | fail) only [go_sem]
  refine Loops.on (α := Nat) (fun i => i ≤ n ∧ firstFrom (fun i => decide (x = ws.getD i [])) n 0 = firstFrom (fun i => decide (x = ws.getD i [])) (n - i) i) (fun i => n - i) (fun i => [(8, .d (.int .i64 i))]) (fun _ => H) 0 ⟨Nat.zero_le _, rfl⟩ ?_ ?_
  · exact Goes.slots (by simp -dsimp -implicitDefEqProofs (maxSteps := 2000000) (disch := first | omega | assumption | (simp only [go_sem] <;> first | omega | assumption | fail) | fail) only [go_sem]; exact .same rfl) rfl
  rintro i ⟨hi, hfst⟩
  simp -dsimp -implicitDefEqProofs (maxSteps := 2000000) (disch := first | omega | assumption | (simp only [go_sem] <;> first | omega | assumption | fail) | fail) only [go_sem]
  (refine condP_intro (fun h => ?_) (fun h => ?_) <;> (try simp only [Bool.and_eq_true, Bool.or_eq_true, Bool.not_eq_true', Bool.not_eq_false', Bool.or_eq_false_iff, Bool.and_eq_false_imp, decide_eq_true_eq, decide_eq_false_iff_not, Bool.not_eq_true, Bool.not_eq_false, Int.ofNat_lt, Int.ofNat_le] at h) <;> simp -dsimp -implicitDefEqProofs (maxSteps := 2000000) (disch := first | omega | assumption | (simp only [go_sem] <;> first | omega | assumption | fail) | fail) only [go_sem, h, hm])
  · have hst := firstFrom_step (fun i => decide (x = ws.getD i [])) n i h
    simp -dsimp -implicitDefEqProofs (maxSteps := 2000000) (disch := first | omega | assumption | (simp only [go_sem] <;> first | omega | assumption | fail) | fail) only [go_sem, hm, hcell i h]
    refine condP_intro (fun hp => ?_) (fun hp => ?_) <;> simp only [decide_eq_true_eq, decide_eq_false_iff_not] at hp <;> simp -dsimp -implicitDefEqProofs (maxSteps := 2000000) (disch := first | omega | assumption | (simp only [go_sem] <;> first | omega | assumption | fail) | fail) only [go_sem]
    · exact Fin.ret (int_av (by rw [hfst, hst, if_pos (by rw [decide_eq_true_eq]; exact hp)])) rfl
    · refine Back.mk (i + 1) ⟨⟨h, by rw [hfst, hst, if_neg (by simpa using hp)]⟩, by omega⟩ (Goes.slots (by simp -dsimp -implicitDefEqProofs (maxSteps := 2000000) (disch := first | omega | assumption | (simp only [go_sem] <;> first | omega | assumption | fail) | fail) only [go_sem]) rfl)
  · exact Fin.ret (by rw [hfst, show n - i = 0 by omega]; rfl) rfl
theorem tcontains_meets (E : Env) (m n cap ty c : Nat) (cell : Nat → Nat → CV) (ws : List (List UInt8)) (x : List UInt8) (hl : ws.length = n) (hn : n < 1073741824) (H : List Ent) (hm : nth H m = .row ty 1 n c cell) (hcell : ∀ i, i < n → cell i 0 = .str (ws.getD i [])) :
    Meets E Tryz.prog 87 [.c (.sl m 1 0 n cap), .d (.str x)] H (Ret (.d (.bool (ws.contains x))) H) := by
  refine Meets.of_body mixed tok (plan := fun _ => .done) Tryz.func87 Tryz.call87 Tryz.ntmps87 Tryz.results87 rfl (by kernel_rfl) ?_
  simp -dsimp -implicitDefEqProofs (maxSteps := 2000000) (disch := first | omega | assumption | (simp only [go_sem] <;> first | omega | assumption | fail) | fail) only [go_sem]
  refine (tindex_meets E m n cap ty c cell ws x hl hn H hm hcell).ret ?_
  simp -dsimp -implicitDefEqProofs (maxSteps := 2000000) (disch := first | omega | assumption | (simp only [go_sem] <;> first | omega | assumption | fail) | fail) only [go_sem]
  refine Fin.ret (bool_av ?_) rfl
  rw [Bool.eq_iff_iff, decide_eq_true_eq, firstFrom_nonneg, List.contains_iff_mem]
  constructor
  · rintro ⟨j, _, h2, h3⟩
    have hj : j < ws.length := by omega
    have h3 : x = ws.getD j [] := by simpa using h3
    rw [h3, List.getD, List.getElem?_eq_getElem hj]
    exact List.getElem_mem hj
  · intro h
    obtain ⟨j, hj⟩ := List.getElem?_of_mem h
    have hlt := (List.getElem?_eq_some_iff.1 hj).1
    exact ⟨j, Nat.zero_le _, by omega, by simp [List.getD, hj]⟩
/-- The names of some, in a box: what 'one' has captured. -/
def OneAt (H : List Ent) (p : Nat) (ws : List (List UInt8)) : Prop :=
  ∃ m cap ty c cell, nth H p = .box 46 [.sl m 1 0 ws.length cap] ∧ nth H m = .row ty 1 ws.length c cell ∧ ws.length < 1073741824 ∧ ∀ i, i < ws.length → cell i 0 = .str (ws.getD i [])
theorem tone1_meets (E : Env) {H : List Ent} {p : Nat} {ws : List (List UInt8)} (h : OneAt H p ws) (x : List UInt8) :
    Meets E Tryz.prog 101 (.d (.str x) :: capArgs [p]) H (Ret (.d (.bool (ws.contains x))) H) := by
  obtain ⟨m, cap, ty, c, cell, hp, hm, hl, hcell⟩ := h
  have hp1 := nth_lt hp (by simp)
  refine Meets.of_body mixed tok (plan := fun _ => .done) Tryz.func101 Tryz.call101 Tryz.ntmps101 Tryz.results101 rfl (by kernel_rfl) ?_
  simp -dsimp -implicitDefEqProofs (maxSteps := 2000000) (disch := first | omega | assumption | (simp only [go_sem] <;> first | omega | assumption | fail) | fail) only [go_sem, hp]
  refine (tcontains_meets E m _ cap ty c cell ws x rfl hl H hm hcell).ret ?_
  simp -dsimp -implicitDefEqProofs (maxSteps := 2000000) (disch := first | omega | assumption | (simp only [go_sem] <;> first | omega | assumption | fail) | fail) only [go_sem]
  exact Fin.ret rfl rfl
theorem tone_meets (E : Env) (H : List Ent) (m k cap : Nat) :
    Meets E Tryz.prog 71 [.c (.sl m 1 0 k cap)] H (Ret (.c (.fn 101 [H.length])) (H ++ [.box 46 [.sl m 1 0 k cap]])) := by
  refine Meets.of_body mixed tok (plan := fun _ => .done) Tryz.func71 Tryz.call71 Tryz.ntmps71 Tryz.results71 rfl (by kernel_rfl) ?_
  simp -dsimp -implicitDefEqProofs (maxSteps := 2000000) (disch := first | omega | assumption | (simp only [go_sem] <;> first | omega | assumption | fail) | fail) only [go_sem]
  exact Fin.ret rfl rfl
theorem containsS_str (l x : List UInt8) (hl : l.length < 4294967281) (H : List Ent) : Meets tE Tryz.prog 102 [.d (.str l), .d (.str x)] H (Ret (.d (.bool (Lib.contains l x))) H) := by
  refine Meets.same Tryz.call102 fun g w us r hu => ?_
  match us, hu with
  | [u, u'], hu =>
    have hv : u = .string (bstr l) := hu.1
    have hv' : u' = .string (bstr x) := hu.2.1
    subst hv; subst hv'
    obtain ⟨m, hm⟩ := r.inv.2.2
    refine ⟨.bool (Lib.contains l x), rfl, ?_⟩
    have := Tryz.strings_Contains (bstr l) (bstr x) m w (by rw [bstr_size]; exact hl) hm
    simpa [bstr] using this
theorem heads_iff (x : List UInt8) (h : x.length = 2) : (Lib.contains (w "h1 h2 h3 h4 h5 h6") x && decide (x.getD 0 0 = 104)) = headsL.contains x := by
  obtain ⟨a, b, rfl⟩ : ∃ a b, x = [a, b] := by
    match x, h with
    | [a, b], _ => exact ⟨a, b, rfl⟩
  by_cases ha : a = 104
  · subst ha
    have hall : ∀ n, n < 256 → (Lib.contains (w "h1 h2 h3 h4 h5 h6") [104, UInt8.ofNat n] && decide (([104, UInt8.ofNat n] : List UInt8).getD 0 0 = 104)) = headsL.contains [104, UInt8.ofNat n] := by decide +kernel
    have := hall b.toNat (UInt8.toNat_lt b)
    rwa [UInt8.ofNat_toNat] at this
  · have h1 : decide (([a, b] : List UInt8).getD 0 0 = 104) = false := by simpa using ha
    rw [h1, Bool.and_false]
    cases hc : headsL.contains [a, b] with
    | false => rfl
    | true =>
      have hx : [a, b] ∈ headsL := by simpa using hc
      have hall : ∀ y ∈ headsL, y.getD 0 0 = 104 := by decide +kernel
      exact absurd (hall _ hx) (by simpa using ha)
theorem heads_len (x : List UInt8) (h : headsL.contains x = true) : x.length = 2 := by
  have hx : x ∈ headsL := by simpa using h
  have : ∀ y ∈ headsL, y.length = 2 := by decide +kernel
  exact this x hx
theorem thead_meets (x : List UInt8) (H : List Ent) : Meets tE Tryz.prog 72 [.d (.str x)] H (Ret (.d (.bool (headsL.contains x))) H) := by
  refine Meets.of_body mixed tok (plan := fun _ => .done) Tryz.func72 Tryz.call72 Tryz.ntmps72 Tryz.results72 rfl (by kernel_rfl) ?_
  simp -dsimp -implicitDefEqProofs (maxSteps := 2000000) (disch := first | omega | assumption | (simp only [go_sem] <;> first | omega | assumption | fail) | fail) only [go_sem]
  (refine condP_intro (fun h => ?_) (fun h => ?_) <;> (try simp only [Bool.and_eq_true, Bool.or_eq_true, Bool.not_eq_true', Bool.not_eq_false', Bool.or_eq_false_iff, Bool.and_eq_false_imp, decide_eq_true_eq, decide_eq_false_iff_not, Bool.not_eq_true, Bool.not_eq_false, Int.ofNat_lt, Int.ofNat_le] at h) <;> simp -dsimp -implicitDefEqProofs (maxSteps := 2000000) (disch := first | omega | assumption | (simp only [go_sem] <;> first | omega | assumption | fail) | fail) only [go_sem, h])
  · have hh := heads_iff x h
    refine (containsS_str _ x (by decide) H).ret ?_
    simp -dsimp -implicitDefEqProofs (maxSteps := 2000000) (disch := first | omega | assumption | (simp only [go_sem] <;> first | omega | assumption | fail) | fail) only [go_sem]
    (refine condP_intro (fun h1 => ?_) (fun h1 => ?_) <;> (try simp only [Bool.and_eq_true, Bool.or_eq_true, Bool.not_eq_true', Bool.not_eq_false', Bool.or_eq_false_iff, Bool.and_eq_false_imp, decide_eq_true_eq, decide_eq_false_iff_not, Bool.not_eq_true, Bool.not_eq_false, Int.ofNat_lt, Int.ofNat_le] at h1) <;> simp -dsimp -implicitDefEqProofs (maxSteps := 2000000) (disch := first | omega | assumption | (simp only [go_sem] <;> first | omega | assumption | fail) | fail) only [go_sem, h1])
    · (repeat (refine ⟨by first | omega | assumption | trivial | (simp only [List.length_take, List.length_map, List.length_append, List.length_cons, List.length_nil, List.length_drop]; omega), ?_⟩))
      exact Fin.ret (bool_av (by rw [← hh]; exact (congrArg (· && decide (x.getD 0 0 = 104)) h1).symm)) rfl
    · skip
      exact Fin.ret (bool_av (by rw [← hh]; exact (congrArg (· && decide (x.getD 0 0 = 104)) h1).symm)) rfl
  · exact Fin.ret (bool_av (by
      cases hc : headsL.contains x with
      | false => rfl
      | true => exact absurd (heads_len x hc) h)) rfl
def stBox (l : List (List UInt8)) : CV := .own 9 1 l.length (at2 (strs l))
theorem bounds_strs : strs boundsL = [[.str [116, 101, 109, 112, 108, 97, 116, 101]], [.str [98, 117, 116, 116, 111, 110]], [.str [111, 98, 106, 101, 99, 116]]] := by kernel_rfl
theorem tbounds_meets (E : Env) (H : List Ent) (m k cap c : Nat) (ws : List (List UInt8)) (hk : ws.length = k) (hk2 : k < 1000) (hm : nth H m = .row 9 1 k c (at2 (strs ws))) :
    Meets E Tryz.prog 74 [.c (.sl m 1 0 k cap)] H (fun v H' => ∃ c', 3 + k ≤ c' ∧ v = .c (.sl H.length 1 0 (3 + k) c') ∧ H' = H ++ [.row 9 1 (3 + k) c' (at2 (strs (boundsL ++ ws)))]) := by
  refine Meets.closed fun hc => ?_
  refine Meets.of_body mixed tok (plan := fun _ => .done) Tryz.func74 Tryz.call74 Tryz.ntmps74 Tryz.results74 rfl (by kernel_rfl) ?_
  simp -dsimp -implicitDefEqProofs (maxSteps := 2000000) (disch := first | omega | assumption | (simp only [go_sem] <;> first | omega | assumption | fail) | fail) only [go_sem, hm]
  have hm1 := nth_lt hm (by simp)
  simp -dsimp -implicitDefEqProofs (maxSteps := 2000000) (disch := first | omega | assumption | (simp only [go_sem] <;> first | omega | assumption | fail) | fail) only [go_sem, nth_app_lt, hm]
  refine ⟨by omega, fun c' hc' => ?_⟩
  rw [subCell_all k (strs ws) (by rw [strs_length]; exact hk), appCell_at2 3 _ _ rfl]
  refine Fin.rn [H.length + 1] (Nat.le_refl _) hc (by simp [rnOk, rnOk.rnFresh]) (by simp -dsimp -implicitDefEqProofs (maxSteps := 2000000) (disch := first | omega | assumption | (simp only [go_sem] <;> first | omega | assumption | fail) | fail) only [go_sem]) ?_
  simp -dsimp -implicitDefEqProofs (maxSteps := 2000000) (disch := first | omega | assumption | (simp only [go_sem] <;> first | omega | assumption | fail) | fail) only [go_sem]
  exact Fin.now ⟨c', hc', rfl, by rw [← strs_app, bounds_strs]; rfl⟩
theorem tbounds0_meets (E : Env) (H : List Ent) (e wd : Nat) :
    Meets E Tryz.prog 74 [.c (.nil e wd)] H (fun v H' => ∃ c', 3 ≤ c' ∧ v = .c (.sl H.length 1 0 3 c') ∧ H' = H ++ [.row 9 1 3 c' (at2 (strs boundsL))]) := by
  refine Meets.closed fun hc => ?_
  refine Meets.of_body mixed tok (plan := fun _ => .done) Tryz.func74 Tryz.call74 Tryz.ntmps74 Tryz.results74 rfl (by kernel_rfl) ?_
  simp -dsimp -implicitDefEqProofs (maxSteps := 2000000) (disch := first | omega | assumption | (simp only [go_sem] <;> first | omega | assumption | fail) | fail) only [go_sem]
  intro c' hc'
  refine Fin.rn [H.length + 1] (Nat.le_refl _) hc (by simp [rnOk, rnOk.rnFresh]) (by simp -dsimp -implicitDefEqProofs (maxSteps := 2000000) (disch := first | omega | assumption | (simp only [go_sem] <;> first | omega | assumption | fail) | fail) only [go_sem]) ?_
  simp -dsimp -implicitDefEqProofs (maxSteps := 2000000) (disch := first | omega | assumption | (simp only [go_sem] <;> first | omega | assumption | fail) | fail) only [go_sem]
  exact Fin.now ⟨c', hc', rfl, by rw [bounds_strs]⟩
end Go.Proofs.YtdpjmfipgkblfaaGreatDoor
