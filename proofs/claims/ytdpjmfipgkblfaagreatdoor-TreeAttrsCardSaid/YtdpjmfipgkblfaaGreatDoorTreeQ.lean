/- (*stack).near as a contract of V. -/
import Derived.Test.YtdpjmfipgkblfaaGreatDoorTreeP
import Derived.Test.YtdpjmfipgkblfaaGreatDoorVRow
set_option linter.unusedSimpArgs false
set_option linter.unusedVariables false
namespace Go.Proofs.YtdpjmfipgkblfaaGreatDoor
open Go Go.V Go.RowKit Go.Shelf
attribute [local go_sem] Oper.semAt_some

theorem RelH.below {E : Env} {g : Gh} {H : List Ent} {w w' : World} (r : RelH E g H w) (h : Below w.heap.size w w') : RelH E g H w' := by
  have hb : ∀ b, g.κ b ≠ .free → w'.heap[b]? = w.heap[b]? := fun b hb => h.block b (r.blk b hb)
  exact ⟨fun n e he => Ent.Is.keep (fun b hi => ⟨hi, hb b (by rw [hi]; simp)⟩) (fun _ _ h => h) rfl (fun b hi => ⟨hi, hb b (by rw [hi]; simp)⟩) (fun b p hi => ⟨hi, hb b (by rw [hi]; simp)⟩) (r.ent n e he),
    E.keeps _ _ _ _ r.inv fun b hi => ⟨hi, hb b (by rw [hi]; simp)⟩, fun b hb' => r.lt b (Nat.le_trans h.size hb'), r.dom, r.rol, r.rols⟩
theorem Step.below {E : Env} {g : Gh} {H : List Ent} {w w' : World} (r : RelH E g H w) (h : Below w.heap.size w w') (N : Nat) : Step N g w g w' :=
  ⟨h.os, h.tape, h.output, h.size, fun b hi => ⟨hi, h.block b (r.blk b (by rw [hi]; simp))⟩, fun b hl hi => ⟨hi, h.block b hl⟩, fun _ _ => rfl⟩
/-- A contract that leaves what was there alone. -/
theorem Meets.belowC {E : Env} {P : Program} {f : FuncId} {args : List AV} {H : List Ent} {av : AV} (hc : ∀ us w, (callFunc f us).run P w = .ok (.enter f us) w)
    (h : ∀ g w us, RelH E g H w → F2 (AV.Is g w) args us → ∃ v, av.Is g w v ∧ Calls P f us.toArray w fun e w' => e = .returned v ∧ Below w.heap.size w w') : Meets E P f args H (Ret av H) := by
  unfold Meets
  intro g w us r hu
  obtain ⟨v, hi, hcl⟩ := h g w us r hu
  refine .inl ⟨hc _ _, hcl.mono ?_⟩
  rintro e w' ⟨rfl, hb⟩
  have hS := Step.below r hb H.length
  exact ⟨g, H, av, ⟨rfl, rfl⟩, Nat.le_refl _, RelH.below r hb, AV.Is.mono hS.imm (fun _ _ h => h) hi, hS⟩

theorem names_of_sl {E : Env} {g : Gh} {H : List Ent} {w : World} (r : RelH E g H w) {m k cap ty c : Nat} {cell : Nat → Nat → CV} {ws : List (List UInt8)} {v : Value} (hv : (CV.sl m 1 0 k cap).Is g w v) (hm : nth H m = .row ty 1 k c cell) (hl : ws.length = k) (hcell : ∀ i, i < k → cell i 0 = .str (ws.getD i [])) : Names w.heap.size w v ws := by
  subst hl
  rcases hv with ⟨h1, h2, A, rfl⟩ | ⟨p, hp, hwd, rfl⟩
  · exact .inl ⟨List.eq_nil_of_length_eq_zero h1, A, 0, rfl⟩
  · rcases r.ent m _ (nth_ent hm (by simp)) with ⟨h0, _⟩ | ⟨b, o, cs, fz, h1, h2, h3, h4, h5, h6, h7⟩
    · rw [hp] at h0; cases h0
    · rw [hp] at h1
      obtain rfl := Option.some.inj h1
      refine .inr ⟨b, o, cap, by simp, r.blk b (by rw [h2]; simp), fun j hj => ?_⟩
      obtain ⟨u, hu, hi⟩ := h7 j hj 0 (by omega)
      rw [hcell j hj] at hi
      obtain rfl := hi
      simpa [List.getD] using hu
theorem names_of_own {E : Env} {g : Gh} {H : List Ent} {w : World} (r : RelH E g H w) {n : Nat} {q : List Nat} {ty : Nat} {ws : List (List UInt8)} {v : Value} (hv : (CV.own ty 1 ws.length (at2 (strs ws))).At g w (some (n, q)) v) : Names w.heap.size w v ws := by
  simp only [CV.At] at hv
  rcases hv with ⟨h1, A, rfl⟩ | ⟨b, o, c, cs, fz, rfl, h2, h3, h4, h5, h6, h7⟩
  · exact .inl ⟨List.eq_nil_of_length_eq_zero h1, A, 0, by first | rfl | rw [h1]⟩
  · refine .inr ⟨b, o, c, rfl, r.blk b (by rw [h3]; simp), fun j hj => ?_⟩
    obtain ⟨u, hu, hi⟩ := h7 j hj 0 (by omega)
    rw [strs_get _ _ hj] at hi
    obtain rfl := hi
    simpa [List.getD] using hu
set_option maxRecDepth 100000 in
set_option maxHeartbeats 1000000 in
theorem one_raw (p : Nat) (ws : List (List UInt8)) (sv : Value) (w : World) (hp : p < w.heap.size) (hc : w.cell? ⟨p, 0, none⟩ = some sv) (hN : Names w.heap.size w sv ws) (hl : ws.length < 1073741824) :
    RawFn 101 #[.pointer (some ⟨p, 0, none⟩)] (fun x => ws.contains x) w.heap.size w := by
  intro x W hB
  have hc' := (hB.cell (p := ⟨p, 0, none⟩) hp).trans hc
  have hN' := hN.below hB
  refine (callsIn_wide (n := 3)).1 ?_
  refine callsIn_of_wp Tryz.func101 rfl trivial ?_ rfl
  simp only [Tryz.ntmps101, Array.toList_append, List.append_toArray, List.size_toArray, List.length_cons, List.length_nil, Nat.reduceAdd, Nat.reduceSub, Array.replicate_succ, Array.replicate_zero, List.push_toArray, List.append_toArray, List.nil_append, List.cons_append]
  have hsv : ∃ a n c, sv = .slice a n c := by
    rcases hN with ⟨_, a, c, rfl⟩ | ⟨b, off, cap, rfl, _⟩
    · exact ⟨_, _, _, rfl⟩
    · exact ⟨_, _, _, rfl⟩
  obtain ⟨a, ln, cp, rfl⟩ := hsv
  gi_wp2_with (refine ⟨trivial, ?_⟩; gi_at_call 87; refine (callsIn_wide.2 (contains_calls _ _ ws hl W hN' x)).mono ?_; rintro e W3 ⟨rfl, rfl⟩)
  go_ret
  exact ⟨by simp, Below.refl _ _⟩
theorem calls_bool {E : Env} {P : Program} {f : FuncId} {args : List AV} {us : List Value} {W : World} {b : Bool} (hc : ∀ us w, (callFunc f us).run P w = .ok (.enter f us) w)
    (hm : Meets E P f args [] (Ret (.d (.bool b)) [])) (hinv : E.inv (gh0 W).κ W) (hu : F2 (AV.Is (gh0 W) W) args us) :
    Calls P f us.toArray W fun e W' => e = .returned (.bool b) ∧ Below W.heap.size W W' := by
  rcases hm (gh0 W) W us (rel0 hinv) hu with ⟨_, h⟩ | ⟨v, w', h, _⟩
  · refine h.mono fun e W' he => ?_
    cases e with
    | returned r =>
      obtain ⟨g', H', av, ⟨rfl, rfl⟩, _, _, hi, hS⟩ := he
      obtain rfl := (show r = .bool b from hi)
      exact ⟨rfl, below_of_step hS⟩
    | panicked _ => exact he.elim
    | outgrown => exact he.elim
  · rw [hc] at h; cases h
theorem env_to {E : Env} {g : Gh} {H : List Ent} {w W : World} (r : RelH E g H w) (hB : Below w.heap.size w W) : E.inv (gh0 W).κ W :=
  E.keeps _ _ _ _ r.inv fun b hb => by
    have hl := r.blk b (by rw [hb]; simp)
    exact ⟨gh0_imm (Nat.lt_of_lt_of_le hl hB.size), hB.block b hl⟩
theorem head_raw {g : Gh} {H : List Ent} {w : World} (r : RelH tE g H w) : RawFn 72 #[] (fun x => headsL.contains x) w.heap.size w := fun x W hB =>
  calls_bool (us := [.string (bstr x)]) Tryz.call72 (thead_meets x []) (env_to r hB) ⟨rfl, trivial⟩

theorem tnearHead_meets {b : Bd} {H : List Ent} {n m cap ty c : Nat} {cell : Nat → Nat → CV} {ws : List (List UInt8)} (hn : nth H n = bBox b) (hb : BdOk b) (hm : nth H m = .row ty 1 ws.length c cell) (hl : ws.length < 1073741824) (hcell : ∀ i, i < ws.length → cell i 0 = .str (ws.getD i [])) :
    Meets tE Tryz.prog 73 [.c (.ptr n 0 0), .c (.fn 72 []), .c (.sl m 1 0 ws.length cap)] H (Ret (.d (.int .i64 (nearR headsL ws b.opn))) H) := by
  refine Meets.belowC Tryz.call73 fun g w us r hu => ?_
  match us, hu with
  | [u1, u2, u3], hu =>
    obtain ⟨h1, h2, h3, _⟩ := hu
    obtain ⟨p, hp, rfl⟩ := h1
    obtain ⟨cs, rfl, hcs⟩ := h2
    obtain rfl : cs = [] := by cases cs with
      | nil => rfl
      | cons a l => exact hcs.elim
    obtain ⟨bb, bcs, q1, q2, q3, q4, q5⟩ := r.ent n _ (nth_ent hn (by simp [bBox]))
    rw [q1] at hp
    obtain rfl := Option.some.inj hp
    obtain ⟨v0, hv0, hi0⟩ := q5 0 _ rfl
    refine ⟨_, rfl, callsIn_wide.1 (nearHead_in bb 0 b.opn ws v0 u3 (fun x => headsL.contains x) w (by have := hb.opn; omega) hl ?_ (names_of_own r hi0) (r.blk bb (by rw [q2]; simp)) (head_raw r) (names_of_sl r h3 hm rfl hcell))⟩
    simp [World.cell?, q3, hv0]
theorem tnearOne_meets {b : Bd} {H : List Ent} {n m cap ty c p : Nat} {cell : Nat → Nat → CV} {ws ns : List (List UInt8)} (hn : nth H n = bBox b) (hb : BdOk b) (hp : OneAt H p ns) (hm : nth H m = .row ty 1 ws.length c cell) (hl : ws.length < 1073741824) (hcell : ∀ i, i < ws.length → cell i 0 = .str (ws.getD i [])) :
    Meets tE Tryz.prog 73 [.c (.ptr n 0 0), .c (.fn 101 [p]), .c (.sl m 1 0 ws.length cap)] H (Ret (.d (.int .i64 (nearR ns ws b.opn))) H) := by
  refine Meets.belowC Tryz.call73 fun g w us r hu => ?_
  match us, hu with
  | [u1, u2, u3], hu =>
    obtain ⟨h1, h2, h3, _⟩ := hu
    obtain ⟨pn, hpn, rfl⟩ := h1
    obtain ⟨cs, rfl, hcs⟩ := h2
    obtain ⟨cv, rfl, hcv⟩ : ∃ cv, cs = [cv] ∧ _ := by
      match cs, hcs with
      | [cv], h => exact ⟨cv, rfl, h.1⟩
    obtain ⟨pp, hpp, rfl⟩ := hcv
    obtain ⟨om, ocap, oty, oc, ocell, o1, o2, o3, o4⟩ := hp
    obtain ⟨bb, bcs, q1, q2, q3, q4, q5⟩ := r.ent n _ (nth_ent hn (by simp [bBox]))
    rw [q1] at hpn
    obtain rfl := Option.some.inj hpn
    obtain ⟨v0, hv0, hi0⟩ := q5 0 _ rfl
    obtain ⟨pb, pcs, s1, s2, s3, s4, s5⟩ := r.ent p _ (nth_ent o1 (by simp))
    rw [s1] at hpp
    obtain rfl := Option.some.inj hpp
    obtain ⟨v1, hv1, hi1⟩ := s5 0 _ rfl
    have hi1 : (CV.sl om 1 0 ns.length ocap).Is g w v1 := CV.At.share trivial hi1
    have hc1 : w.cell? ⟨pb, 0, none⟩ = some v1 := by simp [World.cell?, s3, hv1]
    refine ⟨_, rfl, callsIn_wide.1 (nearOne_in bb 0 pb b.opn ws v0 u3 (fun x => ns.contains x) w (by have := hb.opn; omega) hl ?_ (names_of_own r hi0) (r.blk bb (by rw [q2]; simp))
      (one_raw pb ns v1 w (r.blk pb (by rw [s2]; simp)) hc1 (names_of_sl r hi1 o2 rfl o4) o3) (names_of_sl r h3 hm rfl hcell))⟩
    simp [World.cell?, q3, hv0]
end Go.Proofs.YtdpjmfipgkblfaaGreatDoor
