/- (*stack).near at the two functions that say what is sought, walked. -/
import Derived.Test.YtdpjmfipgkblfaaGreatDoorTreeO
set_option linter.unusedSimpArgs false
set_option linter.unusedVariables false
namespace Go.Proofs.YtdpjmfipgkblfaaGreatDoor
open Go Go.V Go.RowKit Go.Shelf
attribute [local go_sem] Oper.semAt_some

theorem nearF_none (is stop : List UInt8 → Bool) (l : List (List UInt8)) : ∀ k, (∀ j, j < k → is (l.getD j []) = false ∧ stop (l.getD j []) = false) → nearF is stop l k = -1
  | 0, _ => rfl
  | k + 1, h => by
    have := h k (by omega)
    rw [nearF, this.1, this.2]
    exact nearF_none is stop l k fun j hj => h j (by omega)
theorem nearF_skip (is stop : List UInt8 → Bool) (l : List (List UInt8)) (k : Nat) : ∀ n, k ≤ n → (∀ j, k ≤ j → j < n → is (l.getD j []) = false ∧ stop (l.getD j []) = false) → nearF is stop l n = nearF is stop l k
  | 0, h, _ => by obtain rfl : k = 0 := by omega
                  rfl
  | n + 1, h, hj => by
    rcases Nat.eq_or_lt_of_le h with rfl | h
    · rfl
    have := hj n (by omega) (by omega)
    rw [nearF, this.1, this.2]
    exact nearF_skip is stop l k n (by omega) fun j h1 h2 => hj j h1 (by omega)
/-- What has come of the names, the last first. -/
theorem upto_all {zs : List (List UInt8)} {k : Nat} (hk : k ≤ zs.length) {p : List UInt8 → Prop} (h : ∀ x ∈ upto (backAt zs) k, p x.2) : ∀ j, zs.length - k ≤ j → j < zs.length → p (zs.getD j []) := by
  intro j h1 h2
  have := h (backAt zs (zs.length - 1 - j)) (by simp only [upto, List.mem_map, List.mem_range]; exact ⟨zs.length - 1 - j, by omega, rfl⟩)
  simp only [backAt] at this
  rwa [show zs.length - 1 - (zs.length - 1 - j) = j by omega] at this
theorem Names.lift {n m : Nat} {W : World} {sv : Value} {zs : List (List UInt8)} (hnm : n ≤ m) : Names n W sv zs → Names m W sv zs
  | .inl e => .inl e
  | .inr ⟨b, off, cap, e, hb, hc⟩ => .inr ⟨b, off, cap, e, Nat.lt_of_lt_of_le hb hnm, hc⟩

set_option maxRecDepth 100000 in
set_option maxHeartbeats 4000000 in
theorem nearOne_in (Sb So : Nat) (p : Nat) (opn ws : List (List UInt8)) (osv ssv : Value) (is : List UInt8 → Bool) (w : World) (hz : opn.length < 1073741824) (hws : ws.length < 1073741824)
    (hS : w.cell? ⟨Sb, So, none⟩ = some osv) (hN : Names w.heap.size w osv opn) (hSb : Sb < w.heap.size) (hraw : RawFn 101 #[.pointer (some ⟨p, 0, none⟩)] is w.heap.size w) (hW : Names w.heap.size w ssv ws) :
    CallsIn Fence.wide 6 Tryz.prog 73 #[.pointer (some ⟨Sb, So, none⟩), .func (.func 101) #[] #[.pointer (some ⟨p, 0, none⟩)], ssv] w fun e W' =>
      e = .returned (.int .i64 (nearF is (fun x => ws.contains x) opn opn.length)) ∧ Below w.heap.size w W' := by
  refine callsIn_of_wp_marks Tryz.func73 rfl trivial ?_ rfl
  simp only [Tryz.ntmps73, List.size_toArray, List.length_cons, List.length_nil, Nat.reduceAdd, Nat.reduceSub, Array.replicate_succ, Array.replicate_zero, List.push_toArray, List.append_toArray, List.nil_append, List.cons_append]
  have hS3 : ∀ o1 o2 o3, (((w.alloc o1).alloc o2).alloc o3).cell? ⟨Sb, So, none⟩ = some osv := fun o1 o2 o3 => ((((Below.refl _ w).alloc (Nat.le_refl _) o1).alloc (by simp) o2).alloc (by simp; omega) o3).cell (p := ⟨Sb, So, none⟩) hSb |>.trans hS
  have hosv : ∃ a n c, osv = .slice a n c := by
    rcases hN with ⟨_, a, c, rfl⟩ | ⟨b, off, cap, rfl, _⟩
    · exact ⟨_, _, _, rfl⟩
    · exact ⟨_, _, _, rfl⟩
  obtain ⟨a, ln, cp, rfl⟩ := hosv
  have hssv : ∃ a n c, ssv = .slice a n c := by
    rcases hW with ⟨_, a, c, rfl⟩ | ⟨b, off, cap, rfl, _⟩
    · exact ⟨_, _, _, rfl⟩
    · exact ⟨_, _, _, rfl⟩
  obtain ⟨a2, ln2, cp2, rfl⟩ := hssv
  gi_wp2_with (refine ⟨trivial, ?_⟩; gi_at_call 103; refine (back_in Fence.wide 5 trivial rfl _ _ _ _).mono ?_; rintro e w' ⟨rfl, rfl⟩)
  obtain ⟨W1, hW1⟩ : ∃ W1, (((w.alloc (.cells #[.func (.func 101) #[] #[.pointer (some ⟨p, 0, none⟩)]] 51)).alloc (.cells #[.slice a2 ln2 cp2] 46)).alloc (.cells #[.int .i64 0] 3)).alloc (.cells #[.slice a ln cp] 46) = W1 := ⟨_, rfl⟩
  have hB1 : Below w.heap.size w W1 := by
    rw [← hW1]
    exact ((((Below.refl _ w).alloc (Nat.le_refl _) _).alloc (by simp) _).alloc (by simp; omega) _).alloc (by simp; omega) _
  have hsz : W1.heap.size = w.heap.size + 4 := by rw [← hW1]; simp
  have b4 := (((Boxed.new w 51 (.func (.func 101) #[] #[.pointer (some ⟨p, 0, none⟩)])).alloc (.cells #[.slice a2 ln2 cp2] 46)).alloc (.cells #[.int .i64 0] 3)).alloc (.cells #[.slice a ln cp] 46)
  have b5 := ((Boxed.new (w.alloc (.cells #[.func (.func 101) #[] #[.pointer (some ⟨p, 0, none⟩)]] 51)) 46 (.slice a2 ln2 cp2)).alloc (.cells #[.int .i64 0] 3)).alloc (.cells #[.slice a ln cp] 46)
  have b6 := (Boxed.new ((w.alloc (.cells #[.func (.func 101) #[] #[.pointer (some ⟨p, 0, none⟩)]] 51)).alloc (.cells #[.slice a2 ln2 cp2] 46)) 3 (.int .i64 0)).alloc (.cells #[.slice a ln cp] 46)
  have b7 := Boxed.new (((w.alloc (.cells #[.func (.func 101) #[] #[.pointer (some ⟨p, 0, none⟩)]] 51)).alloc (.cells #[.slice a2 ln2 cp2] 46)).alloc (.cells #[.int .i64 0] 3)) 46 (.slice a ln cp)
  rw [hW1] at b4 b5 b6 b7 ⊢
  simp only [World.size_alloc] at b4 b5 b6 b7
  have c4 := b4.cell
  have c5 := b5.cell
  have c6 := b6.cell
  have f6 := b6.frozen
  have c7 := b7.cell
  refine wpIn_rangeFunc_ownG rfl (by decide) (gf := 119) (lb := #[.pointer (some ⟨w.heap.size + 3, 0, none⟩)]) rfl trivial (enters_of Tryz.func119 (by kernel_rfl) rfl)
    (back_stops Fence.wide 5 trivial rfl (by decide) (w.heap.size + 3) (w.heap.size + 4) _ opn hz W1 (by omega) (by omega) (by omega) c7 ((hN.below hB1).lift (by omega))) belowK_t (belowK_b (by omega)) (Below.refl _ _) (fun _ => rfl)
    (fun pre W => (∀ q ∈ pre, is q.2 = false ∧ ws.contains q.2 = false) ∧ Below (w.heap.size + 4) W1 W)
    (fun c pre W => (c = .ret ∧ ∃ ini last, pre = ini ++ [last] ∧ (∀ q ∈ ini, is q.2 = false ∧ ws.contains q.2 = false) ∧ ((is last.2 = true ∧ W.cell? ⟨w.heap.size + 2, 0, none⟩ = some (.int .i64 last.1)) ∨ (is last.2 = false ∧ ws.contains last.2 = true ∧ W.cell? ⟨w.heap.size + 2, 0, none⟩ = some (.int .i64 (-1))))) ∧ Below w.heap.size w W)
    (OwnFrom.and (Own.from (fun s A B row hs hg hr => hs) _) (ownFrom_below (by omega) (by omega)))
    (fun c => OwnFrom.and (Own.from (fun s A B row hs hg hr => by
      obtain ⟨hc, ini, last, e1, e2, e3⟩ := hs
      exact ⟨hc, ini, last, e1, e2, e3.imp (fun h => ⟨h.1, cell_kept h.2 hg hr⟩) (fun h => ⟨h.1, h.2.1, cell_kept h.2.2 hg hr⟩)⟩) _) (ownFrom_below (Nat.le_refl _) (by omega)))
    ⟨by simp, Below.refl _ _⟩
    (fun x => { tmps := #[.pointer (some ⟨Sb, So, none⟩), .func (.func 101) #[] #[.pointer (some ⟨p, 0, none⟩)], .slice a2 ln2 cp2, undef, .pointer (some ⟨w.heap.size, 0, none⟩), .pointer (some ⟨w.heap.size + 1, 0, none⟩), .pointer (some ⟨w.heap.size + 2, 0, none⟩), .int .i64 x.1, .string (bstr x.2), .pointer (some ⟨Sb, So, none⟩), .pointer (some ⟨Sb, So, none⟩), .pointer (some ⟨Sb, So, none⟩), .slice a ln cp, .func (.func 119) #[] #[.pointer (some ⟨w.heap.size + 3, 0, none⟩)], .int .i64 x.1, .string (bstr x.2), undef, undef, undef, undef, undef, undef, undef, undef, undef], defers := [] }) ?assign ?body ?done ?stop
  case assign =>
    intro l x W K hK
    gi_wp2
    exact hK
  case body =>
    rintro l pre x W ⟨hp, hB⟩ _
    have d4 : W.cell? ⟨w.heap.size, 0, none⟩ = _ := (hB.cell (p := ⟨w.heap.size, 0, none⟩) (by show w.heap.size < _; omega)).trans c4
    have hBw : Below w.heap.size w W := hB1.trans (hB.mono (by omega))
    have hWW : Names w.heap.size W (.slice a2 ln2 cp2) ws := hW.below hBw
    have keep : ∀ W2, Below W.heap.size W W2 → W2.cell? ⟨w.heap.size + 1, 0, none⟩ = some (.slice a2 ln2 cp2) ∧ W2.cell? ⟨w.heap.size + 2, 0, none⟩ = some (.int .i64 0) ∧ W2.frozen? ⟨w.heap.size + 2, 0, none⟩ = false ∧ Names w.heap.size W2 (.slice a2 ln2 cp2) ws ∧ Below (w.heap.size + 4) W1 W2 ∧ Below w.heap.size w W2 ∧ KeepsFrom W1.heap.size W W2 := fun W2 hB2 =>
      have h24 : Below (w.heap.size + 4) W1 W2 := hB.trans (hB2.mono (by have := hB.size; omega))
      ⟨(h24.cell (p := ⟨w.heap.size + 1, 0, none⟩) (by show w.heap.size + 1 < _; omega)).trans c5, (h24.cell (p := ⟨w.heap.size + 2, 0, none⟩) (by show w.heap.size + 2 < _; omega)).trans c6,
        (h24.frozen (p := ⟨w.heap.size + 2, 0, none⟩) (by show w.heap.size + 2 < _; omega)).trans f6, hWW.below (hB2.mono hBw.size), h24, hB1.trans (h24.mono (by omega)), ⟨hB2.size, fun k o _ hk _ => (hB2.block k (Array.getElem?_eq_some_iff.1 hk).1).trans hk⟩⟩
    gi_wp2_with (first
      | (refine ⟨trivial, ?_⟩; gi_at_call 101; refine (CallsIn.inRound l (callsIn_wide.2 (hraw x.2 W hBw))).mono ?_; rintro e W2 ⟨rfl, hB2⟩; obtain ⟨d5, d6, e6, hW2, h24, h2w, hKF⟩ := keep W2 hB2)
      | (refine ⟨trivial, ?_⟩; gi_at_call 87; refine (CallsIn.inRound l (callsIn_wide.2 (contains_calls _ _ ws hws _ hW2 x.2))).mono ?_; rintro e W3 ⟨rfl, rfl⟩))
    · have hi : is x.2 = true := by assumption
      exact ⟨hKF.trans ((KeepsOthers.setCell _ _ _).from _), ⟨rfl, pre, x, rfl, hp, .inl ⟨hi, World.cell?_setCell_same' _ _ _ (by rw [d6]; rfl)⟩⟩, h2w.setCell (p := ⟨w.heap.size + 2, 0, none⟩) (by show w.heap.size ≤ w.heap.size + 2; omega) _⟩
    · have hi : is x.2 = false := by assumption
      have hm : ws.contains x.2 = true := by rw [List.contains_iff_mem]; assumption
      exact ⟨hKF.trans ((KeepsOthers.setCell _ _ _).from _), ⟨rfl, pre, x, rfl, hp, .inr ⟨hi, hm, World.cell?_setCell_same' _ _ _ (by rw [d6]; rfl)⟩⟩, h2w.setCell (p := ⟨w.heap.size + 2, 0, none⟩) (by show w.heap.size ≤ w.heap.size + 2; omega) _⟩
    · have hi : is x.2 = false := by assumption
      have hm : ws.contains x.2 = false := by rw [Bool.eq_false_iff, ne_eq, List.contains_iff_mem]; assumption
      exact ⟨hKF, hB2.mono (by have := hB.size; omega), fun q hq => (List.mem_append.1 hq).elim (hp q) (fun e => by simp at e; subst e; exact ⟨hi, hm⟩), h24⟩
  case done =>
    rintro D ys W hD rfl ⟨hne, hB⟩ hK
    have d6 : W.cell? ⟨w.heap.size + 2, 0, none⟩ = _ := (hB.cell (p := ⟨w.heap.size + 2, 0, none⟩) (by show w.heap.size + 2 < _; omega)).trans c6
    have e6 : W.frozen? ⟨w.heap.size + 2, 0, none⟩ = _ := (hB.frozen (p := ⟨w.heap.size + 2, 0, none⟩) (by show w.heap.size + 2 < _; omega)).trans f6
    have hBw : Below w.heap.size w W := hB1.trans (hB.mono (by omega))
    gi_wp2
    have hK' := (KeepsOthers.setCell W ⟨w.heap.size + 2, 0, none⟩ (.int .i64 (-1))).same D _ hK rfl
    refine ⟨by simp, .inl ⟨_, _, rfl, run_takeDeferred hK', ?_⟩⟩
    have hc5 := cell_kept (World.cell?_setCell_same' W ⟨w.heap.size + 2, 0, none⟩ (.int .i64 (-1)) (by rw [d6]; rfl)) (grownBy_putObj' _ D (.deferred none)) (fun r e => by cases e; exact ⟨_, hK', rfl⟩)
    refine ⟨.int .i64 (-1), ?_, ?_, (hBw.setCell (p := ⟨w.heap.size + 2, 0, none⟩) (by show w.heap.size ≤ w.heap.size + 2; omega) _).trans (belowK_b (w := w) (Nat.le_refl _) _ D _ _ (by omega) hK' rfl rfl)⟩
    · simp [results, Tryz.f73, go_sem, hc5]
    · rw [nearF_none is _ opn opn.length fun j hj => upto_all (p := fun y => is y = false ∧ ws.contains y = false) (Nat.le_refl _) hne j (by omega) hj]
  case stop =>
    rintro D c pre W hD ⟨k, hk, rfl⟩ ⟨⟨rfl, ini, last, e1, e2, e3⟩, hB⟩ hK
    gi_wp2
    refine ⟨by simp, .inl ⟨_, _, rfl, run_takeDeferred hK, ?_⟩⟩
    obtain ⟨k', rfl⟩ : ∃ k', k = k' + 1 := by
      cases k with
      | zero => simp [upto] at e1
      | succ k' => exact ⟨k', rfl⟩
    rw [upto_succ] at e1
    obtain ⟨rfl, e5⟩ := List.append_inj' e1 rfl
    obtain rfl : backAt opn k' = last := by simpa using e5
    have hsk := nearF_skip is (fun x => ws.contains x) opn (opn.length - k') opn.length (by omega) fun j h1 h2 => upto_all (p := fun y => is y = false ∧ ws.contains y = false) (by omega) e2 j h1 h2
    have hend : Below w.heap.size w (W.putObj D (.deferred none)) := hB.trans (belowK_b (w := w) (Nat.le_refl _) W D _ _ (by omega) hK rfl rfl)
    rw [show opn.length - k' = (opn.length - 1 - k') + 1 by omega] at hsk
    rcases e3 with ⟨hi, hcr⟩ | ⟨hi, hm, hcr⟩
    · have hc5 := cell_kept hcr (grownBy_putObj' _ D (.deferred none)) (fun r e => by cases e; exact ⟨_, hK, rfl⟩)
      refine ⟨.int .i64 (backAt opn k').1, ?_, ?_, hend⟩
      · simp [results, Tryz.f73, go_sem, hc5]
      · have hi' : is (opn.getD (opn.length - 1 - k') []) = true := hi
        rw [hsk, nearF, if_pos hi']
        simp only [backAt]
        congr 2
        omega
    · have hc5 := cell_kept hcr (grownBy_putObj' _ D (.deferred none)) (fun r e => by cases e; exact ⟨_, hK, rfl⟩)
      refine ⟨.int .i64 (-1), ?_, ?_, hend⟩
      · simp [results, Tryz.f73, go_sem, hc5]
      · have hi' : is (opn.getD (opn.length - 1 - k') []) = false := hi
        have hm' : ws.contains (opn.getD (opn.length - 1 - k') []) = true := hm
        rw [hsk, nearF, hi', if_neg (by simp), if_pos hm']

set_option maxRecDepth 100000 in
set_option maxHeartbeats 4000000 in
theorem nearHead_in (Sb So : Nat)  (opn ws : List (List UInt8)) (osv ssv : Value) (is : List UInt8 → Bool) (w : World) (hz : opn.length < 1073741824) (hws : ws.length < 1073741824)
    (hS : w.cell? ⟨Sb, So, none⟩ = some osv) (hN : Names w.heap.size w osv opn) (hSb : Sb < w.heap.size) (hraw : RawFn 72 #[] is w.heap.size w) (hW : Names w.heap.size w ssv ws) :
    CallsIn Fence.wide 6 Tryz.prog 73 #[.pointer (some ⟨Sb, So, none⟩), .func (.func 72) #[] #[], ssv] w fun e W' =>
      e = .returned (.int .i64 (nearF is (fun x => ws.contains x) opn opn.length)) ∧ Below w.heap.size w W' := by
  refine callsIn_of_wp_marks Tryz.func73 rfl trivial ?_ rfl
  simp only [Tryz.ntmps73, List.size_toArray, List.length_cons, List.length_nil, Nat.reduceAdd, Nat.reduceSub, Array.replicate_succ, Array.replicate_zero, List.push_toArray, List.append_toArray, List.nil_append, List.cons_append]
  have hS3 : ∀ o1 o2 o3, (((w.alloc o1).alloc o2).alloc o3).cell? ⟨Sb, So, none⟩ = some osv := fun o1 o2 o3 => ((((Below.refl _ w).alloc (Nat.le_refl _) o1).alloc (by simp) o2).alloc (by simp; omega) o3).cell (p := ⟨Sb, So, none⟩) hSb |>.trans hS
  have hosv : ∃ a n c, osv = .slice a n c := by
    rcases hN with ⟨_, a, c, rfl⟩ | ⟨b, off, cap, rfl, _⟩
    · exact ⟨_, _, _, rfl⟩
    · exact ⟨_, _, _, rfl⟩
  obtain ⟨a, ln, cp, rfl⟩ := hosv
  have hssv : ∃ a n c, ssv = .slice a n c := by
    rcases hW with ⟨_, a, c, rfl⟩ | ⟨b, off, cap, rfl, _⟩
    · exact ⟨_, _, _, rfl⟩
    · exact ⟨_, _, _, rfl⟩
  obtain ⟨a2, ln2, cp2, rfl⟩ := hssv
  gi_wp2_with (refine ⟨trivial, ?_⟩; gi_at_call 103; refine (back_in Fence.wide 5 trivial rfl _ _ _ _).mono ?_; rintro e w' ⟨rfl, rfl⟩)
  obtain ⟨W1, hW1⟩ : ∃ W1, (((w.alloc (.cells #[.func (.func 72) #[] #[]] 51)).alloc (.cells #[.slice a2 ln2 cp2] 46)).alloc (.cells #[.int .i64 0] 3)).alloc (.cells #[.slice a ln cp] 46) = W1 := ⟨_, rfl⟩
  have hB1 : Below w.heap.size w W1 := by
    rw [← hW1]
    exact ((((Below.refl _ w).alloc (Nat.le_refl _) _).alloc (by simp) _).alloc (by simp; omega) _).alloc (by simp; omega) _
  have hsz : W1.heap.size = w.heap.size + 4 := by rw [← hW1]; simp
  have b4 := (((Boxed.new w 51 (.func (.func 72) #[] #[])).alloc (.cells #[.slice a2 ln2 cp2] 46)).alloc (.cells #[.int .i64 0] 3)).alloc (.cells #[.slice a ln cp] 46)
  have b5 := ((Boxed.new (w.alloc (.cells #[.func (.func 72) #[] #[]] 51)) 46 (.slice a2 ln2 cp2)).alloc (.cells #[.int .i64 0] 3)).alloc (.cells #[.slice a ln cp] 46)
  have b6 := (Boxed.new ((w.alloc (.cells #[.func (.func 72) #[] #[]] 51)).alloc (.cells #[.slice a2 ln2 cp2] 46)) 3 (.int .i64 0)).alloc (.cells #[.slice a ln cp] 46)
  have b7 := Boxed.new (((w.alloc (.cells #[.func (.func 72) #[] #[]] 51)).alloc (.cells #[.slice a2 ln2 cp2] 46)).alloc (.cells #[.int .i64 0] 3)) 46 (.slice a ln cp)
  rw [hW1] at b4 b5 b6 b7 ⊢
  simp only [World.size_alloc] at b4 b5 b6 b7
  have c4 := b4.cell
  have c5 := b5.cell
  have c6 := b6.cell
  have f6 := b6.frozen
  have c7 := b7.cell
  refine wpIn_rangeFunc_ownG rfl (by decide) (gf := 119) (lb := #[.pointer (some ⟨w.heap.size + 3, 0, none⟩)]) rfl trivial (enters_of Tryz.func119 (by kernel_rfl) rfl)
    (back_stops Fence.wide 5 trivial rfl (by decide) (w.heap.size + 3) (w.heap.size + 4) _ opn hz W1 (by omega) (by omega) (by omega) c7 ((hN.below hB1).lift (by omega))) belowK_t (belowK_b (by omega)) (Below.refl _ _) (fun _ => rfl)
    (fun pre W => (∀ q ∈ pre, is q.2 = false ∧ ws.contains q.2 = false) ∧ Below (w.heap.size + 4) W1 W)
    (fun c pre W => (c = .ret ∧ ∃ ini last, pre = ini ++ [last] ∧ (∀ q ∈ ini, is q.2 = false ∧ ws.contains q.2 = false) ∧ ((is last.2 = true ∧ W.cell? ⟨w.heap.size + 2, 0, none⟩ = some (.int .i64 last.1)) ∨ (is last.2 = false ∧ ws.contains last.2 = true ∧ W.cell? ⟨w.heap.size + 2, 0, none⟩ = some (.int .i64 (-1))))) ∧ Below w.heap.size w W)
    (OwnFrom.and (Own.from (fun s A B row hs hg hr => hs) _) (ownFrom_below (by omega) (by omega)))
    (fun c => OwnFrom.and (Own.from (fun s A B row hs hg hr => by
      obtain ⟨hc, ini, last, e1, e2, e3⟩ := hs
      exact ⟨hc, ini, last, e1, e2, e3.imp (fun h => ⟨h.1, cell_kept h.2 hg hr⟩) (fun h => ⟨h.1, h.2.1, cell_kept h.2.2 hg hr⟩)⟩) _) (ownFrom_below (Nat.le_refl _) (by omega)))
    ⟨by simp, Below.refl _ _⟩
    (fun x => { tmps := #[.pointer (some ⟨Sb, So, none⟩), .func (.func 72) #[] #[], .slice a2 ln2 cp2, undef, .pointer (some ⟨w.heap.size, 0, none⟩), .pointer (some ⟨w.heap.size + 1, 0, none⟩), .pointer (some ⟨w.heap.size + 2, 0, none⟩), .int .i64 x.1, .string (bstr x.2), .pointer (some ⟨Sb, So, none⟩), .pointer (some ⟨Sb, So, none⟩), .pointer (some ⟨Sb, So, none⟩), .slice a ln cp, .func (.func 119) #[] #[.pointer (some ⟨w.heap.size + 3, 0, none⟩)], .int .i64 x.1, .string (bstr x.2), undef, undef, undef, undef, undef, undef, undef, undef, undef], defers := [] }) ?assign ?body ?done ?stop
  case assign =>
    intro l x W K hK
    gi_wp2
    exact hK
  case body =>
    rintro l pre x W ⟨hp, hB⟩ _
    have d4 : W.cell? ⟨w.heap.size, 0, none⟩ = _ := (hB.cell (p := ⟨w.heap.size, 0, none⟩) (by show w.heap.size < _; omega)).trans c4
    have hBw : Below w.heap.size w W := hB1.trans (hB.mono (by omega))
    have hWW : Names w.heap.size W (.slice a2 ln2 cp2) ws := hW.below hBw
    have keep : ∀ W2, Below W.heap.size W W2 → W2.cell? ⟨w.heap.size + 1, 0, none⟩ = some (.slice a2 ln2 cp2) ∧ W2.cell? ⟨w.heap.size + 2, 0, none⟩ = some (.int .i64 0) ∧ W2.frozen? ⟨w.heap.size + 2, 0, none⟩ = false ∧ Names w.heap.size W2 (.slice a2 ln2 cp2) ws ∧ Below (w.heap.size + 4) W1 W2 ∧ Below w.heap.size w W2 ∧ KeepsFrom W1.heap.size W W2 := fun W2 hB2 =>
      have h24 : Below (w.heap.size + 4) W1 W2 := hB.trans (hB2.mono (by have := hB.size; omega))
      ⟨(h24.cell (p := ⟨w.heap.size + 1, 0, none⟩) (by show w.heap.size + 1 < _; omega)).trans c5, (h24.cell (p := ⟨w.heap.size + 2, 0, none⟩) (by show w.heap.size + 2 < _; omega)).trans c6,
        (h24.frozen (p := ⟨w.heap.size + 2, 0, none⟩) (by show w.heap.size + 2 < _; omega)).trans f6, hWW.below (hB2.mono hBw.size), h24, hB1.trans (h24.mono (by omega)), ⟨hB2.size, fun k o _ hk _ => (hB2.block k (Array.getElem?_eq_some_iff.1 hk).1).trans hk⟩⟩
    gi_wp2_with (first
      | (refine ⟨trivial, ?_⟩; gi_at_call 72; refine (CallsIn.inRound l (callsIn_wide.2 (hraw x.2 W hBw))).mono ?_; rintro e W2 ⟨rfl, hB2⟩; obtain ⟨d5, d6, e6, hW2, h24, h2w, hKF⟩ := keep W2 hB2)
      | (refine ⟨trivial, ?_⟩; gi_at_call 87; refine (CallsIn.inRound l (callsIn_wide.2 (contains_calls _ _ ws hws _ hW2 x.2))).mono ?_; rintro e W3 ⟨rfl, rfl⟩))
    · have hi : is x.2 = true := by assumption
      exact ⟨hKF.trans ((KeepsOthers.setCell _ _ _).from _), ⟨rfl, pre, x, rfl, hp, .inl ⟨hi, World.cell?_setCell_same' _ _ _ (by rw [d6]; rfl)⟩⟩, h2w.setCell (p := ⟨w.heap.size + 2, 0, none⟩) (by show w.heap.size ≤ w.heap.size + 2; omega) _⟩
    · have hi : is x.2 = false := by assumption
      have hm : ws.contains x.2 = true := by rw [List.contains_iff_mem]; assumption
      exact ⟨hKF.trans ((KeepsOthers.setCell _ _ _).from _), ⟨rfl, pre, x, rfl, hp, .inr ⟨hi, hm, World.cell?_setCell_same' _ _ _ (by rw [d6]; rfl)⟩⟩, h2w.setCell (p := ⟨w.heap.size + 2, 0, none⟩) (by show w.heap.size ≤ w.heap.size + 2; omega) _⟩
    · have hi : is x.2 = false := by assumption
      have hm : ws.contains x.2 = false := by rw [Bool.eq_false_iff, ne_eq, List.contains_iff_mem]; assumption
      exact ⟨hKF, hB2.mono (by have := hB.size; omega), fun q hq => (List.mem_append.1 hq).elim (hp q) (fun e => by simp at e; subst e; exact ⟨hi, hm⟩), h24⟩
  case done =>
    rintro D ys W hD rfl ⟨hne, hB⟩ hK
    have d6 : W.cell? ⟨w.heap.size + 2, 0, none⟩ = _ := (hB.cell (p := ⟨w.heap.size + 2, 0, none⟩) (by show w.heap.size + 2 < _; omega)).trans c6
    have e6 : W.frozen? ⟨w.heap.size + 2, 0, none⟩ = _ := (hB.frozen (p := ⟨w.heap.size + 2, 0, none⟩) (by show w.heap.size + 2 < _; omega)).trans f6
    have hBw : Below w.heap.size w W := hB1.trans (hB.mono (by omega))
    gi_wp2
    have hK' := (KeepsOthers.setCell W ⟨w.heap.size + 2, 0, none⟩ (.int .i64 (-1))).same D _ hK rfl
    refine ⟨by simp, .inl ⟨_, _, rfl, run_takeDeferred hK', ?_⟩⟩
    have hc5 := cell_kept (World.cell?_setCell_same' W ⟨w.heap.size + 2, 0, none⟩ (.int .i64 (-1)) (by rw [d6]; rfl)) (grownBy_putObj' _ D (.deferred none)) (fun r e => by cases e; exact ⟨_, hK', rfl⟩)
    refine ⟨.int .i64 (-1), ?_, ?_, (hBw.setCell (p := ⟨w.heap.size + 2, 0, none⟩) (by show w.heap.size ≤ w.heap.size + 2; omega) _).trans (belowK_b (w := w) (Nat.le_refl _) _ D _ _ (by omega) hK' rfl rfl)⟩
    · simp [results, Tryz.f73, go_sem, hc5]
    · rw [nearF_none is _ opn opn.length fun j hj => upto_all (p := fun y => is y = false ∧ ws.contains y = false) (Nat.le_refl _) hne j (by omega) hj]
  case stop =>
    rintro D c pre W hD ⟨k, hk, rfl⟩ ⟨⟨rfl, ini, last, e1, e2, e3⟩, hB⟩ hK
    gi_wp2
    refine ⟨by simp, .inl ⟨_, _, rfl, run_takeDeferred hK, ?_⟩⟩
    obtain ⟨k', rfl⟩ : ∃ k', k = k' + 1 := by
      cases k with
      | zero => simp [upto] at e1
      | succ k' => exact ⟨k', rfl⟩
    rw [upto_succ] at e1
    obtain ⟨rfl, e5⟩ := List.append_inj' e1 rfl
    obtain rfl : backAt opn k' = last := by simpa using e5
    have hsk := nearF_skip is (fun x => ws.contains x) opn (opn.length - k') opn.length (by omega) fun j h1 h2 => upto_all (p := fun y => is y = false ∧ ws.contains y = false) (by omega) e2 j h1 h2
    have hend : Below w.heap.size w (W.putObj D (.deferred none)) := hB.trans (belowK_b (w := w) (Nat.le_refl _) W D _ _ (by omega) hK rfl rfl)
    rw [show opn.length - k' = (opn.length - 1 - k') + 1 by omega] at hsk
    rcases e3 with ⟨hi, hcr⟩ | ⟨hi, hm, hcr⟩
    · have hc5 := cell_kept hcr (grownBy_putObj' _ D (.deferred none)) (fun r e => by cases e; exact ⟨_, hK, rfl⟩)
      refine ⟨.int .i64 (backAt opn k').1, ?_, ?_, hend⟩
      · simp [results, Tryz.f73, go_sem, hc5]
      · have hi' : is (opn.getD (opn.length - 1 - k') []) = true := hi
        rw [hsk, nearF, if_pos hi']
        simp only [backAt]
        congr 2
        omega
    · have hc5 := cell_kept hcr (grownBy_putObj' _ D (.deferred none)) (fun r e => by cases e; exact ⟨_, hK, rfl⟩)
      refine ⟨.int .i64 (-1), ?_, ?_, hend⟩
      · simp [results, Tryz.f73, go_sem, hc5]
      · have hi' : is (opn.getD (opn.length - 1 - k') []) = false := hi
        have hm' : ws.contains (opn.getD (opn.length - 1 - k') []) = true := hm
        rw [hsk, nearF, hi', if_neg (by simp), if_pos hm']
end Go.Proofs.YtdpjmfipgkblfaaGreatDoor
