/- V, part 13: plans are right for whatever order. -/
import Derived.Test.YtoajalcngklenaaDoorV12
set_option linter.unusedSimpArgs false
set_option linter.unusedVariables false
namespace Go.V
open Go Go.RowKit
section
variable {P : Program} {T : Nat → TI} {E : Env} {N0 : Nat} {g0 : Gh} {w0 : World} {s : St} {a : Act} {w : World} {ops : Array Oper} {Q : Exit → Act → World → Prop}

theorem gAny_first (hQ : Plain Q) {full : Bool} {i : Nat} {oi : Oper} {v : Value} (hi : ops[i]? = some oi) (hgi : growOp oi.op = true) (hsel : ∀ (j : Nat) (o : Oper) cs b, ops[j]? = some o → o.op ≠ .select cs b) :
    ∀ (fuel : Nat) (listed : Array Bool) (a : Act) (w : World),
      (∀ j oj, ops[j]? = some oj → j ≠ i → listed.getD j true = false → (∀ e ∈ oj.after, Region.binds .any e = true → e.on ≠ i) → oi.apart ops oj = true ∧ (full = true ∨ growOp oj.op = true)) →
      i ∈ Region.ready .any ops listed → YieldsG P ops full w oi v a →
      gAny P ops Q fuel (listed.setIfInBounds i true) (a.put oi.dst v) w → gAny P ops Q (fuel + 1) listed a w := by
  intro fuel
  induction fuel with
  | zero =>
    intro listed a w _ hr hy H
    refine ⟨fun h => (by rw [h] at hr; cases hr), fun j hj => ?_⟩
    by_cases hji : j = i
    · subst hji; exact hy.gUp hi hgi H
    · have := ready_mono hj hji
      rw [H.1] at this
      cases this
  | succ fuel ih =>
    intro listed a w hfree hr hy H
    refine ⟨fun h => (by rw [h] at hr; cases hr), fun j hj => ?_⟩
    by_cases hji : j = i
    · subst hji; exact hy.gUp hi hgi H
    · have h1 := H.2 j (ready_mono hj hji)
      obtain ⟨hjun, oj, hoj, hall⟩ := mem_ready.1 hj
      have hnot : ∀ e ∈ oj.after, Region.binds .any e = true → e.on ≠ i := fun e he hb heq => by
        have h1 := hall e he hb
        have h0 := (mem_ready.1 hr).1
        rw [heq] at h1
        rcases Nat.lt_or_ge i listed.size with h' | h'
        · simp [h'] at h0 h1; rw [h0] at h1; cases h1
        · simp [Array.getElem?_eq_none h'] at h1
      obtain ⟨hap, hc⟩ := hfree j oj hoj hji hjun hnot
      have h2 := gUp_put hQ hoj hap (fun cs b => hsel i oi cs b hi) (fun cs b => hsel j oj cs b hoj) hc hy h1
      have hfree' : ∀ k ok, ops[k]? = some ok → k ≠ i → (listed.setIfInBounds j true).getD k true = false →
          (∀ e ∈ ok.after, Region.binds .any e = true → e.on ≠ i) → oi.apart ops ok = true ∧ (full = true ∨ growOp ok.op = true) := fun k ok hk hki hun hno => by
        refine hfree k ok hk hki ?_ hno
        by_cases hjk : j = k
        · subst hjk; exact hjun
        · rw [getD_set_ne true hjk] at hun; exact hun
      refine gUp_mono (fun a' w' h3 => ih (listed.setIfInBounds j true) a' w' hfree' (ready_mono hr (Ne.symm hji)) h3.1 ?_) h2
      rw [Array.setIfInBounds_comm _ _ hji]
      exact h3.2

/-- An operation that may be taken first comes to a value, and to a state. -/
theorem vcO_yields (hT : TOk P T) (hok : Ok E N0 g0 w0 s a w) {o : Oper} {K : St → Prop} (hp : pureOp o.op = true ∨ loadOp o.op = true) (h : vcO E P T ops.toList o K s) :
    ∃ v s', YieldsG P ops (pureOp o.op) w o v a ∧ K s' ∧ Ok E N0 g0 w0 s' (a.put o.dst v) w := by
  rcases vcO_cases hok h with ⟨hw, h⟩ | ⟨hw, h⟩
  · obtain ⟨g, hN, hS, r, hs⟩ := hok
    simp only [Array.toArray_toList] at hw
    by_cases hpu : pureOp o.op = true
    · obtain ⟨u, av, hr, hK, hi⟩ := pure_run hT hs hpu h
      exact ⟨u, _, .inl ⟨hw, fun w' _ => hr w'⟩, hK, g, hN, hS, r, hs.put _ hi⟩
    · obtain ⟨u, hr, ha⟩ := load_run hT r hs (hp.resolve_left hpu) h
      obtain ⟨av, H', hK, hok'⟩ := Ok.after hN hS r hs ha o.dst
      exact ⟨u, _, .inl ⟨hw, fun w' h' => hr w' (h'.resolve_left hpu)⟩, hK, hok'⟩
  · simp only [Array.toArray_toList] at hw
    exact ⟨undef, _, .inr ⟨hw, rfl⟩, h, hok.undef⟩

theorem vcO_gUp (hT : TOk P T) (hok : Ok E N0 g0 w0 s a w) {i : Nat} {o : Oper} (hi : ops[i]? = some o) {K : St → Prop} (h : vcO E P T ops.toList o K s)
    {next : Act → World → Prop} (hn : ∀ s a w, K s → Ok E N0 g0 w0 s a w → next a w) : gUp P ops Q i next a w := by
  unfold gUp
  simp only [hi]
  rcases vcO_cases hok h with ⟨hw, h⟩ | ⟨hw, h⟩ <;> simp only [Array.toArray_toList] at hw
  · rw [if_pos hw]
    obtain ⟨g, hN, hS, r, hs⟩ := hok
    split
    · rename_i hg
      obtain ⟨u, w', hr, hse, ha⟩ := grow_run hT r hs hg h
      obtain ⟨av, H', hK, hok'⟩ := Ok.after hN hS r hs ha o.dst
      exact ⟨u, w', hr, hse, hn _ _ _ hK hok'⟩
    · refine stOp_sound hT r hs h fun u w' ha => ?_
      obtain ⟨av, H', hK, hok'⟩ := Ok.after hN hS r hs ha o.dst
      exact hn _ _ _ hK hok'
  · rw [if_neg (by rw [hw]; simp)]
    exact hn _ _ _ h hok.undef

theorem calm_spec {listed : Array Bool} {i : Nat} (h : calmB ops listed i = true) : ∃ oi, ops[i]? = some oi ∧ (pureOp oi.op = true ∨ loadOp oi.op = true) ∧
    ∀ j oj, ops[j]? = some oj → j ≠ i → listed.getD j true = false → (∀ e ∈ oj.after, Region.binds .any e = true → e.on ≠ i) → oi.apart ops oj = true ∧ (pureOp oi.op = true ∨ growOp oj.op = true) := by
  unfold calmB at h
  split at h
  · cases h
  · rename_i oi hi
    simp only [Bool.and_eq_true, Bool.or_eq_true, List.all_eq_true, List.mem_range] at h
    refine ⟨oi, hi, h.1, fun j oj hj hne hun hno => ?_⟩
    have h1 := h.2 j (Array.getElem?_eq_some_iff.1 hj).1
    simp only [hj, Bool.or_eq_true, beq_iff_eq, hne, false_or, hun, Bool.false_eq_true] at h1
    rcases h1 with h1 | h1
    · obtain ⟨e, he, hb⟩ := Array.any_eq_true'.1 h1
      simp only [Bool.and_eq_true, beq_iff_eq] at hb
      exact absurd hb.2 (hno e he hb.1)
    · simpa [Bool.and_eq_true, Bool.or_eq_true] using h1

theorem grow_of {op : Op} (h : pureOp op = true ∨ loadOp op = true) : growOp op = true := by
  rcases h with h | h
  · cases op <;> simp [pureOp] at h <;> simp [growOp, pureOp, h]
  · cases op <;> simp [loadOp] at h; rfl

theorem plan_sound (hT : TOk P T) (hQ : Plain Q) (hsel : ∀ (j : Nat) (o : Oper) cs b, ops[j]? = some o → o.op ≠ .select cs b) : ∀ (p : Plan) {K : St → Prop}, (∀ s a w, K s → Ok E N0 g0 w0 s a w → Q .normal a w) →
    (∀ (listed : Array Bool) (fuel : Nat) (s : St) (a : Act) (w : World), planOk ops false p listed fuel = true → vcP E P T ops.toList false p K s → Ok E N0 g0 w0 s a w → gAny P ops Q fuel listed a w) ∧
    (∀ (listed : Array Bool) (fuel : Nat) (s : St) (a : Act) (w : World), planOk ops true p listed (fuel + 1) = true → vcP E P T ops.toList true p K s → Ok E N0 g0 w0 s a w → ∀ i ∈ p.heads, gUp P ops Q i (gAny P ops Q fuel (listed.setIfInBounds i true)) a w)
  | .done, K, hn => by
    refine ⟨fun listed fuel s a w hp h hok => ?_, fun listed fuel s a w hp h hok => by simp [planOk] at hp⟩
    simp only [planOk, List.isEmpty_iff] at hp
    simp only [vcP] at h
    cases fuel with
    | zero => exact ⟨hp, hn _ _ _ h hok⟩
    | succ n => exact ⟨fun _ => hn _ _ _ h hok, by rw [hp]; simp⟩
  | .nil, K, hn => by
    refine ⟨fun listed fuel s a w hp h hok => by simp [planOk] at hp, fun listed fuel s a w hp h hok i hi => by simp [Plan.heads] at hi⟩
  | .take i p, K, hn => by
    refine ⟨fun listed fuel s a w hp h hok => ?_, fun listed fuel s a w hp h hok => by simp [planOk] at hp⟩
    cases fuel with
    | zero => simp [planOk] at hp
    | succ n =>
      simp only [planOk, Bool.and_eq_true] at hp
      obtain ⟨⟨hr, hc⟩, hp⟩ := hp
      obtain ⟨oi, hi, hpl, hfree⟩ := calm_spec hc
      simp only [vcP, vcI, Array.getElem?_toList, hi] at h
      obtain ⟨v, s', hy, hK, hok'⟩ := vcO_yields hT hok hpl h
      exact gAny_first hQ hi (grow_of hpl) hsel n listed a w hfree (by simpa using hr) hy ((plan_sound hT hQ hsel p hn).1 _ _ _ _ _ hp hK hok')
  | .one i p, K, hn => by
    refine ⟨fun listed fuel s a w hp h hok => ?_, fun listed fuel s a w hp h hok => by simp [planOk] at hp⟩
    cases fuel with
    | zero => simp [planOk] at hp
    | succ n =>
      simp only [planOk, Bool.and_eq_true, beq_iff_eq] at hp
      obtain ⟨hr, hp⟩ := hp
      refine ⟨fun h0 => by rw [h0] at hr; simp at hr, fun j hj => ?_⟩
      rw [hr] at hj
      obtain rfl : j = i := by simpa using hj
      have hjr : j ∈ Region.ready .any ops listed := by rw [hr]; simp
      obtain ⟨_, oj, hoj, _⟩ := mem_ready.1 hjr
      simp only [vcP, vcI, Array.getElem?_toList, hoj] at h
      exact vcO_gUp hT hok hoj h fun s a w hK hok' => (plan_sound hT hQ hsel p hn).1 _ _ _ _ _ hp hK hok'
  | .fork i p q, K, hn => by
    constructor
    · intro listed fuel s a w hp h hok
      cases fuel with
      | zero => simp [planOk] at hp
      | succ n =>
        simp only [planOk, Bool.and_eq_true, beq_iff_eq] at hp
        obtain ⟨⟨hr, hp⟩, hq⟩ := hp
        refine ⟨fun h0 => by rw [h0] at hr; simp at hr, fun j hj => ?_⟩
        simp only [vcP] at h
        rw [hr] at hj
        rcases List.mem_cons.1 hj with rfl | hj
        · have hjr : j ∈ Region.ready .any ops listed := by rw [hr]; simp
          obtain ⟨_, oj, hoj, _⟩ := mem_ready.1 hjr
          have h := h.1
          simp only [vcI, Array.getElem?_toList, hoj] at h
          exact vcO_gUp hT hok hoj h fun s a w hK hok' => (plan_sound hT hQ hsel p hn).1 _ _ _ _ _ hp hK hok'
        · exact (plan_sound hT hQ hsel q hn).2 _ _ _ _ _ hq (h.2 K h.1) hok j hj
    · intro listed n s a w hp h hok j hj
      simp only [planOk, Bool.and_eq_true] at hp
      obtain ⟨hp, hq⟩ := hp
      simp only [vcP] at h
      rcases List.mem_cons.1 hj with rfl | hj
      · have h := h.1
        simp only [vcI] at h
        cases hoj : ops[j]? with
        | none => simp only [Array.getElem?_toList, hoj] at h
        | some oj =>
          simp only [Array.getElem?_toList, hoj] at h
          exact vcO_gUp hT hok hoj h fun s a w hK hok' => (plan_sound hT hQ hsel p hn).1 _ _ _ _ _ hp hK hok'
      · exact (plan_sound hT hQ hsel q hn).2 _ _ _ _ _ hq h.2 hok j hj

theorem Ok.drew (h : Ok E N0 g0 w0 s a w) : Ok E N0 g0 w0 s a { w with drawn := w.drawn + 1 } := by
  obtain ⟨g, hN, hS, r, hs⟩ := h
  have hd := RelH.drew (w' := { w with drawn := w.drawn + 1 }) r rfl rfl rfl rfl
  exact ⟨g, hN, hS.trans hd.2 hN, hd.1, hs.step r hd.2⟩

theorem draw_sound (hm : P.follows .mixedOrders = true) (hT : TOk P T) (hQ : Plain Q) {p : Plan} {K : St → Prop} (hn : ∀ s a w, K s → Ok E N0 g0 w0 s a w → Q .normal a w)
    (hs : Region.noSelect ops = true) (hp : planOk ops false p (Array.replicate ops.size false) ops.size = true) (h : vcP E P T ops.toList false p K s) (hok : Ok E N0 g0 w0 s a w) {id : Nat} : (Code.region id ops true).wp P Q a w :=
  wp_region_any hm (gAny_wpAny _ _ _ _ ((plan_sound hT hQ (Region.noSelect_spec hs) p hn).1 _ _ _ _ _ hp h hok.drew))
end
end Go.V
