/- V, part 13: plans are right for whatever order. V, part 14: the code of a function; loops; what a call of it meets. V, part 15: the rules by which simp goes through a function. V, part 16: what is said of a heap may be weakened, packed, frozen, named anew; contracts of the shelf as contracts of V. V, part 17: packing (a list that a box alone holds stands in it), freezing, naming anew. V, part 18: freezing a row; naming anew what goes on, forgetting the rest. V, part 19: rules for whole numbers that do not run over, and for bytes. -/
import Derived.Test.YtdpjmfipgkblfaaGreatDoorV12
import Derived.Attr
import Derived.Lib.LaidTab
section
set_option linter.unusedSimpArgs false
set_option linter.unusedVariables false
namespace Go.V
open Go Go.RowKit
section
variable {P : Program} {T : Nat → TI} {E : Env} {N0 : Nat} {g0 : Gh} {w0 : World} {s : St} {a : Act} {w : World} {ops : Array Oper} {Q : Exit → Act → World → Prop}

theorem gAny_first (hQ : Plain Q) {full : Bool} {i : Nat} {oi : Oper} {v : Value} {D : List Nat} (hi : ops[i]? = some oi) (hgi : growOp oi.op = true) (hsel : ∀ (j : Nat) (o : Oper) cs b, ops[j]? = some o → o.op ≠ .select cs b) :
    ∀ (fuel : Nat) (listed : Array Bool) (a : Act) (w : World),
      (∀ j ∈ D, j ≠ i ∧ listed.getD j true = false ∧ ∃ oj, ops[j]? = some oj ∧ ∃ e ∈ oj.after, Region.binds .any e = true ∧ (e.on = i ∨ e.on ∈ D)) →
      (∀ j oj, ops[j]? = some oj → j ≠ i → listed.getD j true = false → j ∉ D → oi.apart ops oj = true ∧ (full = true ∨ growOp oj.op = true)) →
      i ∈ Region.ready .any ops listed → YieldsG P ops full w oi v a →
      gAny P ops Q fuel (listed.setIfInBounds i true) (a.put oi.dst v) w → gAny P ops Q (fuel + 1) listed a w := by
  intro fuel
  induction fuel with
  | zero =>
    intro listed a w _ _ hr hy H
    refine ⟨fun h => (by rw [h] at hr; cases hr), fun j hj => ?_⟩
    by_cases hji : j = i
    · subst hji; exact hy.gUp hi hgi H
    · have := ready_mono hj hji
      rw [H.1] at this
      cases this
  | succ fuel ih =>
    intro listed a w hD hfree hr hy H
    refine ⟨fun h => (by rw [h] at hr; cases hr), fun j hj => ?_⟩
    by_cases hji : j = i
    · subst hji; exact hy.gUp hi hgi H
    · have h1 := H.2 j (ready_mono hj hji)
      obtain ⟨hjun, oj, hoj, hall⟩ := mem_ready.1 hj
      have hun : ∀ k, listed.getD k true = false → listed[k]? ≠ some true := fun k h0 h1 => by
        rcases Nat.lt_or_ge k listed.size with h' | h'
        · simp [h'] at h0 h1; rw [h0] at h1; cases h1
        · simp [Array.getElem?_eq_none h'] at h1
      have hjD : j ∉ D := fun hjd => by
        obtain ⟨_, _, oj', hoj', e, he, hb, hon⟩ := hD j hjd
        rw [hoj] at hoj'
        cases hoj'
        have h1 := hall e he hb
        have h2 : listed.getD e.on true = false := by
          rcases hon with h | h
          · rw [h]; exact (mem_ready.1 hr).1
          · exact (hD _ h).2.1
        rcases Nat.lt_or_ge e.on listed.size with h' | h'
        · simp [h'] at h2 h1; rw [h2] at h1; cases h1
        · simp [Array.getElem?_eq_none h'] at h1
      obtain ⟨hap, hc⟩ := hfree j oj hoj hji hjun hjD
      have h2 := gUp_put hQ hoj hap (fun cs b => hsel i oi cs b hi) (fun cs b => hsel j oj cs b hoj) hc hy h1
      have hfree' : ∀ k ok, ops[k]? = some ok → k ≠ i → (listed.setIfInBounds j true).getD k true = false →
          k ∉ D → oi.apart ops ok = true ∧ (full = true ∨ growOp ok.op = true) := fun k ok hk hki hun hno => by
        refine hfree k ok hk hki ?_ hno
        by_cases hjk : j = k
        · subst hjk; exact hjun
        · rw [getD_set_ne true hjk] at hun; exact hun
      have hD' : ∀ k ∈ D, k ≠ i ∧ (listed.setIfInBounds j true).getD k true = false ∧ ∃ ok, ops[k]? = some ok ∧ ∃ e ∈ ok.after, Region.binds .any e = true ∧ (e.on = i ∨ e.on ∈ D) := fun k hk => by
        obtain ⟨h3, h4, h5⟩ := hD k hk
        refine ⟨h3, ?_, h5⟩
        rw [getD_set_ne true (fun h : j = k => hjD (by rw [h]; exact hk))]
        exact h4
      refine gUp_mono (fun a' w' h3 => ih (listed.setIfInBounds j true) a' w' hD' hfree' (ready_mono hr (Ne.symm hji)) h3.1 ?_) h2
      rw [Array.setIfInBounds_comm _ _ hji]
      exact h3.2

/-- An operation that may be taken first comes to a value, and to a state. -/
theorem vcO_yields (hT : TOk P T) (hok : Ok E N0 g0 w0 s a w) {o : Oper} {K : St → Prop} (hp : pureOp o.op = true ∨ loadOp o.op = true) (h : vcO E P T ops.toList o K s) :
    ∃ v s', YieldsG P ops (pureOp o.op) w o v a ∧ K s' ∧ Ok E N0 g0 w0 s' (a.put o.dst v) w := by
  rcases vcO_cases hok h with ⟨hw, h⟩ | ⟨hw, h⟩
  · obtain ⟨g, hN, hS, r, hs⟩ := hok
    simp only [Array.toArray_toList] at hw
    by_cases hpu : pureOp o.op = true
    · obtain ⟨u, av, hr, hK, hi⟩ := pure_run hT hs hpu h
      exact ⟨u, _, .inl ⟨hw, fun w' _ => hr w'⟩, hK, g, hN, hS, r, hs.put _ hi⟩
    · obtain ⟨u, hr, ha⟩ := load_run hT r hs (hp.resolve_left hpu) h
      obtain ⟨av, H', hK, hok'⟩ := Ok.after hN hS r hs ha o.dst
      exact ⟨u, _, .inl ⟨hw, fun w' h' => hr w' (h'.resolve_left hpu)⟩, hK, hok'⟩
  · simp only [Array.toArray_toList] at hw
    exact ⟨undef, _, .inr ⟨hw, rfl⟩, h, hok.undef⟩

theorem vcO_gUp (hT : TOk P T) (hok : Ok E N0 g0 w0 s a w) {i : Nat} {o : Oper} (hi : ops[i]? = some o) {K : St → Prop} (h : vcO E P T ops.toList o K s)
    {next : Act → World → Prop} (hn : ∀ s a w, K s → Ok E N0 g0 w0 s a w → next a w) : gUp P ops Q i next a w := by
  unfold gUp
  simp only [hi]
  rcases vcO_cases hok h with ⟨hw, h⟩ | ⟨hw, h⟩ <;> simp only [Array.toArray_toList] at hw
  · rw [if_pos hw]
    obtain ⟨g, hN, hS, r, hs⟩ := hok
    split
    · rename_i hg
      obtain ⟨u, w', hr, hse, ha⟩ := grow_run hT r hs hg h
      obtain ⟨av, H', hK, hok'⟩ := Ok.after hN hS r hs ha o.dst
      exact ⟨u, w', hr, hse, hn _ _ _ hK hok'⟩
    · refine stOp_sound hT r hs h fun u w' ha => ?_
      obtain ⟨av, H', hK, hok'⟩ := Ok.after hN hS r hs ha o.dst
      exact hn _ _ _ hK hok'
  · rw [if_neg (by rw [hw]; simp)]
    exact hn _ _ _ h hok.undef

theorem calm_spec {listed : Array Bool} {i : Nat} (h : calmB ops listed i = true) : ∃ oi, ops[i]? = some oi ∧ (pureOp oi.op = true ∨ loadOp oi.op = true) ∧ ∃ D : List Nat,
    (∀ j ∈ D, j ≠ i ∧ listed.getD j true = false ∧ ∃ oj, ops[j]? = some oj ∧ ∃ e ∈ oj.after, Region.binds .any e = true ∧ (e.on = i ∨ e.on ∈ D)) ∧
    ∀ j oj, ops[j]? = some oj → j ≠ i → listed.getD j true = false → j ∉ D → oi.apart ops oj = true ∧ (pureOp oi.op = true ∨ growOp oj.op = true) := by
  unfold calmB at h
  split at h
  · cases h
  · rename_i oi hi
    simp only [Bool.and_eq_true, Bool.or_eq_true, List.all_eq_true, List.mem_range] at h
    refine ⟨oi, hi, h.1.1, behind ops listed i, fun j hj => ?_, fun j oj hj hne hun hno => ?_⟩
    · have h1 := h.1.2 j hj
      obtain ⟨⟨h2, h3⟩, h4⟩ := h1
      refine ⟨by simpa using h2, by simpa using h3, ?_⟩
      split at h4
      · rename_i oj hoj
        obtain ⟨e, he, hb⟩ := Array.any_eq_true'.1 h4
        simp only [Bool.and_eq_true, Bool.or_eq_true, beq_iff_eq, List.contains_iff_mem] at hb
        exact ⟨oj, hoj, e, he, hb.1, hb.2⟩
      · cases h4
    · have h1 := h.2 j (Array.getElem?_eq_some_iff.1 hj).1
      have hno' : (behind ops listed i).contains j = false := by
        cases hc : (behind ops listed i).contains j
        · rfl
        · exact absurd (List.contains_iff_mem.1 hc) hno
      simp only [hj, Bool.or_eq_true, beq_iff_eq, hne, false_or, hun, Bool.false_eq_true, hno'] at h1
      simpa [Bool.and_eq_true, Bool.or_eq_true] using h1

theorem grow_of {op : Op} (h : pureOp op = true ∨ loadOp op = true) : growOp op = true := by
  rcases h with h | h
  · cases op <;> simp [pureOp] at h <;> simp [growOp, pureOp, h]
  · cases op <;> simp [loadOp] at h; rfl

theorem plan_sound (hT : TOk P T) (hQ : Plain Q) (hsel : ∀ (j : Nat) (o : Oper) cs b, ops[j]? = some o → o.op ≠ .select cs b) : ∀ (p : Plan) {K : St → Prop}, (∀ s a w, K s → Ok E N0 g0 w0 s a w → Q .normal a w) →
    (∀ (listed : Array Bool) (fuel : Nat) (s : St) (a : Act) (w : World), planOk ops false p listed fuel = true → vcP E P T ops.toList false p K s → Ok E N0 g0 w0 s a w → gAny P ops Q fuel listed a w) ∧
    (∀ (listed : Array Bool) (fuel : Nat) (s : St) (a : Act) (w : World), planOk ops true p listed (fuel + 1) = true → vcP E P T ops.toList true p K s → Ok E N0 g0 w0 s a w → ∀ i ∈ p.heads, gUp P ops Q i (gAny P ops Q fuel (listed.setIfInBounds i true)) a w)
  | .done, K, hn => by
    refine ⟨fun listed fuel s a w hp h hok => ?_, fun listed fuel s a w hp h hok => by simp [planOk] at hp⟩
    simp only [planOk, List.isEmpty_iff] at hp
    simp only [vcP] at h
    cases fuel with
    | zero => exact ⟨hp, hn _ _ _ h hok⟩
    | succ n => exact ⟨fun _ => hn _ _ _ h hok, by rw [hp]; simp⟩
  | .nil, K, hn => by
    refine ⟨fun listed fuel s a w hp h hok => by simp [planOk] at hp, fun listed fuel s a w hp h hok i hi => by simp [Plan.heads] at hi⟩
  | .take i p, K, hn => by
    refine ⟨fun listed fuel s a w hp h hok => ?_, fun listed fuel s a w hp h hok => by simp [planOk] at hp⟩
    cases fuel with
    | zero => simp [planOk] at hp
    | succ n =>
      simp only [planOk, Bool.and_eq_true] at hp
      obtain ⟨⟨hr, hc⟩, hp⟩ := hp
      obtain ⟨oi, hi, hpl, D, hD, hfree⟩ := calm_spec hc
      simp only [vcP, vcI, Array.getElem?_toList, hi] at h
      obtain ⟨v, s', hy, hK, hok'⟩ := vcO_yields hT hok hpl h
      exact gAny_first hQ hi (grow_of hpl) hsel n listed a w hD hfree (by simpa using hr) hy ((plan_sound hT hQ hsel p hn).1 _ _ _ _ _ hp hK hok')
  | .one i p, K, hn => by
    refine ⟨fun listed fuel s a w hp h hok => ?_, fun listed fuel s a w hp h hok => by simp [planOk] at hp⟩
    cases fuel with
    | zero => simp [planOk] at hp
    | succ n =>
      simp only [planOk, Bool.and_eq_true, beq_iff_eq] at hp
      obtain ⟨hr, hp⟩ := hp
      refine ⟨fun h0 => by rw [h0] at hr; simp at hr, fun j hj => ?_⟩
      rw [hr] at hj
      obtain rfl : j = i := by simpa using hj
      have hjr : j ∈ Region.ready .any ops listed := by rw [hr]; simp
      obtain ⟨_, oj, hoj, _⟩ := mem_ready.1 hjr
      simp only [vcP, vcI, Array.getElem?_toList, hoj] at h
      exact vcO_gUp hT hok hoj h fun s a w hK hok' => (plan_sound hT hQ hsel p hn).1 _ _ _ _ _ hp hK hok'
  | .fork i p q, K, hn => by
    constructor
    · intro listed fuel s a w hp h hok
      cases fuel with
      | zero => simp [planOk] at hp
      | succ n =>
        simp only [planOk, Bool.and_eq_true, beq_iff_eq] at hp
        obtain ⟨⟨hr, hp⟩, hq⟩ := hp
        refine ⟨fun h0 => by rw [h0] at hr; simp at hr, fun j hj => ?_⟩
        simp only [vcP] at h
        rw [hr] at hj
        rcases List.mem_cons.1 hj with rfl | hj
        · have hjr : j ∈ Region.ready .any ops listed := by rw [hr]; simp
          obtain ⟨_, oj, hoj, _⟩ := mem_ready.1 hjr
          have h := h.1
          simp only [vcI, Array.getElem?_toList, hoj] at h
          exact vcO_gUp hT hok hoj h fun s a w hK hok' => (plan_sound hT hQ hsel p hn).1 _ _ _ _ _ hp hK hok'
        · exact (plan_sound hT hQ hsel q hn).2 _ _ _ _ _ hq h.2 hok j hj
    · intro listed n s a w hp h hok j hj
      simp only [planOk, Bool.and_eq_true] at hp
      obtain ⟨hp, hq⟩ := hp
      simp only [vcP] at h
      rcases List.mem_cons.1 hj with rfl | hj
      · have h := h.1
        simp only [vcI] at h
        cases hoj : ops[j]? with
        | none => simp only [Array.getElem?_toList, hoj] at h
        | some oj =>
          simp only [Array.getElem?_toList, hoj] at h
          exact vcO_gUp hT hok hoj h fun s a w hK hok' => (plan_sound hT hQ hsel p hn).1 _ _ _ _ _ hp hK hok'
      · exact (plan_sound hT hQ hsel q hn).2 _ _ _ _ _ hq h.2 hok j hj

theorem Ok.drew (h : Ok E N0 g0 w0 s a w) : Ok E N0 g0 w0 s a { w with drawn := w.drawn + 1 } := by
  obtain ⟨g, hN, hS, r, hs⟩ := h
  have hd := RelH.drew (w' := { w with drawn := w.drawn + 1 }) r rfl rfl rfl rfl
  exact ⟨g, hN, hS.trans hd.2 hN, hd.1, hs.step r hd.2⟩

theorem draw_sound (hm : P.follows .mixedOrders = true) (hT : TOk P T) (hQ : Plain Q) {p : Plan} {K : St → Prop} (hn : ∀ s a w, K s → Ok E N0 g0 w0 s a w → Q .normal a w)
    (hs : Region.noSelect ops = true) (hp : planOk ops false p (Array.replicate ops.size false) ops.size = true) (h : vcP E P T ops.toList false p K s) (hok : Ok E N0 g0 w0 s a w) {id : Nat} : (Code.region id ops true).wp P Q a w :=
  wp_region_any hm (gAny_wpAny _ _ _ _ ((plan_sound hT hQ (Region.noSelect_spec hs) p hn).1 _ _ _ _ _ hp h hok.drew))
end
end Go.V
end

section
set_option linter.unusedSimpArgs false
set_option linter.unusedVariables false
namespace Go.V
open Go Go.RowKit

inductive Ex where
  | normal
  | exit (id : Nat)
  | ret
abbrev Cont := Ex → St → Prop
def exThen (n : St → Prop) (K : Cont) (_ : Tk n := tk) (_ : Tk K := tk) : Cont := fun e s => match e with
  | .normal => n s
  | .exit i => K (.exit i) s
  | .ret => K .ret s
def exBlock (id : Nat) (K : Cont) (_ : Tk K := tk) : Cont := fun e s => match e with
  | .normal => K .normal s
  | .exit i => if i = id then K .normal s else K (.exit i) s
  | .ret => K .ret s

/-- What goes over from one state to another: the second says no more. -/
def Goes (E : Env) (N0 : Nat) (s s' : St) : Prop := ∀ g0 w0 a w, Ok E N0 g0 w0 s a w → Ok E N0 g0 w0 s' a w
theorem Goes.refl (E : Env) (N0 : Nat) (s : St) : Goes E N0 s s := fun _ _ _ _ h => h
theorem Goes.trans {E : Env} {N0 : Nat} {s s' s'' : St} (h : Goes E N0 s s') (h' : Goes E N0 s' s'') : Goes E N0 s s'' := fun g0 w0 a w hok => h' g0 w0 a w (h g0 w0 a w hok)

/-- Back at the loop's head, with less to go. -/
def Back (E : Env) (N0 : Nat) {α : Type} (Iv : α → Prop) (μ : α → Nat) (f : α → St) (x : α) (s : St) (_ : Tk Iv := tk) (_ : Tk μ := tk) (_ : Tk f := tk) : Prop := ∃ y, (Iv y ∧ μ y < μ x) ∧ Goes E N0 s (f y)
theorem Back.mk {E : Env} {N0 : Nat} {α : Type} {Iv : α → Prop} {μ : α → Nat} {f : α → St} {x : α} {s : St} (y : α) (h : Iv y ∧ μ y < μ x) (hg : Goes E N0 s (f y)) : Back E N0 Iv μ f x s := ⟨y, h, hg⟩
/-- A loop: an invariant with a measure that falls. -/
def Loops (E : Env) (N0 : Nat) (body : Cont → St → Prop) (K : Cont) (s : St) (_ : Tk body := tk) (_ : Tk K := tk) : Prop :=
  ∃ (α : Type) (Iv : α → Prop) (μ : α → Nat) (f : α → St) (x0 : α), Iv x0 ∧ Goes E N0 s (f x0) ∧ ∀ x, Iv x → body (bx2 (exThen (fun s' => Back E N0 Iv μ f x s') K)) (f x)

structure Cx where
  E : Env
  P : Program
  T : Nat → TI
  N0 : Nat
  plan : Nat → Plan

def vc (X : Cx) : Code → Cont → St → Prop
  | .skip, K, s => K .normal s
  | .region id ops draw, K, s => match draw with
    | true => vcP X.E X.P X.T ops.toList false (X.plan id) (bx fun s => K .normal s) s
    | false => vcL X.E X.P X.T ops.toList ops.toList (bx fun s => K .normal s) s
  | .seq a b, K, s => vc X a (bx2 (exThen (fun s => vc X b K s) K)) s
  | .cond c a b, K, s => match s.ev c with
    | .s (.c (.bool t)) => condP t (vc X a K s) (vc X b K s)
    | _ => False
  | .block id b, K, s => vc X b (bx2 (exBlock id K)) s
  | .loop b, K, s => Loops X.E X.N0 (vc X b) K s
  | .exit id, K, s => K (.exit id) s
  | .ret, K, s => K .ret s
  | _, _, _ => False

/-- The plans fit the regions. -/
def plansOk (plan : Nat → Plan) : Code → Bool
  | .region id ops true => Region.noSelect ops && planOk ops false (plan id) (Array.replicate ops.size false) ops.size
  | .seq a b => plansOk plan a && plansOk plan b
  | .cond _ a b => plansOk plan a && plansOk plan b
  | .block _ b => plansOk plan b
  | .loop b => plansOk plan b
  | _ => true

def QOf (E : Env) (N0 : Nat) (g0 : Gh) (w0 : World) (K : Cont) : Exit → Act → World → Prop
  | .normal, a, w => ∃ s, K .normal s ∧ Ok E N0 g0 w0 s a w
  | .exit i, a, w => ∃ s, K (.exit i) s ∧ Ok E N0 g0 w0 s a w
  | .ret, a, w => ∃ s, K .ret s ∧ Ok E N0 g0 w0 s a w
  | _, _, _ => False
theorem QOf.plain (E : Env) (N0 : Nat) (g0 : Gh) (w0 : World) (K : Cont) : Plain (QOf E N0 g0 w0 K) := ⟨fun _ _ _ h => h, fun ⟨_, _, h⟩ => h⟩

theorem wp_loop_n {P : Program} {Q : Exit → Act → World → Prop} {c : Code} (I : Nat → Act → World → Prop)
    (round : ∀ n a w, I n a w → c.wp P (Exit.then (fun a' w' => ∃ m, m < n ∧ I m a' w') Q) a w) {n : Nat} {a : Act} {w : World} (h₀ : I n a w) : (Code.loop c).wp P Q a w := by
  intro b k cs
  have key : ∀ n a w, I n a w → ∃ e a' w', Q e a' w' ∧ Arrives P (lone (b.at a (.code c :: .inLoop c :: k)) cs w) b k cs e a' w' := by
    intro n
    induction n using Nat.strongRecOn with
    | _ n ih =>
      intro a w hI
      obtain ⟨e, a₁, w₁, hq, harr⟩ := round n a w hI b (.inLoop c :: k) cs
      cases e with
      | normal =>
        obtain ⟨m, hlt, hI₁⟩ := hq
        obtain ⟨e₂, a₂, w₂, hq₂, harr₂⟩ := ih m hlt a₁ w₁ hI₁
        exact ⟨e₂, a₂, w₂, hq₂, .of_steps (Steps.trans harr (.one step_inLoop)) harr₂⟩
      | exit id => exact ⟨_, a₁, w₁, hq, .pass (x := .inLoop c) rfl (fun _ _ => .inl (by simp)) harr⟩
      | goto l => exact ⟨_, a₁, w₁, hq, .pass (x := .inLoop c) rfl (fun _ _ => .inl (by simp)) harr⟩
      | ret => exact ⟨_, a₁, w₁, hq, .pass (x := .inLoop c) rfl (fun _ _ => .inl (by simp)) harr⟩
      | panic ch => exact ⟨_, a₁, w₁, hq, .pass (x := .inLoop c) rfl (fun _ _ => .inl (by simp)) harr⟩
      | outgrown => exact ⟨_, a₁, w₁, hq, .pass (x := .inLoop c) rfl (fun _ _ => .inl (by simp)) harr⟩
  obtain ⟨e, a', w', hq, harr⟩ := key n a w h₀
  exact ⟨e, a', w', hq, .of_steps (.one step_loop) harr⟩

theorem vc_sound {X : Cx} (hm : X.P.follows .mixedOrders = true) (hT : TOk X.P X.T) {g0 : Gh} {w0 : World} : ∀ (c : Code) {K : Cont} {s : St} {a : Act} {w : World}, plansOk X.plan c = true → vc X c K s → Ok X.E X.N0 g0 w0 s a w → c.wp X.P (QOf X.E X.N0 g0 w0 K) a w
  | .skip, K, s, a, w, _, h, hok => wp_skip ⟨s, h, hok⟩
  | .region id ops draw, K, s, a, w, hp, h, hok => by
    cases draw with
    | false =>
      simp only [vc] at h
      have := vcL_sound (Q := QOf X.E X.N0 g0 w0 K) (g0 := g0) (w0 := w0) (N0 := X.N0) hT (K := fun s => K .normal s) (fun s a w hK hok => ⟨s, hK, hok⟩) ops.toList s a w h hok
      exact wp_region_list (by simpa using this)
    | true =>
      simp only [vc] at h
      simp only [plansOk, Bool.and_eq_true] at hp
      exact draw_sound hm hT (QOf.plain _ _ _ _ _) (K := fun s => K .normal s) (fun s a w hK hok => ⟨s, hK, hok⟩) hp.1 hp.2 h hok
  | .seq x y, K, s, a, w, hp, h, hok => by
    simp only [plansOk, Bool.and_eq_true] at hp
    refine wp_seq (wp_mono (vc_sound hm hT x hp.1 h hok) fun e a w hq => ?_)
    cases e with
    | normal => obtain ⟨s', hs', hok'⟩ := hq; exact vc_sound hm hT y hp.2 hs' hok'
    | exit i => exact hq
    | ret => exact hq
    | goto l => exact hq.elim
    | panic c => exact hq.elim
    | outgrown => exact hq.elim
  | .cond c x y, K, s, a, w, hp, h, hok => by
    simp only [plansOk, Bool.and_eq_true] at hp
    simp only [vc] at h
    split at h
    · rename_i t ht
      obtain ⟨g, hN, hS, r, hs⟩ := hok
      have hc : a.eval c = .bool t := by
        have := hs.ev c
        rw [ht] at this
        exact this
      refine wp_cond hc ?_
      cases t
      · exact vc_sound hm hT y hp.2 h ⟨g, hN, hS, r, hs⟩
      · exact vc_sound hm hT x hp.1 h ⟨g, hN, hS, r, hs⟩
    · exact h.elim
  | .block id b, K, s, a, w, hp, h, hok => by
    refine wp_block (wp_mono (vc_sound hm hT b (by simpa [plansOk] using hp) h hok) fun e a w hq => ?_)
    cases e with
    | normal => exact hq
    | exit i =>
      obtain ⟨s', hs', hok'⟩ := hq
      simp only [bx2_app, exBlock] at hs'
      simp only [Exit.inBlock]
      split
      · rename_i hi
        rw [if_pos hi] at hs'
        exact ⟨s', hs', hok'⟩
      · rename_i hi
        rw [if_neg hi] at hs'
        exact ⟨s', hs', hok'⟩
    | ret => exact hq
    | goto l => exact hq.elim
    | panic c => exact hq.elim
    | outgrown => exact hq.elim
  | .loop b, K, s, a, w, hp, h, hok => by
    simp only [vc, Loops] at h
    obtain ⟨α, Iv, μ, f, x0, hI, hgo, hstep⟩ := h
    refine wp_loop_n (fun n a w => ∃ x, μ x = n ∧ Iv x ∧ Ok X.E X.N0 g0 w0 (f x) a w) (fun n a w ⟨x, hn, hI, hok⟩ => ?_) (n := μ x0) ⟨x0, rfl, hI, hgo _ _ _ _ hok⟩
    refine wp_mono (vc_sound hm hT b (by simpa [plansOk] using hp) (hstep x hI) hok) fun e a w hq => ?_
    cases e with
    | normal =>
      obtain ⟨s', ⟨y, ⟨hI', hm'⟩, hgo⟩, hok'⟩ := hq
      exact ⟨μ y, hn ▸ hm', y, rfl, hI', hgo _ _ _ _ hok'⟩
    | exit i => exact hq
    | ret => exact hq
    | goto l => exact hq.elim
    | panic c => exact hq.elim
    | outgrown => exact hq.elim
  | .exit id, K, s, a, w, _, h, hok => wp_exit ⟨s, h, hok⟩
  | .ret, K, s, a, w, _, h, hok => wp_ret ⟨s, h, hok⟩

/-! ### loops -/
def sets : List AV → List (Nat × AV) → List AV
  | l, [] => l
  | l, (k, v) :: u => sets (setn l k v) u
def badsO : List Oper → List AV → List AV
  | [], l => l
  | o :: os, l => badsO os (put l o.dst .bad)
/-- What a code may write is forgotten. -/
def bads : Code → List AV → List AV
  | .region _ ops _, l => badsO ops.toList l
  | .seq a b, l => bads b (bads a l)
  | .cond _ a b, l => bads b (bads a l)
  | .block _ b, l => bads b l
  | .loop b, l => bads b l
  | _, l => l
def AvLe (a b : AV) : Prop := ∀ g w v, a.Is g w v → b.Is g w v
theorem AvLe.same {a b : AV} (h : a = b) : AvLe a b := fun _ _ _ hi => h ▸ hi
def SlotsLe : List AV → List AV → Prop
  | [], [] => True
  | a :: l, b :: m => AvLe a b ∧ SlotsLe l m
  | _, _ => False
theorem AvLe.is {g : Gh} {w : World} {a b : AV} {v : Value} (h : AvLe a b) (ha : a.Is g w v) : b.Is g w v := h g w v ha
theorem SlotsLe.is {g : Gh} {w : World} : ∀ {l m : List AV} {us : List Value}, SlotsLe l m → F2 (AV.Is g w) l us → F2 (AV.Is g w) m us
  | [], [], _, _, h => h
  | a :: l, b :: m, u :: us, h, hu => ⟨h.1.is hu.1, SlotsLe.is h.2 hu.2⟩
theorem Goes.slots {E : Env} {N0 : Nat} {l l' : List AV} {H H' : List Ent} (h : SlotsLe l l') (hH : H = H') : Goes E N0 ⟨l, H⟩ ⟨l', H'⟩ := by
  subst hH
  rintro g0 w0 a w ⟨g, hN, hS, r, hs⟩
  exact ⟨g, hN, hS, r, hs.1, h.is hs.2⟩

/-- A loop over a state x: its invariant, its measure, the slots and the heap that hang on it. -/
theorem Loops.on {E : Env} {P : Program} {T : Nat → TI} {N0 : Nat} {plan : Nat → Plan} {b : Code} {K : Cont} {s : St} {α : Type} (Iv : α → Prop) (μ : α → Nat) (U : α → List (Nat × AV)) (Hp : α → List Ent) (x0 : α)
    (h0 : Iv x0) (hgo : Goes E N0 s ⟨sets (bads b s.tmps) (U x0), Hp x0⟩)
    (hs : ∀ x, Iv x → vc ⟨E, P, T, N0, plan⟩ b (bx2 (exThen (fun s' => Back E N0 Iv μ (fun y => ⟨sets (bads b s.tmps) (U y), Hp y⟩) x s') K)) ⟨sets (bads b s.tmps) (U x), Hp x⟩) :
    Loops E N0 (vc ⟨E, P, T, N0, plan⟩ b) K s := ⟨α, Iv, μ, fun x => ⟨sets (bads b s.tmps) (U x), Hp x⟩, x0, h0, hgo, hs⟩

/-! ### a function's end -/
/-- What a result and a heap may be taken for, at a function's end. -/
def Ends (E : Env) (N0 : Nat) (v : AV) (H : List Ent) (v' : AV) (H' : List Ent) : Prop :=
  ∀ g0 w0 g w r, N0 ≤ H.length → Step N0 g0 w0 g w → RelH E g H w → v.Is g w r → ∃ g', N0 ≤ H'.length ∧ Step N0 g0 w0 g' w ∧ RelH E g' H' w ∧ v'.Is g' w r
theorem Ends.refl (E : Env) (N0 : Nat) (v : AV) (H : List Ent) : Ends E N0 v H v H := fun _ _ g _ _ hN hS r hv => ⟨g, hN, hS, r, hv⟩
theorem Ends.trans {E : Env} {N0 : Nat} {v v' v'' : AV} {H H' H'' : List Ent} (h : Ends E N0 v H v' H') (h' : Ends E N0 v' H' v'' H'') : Ends E N0 v H v'' H'' := fun g0 w0 g w r hN hS hr hv => by
  obtain ⟨g', hN', hS', hr', hv'⟩ := h g0 w0 g w r hN hS hr hv
  exact h' g0 w0 g' w r hN' hS' hr' hv'
def Fin (E : Env) (N0 : Nat) (post : AV → List Ent → Prop) (v : AV) (H : List Ent) (_ : Tk post := tk) : Prop := ∃ v' H', Ends E N0 v H v' H' ∧ post v' H'
theorem Fin.now {E : Env} {N0 : Nat} {post : AV → List Ent → Prop} {v : AV} {H : List Ent} (h : post v H) : Fin E N0 post v H := ⟨v, H, Ends.refl _ _ _ _, h⟩

def resP (T : Nat → TI) : List ResultVar → St → (List SV → List Ent → Prop) → Prop
  | [], s, K => K [] s.heap
  | .tmp t :: l, s, K => match nth s.tmps t with
    | .s v => resP T l s (bx2 fun vs H => K (v :: vs) H)
    | _ => False
  | .cell a t :: l, s, K => loadP T t (nth s.tmps a) s.heap (bx2 fun v H => match v with
    | .s v => resP T l ⟨s.tmps, H⟩ (bx2 fun vs H => K (v :: vs) H)
    | _ => False)
def oneP (post : AV → List Ent → Prop) (vs : List SV) (H : List Ent) : Prop :=
  match vs with
  | [v] => post (.s v) H
  | vs => post (.tup vs) H
def resultP (T : Nat → TI) (rs : List ResultVar) (s : St) (post : AV → List Ent → Prop) : Prop := resP T rs s (bx2 (oneP post))

theorem resP_sound {P : Program} {T : Nat → TI} {E : Env} {w : World} {a : Act} (hT : TOk P T) : ∀ (rs : List ResultVar) {K : List SV → List Ent → Prop} {s : St} {g : Gh}, RelH E g s.heap w → Slots g w s.tmps a → resP T rs s K →
    ∃ us vs g' H', (rs.mapM fun (x : ResultVar) => match x with
      | .tmp t => (pure (a.tmps.getD t undef) : Sem Value)
      | .cell b t => do loadVar t (← asAddr (a.tmps.getD b undef))).run P w = .ok us w ∧ K vs H' ∧ s.heap.length ≤ H'.length ∧ RelH E g' H' w ∧ Step s.heap.length g w g' w ∧ F2 (SV.Is g' w) vs us
  | [], K, s, g, r, hs, h => ⟨[], [], g, s.heap, rfl, h, Nat.le_refl _, r, Step.refl _ _ _, trivial⟩
  | .tmp t :: l, K, s, g, r, hs, h => by
    simp only [resP] at h
    split at h
    · rename_i v hv
      obtain ⟨us, vs, g', H', hr, hK, hl, hR, hS, hF⟩ := resP_sound hT l r hs h
      have hi := hs.ev (.tmp t)
      simp only [St.ev, hv] at hi
      have hi' : v.Is g' w (a.tmps.getD t undef) := SV.Is.mono hS.imm (r.ext hS.name) hi
      exact ⟨a.tmps.getD t undef :: us, _ :: vs, g', H', by simp only [List.mapM_cons, Sem.run_bind, Sem.run_pure, Result.andThen_ok, hr], hK, hl, hR, hS, hi', hF⟩
    · exact h.elim
  | .cell b t :: l, K, s, g, r, hs, h => by
    simp only [resP] at h
    have hi := hs.ev (.tmp b)
    obtain ⟨u, hr, g1, H1, av, hK, hl1, hR1, hS1, hia⟩ := loadP_sound hT r hi h
    simp only [bx2_app] at hK
    split at hK
    · rename_i v
      obtain ⟨us, vs, g', H', hr', hK', hl, hR, hS, hF⟩ := resP_sound (s := ⟨s.tmps, H1⟩) hT l hR1 (hs.step r hS1) hK
      have hi' : v.Is g' w u := SV.Is.mono hS.imm (hR1.ext hS.name) hia
      refine ⟨u :: us, v :: vs, g', H', ?_, hK', Nat.le_trans hl1 hl, hR, hS1.trans hS hl1, hi', hF⟩
      have h1 := hr w (sees_refl w)
      have hp : ∃ ad, a.eval (.tmp b) = .pointer (some ad) := by
        have h0 := h.2
        simp only [St.ev] at hi
        split at h0
        · rename_i n k j hx
          rw [hx] at hi
          obtain ⟨p, _, hp⟩ := hi
          exact ⟨_, hp⟩
        · rename_i wd n cell k j hx
          rw [hx] at hi
          obtain ⟨b, o, hp, _⟩ := hi
          exact ⟨_, hp⟩
        · exact h0.elim
      obtain ⟨ad, had⟩ := hp
      rw [had] at h1
      have had' : a.tmps.getD b undef = .pointer (some ad) := had
      have h2 : (loadVar t ad).run P w = .ok u w := h1
      have h3 : (asAddr (a.tmps.getD b undef)).run P w = .ok ad w := by rw [had']; rfl
      simp only [List.mapM_cons, Sem.run_bind, Sem.run_pure, h3, Result.andThen_ok, h2, hr']
    · exact hK.elim

theorem resultP_sound {P : Program} {T : Nat → TI} {E : Env} {g : Gh} {w : World} {s : St} {a : Act} (hT : TOk P T) (r : RelH E g s.heap w) (hs : Slots g w s.tmps a) {fn : Func} {post : AV → List Ent → Prop} (h : resultP T fn.results.toList s post) :
    ∃ u v g' H', (results fn a.tmps).run P w = .ok u w ∧ post v H' ∧ s.heap.length ≤ H'.length ∧ RelH E g' H' w ∧ Step s.heap.length g w g' w ∧ v.Is g' w u := by
  obtain ⟨us, vs, g', H', hr, hK, hl, hR, hS, hF⟩ := resP_sound hT _ r hs h
  unfold results
  rw [Array.mapM_eq_mapM_toList]
  have hrun : ∀ f : ResultVar → Sem Value, (∀ x, f x = (match x with
      | .tmp t => (pure (a.tmps.getD t undef) : Sem Value)
      | .cell b t => do loadVar t (← asAddr (a.tmps.getD b undef)))) → (fn.results.toList.mapM f).run P w = .ok us w := fun f hf => by rw [show f = _ from funext hf]; exact hr
  simp only [Sem.run_bind, Sem.run_map]
  rw [hrun _ (fun x => by cases x <;> rfl)]
  simp only [Result.andThen_ok, Sem.run_pure]
  simp only [bx2_app, oneP] at hK
  split at hK
  · rename_i v
    match us, hF with
    | [u], hF => exact ⟨u, .s v, g', H', by simp, hK, hl, hR, hS, hF.1⟩
  · rename_i hne
    refine ⟨.tuple us.toArray, .tup vs, g', H', ?_, hK, hl, hR, hS, us, rfl, hF⟩
    have : ¬ (us.toArray.size = 1) := fun h1 => by
      have hl := hF.length
      simp at h1
      rw [h1] at hl
      match vs, hl with
      | [v], _ => exact hne v rfl
    rw [dif_neg this]

def exits (E : Env) (T : Nat → TI) (N0 : Nat) (rs : List ResultVar) (post : AV → List Ent → Prop) : Cont := fun e s => match e with
  | .normal => resultP T rs s (Fin E N0 post)
  | .ret => resultP T rs s (Fin E N0 post)
  | .exit _ => False
def undefs : Nat → List AV
  | 0 => []
  | n + 1 => .tup [] :: undefs n
theorem undefs_is (g : Gh) (w : World) : ∀ n, F2 (AV.Is g w) (undefs n) (List.replicate n undef)
  | 0 => trivial
  | n + 1 => ⟨⟨[], rfl, trivial⟩, undefs_is g w n⟩

theorem Meets.of_body {E : Env} {P : Program} {T : Nat → TI} (hm : P.follows .mixedOrders = true) (hT : TOk P T) {plan : Nat → Plan} {f : FuncId} {fn : Func} {c : Code} {n : Nat} {rs : List ResultVar} {args : List AV} {H : List Ent} {post : AV → List Ent → Prop}
    (hf : P.funcs[f]? = some fn) (hc : ∀ us w, (callFunc f us).run P w = .ok (.enter f us) w) (hn : fn.ntmps = n) (hrs : fn.results = rs.toArray) (hb : fn.body = some c) (hp : plansOk plan c = true)
    (h : vc ⟨E, P, T, H.length, plan⟩ c (bx2 (exits E T H.length rs post)) ⟨args ++ undefs (n - args.length), H⟩) : Meets E P f args H post := by
  intro g w us r hu
  subst hn
  have hrs' : fn.results.toList = rs := by rw [hrs]
  rw [← hrs'] at h
  refine .inl ⟨hc _ _, ?_⟩
  refine calls_of_wp hf hb ?_
  have hok : Ok E H.length g w ⟨args ++ undefs (fn.ntmps - args.length), H⟩ { tmps := us.toArray ++ Array.replicate (fn.ntmps - us.toArray.size) undef, defers := [] } w := by
    refine ⟨g, Nat.le_refl _, Step.refl _ _ _, r, rfl, ?_⟩
    simp only [Array.toList_append, Array.toList_replicate, List.size_toArray, ← hu.length]
    exact F2.append hu (undefs_is g w _)
  refine wp_mono (vc_sound (X := ⟨E, P, T, H.length, plan⟩) hm hT c hp h hok) fun e a w' hq => ?_
  have key : ∀ s, resultP T fn.results.toList s (Fin E H.length post) → Ok E H.length g w s a w' → a.defers = [] ∧ ∃ v, (results fn a.tmps).run P w' = .ok v w' ∧ ∃ g' H' av, post av H' ∧ H.length ≤ H'.length ∧ RelH E g' H' w' ∧ av.Is g' w' v ∧ Step H.length g w g' w' := fun s hs hok => by
    obtain ⟨g', hN, hS, r', hsl⟩ := hok
    obtain ⟨u, v, g1, H1, hr, ⟨v', H', he, hpost⟩, hl1, hR1, hS1, hi⟩ := resultP_sound hT r' hsl hs
    obtain ⟨g'', hN', hS', r'', hi'⟩ := he _ _ _ _ _ (Nat.le_trans hN hl1) (hS.trans hS1 hN) hR1 hi
    exact ⟨hsl.1, u, hr, g'', H', v', hpost, hN', r'', hi', hS'⟩
  cases e with
  | normal => obtain ⟨s, hs, hok⟩ := hq; exact key s hs hok
  | ret => obtain ⟨s, hs, hok⟩ := hq; exact key s hs hok
  | exit i => obtain ⟨s, hs, _⟩ := hq; exact hs.elim
  | goto l => exact hq.elim
  | panic c => exact hq.elim
  | outgrown => exact hq.elim
end Go.V
end

section
set_option linter.unusedSimpArgs false
set_option linter.unusedVariables false
namespace Go.V
open Go Go.RowKit

theorem nth_cons_zero {α : Type} [Inhabited α] (a : α) (l : List α) : nth (a :: l) 0 = a := rfl
theorem nth_cons_succ {α : Type} [Inhabited α] (a : α) (l : List α) (n : Nat) : nth (a :: l) (n + 1) = nth l n := rfl
theorem setn_cons_zero {α : Type} (a b : α) (l : List α) : setn (a :: l) 0 b = b :: l := rfl
theorem setn_cons_succ {α : Type} (a b : α) (l : List α) (n : Nat) : setn (a :: l) (n + 1) b = a :: setn l n b := rfl

/-- The call answers v and leaves the heap as it is. -/
def Ret (v0 : AV) (H0 : List Ent) : AV → List Ent → Prop := fun v H => v = v0 ∧ H = H0
theorem Meets.ret {E : Env} {P : Program} {f : FuncId} {args : List AV} {H H0 : List Ent} {v0 : AV} {K : AV → List Ent → Prop} (h : Meets E P f args H (Ret v0 H0)) (hK : K v0 H0) : Meets E P f args H K :=
  h.mono fun v H' ⟨hv, hH⟩ => by subst hv; subst hH; exact hK
theorem Fin.ret {E : Env} {N0 : Nat} {v v0 : AV} {H H0 : List Ent} (h : v = v0) (hH : H = H0) : V.Fin E N0 (Ret v0 H0) v H := Fin.now ⟨h, hH⟩

theorem toList_toArray {α : Type} (l : List α) : l.toArray.toList = l := rfl
theorem addw_i64 {a b : Int} (h : -9223372036854775808 ≤ a + b) (h' : a + b < 9223372036854775808) : addw .i64 a b = a + b := by
  simp [addw, IntKind.wrap, IntKind.min, IntKind.bits, IntKind.signed]; omega
theorem subw_i64 {a b : Int} (h : -9223372036854775808 ≤ a - b) (h' : a - b < 9223372036854775808) : subw .i64 a b = a - b := by
  simp [subw, IntKind.wrap, IntKind.min, IntKind.bits, IntKind.signed]; omega
theorem addw_u8 {a b : Int} (h : 0 ≤ a + b) (h' : a + b < 256) : addw .u8 a b = a + b := by
  simp [addw, IntKind.wrap, IntKind.min, IntKind.bits, IntKind.signed]; omega
theorem subw_u8 {a b : Int} (h : 0 ≤ a - b) (h' : a - b < 256) : subw .u8 a b = a - b := by
  simp [subw, IntKind.wrap, IntKind.min, IntKind.bits, IntKind.signed]; omega
section
variable (E : Env) (P : Program) (T : Nat → TI) (s : St) (K : AV → List Ent → Prop)
theorem stOp_move (x : Operand) : stOp E P T (.move x) s K = popP T s.ev (.move x) (bx fun v => K v s.heap) := rfl
theorem stOp_assign (x : Operand) : stOp E P T (.assign x) s K = popP T s.ev (.assign x) (bx fun v => K v s.heap) := rfl
theorem stOp_pick (c a b : Operand) : stOp E P T (.pick c a b) s K = popP T s.ev (.pick c a b) (bx fun v => K v s.heap) := rfl
theorem stOp_nilCheck (x : Operand) : stOp E P T (.nilCheck x) s K = popP T s.ev (.nilCheck x) (bx fun v => K v s.heap) := rfl
theorem stOp_binOp (o : BinOp) (t : TypeId) (x y : Operand) (u : TypeId) : stOp E P T (.binOp o t x y u) s K = popP T s.ev (.binOp o t x y u) (bx fun v => K v s.heap) := rfl
theorem stOp_unOp (o : UnOp) (t : TypeId) (x : Operand) : stOp E P T (.unOp o t x) s K = popP T s.ev (.unOp o t x) (bx fun v => K v s.heap) := rfl
theorem stOp_makeFunc (f : Fn) (a b : Array Operand) : stOp E P T (.makeFunc f a b) s K = popP T s.ev (.makeFunc f a b) (bx fun v => K v s.heap) := rfl
theorem stOp_slice (t : TypeId) (x : Operand) (l h m : Option Operand) : stOp E P T (.slice t x l h m) s K = popP T s.ev (.slice t x l h m) (bx fun v => K v s.heap) := rfl
theorem stOp_fieldAddr (t : TypeId) (x : Operand) (f : Nat) : stOp E P T (.fieldAddr t x f) s K = popP T s.ev (.fieldAddr t x f) (bx fun v => K v s.heap) := rfl
theorem stOp_field (t : TypeId) (x : Operand) (f : Nat) : stOp E P T (.field t x f) s K = popP T s.ev (.field t x f) (bx fun v => K v s.heap) := rfl
theorem stOp_indexAddr (t : TypeId) (x i : Operand) : stOp E P T (.indexAddr t x i) s K = popP T s.ev (.indexAddr t x i) (bx fun v => K v s.heap) := rfl
theorem stOp_index (t : TypeId) (x i : Operand) : stOp E P T (.index t x i) s K = popP T s.ev (.index t x i) (bx fun v => K v s.heap) := rfl
theorem stOp_extract (x : Operand) (i : Nat) : stOp E P T (.extract x i) s K = popP T s.ev (.extract x i) (bx fun v => K v s.heap) := rfl
theorem stOp_build (t : TypeId) (ps : Array (Nat × Operand)) : stOp E P T (.build t ps) s K = popP T s.ev (.build t ps) (bx fun v => K v s.heap) := rfl
theorem stOp_len (xs : Array Operand) (ts : Array TypeId) : stOp E P T (.call ⟨.builtin .len, xs, ts⟩) s K = popP T s.ev (.call ⟨.builtin .len, xs, ts⟩) (bx fun v => K v s.heap) := rfl
theorem stOp_min (xs : Array Operand) (ts : Array TypeId) : stOp E P T (.call ⟨.builtin .min, xs, ts⟩) s K = popP T s.ev (.call ⟨.builtin .min, xs, ts⟩) (bx fun v => K v s.heap) := rfl
theorem stOp_max (xs : Array Operand) (ts : Array TypeId) : stOp E P T (.call ⟨.builtin .max, xs, ts⟩) s K = popP T s.ev (.call ⟨.builtin .max, xs, ts⟩) (bx fun v => K v s.heap) := rfl
theorem stOp_load (t : TypeId) (a : Operand) : stOp E P T (.load t a) s K = loadP T t (s.ev a) s.heap K := rfl
theorem stOp_store (t : TypeId) (a x : Operand) : stOp E P T (.store t a x) s K = storeP T t (s.ev a) (s.ev x) s.heap (bx fun H => K .bad H) := rfl
theorem stOp_alloc (t : TypeId) : stOp E P T (.alloc t) s K = allocP T t s.heap K := rfl
theorem stOp_box (t : TypeId) (x : Operand) : stOp E P T (.box t x) s K = boxP T t (s.ev x) s.heap K := rfl
theorem stOp_buildSlice (t n : Nat) (ps : Array (Nat × Operand)) : stOp E P T (.buildSlice t n ps) s K = buildSliceP T t n (ps.toList.map fun p => (p.1, s.ev p.2)) s.heap K := rfl
theorem stOp_makeSlice (t : TypeId) (l c : Operand) : stOp E P T (.makeSlice t l c) s K = makeSliceP T t (s.ev l) (s.ev c) s.heap K := rfl
theorem stOp_convert (a b : TypeId) (x : Operand) : stOp E P T (.convert a b x) s K = convP T a b (s.ev x) s.heap K := rfl
theorem stOp_append (xs : Array Operand) (ts : Array TypeId) : stOp E P T (.call ⟨.builtin .append, xs, ts⟩) s K = appendP T ts.toList (xs.toList.map s.ev) s.heap K := rfl
theorem stOp_call (f : Operand) (xs : Array Operand) (ts : Array TypeId) : stOp E P T (.call ⟨.value f, xs, ts⟩) s K = (match s.ev f with | .s (.c (.fn g caps)) => Meets E P g (xs.toList.map s.ev ++ capArgs caps) s.heap K | _ => False) := rfl
end
theorem exThen_normal (n : St → Prop) (K : Cont) (d : Tk n) (d' : Tk K) (s : St) : exThen n K d d' .normal s = n s := rfl
theorem exThen_exit (n : St → Prop) (K : Cont) (d : Tk n) (d' : Tk K) (i : Nat) (s : St) : exThen n K d d' (.exit i) s = K (.exit i) s := rfl
theorem exThen_ret (n : St → Prop) (K : Cont) (d : Tk n) (d' : Tk K) (s : St) : exThen n K d d' .ret s = K .ret s := rfl
theorem exBlock_normal (id : Nat) (K : Cont) (d : Tk K) (s : St) : exBlock id K d .normal s = K .normal s := rfl
theorem exBlock_exit (id : Nat) (K : Cont) (d : Tk K) (i : Nat) (s : St) : exBlock id K d (.exit i) s = if i = id then K .normal s else K (.exit i) s := rfl
theorem exBlock_ret (id : Nat) (K : Cont) (d : Tk K) (s : St) : exBlock id K d .ret s = K .ret s := rfl
theorem exits_normal (E : Env) (T : Nat → TI) (N0 : Nat) (rs : List ResultVar) (post : AV → List Ent → Prop) (s : St) : exits E T N0 rs post .normal s = resultP T rs s (V.Fin E N0 post) := rfl
theorem exits_ret (E : Env) (T : Nat → TI) (N0 : Nat) (rs : List ResultVar) (post : AV → List Ent → Prop) (s : St) : exits E T N0 rs post .ret s = resultP T rs s (V.Fin E N0 post) := rfl
theorem nth_app {α : Type} [Inhabited α] (A H L : List α) (k : Nat) (h : A.length = H.length) : nth (A ++ L) (H.length + k) = nth L k := by
  rw [← h, nth_eq, nth_eq, List.getElem?_append_right (by omega)]; simp
theorem nth_app0 {α : Type} [Inhabited α] (A H L : List α) (h : A.length = H.length) : nth (A ++ L) H.length = nth L 0 := nth_app A H L 0 h
theorem nth_self {α : Type} [Inhabited α] (H L : List α) : nth (H ++ L) H.length = nth L 0 := nth_app H H L 0 rfl
theorem setn_app {α : Type} (A H L : List α) (k : Nat) (e : α) (h : A.length = H.length) : setn (A ++ L) (H.length + k) e = A ++ setn L k e := by
  rw [← h, setn_eq, setn_eq, List.set_append_right _ _ (by omega)]; simp
theorem setn_app0 {α : Type} (A H L : List α) (e : α) (h : A.length = H.length) : setn (A ++ L) H.length e = A ++ setn L 0 e := setn_app A H L 0 e h
theorem setn_length {α : Type} (H : List α) (n : Nat) (e : α) : (setn H n e).length = H.length := by rw [setn_eq]; simp
theorem nth_set {α : Type} [Inhabited α] (H : List α) (n : Nat) (e : α) (h : n < H.length) : nth (setn H n e) n = e := by
  rw [nth_eq, setn_eq, List.getElem?_set_self h]; rfl
theorem nth_set_ne {α : Type} [Inhabited α] (H : List α) (n m : Nat) (e : α) (h : ¬ n = m) : nth (setn H n e) m = nth H m := by
  rw [nth_eq, nth_eq, setn_eq, List.getElem?_set_ne h]
theorem nth_app_lt {α : Type} [Inhabited α] (A L : List α) (n : Nat) (h : n < A.length) : nth (A ++ L) n = nth A n := by
  rw [nth_eq, nth_eq, List.getElem?_append_left h]
theorem setn_app_lt {α : Type} (A L : List α) (n : Nat) (e : α) (h : n < A.length) : setn (A ++ L) n e = setn A n e ++ L := by
  rw [setn_eq, setn_eq, List.set_append_left _ _ h]
theorem setn_setn {α : Type} (H : List α) (n : Nat) (e e' : α) : setn (setn H n e) n e' = setn H n e' := by
  rw [setn_eq, setn_eq, setn_eq, List.set_set]
theorem nth_lt {H : List Ent} {n : Nat} {e : Ent} (h : nth H n = e) (hne : e ≠ .dead) : n < H.length := by
  have := nth_ent h hne
  exact (List.getElem?_eq_some_iff.1 this).1
theorem setn_same {H : List Ent} {n : Nat} {e : Ent} (h : nth H n = e) (hne : e ≠ .dead) : setn H n e = H := by
  have h1 := nth_ent h hne
  have hl := (List.getElem?_eq_some_iff.1 h1).1
  rw [setn_eq]
  apply List.ext_getElem?
  intro i
  by_cases hi : n = i
  · subst hi; rw [List.getElem?_set_self hl, h1]
  · rw [List.getElem?_set_ne hi]
theorem not_add_lt (a k : Nat) : (a + k < a) = False := eq_false (by omega)
theorem add_left_inj' (a k m : Nat) : (a + k = a + m) = (k = m) := propext (by omega)
theorem add_eq_self (a k : Nat) : (a + k = a) = (k = 0) := propext (by omega)
theorem self_eq_add (a k : Nat) : (a = a + k) = (0 = k) := propext (by omega)
/-! rows of cells -/
theorem at2_map {α : Type} [Inhabited α] (e : α → List CV) (l : List α) (k f : Nat) (h : k < l.length) : at2 (l.map e) k f = (e (l.getD k default)).getD f (.bool false) := by
  simp [at2, List.getD, h]
theorem appCell_at2 (n : Nat) (rows rs : List (List CV)) (h : rows.length = n) : appCell n (at2 rows) (at2 rs) = at2 (rows ++ rs) := by
  subst h
  funext i f
  simp only [appCell, at2, List.getD]
  split
  · rename_i hi; rw [List.getElem?_append_left hi]
  · rename_i hi; rw [List.getElem?_append_right (by omega)]
theorem appCell_byte (n : Nat) (l m : List UInt8) (h : l.length = n) : appCell n (byteCell l) (byteCell m) = byteCell (l ++ m) := by
  unfold byteCell
  rw [appCell_at2 _ _ _ (by simpa using h), List.map_append]
theorem at2_byte (b : UInt8) : at2 [[.int .u8 (b.toNat : Int)]] = byteCell [b] := rfl
theorem updCell_at2 (rows : List (List CV)) (k j : Nat) (ds : List CV) (h : k < rows.length) (hj : j + ds.length ≤ (rows.getD k []).length) :
    updCell (at2 rows) k j ds = at2 (rows.set k (setAt (rows.getD k []) j ds)) := by
  funext i f
  simp only [updCell, at2]
  by_cases hik : i = k
  · subst hik
    rw [if_pos rfl]
    have hg : (rows.set i (setAt (rows.getD i []) j ds)).getD i [] = setAt (rows.getD i []) j ds := by simp [List.getD, h]
    rw [hg]
    simp only [List.getD] at hj ⊢
    rw [setAt_get _ _ _ hj]
    split
    · rename_i hf
      rfl
    · rfl
  · rw [if_neg hik]
    have hg : (rows.set k (setAt (rows.getD k []) j ds)).getD i [] = rows.getD i [] := by
      simp only [List.getD]; rw [List.getElem?_set_ne (Ne.symm hik)]
    rw [hg]
theorem updCell_byte (l : List UInt8) (k : Nat) (b : UInt8) (h : k < l.length) : updCell (byteCell l) k 0 [.int .u8 (b.toNat : Int)] = byteCell (l.set k b) := by
  unfold byteCell
  rw [updCell_at2 _ _ _ _ (by simpa using h) (by simp [List.getD, h, bcell])]
  congr 1
  rw [List.map_set]
  congr 1
  simp [List.getD, h, bcell, setAt, setn]
theorem subCell_at2 (j m : Nat) (rows : List (List CV)) : subCell j m (at2 rows) = at2 ((rows.drop j).take m) := by
  funext i f
  simp only [subCell, at2, List.getD, List.getElem?_take, List.getElem?_drop]
  split <;> rfl
theorem subCell_byte (j m : Nat) (l : List UInt8) : subCell j m (byteCell l) = byteCell ((l.drop j).take m) := by
  unfold byteCell
  rw [subCell_at2, List.map_take, List.map_drop]
theorem subCell_byte_all (m : Nat) (l : List UInt8) (h : l.length = m) : subCell 0 m (byteCell l) = byteCell l := by
  rw [subCell_byte, List.drop_zero, ← h, List.take_length]
theorem subCell_all (m : Nat) (rows : List (List CV)) (h : rows.length = m) : subCell 0 m (at2 rows) = at2 rows := by
  rw [subCell_at2, List.drop_zero, ← h, List.take_length]
def allSh : List (List CV) → Bool
  | [] => true
  | r :: l => r.all isSh && allSh l
theorem allSh_get : ∀ {rows : List (List CV)}, allSh rows = true → ∀ k f, isSh (at2 rows k f) = true
  | [], _, k, f => by simp [at2, isSh]
  | r :: rows, h, 0, f => by
    simp only [allSh, Bool.and_eq_true, List.all_eq_true] at h
    simp only [at2, List.getD_cons_zero]
    cases hf : r[f]? with
    | none => simp [List.getD, hf, isSh]
    | some c => simp only [List.getD, hf, Option.getD_some]; exact h.1 c (List.mem_of_getElem? hf)
  | r :: rows, h, k + 1, f => by
    simp only [allSh, Bool.and_eq_true] at h
    have := allSh_get h.2 k f
    simpa [at2] using this
theorem ShC_at2 (rows : List (List CV)) (k n wd : Nat) (h : allSh rows = true) : ShC (at2 rows) k n wd = True := eq_true fun i _ f _ => allSh_get h (k + i) f
theorem ShC_byte (l : List UInt8) (k n wd : Nat) : ShC (byteCell l) k n wd = True := eq_true fun i _ f _ => by rcases byteCell_sh l (k + i) f with ⟨b, h⟩ | h <;> rw [h] <;> rfl
theorem allSh_app (l m : List (List CV)) : allSh (l ++ m) = (allSh l && allSh m) := by
  induction l with
  | nil => rfl
  | cons r l ih => simp [allSh, ih, Bool.and_assoc]
theorem allSh_map {α : Type} (e : α → List CV) (l : List α) (h : ∀ x, (e x).all isSh = true) : allSh (l.map e) = true := by
  induction l with
  | nil => rfl
  | cons x l ih => simp only [List.map_cons, allSh, h x, ih, Bool.and_self]
theorem allSh_iff : ∀ (l : List (List CV)), allSh l = true ↔ ∀ r ∈ l, r.all isSh = true
  | [] => by simp [allSh]
  | r :: l => by simp [allSh, allSh_iff l]
theorem allSh_take (l : List (List CV)) (n : Nat) (h : allSh l = true) : allSh (l.take n) = true := (allSh_iff _).2 fun r hr => (allSh_iff _).1 h r (List.mem_of_mem_take hr)
theorem allSh_drop (l : List (List CV)) (n : Nat) (h : allSh l = true) : allSh (l.drop n) = true := (allSh_iff _).2 fun r hr => (allSh_iff _).1 h r (List.mem_of_mem_drop hr)
theorem bytesOf_byte (m : Nat) (l : List UInt8) (h : l.length = m) : bytesOf m (byteCell l) = l := by
  subst h
  apply List.ext_getElem
  · simp [bytesOf]
  · intro i h1 h2; simp [bytesOf, byteCell_get, h2]
theorem ByC_byte (m : Nat) (l : List UInt8) (h : m ≤ l.length) : ByC m (byteCell l) = True := eq_true fun i hi => ⟨_, byteCell_get l i (by omega)⟩
/-! ### guards that are known as a formula -/
/-- What a guarded operation leaves: its value, or nothing. -/
def optA (b : Bool) (v : AV) : AV := match b with
  | true => v
  | false => .tup []
theorem optA_true (v : AV) : optA true v = v := rfl
theorem optA_false (v : AV) : optA false v = .tup [] := rfl
theorem gM_bool (b want : Bool) (p q : Prop) (d : Tk p) (d' : Tk q) : gM (.s (.c (.bool b))) want p q d d' = condP (b == want) p q := rfl
theorem gM_undef (want : Bool) (p q : Prop) (d : Tk p) (d' : Tk q) : gM (.tup []) want p q d d' = q := rfl
theorem gM_opt (c b want : Bool) (p q : Prop) (d : Tk p) (d' : Tk q) : gM (optA c (.s (.c (.bool b)))) want p q d d' = condP (c && (b == want)) p q := by
  cases c <;> rfl
theorem boundP_mono {x : Option AV} {d n : Nat} {J J' : Nat → Prop} (hJ : ∀ i, J i → J' i) (h : boundP x d n J) : boundP x d n J' := by
  unfold boundP at *
  split at h
  · exact hJ _ h
  · exact ⟨h.1, h.2.1, hJ _ h.2.2⟩
  · exact h.elim
section mono
variable {T : Nat → TI} {K K' : AV → Prop} (hK : ∀ v, K v → K' v)
include hK
theorem intP_mono {op : BinOp} {k : IntKind} {a b : Int} (h : intP op k a b K) : intP op k a b K' := by
  cases op <;> simp only [intP] at h ⊢ <;> first | exact hK _ h | exact ⟨h.1, hK _ h.2⟩ | exact h.elim
theorem strP_mono {op : BinOp} {a b : List UInt8} (h : strP op a b K) : strP op a b K' := by
  cases op <;> simp only [strP] at h ⊢ <;> first | exact hK _ h | exact ⟨h.1, hK _ h.2⟩ | exact h.elim
theorem eqP_mono {neg : Bool} {t : Nat} {x y : CV} (h : eqP T neg t x y K) : eqP T neg t x y K' := by
  unfold eqP at *
  split at h <;> first | exact hK _ h | exact h.elim
theorem eqAggP_mono {neg : Bool} {t : Nat} {cs ds : List CV} (h : eqAggP T neg t cs ds K) : eqAggP T neg t cs ds K' := by
  refine ⟨h.1, ?_⟩
  have h := h.2
  split at h
  · rename_i fs hk
    show isK neg K' (eqFs T fs cs ds)
    cases hr : eqFs T fs cs ds with
    | none => rw [hr] at h; exact h.elim
    | some r => rw [hr] at h; exact hK _ h
  · exact h.elim
theorem binP_mono {op : BinOp} {t : Nat} {x y : AV} (h : binP T op t x y K) : binP T op t x y K' := by
  unfold binP at *
  split at h
  · split at h
    · rename_i hk; rw [if_pos hk]; exact intP_mono hK h
    · exact h.elim
  · exact strP_mono hK h
  · split at h
    · exact eqP_mono hK h
    · exact eqP_mono hK h
    · exact h.elim
  · split at h
    · exact eqAggP_mono hK h
    · exact eqAggP_mono hK h
    · exact h.elim
  · exact h.elim
theorem unP_mono {op : UnOp} {x : AV} (h : unP op x K) : unP op x K' := by
  unfold unP at *
  split at h <;> first | exact hK _ h | exact h.elim
theorem sliceP_mono {t : Nat} {x : AV} {lo hi mx : Option AV} (h : sliceP T t x lo hi mx K) : sliceP T t x lo hi mx K' := by
  unfold sliceP at *
  split at h
  · exact ⟨h.1, boundP_mono (fun i h => boundP_mono (fun j h => hK _ h) h) h.2⟩
  · exact ⟨h.1, h.2.1, h.2.2.1, h.2.2.2.1, boundP_mono (fun m h => boundP_mono (fun i h => boundP_mono (fun j h => hK _ h) h) h) h.2.2.2.2⟩
  · exact ⟨h.1, h.2.1, h.2.2.1, boundP_mono (fun i h => boundP_mono (fun j h => hK _ h) h) h.2.2.2⟩
  · exact ⟨h.1, h.2.1, boundP_mono (fun i h => boundP_mono (fun j h => hK _ h) h) h.2.2⟩
  · exact h.elim
theorem fieldAddrP_mono {s f : Nat} {x : AV} (h : fieldAddrP T s x f K) : fieldAddrP T s x f K' := by
  unfold fieldAddrP at *
  split at h
  · split at h
    · rename_i heq
      try simp only [heq]
      refine ⟨h.1, h.2.1, ?_⟩
      have h := h.2.2
      split at h <;> first | exact hK _ h | exact h.elim
    · exact h.elim
  · exact h.elim
theorem fieldP_mono {s f : Nat} {x : AV} (h : fieldP T s x f K) : fieldP T s x f K' := by
  unfold fieldP at *
  split at h
  · split at h
    · rename_i heq
      try simp only [heq]
      refine ⟨h.1, ?_⟩
      have h := h.2
      split at h
      · rename_i hag; rw [if_pos hag]; exact hK _ h
      · rename_i hag; rw [if_neg hag]; exact ⟨h.1, hK _ h.2⟩
    · exact h.elim
  · exact h.elim
theorem indexAddrP_mono {t : Nat} {x i : AV} (h : indexAddrP T t x i K) : indexAddrP T t x i K' := by
  unfold indexAddrP at *
  split at h <;> first | exact ⟨h.1, h.2.1, h.2.2.1, h.2.2.2.1, hK _ h.2.2.2.2⟩ | exact h.elim
theorem indexP_mono {t : Nat} {x i : AV} (h : indexP T t x i K) : indexP T t x i K' := by
  unfold indexP at *
  split at h <;> first | exact ⟨h.1, h.2.1, hK _ h.2.2⟩ | exact h.elim
theorem extractP_mono {x : AV} {i : Nat} (h : extractP x i K) : extractP x i K' := by
  unfold extractP at *
  split at h <;> first | exact ⟨h.1, hK _ h.2⟩ | exact h.elim
theorem lenP_mono {t : Nat} {x : AV} (h : lenP T t x K) : lenP T t x K' := by
  unfold lenP at *
  split at h <;> first | exact hK _ h | exact h.elim
/-- The operations that a guard may stand ahead of without a split. -/
def calmOp : Op → Bool
  | .move _ | .assign _ | .binOp .. | .unOp .. | .slice .. | .fieldAddr .. | .field .. | .indexAddr .. | .index .. | .extract .. | .pick .. | .nilCheck _ => true
  | .call { callee := .builtin .len, .. } => true
  | _ => false
theorem popP_mono {ev : Operand → AV} {op : Op} (hp : calmOp op = true) (h : popP T ev op K) : popP T ev op K' := by
  cases op <;> simp [calmOp] at hp <;> simp only [popP] at h ⊢
  case move => exact hK _ h
  case assign => exact hK _ h
  case binOp => exact binP_mono hK h
  case unOp => exact unP_mono hK h
  case slice => exact sliceP_mono hK h
  case fieldAddr => exact fieldAddrP_mono hK h
  case field => exact fieldP_mono hK h
  case indexAddr => exact indexAddrP_mono hK h
  case index => exact indexP_mono hK h
  case extract => exact extractP_mono hK h
  case nilCheck =>
    unfold nilCheckP at *
    split at h <;> first | exact hK _ h | exact h.elim
  case pick =>
    split at h
    · rename_i t _
      cases t
      · exact hK _ h
      · exact hK _ h
    · exact h.elim
  case call c =>
    obtain ⟨callee, args, tys⟩ := c
    cases callee <;> try (simp at hp; done)
    rename_i b
    cases b <;> try (simp at hp; done)
    simp only [builtinP] at h ⊢
    split at h <;> first | exact lenP_mono hK h | exact h.elim | (rename_i hh _; exact absurd hh (by simp)) | (rename_i hh _ _; exact absurd hh (by simp)) | (rename_i hh _ _ _; exact absurd hh (by simp)) | (exfalso; simp_all; done)
end mono
theorem loadP_mono {T : Nat → TI} {t : Nat} {x : AV} {H : List Ent} {K K' : AV → List Ent → Prop} (hK : ∀ v H, K v H → K' v H) (h : loadP T t x H K) : loadP T t x H K' := by
  unfold loadP at *
  refine ⟨h.1, ?_⟩
  have h := h.2
  split at h
  · split at h
    · rename_i hn
      try simp only [hn]
      refine ⟨h.1, ?_⟩
      have h := h.2
      split at h
      · rename_i hag; rw [if_pos hag]; exact ⟨h.1, h.2.1, hK _ _ h.2.2⟩
      · rename_i hag
        rw [if_neg hag]
        refine ⟨h.1, ?_⟩
        have h := h.2
        split at h
        · exact fun c hc => hK _ _ (h c hc)
        · exact hK _ _ h
    · rename_i hn
      try simp only [hn]
      refine ⟨h.1, ?_⟩
      have h := h.2
      split at h
      · rename_i hag
        rw [if_pos hag]
        refine ⟨h.1, ?_⟩
        have h := h.2
        split at h
        · exact hK _ _ h
        · exact hK _ _ h
      · rename_i hag
        rw [if_neg hag]
        refine ⟨h.1, ?_⟩
        have h := h.2
        split at h
        · exact fun c hc => hK _ _ (h c hc)
        · exact hK _ _ h
    · exact h.elim
  · split at h
    · rename_i hag; rw [if_pos hag]; exact ⟨h.1, hK _ _ h.2⟩
    · rename_i hag; rw [if_neg hag]; exact ⟨h.1, hK _ _ h.2⟩
  · exact h.elim
/-- A guarded operation, taken as a value that hangs on the guard. -/
theorem condP_calm {E : Env} {P : Program} {T : Nat → TI} {b : Bool} {op : Op} {s : St} {dst : Option Nat} {K : St → Prop} {d : Tk fun (v : AV) (H : List Ent) => K ⟨put s.tmps dst v, H⟩} {d' : Tk _} {d'' : Tk _} (v0 : AV) (hp : calmOp op = true) (h : b = true → popP T s.ev op (fun v => v = v0))
    (hk : K ⟨put s.tmps dst (optA b v0), s.heap⟩) : condP b (stOp E P T op s (bx2 (fun v H => K ⟨put s.tmps dst v, H⟩) d)) (K ⟨put s.tmps dst (.tup []), s.heap⟩) d' d'' := by
  cases b
  · exact hk
  · show stOp E P T op s _
    have hpu : pureOp op = true := by
      cases op <;> simp [calmOp] at hp <;> simp [pureOp]
      rename_i c
      obtain ⟨callee, args, tys⟩ := c
      cases callee <;> try (simp at hp; done)
      rename_i b
      cases b <;> first | rfl | (simp at hp; done)
    rw [pure_stOp hpu]
    exact popP_mono (fun v hv => by subst hv; exact hk) hp (h rfl)
theorem condP_load {E : Env} {P : Program} {T : Nat → TI} {b : Bool} {t : Nat} {x : Operand} {s : St} {dst : Option Nat} {K : St → Prop} {d : Tk fun (v : AV) (H : List Ent) => K ⟨put s.tmps dst v, H⟩} {d' : Tk _} {d'' : Tk _} (v0 : AV) (h : b = true → loadP T t (s.ev x) s.heap (Ret v0 s.heap))
    (hk : K ⟨put s.tmps dst (optA b v0), s.heap⟩) : condP b (stOp E P T (.load t x) s (bx2 (fun v H => K ⟨put s.tmps dst v, H⟩) d)) (K ⟨put s.tmps dst (.tup []), s.heap⟩) d' d'' := by
  cases b
  · exact hk
  · exact loadP_mono (fun v H ⟨hv, hH⟩ => by subst hv; subst hH; exact hk) (h rfl)
theorem condP_call {E : Env} {P : Program} {T : Nat → TI} {b : Bool} {g : Nat} {xs : Array Operand} {ts : Array TypeId} {s : St} {dst : Option Nat} {K : St → Prop} {d : Tk fun (v : AV) (H : List Ent) => K ⟨put s.tmps dst v, H⟩} {d' : Tk _} {d'' : Tk _} (v0 : AV)
    (h : b = true → Meets E P g (xs.toList.map s.ev ++ []) s.heap (Ret v0 s.heap)) (hk : K ⟨put s.tmps dst (optA b v0), s.heap⟩) :
    condP b (stOp E P T (.call ⟨.value (.func g), xs, ts⟩) s (bx2 (fun v H => K ⟨put s.tmps dst v, H⟩) d)) (K ⟨put s.tmps dst (.tup []), s.heap⟩) d' d'' := by
  cases b
  · exact hk
  · exact (h rfl).mono fun v H ⟨hv, hH⟩ => by subst hv; subst hH; exact hk
/-- A choice between two truths is a formula. -/
theorem condP_pick {t a b : Bool} {K : AV → Prop} {x y : AV} {d d1 : Tk K} {d' : Tk _} {d'' : Tk _} (hx : t = true → x = .s (.c (.bool a))) (hy : t = false → y = .s (.c (.bool b))) (hk : K (.s (.c (.bool (bif t then a else b))))) : condP t (bx K d x) (bx K d1 y) d' d'' := by
  cases t
  · show K y
    rw [hy rfl]; exact hk
  · show K x
    rw [hx rfl]; exact hk
theorem condP_pickR {t a b : Bool} {x y v0 : AV} (hx : t = true → x = .s (.c (.bool a))) (hy : t = false → y = .s (.c (.bool b))) (hv : .s (.c (.bool (bif t then a else b))) = v0) {d' : Tk _} {d'' : Tk _} : condP t (x = v0) (y = v0) d' d'' := by
  cases t
  · exact (hy rfl).trans hv
  · exact (hx rfl).trans hv
theorem cond_tr (t b : Bool) : (bif t then true else b) = (t || b) := by cases t <;> rfl
theorem cond_fa (t a : Bool) : (bif t then a else false) = (t && a) := by cases t <;> rfl
theorem false_bne (b : Bool) : (false != b) = b := by cases b <;> rfl
theorem true_bne (b : Bool) : (true != b) = !b := by cases b <;> rfl
theorem bool_av {a b : Bool} (h : a = b) : AV.s (.c (.bool a)) = AV.d (.bool b) := by rw [h]
theorem int_av {k : IntKind} {a b : Int} (h : a = b) : AV.s (.c (.int k a)) = AV.d (.int k b) := by rw [h]
theorem str_av {a b : List UInt8} (h : a = b) : AV.s (.c (.str a)) = AV.d (.str b) := by rw [h]
theorem AvLe_str {a b : List UInt8} (h : a = b) : AvLe (.d (.str a)) (.d (.str b)) := by subst h; exact .same rfl
theorem AvLe_bad (a : AV) : AvLe a .bad = True := eq_true fun _ _ _ _ => trivial
theorem AvLe_refl (a : AV) : AvLe a a = True := eq_true fun _ _ _ h => h
theorem AvLe_nil (e wd n wd' k : Nat) : AvLe (.c (.nil e wd)) (.c (.sl n wd' k 0 0)) := by
  rintro g w v ⟨A, rfl⟩
  exact .inl ⟨rfl, rfl, A, rfl⟩
theorem AvLe_int (k : IntKind) (a b : Int) (h : a = b) : AvLe (.d (.int k a)) (.d (.int k b)) := by subst h; exact .same rfl
attribute [go_sem] sets bads badsO SlotsLe AvLe_bad AvLe_refl
attribute [go_sem] vc vcL vcP vcI vcO guardV stOp_move stOp_assign stOp_pick stOp_nilCheck stOp_binOp stOp_unOp stOp_makeFunc stOp_slice stOp_fieldAddr stOp_field stOp_indexAddr stOp_index stOp_extract stOp_build stOp_len stOp_min stOp_max stOp_load stOp_store stOp_alloc stOp_box stOp_buildSlice stOp_makeSlice stOp_convert stOp_append stOp_call popP St.ev put constAV constCV nth_cons_zero nth_cons_succ setn_cons_zero setn_cons_succ exThen_normal exThen_exit exThen_ret exBlock_normal exBlock_exit exBlock_ret exits_normal exits_ret resultP resP oneP
  loadP storeP boxP allocP buildSliceP makeSliceP convP toBytesP toStrP toRunesStrP srcP appendP builtinP lenP minmaxP binP intP strP eqP eqAggP eqFs eqCell andO isK unP sliceP boundP indexAddrP indexP fieldAddrP fieldP extractP makeFuncP capsOf nilCheckP buildP fillP
  SV.cells setAt okAll CV.ok cellsFrom sharedFrom CV.shared capArgs undefs TK.isAgg typed typedA typedF typedS anyOwn CV.frz chunk allSh isSh ShC_at2 ShC_byte appCell_at2 appCell_byte at2_byte byteCell_get subCell_all subCell_byte_all bytesOf_byte ByC_byte allSh_app
  condP_true condP_false gM_bool gM_undef gM_opt optA_true optA_false cond_tr cond_fa toList_toArray bx_app bx2_app nth_app nth_app0 nth_self setn_app setn_app0 setn_length nth_set nth_app_lt setn_app_lt setn_setn List.length_append List.length_map false_bne true_bne beq_self_eq_true Bool.and_self Bool.true_and Bool.and_true Bool.false_and Bool.and_false Bool.true_or Bool.or_true Bool.false_or Bool.or_false Nat.zero_add Nat.add_zero Nat.le_refl Nat.lt_irrefl decide_true decide_false Int.toNat_natCast Int.natCast_nonneg Int.ofNat_lt Int.ofNat_le beq_true beq_false Bool.not_true Bool.not_false
  List.map_cons List.map_nil List.cons_append List.nil_append List.append_nil List.append_assoc List.length_cons List.length_nil List.getElem?_cons_zero List.getElem?_cons_succ Option.map_some Option.map_none List.all_cons List.all_nil
  List.replicate_succ List.replicate_zero List.flatten_cons List.flatten_nil List.take_succ_cons List.take_zero List.take_nil List.drop_succ_cons List.drop_zero List.drop_nil
  not_add_lt add_left_inj' add_eq_self self_eq_add Nat.add_assoc
  ne_eq not_false_eq_true not_true_eq_false true_and and_true true_or or_true false_or or_false false_and and_false reduceCtorEq if_true if_false Bool.false_eq_true
end Go.V
end

section
set_option linter.unusedSimpArgs false
set_option linter.unusedVariables false
namespace Go.V
open Go Go.RowKit

/-! ### contracts of the shelf -/
/-- A contract that leaves the world alone. -/
theorem Meets.same {E : Env} {P : Program} {f : FuncId} {args : List AV} {H : List Ent} {av : AV} (hc : ∀ us w, (callFunc f us).run P w = .ok (.enter f us) w)
    (h : ∀ g w us, RelH E g H w → F2 (AV.Is g w) args us → ∃ v, av.Is g w v ∧ Calls P f us.toArray w fun e w' => e = .returned v ∧ w' = w) : Meets E P f args H (Ret av H) := by
  intro g w us r hu
  obtain ⟨v, hi, hcl⟩ := h g w us r hu
  refine .inl ⟨hc _ _, hcl.mono ?_⟩
  rintro e w' ⟨rfl, rfl⟩
  exact ⟨g, H, av, ⟨rfl, rfl⟩, Nat.le_refl _, r, hi, Step.refl _ _ _⟩

/-- A contract that makes one new row of data, full. -/
theorem Meets.fresh {E : Env} {P : Program} {f : FuncId} {args : List AV} {H : List Ent} (ty n : Nat) (cell : Nat → Nat → CV) (hc : ∀ us w, (callFunc f us).run P w = .ok (.enter f us) w)
    (h : ∀ g w us, RelH E g H w → F2 (AV.Is g w) args us → ∃ cs : List Value, cs.length = n ∧ (∀ i, i < n → ∃ u, cs[i]? = some u ∧ (cell i 0).Is g w u) ∧
      Calls P f us.toArray w fun e w' => e = .returned (.slice (some ⟨w.heap.size, 0, none⟩) n n) ∧ w' = w.alloc (.cells cs.toArray ty)) :
    Meets E P f args H (Ret (.c (.sl H.length 1 0 n n)) (H ++ [.row ty 1 n n cell])) := by
  intro g w us r hu
  obtain ⟨cs, hl, hcell, hcl⟩ := h g w us r hu
  refine .inl ⟨hc _ _, hcl.mono ?_⟩
  rintro e w' ⟨rfl, rfl⟩
  obtain ⟨g', hR, hS, hI⟩ := new_row r ty 1 n n cell cs.toArray (0, 0) (w.alloc (.cells cs.toArray ty)) rfl rfl rfl (by simp) (fun b hb => Below.heap_alloc w _ b hb)
    (by simp [World.alloc, -World.alloc_eq]) (.inl (Nat.le_refl _)) (Nat.le_refl _) (by simp [hl]) (fun k hk f hf => by
      obtain rfl : f = 0 := by omega
      obtain ⟨u, hu, hi⟩ := hcell k hk
      exact ⟨u, by simpa using hu, hi⟩)
  exact ⟨g', _, _, ⟨rfl, rfl⟩, by simp, hR, hI, hS⟩

/-- A table of the library lies where it was laid. -/
def tabEnv (P : Program) (name : String) (k : IntKind) (zs : List Int) : Env where
  inv κ w := Lib.TabIs P w name k zs ∧ ∃ g, P.globalNamed name = some g ∧ κ g = .imm
  keeps κ κ' w w' h hm := by
    obtain ⟨ht, g, hg, hi⟩ := h
    refine ⟨?_, g, hg, (hm g hi).1⟩
    unfold Lib.TabIs World.var? at *
    rw [hg] at ht ⊢
    simp only [Option.bind_some] at ht ⊢
    rw [(hm g hi).2]
    exact ht

/-! ### what says no more -/
def CvLe (a b : CV) : Prop := ∀ g w l v, a.At g w l v → b.At g w l v
theorem CvLe.refl (a : CV) : CvLe a a := fun _ _ _ _ h => h
theorem CvLe.of_eq {a b : CV} (h : a = b) : CvLe a b := h ▸ CvLe.refl a
theorem CvLe.lst {wd n : Nat} {cell cell' : Nat → Nat → CV} (h : ∀ k, k < n → ∀ f, f < wd → CvLe (cell k f) (cell' k f)) : CvLe (.lst wd n cell) (.lst wd n cell') := by
  intro g w l v hi
  have hi : (CV.lst wd n cell).At g w none v := CV.At.share trivial hi
  refine CV.At.lift _ ?_
  obtain ⟨A, c, hv, hc, hx⟩ := hi
  refine ⟨A, c, hv, hc, hx.imp id ?_⟩
  rintro ⟨b, o, hA, hb, hx⟩
  refine ⟨b, o, hA, hb, fun k hk f hf => ?_⟩
  obtain ⟨u, hu, hi⟩ := hx k hk f hf
  exact ⟨u, hu, h k hk f hf _ _ _ _ hi⟩
/-- .. where it stands in a place. -/
def CwLe (a b : CV) : Prop := ∀ g w m p v, a.At g w (some (m, p)) v → b.At g w (some (m, p)) v
theorem CwLe.of {a b : CV} (h : CvLe a b) : CwLe a b := fun g w m p v => h g w _ v
theorem CwLe.refl (a : CV) : CwLe a a := fun _ _ _ _ _ h => h
theorem CwLe.of_eq {a b : CV} (h : a = b) : CwLe a b := h ▸ CwLe.refl a
theorem CwLe.nil (e wd ty wd' : Nat) (cell : Nat → Nat → CV) : CwLe (.nil e wd) (.own ty wd' 0 cell) := by
  intro g w m p v hi
  have hi : (CV.nil e wd).At g w none v := CV.At.share trivial hi
  simp only [CV.At]
  exact .inl ⟨trivial, hi⟩
theorem CvLe.own {ty wd n : Nat} {cell cell' : Nat → Nat → CV} (h : ∀ k, k < n → ∀ f, f < wd → CwLe (cell k f) (cell' k f)) : CvLe (.own ty wd n cell) (.own ty wd n cell') := by
  intro g w l v hi
  cases l with
  | none => simp [CV.At] at hi
  | some l =>
    obtain ⟨m, p⟩ := l
    simp only [CV.At] at hi ⊢
    refine hi.imp id ?_
    rintro ⟨b, o, c, cs, fz, h1, h2, h3, h4, h5, h6, h7⟩
    refine ⟨b, o, c, cs, fz, h1, h2, h3, h4, h5, h6, fun k hk f hf => ?_⟩
    obtain ⟨u, hu, hi⟩ := h7 k hk f hf
    exact ⟨u, hu, h k hk f hf _ _ _ _ _ hi⟩
/-- Nothing is a list of nothing. -/
theorem CvLe.nil (e wd wd' : Nat) (cell : Nat → Nat → CV) : CvLe (.nil e wd) (.lst wd' 0 cell) := by
  intro g w l v hi
  have hi : (CV.nil e wd).At g w none v := CV.At.share trivial hi
  obtain ⟨A, rfl⟩ := hi
  exact CV.At.lift _ ⟨A, 0, rfl, Nat.le_refl _, .inl rfl⟩
theorem CvLe.rows {wd : Nat} {rows rows' : List (List CV)} (h : F2 (F2 CvLe) rows rows') : ∀ k f, CvLe (at2 rows k f) (at2 rows' k f) := by
  intro k f
  have hl := h.length
  simp only [at2, List.getD]
  cases hk : rows[k]? with
  | none =>
    have : rows'[k]? = none := by rw [List.getElem?_eq_none_iff] at hk ⊢; omega
    rw [this]
    exact CvLe.refl _
  | some r =>
    obtain ⟨r', hr', hrr⟩ := F2.get h hk
    rw [hr']
    simp only [Option.getD_some]
    have hl := hrr.length
    cases hf : r[f]? with
    | none =>
      have : r'[f]? = none := by rw [List.getElem?_eq_none_iff] at hf ⊢; omega
      rw [this]
      exact CvLe.refl _
    | some c =>
      obtain ⟨c', hc', hcc⟩ := F2.get hrr hf
      rw [hc']
      exact hcc
theorem CwLe.rows {wd : Nat} {rows rows' : List (List CV)} (h : F2 (F2 CwLe) rows rows') : ∀ k f, CwLe (at2 rows k f) (at2 rows' k f) := by
  intro k f
  have hl := h.length
  simp only [at2, List.getD]
  cases hk : rows[k]? with
  | none =>
    have : rows'[k]? = none := by rw [List.getElem?_eq_none_iff] at hk ⊢; omega
    rw [this]
    exact CwLe.refl _
  | some r =>
    obtain ⟨r', hr', hrr⟩ := F2.get h hk
    rw [hr']
    simp only [Option.getD_some]
    have hl := hrr.length
    cases hf : r[f]? with
    | none =>
      have : r'[f]? = none := by rw [List.getElem?_eq_none_iff] at hf ⊢; omega
      rw [this]
      exact CwLe.refl _
    | some c =>
      obtain ⟨c', hc', hcc⟩ := F2.get hrr hf
      rw [hc']
      exact hcc
theorem F2.refl {α : Type} {R : α → α → Prop} (h : ∀ a, R a a) : ∀ l, F2 R l l
  | [] => trivial
  | a :: l => ⟨h a, F2.refl h l⟩

def EntLe (e e' : Ent) : Prop := ∀ g w n, e.Is g w n → e'.Is g w n
theorem EntLe.refl (e : Ent) : EntLe e e := fun _ _ _ h => h
theorem EntLe.of_eq {e e' : Ent} (h : e = e') : EntLe e e' := h ▸ EntLe.refl e
theorem EntLe.row {ty wd len cap : Nat} {cell cell' : Nat → Nat → CV} (h : ∀ k, k < len → ∀ f, f < wd → CwLe (cell k f) (cell' k f)) : EntLe (.row ty wd len cap cell) (.row ty wd len cap cell') := by
  intro g w n hi
  refine hi.imp id ?_
  rintro ⟨b, o, cs, fz, h1, h2, h3, h4, h5, h6, h7⟩
  refine ⟨b, o, cs, fz, h1, h2, h3, h4, h5, h6, fun k hk f hf => ?_⟩
  obtain ⟨u, hu, hi⟩ := h7 k hk f hf
  exact ⟨u, hu, h k hk f hf _ _ _ _ _ hi⟩
theorem EntLe.row1 {ty len cap : Nat} {cell cell' : Nat → Nat → CV} (h : ∀ k, k < len → cell k 0 = cell' k 0) : EntLe (.row ty 1 len cap cell) (.row ty 1 len cap cell') := .row fun k hk f hf => by
  obtain rfl : f = 0 := by omega
  exact CwLe.of_eq (h k hk)
theorem EntLe.box {ty : Nat} {cells cells' : List CV} (h : F2 CwLe cells cells') : EntLe (.box ty cells) (.box ty cells') := by
  intro g w n hi
  have hl := h.length
  obtain ⟨b, cs, h1, h2, h3, h4, h5⟩ := hi
  refine ⟨b, cs, by rw [← hl]; exact h1, h2, h3, by rw [← hl]; exact h4, fun i c hc => ?_⟩
  obtain ⟨c0, hc0, hle⟩ := F2.get' h hc
  obtain ⟨u, hu, hi⟩ := h5 i c0 hc0
  exact ⟨u, hu, hle _ _ _ _ _ hi⟩
theorem HeapLe.refl (H : List Ent) : F2 EntLe H H := F2.refl EntLe.refl H
theorem HeapLe.app {H L L' : List Ent} (h : F2 EntLe L L') : F2 EntLe (H ++ L) (H ++ L') := F2.append (HeapLe.refl H) h
theorem F2.setn {α : Type} [Inhabited α] {R : α → α → Prop} (hr : ∀ a, R a a) {a b : α} (h : R a b) : ∀ (l : List α) (n : Nat), F2 R (V.setn l n a) (V.setn l n b)
  | [], _ => trivial
  | _ :: l, 0 => ⟨h, F2.refl hr l⟩
  | x :: l, n + 1 => ⟨hr x, F2.setn hr h l n⟩
theorem HeapLe.set {H : List Ent} {n : Nat} {e e' : Ent} (h : EntLe e e') : F2 EntLe (setn H n e) (setn H n e') := F2.setn EntLe.refl h H n
theorem HeapLe.rel {E : Env} {g : Gh} {H H' : List Ent} {w : World} (h : F2 EntLe H H') (r : RelH E g H w) : RelH E g H' w := by
  have hl := h.length
  refine ⟨fun n e he => ?_, r.inv, r.lt, fun n hn => r.dom n (by omega), fun b n hb => by have := r.rol b n hb; omega, fun b n p hb => by have := r.rols b n p hb; omega⟩
  obtain ⟨e0, he0, hle⟩ := F2.get' h he
  exact hle _ _ _ (r.ent n e0 he0)

/-! ### what is said of a world may turn -/
/-- What is said of every world of H may be said as H'. Names stay. -/
def HMv (E : Env) (H H' : List Ent) : Prop := H.length ≤ H'.length ∧ ∀ g w, RelH E g H w → ∃ g', RelH E g' H' w ∧ Step H.length g w g' w
theorem HMv.refl (E : Env) (H : List Ent) : HMv E H H := ⟨Nat.le_refl _, fun g w r => ⟨g, r, Step.refl _ _ _⟩⟩
theorem HMv.trans {E : Env} {H H' H'' : List Ent} (h : HMv E H H') (h' : HMv E H' H'') : HMv E H H'' := ⟨Nat.le_trans h.1 h'.1, fun g w r => by
  obtain ⟨g1, r1, s1⟩ := h.2 g w r
  obtain ⟨g2, r2, s2⟩ := h'.2 g1 w r1
  exact ⟨g2, r2, s1.trans s2 h.1⟩⟩
theorem HMv.le {E : Env} {H H' : List Ent} (h : F2 EntLe H H') : HMv E H H' := ⟨by rw [h.length]; exact Nat.le_refl _, fun g w r => ⟨g, HeapLe.rel h r, Step.refl _ _ _⟩⟩
theorem HMv.nil (E : Env) (H : List Ent) (e wd : Nat) (cell : Nat → Nat → CV) : HMv E H (H ++ [.row e wd 0 0 cell]) := ⟨by simp, fun g w r => ⟨g, r.addNil e wd cell, Step.refl _ _ _⟩⟩

theorem F2.avs {g g' : Gh} {w : World} {H : List Ent} {E : Env} (r : RelH E g H w) (s : Step H.length g w g' w) {l : List AV} {us : List Value} (h : F2 (AV.Is g w) l us) : F2 (AV.Is g' w) l us :=
  F2.imp (fun _ _ => AV.Is.mono s.imm (r.ext s.name)) h
theorem Meets.mv {E : Env} {P : Program} {f : FuncId} {args : List AV} {H H' : List Ent} {post : AV → List Ent → Prop} (h : HMv E H H') (hm : Meets E P f args H' post) : Meets E P f args H post := by
  intro g w us r hu
  obtain ⟨g1, r1, s1⟩ := h.2 g w r
  refine (hm g1 w us r1 (F2.avs r s1 hu)).mono fun v w' ⟨g', H1, av, hp, hl, hR, hi, hS⟩ => ⟨g', H1, av, hp, Nat.le_trans h.1 hl, hR, hi, s1.trans hS h.1⟩
theorem Fin.mv {E : Env} {N0 : Nat} {post : AV → List Ent → Prop} {v : AV} {H H' : List Ent} (h : HMv E H H') (hf : V.Fin E N0 post v H') : V.Fin E N0 post v H := by
  obtain ⟨v', H1, he, hp⟩ := hf
  refine ⟨v', H1, fun g0 w0 g w r hN hS hR hv => ?_, hp⟩
  obtain ⟨g1, r1, s1⟩ := h.2 g w hR
  exact he g0 w0 g1 w r (Nat.le_trans hN h.1) (hS.trans s1 hN) r1 (AV.Is.mono s1.imm (hR.ext s1.name) hv)
theorem Goes.mv {E : Env} {N0 : Nat} {l : List AV} {H H' : List Ent} {s : St} (h : HMv E H H') (hg : Goes E N0 ⟨l, H'⟩ s) : Goes E N0 ⟨l, H⟩ s := by
  rintro g0 w0 a w ⟨g, hN, hS, r, hs⟩
  obtain ⟨g1, r1, s1⟩ := h.2 g w r
  exact hg g0 w0 a w ⟨g1, Nat.le_trans hN h.1, hS.trans s1 hN, r1, hs.step r s1⟩
theorem Back.via {E : Env} {N0 : Nat} {α : Type} {Iv : α → Prop} {μ : α → Nat} {f : α → St} {x : α} {s s' : St} (h : Goes E N0 s s') (hb : Back E N0 Iv μ f x s') : Back E N0 Iv μ f x s := by
  obtain ⟨y, hy, hg⟩ := hb
  exact ⟨y, hy, h.trans hg⟩
theorem Back.mv {E : Env} {N0 : Nat} {α : Type} {Iv : α → Prop} {μ : α → Nat} {f : α → St} {x : α} {l : List AV} {H H' : List Ent} (h : HMv E H H') (hb : Back E N0 Iv μ f x ⟨l, H'⟩) : Back E N0 Iv μ f x ⟨l, H⟩ :=
  Back.via (Goes.mv h (Goes.refl _ _ _)) hb
theorem Goes.le {E : Env} {N0 : Nat} {l l' : List AV} {H H' : List Ent} (h : SlotsLe l l') (hH : F2 EntLe H H') : Goes E N0 ⟨l, H⟩ ⟨l', H'⟩ := (Goes.slots h rfl).trans (Goes.mv (HMv.le hH) (Goes.refl _ _ _))
theorem Fin.le {E : Env} {N0 : Nat} {post : AV → List Ent → Prop} {v : AV} {H H' : List Ent} (h : F2 EntLe H H') (hp : post v H') : V.Fin E N0 post v H := Fin.mv (HMv.le h) (Fin.now hp)
theorem Fin.av {E : Env} {N0 : Nat} {post : AV → List Ent → Prop} {v v' : AV} {H : List Ent} (h : AvLe v v') (hf : V.Fin E N0 post v' H) : V.Fin E N0 post v H := by
  obtain ⟨v1, H1, he, hp⟩ := hf
  exact ⟨v1, H1, fun g0 w0 g w r hN hS hR hv => he g0 w0 g w r hN hS hR (h _ _ _ hv), hp⟩
theorem Meets.args {E : Env} {P : Program} {f : FuncId} {args args' : List AV} {H : List Ent} {post : AV → List Ent → Prop} (h : SlotsLe args args') (hm : Meets E P f args' H post) : Meets E P f args H post :=
  fun g w us r hu => hm g w us r (h.is hu)
theorem AvLe.c {a b : CV} (h : CvLe a b) : AvLe (.c a) (.c b) := fun g w v hi => h g w none v hi
theorem F2.cvs {g : Gh} {w : World} : ∀ {a b : List CV} {us : List Value}, F2 CvLe a b → F2 (CV.Is g w) a us → F2 (CV.Is g w) b us
  | [], [], [], _, _ => trivial
  | _ :: _, _ :: _, _ :: _, h, hu => ⟨h.1 _ _ _ _ hu.1, F2.cvs h.2 hu.2⟩
theorem AvLe.agg {a b : List CV} (h : F2 CvLe a b) : AvLe (.s (.agg a)) (.s (.agg b)) := by
  rintro g w v ⟨us, rfl, hu⟩
  exact ⟨us, rfl, F2.cvs h hu⟩
end Go.V
end

section
set_option linter.unusedSimpArgs false
set_option linter.unusedVariables false
namespace Go.V
open Go Go.RowKit

/-! ### cells without addresses of ours -/
def NrC (cell : Nat → Nat → CV) (n wd : Nat) : Prop := ∀ k, k < n → ∀ f, f < wd → isNr (cell k f) = true
def allNr : List (List CV) → Bool
  | [] => true
  | r :: l => r.all isNr && allNr l
theorem allNr_get : ∀ {rows : List (List CV)}, allNr rows = true → ∀ k f, isNr (at2 rows k f) = true
  | [], _, k, f => by simp [at2, isNr]
  | r :: rows, h, 0, f => by
    simp only [allNr, Bool.and_eq_true, List.all_eq_true] at h
    simp only [at2, List.getD_cons_zero]
    cases hf : r[f]? with
    | none => simp [List.getD, hf, isNr]
    | some c => simp only [List.getD, hf, Option.getD_some]; exact h.1 c (List.mem_of_getElem? hf)
  | r :: rows, h, k + 1, f => by
    simp only [allNr, Bool.and_eq_true] at h
    have := allNr_get h.2 k f
    simpa [at2] using this
theorem NrC_at2 (rows : List (List CV)) (n wd : Nat) (h : allNr rows = true) : NrC (at2 rows) n wd = True := eq_true fun k _ f _ => allNr_get h k f
theorem NrC_byte (l : List UInt8) (n wd : Nat) : NrC (byteCell l) n wd = True := eq_true fun i _ f _ => by rcases byteCell_sh l i f with ⟨b, h⟩ | h <;> rw [h] <;> rfl
def NrU (cell : Nat → Nat → CV) : Prop := ∀ k f, isNr (cell k f) = true
theorem NrU_at2 (rows : List (List CV)) (h : allNr rows = true) : NrU (at2 rows) = True := eq_true fun k f => allNr_get h k f
theorem NrU_byte (l : List UInt8) : NrU (byteCell l) = True := eq_true fun i f => by rcases byteCell_sh l i f with ⟨b, h⟩ | h <;> rw [h] <;> rfl
theorem NrU_app (n : Nat) (c s : Nat → Nat → CV) (h1 : NrU c) (h2 : NrU s) : NrU (appCell n c s) = True := eq_true fun k f => by
  simp only [appCell]
  split
  · exact h1 _ _
  · exact h2 _ _
theorem NrC_app (n m wd : Nat) (c s : Nat → Nat → CV) (h1 : NrU c) (h2 : NrU s) : NrC (appCell n c s) m wd = True := eq_true fun k _ f _ => of_eq_true (NrU_app n c s h1 h2) k f
theorem allNr_app (l m : List (List CV)) : allNr (l ++ m) = (allNr l && allNr m) := by
  induction l with
  | nil => rfl
  | cons r l ih => simp [allNr, ih, Bool.and_assoc]
theorem allNr_iff : ∀ (l : List (List CV)), allNr l = true ↔ ∀ r ∈ l, r.all isNr = true
  | [] => by simp [allNr]
  | r :: l => by simp [allNr, allNr_iff l]
theorem allNr_take (l : List (List CV)) (n : Nat) (h : allNr l = true) : allNr (l.take n) = true := (allNr_iff _).2 fun r hr => (allNr_iff _).1 h r (List.mem_of_mem_take hr)
theorem allNr_drop (l : List (List CV)) (n : Nat) (h : allNr l = true) : allNr (l.drop n) = true := (allNr_iff _).2 fun r hr => (allNr_iff _).1 h r (List.mem_of_mem_drop hr)
/-- Plain data. -/
def isPl : CV → Bool
  | .int .. | .bool .. | .str .. | .raw .. | .lst .. | .nil .. => true
  | _ => false
theorem isPl_sh {x : CV} (h : isPl x = true) : isSh x = true := by cases x <;> simp [isPl] at h <;> rfl
theorem isPl_nr {x : CV} (h : isPl x = true) : isNr x = true := by cases x <;> simp [isPl] at h <;> rfl
theorem allSh_pl {α : Type} (e : α → List CV) (l : List α) (h : ∀ x, (e x).all isPl = true) : allSh (l.map e) = true := allSh_map e l fun x => by
  have := h x
  rw [List.all_eq_true] at this ⊢
  exact fun c hc => isPl_sh (this c hc)
theorem allNr_pl {α : Type} (e : α → List CV) (l : List α) (h : ∀ x, (e x).all isPl = true) : allNr (l.map e) = true := (allNr_iff _).2 fun r hr => by
  obtain ⟨x, _, rfl⟩ := List.mem_map.1 hr
  have := h x
  rw [List.all_eq_true] at this ⊢
  exact fun c hc => isPl_nr (this c hc)

section
variable {E : Env} {g : Gh} {w : World} {H : List Ent}

/-! ### packing -/
def Gh.pk (g : Gh) (r n i j : Nat) : Gh := ⟨g.ρ, fun b => match g.κ b with
    | .nm m => if m = r then .sub n [i, j] else .nm m
    | .sub m q => if m = r then .sub n (i :: j :: q) else .sub m q
    | x => x⟩
theorem HMv.pack {n r j ty e wd m c rn rc : Nat} {cells : List CV} {cell : Nat → Nat → CV} (hn : nth H n = .box ty cells) (hr : nth H r = .row e wd rn rc cell) (hj : cells[j]? = some (.sl r wd 0 m c))
    (hne : ¬ r = n) (hm : m ≤ rn) (hmc : m ≤ c) (hc : c ≤ rc) (hnr : NrC cell m wd) : HMv E H (setn (setn H n (.box ty (setn cells j (.own e wd m cell)))) r .dead) := by
  have hnH := nth_ent hn (by simp)
  have hrH := nth_ent hr (by simp)
  have hnl := (List.getElem?_eq_some_iff.1 hnH).1
  have hrl := (List.getElem?_eq_some_iff.1 hrH).1
  refine ⟨by simp [setn_eq], fun g w rel => ⟨g.pk r n 0 j, ?_⟩⟩
  have himm : ∀ b, g.κ b = .imm → (g.pk r n 0 j).κ b = .imm := fun b hb => by simp [Gh.pk, hb]
  have hsub : ∀ b m q, ¬ m = r → g.κ b = .sub m q → (g.pk r n 0 j).κ b = .sub m q := fun b m q h hb => by simp only [Gh.pk, hb]; rw [if_neg h]
  have hlen : (setn (setn H n (.box ty (setn cells j (.own e wd m cell)))) r .dead).length = H.length := by simp [setn_eq]
  refine RelH.same rel himm (fun b hb => by simp [Gh.pk, hb]) (fun _ _ => rfl) (fun x hx => rel.dom x (by rw [hlen] at hx; exact hx)) (fun b x hb => ?_) (fun b x p hb => ?_) (fun x ent hx => ?_)
  · rw [hlen]
    simp only [Gh.pk] at hb
    split at hb
    · rename_i m' hm'
      split at hb
      · cases hb
      · injection hb with hb; subst hb; exact rel.rol b _ hm'
    · split at hb <;> cases hb
    · rename_i h1 h2; exact absurd hb (h1 x)
  · rw [hlen]
    simp only [Gh.pk] at hb
    split at hb
    · split at hb
      · injection hb with hb _; omega
      · cases hb
    · rename_i m' q hm'
      split at hb
      · injection hb with hb _; omega
      · injection hb with hb _; have := rel.rols b m' q hm'; omega
    · rename_i h1 h2; exact absurd hb (h2 x p)
  · rw [setn_eq, setn_eq] at hx
    by_cases hxr : r = x
    · subst hxr
      rw [List.getElem?_set_self (by simpa using hrl)] at hx
      exact (Option.some.inj hx) ▸ trivial
    · rw [List.getElem?_set_ne hxr] at hx
      by_cases hxn : n = x
      · subst hxn
        rw [List.getElem?_set_self hnl] at hx
        obtain rfl := Option.some.inj hx
        obtain ⟨b, cs, h1, h2, h3, h4, h5⟩ := rel.ent n _ hnH
        refine ⟨b, cs, by rw [setn_eq, List.length_set]; exact h1, by simp only [Gh.pk, h2]; rw [if_neg (Ne.symm hne)], h3, by rw [setn_eq, List.length_set]; exact h4, fun i y hy => ?_⟩
        rw [setn_eq] at hy
        have hjl := (List.getElem?_eq_some_iff.1 hj).1
        by_cases hij : j = i
        · subst hij
          rw [List.getElem?_set_self hjl] at hy
          obtain rfl := Option.some.inj hy
          obtain ⟨u, hu, hi⟩ := h5 j _ hj
          refine ⟨u, hu, ?_⟩
          have hi : (CV.sl r wd 0 m c).At g w none u := CV.At.share trivial hi
          simp only [CV.At]
          rcases hi with ⟨hm0, hc0, A, rfl⟩ | ⟨p, hp, hwd, rfl⟩
          · exact .inl ⟨hm0, A, rfl⟩
          · rcases rel.ent r _ hrH with ⟨hno, _⟩ | ⟨b', o, cs', fz, g1, g2, g3, g4, g5, g6, g7⟩
            · rw [hp] at hno; cases hno
            · rw [hp] at g1
              obtain rfl := Option.some.inj g1
              have hcw : c * wd ≤ rc * wd := Nat.mul_le_mul_right _ hc
              refine .inr ⟨b', o, c, cs', fz, by simp, hmc, by simp [Gh.pk, g2], g3, by rcases g4 with g4 | g4 <;> omega, by omega, fun k hk f hf => ?_⟩
              obtain ⟨u, hu, hi⟩ := g7 k (by omega) f hf
              refine ⟨u, hu, CV.At.move (g := g.bare) (g' := (g.pk r n 0 j).bare) (fun b hb => ⟨himm b hb, rfl⟩) (fun _ _ h => by cases h) (fun b q hq => ⟨?_, rfl⟩) (CV.At.toBare (hnr k hk f hf) hi)⟩
              have hq : g.κ b = _ := hq
              show (g.pk r n 0 j).κ b = _
              simp [Gh.pk, hq]
        · rw [List.getElem?_set_ne hij] at hy
          obtain ⟨u, hu, hi⟩ := h5 i y hy
          exact ⟨u, hu, CV.At.move (fun b hb => ⟨himm b hb, rfl⟩) (fun _ _ h => h) (fun b q hq => ⟨hsub b n _ (Ne.symm hne) hq, rfl⟩) hi⟩
      · rw [List.getElem?_set_ne hxn] at hx
        exact Ent.Is.keep (fun b hb => ⟨himm b hb, rfl⟩) (fun _ _ h => h) rfl (fun b hb => ⟨by simp only [Gh.pk, hb]; rw [if_neg (Ne.symm hxr)], rfl⟩) (fun b p hb => ⟨hsub b x p (Ne.symm hxr) hb, rfl⟩) (rel.ent x ent hx)

/-- All lists that the box n holds, as its own. -/
def packC (n : Nat) : Nat → List CV → List Ent → (List Ent → Prop) → Prop
  | _, [], H, K => K H
  | j, .sl r wd k m c :: l, H, K => match nth H r, nth H n with
    | .row e wd2 rn rc cell, .box ty cells => ¬ r = n ∧ k = 0 ∧ wd2 = wd ∧ m ≤ rn ∧ m ≤ c ∧ c ≤ rc ∧ NrC cell m wd ∧ packC n (j + 1) l (setn (setn H n (.box ty (setn cells j (.own e wd m cell)))) r .dead) K
    | _, _ => False
  | j, .nil e wd :: l, H, K => match nth H n with
    | .box ty cells => packC n (j + 1) l (setn H n (.box ty (setn cells j (.own e wd 0 (at2 []))))) K
    | _ => False
  | j, .int .. :: l, H, K => packC n (j + 1) l H K
  | j, .bool .. :: l, H, K => packC n (j + 1) l H K
  | j, .str .. :: l, H, K => packC n (j + 1) l H K
  | j, .raw .. :: l, H, K => packC n (j + 1) l H K
  | j, .lst .. :: l, H, K => packC n (j + 1) l H K
  | j, .own .. :: l, H, K => packC n (j + 1) l H K
  | j, .ptr .. :: l, H, K => packC n (j + 1) l H K
  | j, .dptr .. :: l, H, K => packC n (j + 1) l H K
  | j, .fn .. :: l, H, K => packC n (j + 1) l H K
  | j, .bad :: l, H, K => packC n (j + 1) l H K
def cellsAt (H : List Ent) (n : Nat) : List CV := match nth H n with
  | .box _ cs => cs
  | _ => []
def packP (n : Nat) (H : List Ent) (K : List Ent → Prop) : Prop := packC n 0 (cellsAt H n) H K

theorem packC_sound {n : Nat} : ∀ (l : List CV) (j : Nat) {H : List Ent} {K : List Ent → Prop}, (∀ (ty : Nat) (cells : List CV), nth H n = .box ty cells → ∀ i, i < l.length → cells[j + i]? = l[i]?) → packC n j l H K → ∃ H', HMv E H H' ∧ K H'
  | [], j, H, K, _, h => ⟨H, HMv.refl _ _, h⟩
  | x :: l, j, H, K, hc, h => by
    have step : ∀ H1 : List Ent, HMv E H H1 → (∀ (ty : Nat) (cells : List CV), nth H1 n = .box ty cells → ∃ ty' cells', nth H n = .box ty' cells' ∧ ∀ i, j < i → cells[i]? = cells'[i]?) → packC n (j + 1) l H1 K → ∃ H', HMv E H H' ∧ K H' := fun H1 hm hc' h' => by
      obtain ⟨H', h1, h2⟩ := packC_sound l (j + 1) (H := H1) (fun ty cells hb i hi => by
        obtain ⟨ty', cells', hb', heq⟩ := hc' ty cells hb
        have := hc ty' cells' hb' (i + 1) (by simpa using hi)
        rw [heq _ (by omega), show j + 1 + i = j + (i + 1) by omega, this]; rfl) h'
      exact ⟨H', hm.trans h1, h2⟩
    have stay : packC n (j + 1) l H K → ∃ H', HMv E H H' ∧ K H' := fun h' => step H (HMv.refl _ _) (fun ty cells hb => ⟨ty, cells, hb, fun _ _ => rfl⟩) h'
    cases x with
    | sl r wd k m c =>
      simp only [packC] at h
      split at h
      · rename_i e wd2 rn rc cell ty cells hr hn
        obtain ⟨hne, rfl, rfl, hm, hmc, hcc, hnr, h⟩ := h
        have hj := hc ty cells hn 0 (by simp)
        simp only [Nat.add_zero, List.getElem?_cons_zero] at hj
        refine step _ (HMv.pack hn hr hj hne hm hmc hcc hnr) (fun ty1 cells1 hb => ⟨ty, cells, hn, fun i hi => ?_⟩) h
        rw [nth_set_ne _ _ _ _ hne, nth_set _ _ _ (nth_lt hn (by simp))] at hb
        injection hb with _ hb
        rw [← hb, setn_eq, List.getElem?_set_ne (by omega)]
      · exact h.elim
    | nil e wd =>
      simp only [packC] at h
      split at h
      · rename_i ty cells hn
        have hj := hc ty cells hn 0 (by simp)
        simp only [Nat.add_zero, List.getElem?_cons_zero] at hj
        refine step _ (HMv.le ?_) (fun ty1 cells1 hb => ⟨ty, cells, hn, fun i hi => ?_⟩) h
        · have hs := setn_same hn (by simp)
          have := HeapLe.set (H := H) (n := n) (e := .box ty cells) (e' := .box ty (setn cells j (.own e wd 0 (at2 [])))) (EntLe.box ?_)
          · rw [hs] at this; exact this
          · rw [setn_eq]
            have hset : cells.set j (.nil e wd) = cells := by
              apply List.ext_getElem?
              intro i
              have hjl := (List.getElem?_eq_some_iff.1 hj).1
              by_cases hij : j = i
              · subst hij; rw [List.getElem?_set_self hjl, hj]
              · rw [List.getElem?_set_ne hij]
            have hF := F2.setn (R := CwLe) CwLe.refl (CwLe.nil e wd e wd (at2 [])) cells j
            rw [setn_eq, setn_eq, hset] at hF
            exact hF
        · rw [nth_set _ _ _ (nth_lt hn (by simp))] at hb
          injection hb with _ hb
          rw [← hb, setn_eq, List.getElem?_set_ne (by omega)]
      · exact h.elim
    | _ => exact stay h
theorem packP_sound {n : Nat} {K : List Ent → Prop} (h : packP n H K) : ∃ H', HMv E H H' ∧ K H' :=
  packC_sound (cellsAt H n) 0 (fun ty cells hb i _ => by simp [cellsAt, hb]) h
theorem Meets.pack {P : Program} {f : FuncId} {args : List AV} {post : AV → List Ent → Prop} (n : Nat) (h : packP n H (bx fun H' => Meets E P f args H' post)) : Meets E P f args H post := by
  obtain ⟨H', hm, hk⟩ := packP_sound (E := E) h
  exact Meets.mv hm hk
theorem Fin.pack {N0 : Nat} {post : AV → List Ent → Prop} {v : AV} (n : Nat) (h : packP n H (bx fun H' => V.Fin E N0 post v H')) : V.Fin E N0 post v H := by
  obtain ⟨H', hm, hk⟩ := packP_sound (E := E) h
  exact Fin.mv hm hk
theorem Goes.pack {N0 : Nat} {l : List AV} {s : St} (n : Nat) (h : packP n H (bx fun H' => Goes E N0 ⟨l, H'⟩ s)) : Goes E N0 ⟨l, H⟩ s := by
  obtain ⟨H', hm, hk⟩ := packP_sound (E := E) h
  exact Goes.mv hm hk
theorem Back.pack {N0 : Nat} {α : Type} {Iv : α → Prop} {μ : α → Nat} {f : α → St} {x : α} {l : List AV} (n : Nat) (h : packP n H (bx fun H' => Back E N0 Iv μ f x ⟨l, H'⟩)) : Back E N0 Iv μ f x ⟨l, H⟩ := by
  obtain ⟨H', hm, hk⟩ := packP_sound (E := E) h
  exact Back.mv hm hk
end
end Go.V
end

section
set_option linter.unusedSimpArgs false
set_option linter.unusedVariables false
namespace Go.V
open Go Go.RowKit

section
variable {E : Env} {g : Gh} {w : World} {H : List Ent}

/-! ### freezing -/
def thaw (r wd n : Nat) (cell : Nat → Nat → CV) : CV → CV
  | .sl r' wd' k len cap => if r' = r then .lst wd len (subCell k len cell) else .sl r' wd' k len cap
  | x => x
/-- What refers to the row is a part of it. -/
def thawOk (r wd n : Nat) : CV → Prop
  | .sl r' wd' k len cap => r' = r → wd' = wd ∧ k + len ≤ n ∧ len ≤ cap
  | _ => True
def mapS (f : CV → CV) : SV → SV
  | .c x => .c (f x)
  | .agg cs => .agg (cs.map f)
def mapA (f : CV → CV) : AV → AV
  | .s x => .s (mapS f x)
  | .tup vs => .tup (vs.map (mapS f))
def allC (p : CV → Prop) : List CV → Prop
  | [] => True
  | x :: l => p x ∧ allC p l
def allS (p : CV → Prop) : SV → Prop
  | .c x => p x
  | .agg cs => allC p cs
def allSs (p : CV → Prop) : List SV → Prop
  | [] => True
  | x :: l => allS p x ∧ allSs p l
def allA (p : CV → Prop) : AV → Prop
  | .s x => allS p x
  | .tup vs => allSs p vs
def allAs (p : CV → Prop) : List AV → Prop
  | [] => True
  | x :: l => allA p x ∧ allAs p l

theorem map_is {g g' : Gh} {f : CV → CV} {p : CV → Prop} (hf : ∀ (x : CV) (v : Value), p x → x.Is g w v → (f x).Is g' w v) :
    (∀ {cs : List CV} {us : List Value}, allC p cs → F2 (CV.Is g w) cs us → F2 (CV.Is g' w) (cs.map f) us) := by
  intro cs
  induction cs with
  | nil => intro us _ h; cases us <;> first | trivial | exact h.elim
  | cons x cs ih =>
    intro us hp h
    cases us with
    | nil => exact h.elim
    | cons u us => exact ⟨hf _ _ hp.1 h.1, ih hp.2 h.2⟩
theorem mapS_is {g g' : Gh} {f : CV → CV} {p : CV → Prop} (hf : ∀ (x : CV) (v : Value), p x → x.Is g w v → (f x).Is g' w v) {x : SV} {v : Value} (hp : allS p x) (h : x.Is g w v) : (mapS f x).Is g' w v := by
  cases x with
  | c x => exact hf _ _ hp h
  | agg cs =>
    obtain ⟨us, rfl, hu⟩ := h
    exact ⟨us, rfl, map_is hf hp hu⟩
theorem mapSs_is {g g' : Gh} {f : CV → CV} {p : CV → Prop} (hf : ∀ (x : CV) (v : Value), p x → x.Is g w v → (f x).Is g' w v) : ∀ {vs : List SV} {us : List Value}, allSs p vs → F2 (SV.Is g w) vs us → F2 (SV.Is g' w) (vs.map (mapS f)) us
  | [], [], _, _ => trivial
  | _ :: _, _ :: _, hp, h => ⟨mapS_is hf hp.1 h.1, mapSs_is hf hp.2 h.2⟩
theorem mapA_is {g g' : Gh} {f : CV → CV} {p : CV → Prop} (hf : ∀ (x : CV) (v : Value), p x → x.Is g w v → (f x).Is g' w v) {x : AV} {v : Value} (hp : allA p x) (h : x.Is g w v) : (mapA f x).Is g' w v := by
  cases x with
  | s x => exact mapS_is hf hp h
  | tup vs =>
    obtain ⟨us, rfl, hu⟩ := h
    exact ⟨us, rfl, mapSs_is hf hp hu⟩
theorem mapAs_is {g g' : Gh} {f : CV → CV} {p : CV → Prop} (hf : ∀ (x : CV) (v : Value), p x → x.Is g w v → (f x).Is g' w v) : ∀ {vs : List AV} {us : List Value}, allAs p vs → F2 (AV.Is g w) vs us → F2 (AV.Is g' w) (vs.map (mapA f)) us
  | [], [], _, _ => trivial
  | _ :: _, _ :: _, hp, h => ⟨mapA_is hf hp.1 h.1, mapAs_is hf hp.2 h.2⟩

def Gh.fr (g : Gh) (r : Nat) : Gh := ⟨g.ρ, fun b => match g.κ b with
    | .nm m => if m = r then .imm else .nm m
    | x => x⟩
theorem RelH.fr (rel : RelH E g H w) {r e wd rn rc : Nat} {cell : Nat → Nat → CV} (hr : nth H r = .row e wd rn rc cell) (hsh : ShC cell 0 rn wd) (hnr : NrC cell rn wd) :
    RelH E (g.fr r) (setn H r .dead) w ∧ Step H.length g w (g.fr r) w ∧ ∀ (x : CV) (v : Value), thawOk r wd rn x → x.Is g w v → (thaw r wd rn cell x).Is (g.fr r) w v := by
  have hrH := nth_ent hr (by simp)
  have hrl := (List.getElem?_eq_some_iff.1 hrH).1
  have himm : ∀ b, g.κ b = .imm → (g.fr r).κ b = .imm := fun b hb => by simp [Gh.fr, hb]
  have hS := RelH.same (g' := g.fr r) (H' := setn H r .dead) rel himm (fun b hb => by simp [Gh.fr, hb]) (fun _ _ => rfl) (fun x hx => rel.dom x (by rw [setn_length] at hx; exact hx))
    (fun b x hb => by
      rw [setn_length]
      simp only [Gh.fr] at hb
      split at hb
      · rename_i m hm
        split at hb
        · cases hb
        · injection hb with hb; subst hb; exact rel.rol b _ hm
      · rename_i h1; exact absurd hb (h1 x))
    (fun b x p hb => by
      rw [setn_length]
      simp only [Gh.fr] at hb
      split at hb
      · split at hb <;> cases hb
      · exact rel.rols b x p hb)
    (fun x ent hx => by
      rw [setn_eq] at hx
      by_cases hxr : r = x
      · subst hxr
        rw [List.getElem?_set_self hrl] at hx
        exact (Option.some.inj hx) ▸ trivial
      · rw [List.getElem?_set_ne hxr] at hx
        exact Ent.Is.keep (fun b hb => ⟨himm b hb, rfl⟩) (fun _ _ h => h) rfl (fun b hb => ⟨by simp only [Gh.fr, hb]; rw [if_neg (Ne.symm hxr)], rfl⟩) (fun b p hb => ⟨by simp only [Gh.fr, hb], rfl⟩) (rel.ent x ent hx))
  refine ⟨hS.1, hS.2, fun x v hok hi => ?_⟩
  have keep : x.Is (g.fr r) w v := CV.Is.mono (fun b hb => ⟨himm b hb, rfl⟩) (fun _ _ h => h) hi
  unfold thaw
  split
  · rename_i r' wd' k len cap
    split
    · rename_i hrr
      obtain ⟨rfl, hkn, hlc⟩ := hok hrr
      subst hrr
      rcases hi with ⟨rfl, rfl, A, rfl⟩ | ⟨p, hp, hwd, rfl⟩
      · exact ⟨A, 0, rfl, Nat.le_refl _, .inl rfl⟩
      · rcases rel.ent r' _ hrH with ⟨hno, _⟩ | ⟨b, o, cs, fz, h1, h2, h3, h4, h5, h6, h7⟩
        · rw [hp] at hno; cases hno
        · rw [hp] at h1
          obtain rfl := Option.some.inj h1
          refine ⟨_, cap, rfl, hlc, .inr ⟨b, o + k * wd', rfl, by simp [Gh.fr, h2], fun i hi f hf => ?_⟩⟩
          obtain ⟨u, hu, hiu⟩ := h7 (k + i) (by omega) f hf
          have hs : isSh (cell (k + i) f) = true := by have := hsh (k + i) (by omega) f hf; rwa [Nat.zero_add] at this
          refine ⟨u, ?_, ?_⟩
          · rw [← hu]; congr 2; rw [Nat.add_mul]; omega
          · rw [show subCell k len cell i f = cell (k + i) f from if_pos hi]
            have h8 := CV.At.share (isSh_ok hs).1 (CV.At.toBare (hnr (k + i) (by omega) f hf) hiu)
            exact CV.Is.mono (g := g.bare) (g' := (g.fr r').bare) (fun b hb => ⟨himm b hb, rfl⟩) (fun _ _ h => by cases h) h8
    · exact keep
  · exact keep

def frzP (r : Nat) (H : List Ent) (K : (CV → CV) → (CV → Prop) → List Ent → Prop) : Prop :=
  match nth H r with
  | .row _ wd rn _ cell => ShC cell 0 rn wd ∧ NrC cell rn wd ∧ K (thaw r wd rn cell) (thawOk r wd rn) (setn H r .dead)
  | _ => False
theorem Meets.frz {P : Program} {f : FuncId} {args : List AV} {post : AV → List Ent → Prop} (r : Nat) (h : frzP r H fun th ok H' => allAs ok args ∧ Meets E P f (args.map (mapA th)) H' post) : Meets E P f args H post := by
  unfold frzP at h
  split at h
  · rename_i e wd rn rc cell hr
    obtain ⟨hsh, hnr, hok, hm⟩ := h
    intro g w us rel hu
    obtain ⟨r1, s1, hth⟩ := RelH.fr rel hr hsh hnr
    refine (hm _ w us r1 (mapAs_is hth hok hu)).mono fun v w' ⟨g', H1, av, hp, hl, hR, hi, hS⟩ => ⟨g', H1, av, hp, by rw [setn_length] at hl; exact hl, hR, hi, s1.trans hS (by rw [setn_length]; exact Nat.le_refl _)⟩
  · exact h.elim
theorem Fin.frz {N0 : Nat} {post : AV → List Ent → Prop} {v : AV} (r : Nat) (h : frzP r H fun th ok H' => allA ok v ∧ V.Fin E N0 post (mapA th v) H') : V.Fin E N0 post v H := by
  unfold frzP at h
  split at h
  · rename_i e wd rn rc cell hr
    obtain ⟨hsh, hnr, hok, v1, H1, he, hp⟩ := h
    refine ⟨v1, H1, fun g0 w0 g w u hN hS rel hv => ?_, hp⟩
    obtain ⟨r1, s1, hth⟩ := RelH.fr rel hr hsh hnr
    exact he g0 w0 _ w u (by rw [setn_length]; exact hN) (hS.trans s1 hN) r1 (mapA_is hth hok hv)
  · exact h.elim
theorem Goes.frz {N0 : Nat} {l : List AV} {s : St} (r : Nat) (h : frzP r H fun th ok H' => allAs ok l ∧ Goes E N0 ⟨l.map (mapA th), H'⟩ s) : Goes E N0 ⟨l, H⟩ s := by
  unfold frzP at h
  split at h
  · rename_i e wd rn rc cell hr
    obtain ⟨hsh, hnr, hok, hg⟩ := h
    rintro g0 w0 a w ⟨g, hN, hS, rel, hs⟩
    obtain ⟨r1, s1, hth⟩ := RelH.fr rel hr hsh hnr
    exact hg g0 w0 a w ⟨_, by rw [setn_length]; exact hN, hS.trans s1 hN, r1, hs.1, mapAs_is hth hok hs.2⟩
  · exact h.elim

/-! ### naming anew -/
def rnI : Nat → List Nat → Nat → Option Nat
  | _, [], _ => none
  | N, j :: l, i => if i = j then some N else rnI (N + 1) l i
def rnN (N : Nat) (ix : List Nat) (i : Nat) : Option Nat := if i < N then some i else rnI N ix i
def rnL (N : Nat) (ix : List Nat) : List Nat → Option (List Nat)
  | [] => some []
  | i :: l => match rnN N ix i, rnL N ix l with
    | some m, some r => some (m :: r)
    | _, _ => none
def rnC (N : Nat) (ix : List Nat) : CV → CV
  | .ptr n k f => match rnN N ix n with
    | some m => .ptr m k f
    | none => .bad
  | .sl n wd k len cap => match rnN N ix n with
    | some m => .sl m wd k len cap
    | none => .bad
  | .fn q caps => match rnL N ix caps with
    | some m => .fn q m
    | none => .bad
  | x => x
def rnE (N : Nat) (ix : List Nat) : Ent → Ent
  | .dead => .dead
  | .row ty wd len cap cell => .row ty wd len cap cell
  | .box ty cells => .box ty (cells.map (rnC N ix))
def rowsNr : List Ent → Prop
  | [] => True
  | .row _ wd len _ cell :: l => NrC cell len wd ∧ rowsNr l
  | _ :: l => rowsNr l
def Gh.rn (g : Gh) (N : Nat) (ix : List Nat) : Gh := ⟨fun m => if m < N then g.ρ m else match ix[m - N]? with
    | some i => g.ρ i
    | none => none, fun b => match g.κ b with
    | .nm i => (match rnN N ix i with
      | some m => .nm m
      | none => .free)
    | .sub i p => (match rnN N ix i with
      | some m => .sub m p
      | none => .free)
    | x => x⟩
theorem rnI_some : ∀ {ix : List Nat} {N i m : Nat}, rnI N ix i = some m → N ≤ m ∧ m < N + ix.length ∧ ix[m - N]? = some i
  | j :: l, N, i, m, h => by
    simp only [rnI] at h
    split at h
    · rename_i hij
      obtain rfl := Option.some.inj h
      subst hij
      exact ⟨Nat.le_refl _, by simp, by simp⟩
    · obtain ⟨h1, h2, h3⟩ := rnI_some h
      refine ⟨by omega, by simp; omega, ?_⟩
      rw [show m - N = (m - (N + 1)) + 1 by omega]
      simpa using h3
theorem rnI_of : ∀ {ix : List Nat} {N k i : Nat}, ix.Nodup → ix[k]? = some i → rnI N ix i = some (N + k)
  | j :: l, N, 0, i, _, h => by
    obtain rfl := Option.some.inj (by simpa using h : some j = some i)
    simp [rnI]
  | j :: l, N, k + 1, i, hn, h => by
    rw [List.nodup_cons] at hn
    have h' : l[k]? = some i := by simpa using h
    have hij : ¬ i = j := fun e => hn.1 (e ▸ List.mem_of_getElem? h')
    simp only [rnI]
    rw [if_neg hij, rnI_of hn.2 h']
    congr 1
    omega
theorem rnN_ρ {N : Nat} {ix : List Nat} {i m : Nat} (h : rnN N ix i = some m) : (g.rn N ix).ρ m = g.ρ i := by
  unfold rnN at h
  split at h
  · obtain rfl := Option.some.inj h
    simp only [Gh.rn]; rw [if_pos (by assumption)]
  · obtain ⟨h1, _, h3⟩ := rnI_some h
    simp only [Gh.rn]; rw [if_neg (by omega), h3]
theorem rn_imm {N : Nat} {ix : List Nat} {b : Nat} (h : g.κ b = .imm) : (g.rn N ix).κ b = .imm := by simp [Gh.rn, h]
theorem rn_free {N : Nat} {ix : List Nat} {b : Nat} (h : g.κ b = .free) : (g.rn N ix).κ b = .free := by simp [Gh.rn, h]
theorem rn_bare {N : Nat} {ix : List Nat} : ∀ b, g.bare.κ b = .imm → (g.rn N ix).bare.κ b = .imm ∧ w.heap[b]? = w.heap[b]? := fun b hb => ⟨rn_imm (g := g) hb, rfl⟩
theorem rnL_F2 {N : Nat} {ix : List Nat} : ∀ {caps ms : List Nat} {cs : List Value}, rnL N ix caps = some ms → F2 (fun n c => ∃ p, g.ρ n = some p ∧ c = Value.pointer (some ⟨p.blk, p.off, none⟩)) caps cs → F2 (fun n c => ∃ p, (g.rn N ix).ρ n = some p ∧ c = Value.pointer (some ⟨p.blk, p.off, none⟩)) ms cs
  | [], ms, [], h, _ => by obtain rfl := Option.some.inj h; trivial
  | i :: l, ms, c :: cs, h, hc => by
    simp only [rnL] at h
    split at h
    · rename_i m r h1 h2
      obtain rfl := Option.some.inj h
      obtain ⟨⟨p, hp, hv⟩, hc⟩ := hc
      exact ⟨⟨p, by rw [rnN_ρ h1]; exact hp, hv⟩, rnL_F2 h2 hc⟩
    · cases h
theorem rnC_is {N : Nat} {ix : List Nat} {x : CV} {v : Value} (h : x.Is g w v) : (rnC N ix x).Is (g.rn N ix) w v := by
  cases x with
  | ptr n k f =>
    simp only [rnC]
    split
    · rename_i m hm
      obtain ⟨p, hp, hv⟩ := h
      exact ⟨p, by rw [rnN_ρ hm]; exact hp, hv⟩
    · trivial
  | sl n wd k len cap =>
    simp only [rnC]
    split
    · rename_i m hm
      rcases h with h | ⟨p, hp, hv⟩
      · exact .inl h
      · exact .inr ⟨p, by rw [rnN_ρ hm]; exact hp, hv⟩
    · trivial
  | fn q caps =>
    simp only [rnC]
    split
    · rename_i m hm
      obtain ⟨cs, hv, hc⟩ := h
      exact ⟨cs, hv, rnL_F2 hm hc⟩
    · trivial
  | _ => exact CV.At.ofBare (CV.Is.mono (g := g.bare) (g' := (g.rn N ix).bare) rn_bare (fun _ _ h => by cases h) (CV.At.toBare rfl h))
theorem rnC_at {N : Nat} {ix : List Nat} {x : CV} {v : Value} {i m : Nat} {p : List Nat} (hm : rnN N ix i = some m) (h : x.At g w (some (i, p)) v) : (rnC N ix x).At (g.rn N ix) w (some (m, p)) v := by
  cases x with
  | own ty wd n cell =>
    refine CV.At.ofBare (CV.At.move (g := g.bare) (g' := (g.rn N ix).bare) rn_bare (fun _ _ h => by cases h) (fun b q hq => ⟨?_, rfl⟩) (CV.At.toBare rfl h))
    have hq : g.κ b = _ := hq
    show (g.rn N ix).κ b = _
    simp only [Gh.rn, hq, hm]
  | _ => exact CV.At.lift _ (rnC_is (CV.At.share trivial h))

def CV.under (N : Nat) : CV → Prop
  | .ptr n _ _ => n < N
  | .sl n _ _ len cap => (len = 0 ∧ cap = 0) ∨ n < N
  | .fn _ caps => ∀ c ∈ caps, c < N
  | _ => True
def Ent.below (N : Nat) : Ent → Prop
  | .box _ cells => ∀ c ∈ cells, c.under N
  | .row _ wd len _ cell => ∀ k, k < len → ∀ f, f < wd → (cell k f).under N
  | .dead => True
def Closed (N : Nat) (H : List Ent) : Prop := ∀ (n : Nat) (e : Ent), H[n]? = some e → e.below N

theorem below_at {N : Nat} {ix : List Nat} {x : CV} {v : Value} {i : Nat} {p : List Nat} (hi : i < N) (hb : x.under N) (h : x.At g w (some (i, p)) v) : x.At (g.rn N ix) w (some (i, p)) v := by
  have hm : rnN N ix i = some i := by simp [rnN, hi]
  have hρ : ∀ n, n < N → (g.rn N ix).ρ n = g.ρ n := fun n hn => by simp [Gh.rn, hn]
  cases x with
  | ptr n k f =>
    simp only [CV.At] at h ⊢
    obtain ⟨p, hp, hv⟩ := h
    exact ⟨p, by rw [hρ n hb]; exact hp, hv⟩
  | sl n wd k len cap =>
    simp only [CV.At] at h ⊢
    rcases h with h | ⟨p, hp, hw, hv⟩
    · exact .inl h
    · rcases hb with ⟨rfl, rfl⟩ | hb
      · exact .inl ⟨rfl, rfl, _, hv⟩
      · exact .inr ⟨p, by rw [hρ n hb]; exact hp, hw, hv⟩
  | fn q caps =>
    simp only [CV.At] at h ⊢
    obtain ⟨cs, hv, hc⟩ := h
    refine ⟨cs, hv, ?_⟩
    clear hv
    induction caps generalizing cs with
    | nil => cases cs <;> first | trivial | exact hc.elim
    | cons c l ih =>
      cases cs with
      | nil => exact hc.elim
      | cons u us =>
        obtain ⟨⟨p, hp, hu⟩, hc⟩ := hc
        exact ⟨⟨p, by rw [hρ c (hb c (by simp))]; exact hp, hu⟩, ih (fun c hc => hb c (by simp [hc])) us hc⟩
  | own ty wd n cell => exact rnC_at (x := .own ty wd n cell) hm h
  | bad => simp only [CV.At]
  | int k n => exact rnC_at (x := .int k n) hm h
  | bool k => exact rnC_at (x := .bool k) hm h
  | str k => exact rnC_at (x := .str k) hm h
  | raw k => exact rnC_at (x := .raw k) hm h
  | lst wd n cell => exact rnC_at (x := .lst wd n cell) hm h
  | nil e wd => exact rnC_at (x := .nil e wd) hm h
  | dptr wd n cell k f => exact rnC_at (x := .dptr wd n cell k f) hm h

theorem RelH.rn (rel : RelH E g (H) w) {A L : List Ent} {N : Nat} {ix : List Nat} (hH : H = A ++ L) (hA : A.length = N) (hc : Closed N A) (hix : ∀ i ∈ ix, N ≤ i) (hnd : ix.Nodup) (hrow : rowsNr (ix.map (nth H))) :
    RelH E (g.rn N ix) (A ++ (ix.map (nth H)).map (rnE N ix)) w ∧ Step N g w (g.rn N ix) w := by
  subst hH
  have hlen : (A ++ (ix.map (nth (A ++ L))).map (rnE N ix)).length = N + ix.length := by simp [hA]
  have hlt : ∀ {i m}, rnN N ix i = some m → m < N + ix.length := fun {i m} h => by
    unfold rnN at h
    split at h
    · obtain rfl := Option.some.inj h; omega
    · have := (rnI_some h).2.1; omega
  refine ⟨⟨fun n e he => ?_, E.keeps _ _ _ _ rel.inv (fun b hb => ⟨rn_imm hb, rfl⟩), fun b hb => rn_free (rel.lt b hb), fun n hn => ?_, fun b n hb => ?_, fun b n p hb => ?_⟩, ⟨rfl, rfl, rfl, Nat.le_refl _, fun b hb => ⟨rn_imm hb, rfl⟩, fun b _ hb => ⟨rn_free hb, rfl⟩, fun n hn => by simp [Gh.rn, hn]⟩⟩
  · rcases Nat.lt_or_ge n A.length with hn | hn
    · rw [List.getElem?_append_left hn] at he
      have hi := rel.ent n e (by rw [List.getElem?_append_left hn]; exact he)
      have hbl := hc n e he
      have hnN : n < N := by omega
      have hm : rnN N ix n = some n := by simp [rnN, hnN]
      have hρ : (g.rn N ix).ρ n = g.ρ n := by simp [Gh.rn, hnN]
      cases e with
      | dead => trivial
      | row ty wd len cap cell =>
        rcases hi with ⟨h1, h2⟩ | ⟨b, o, cs, fz, h1, h2, h3⟩
        · exact .inl ⟨by rw [hρ]; exact h1, h2⟩
        · refine .inr ⟨b, o, cs, fz, by rw [hρ]; exact h1, by simp [Gh.rn, h2, hm], h3.1, h3.2.1, h3.2.2.1, h3.2.2.2.1, fun k hk f hf => ?_⟩
          obtain ⟨u, hu, hi⟩ := h3.2.2.2.2 k hk f hf
          exact ⟨u, hu, below_at hnN (hbl k hk f hf) hi⟩
      | box ty cells =>
        obtain ⟨b, cs, h1, h2, h3, h4, h5⟩ := hi
        refine ⟨b, cs, by rw [hρ]; exact h1, by simp [Gh.rn, h2, hm], h3, h4, fun i c hic => ?_⟩
        obtain ⟨u, hu, hi⟩ := h5 i c hic
        exact ⟨u, hu, below_at hnN (hbl c (List.mem_of_getElem? hic)) hi⟩
    · rw [List.getElem?_append_right hn, List.getElem?_map, List.getElem?_map] at he
      cases hk : ix[n - A.length]? with
      | none => rw [hk] at he; cases he
      | some i =>
        rw [hk] at he
        obtain rfl := Option.some.inj he
        have hiN : ¬ i < N := by have := hix i (List.mem_of_getElem? hk); omega
        have hm : rnN N ix i = some n := by
          unfold rnN
          rw [if_neg hiN, rnI_of hnd hk]
          congr 1
          omega
        have hρ : (g.rn N ix).ρ n = g.ρ i := rnN_ρ hm
        have hrows : ∀ {l : List Ent} {k : Nat} {ty wd len cap : Nat} {cell : Nat → Nat → CV}, rowsNr l → l[k]? = some (.row ty wd len cap cell) → NrC cell len wd := fun {l} => by
          induction l with
          | nil => intro k ty wd len cap cell _ h; simp at h
          | cons x l ih =>
            intro k ty wd len cap cell hr h
            cases k with
            | zero =>
              obtain rfl := Option.some.inj (by simpa using h : some x = _)
              exact hr.1
            | succ k =>
              refine ih ?_ (by simpa using h)
              cases x with
              | row => exact hr.2
              | dead => exact hr
              | box => exact hr
        have hent : ∀ e, nth (A ++ L) i = e → e ≠ .dead → e.Is g w i := fun e h1 h2 => rel.ent i e (nth_ent h1 h2)
        cases hq : nth (A ++ L) i with
        | dead => trivial
        | row ty wd len cap cell =>
          have hi := hent _ hq (by simp)
          have hnr := hrows hrow (k := n - A.length) (ty := ty) (wd := wd) (len := len) (cap := cap) (cell := cell) (by rw [List.getElem?_map, hk]; simp [hq])
          rcases hi with ⟨h1, h2⟩ | ⟨b, o, cs, fz, h1, h2, h3⟩
          · exact .inl ⟨by rw [hρ]; exact h1, h2⟩
          · refine .inr ⟨b, o, cs, fz, by rw [hρ]; exact h1, by simp [Gh.rn, h2, hm], h3.1, h3.2.1, h3.2.2.1, h3.2.2.2.1, fun k hk f hf => ?_⟩
            obtain ⟨u, hu, hi⟩ := h3.2.2.2.2 k hk f hf
            refine ⟨u, hu, CV.At.ofBare (CV.At.move (g := g.bare) (g' := (g.rn N ix).bare) rn_bare (fun _ _ h => by cases h) (fun b q hq => ⟨?_, rfl⟩) (CV.At.toBare (hnr k hk f hf) hi))⟩
            have hq : g.κ b = _ := hq
            show (g.rn N ix).κ b = _
            simp only [Gh.rn, hq, hm]
        | box ty cells =>
          obtain ⟨b, cs, h1, h2, h3, h4, h5⟩ := hent _ hq (by simp)
          refine ⟨b, cs, by rw [hρ, List.length_map]; exact h1, by simp [Gh.rn, h2, hm], h3, by rw [List.length_map]; exact h4, fun j c hjc => ?_⟩
          rw [List.getElem?_map] at hjc
          cases hj : cells[j]? with
          | none => rw [hj] at hjc; cases hjc
          | some c0 =>
            rw [hj] at hjc
            obtain rfl := Option.some.inj hjc
            obtain ⟨u, hu, hi⟩ := h5 j c0 hj
            exact ⟨u, hu, rnC_at hm hi⟩
  · rw [hlen] at hn
    simp only [Gh.rn]
    rw [if_neg (by omega), List.getElem?_eq_none (by omega)]
  · rw [hlen]
    simp only [Gh.rn] at hb
    split at hb
    · split at hb
      · rename_i m hm
        injection hb with hb; subst hb
        exact hlt hm
      · cases hb
    · split at hb <;> cases hb
    · rename_i h1 h2; exact absurd hb (h1 n)
  · rw [hlen]
    simp only [Gh.rn] at hb
    split at hb
    · split at hb <;> cases hb
    · split at hb
      · rename_i m hm
        injection hb with hb _; subst hb
        exact hlt hm
      · cases hb
    · rename_i h1 h2; exact absurd hb (h2 n p)

theorem allAs_true (l : List AV) : allAs (fun _ => True) l := by
  have hC : ∀ cs : List CV, allC (fun _ => True) cs := fun cs => by induction cs with
    | nil => trivial
    | cons x cs ih => exact ⟨trivial, ih⟩
  have hS : ∀ x : SV, allS (fun _ => True) x := fun x => by cases x with
    | c x => trivial
    | agg cs => exact hC cs
  have hSs : ∀ xs : List SV, allSs (fun _ => True) xs := fun xs => by induction xs with
    | nil => trivial
    | cons x xs ih => exact ⟨hS x, ih⟩
  induction l with
  | nil => trivial
  | cons x l ih => exact ⟨by cases x with
    | s x => exact hS x
    | tup vs => exact hSs vs, ih⟩

/-- The side conditions of a renaming: of what goes on nothing is named twice, and rows hold no addresses. -/
def rnOk (N : Nat) : List Nat → Prop
  | [] => True
  | i :: l => N ≤ i ∧ rnFresh i l ∧ rnOk N l
where rnFresh (i : Nat) : List Nat → Prop
  | [] => True
  | j :: l => ¬ i = j ∧ rnFresh i l
theorem rnFresh_mem {i : Nat} : ∀ {l : List Nat}, rnOk.rnFresh i l → i ∉ l
  | [], _ => by simp
  | j :: l, h => by
    simp only [List.mem_cons, not_or]
    exact ⟨h.1, rnFresh_mem h.2⟩
theorem rnOk_spec {N : Nat} : ∀ {ix : List Nat}, rnOk N ix → (∀ i ∈ ix, N ≤ i) ∧ ix.Nodup
  | [], _ => ⟨by simp, List.nodup_nil⟩
  | i :: l, h => by
    obtain ⟨h1, h2⟩ := rnOk_spec h.2.2
    refine ⟨fun j hj => ?_, List.nodup_cons.2 ⟨rnFresh_mem h.2.1, h2⟩⟩
    rcases List.mem_cons.1 hj with rfl | hj
    · exact h.1
    · exact h1 j hj

/-- The entries A stay; of L those of ix go on, in that order. -/
theorem Goes.rn {N0 : Nat} {l : List AV} {A L : List Ent} {s : St} (ix : List Nat) (hN : N0 ≤ A.length) (hc : Closed A.length A) (hix : rnOk A.length ix) (hrow : rowsNr (ix.map (nth (A ++ L))))
    (h : Goes E N0 ⟨l.map (mapA (rnC A.length ix)), A ++ (ix.map (nth (A ++ L))).map (rnE A.length ix)⟩ s) : Goes E N0 ⟨l, A ++ L⟩ s := by
  rintro g0 w0 a w ⟨g, hN', hS, rel, hs⟩
  obtain ⟨h1, h2⟩ := rnOk_spec hix
  obtain ⟨r1, s1⟩ := RelH.rn rel rfl rfl hc h1 h2 hrow
  refine h g0 w0 a w ⟨_, by simp; omega, hS.trans s1 hN, r1, hs.1, mapAs_is (p := fun _ => True) (fun x v _ hi => rnC_is hi) (allAs_true l) hs.2⟩
theorem Fin.rn {N0 : Nat} {post : AV → List Ent → Prop} {v : AV} {A L : List Ent} (ix : List Nat) (hN : N0 ≤ A.length) (hc : Closed A.length A) (hix : rnOk A.length ix) (hrow : rowsNr (ix.map (nth (A ++ L))))
    (h : V.Fin E N0 post (mapA (rnC A.length ix) v) (A ++ (ix.map (nth (A ++ L))).map (rnE A.length ix))) : V.Fin E N0 post v (A ++ L) := by
  obtain ⟨v1, H1, he, hp⟩ := h
  refine ⟨v1, H1, fun g0 w0 g w u hN' hS rel hv => ?_, hp⟩
  obtain ⟨h1, h2⟩ := rnOk_spec hix
  obtain ⟨r1, s1⟩ := RelH.rn rel rfl rfl hc h1 h2 hrow
  exact he g0 w0 _ w u (by simp; omega) (hS.trans s1 hN) r1 (mapA_is (p := fun _ => True) (fun x v _ hi => rnC_is hi) ((allAs_true [v]).1) hv)
/-- What is new and not handed back is forgotten. -/
theorem Fin.cut {N0 : Nat} {post : AV → List Ent → Prop} {v : AV} {A L : List Ent} (hN : N0 ≤ A.length) (hc : Closed A.length A) (h : post (mapA (rnC A.length []) v) A) : V.Fin E N0 post v (A ++ L) :=
  Fin.rn [] hN hc trivial trivial (Fin.now (by simpa using h))
theorem Back.rn {N0 : Nat} {α : Type} {Iv : α → Prop} {μ : α → Nat} {f : α → St} {x : α} {l : List AV} {A L : List Ent} (ix : List Nat) (hN : N0 ≤ A.length) (hc : Closed A.length A) (hix : rnOk A.length ix) (hrow : rowsNr (ix.map (nth (A ++ L))))
    (h : Back E N0 Iv μ f x ⟨l.map (mapA (rnC A.length ix)), A ++ (ix.map (nth (A ++ L))).map (rnE A.length ix)⟩) : Back E N0 Iv μ f x ⟨l, A ++ L⟩ :=
  Back.via (Goes.rn ix hN hc hix hrow (Goes.refl _ _ _)) h
theorem Back.frz {N0 : Nat} {α : Type} {Iv : α → Prop} {μ : α → Nat} {f : α → St} {x : α} {l : List AV} (r : Nat) (h : frzP r H fun th ok H' => allAs ok l ∧ Back E N0 Iv μ f x ⟨l.map (mapA th), H'⟩) : Back E N0 Iv μ f x ⟨l, H⟩ := by
  unfold frzP at h
  split at h
  · rename_i e wd rn rc cell hr
    obtain ⟨h1, h2, h3, h4⟩ := h
    refine Back.via (Goes.frz r ?_) h4
    unfold frzP
    rw [hr]
    exact ⟨h1, h2, h3, Goes.refl _ _ _⟩
  · exact h.elim

/-! ### closed heaps -/
theorem F2.mem {α β : Type} {R : α → β → Prop} : ∀ {l : List α} {m : List β}, F2 R l m → ∀ a ∈ l, ∃ b, R a b
  | _ :: _, b :: _, hl, a, ha => by
    rcases List.mem_cons.1 ha with rfl | ha
    · exact ⟨b, hl.1⟩
    · exact F2.mem hl.2 a ha
theorem CV.At.belowOf {N : Nat} {l : Option (Nat × List Nat)} (hN : ∀ n p, g.ρ n = some p → n < N) {x : CV} {v : Value} (h : x.At g w l v) : x.under N := by
  cases x with
  | ptr n k f => simp only [CV.At] at h; obtain ⟨p, hp, _⟩ := h; exact hN _ _ hp
  | sl n wd k len cap =>
    simp only [CV.At] at h
    rcases h with ⟨h1, h2, _⟩ | ⟨p, hp, _⟩
    · exact .inl ⟨h1, h2⟩
    · exact .inr (hN _ _ hp)
  | fn q caps =>
    simp only [CV.At] at h
    obtain ⟨cs, _, hc⟩ := h
    intro c hcm
    obtain ⟨_, p, hp, _⟩ := F2.mem hc c hcm
    exact hN _ _ hp
  | _ => trivial
theorem RelH.closed (r : RelH E g H w) : Closed H.length H := by
  have hN : ∀ n p, g.ρ n = some p → n < H.length := fun n p hp => by
    rcases Nat.lt_or_ge n H.length with h | h
    · exact h
    · rw [r.dom n h] at hp; cases hp
  intro n e he
  have hi := r.ent n e he
  cases e with
  | box t cells =>
    obtain ⟨b, cs, _, _, _, hl, hc⟩ := hi
    intro c hcm
    obtain ⟨i, hi⟩ := List.getElem?_of_mem hcm
    obtain ⟨u, _, hu⟩ := hc i c hi
    exact CV.At.belowOf hN hu
  | row ty wd len cap cell =>
    intro k hk f hf
    rcases hi with ⟨_, h0, _⟩ | ⟨b, o, cs, fz, _, _, _, _, _, _, hc⟩
    · omega
    · obtain ⟨u, _, hu⟩ := hc k hk f hf
      exact CV.At.belowOf hN hu
  | dead => trivial
/-- The heap may be taken for closed ahead of a call. -/
theorem Meets.closed {P : Program} {f : FuncId} {args : List AV} {post : AV → List Ent → Prop} (h : Closed H.length H → Meets E P f args H post) : Meets E P f args H post :=
  fun g w us r hu => h r.closed g w us r hu
theorem Closed.set {N n : Nat} {A : List Ent} {e : Ent} (h : Closed N A) (he : e.below N) : Closed N (setn A n e) := by
  intro m e' hm
  rw [setn_eq] at hm
  by_cases hnm : n = m
  · subst hnm
    rcases Nat.lt_or_ge n A.length with hl | hl
    · rw [List.getElem?_set_self hl] at hm
      exact (Option.some.inj hm) ▸ he
    · rw [List.getElem?_eq_none (by simpa using hl)] at hm; cases hm
  · rw [List.getElem?_set_ne hnm] at hm
    exact h m e' hm
def belowL (N : Nat) : List CV → Prop
  | [] => True
  | x :: l => x.under N ∧ belowL N l
theorem below_box {N ty : Nat} {cells : List CV} (h : belowL N cells) : (Ent.box ty cells).below N := by
  intro c hc
  induction cells with
  | nil => cases hc
  | cons x l ih =>
    rcases List.mem_cons.1 hc with rfl | hc
    · exact h.1
    · exact ih h.2 hc
end

theorem mapA_s (f : CV → CV) (x : SV) : mapA f (.s x) = .s (mapS f x) := rfl
theorem mapA_tup (f : CV → CV) (vs : List SV) : mapA f (.tup vs) = .tup (vs.map (mapS f)) := rfl
theorem mapA_opt (f : CV → CV) (b : Bool) (v : AV) : mapA f (optA b v) = optA b (mapA f v) := by cases b <;> rfl
theorem mapS_c (f : CV → CV) (x : CV) : mapS f (.c x) = .c (f x) := rfl
theorem mapS_agg (f : CV → CV) (l : List CV) : mapS f (.agg l) = .agg (l.map f) := rfl
attribute [go_sem] packP packC cellsAt NrC_at2 NrC_byte NrU_at2 NrU_byte NrU_app NrC_app allNr allNr_app isNr frzP thaw thawOk mapS_c mapS_agg mapA_s mapA_tup mapA_opt allC allS allSs allA allAs rnI rnN rnL rnC rnE rowsNr rnOk rnOk.rnFresh CV.under belowL
end Go.V
end

section
set_option linter.unusedSimpArgs false
set_option linter.unusedVariables false
namespace Go.V
open Go Go.RowKit

theorem a64 {a b : Nat} (h : a + b < 9223372036854775808) : addw .i64 (a : Int) (b : Int) = ((a + b : Nat) : Int) := by
  rw [addw_i64 (by omega) (by omega)]; omega
theorem a64l {a n : Nat} (h : a + (OfNat.ofNat n : Nat) < 9223372036854775808) : addw .i64 (a : Int) (no_index (OfNat.ofNat n : Int)) = ((a + (OfNat.ofNat n : Nat) : Nat) : Int) := a64 h
theorem a64r {a n : Nat} (h : (OfNat.ofNat n : Nat) + a < 9223372036854775808) : addw .i64 (no_index (OfNat.ofNat n : Int)) (a : Int) = (((OfNat.ofNat n : Nat) + a : Nat) : Int) := a64 h
theorem s64 {a b : Nat} (h : b ≤ a ∧ a < 9223372036854775808) : subw .i64 (a : Int) (b : Int) = ((a - b : Nat) : Int) := by
  rw [subw_i64 (by omega) (by omega)]; omega
theorem s64l {a n : Nat} (h : (OfNat.ofNat n : Nat) ≤ a ∧ a < 9223372036854775808) : subw .i64 (a : Int) (no_index (OfNat.ofNat n : Int)) = ((a - (OfNat.ofNat n : Nat) : Nat) : Int) := s64 h
theorem ite_min (a b : Nat) {inst : Decidable (b < a)} : (@ite Int (b < a) inst (b : Int) (a : Int)) = ((min a b : Nat) : Int) := by
  split <;> congr 1 <;> omega
theorem ite_max (a b : Nat) {inst : Decidable (a < b)} : (@ite Int (a < b) inst (b : Int) (a : Int)) = ((max a b : Nat) : Int) := by
  split <;> congr 1 <;> omega
theorem zlt_l (a n : Nat) : ((a : Int) < (no_index (OfNat.ofNat n : Int))) = (a < (OfNat.ofNat n : Nat)) := propext Int.ofNat_lt
theorem zlt_r (a n : Nat) : ((no_index (OfNat.ofNat n : Int)) < (a : Int)) = ((OfNat.ofNat n : Nat) < a) := propext Int.ofNat_lt
theorem zle_l (a n : Nat) : ((a : Int) ≤ (no_index (OfNat.ofNat n : Int))) = (a ≤ (OfNat.ofNat n : Nat)) := propext Int.ofNat_le
theorem zle_r (a n : Nat) : ((no_index (OfNat.ofNat n : Int)) ≤ (a : Int)) = ((OfNat.ofNat n : Nat) ≤ a) := propext Int.ofNat_le
theorem zeq (a b : Nat) : ((a : Int) = (b : Int)) = (a = b) := propext Int.ofNat_inj
theorem byte_eq (b : UInt8) (n : Nat) (h : (OfNat.ofNat n : Nat) < 256) : (((b.toNat : Nat) : Int) = (no_index (OfNat.ofNat n : Int))) = (b = (OfNat.ofNat n : UInt8)) := by
  have : (OfNat.ofNat n : UInt8).toNat = n := by
    have h : n < 256 := h
    show (UInt8.ofNat n).toNat = n
    simp [UInt8.toNat_ofNat]; omega
  rw [show ((no_index (OfNat.ofNat n : Int)) : Int) = (n : Int) from rfl, zeq, ← UInt8.toNat_inj, this]
theorem len_eq {α : Type} (l : List α) (n : Nat) : ((l.length : Int) = (no_index (OfNat.ofNat n : Int))) = (l.length = (OfNat.ofNat n : Nat)) := propext Int.ofNat_inj
theorem nat_eq (a n : Nat) : ((a : Int) = (no_index (OfNat.ofNat n : Int))) = (a = (OfNat.ofNat n : Nat)) := propext Int.ofNat_inj
theorem take_all {α : Type} (l : List α) (n : Nat) (h : l.length ≤ n) : l.take n = l := List.take_of_length_le h
theorem all_nil {α : Type} {p : α → Prop} : (∀ x, x ∈ ([] : List α) → p x) = True := eq_true fun x hx => by cases hx
end Go.V
end
