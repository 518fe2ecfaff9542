/- V, part 14: the code of a function; loops; what a call of it meets. -/
import Derived.Test.YtoajalcngklenaaDoorV13
set_option linter.unusedSimpArgs false
set_option linter.unusedVariables false
namespace Go.V
open Go Go.RowKit

inductive Ex where
  | normal
  | exit (id : Nat)
  | ret
abbrev Cont := Ex → St → Prop
def exThen (n : St → Prop) (K : Cont) (_ : Tk n := tk) (_ : Tk K := tk) : Cont := fun e s => match e with
  | .normal => n s
  | .exit i => K (.exit i) s
  | .ret => K .ret s
def exBlock (id : Nat) (K : Cont) (_ : Tk K := tk) : Cont := fun e s => match e with
  | .normal => K .normal s
  | .exit i => if i = id then K .normal s else K (.exit i) s
  | .ret => K .ret s

/-- What goes over from one state to another: the second says no more. -/
def Goes (E : Env) (N0 : Nat) (s s' : St) : Prop := ∀ g0 w0 a w, Ok E N0 g0 w0 s a w → Ok E N0 g0 w0 s' a w
theorem Goes.refl (E : Env) (N0 : Nat) (s : St) : Goes E N0 s s := fun _ _ _ _ h => h
theorem Goes.trans {E : Env} {N0 : Nat} {s s' s'' : St} (h : Goes E N0 s s') (h' : Goes E N0 s' s'') : Goes E N0 s s'' := fun g0 w0 a w hok => h' g0 w0 a w (h g0 w0 a w hok)

/-- Back at the loop's head, with less to go. -/
def Back (E : Env) (N0 : Nat) {α : Type} (Iv : α → Prop) (μ : α → Nat) (f : α → St) (x : α) (s : St) (_ : Tk Iv := tk) (_ : Tk μ := tk) (_ : Tk f := tk) : Prop := ∃ y, (Iv y ∧ μ y < μ x) ∧ Goes E N0 s (f y)
theorem Back.mk {E : Env} {N0 : Nat} {α : Type} {Iv : α → Prop} {μ : α → Nat} {f : α → St} {x : α} {s : St} (y : α) (h : Iv y ∧ μ y < μ x) (hg : Goes E N0 s (f y)) : Back E N0 Iv μ f x s := ⟨y, h, hg⟩
/-- A loop: an invariant with a measure that falls. -/
def Loops (E : Env) (N0 : Nat) (body : Cont → St → Prop) (K : Cont) (s : St) (_ : Tk body := tk) (_ : Tk K := tk) : Prop :=
  ∃ (α : Type) (Iv : α → Prop) (μ : α → Nat) (f : α → St) (x0 : α), Iv x0 ∧ Goes E N0 s (f x0) ∧ ∀ x, Iv x → body (bx2 (exThen (fun s' => Back E N0 Iv μ f x s') K)) (f x)

structure Cx where
  E : Env
  P : Program
  T : Nat → TI
  N0 : Nat
  plan : Nat → Plan

def vc (X : Cx) : Code → Cont → St → Prop
  | .skip, K, s => K .normal s
  | .region id ops draw, K, s => match draw with
    | true => vcP X.E X.P X.T ops.toList false (X.plan id) (bx fun s => K .normal s) s
    | false => vcL X.E X.P X.T ops.toList ops.toList (bx fun s => K .normal s) s
  | .seq a b, K, s => vc X a (bx2 (exThen (fun s => vc X b K s) K)) s
  | .cond c a b, K, s => match s.ev c with
    | .s (.c (.bool t)) => condP t (vc X a K s) (vc X b K s)
    | _ => False
  | .block id b, K, s => vc X b (bx2 (exBlock id K)) s
  | .loop b, K, s => Loops X.E X.N0 (vc X b) K s
  | .exit id, K, s => K (.exit id) s
  | .ret, K, s => K .ret s
  | _, _, _ => False

/-- The plans fit the regions. -/
def plansOk (plan : Nat → Plan) : Code → Bool
  | .region id ops true => Region.noSelect ops && planOk ops false (plan id) (Array.replicate ops.size false) ops.size
  | .seq a b => plansOk plan a && plansOk plan b
  | .cond _ a b => plansOk plan a && plansOk plan b
  | .block _ b => plansOk plan b
  | .loop b => plansOk plan b
  | _ => true

def QOf (E : Env) (N0 : Nat) (g0 : Gh) (w0 : World) (K : Cont) : Exit → Act → World → Prop
  | .normal, a, w => ∃ s, K .normal s ∧ Ok E N0 g0 w0 s a w
  | .exit i, a, w => ∃ s, K (.exit i) s ∧ Ok E N0 g0 w0 s a w
  | .ret, a, w => ∃ s, K .ret s ∧ Ok E N0 g0 w0 s a w
  | _, _, _ => False
theorem QOf.plain (E : Env) (N0 : Nat) (g0 : Gh) (w0 : World) (K : Cont) : Plain (QOf E N0 g0 w0 K) := ⟨fun _ _ _ h => h, fun ⟨_, _, h⟩ => h⟩

theorem wp_loop_n {P : Program} {Q : Exit → Act → World → Prop} {c : Code} (I : Nat → Act → World → Prop)
    (round : ∀ n a w, I n a w → c.wp P (Exit.then (fun a' w' => ∃ m, m < n ∧ I m a' w') Q) a w) {n : Nat} {a : Act} {w : World} (h₀ : I n a w) : (Code.loop c).wp P Q a w := by
  intro b k cs
  have key : ∀ n a w, I n a w → ∃ e a' w', Q e a' w' ∧ Arrives P (lone (b.at a (.code c :: .inLoop c :: k)) cs w) b k cs e a' w' := by
    intro n
    induction n using Nat.strongRecOn with
    | _ n ih =>
      intro a w hI
      obtain ⟨e, a₁, w₁, hq, harr⟩ := round n a w hI b (.inLoop c :: k) cs
      cases e with
      | normal =>
        obtain ⟨m, hlt, hI₁⟩ := hq
        obtain ⟨e₂, a₂, w₂, hq₂, harr₂⟩ := ih m hlt a₁ w₁ hI₁
        exact ⟨e₂, a₂, w₂, hq₂, .of_steps (Steps.trans harr (.one step_inLoop)) harr₂⟩
      | exit id => exact ⟨_, a₁, w₁, hq, .pass (x := .inLoop c) rfl (fun _ _ => .inl (by simp)) harr⟩
      | goto l => exact ⟨_, a₁, w₁, hq, .pass (x := .inLoop c) rfl (fun _ _ => .inl (by simp)) harr⟩
      | ret => exact ⟨_, a₁, w₁, hq, .pass (x := .inLoop c) rfl (fun _ _ => .inl (by simp)) harr⟩
      | panic ch => exact ⟨_, a₁, w₁, hq, .pass (x := .inLoop c) rfl (fun _ _ => .inl (by simp)) harr⟩
      | outgrown => exact ⟨_, a₁, w₁, hq, .pass (x := .inLoop c) rfl (fun _ _ => .inl (by simp)) harr⟩
  obtain ⟨e, a', w', hq, harr⟩ := key n a w h₀
  exact ⟨e, a', w', hq, .of_steps (.one step_loop) harr⟩

theorem vc_sound {X : Cx} (hm : X.P.follows .mixedOrders = true) (hT : TOk X.P X.T) {g0 : Gh} {w0 : World} : ∀ (c : Code) {K : Cont} {s : St} {a : Act} {w : World}, plansOk X.plan c = true → vc X c K s → Ok X.E X.N0 g0 w0 s a w → c.wp X.P (QOf X.E X.N0 g0 w0 K) a w
  | .skip, K, s, a, w, _, h, hok => wp_skip ⟨s, h, hok⟩
  | .region id ops draw, K, s, a, w, hp, h, hok => by
    cases draw with
    | false =>
      simp only [vc] at h
      have := vcL_sound (Q := QOf X.E X.N0 g0 w0 K) (g0 := g0) (w0 := w0) (N0 := X.N0) hT (K := fun s => K .normal s) (fun s a w hK hok => ⟨s, hK, hok⟩) ops.toList s a w h hok
      exact wp_region_list (by simpa using this)
    | true =>
      simp only [vc] at h
      simp only [plansOk, Bool.and_eq_true] at hp
      exact draw_sound hm hT (QOf.plain _ _ _ _ _) (K := fun s => K .normal s) (fun s a w hK hok => ⟨s, hK, hok⟩) hp.1 hp.2 h hok
  | .seq x y, K, s, a, w, hp, h, hok => by
    simp only [plansOk, Bool.and_eq_true] at hp
    refine wp_seq (wp_mono (vc_sound hm hT x hp.1 h hok) fun e a w hq => ?_)
    cases e with
    | normal => obtain ⟨s', hs', hok'⟩ := hq; exact vc_sound hm hT y hp.2 hs' hok'
    | exit i => exact hq
    | ret => exact hq
    | goto l => exact hq.elim
    | panic c => exact hq.elim
    | outgrown => exact hq.elim
  | .cond c x y, K, s, a, w, hp, h, hok => by
    simp only [plansOk, Bool.and_eq_true] at hp
    simp only [vc] at h
    split at h
    · rename_i t ht
      obtain ⟨g, hN, hS, r, hs⟩ := hok
      have hc : a.eval c = .bool t := by
        have := hs.ev c
        rw [ht] at this
        exact this
      refine wp_cond hc ?_
      cases t
      · exact vc_sound hm hT y hp.2 h ⟨g, hN, hS, r, hs⟩
      · exact vc_sound hm hT x hp.1 h ⟨g, hN, hS, r, hs⟩
    · exact h.elim
  | .block id b, K, s, a, w, hp, h, hok => by
    refine wp_block (wp_mono (vc_sound hm hT b (by simpa [plansOk] using hp) h hok) fun e a w hq => ?_)
    cases e with
    | normal => exact hq
    | exit i =>
      obtain ⟨s', hs', hok'⟩ := hq
      simp only [bx2_app, exBlock] at hs'
      simp only [Exit.inBlock]
      split
      · rename_i hi
        rw [if_pos hi] at hs'
        exact ⟨s', hs', hok'⟩
      · rename_i hi
        rw [if_neg hi] at hs'
        exact ⟨s', hs', hok'⟩
    | ret => exact hq
    | goto l => exact hq.elim
    | panic c => exact hq.elim
    | outgrown => exact hq.elim
  | .loop b, K, s, a, w, hp, h, hok => by
    simp only [vc, Loops] at h
    obtain ⟨α, Iv, μ, f, x0, hI, hgo, hstep⟩ := h
    refine wp_loop_n (fun n a w => ∃ x, μ x = n ∧ Iv x ∧ Ok X.E X.N0 g0 w0 (f x) a w) (fun n a w ⟨x, hn, hI, hok⟩ => ?_) (n := μ x0) ⟨x0, rfl, hI, hgo _ _ _ _ hok⟩
    refine wp_mono (vc_sound hm hT b (by simpa [plansOk] using hp) (hstep x hI) hok) fun e a w hq => ?_
    cases e with
    | normal =>
      obtain ⟨s', ⟨y, ⟨hI', hm'⟩, hgo⟩, hok'⟩ := hq
      exact ⟨μ y, hn ▸ hm', y, rfl, hI', hgo _ _ _ _ hok'⟩
    | exit i => exact hq
    | ret => exact hq
    | goto l => exact hq.elim
    | panic c => exact hq.elim
    | outgrown => exact hq.elim
  | .exit id, K, s, a, w, _, h, hok => wp_exit ⟨s, h, hok⟩
  | .ret, K, s, a, w, _, h, hok => wp_ret ⟨s, h, hok⟩

/-! ### loops -/
def sets : List AV → List (Nat × AV) → List AV
  | l, [] => l
  | l, (k, v) :: u => sets (setn l k v) u
def badsO : List Oper → List AV → List AV
  | [], l => l
  | o :: os, l => badsO os (put l o.dst .bad)
/-- What a code may write is forgotten. -/
def bads : Code → List AV → List AV
  | .region _ ops _, l => badsO ops.toList l
  | .seq a b, l => bads b (bads a l)
  | .cond _ a b, l => bads b (bads a l)
  | .block _ b, l => bads b l
  | .loop b, l => bads b l
  | _, l => l
def AvLe (a b : AV) : Prop := ∀ g w v, a.Is g w v → b.Is g w v
theorem AvLe.same {a b : AV} (h : a = b) : AvLe a b := fun _ _ _ hi => h ▸ hi
def SlotsLe : List AV → List AV → Prop
  | [], [] => True
  | a :: l, b :: m => AvLe a b ∧ SlotsLe l m
  | _, _ => False
theorem AvLe.is {g : Gh} {w : World} {a b : AV} {v : Value} (h : AvLe a b) (ha : a.Is g w v) : b.Is g w v := h g w v ha
theorem SlotsLe.is {g : Gh} {w : World} : ∀ {l m : List AV} {us : List Value}, SlotsLe l m → F2 (AV.Is g w) l us → F2 (AV.Is g w) m us
  | [], [], _, _, h => h
  | a :: l, b :: m, u :: us, h, hu => ⟨h.1.is hu.1, SlotsLe.is h.2 hu.2⟩
theorem Goes.slots {E : Env} {N0 : Nat} {l l' : List AV} {H H' : List Ent} (h : SlotsLe l l') (hH : H = H') : Goes E N0 ⟨l, H⟩ ⟨l', H'⟩ := by
  subst hH
  rintro g0 w0 a w ⟨g, hN, hS, r, hs⟩
  exact ⟨g, hN, hS, r, hs.1, h.is hs.2⟩

/-- A loop over a state x: its invariant, its measure, the slots and the heap that hang on it. -/
theorem Loops.on {E : Env} {P : Program} {T : Nat → TI} {N0 : Nat} {plan : Nat → Plan} {b : Code} {K : Cont} {s : St} {α : Type} (Iv : α → Prop) (μ : α → Nat) (U : α → List (Nat × AV)) (Hp : α → List Ent) (x0 : α)
    (h0 : Iv x0) (hgo : Goes E N0 s ⟨sets (bads b s.tmps) (U x0), Hp x0⟩)
    (hs : ∀ x, Iv x → vc ⟨E, P, T, N0, plan⟩ b (bx2 (exThen (fun s' => Back E N0 Iv μ (fun y => ⟨sets (bads b s.tmps) (U y), Hp y⟩) x s') K)) ⟨sets (bads b s.tmps) (U x), Hp x⟩) :
    Loops E N0 (vc ⟨E, P, T, N0, plan⟩ b) K s := ⟨α, Iv, μ, fun x => ⟨sets (bads b s.tmps) (U x), Hp x⟩, x0, h0, hgo, hs⟩

/-! ### a function's end -/
/-- What a result and a heap may be taken for, at a function's end. -/
def Ends (E : Env) (N0 : Nat) (v : AV) (H : List Ent) (v' : AV) (H' : List Ent) : Prop :=
  ∀ g0 w0 g w r, N0 ≤ H.length → Step N0 g0 w0 g w → RelH E g H w → v.Is g w r → ∃ g', N0 ≤ H'.length ∧ Step N0 g0 w0 g' w ∧ RelH E g' H' w ∧ v'.Is g' w r
theorem Ends.refl (E : Env) (N0 : Nat) (v : AV) (H : List Ent) : Ends E N0 v H v H := fun _ _ g _ _ hN hS r hv => ⟨g, hN, hS, r, hv⟩
theorem Ends.trans {E : Env} {N0 : Nat} {v v' v'' : AV} {H H' H'' : List Ent} (h : Ends E N0 v H v' H') (h' : Ends E N0 v' H' v'' H'') : Ends E N0 v H v'' H'' := fun g0 w0 g w r hN hS hr hv => by
  obtain ⟨g', hN', hS', hr', hv'⟩ := h g0 w0 g w r hN hS hr hv
  exact h' g0 w0 g' w r hN' hS' hr' hv'
def Fin (E : Env) (N0 : Nat) (post : AV → List Ent → Prop) (v : AV) (H : List Ent) (_ : Tk post := tk) : Prop := ∃ v' H', Ends E N0 v H v' H' ∧ post v' H'
theorem Fin.now {E : Env} {N0 : Nat} {post : AV → List Ent → Prop} {v : AV} {H : List Ent} (h : post v H) : Fin E N0 post v H := ⟨v, H, Ends.refl _ _ _ _, h⟩

def resP (T : Nat → TI) : List ResultVar → St → (List SV → List Ent → Prop) → Prop
  | [], s, K => K [] s.heap
  | .tmp t :: l, s, K => match nth s.tmps t with
    | .s v => resP T l s (bx2 fun vs H => K (v :: vs) H)
    | _ => False
  | .cell a t :: l, s, K => loadP T t (nth s.tmps a) s.heap (bx2 fun v H => match v with
    | .s v => resP T l ⟨s.tmps, H⟩ (bx2 fun vs H => K (v :: vs) H)
    | _ => False)
def oneP (post : AV → List Ent → Prop) (vs : List SV) (H : List Ent) : Prop :=
  match vs with
  | [v] => post (.s v) H
  | vs => post (.tup vs) H
def resultP (T : Nat → TI) (rs : List ResultVar) (s : St) (post : AV → List Ent → Prop) : Prop := resP T rs s (bx2 (oneP post))

theorem resP_sound {P : Program} {T : Nat → TI} {E : Env} {w : World} {a : Act} (hT : TOk P T) : ∀ (rs : List ResultVar) {K : List SV → List Ent → Prop} {s : St} {g : Gh}, RelH E g s.heap w → Slots g w s.tmps a → resP T rs s K →
    ∃ us vs g' H', (rs.mapM fun (x : ResultVar) => match x with
      | .tmp t => (pure (a.tmps.getD t undef) : Sem Value)
      | .cell b t => do loadVar t (← asAddr (a.tmps.getD b undef))).run P w = .ok us w ∧ K vs H' ∧ s.heap.length ≤ H'.length ∧ RelH E g' H' w ∧ Step s.heap.length g w g' w ∧ F2 (SV.Is g' w) vs us
  | [], K, s, g, r, hs, h => ⟨[], [], g, s.heap, rfl, h, Nat.le_refl _, r, Step.refl _ _ _, trivial⟩
  | .tmp t :: l, K, s, g, r, hs, h => by
    simp only [resP] at h
    split at h
    · rename_i v hv
      obtain ⟨us, vs, g', H', hr, hK, hl, hR, hS, hF⟩ := resP_sound hT l r hs h
      have hi := hs.ev (.tmp t)
      simp only [St.ev, hv] at hi
      have hi' : v.Is g' w (a.tmps.getD t undef) := SV.Is.mono hS.imm (r.ext hS.name) hi
      exact ⟨a.tmps.getD t undef :: us, _ :: vs, g', H', by simp only [List.mapM_cons, Sem.run_bind, Sem.run_pure, Result.andThen_ok, hr], hK, hl, hR, hS, hi', hF⟩
    · exact h.elim
  | .cell b t :: l, K, s, g, r, hs, h => by
    simp only [resP] at h
    have hi := hs.ev (.tmp b)
    obtain ⟨u, hr, g1, H1, av, hK, hl1, hR1, hS1, hia⟩ := loadP_sound hT r hi h
    simp only [bx2_app] at hK
    split at hK
    · rename_i v
      obtain ⟨us, vs, g', H', hr', hK', hl, hR, hS, hF⟩ := resP_sound (s := ⟨s.tmps, H1⟩) hT l hR1 (hs.step r hS1) hK
      have hi' : v.Is g' w u := SV.Is.mono hS.imm (hR1.ext hS.name) hia
      refine ⟨u :: us, v :: vs, g', H', ?_, hK', Nat.le_trans hl1 hl, hR, hS1.trans hS hl1, hi', hF⟩
      have h1 := hr w (sees_refl w)
      have hp : ∃ ad, a.eval (.tmp b) = .pointer (some ad) := by
        have h0 := h.2
        simp only [St.ev] at hi
        split at h0
        · rename_i n k j hx
          rw [hx] at hi
          obtain ⟨p, _, hp⟩ := hi
          exact ⟨_, hp⟩
        · rename_i wd n cell k j hx
          rw [hx] at hi
          obtain ⟨b, o, hp, _⟩ := hi
          exact ⟨_, hp⟩
        · exact h0.elim
      obtain ⟨ad, had⟩ := hp
      rw [had] at h1
      have had' : a.tmps.getD b undef = .pointer (some ad) := had
      have h2 : (loadVar t ad).run P w = .ok u w := h1
      have h3 : (asAddr (a.tmps.getD b undef)).run P w = .ok ad w := by rw [had']; rfl
      simp only [List.mapM_cons, Sem.run_bind, Sem.run_pure, h3, Result.andThen_ok, h2, hr']
    · exact hK.elim

theorem resultP_sound {P : Program} {T : Nat → TI} {E : Env} {g : Gh} {w : World} {s : St} {a : Act} (hT : TOk P T) (r : RelH E g s.heap w) (hs : Slots g w s.tmps a) {fn : Func} {post : AV → List Ent → Prop} (h : resultP T fn.results.toList s post) :
    ∃ u v g' H', (results fn a.tmps).run P w = .ok u w ∧ post v H' ∧ s.heap.length ≤ H'.length ∧ RelH E g' H' w ∧ Step s.heap.length g w g' w ∧ v.Is g' w u := by
  obtain ⟨us, vs, g', H', hr, hK, hl, hR, hS, hF⟩ := resP_sound hT _ r hs h
  unfold results
  rw [Array.mapM_eq_mapM_toList]
  have hrun : ∀ f : ResultVar → Sem Value, (∀ x, f x = (match x with
      | .tmp t => (pure (a.tmps.getD t undef) : Sem Value)
      | .cell b t => do loadVar t (← asAddr (a.tmps.getD b undef)))) → (fn.results.toList.mapM f).run P w = .ok us w := fun f hf => by rw [show f = _ from funext hf]; exact hr
  simp only [Sem.run_bind, Sem.run_map]
  rw [hrun _ (fun x => by cases x <;> rfl)]
  simp only [Result.andThen_ok, Sem.run_pure]
  simp only [bx2_app, oneP] at hK
  split at hK
  · rename_i v
    match us, hF with
    | [u], hF => exact ⟨u, .s v, g', H', by simp, hK, hl, hR, hS, hF.1⟩
  · rename_i hne
    refine ⟨.tuple us.toArray, .tup vs, g', H', ?_, hK, hl, hR, hS, us, rfl, hF⟩
    have : ¬ (us.toArray.size = 1) := fun h1 => by
      have hl := hF.length
      simp at h1
      rw [h1] at hl
      match vs, hl with
      | [v], _ => exact hne v rfl
    rw [dif_neg this]

def exits (E : Env) (T : Nat → TI) (N0 : Nat) (rs : List ResultVar) (post : AV → List Ent → Prop) : Cont := fun e s => match e with
  | .normal => resultP T rs s (Fin E N0 post)
  | .ret => resultP T rs s (Fin E N0 post)
  | .exit _ => False
def undefs : Nat → List AV
  | 0 => []
  | n + 1 => .tup [] :: undefs n
theorem undefs_is (g : Gh) (w : World) : ∀ n, F2 (AV.Is g w) (undefs n) (List.replicate n undef)
  | 0 => trivial
  | n + 1 => ⟨⟨[], rfl, trivial⟩, undefs_is g w n⟩

theorem Meets.of_body {E : Env} {P : Program} {T : Nat → TI} (hm : P.follows .mixedOrders = true) (hT : TOk P T) {plan : Nat → Plan} {f : FuncId} {fn : Func} {c : Code} {n : Nat} {rs : List ResultVar} {args : List AV} {H : List Ent} {post : AV → List Ent → Prop}
    (hf : P.funcs[f]? = some fn) (hc : ∀ us w, (callFunc f us).run P w = .ok (.enter f us) w) (hn : fn.ntmps = n) (hrs : fn.results = rs.toArray) (hb : fn.body = some c) (hp : plansOk plan c = true)
    (h : vc ⟨E, P, T, H.length, plan⟩ c (bx2 (exits E T H.length rs post)) ⟨args ++ undefs (n - args.length), H⟩) : Meets E P f args H post := by
  intro g w us r hu
  subst hn
  have hrs' : fn.results.toList = rs := by rw [hrs]
  rw [← hrs'] at h
  refine .inl ⟨hc _ _, ?_⟩
  refine calls_of_wp hf hb ?_
  have hok : Ok E H.length g w ⟨args ++ undefs (fn.ntmps - args.length), H⟩ { tmps := us.toArray ++ Array.replicate (fn.ntmps - us.toArray.size) undef, defers := [] } w := by
    refine ⟨g, Nat.le_refl _, Step.refl _ _ _, r, rfl, ?_⟩
    simp only [Array.toList_append, Array.toList_replicate, List.size_toArray, ← hu.length]
    exact F2.append hu (undefs_is g w _)
  refine wp_mono (vc_sound (X := ⟨E, P, T, H.length, plan⟩) hm hT c hp h hok) fun e a w' hq => ?_
  have key : ∀ s, resultP T fn.results.toList s (Fin E H.length post) → Ok E H.length g w s a w' → a.defers = [] ∧ ∃ v, (results fn a.tmps).run P w' = .ok v w' ∧ ∃ g' H' av, post av H' ∧ H.length ≤ H'.length ∧ RelH E g' H' w' ∧ av.Is g' w' v ∧ Step H.length g w g' w' := fun s hs hok => by
    obtain ⟨g', hN, hS, r', hsl⟩ := hok
    obtain ⟨u, v, g1, H1, hr, ⟨v', H', he, hpost⟩, hl1, hR1, hS1, hi⟩ := resultP_sound hT r' hsl hs
    obtain ⟨g'', hN', hS', r'', hi'⟩ := he _ _ _ _ _ (Nat.le_trans hN hl1) (hS.trans hS1 hN) hR1 hi
    exact ⟨hsl.1, u, hr, g'', H', v', hpost, hN', r'', hi', hS'⟩
  cases e with
  | normal => obtain ⟨s, hs, hok⟩ := hq; exact key s hs hok
  | ret => obtain ⟨s, hs, hok⟩ := hq; exact key s hs hok
  | exit i => obtain ⟨s, hs, _⟩ := hq; exact hs.elim
  | goto l => exact hq.elim
  | panic c => exact hq.elim
  | outgrown => exact hq.elim
end Go.V
