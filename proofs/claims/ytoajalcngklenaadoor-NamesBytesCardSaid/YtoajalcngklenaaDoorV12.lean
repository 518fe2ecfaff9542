/- V, part 12: regions: one after another, and in whatever order. -/
import Derived.Test.YtoajalcngklenaaDoorV11
import Derived.Still
set_option linter.unusedSimpArgs false
set_option linter.unusedVariables false
namespace Go.V
open Go Go.RowKit

/-- A state of ours and one of the model, N0 names and the world w0 being what was there at the function's begin. -/
def Ok (E : Env) (N0 : Nat) (g0 : Gh) (w0 : World) (s : St) (a : Act) (w : World) : Prop :=
  ∃ g, N0 ≤ s.heap.length ∧ Step N0 g0 w0 g w ∧ RelH E g s.heap w ∧ Slots g w s.tmps a

def guardV (ops : List Oper) (s : St) (j : Nat) : AV :=
  match ops[j]? with
  | some o => match o.dst with
    | some d => nth s.tmps d
    | none => .bad
  | none => .bad
def gM (a : AV) (want : Bool) (p q : Prop) (_ : Tk p := tk) (_ : Tk q := tk) : Prop :=
  match a with
  | .s (.c (.bool b)) => condP (b == want) p q
  | .tup [] => q
  | _ => False
def vcO (E : Env) (P : Program) (T : Nat → TI) (ops : List Oper) (o : Oper) (K : St → Prop) (s : St) : Prop :=
  match o.guard with
  | none => stOp E P T o.op s (bx2 fun v H => K ⟨put s.tmps o.dst v, H⟩)
  | some (j, want) => gM (guardV ops s j) want (stOp E P T o.op s (bx2 fun v H => K ⟨put s.tmps o.dst v, H⟩)) (K ⟨put s.tmps o.dst (.tup []), s.heap⟩)
def vcL (E : Env) (P : Program) (T : Nat → TI) (ops : List Oper) : List Oper → (St → Prop) → St → Prop
  | [], K, s => K s
  | o :: l, K, s => vcO E P T ops o (bx fun s => vcL E P T ops l K s) s

/-- In which order the operations of a region are gone through. -/
inductive Plan where
  | done
  | take (i : Nat) (p : Plan)
  | one (i : Nat) (p : Plan)
  | fork (i : Nat) (p q : Plan)
  | nil
def Plan.heads : Plan → List Nat
  | .fork i _ q => i :: q.heads
  | _ => []
def calmB (ops : Array Oper) (listed : Array Bool) (i : Nat) : Bool :=
  match ops[i]? with
  | none => false
  | some oi => (pureOp oi.op || loadOp oi.op) && (List.range ops.size).all fun j => j == i || listed.getD j true || match ops[j]? with
      | some oj => oj.after.any (fun e => Region.binds .any e && e.on == i) || (oi.apart ops oj && (pureOp oi.op || growOp oj.op))
      | none => true
def planOk (ops : Array Oper) : Bool → Plan → Array Bool → Nat → Bool
  | false, .done, l, _ => (Region.ready .any ops l).isEmpty
  | false, .take i p, l, n + 1 => (Region.ready .any ops l).contains i && calmB ops l i && planOk ops false p (l.setIfInBounds i true) n
  | false, .one i p, l, n + 1 => (Region.ready .any ops l == [i]) && planOk ops false p (l.setIfInBounds i true) n
  | false, .fork i p q, l, n + 1 => (Region.ready .any ops l == i :: q.heads) && planOk ops false p (l.setIfInBounds i true) n && planOk ops true q l (n + 1)
  | true, .fork i p q, l, n + 1 => planOk ops false p (l.setIfInBounds i true) n && planOk ops true q l (n + 1)
  | true, .nil, _, _ => true
  | _, _, _, _ => false
def vcI (E : Env) (P : Program) (T : Nat → TI) (ops : List Oper) (i : Nat) (K : St → Prop) (s : St) : Prop :=
  match ops[i]? with
  | some o => vcO E P T ops o K s
  | none => False
def vcP (E : Env) (P : Program) (T : Nat → TI) (ops : List Oper) : Bool → Plan → (St → Prop) → St → Prop
  | false, .done, K, s => K s
  | false, .take i p, K, s => vcI E P T ops i (bx fun s => vcP E P T ops false p K s) s
  | false, .one i p, K, s => vcI E P T ops i (bx fun s => vcP E P T ops false p K s) s
  | false, .fork i p q, K, s => vcI E P T ops i (bx fun s => vcP E P T ops false p K s) s ∧ ∀ K' : St → Prop, vcI E P T ops i (bx fun s => vcP E P T ops false p K' s) s → vcP E P T ops true q K' s
  | true, .fork i p q, K, s => vcI E P T ops i (bx fun s => vcP E P T ops false p K s) s ∧ vcP E P T ops true q K s
  | true, .nil, _, _ => True
  | _, _, _, _ => False

section
variable {P : Program} {T : Nat → TI} {E : Env} {N0 : Nat} {g0 : Gh} {w0 : World} {s : St} {a : Act} {w : World}

theorem Ok.after {g : Gh} (hN : N0 ≤ s.heap.length) (hS : Step N0 g0 w0 g w) (r : RelH E g s.heap w) (hs : Slots g w s.tmps a) {K : AV → List Ent → Prop} {u : Value} {w' : World} (h : After E g s.heap w K u w') (d : Option Tmp) :
    ∃ av H', K av H' ∧ Ok E N0 g0 w0 ⟨put s.tmps d av, H'⟩ (a.put d u) w' := by
  obtain ⟨g', H', av, hK, hl, hR, hS', hI⟩ := h
  exact ⟨av, H', hK, g', Nat.le_trans hN hl, hS.trans hS' hN, hR, (hs.step r hS').put d hI⟩

theorem Ok.undef {s : St} {d : Option Tmp} (h : Ok E N0 g0 w0 s a w) : Ok E N0 g0 w0 ⟨put s.tmps d (.tup []), s.heap⟩ (a.put d undef) w := by
  obtain ⟨g, hN, hS, r, hs⟩ := h
  exact ⟨g, hN, hS, r, hs.put d ⟨[], rfl, trivial⟩⟩

theorem guard_is {g : Gh} {ops : List Oper} (hs : Slots g w s.tmps a) {j : Nat} {x : AV} (h : guardV ops s j = x) :
    (∀ b, x = .d (.bool b) → yielded ops.toArray a.tmps j = some b) ∧ (x = .tup [] → yielded ops.toArray a.tmps j = none) := by
  unfold guardV at h
  unfold yielded
  cases ho : ops[j]? with
  | none => rw [ho] at h; subst h; simp
  | some o =>
    rw [ho] at h
    simp only at h
    cases hd : o.dst with
    | none => rw [hd] at h; subst h; simp
    | some d =>
      rw [hd] at h
      simp only at h
      rw [nth_eq] at h
      simp only [List.getElem?_toArray, ho, Option.bind_some, hd]
      cases hl : s.tmps[d]? with
      | none =>
        rw [hl] at h
        have hx : x = .bad := h.symm
        subst hx
        exact ⟨fun b hb => (by cases hb), fun hb => (by cases hb)⟩
      | some v =>
        rw [hl] at h
        simp only [Option.getD_some] at h
        subst h
        obtain ⟨u, hu, hi⟩ := F2.get hs.2 hl
        rw [Array.getElem?_toList] at hu
        rw [hu]
        refine ⟨fun b hb => ?_, fun hb => ?_⟩
        · subst hb
          have : u = .bool b := hi
          subst this; rfl
        · subst hb
          obtain ⟨us, rfl, hus⟩ := hi
          rfl

theorem wanted_none {o : Oper} {y : Nat → Option Bool} (h : o.guard = none) : Region.wanted o y = true := by simp [Region.wanted, h]
theorem wanted_some {o : Oper} {y : Nat → Option Bool} {j : Nat} {want : Bool} (h : o.guard = some (j, want)) : Region.wanted o y = (y j == some want) := by simp [Region.wanted, h]

/-- An operation with its guard: it is wanted and does what it says, or it is not. -/
theorem vcO_cases (hok : Ok E N0 g0 w0 s a w) {ops : List Oper} {o : Oper} {K : St → Prop} (h : vcO E P T ops o K s) :
    (Region.wanted o (yielded ops.toArray a.tmps) = true ∧ stOp E P T o.op s fun v H => K ⟨put s.tmps o.dst v, H⟩) ∨
    (Region.wanted o (yielded ops.toArray a.tmps) = false ∧ K ⟨put s.tmps o.dst (.tup []), s.heap⟩) := by
  obtain ⟨g, hN, hS, r, hs⟩ := hok
  unfold vcO at h
  split at h
  · rename_i hg
    exact .inl ⟨wanted_none hg, h⟩
  · rename_i j want hg
    rw [wanted_some hg]
    unfold gM at h
    split at h
    · rename_i b hb
      rw [(guard_is hs hb).1 b rfl]
      by_cases hbw : b = want
      · subst hbw
        simp only [beq_self_eq_true, condP_true] at h ⊢
        exact .inl ⟨trivial, h⟩
      · have h1 : (b == want) = false := by simpa using hbw
        have h2 : (some b == some want) = false := by simpa using hbw
        rw [h1, condP_false] at h
        exact .inr ⟨h2, h⟩
    · rename_i hb
      rw [(guard_is hs hb).2 rfl]
      exact .inr ⟨rfl, h⟩
    · exact h.elim

theorem vcO_sound (hT : TOk P T) (hok : Ok E N0 g0 w0 s a w) {ops : List Oper} {o : Oper} {K : St → Prop} (h : vcO E P T ops o K s)
    {next : Act → World → Prop} {Q : Exit → Act → World → Prop} (hn : ∀ s a w, K s → Ok E N0 g0 w0 s a w → next a w) :
    if Region.wanted o (yielded ops.toArray a.tmps) = true then o.wp P a w next Q else next (a.put o.dst undef) w := by
  rcases vcO_cases hok h with ⟨hw, h⟩ | ⟨hw, h⟩
  · rw [if_pos hw]
    obtain ⟨g, hN, hS, r, hs⟩ := hok
    refine stOp_sound hT r hs h fun u w' ha => ?_
    obtain ⟨av, H', hK, hok'⟩ := Ok.after hN hS r hs ha o.dst
    exact hn _ _ _ hK hok'
  · rw [if_neg (by rw [hw]; simp)]
    exact hn _ _ _ h hok.undef

theorem vcL_sound (hT : TOk P T) {ops : List Oper} {Q : Exit → Act → World → Prop} {K : St → Prop} (hn : ∀ s a w, K s → Ok E N0 g0 w0 s a w → Q .normal a w) :
    ∀ (l : List Oper) (s : St) (a : Act) (w : World), vcL E P T ops l K s → Ok E N0 g0 w0 s a w → wpList P ops.toArray Q l a w
  | [], s, a, w, h, hok => wpList_nil (hn s a w h hok)
  | o :: l, s, a, w, h, hok => wpList_step fun next hnext => vcO_sound hT hok h fun s a w hK hok' => hnext a w (vcL_sound hT hn l s a w hK hok')

/-! ### in whatever order -/
/-- One operation of a region; of what grows the heap at most it is kept that it does. -/
def gUp (P : Program) (ops : Array Oper) (Q : Exit → Act → World → Prop) (i : Nat) (K : Act → World → Prop) (a : Act) (w : World) : Prop :=
  match ops[i]? with
  | none => K a w
  | some o => if Region.wanted o (yielded ops a.tmps) = true then
      (if growOp o.op = true then ∃ v w', (execOp a.eval o).run P w = .ok (.value v) w' ∧ Sees w w' ∧ K (a.put o.dst v) w' else o.wp P a w K Q)
      else K (a.put o.dst undef) w
def gAny (P : Program) (ops : Array Oper) (Q : Exit → Act → World → Prop) : Nat → Array Bool → Act → World → Prop
  | 0, listed, a, w => Region.ready .any ops listed = [] ∧ Q .normal a w
  | fuel + 1, listed, a, w => (Region.ready .any ops listed = [] → Q .normal a w) ∧ ∀ i ∈ Region.ready .any ops listed, gUp P ops Q i (gAny P ops Q fuel (listed.setIfInBounds i true)) a w

theorem gUp_wpOp {ops : Array Oper} {Q : Exit → Act → World → Prop} {i : Nat} {K : Act → World → Prop} (h : gUp P ops Q i K a w) : wpOp P ops Q i K a w := by
  unfold gUp at h
  unfold wpOp
  cases ho : ops[i]? with
  | none => simp only [ho] at h; exact h
  | some o =>
    simp only [ho] at h ⊢
    split at h
    · rename_i hw
      rw [if_pos hw]
      refine .inl ?_
      split at h
      · obtain ⟨v, w', hr, _, hK⟩ := h
        unfold Oper.wp
        rw [hr]
        exact hK
      · exact h
    · rename_i hw
      rw [if_neg hw]
      exact h
theorem gUp_mono {ops : Array Oper} {Q : Exit → Act → World → Prop} {i : Nat} {K K' : Act → World → Prop} (hK : ∀ a w, K a w → K' a w) (h : gUp P ops Q i K a w) : gUp P ops Q i K' a w := by
  unfold gUp at *
  split
  · rename_i ho; simp only [ho] at h; exact hK _ _ h
  · rename_i o ho
    simp only [ho] at h
    split
    · rename_i hw
      rw [if_pos hw] at h
      split
      · rename_i hg
        rw [if_pos hg] at h
        obtain ⟨v, w', hr, hs, h⟩ := h
        exact ⟨v, w', hr, hs, hK _ _ h⟩
      · rename_i hg
        rw [if_neg hg] at h
        exact Oper.wp_mono hK h
    · rename_i hw
      rw [if_neg hw] at h
      exact hK _ _ h
theorem gAny_wpAny {ops : Array Oper} {Q : Exit → Act → World → Prop} : ∀ (fuel : Nat) (listed : Array Bool) (a : Act) (w : World), gAny P ops Q fuel listed a w → wpAny P .any ops Q fuel listed a w
  | 0, _, _, _, h => h
  | fuel + 1, listed, a, w, h => ⟨h.1, fun i hi => wpOp_mono (fun a w => gAny_wpAny fuel _ a w) (gUp_wpOp (h.2 i hi))⟩

/-- i comes to v: in every world ('full'), or in those that see what w has. -/
def YieldsG (P : Program) (ops : Array Oper) (full : Bool) (w : World) (o : Oper) (v : Value) (a : Act) : Prop :=
  (Region.wanted o (yielded ops a.tmps) = true ∧ ∀ w', (full = true ∨ Sees w w') → (execOp a.eval o).run P w' = .ok (.value v) w') ∨
  (Region.wanted o (yielded ops a.tmps) = false ∧ v = undef)
theorem Sees.trans {w w' w'' : World} (h : Sees w w') (h' : Sees w' w'') : Sees w w'' := fun a u hu => h' a u (h a u hu)
theorem YieldsG.of_same {ops : Array Oper} {full : Bool} {o : Oper} {v : Value} {a a' : Act} {w w' : World} (hy : YieldsG P ops full w o v a) (hs : full = true ∨ Sees w w') (he : execOp a'.eval o = execOp a.eval o)
    (hw : Region.wanted o (yielded ops a'.tmps) = Region.wanted o (yielded ops a.tmps)) : YieldsG P ops full w' o v a' := by
  unfold YieldsG at *
  rw [he, hw]
  refine hy.imp (fun h => ⟨h.1, fun w'' h'' => h.2 w'' ?_⟩) id
  rcases hs with hs | hs
  · exact .inl hs
  · exact h''.imp id (hs.trans ·)
theorem YieldsG.gUp {ops : Array Oper} {Q : Exit → Act → World → Prop} {full : Bool} {i : Nat} {o : Oper} {v : Value} (hi : ops[i]? = some o) (hg : growOp o.op = true) (hy : YieldsG P ops full w o v a)
    {K : Act → World → Prop} (h : K (a.put o.dst v) w) : gUp P ops Q i K a w := by
  unfold V.gUp
  simp only [hi]
  rcases hy with ⟨hw, hv⟩ | ⟨hw, rfl⟩
  · rw [if_pos hw, if_pos hg]
    exact ⟨v, w, hv w (.inr (sees_refl w)), sees_refl w, h⟩
  · rw [if_neg (by rw [hw]; simp)]
    exact h

def Plain (Q : Exit → Act → World → Prop) : Prop := (∀ c a w, ¬ Q (.panic c) a w) ∧ ¬ LetsOut Q

theorem gUp_put {ops : Array Oper} {Q : Exit → Act → World → Prop} (hQ : Plain Q) {full : Bool} {j : Nat} {oi oj : Oper} {v : Value} (hj : ops[j]? = some oj) (hap : oi.apart ops oj = true)
    (hsi : ∀ cs b, oi.op ≠ .select cs b) (hsj : ∀ cs b, oj.op ≠ .select cs b) (hc : full = true ∨ growOp oj.op = true) {K : Act → World → Prop}
    (hy : YieldsG P ops full w oi v a) (h : gUp P ops Q j K (a.put oi.dst v) w) :
    gUp P ops Q j (fun a' w' => YieldsG P ops full w' oi v a' ∧ K (a'.put oi.dst v) w') a w := by
  obtain ⟨h1, h2, h3⟩ := Oper.apart_spec hap
  have keep : ∀ u w', (full = true ∨ Sees w w') → YieldsG P ops full w' oi v (a.put oj.dst u) := fun u w' hs =>
    hy.of_same hs (execOp_put oi hsi a oj.dst u h3) (wanted_put oi a oj.dst u h3)
  by_cases hg : growOp oj.op = true
  · unfold gUp at *
    simp only [hj] at *
    rw [wanted_put oj a oi.dst v h1] at h
    split
    · rename_i hw
      rw [if_pos hw, if_pos hg] at h
      try rw [if_pos hg]
      rw [execOp_put oj hsj a oi.dst v h1] at h
      obtain ⟨u, w', hr, hs, hK⟩ := h
      exact ⟨u, w', hr, hs, keep u w' (.inr hs), by rw [← Act.put_comm a v u h2]; exact hK⟩
    · rename_i hw
      rw [if_neg hw] at h
      exact ⟨keep _ w (.inr (sees_refl w)), by rw [← Act.put_comm a v undef h2]; exact h⟩
  · have hf := hc.resolve_right hg
    subst hf
    have hy' : Yields P ops oi v a := by
      rcases hy with ⟨hw, hv⟩ | h
      · exact .inl ⟨hw, fun w => hv w (.inl rfl)⟩
      · exact .inr h
    have hw := wpOp_put (Q := Q) hj hap hsi hsj (fun c a w hp => absurd hp (hQ.1 c _ w)) hy' (gUp_wpOp h)
    unfold wpOp at hw
    unfold gUp
    simp only [hj] at hw ⊢
    have conv : ∀ a' w', Yields P ops oi v a' ∧ K (a'.put oi.dst v) w' → YieldsG P ops true w' oi v a' ∧ K (a'.put oi.dst v) w' := fun a' w' ⟨hy, hK⟩ => by
      refine ⟨?_, hK⟩
      rcases hy with ⟨hw, hv⟩ | h
      · exact .inl ⟨hw, fun w _ => hv w⟩
      · exact .inr h
    split
    · rename_i hwa
      rw [if_pos hwa] at hw
      try rw [if_neg hg]
      rcases hw with hw | hw
      · exact Oper.wp_mono conv hw
      · exact absurd hw.2 hQ.2
    · rename_i hwa
      rw [if_neg hwa] at hw
      exact conv _ _ hw

theorem no_select {op : Op} (h : growOp op = true) : ∀ cs b, op ≠ .select cs b := by
  intro cs b he; subst he; simp [growOp, pureOp] at h
end
end Go.V
