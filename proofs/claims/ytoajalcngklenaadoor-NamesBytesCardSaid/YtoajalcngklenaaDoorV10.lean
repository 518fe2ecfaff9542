/- V, part 10: one operation: what it does to an abstract state; calls. -/
import Derived.Test.YtoajalcngklenaaDoorV9
set_option linter.unusedSimpArgs false
set_option linter.unusedVariables false
namespace Go.V
open Go Go.RowKit

theorem F2_map {α β γ : Type} {R : α → β → Prop} {f : γ → α} {h : γ → β} (hf : ∀ x, R (f x) (h x)) : ∀ l : List γ, F2 R (l.map f) (l.map h)
  | [] => trivial
  | x :: l => ⟨hf x, F2_map hf l⟩

theorem map_arr {α β : Type} (f : α → β) (a : Array α) : (a.toList.map f).toArray = a.map f := by apply Array.ext'; simp

section
variable {P : Program} {T : Nat → TI} {g : Gh} {w : World}

theorem value_of {m : Sem Value} {ρ : Operand → Value} {o : Oper} {K : AV → Prop} (ho : execOp ρ o = (do pure (.value (← m)))) (h : RunsTo P g w m K) :
    ∃ u av, (∀ w', (execOp ρ o).run P w' = .ok (.value u) w') ∧ K av ∧ av.Is g w u := by
  obtain ⟨v, av, hr, hK, hi⟩ := h
  exact ⟨v, av, fun w' => by rw [ho]; simp [hr], hK, hi⟩

theorem parts_is {ev : Operand → AV} {ρ : Operand → Value} (hev : ∀ x, (ev x).Is g w (ρ x)) (parts : Array (Nat × Operand)) :
    F2 (fun (a : Nat × AV) (b : Nat × Value) => a.1 = b.1 ∧ a.2.Is g w b.2) (parts.toList.map fun p => (p.1, ev p.2)) (parts.toList.map fun p => (p.1, ρ p.2)) :=
  F2_map (R := fun (a : Nat × AV) (b : Nat × Value) => a.1 = b.1 ∧ a.2.Is g w b.2) (fun x => ⟨rfl, hev x.2⟩) _

theorem opt_is {ev : Operand → AV} {ρ : Operand → Value} (hev : ∀ x, (ev x).Is g w (ρ x)) (x : Option Operand) : OptIs g w (x.map ev) (x.map ρ) := by
  cases x with
  | none => trivial
  | some x => exact hev x

theorem popP_sound (hT : TOk P T) {ev : Operand → AV} {ρ : Operand → Value} (hev : ∀ x, (ev x).Is g w (ρ x)) {o : Oper} {K : AV → Prop} (h : popP T ev o.op K) :
    ∃ u av, (∀ w', (execOp ρ o).run P w' = .ok (.value u) w') ∧ K av ∧ av.Is g w u := by
  obtain ⟨dst, op, type, pos, after, guard⟩ := o
  cases op <;> simp only [popP] at h <;> try exact h.elim
  case move x => exact ⟨_, _, fun _ => rfl, h, hev x⟩
  case assign x => exact ⟨_, _, fun _ => rfl, h, hev x⟩
  case pick c a b =>
    split at h
    · rename_i t hc
      have h1 := hev c
      rw [hc] at h1
      have h2 : ρ c = .bool t := h1
      cases t
      · exact ⟨_, _, fun w' => by simp [execOp, h2, asBool], h, hev b⟩
      · exact ⟨_, _, fun w' => by simp [execOp, h2, asBool], h, hev a⟩
    · exact h.elim
  case nilCheck x =>
    obtain ⟨hK, hr⟩ := nilCheckP_sound (P := P) (hev x) h
    exact ⟨_, _, hr ρ x _ rfl rfl, hK, hev x⟩
  case binOp op t x y yt => exact value_of rfl (binP_sound hT (hev x) (hev y) h)
  case unOp op t x => exact value_of rfl (unP_sound (hev x) h)
  case makeFunc fn first captured =>
    have := makeFuncP_sound (P := P) (F2_map hev first.toList) (F2_map hev captured.toList) h
    exact value_of (by simp only [execOp, map_arr]) this
  case slice t x lo hi mx => exact value_of rfl (sliceP_sound hT (hev x) (opt_is hev lo) (opt_is hev hi) (opt_is hev mx) h)
  case fieldAddr s x f => exact value_of rfl (fieldAddrP_sound hT (hev x) h)
  case field s x f => exact value_of rfl (fieldP_sound hT (hev x) h)
  case indexAddr t x i => exact value_of rfl (indexAddrP_sound hT (hev x) (hev i) h)
  case index t x i => exact value_of rfl (indexP_sound hT (hev x) (hev i) h)
  case extract x i => exact value_of rfl (extractP_sound (hev x) h)
  case build t parts =>
    have := buildP_sound (P := P) hT (parts_is hev parts) h
    refine value_of ?_ this
    simp only [execOp, map_arr]
  case call c =>
    obtain ⟨callee, args, tys⟩ := c
    cases callee <;> simp only at h <;> try exact h.elim
    rename_i b
    have he : ∃ cons, ∀ w', (execOp ρ ⟨dst, .call ⟨.builtin b, args, tys⟩, type, pos, after, guard⟩).run P w' = (builtin b tys type cons (args.map ρ)).run P w' :=
      ⟨_, fun w' => rfl⟩
    obtain ⟨cons, he⟩ := he
    obtain ⟨v, av, hr, hK, hi⟩ := builtinP_sound (P := P) (ty := type) (cons := cons) hT (F2_map hev args.toList) h
    refine ⟨v, av, fun w' => ?_, hK, hi⟩
    rw [he, ← map_arr]
    exact hr w'
end

/-! ### calls -/
/-- A call of f: one of a body, or one of what the model does by itself. -/
def CallsTo (P : Program) (f : FuncId) (us : Array Value) (w : World) (R : Value → World → Prop) : Prop :=
  ((callFunc f us).run P w = .ok (.enter f us) w ∧ Calls P f us w fun | .returned v, w' => R v w' | _, _ => False) ∨
  ∃ v w', (callFunc f us).run P w = .ok (.value v) w' ∧ R v w'

/-- What a call of f does to a heap. -/
def Meets (E : Env) (P : Program) (f : FuncId) (args : List AV) (H : List Ent) (post : AV → List Ent → Prop) (_ : Tk post := tk) : Prop :=
  ∀ g w us, RelH E g H w → F2 (AV.Is g w) args us → CallsTo P f us.toArray w fun r w' => ∃ g' H' v, post v H' ∧ H.length ≤ H'.length ∧ RelH E g' H' w' ∧ v.Is g' w' r ∧ Step H.length g w g' w'

theorem CallsTo.mono {P : Program} {f : FuncId} {us : Array Value} {w : World} {R R' : Value → World → Prop} (h : CallsTo P f us w R) (hR : ∀ v w', R v w' → R' v w') : CallsTo P f us w R' := by
  rcases h with ⟨h1, h2⟩ | ⟨v, w', h1, h2⟩
  · exact .inl ⟨h1, h2.mono fun e w' he => by cases e <;> first | exact hR _ _ he | exact he⟩
  · exact .inr ⟨v, w', h1, hR _ _ h2⟩
theorem Meets.mono {E : Env} {P : Program} {f : FuncId} {args : List AV} {H : List Ent} {post post' : AV → List Ent → Prop} (h : Meets E P f args H post) (hp : ∀ v H', post v H' → post' v H') : Meets E P f args H post' :=
  fun g w us hr hu => (h g w us hr hu).mono fun v w' ⟨g', H', av, hpo, rest⟩ => ⟨g', H', av, hp _ _ hpo, rest⟩
theorem Meets_congr {E : Env} {P : Program} {f : FuncId} {args args' : List AV} {H H' : List Ent} {post : AV → List Ent → Prop} (ha : args = args') (hH : H = H') : Meets E P f args H post = Meets E P f args' H' post := by rw [ha, hH]

def capArgs : List Nat → List AV
  | [] => []
  | n :: l => .c (.ptr n 0 0) :: capArgs l

def stOp (E : Env) (P : Program) (T : Nat → TI) (op : Op) (s : St) (K : AV → List Ent → Prop) : Prop :=
  match op with
  | .load t a => loadP T t (s.ev a) s.heap K
  | .store t a x => storeP T t (s.ev a) (s.ev x) s.heap (bx fun H => K .bad H)
  | .alloc t => allocP T t s.heap K
  | .box t x => boxP T t (s.ev x) s.heap K
  | .buildSlice t n parts => buildSliceP T t n (parts.toList.map fun p => (p.1, s.ev p.2)) s.heap K
  | .makeSlice t l c => makeSliceP T t (s.ev l) (s.ev c) s.heap K
  | .convert src dst x => convP T src dst (s.ev x) s.heap K
  | .call { callee := .builtin .append, args, argTypes } => appendP T argTypes.toList (args.toList.map s.ev) s.heap K
  | .call { callee := .value f, args, .. } => match s.ev f with
    | .s (.c (.fn g caps)) => Meets E P g (args.toList.map s.ev ++ capArgs caps) s.heap K
    | _ => False
  | op => popP T s.ev op (bx fun v => K v s.heap)

section
variable {P : Program} {T : Nat → TI} {E : Env} {g : Gh} {w : World} {H : List Ent}

/-- What an operation leaves behind it. -/
def After (E : Env) (g : Gh) (H : List Ent) (w : World) (K : AV → List Ent → Prop) (u : Value) (w' : World) : Prop :=
  ∃ g' H' av, K av H' ∧ H.length ≤ H'.length ∧ RelH E g' H' w' ∧ Step H.length g w g' w' ∧ av.Is g' w' u

theorem storeP_len {t : Nat} {x v : AV} {K : List Ent → Prop} (h : storeP T t x v H K) : storeP T t x v H (fun H' => K H' ∧ H.length ≤ H'.length) := by
  have hl : ∀ n e, H.length ≤ (setn H n e).length := fun n e => by rw [setn_eq]; simp
  unfold storeP at *
  obtain ⟨hk, h⟩ := h
  refine ⟨hk, ?_⟩
  split at h
  · split at h
    · rename_i cs hcs
      try simp only [hcs]
      refine ⟨h.1, h.2.1, ?_⟩
      have h := h.2.2
      split at h
      · rename_i hn
        try simp only [hn]
        exact ⟨h.1, h.2.1, h.2.2, hl _ _⟩
      · rename_i hn
        try simp only [hn]
        exact ⟨h.1, h.2.1, h.2.2, hl _ _⟩
      · exact h.elim
    · exact h.elim
  · exact h.elim
theorem boxP_len {t : Nat} {v : AV} {K : AV → List Ent → Prop} (h : boxP T t v H K) : boxP T t v H (fun v H' => K v H' ∧ H.length ≤ H'.length) := by
  unfold boxP at *
  split at h
  · split at h
    · rename_i hcs
      try simp only [hcs]
      exact ⟨h, by simp⟩
    · exact h.elim
  · exact h.elim
theorem allocP_len {t : Nat} {K : AV → List Ent → Prop} (h : allocP T t H K) : allocP T t H (fun v H' => K v H' ∧ H.length ≤ H'.length) := ⟨h.1, h.2.1, h.2.2, by simp⟩

theorem srcP_mono {wd : Nat} {y : AV} {K K' : Nat → (Nat → Nat → CV) → Prop} (hK : ∀ m c, K m c → K' m c) (h : srcP wd y H K) : srcP wd y H K' := by
  unfold srcP at *
  split at h
  · exact hK _ _ h
  · split at h
    · rename_i hn
      exact ⟨h.1, h.2.1, h.2.2.1, h.2.2.2.1, hK _ _ h.2.2.2.2⟩
    · exact h.elim
  · exact ⟨h.1, h.2.1, hK _ _ h.2.2⟩
  · exact ⟨h.1, hK _ _ h.2⟩
  · exact h.elim
theorem fillP_mono {place : Nat → Option (Nat × Nat)} {K K' : List CV → Prop} (hK : ∀ cs, K cs → K' cs) : ∀ {parts : List (Nat × AV)} {cs : List CV}, fillP place cs parts K → fillP place cs parts K'
  | [], _, h => hK _ h
  | (i, .s x) :: parts, cs, h => by
    unfold fillP at *
    split at h
    · rename_i off size xs h1 h2
      try simp only [h1, h2]
      exact ⟨h.1, h.2.1, fillP_mono hK h.2.2⟩
    · exact h.elim
  | (i, .tup x) :: parts, cs, h => by simp [fillP] at h
theorem buildSliceP_len {t n : Nat} {parts : List (Nat × AV)} {K : AV → List Ent → Prop} (h : buildSliceP T t n parts H K) : buildSliceP T t n parts H (fun v H' => K v H' ∧ H.length ≤ H'.length) := by
  unfold buildSliceP at *
  split at h
  · refine ⟨h.1, h.2.1, h.2.2.1, h.2.2.2.1, fillP_mono (fun cs hc => ?_) h.2.2.2.2⟩
    simp only [bx_app] at hc ⊢
    exact ⟨hc, by simp⟩
  · exact h.elim
theorem makeSliceP_len {t : Nat} {l c : AV} {K : AV → List Ent → Prop} (h : makeSliceP T t l c H K) : makeSliceP T t l c H (fun v H' => K v H' ∧ H.length ≤ H'.length) := by
  unfold makeSliceP at *
  split at h
  · obtain ⟨h1, h2, h3, h4, h5, h6, h7, h9⟩ := h
    exact ⟨h1, h2, h3, h4, h5, h6, h7, h9, by simp⟩
  · exact h.elim
theorem convP_len {src dst : TypeId} {x : AV} {K : AV → List Ent → Prop} (h : convP T src dst x H K) : convP T src dst x H (fun v H' => K v H' ∧ H.length ≤ H'.length) := by
  unfold convP at *
  split at h
  · exact ⟨h, Nat.le_refl _⟩
  · exact ⟨h, Nat.le_refl _⟩
  · exact ⟨h, Nat.le_refl _⟩
  · unfold toBytesP at *
    split at h
    · exact ⟨h.1, h.2.1, fun c hc => ⟨h.2.2 c hc, by simp⟩⟩
    · exact h.elim
  · split at h
    · exact h.elim
    · rename_i hag
      rw [if_neg hag]
      split at h
      · rename_i hk
        try simp only [hk]
        unfold toStrP at *
        split at h
        · exact h.elim
        · exact ⟨h.1, srcP_mono (fun m cell ⟨h1, h2⟩ => ⟨h1, h2, Nat.le_refl _⟩) h.2⟩
        · exact h.elim
      · rename_i hk
        try simp only [hk]
        unfold toRunesStrP at *
        split at h
        · exact h.elim
        · exact ⟨h.1, srcP_mono (fun m cell ⟨h1, h2⟩ => ⟨h1, h2, Nat.le_refl _⟩) h.2⟩
        · exact h.elim
      · exact h.elim
  · exact h.elim
theorem appendP_len {ts : List TypeId} {xs : List AV} {K : AV → List Ent → Prop} (h : appendP T ts xs H K) : appendP T ts xs H (fun v H' => K v H' ∧ H.length ≤ H'.length) := by
  unfold appendP at *
  split at h
  · split at h
    · obtain ⟨h1, h2, h3, h4, h5, h6⟩ := h
      refine ⟨h1, h2, h3, h4, h5, srcP_mono (fun m src h => ?_) h6⟩
      clear h6
      unfold bx2 at h ⊢
      revert h
      intro h
      split at h
      · exact ⟨h.1, fun c hc => ⟨h.2 c hc, by simp⟩⟩
      · split at h
        · rename_i hn
          obtain ⟨a1, a2, a3, a4, a5, a6, a7, a8, a9⟩ := h
          exact ⟨a1, a2, a3, a4, a5, a6, a7, a8, fun c hc => ⟨a9 c hc, by simp [setn_eq]⟩⟩
        · exact h.elim
      · exact h.elim
    · exact h.elim
  · exact h.elim
end
end Go.V
