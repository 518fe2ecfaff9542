/- V, part 11: an operation does what its state says. -/
import Derived.Test.YtoajalcngklenaaDoorV10
set_option linter.unusedSimpArgs false
set_option linter.unusedVariables false
namespace Go.V
open Go Go.RowKit

/-- The operations that neither look at the world nor turn it. -/
def pureOp : Op → Bool
  | .move _ | .assign _ | .pick .. | .nilCheck _ | .binOp .. | .unOp .. | .makeFunc .. | .slice .. | .fieldAddr .. | .field .. | .indexAddr .. | .index .. | .extract .. | .build .. => true
  | .call { callee := .builtin b, ..} => match b with | .len | .min | .max => true | _ => false
  | _ => false
def loadOp : Op → Bool
  | .load .. => true
  | _ => false
/-- The operations that turn nothing that is there. -/
def growOp : Op → Bool
  | .load .. | .alloc _ | .box .. | .buildSlice .. | .makeSlice .. => true
  | op => pureOp op

section
variable {P : Program} {T : Nat → TI} {E : Env} {g : Gh} {w : World} {s : St} {a : Act}

theorem pure_stOp {op : Op} {K : AV → List Ent → Prop} (hp : pureOp op = true) : stOp E P T op s K = popP T s.ev op (bx fun v => K v s.heap) := by
  cases op <;> simp [pureOp] at hp <;> try rfl
  rename_i c
  obtain ⟨callee, args, tys⟩ := c
  cases callee <;> simp at hp
  rename_i b
  cases b <;> simp at hp <;> rfl

theorem Slots.ev (hs : Slots g w s.tmps a) : ∀ x, (s.ev x).Is g w (a.eval x) := fun x => ev_is hs x

theorem pure_run (hT : TOk P T) (hs : Slots g w s.tmps a) {o : Oper} {K : AV → List Ent → Prop} (hp : pureOp o.op = true) (h : stOp E P T o.op s K) :
    ∃ u av, (∀ w', (execOp a.eval o).run P w' = .ok (.value u) w') ∧ K av s.heap ∧ av.Is g w u := by
  rw [pure_stOp hp] at h
  exact popP_sound hT hs.ev h

theorem load_run (hT : TOk P T) (r : RelH E g s.heap w) (hs : Slots g w s.tmps a) {o : Oper} {K : AV → List Ent → Prop} (hp : loadOp o.op = true) (h : stOp E P T o.op s K) :
    ∃ u, (∀ w', Sees w w' → (execOp a.eval o).run P w' = .ok (.value u) w') ∧ After E g s.heap w K u w := by
  obtain ⟨dst, op, type, pos, after, guard⟩ := o
  cases op <;> simp [loadOp] at hp
  rename_i t x
  obtain ⟨v, hr, g', H', av, hK, hl, hR, hS, hI⟩ := loadP_sound (t := t) (K := K) hT r (hs.ev x) h
  exact ⟨v, fun w' hw' => by simp [execOp, hr w' hw'], g', H', av, hK, hl, hR, hS, hI⟩

theorem sees_refl (w : World) : Sees w w := fun _ _ h => h

theorem grow_run (hT : TOk P T) (r : RelH E g s.heap w) (hs : Slots g w s.tmps a) {o : Oper} {K : AV → List Ent → Prop} (hp : growOp o.op = true) (h : stOp E P T o.op s K) :
    ∃ u w', (execOp a.eval o).run P w = .ok (.value u) w' ∧ Sees w w' ∧ After E g s.heap w K u w' := by
  by_cases hpu : pureOp o.op = true
  · obtain ⟨u, av, hr, hK, hi⟩ := pure_run hT hs hpu h
    exact ⟨u, w, hr w, sees_refl w, g, s.heap, av, hK, Nat.le_refl _, r, Step.refl _ _ _, hi⟩
  by_cases hlo : loadOp o.op = true
  · obtain ⟨u, hr, ha⟩ := load_run hT r hs hlo h
    exact ⟨u, w, hr w (sees_refl w), sees_refl w, ha⟩
  obtain ⟨dst, op, type, pos, after, guard⟩ := o
  cases op <;> simp only [growOp] at hp <;> first | exact absurd hp hpu | exact absurd rfl hlo | skip
  case alloc t =>
    obtain ⟨g', H', w', x, av, hr, ⟨hK, hl⟩, hR, hS, hI, hse⟩ := allocP_sound hT r (allocP_len h)
    exact ⟨x, w', by simp [execOp, hr], hse, g', H', av, hK, hl, hR, hS, hI⟩
  case box t x =>
    obtain ⟨g', H', w', x, av, hr, ⟨hK, hl⟩, hR, hS, hI, hse⟩ := boxP_sound (T := T) r (P := P) (hs.ev x) (boxP_len (T := T) h)
    exact ⟨x, w', by simp [execOp, hr], hse, g', H', av, hK, hl, hR, hS, hI⟩
  case buildSlice t n parts =>
    obtain ⟨g', H', w', x, av, hr, ⟨hK, hl⟩, hR, hS, hI, hse⟩ := buildSliceP_sound hT r (parts_is hs.ev parts) (buildSliceP_len h)
    exact ⟨x, w', by rw [map_arr] at hr; simp [execOp, hr], hse, g', H', av, hK, hl, hR, hS, hI⟩
  case makeSlice t l c =>
    obtain ⟨g', H', w', x, av, hr, ⟨hK, hl⟩, hR, hS, hI, hse⟩ := makeSliceP_sound hT r (hs.ev l) (hs.ev c) (makeSliceP_len h)
    exact ⟨x, w', by simp [execOp, hr], hse, g', H', av, hK, hl, hR, hS, hI⟩

theorem F2_caps {caps : List Nat} {cs : List Value} (h : F2 (fun n c => ∃ p, g.ρ n = some p ∧ c = .pointer (some ⟨p.blk, p.off, none⟩)) caps cs) : F2 (AV.Is g w) (capArgs caps) cs := by
  induction caps generalizing cs with
  | nil => cases cs <;> first | trivial | exact h.elim
  | cons n l ih =>
    cases cs with
    | nil => exact h.elim
    | cons c cs =>
      obtain ⟨⟨p, hp, hc⟩, h⟩ := h
      exact ⟨⟨p, hp, by rw [hc]; simp⟩, ih h⟩

theorem stOp_sound (hT : TOk P T) (r : RelH E g s.heap w) (hs : Slots g w s.tmps a) {o : Oper} {K : AV → List Ent → Prop} (h : stOp E P T o.op s K)
    {next : Act → World → Prop} {Q : Exit → Act → World → Prop} (hn : ∀ u w', After E g s.heap w K u w' → next (a.put o.dst u) w') : o.wp P a w next Q := by
  by_cases hp : growOp o.op = true
  · obtain ⟨u, w', hr, _, ha⟩ := grow_run hT r hs hp h
    unfold Oper.wp
    rw [hr]
    exact hn _ _ ha
  obtain ⟨dst, op, type, pos, after, guard⟩ := o
  cases op <;> simp only [growOp, pureOp, not_true_eq_false] at hp <;> simp only [stOp, popP] at h <;> try exact h.elim
  case store t x v =>
    obtain ⟨H', w', hr, ⟨hK, hl⟩, hR, hS⟩ := storeP_sound hT r (hs.ev x) (hs.ev v) (storeP_len h)
    unfold Oper.wp
    have : (execOp a.eval ⟨dst, .store t x v, type, pos, after, guard⟩).run P w = .ok .skip w' := by simp [execOp, hr]
    rw [this]
    exact hn undef w' ⟨g, H', .bad, hK, hl, hR, hS, trivial⟩
  case convert src dst' x =>
    obtain ⟨g', H', w', u, av, hr, ⟨hK, hl⟩, hR, hS, hI⟩ := convP_sound hT r (hs.ev x) (convP_len h)
    unfold Oper.wp
    have : (execOp a.eval ⟨dst, .convert src dst' x, type, pos, after, guard⟩).run P w = .ok (.value u) w' := by simp [execOp, hr]
    rw [this]
    exact hn u w' ⟨g', H', av, hK, hl, hR, hS, hI⟩
  case call c =>
    obtain ⟨callee, args, tys⟩ := c
    cases callee with
    | builtin b =>
      cases b <;> simp only [popP, builtinP] at h <;> try exact h.elim
      case append =>
        obtain ⟨g', H', w', u, av, hr, ⟨hK, hl⟩, hR, hS, hI⟩ := appendP_sound (ty := type) hT r (F2_map hs.ev args.toList) (appendP_len h)
        unfold Oper.wp
        rw [map_arr] at hr
        have : (execOp a.eval ⟨dst, .call ⟨.builtin .append, args, tys⟩, type, pos, after, guard⟩).run P w = .ok (.value u) w' := by simp [execOp, resolve, invoke, builtin, hr]
        rw [this]
        exact hn u w' ⟨g', H', av, hK, hl, hR, hS, hI⟩
      all_goals (exfalso; simp at hp)
    | invoke x n => exact h.elim
    | value f =>
      simp only at h
      split at h
      · rename_i q caps hf
        have hfv := hs.ev f
        rw [hf] at hfv
        obtain ⟨cs, hfv, hcs⟩ := hfv
        have hargs : F2 (AV.Is g w) (args.toList.map s.ev ++ capArgs caps) (args.toList.map a.eval ++ cs) := F2.append (F2_map hs.ev args.toList) (F2_caps hcs)
        have hex : execOp a.eval ⟨dst, .call ⟨.value f, args, tys⟩, type, pos, after, guard⟩ = callFunc q (args.toList.map a.eval ++ cs).toArray := by
          have : (args.toList.map a.eval ++ cs).toArray = args.map a.eval ++ cs.toArray := by apply Array.ext'; simp
          rw [this]
          simp [execOp, resolve, hfv, Deferred.ofValue, invoke]
        unfold Oper.wp
        rw [hex]
        rcases h g w _ r hargs with ⟨h1, h2⟩ | ⟨v, w', h1, g', H', av, h2⟩
        · rw [h1, Oper.upon_enter]
          refine h2.mono fun e w' he => ?_
          cases e with
          | returned v =>
            obtain ⟨g', H', av, hK, hl, hR, hI, hS⟩ := he
            exact hn v w' ⟨g', H', av, hK, hl, hR, hS, hI⟩
          | panicked c => exact he.elim
          | outgrown => exact he.elim
        · rw [h1]
          exact hn v w' ⟨g', H', av, h2.1, h2.2.1, h2.2.2.1, h2.2.2.2.2, h2.2.2.2.1⟩
      · exact h.elim
end
end Go.V
