/- V, part 6: loads and stores, new boxes and rows. -/
import Derived.Test.YtoajalcngklenaaDoorV5
import Derived.Laws.IdiomCopy
set_option linter.unusedSimpArgs false
set_option linter.unusedVariables false
namespace Go.V
open Go Go.RowKit

def Dat.shared : Dat → Prop
  | .own .. => False
  | _ => True
def cellsFrom (cell : Nat → Nat → Dat) (k : Nat) : Nat → Nat → List CV
  | _, 0 => []
  | j, s + 1 => .d (cell k j) :: cellsFrom cell k (j + 1) s
def sharedFrom (cell : Nat → Nat → Dat) (k : Nat) : Nat → Nat → Prop
  | _, 0 => True
  | j, s + 1 => (cell k j).shared ∧ sharedFrom cell k (j + 1) s
def loadP (T : Nat → TI) (t : Nat) (x : AV) (H : List Ent) (K : AV → Prop) : Prop :=
  (T t).kind ≠ .other ∧ match x with
  | .s (.c (.ptr n k j)) => match nth H n with
    | .row _ wd len _ cell => k < len ∧ if (T t).kind.isAgg then j + (T t).size ≤ wd ∧ sharedFrom cell k j (T t).size ∧ K (.s (.agg (cellsFrom cell k j (T t).size)))
        else j < wd ∧ (cell k j).shared ∧ K (.d (cell k j))
    | .box _ cells => k = 0 ∧ if (T t).kind.isAgg then j + (T t).size ≤ cells.length ∧ K (.s (.agg ((cells.drop j).take (T t).size)))
        else j < cells.length ∧ K (.c (nth cells j))
    | .dead => False
  | .s (.c (.dptr wd n cell k j)) => if (T t).kind.isAgg then j + (T t).size ≤ wd ∧ K (.s (.agg (cellsFrom cell k j (T t).size)))
        else j < wd ∧ K (.d (cell k j))
  | _ => False

def datsOf : List CV → Option (List Dat)
  | [] => some []
  | .d (.own ..) :: _ => none
  | .d x :: l => match datsOf l with
    | some r => some (x :: r)
    | none => none
  | .sl _ 0 _ 0 0 :: l => match datsOf l with
    | some r => some (.lst 0 0 (fun _ _ => .bool false) :: r)
    | none => none
  | _ => none
def updCell (cell : Nat → Nat → Dat) (k j : Nat) (ds : List Dat) : Nat → Nat → Dat := fun k' f => if k' = k then (if j ≤ f ∧ f < j + ds.length then ds.getD (f - j) (.bool false) else cell k' f) else cell k' f
def okAll : List CV → Bool
  | [] => true
  | c :: l => c.ok && okAll l
def storeP (T : Nat → TI) (t : Nat) (x v : AV) (H : List Ent) (K : List Ent → Prop) : Prop :=
  (T t).kind ≠ .other ∧ match x, v with
  | .s (.c (.ptr n k j)), .s y => match y.cells with
    | some cs => cs.length = (T t).size ∧ okAll cs = true ∧ match nth H n with
      | .row ty wd len cap cell => match datsOf cs with
        | some ds => k < len ∧ j + cs.length ≤ wd ∧ K (setn H n (.row ty wd len cap (updCell cell k j ds)))
        | none => False
      | .box ty cells => k = 0 ∧ j + cs.length ≤ cells.length ∧ K (setn H n (.box ty (setAt cells j cs)))
      | .dead => False
    | none => False
  | _, _ => False
def boxP (T : Nat → TI) (t : Nat) (v : AV) (H : List Ent) (K : AV → List Ent → Prop) : Prop :=
  match v with
  | .s y => match y.cells with
    | some cs => K (.c (.ptr H.length 0 0)) (H ++ [.box t cs])
    | none => False
  | _ => False
def allocP (T : Nat → TI) (t : Nat) (H : List Ent) (K : AV → List Ent → Prop) : Prop :=
  (T t).kind ≠ .other ∧ (T t).zero ≠ [] ∧ K (.c (.ptr H.length 0 0)) (H ++ [.box t ((T t).zero.map constCV)])

/-- w' has what w has. -/
def Sees (w w' : World) : Prop := ∀ (a : Addr) (u : Value), w.cell? a = some u → w'.cell? a = some u
/-- A run that looks at cells and turns nothing. -/
def LoadsTo (P : Program) (g : Gh) (w : World) (m : Sem Value) (K : AV → Prop) : Prop := ∃ v av, (∀ w', Sees w w' → m.run P w' = .ok v w') ∧ K av ∧ av.Is g w v

section
variable {P : Program} {T : Nat → TI} {E : Env} {g : Gh} {w : World} {H : List Ent}

theorem Dat.Is.share {κ : Nat → Role} {x : Dat} {v : Value} {l : Option (Nat × Nat × Nat)} (hx : x.shared) (h : x.Is κ w l v) : x.Is κ w none v := by
  cases x with
  | own => exact hx.elim
  | _ => simpa [Dat.Is] using h

theorem Dat.Is.sharedOf {κ : Nat → Role} {x : Dat} {v : Value} (h : x.Is κ w none v) : x.shared := by
  cases x with
  | own => simp [Dat.Is] at h
  | _ => trivial
theorem sharedFrom_of {cell : Nat → Nat → Dat} {k wd : Nat} (h : ∀ f, f < wd → (cell k f).shared) : ∀ (s j : Nat), j + s ≤ wd → sharedFrom cell k j s
  | 0, _, _ => trivial
  | s + 1, j, hj => ⟨h j (by omega), sharedFrom_of h s (j + 1) (by omega)⟩
theorem loadCells_F2 {R : CV → Value → Prop} {b o : Nat} : ∀ (cs : List CV) (n : Nat), cs.length = n → (∀ i c, cs[i]? = some c → ∃ u, w.cell? ⟨b, o + i, none⟩ = some u ∧ R c u) →
    ∃ us : List Value, (∀ w', Sees w w' → (loadCells ⟨b, o, none⟩ n).run P w' = .ok us.toArray w') ∧ F2 R cs us := by
  intro cs n hn h
  have hex : ∀ i, i < n → ∃ u, w.cell? ⟨b, o + i, none⟩ = some u := fun i hi => by
    obtain ⟨u, hu, _⟩ := h i cs[i] (List.getElem?_eq_getElem (by omega))
    exact ⟨u, hu⟩
  refine ⟨(List.range n).map fun i => (w.cell? ⟨b, o + i, none⟩).getD undef, fun w' hw' => ?_, ?_⟩
  · refine run_loadCells (P := P) w' ⟨b, o, none⟩ n _ (fun j hj => ?_)
    obtain ⟨u, hu⟩ := hex j hj
    rw [Addr.add_off, hw' _ _ hu, hu]; rfl
  · subst hn
    clear hex
    induction cs generalizing o with
    | nil => simp [F2]
    | cons c cs ih =>
      rw [List.length_cons, List.range_succ_eq_map, List.map_cons, List.map_map]
      obtain ⟨u, hu, hr⟩ := h 0 c rfl
      refine ⟨by rw [hu]; exact hr, ?_⟩
      have := ih (o := o + 1) (fun i c' hc' => by
        obtain ⟨u, hu, hr⟩ := h (i + 1) c' (by simpa using hc')
        exact ⟨u, by rw [show o + 1 + i = o + (i + 1) by omega]; exact hu, hr⟩)
      have he : ((fun i => (w.cell? ⟨b, o + i, none⟩).getD undef) ∘ Nat.succ) = (fun i => (w.cell? ⟨b, o + 1 + i, none⟩).getD undef) := by
        funext i
        simp only [Function.comp, Nat.succ_eq_add_one]
        rw [show o + (i + 1) = o + 1 + i by omega]
      rw [he]
      exact this

theorem cellsFrom_length (cell : Nat → Nat → Dat) (k : Nat) : ∀ (s j : Nat), (cellsFrom cell k j s).length = s
  | 0, _ => rfl
  | s + 1, j => by simp [cellsFrom, cellsFrom_length cell k s (j + 1)]
theorem cellsFrom_get (cell : Nat → Nat → Dat) (k : Nat) : ∀ (s j i : Nat), i < s → (cellsFrom cell k j s)[i]? = some (.d (cell k (j + i)))
  | s + 1, j, 0, _ => rfl
  | s + 1, j, i + 1, h => by
    simp only [cellsFrom, List.getElem?_cons_succ]
    rw [cellsFrom_get cell k s (j + 1) i (by omega), show j + 1 + i = j + (i + 1) by omega]
theorem sharedFrom_get (cell : Nat → Nat → Dat) (k : Nat) : ∀ (s j i : Nat), i < s → sharedFrom cell k j s → (cell k (j + i)).shared
  | s + 1, j, 0, _, h => h.1
  | s + 1, j, i + 1, hi, h => by
    have := sharedFrom_get cell k s (j + 1) i (by omega) h.2
    rwa [show j + 1 + i = j + (i + 1) by omega] at this

theorem nth_ent {n : Nat} {e : Ent} (h : nth H n = e) (hne : e ≠ .dead) : H[n]? = some e := by
  rw [nth_eq] at h
  cases hh : H[n]? with
  | none => rw [hh] at h; exact absurd h.symm hne
  | some x => rw [hh] at h; rw [← h]; rfl

/-- A load from cells of data. -/
theorem load_data (hT : TOk P T) {t : Nat} (hk : (T t).kind ≠ .other) {b o k wd j : Nat} {cell : Nat → Nat → Dat} {K : AV → Prop}
    (hc : ∀ f, f < wd → ∃ u, w.cell? ⟨b, o + (k * wd + f), none⟩ = some u ∧ ((cell k f).shared → (cell k f).Is g.κ w none u))
    (h : if (T t).kind.isAgg then j + (T t).size ≤ wd ∧ sharedFrom cell k j (T t).size ∧ K (.s (.agg (cellsFrom cell k j (T t).size))) else j < wd ∧ (cell k j).shared ∧ K (.d (cell k j))) :
    LoadsTo P g w (loadVar t ⟨b, o + (k * wd + j), none⟩) K := by
  have ha := hT.agg hk
  have hs := hT.size hk
  split at h
  · rename_i hag
    simp only [hag] at ha
    obtain ⟨hle, hsh, hK⟩ := h
    obtain ⟨us, hr, hF⟩ := loadCells_F2 (P := P) (w := w) (R := CV.Is g w) (b := b) (o := o + (k * wd + j)) (cellsFrom cell k j (T t).size) (T t).size (cellsFrom_length _ _ _ _) (fun i c hi => by
      have hlt : i < (T t).size := by
        have := (List.getElem?_eq_some_iff.1 hi).1
        rwa [cellsFrom_length] at this
      rw [cellsFrom_get _ _ _ _ _ hlt] at hi
      simp only [Option.some.injEq] at hi
      subst hi
      obtain ⟨u, hu, hi⟩ := hc (j + i) (by omega)
      exact ⟨u, by rw [← hu]; congr 2; omega, hi (sharedFrom_get _ _ _ _ _ hlt hsh)⟩)
    exact ⟨.agg us.toArray, _, fun w' hw' => by simp [loadVar, ha, hs, hr w' hw'], hK, ⟨us, rfl, hF⟩⟩
  · rename_i hag
    simp only [eq_false_of_ne_true hag] at ha
    obtain ⟨hlt, hsh, hK⟩ := h
    obtain ⟨u, hu, hi⟩ := hc j hlt
    exact ⟨u, _, fun w' hw' => by simp [loadVar, ha, hw' _ _ hu], hK, hi hsh⟩

theorem loadP_sound (hT : TOk P T) (r : RelH E g H w) {t : Nat} {x : AV} {K : AV → Prop} {v : Value} (hx : x.Is g w v) (h : loadP T t x H K) : LoadsTo P g w (Instr.loadAt t v) K := by
  unfold loadP at h
  obtain ⟨hk, h⟩ := h
  split at h
  · rename_i n k j
    obtain ⟨p, hp, rfl⟩ := hx
    have hrun : ∀ m : Sem Value, Instr.loadAt t (.pointer (some ⟨p.blk, p.off + (k * p.wd + j), none⟩)) = loadVar t ⟨p.blk, p.off + (k * p.wd + j), none⟩ := fun _ => rfl
    rw [hrun (pure undef)]
    split at h
    · rename_i ty wd len cap cell hn
      obtain ⟨hkl, h⟩ := h
      rcases r.ent n _ (nth_ent hn (by simp)) with ⟨_, h0, _⟩ | ⟨b, o, cs, fz, hp', hb, hh, hf, hl, hc, hcell⟩
      · omega
      · rw [hp] at hp'
        obtain rfl := Option.some.inj hp'
        exact load_data hT hk (fun f hf => by
          obtain ⟨u, hu, hi⟩ := hcell k hkl f hf
          exact ⟨u, hu, fun hs => Dat.Is.share hs hi⟩) h
    · rename_i ty cells hn
      obtain ⟨rfl, h⟩ := h
      obtain ⟨b, cs, hp', hb, hh, hl, hcell⟩ := r.ent n _ (nth_ent hn (by simp))
      rw [hp] at hp'
      obtain rfl := Option.some.inj hp'
      have hget : ∀ i c, cells[i]? = some c → ∃ u, w.cell? ⟨b, i, none⟩ = some u ∧ c.Is g w u := fun i c hc => by
        obtain ⟨u, hu, hi⟩ := hcell i c hc
        exact ⟨u, by simp [World.cell?, hh, hu], hi⟩
      have ha := hT.agg hk
      have hs := hT.size hk
      simp only [Nat.zero_mul, Nat.zero_add]
      split at h
      · rename_i hag
        simp only [hag] at ha
        obtain ⟨hle, hK⟩ := h
        obtain ⟨us, hr, hF⟩ := loadCells_F2 (P := P) (w := w) (R := CV.Is g w) (b := b) (o := j) ((cells.drop j).take (T t).size) (T t).size (by simp; omega) (fun i c hi => by
          rw [List.getElem?_take] at hi
          split at hi
          · rw [List.getElem?_drop] at hi
            exact hget _ _ hi
          · cases hi)
        exact ⟨.agg us.toArray, _, fun w' hw' => by simp [loadVar, ha, hs, hr w' hw'], hK, ⟨us, rfl, hF⟩⟩
      · rename_i hag
        simp only [eq_false_of_ne_true hag] at ha
        obtain ⟨hlt, hK⟩ := h
        obtain ⟨u, hu, hi⟩ := hget j cells[j] (List.getElem?_eq_getElem hlt)
        refine ⟨u, _, fun w' hw' => by simp [loadVar, ha, hw' _ _ hu], hK, ?_⟩
        rw [nth_eq, List.getElem?_eq_getElem hlt]; exact hi
    · exact h.elim
  · rename_i wd n cell k j
    obtain ⟨b, o, rfl, hkn, hb, hc⟩ := hx
    have hsh : ∀ f, f < wd → (cell k f).shared := fun f hf => by
      obtain ⟨u, _, hi⟩ := hc k hkn f hf
      exact Dat.Is.sharedOf hi
    refine load_data hT hk (fun f hf => by
      obtain ⟨u, hu, hi⟩ := hc k hkn f hf
      exact ⟨u, hu, fun _ => hi⟩) ?_
    split
    · rename_i hag
      rw [if_pos hag] at h
      exact ⟨h.1, sharedFrom_of hsh _ _ h.1, h.2⟩
    · rename_i hag
      rw [if_neg hag] at h
      exact ⟨h.1, hsh j h.1, h.2⟩
  · exact h.elim

theorem setCells_heap (b : Nat) : ∀ (vs : List Value) (o : Nat) (w : World) (cs : Array Value) (ty : TypeId) (fz : Nat × Nat), w.heap[b]? = some (.cells cs ty fz) →
    ∃ cs', (w.setCells b o vs).heap[b]? = some (.cells cs' ty fz) ∧ cs'.size = cs.size
  | [], o, w, cs, ty, fz, h => ⟨cs, h, rfl⟩
  | v :: vs, o, w, cs, ty, fz, h => by
    have h1 : (w.setCell ⟨b, o, none⟩ v).heap[b]? = some (.cells (cs.setIfInBounds o v) ty fz) := by
      simp [World.setCell, Array.getElem?_modify, h]
    obtain ⟨cs', h2, h3⟩ := setCells_heap b vs (o + 1) _ _ ty fz h1
    exact ⟨cs', h2, by simpa using h3⟩
theorem setCells_other (b c : Nat) (hbc : c ≠ b) : ∀ (vs : List Value) (o : Nat) (w : World), (w.setCells b o vs).heap[c]? = w.heap[c]?
  | [], _, _ => rfl
  | v :: vs, o, w => by
    rw [World.setCells, setCells_other b c hbc vs]
    simp only [World.setCell, Array.getElem?_modify]
    rw [if_neg (fun h => hbc h.symm)]
theorem setCells_size (b : Nat) : ∀ (vs : List Value) (o : Nat) (w : World), (w.setCells b o vs).heap.size = w.heap.size
  | [], _, _ => rfl
  | v :: vs, o, w => by rw [World.setCells, setCells_size b vs]; simp
theorem setCells_os (b : Nat) : ∀ (vs : List Value) (o : Nat) (w : World), (w.setCells b o vs).os = w.os ∧ (w.setCells b o vs).tape = w.tape ∧ (w.setCells b o vs).output = w.output
  | [], _, _ => ⟨rfl, rfl, rfl⟩
  | v :: vs, o, w => by rw [World.setCells]; exact setCells_os b vs (o + 1) _

theorem okAll_get : ∀ {l : List CV}, okAll l = true → ∀ (i : Nat) (c : CV), l[i]? = some c → c.ok = true
  | [], _, i, c, h => by simp at h
  | x :: l, ho, 0, c, h => by simp [okAll] at ho; simp at h; exact h ▸ ho.1
  | x :: l, ho, i + 1, c, h => by simp [okAll] at ho; exact okAll_get ho.2 i c (by simpa using h)
theorem F2.get' {α β : Type} {R : α → β → Prop} : ∀ {l : List α} {m : List β}, F2 R l m → ∀ {i : Nat} {b : β}, m[i]? = some b → ∃ a, l[i]? = some a ∧ R a b
  | [], [], _, i, a, h => by simp at h
  | x :: _, _ :: _, hl, 0, a, h => ⟨x, rfl, by simp at h; exact h ▸ hl.1⟩
  | _ :: _, _ :: _, hl, i + 1, a, h => by simpa using F2.get' hl.2 (by simpa using h)

theorem datsOf_is : ∀ {cs : List CV} {us : List Value} {ds : List Dat}, F2 (CV.Is g w) cs us → datsOf cs = some ds → F2 (fun d u => d.Is g.κ w none u ∧ d.shared) ds us
  | [], [], ds, _, h => by simp [datsOf] at h; subst h; trivial
  | c :: cs, u :: us, ds, hl, h => by
    unfold datsOf at h
    split at h
    · rename_i heq; cases heq
    · cases h
    · rename_i x l hno heq
      simp only [List.cons.injEq] at heq
      obtain ⟨rfl, rfl⟩ := heq
      split at h
      · rename_i r hr
        simp only [Option.some.injEq] at h
        subst h
        refine ⟨⟨hl.1, ?_⟩, datsOf_is hl.2 hr⟩
        cases x <;> first | trivial | (rename_i a b c d; exact hno a b c d rfl)
      · cases h
    · rename_i n wd k l heq
      simp only [List.cons.injEq] at heq
      obtain ⟨rfl, rfl⟩ := heq
      split at h
      · rename_i r hr
        simp only [Option.some.injEq] at h
        subst h
        refine ⟨⟨?_, trivial⟩, datsOf_is hl.2 hr⟩
        have h1 := hl.1
        have h2 : ∃ A, u = .slice A 0 0 := by
          rcases h1 with ⟨_, _, A, hA⟩ | ⟨p, _, _, hv⟩
          · exact ⟨A, hA⟩
          · exact ⟨_, hv⟩
        obtain ⟨A, rfl⟩ := h2
        simp only [Dat.Is]
        exact ⟨A, 0, rfl, Nat.le_refl _, .inl trivial⟩
      · cases h
    · cases h

theorem Dat.Is.lift {κ : Nat → Role} {x : Dat} {v : Value} (l : Option (Nat × Nat × Nat)) (h : x.Is κ w none v) : x.Is κ w l v := by
  cases x with
  | own => simp [Dat.Is] at h
  | _ => simpa [Dat.Is] using h

theorem setAt_length : ∀ (cs : List CV) (l : List CV) (j : Nat), (setAt l j cs).length = l.length
  | [], _, _ => rfl
  | c :: cs, l, j => by simp [setAt, setAt_length cs, setn_eq]
theorem setAt_get : ∀ (cs : List CV) (l : List CV) (j : Nat), j + cs.length ≤ l.length → ∀ i, (setAt l j cs)[i]? = if j ≤ i ∧ i < j + cs.length then cs[i - j]? else l[i]?
  | [], l, j, _, i => by
    rw [if_neg (by simp only [List.length_nil]; omega)]; rfl
  | c :: cs, l, j, h, i => by
    simp only [setAt, setn_eq]
    simp only [List.length_cons] at h ⊢
    rw [setAt_get cs (l.set j c) (j + 1) (by simp; omega) i]
    by_cases h1 : j + 1 ≤ i ∧ i < j + 1 + cs.length
    · rw [if_pos h1, if_pos (by omega), show i - j = (i - (j + 1)) + 1 by omega]; simp
    · rw [if_neg h1]
      by_cases h2 : i = j
      · subst h2
        rw [if_pos (by omega), List.getElem?_set_self (by omega)]
        simp
      · rw [if_neg (by omega), List.getElem?_set_ne (by omega)]

theorem setn_set (H : List Ent) (n : Nat) (e : Ent) : setn H n e = H.set n e := setn_eq H n e

theorem storeP_sound (hT : TOk P T) (r : RelH E g H w) {t : Nat} {x v : AV} {K : List Ent → Prop} {vx vv : Value} (hx : x.Is g w vx) (hv : v.Is g w vv) (h : storeP T t x v H K) :
    ∃ H' w', (Instr.storeAt t vx vv).run P w = .ok () w' ∧ K H' ∧ RelH E g H' w' ∧ Step H.length g w g w' := by
  unfold storeP at h
  obtain ⟨hk, h⟩ := h
  split at h
  · rename_i n k j y
    split at h
    · rename_i cs hcs
      obtain ⟨hsz, hok, h⟩ := h
      have hF := SV.cells_is hcs hv
      have hlen : cs.length = vv.cells.size := by rw [hF.length]; simp
      have hs := hT.size hk w
      obtain ⟨p, hp, rfl⟩ := hx
      have hone : ∀ u ∈ vv.cells.toList, u.oneCell' = true := fun u hu => by
        obtain ⟨i, hi⟩ := List.getElem?_of_mem hu
        obtain ⟨c, hc, hcu⟩ := F2.get' hF hi
        exact CV.Is.one (okAll_get hok i c hc) hcu
      have hrun : ∀ w', (storeCells ⟨p.blk, p.off + (k * p.wd + j), none⟩ vv.cells.toList 0).run P w = .ok () w' → (Instr.storeAt t (.pointer (some ⟨p.blk, p.off + (k * p.wd + j), none⟩)) vv).run P w = .ok () w' := fun w' h => by
        have : vv.cells.size = (T t).size := by omega
        simp [Instr.storeAt, Instr.sureAddr, storeVar, hs, this, h]
      split at h
      · rename_i ty wd len cap cell hn
        have hnH := nth_ent hn (by simp)
        have hnl : n < H.length := (List.getElem?_eq_some_iff.1 hnH).1
        split at h
        · rename_i ds hds
          obtain ⟨hkl, hjw, hK⟩ := h
          rcases r.ent n _ hnH with ⟨_, h0, _⟩ | ⟨b, o, cells, fz, hp', hb, hh, hf, hlc, hcap, hcell⟩
          · omega
          · rw [hp] at hp'
            obtain rfl := Option.some.inj hp'
            simp only at hrun ⊢
            have hD := datsOf_is hF hds
            have hdl : ds.length = vv.cells.toList.length := hD.length
            have hkw : k * wd + wd ≤ cap * wd := by
              have := Nat.mul_le_mul_right wd (show k + 1 ≤ cap by omega)
              rw [Nat.add_mul] at this; omega
            have hexi : ∀ i, i < cap * wd → ∃ u, w.cell? ⟨b, o + i, none⟩ = some u := fun i hi => by
              refine ⟨cells[o + i]'(by omega), ?_⟩
              simp [World.cell?, hh]
            have hfr : ∀ i, i < cap * wd → w.frozen? ⟨b, o + i, none⟩ = false := fun i hi => by
              simp only [World.frozen?, hh]
              rcases hf with hf | hf <;> simp <;> omega
            have hll : vv.cells.toList.length = cs.length := by rw [hF.length]
            have hst := run_storeCells_cells (P := P) b (o + (k * wd + j)) vv.cells.toList 0 w (fun i hi => by
                obtain ⟨u, hu⟩ := hexi (k * wd + j + i) (by omega)
                rw [show o + (k * wd + j) + 0 + i = o + (k * wd + j + i) by omega, hu]; rfl)
              (fun i hi => by
                rw [show o + (k * wd + j) + 0 + i = o + (k * wd + j + i) by omega]
                exact hfr _ (by omega)) hone
            rw [Nat.add_zero] at hst
            obtain ⟨cells', hh', hsz'⟩ := setCells_heap b vv.cells.toList (o + (k * wd + j)) w cells ty fz hh
            obtain ⟨ho1, ho2, ho3⟩ := setCells_os b vv.cells.toList (o + (k * wd + j)) w
            have hoth : ∀ c, g.κ c ≠ .nm n → (w.setCells b (o + (k * wd + j)) vv.cells.toList).heap[c]? = w.heap[c]? := fun c hc => setCells_other b c (fun e => hc (by rw [e]; exact hb)) _ _ _
            have hmono : ∀ c, g.κ c = .imm → g.κ c = .imm ∧ (w.setCells b (o + (k * wd + j)) vv.cells.toList).heap[c]? = w.heap[c]? := fun c hc => ⟨hc, hoth c (by rw [hc]; simp)⟩
            have hR := RelH.write n hnl r (.row ty wd len cap (updCell cell k j ds)) ho1 ho2 ho3 (setCells_size _ _ _ _) hoth (by
              refine .inr ⟨b, o, cells', fz, hp, hb, hh', hf, hlc, by omega, fun k' hk' f hf' => ?_⟩
              obtain ⟨u0, hu0, hi0⟩ := hcell k' hk' f hf'
              by_cases hin : k' = k ∧ j ≤ f ∧ f < j + ds.length
              · obtain ⟨rfl, hj1, hj2⟩ := hin
                have hfl : f - j < vv.cells.toList.length := by omega
                have hin := World.cell?_setCells_in b vv.cells.toList (o + (k' * wd + j)) w (fun i hi => by
                  obtain ⟨u, hu⟩ := hexi (k' * wd + j + i) (by omega)
                  rw [show o + (k' * wd + j) + i = o + (k' * wd + j + i) by omega, hu]; rfl) (f - j) hfl
                refine ⟨_, by rw [show o + (k' * wd + f) = o + (k' * wd + j) + (f - j) by omega]; exact hin, ?_⟩
                obtain ⟨d, hd, hdi⟩ := F2.get' hD (List.getElem?_eq_getElem hfl)
                have : updCell cell k' j ds k' f = d := by
                  simp only [updCell]
                  rw [if_pos trivial, if_pos ⟨hj1, hj2⟩]
                  simp [List.getD, hd]
                rw [this]
                exact Dat.Is.lift _ (Dat.Is.mono hmono _ _ hdi.1)
              · refine ⟨u0, ?_, ?_⟩
                · rw [World.cell?_setCells_out, hu0]
                  intro _ _
                  simp only
                  rw [hll]
                  rcases Nat.lt_trichotomy k' k with hlt | heq | hgt
                  · left
                    have := Nat.mul_le_mul_right wd (show k' + 1 ≤ k by omega)
                    rw [Nat.add_mul] at this; omega
                  · subst heq
                    have : ¬ (j ≤ f ∧ f < j + ds.length) := fun h => hin ⟨rfl, h⟩
                    omega
                  · right
                    have := Nat.mul_le_mul_right wd (show k + 1 ≤ k' by omega)
                    rw [Nat.add_mul] at this; omega
                · have : updCell cell k j ds k' f = cell k' f := by
                    simp only [updCell]
                    split
                    · rename_i hkk
                      rw [if_neg (fun h => hin ⟨hkk, h⟩)]
                    · rfl
                  rw [this]
                  exact Dat.Is.keep hmono (fun c hc => ⟨hc, hoth c (by rw [hc]; simp)⟩) _ _ hi0)
            exact ⟨_, _, hrun _ hst, by rw [setn_set] at hK; exact hK, hR.1, hR.2⟩
        · exact h.elim
      · rename_i ty cells hn
        have hnH := nth_ent hn (by simp)
        have hnl : n < H.length := (List.getElem?_eq_some_iff.1 hnH).1
        obtain ⟨rfl, hjl, hK⟩ := h
        obtain ⟨b, arr, hp', hb, hh, hl, hcell⟩ := r.ent n _ hnH
        rw [hp] at hp'
        obtain rfl := Option.some.inj hp'
        simp only [Nat.zero_mul, Nat.zero_add] at hrun ⊢
        have hll : vv.cells.toList.length = cs.length := by rw [hF.length]
        have hst := run_storeCells_cells (P := P) b j vv.cells.toList 0 w (fun i hi => by
            have : j + 0 + i < arr.size := by omega
            simp [World.cell?, hh]; omega)
          (fun i hi => by simp [World.frozen?, hh]) hone
        rw [Nat.add_zero] at hst
        obtain ⟨arr', hh', hsz'⟩ := setCells_heap b vv.cells.toList j w arr ty (0, 0) hh
        obtain ⟨ho1, ho2, ho3⟩ := setCells_os b vv.cells.toList j w
        have hoth : ∀ c, g.κ c ≠ .nm n → (w.setCells b j vv.cells.toList).heap[c]? = w.heap[c]? := fun c hc => setCells_other b c (fun e => hc (by rw [e]; exact hb)) _ _ _
        have hmono : ∀ c, g.κ c = .imm → g.κ c = .imm ∧ (w.setCells b j vv.cells.toList).heap[c]? = w.heap[c]? := fun c hc => ⟨hc, hoth c (by rw [hc]; simp)⟩
        have hR := RelH.write n hnl r (.box ty (setAt cells j cs)) ho1 ho2 ho3 (setCells_size _ _ _ _) hoth (by
          refine ⟨b, arr', by rw [setAt_length]; exact hp, hb, hh', by rw [setAt_length]; omega, fun i c hc => ?_⟩
          have hlt : i < arr'.size := by
            have := (List.getElem?_eq_some_iff.1 hc).1
            rw [setAt_length] at this; omega
          have hcell' : ∀ u, (w.setCells b j vv.cells.toList).cell? ⟨b, i, none⟩ = some u → arr'[i]? = some u := fun u hu => by
            simpa [World.cell?, hh'] using hu
          rw [setAt_get cs cells j hjl i] at hc
          split at hc
          · rename_i hij
            have hfl : i - j < vv.cells.toList.length := by omega
            have hin := World.cell?_setCells_in b vv.cells.toList j w (fun i hi => by
              have : j + i < arr.size := by omega
              simp [World.cell?, hh]; omega) (i - j) hfl
            rw [show j + (i - j) = i by omega] at hin
            obtain ⟨c', hc', hi⟩ := F2.get' hF (List.getElem?_eq_getElem hfl)
            rw [hc] at hc'
            obtain rfl := Option.some.inj hc'
            exact ⟨_, hcell' _ hin, CV.Is.mono hmono (fun _ _ h => h) hi⟩
          · rename_i hij
            obtain ⟨u, hu, hi⟩ := hcell i c hc
            refine ⟨u, hcell' u ?_, CV.Is.mono hmono (fun _ _ h => h) hi⟩
            rw [World.cell?_setCells_out]
            · simp [World.cell?, hh, hu]
            · intro _ _
              simp only
              omega)
        exact ⟨_, _, hrun _ hst, by rw [setn_set] at hK; exact hK, hR.1, hR.2⟩
      · exact h.elim
    · exact h.elim
  · exact h.elim
end
end Go.V
