/- V, part 6: loads and stores, new boxes and rows. -/
import Derived.Test.YtoajalcngklenaaDoorV5
import Derived.Laws.IdiomCopy
set_option linter.unusedSimpArgs false
set_option linter.unusedVariables false
namespace Go.V
open Go Go.RowKit

def cellsFrom (cell : Nat → Nat → CV) (k : Nat) : Nat → Nat → List CV
  | _, 0 => []
  | j, s + 1 => cell k j :: cellsFrom cell k (j + 1) s
def sharedFrom (cell : Nat → Nat → CV) (k : Nat) : Nat → Nat → Prop
  | _, 0 => True
  | j, s + 1 => (cell k j).shared ∧ sharedFrom cell k (j + 1) s
def updCell (cell : Nat → Nat → CV) (k j : Nat) (ds : List CV) : Nat → Nat → CV := fun k' f => if k' = k then (if j ≤ f ∧ f < j + ds.length then ds.getD (f - j) (.bool false) else cell k' f) else cell k' f
def okAll : List CV → Bool
  | [] => true
  | c :: l => c.ok && okAll l
def anyOwn : List CV → Bool
  | [] => false
  | .own .. :: _ => true
  | _ :: l => anyOwn l
/-- A load. Of what a place owns alone a single load makes a row of its own; a load of a whole struct freezes it. -/
def loadP (T : Nat → TI) (t : Nat) (x : AV) (H : List Ent) (K : AV → List Ent → Prop) : Prop :=
  (T t).kind ≠ .other ∧ match x with
  | .s (.c (.ptr n k j)) => match nth H n with
    | .row ty wd len cap cell => k < len ∧ if (T t).kind.isAgg then j + (T t).size ≤ wd ∧ sharedFrom cell k j (T t).size ∧ K (.s (.agg (cellsFrom cell k j (T t).size))) H
        else j < wd ∧ match cell k j with
          | .own e wd' m cl => ∀ c, m ≤ c → K (.c (.sl H.length wd' 0 m c)) (setn H n (.row ty wd len cap (updCell cell k j [.sl H.length wd' 0 m c])) ++ [.row e wd' m c cl])
          | y => K (.c y) H
    | .box ty cells => k = 0 ∧ if (T t).kind.isAgg then j + (T t).size ≤ cells.length ∧ (match anyOwn ((cells.drop j).take (T t).size) with
          | true => K (.s (.agg (((cells.drop j).take (T t).size).map CV.frz))) (setn H n (.box ty (setAt cells j (((cells.drop j).take (T t).size).map CV.frz))))
          | false => K (.s (.agg ((cells.drop j).take (T t).size))) H)
        else j < cells.length ∧ match nth cells j with
          | .own e wd' m cl => ∀ c, m ≤ c → K (.c (.sl H.length wd' 0 m c)) (setn H n (.box ty (setn cells j (.sl H.length wd' 0 m c))) ++ [.row e wd' m c cl])
          | y => K (.c y) H
    | .dead => False
  | .s (.c (.dptr wd n cell k j)) => if (T t).kind.isAgg then j + (T t).size ≤ wd ∧ K (.s (.agg (cellsFrom cell k j (T t).size))) H
        else j < wd ∧ K (.c (cell k j)) H
  | _ => False

def typedS (T : Nat → TI) (t : Nat) (x : SV) : SV :=
  match x with
  | .c x => .c (typed T t x)
  | x => x
def storeP (T : Nat → TI) (t : Nat) (x v : AV) (H : List Ent) (K : List Ent → Prop) : Prop :=
  (T t).kind ≠ .other ∧ match x, v with
  | .s (.c (.ptr n k j)), .s y => match (typedS T t y).cells with
    | some cs => cs.length = (T t).size ∧ okAll cs = true ∧ match nth H n with
      | .row ty wd len cap cell => k < len ∧ j + cs.length ≤ wd ∧ K (setn H n (.row ty wd len cap (updCell cell k j cs)))
      | .box ty cells => k = 0 ∧ j + cs.length ≤ cells.length ∧ K (setn H n (.box ty (setAt cells j cs)))
      | .dead => False
    | none => False
  | _, _ => False
def boxP (T : Nat → TI) (t : Nat) (v : AV) (H : List Ent) (K : AV → List Ent → Prop) : Prop :=
  match v with
  | .s y => match (typedS T t y).cells with
    | some cs => K (.c (.ptr H.length 0 0)) (H ++ [.box t cs])
    | none => False
  | _ => False
def allocP (T : Nat → TI) (t : Nat) (H : List Ent) (K : AV → List Ent → Prop) : Prop :=
  (T t).kind ≠ .other ∧ (T t).za ≠ [] ∧ K (.c (.ptr H.length 0 0)) (H ++ [.box t (T t).za])

/-- w' has what w has. -/
def Sees (w w' : World) : Prop := ∀ (a : Addr) (u : Value), w.cell? a = some u → w'.cell? a = some u
/-- A run that looks at cells and turns no world; what is said of the world may turn. -/
def LoadsTo (P : Program) (E : Env) (g : Gh) (H : List Ent) (w : World) (m : Sem Value) (K : AV → List Ent → Prop) : Prop :=
  ∃ v, (∀ w', Sees w w' → m.run P w' = .ok v w') ∧ ∃ g' H' av, K av H' ∧ H.length ≤ H'.length ∧ RelH E g' H' w ∧ Step H.length g w g' w ∧ av.Is g' w v

section
variable {P : Program} {T : Nat → TI} {E : Env} {g : Gh} {w : World} {H : List Ent}

theorem sharedFrom_of {cell : Nat → Nat → CV} {k wd : Nat} (h : ∀ f, f < wd → (cell k f).shared) : ∀ (s j : Nat), j + s ≤ wd → sharedFrom cell k j s
  | 0, _, _ => trivial
  | s + 1, j, hj => ⟨h j (by omega), sharedFrom_of h s (j + 1) (by omega)⟩
theorem loadCells_F2 {R : CV → Value → Prop} {b o : Nat} : ∀ (cs : List CV) (n : Nat), cs.length = n → (∀ i c, cs[i]? = some c → ∃ u, w.cell? ⟨b, o + i, none⟩ = some u ∧ R c u) →
    ∃ us : List Value, (∀ w', Sees w w' → (loadCells ⟨b, o, none⟩ n).run P w' = .ok us.toArray w') ∧ F2 R cs us := by
  intro cs n hn h
  have hex : ∀ i, i < n → ∃ u, w.cell? ⟨b, o + i, none⟩ = some u := fun i hi => by
    obtain ⟨u, hu, _⟩ := h i cs[i] (List.getElem?_eq_getElem (by omega))
    exact ⟨u, hu⟩
  refine ⟨(List.range n).map fun i => (w.cell? ⟨b, o + i, none⟩).getD undef, fun w' hw' => ?_, ?_⟩
  · refine run_loadCells (P := P) w' ⟨b, o, none⟩ n _ (fun j hj => ?_)
    obtain ⟨u, hu⟩ := hex j hj
    rw [Addr.add_off, hw' _ _ hu, hu]; rfl
  · subst hn
    clear hex
    induction cs generalizing o with
    | nil => simp [F2]
    | cons c cs ih =>
      rw [List.length_cons, List.range_succ_eq_map, List.map_cons, List.map_map]
      obtain ⟨u, hu, hr⟩ := h 0 c rfl
      refine ⟨by rw [hu]; exact hr, ?_⟩
      have := ih (o := o + 1) (fun i c' hc' => by
        obtain ⟨u, hu, hr⟩ := h (i + 1) c' (by simpa using hc')
        exact ⟨u, by rw [show o + 1 + i = o + (i + 1) by omega]; exact hu, hr⟩)
      have he : ((fun i => (w.cell? ⟨b, o + i, none⟩).getD undef) ∘ Nat.succ) = (fun i => (w.cell? ⟨b, o + 1 + i, none⟩).getD undef) := by
        funext i
        simp only [Function.comp, Nat.succ_eq_add_one]
        rw [show o + (i + 1) = o + 1 + i by omega]
      rw [he]
      exact this

theorem cellsFrom_length (cell : Nat → Nat → CV) (k : Nat) : ∀ (s j : Nat), (cellsFrom cell k j s).length = s
  | 0, _ => rfl
  | s + 1, j => by simp [cellsFrom, cellsFrom_length cell k s (j + 1)]
theorem cellsFrom_get (cell : Nat → Nat → CV) (k : Nat) : ∀ (s j i : Nat), i < s → (cellsFrom cell k j s)[i]? = some (cell k (j + i))
  | s + 1, j, 0, _ => rfl
  | s + 1, j, i + 1, h => by
    simp only [cellsFrom, List.getElem?_cons_succ]
    rw [cellsFrom_get cell k s (j + 1) i (by omega), show j + 1 + i = j + (i + 1) by omega]
theorem sharedFrom_get (cell : Nat → Nat → CV) (k : Nat) : ∀ (s j i : Nat), i < s → sharedFrom cell k j s → (cell k (j + i)).shared
  | s + 1, j, 0, _, h => h.1
  | s + 1, j, i + 1, hi, h => by
    have := sharedFrom_get cell k s (j + 1) i (by omega) h.2
    rwa [show j + 1 + i = j + (i + 1) by omega] at this

theorem nth_ent {n : Nat} {e : Ent} (h : nth H n = e) (hne : e ≠ .dead) : H[n]? = some e := by
  rw [nth_eq] at h
  cases hh : H[n]? with
  | none => rw [hh] at h; exact absurd h.symm hne
  | some x => rw [hh] at h; rw [← h]; rfl

theorem setAt_length : ∀ (cs : List CV) (l : List CV) (j : Nat), (setAt l j cs).length = l.length
  | [], _, _ => rfl
  | c :: cs, l, j => by simp [setAt, setAt_length cs, setn_eq]
theorem setAt_get : ∀ (cs : List CV) (l : List CV) (j : Nat), j + cs.length ≤ l.length → ∀ i, (setAt l j cs)[i]? = if j ≤ i ∧ i < j + cs.length then cs[i - j]? else l[i]?
  | [], l, j, _, i => by
    rw [if_neg (by simp only [List.length_nil]; omega)]; rfl
  | c :: cs, l, j, h, i => by
    simp only [setAt, setn_eq]
    simp only [List.length_cons] at h ⊢
    rw [setAt_get cs (l.set j c) (j + 1) (by simp; omega) i]
    by_cases h1 : j + 1 ≤ i ∧ i < j + 1 + cs.length
    · rw [if_pos h1, if_pos (by omega), show i - j = (i - (j + 1)) + 1 by omega]; simp
    · rw [if_neg h1]
      by_cases h2 : i = j
      · subst h2
        rw [if_pos (by omega), List.getElem?_set_self (by omega)]
        simp
      · rw [if_neg (by omega), List.getElem?_set_ne (by omega)]

/-- A load from cells of data. -/
theorem load_data (hT : TOk P T) {t : Nat} (hk : (T t).kind ≠ .other) {b o k wd j : Nat} {cell : Nat → Nat → CV} {K : AV → List Ent → Prop} (r : RelH E g H w)
    (hc : ∀ f, f < wd → ∃ u, w.cell? ⟨b, o + (k * wd + f), none⟩ = some u ∧ ((cell k f).shared → (cell k f).Is g w u))
    (h : if (T t).kind.isAgg then j + (T t).size ≤ wd ∧ sharedFrom cell k j (T t).size ∧ K (.s (.agg (cellsFrom cell k j (T t).size))) H else j < wd ∧ (cell k j).shared ∧ K (.c (cell k j)) H) :
    LoadsTo P E g H w (loadVar t ⟨b, o + (k * wd + j), none⟩) K := by
  have ha := hT.agg hk
  have hs := hT.size hk
  split at h
  · rename_i hag
    simp only [hag] at ha
    obtain ⟨hle, hsh, hK⟩ := h
    obtain ⟨us, hr, hF⟩ := loadCells_F2 (P := P) (w := w) (R := CV.Is g w) (b := b) (o := o + (k * wd + j)) (cellsFrom cell k j (T t).size) (T t).size (cellsFrom_length _ _ _ _) (fun i c hi => by
      have hlt : i < (T t).size := by
        have := (List.getElem?_eq_some_iff.1 hi).1
        rwa [cellsFrom_length] at this
      rw [cellsFrom_get _ _ _ _ _ hlt] at hi
      simp only [Option.some.injEq] at hi
      subst hi
      obtain ⟨u, hu, hi⟩ := hc (j + i) (by omega)
      exact ⟨u, by rw [← hu]; congr 2; omega, hi (sharedFrom_get _ _ _ _ _ hlt hsh)⟩)
    exact ⟨.agg us.toArray, fun w' hw' => by simp [loadVar, ha, hs, hr w' hw'], g, H, _, hK, Nat.le_refl _, r, Step.refl _ _ _, ⟨us, rfl, hF⟩⟩
  · rename_i hag
    simp only [eq_false_of_ne_true hag] at ha
    obtain ⟨hlt, hsh, hK⟩ := h
    obtain ⟨u, hu, hi⟩ := hc j hlt
    exact ⟨u, fun w' hw' => by simp [loadVar, ha, hw' _ _ hu], g, H, _, hK, Nat.le_refl _, r, Step.refl _ _ _, hi hsh⟩

/-- What was owned becomes a row of its own. -/
def Gh.unp (g : Gh) (n i j N : Nat) (pl : Option Place) : Gh := ⟨fun m => if m = N then pl else g.ρ m, fun b => match g.κ b with
    | .sub m (a :: c :: q) => if m = n ∧ a = i ∧ c = j then (match q with
      | [] => .nm N
      | x :: q => .sub N (x :: q)) else .sub m (a :: c :: q)
    | r => r⟩
theorem unp_imm {n i j N : Nat} {pl : Option Place} {b : Nat} (h : g.κ b = .imm) : (g.unp n i j N pl).κ b = .imm := by simp [Gh.unp, h]
theorem unp_free {n i j N : Nat} {pl : Option Place} {b : Nat} (h : g.κ b = .free) : (g.unp n i j N pl).κ b = .free := by simp [Gh.unp, h]
theorem unp_nm {n i j N : Nat} {pl : Option Place} {b m : Nat} (h : g.κ b = .nm m) : (g.unp n i j N pl).κ b = .nm m := by simp [Gh.unp, h]
theorem unp_other {n i j N : Nat} {pl : Option Place} {b m a c : Nat} {q : List Nat} (h : g.κ b = .sub m ([a, c] ++ q)) (hne : ¬ (m = n ∧ a = i ∧ c = j)) : (g.unp n i j N pl).κ b = .sub m ([a, c] ++ q) := by
  simp only [Gh.unp, h, List.cons_append, List.nil_append]; rw [if_neg hne]
theorem unp_in {n i j N : Nat} {pl : Option Place} {b x : Nat} {q : List Nat} (h : g.κ b = .sub n ([i, j] ++ x :: q)) : (g.unp n i j N pl).κ b = .sub N (x :: q) := by
  simp [Gh.unp, h]
theorem unp_at {n i j N : Nat} {pl : Option Place} {b : Nat} (h : g.κ b = .sub n [i, j]) : (g.unp n i j N pl).κ b = .nm N := by
  simp [Gh.unp, h]
theorem unp_nm_inv {n i j N : Nat} {pl : Option Place} {b m : Nat} (h : (g.unp n i j N pl).κ b = .nm m) : g.κ b = .nm m ∨ m = N := by
  simp only [Gh.unp] at h
  split at h
  · split at h
    · split at h
      · exact .inr (by injection h with h; exact h.symm)
      · cases h
    · cases h
  · exact .inl h
theorem unp_sub_inv {n i j N : Nat} {pl : Option Place} {b m : Nat} {p : List Nat} (h : (g.unp n i j N pl).κ b = .sub m p) : (∃ p', g.κ b = .sub m p') ∨ m = N := by
  simp only [Gh.unp] at h
  split at h
  · rename_i m' a c q hq
    split at h
    · split at h
      · cases h
      · exact .inr (by injection h with h _; exact h.symm)
    · exact .inl ⟨_, by injection h with h1 h2; rw [hq, h1]⟩
  · exact .inl ⟨_, h⟩

theorem RelH.unpack (r : RelH E g H w) {n i j : Nat} (hn : n < H.length) {ty wd m : Nat} {cell : Nat → Nat → CV} {v : Value} (hv : (CV.own ty wd m cell).At g w (some (n, [i, j])) v) :
    ∃ c pl, m ≤ c ∧ (CV.sl H.length wd 0 m c).Is (g.unp n i j H.length pl) w v ∧ ∀ e1 : Ent, e1.Is (g.unp n i j H.length pl) w n →
      RelH E (g.unp n i j H.length pl) (setn H n e1 ++ [.row ty wd m c cell]) w ∧ Step H.length g w (g.unp n i j H.length pl) w := by
  have hname : ∀ pl, ∀ x, x < H.length → (g.unp n i j H.length pl).ρ x = g.ρ x := fun pl x hx => by simp only [Gh.unp]; rw [if_neg (by omega)]
  have go : ∀ c pl (e1 : Ent), e1.Is (g.unp n i j H.length pl) w n → (Ent.row ty wd m c cell).Is (g.unp n i j H.length pl) w H.length →
      RelH E (g.unp n i j H.length pl) (setn H n e1 ++ [.row ty wd m c cell]) w ∧ Step H.length g w (g.unp n i j H.length pl) w := fun c pl e1 h1 h2 => by
    have hlen : (setn H n e1 ++ [Ent.row ty wd m c cell]).length = H.length + 1 := by simp [setn_eq]
    refine RelH.same r (fun b hb => unp_imm hb) (fun b hb => unp_free hb) (hname pl) (fun x hx => ?_) (fun b x hb => ?_) (fun b x p hb => ?_) (fun x e he => ?_)
    · rw [hlen] at hx; simp only [Gh.unp]; rw [if_neg (by omega)]; exact r.dom x (by omega)
    · rw [hlen]
      rcases unp_nm_inv hb with h | h
      · have := r.rol b x h; omega
      · omega
    · rw [hlen]
      rcases unp_sub_inv hb with ⟨p', h⟩ | h
      · have := r.rols b x p' h; omega
      · omega
    · rw [setn_eq] at he
      rcases Nat.lt_or_ge x H.length with hx | hx
      · rw [List.getElem?_append_left (by simpa using hx)] at he
        by_cases hxn : x = n
        · subst hxn
          rw [List.getElem?_set_self (by simpa using hx)] at he
          exact (Option.some.inj he) ▸ h1
        · rw [List.getElem?_set_ne (Ne.symm hxn)] at he
          refine Ent.Is.keep (fun b hb => ⟨unp_imm hb, rfl⟩) (r.ext (hname pl)) (hname pl x hx) (fun b hb => ⟨unp_nm hb, rfl⟩) (fun b p hb => ⟨?_, rfl⟩) (r.ent x e he)
          simp only [Gh.unp, hb]
          split
          · rename_i m' a c' q heq
            injection heq with h1 h2
            rw [if_neg (fun h => hxn (h1.trans h.1))]
            rw [h1, h2]
          · rfl
      · rw [List.getElem?_append_right (by simpa using hx)] at he
        simp only [List.length_set] at he
        rcases Nat.eq_zero_or_pos (x - H.length) with h0 | h0
        · rw [h0] at he
          obtain rfl := Option.some.inj he
          have : x = H.length := by omega
          subst this
          exact h2
        · rw [show x - H.length = (x - H.length - 1) + 1 by omega] at he
          simp at he
  simp only [CV.At] at hv
  rcases hv with ⟨h0, A, rfl⟩ | ⟨b, o, c, cs, fz, rfl, hc, hb, hh, hf, hsz, hcell⟩
  · subst h0
    refine ⟨0, none, Nat.le_refl _, .inl ⟨rfl, rfl, A, rfl⟩, fun e1 h1 => go 0 none e1 h1 (.inl ⟨by simp [Gh.unp], rfl, rfl⟩)⟩
  · refine ⟨c, some ⟨b, o, wd⟩, hc, .inr ⟨⟨b, o, wd⟩, by simp [Gh.unp], rfl, by simp⟩, fun e1 h1 => go c _ e1 h1 (.inr ⟨b, o, cs, fz, by simp [Gh.unp], unp_at hb, hh, hf, hc, hsz, fun k hk f hf' => ?_⟩)⟩
    obtain ⟨u, hu, hi⟩ := hcell k hk f hf'
    refine ⟨u, hu, CV.At.move (g := g.bare) (g' := g.unp n i j H.length (some ⟨b, o, wd⟩)) (fun b hb => ⟨unp_imm (g := g) hb, rfl⟩) (fun _ _ h => by cases h) (fun b q hq => ⟨?_, rfl⟩) hi⟩
    exact unp_in (g := g) (x := k) (q := f :: q) (show g.κ b = _ from by simpa using (show g.κ b = _ from hq))

/-- What was owned is frozen: cells j, j + 1, .., of a box. -/
def Gh.ice (g : Gh) (n j s : Nat) : Gh := ⟨g.ρ, fun b => match g.κ b with
    | .sub m (a :: c :: q) => if m = n ∧ a = 0 ∧ j ≤ c ∧ c < j + s then .imm else .sub m (a :: c :: q)
    | r => r⟩
theorem RelH.iced (r : RelH E g H w) {n j s ty : Nat} {cells : List CV} (hn : H[n]? = some (.box ty cells)) (hj : j + s ≤ cells.length) :
    RelH E (g.ice n j s) (setn H n (.box ty (setAt cells j (((cells.drop j).take s).map CV.frz)))) w ∧ Step H.length g w (g.ice n j s) w ∧
      ∀ (i : Nat) (c : CV) (u : Value), j ≤ i → i < j + s → c.At g w (some (n, [0, i])) u → c.frz.Is (g.ice n j s) w u := by
  have himm : ∀ b, g.κ b = .imm → (g.ice n j s).κ b = .imm := fun b hb => by simp [Gh.ice, hb]
  have hnl := (List.getElem?_eq_some_iff.1 hn).1
  have hothr : ∀ b m p, g.κ b = .sub m p → (∀ a c q, p = a :: c :: q → ¬ (m = n ∧ a = 0 ∧ j ≤ c ∧ c < j + s)) → (g.ice n j s).κ b = .sub m p := fun b m p hb hne => by
    simp only [Gh.ice, hb]
    split
    · rename_i m' a c q heq
      injection heq with h1 h2
      rw [if_neg (fun h => hne a c q h2 (by rw [h1]; exact h)), h1, h2]
    · rfl
  have hfr : ∀ (i : Nat) (c : CV) (u : Value), j ≤ i → i < j + s → c.At g w (some (n, [0, i])) u → c.frz.Is (g.ice n j s) w u := fun i c u h1 h2 hc =>
    CV.At.freeze (fun b hb => himm b hb) (fun _ _ h => h) (fun b q hq => by
      simp only [Gh.ice, hq, List.cons_append, List.nil_append]
      rw [if_pos ⟨trivial, trivial, h1, h2⟩]) hc
  have hlen : (((cells.drop j).take s).map CV.frz).length = s := by simp; omega
  have hS := RelH.same (g' := g.ice n j s) (H' := setn H n (.box ty (setAt cells j (((cells.drop j).take s).map CV.frz)))) r himm (fun b hb => by simp [Gh.ice, hb]) (fun _ _ => rfl)
    (fun m hm => r.dom m (by simpa [setn_eq] using hm)) (fun b m hb => by
      rw [setn_eq]; simp only [List.length_set]
      simp only [Gh.ice] at hb
      split at hb
      · split at hb <;> cases hb
      · exact r.rol b m hb) (fun b m p hb => by
      rw [setn_eq]; simp only [List.length_set]
      simp only [Gh.ice] at hb
      split at hb
      · rename_i m' a c q heq
        split at hb
        · cases hb
        · injection hb with h1 h2
          exact r.rols b m _ (by rw [heq, h1])
      · exact r.rols b m p hb) (fun m e he => by
      rw [setn_eq] at he
      by_cases hm : n = m
      · subst hm
        rw [List.getElem?_set_self hnl] at he
        obtain rfl := Option.some.inj he
        obtain ⟨b, cs, h1, h2, h3, h4, h5⟩ := r.ent n _ hn
        have hsl := setAt_length (((cells.drop j).take s).map CV.frz) cells j
        refine ⟨b, cs, by rw [hsl]; exact h1, by simp [Gh.ice, h2], h3, by rw [hsl]; exact h4, fun i c hic => ?_⟩
        rw [setAt_get _ _ _ (by rw [hlen]; exact hj)] at hic
        rw [hlen] at hic
        split at hic
        · rename_i hin
          rw [List.getElem?_map, List.getElem?_take] at hic
          rw [if_pos (by omega), List.getElem?_drop, show j + (i - j) = i by omega] at hic
          cases hci : cells[i]? with
          | none => rw [hci] at hic; cases hic
          | some c0 =>
            rw [hci] at hic
            obtain rfl := Option.some.inj hic
            obtain ⟨u, hu, hi⟩ := h5 i c0 hci
            exact ⟨u, hu, CV.At.lift _ (hfr i c0 u hin.1 hin.2 hi)⟩
        · rename_i hin
          obtain ⟨u, hu, hi⟩ := h5 i c hic
          refine ⟨u, hu, CV.At.move (fun b hb => ⟨himm b hb, rfl⟩) (fun _ _ h => h) (fun b q hq => ⟨hothr b _ _ hq (fun a c q' he => ?_), rfl⟩) hi⟩
          simp only [List.cons_append, List.nil_append, List.cons.injEq] at he
          obtain ⟨rfl, rfl, _⟩ := he
          omega
      · rw [List.getElem?_set_ne hm] at he
        refine Ent.Is.keep (fun b hb => ⟨himm b hb, rfl⟩) (fun _ _ h => h) rfl (fun b hb => ⟨by simp [Gh.ice, hb], rfl⟩) (fun b p hb => ⟨hothr b m p hb (fun a c q he h => hm h.1.symm), rfl⟩) (r.ent m e he))
  exact ⟨hS.1, hS.2, hfr⟩

theorem loadP_sound (hT : TOk P T) (r : RelH E g H w) {t : Nat} {x : AV} {K : AV → List Ent → Prop} {v : Value} (hx : x.Is g w v) (h : loadP T t x H K) : LoadsTo P E g H w (Instr.loadAt t v) K := by
  unfold loadP at h
  obtain ⟨hk, h⟩ := h
  have ha := hT.agg hk
  have hs := hT.size hk
  split at h
  · rename_i n k j
    obtain ⟨p, hp, rfl⟩ := hx
    have hrun : ∀ m : Sem Value, Instr.loadAt t (.pointer (some ⟨p.blk, p.off + (k * p.wd + j), none⟩)) = loadVar t ⟨p.blk, p.off + (k * p.wd + j), none⟩ := fun _ => rfl
    rw [hrun (pure undef)]
    split at h
    · rename_i ty wd len cap cell hn
      obtain ⟨hkl, h⟩ := h
      have hnH := nth_ent hn (by simp)
      have hnl := (List.getElem?_eq_some_iff.1 hnH).1
      rcases r.ent n _ hnH with ⟨_, h0, _⟩ | ⟨b, o, cs, fz, hp', hb, hh, hf, hl, hc, hcell⟩
      · omega
      · rw [hp] at hp'
        obtain rfl := Option.some.inj hp'
        have hdata : ∀ f, f < wd → ∃ u, w.cell? ⟨b, o + (k * wd + f), none⟩ = some u ∧ ((cell k f).shared → (cell k f).Is g w u) := fun f hf => by
          obtain ⟨u, hu, hi⟩ := hcell k hkl f hf
          exact ⟨u, hu, fun hs => CV.At.share hs hi⟩
        split at h
        · rename_i hag
          exact load_data hT hk r hdata (by rw [if_pos hag]; exact h)
        · rename_i hag
          obtain ⟨hj, h⟩ := h
          split at h
          · rename_i e wd' m cl hown
            simp only [eq_false_of_ne_true hag] at ha
            obtain ⟨u, hu, hi⟩ := hcell k hkl j hj
            rw [hown] at hi
            obtain ⟨c, pl, hc', hsl, hgo⟩ := RelH.unpack r hnl hi
            have hname : ∀ x, x < H.length → (g.unp n k j H.length pl).ρ x = g.ρ x := fun x hx => by simp only [Gh.unp]; rw [if_neg (by omega)]
            have hR := hgo (.row ty wd len cap (updCell cell k j [.sl H.length wd' 0 m c])) (by
              refine .inr ⟨b, o, cs, fz, by rw [hname n hnl]; exact hp, unp_nm hb, hh, hf, hl, hc, fun k' hk' f hf' => ?_⟩
              by_cases hkf : k' = k ∧ f = j
              · obtain ⟨rfl, rfl⟩ := hkf
                refine ⟨u, hu, ?_⟩
                have : updCell cell k' f [.sl H.length wd' 0 m c] k' f = .sl H.length wd' 0 m c := by simp [updCell]
                rw [this]; exact CV.At.lift _ hsl
              · obtain ⟨u', hu', hi'⟩ := hcell k' hk' f hf'
                refine ⟨u', hu', ?_⟩
                have : updCell cell k j [.sl H.length wd' 0 m c] k' f = cell k' f := by
                  simp only [updCell, List.length_cons, List.length_nil]
                  split
                  · rw [if_neg (fun h => hkf ⟨by assumption, by omega⟩)]
                  · rfl
                rw [this]
                refine CV.At.move (fun b hb => ⟨unp_imm hb, rfl⟩) (r.ext hname) (fun b q hq => ⟨unp_other hq (fun h => hkf ⟨h.2.1, h.2.2⟩), rfl⟩) hi')
            exact ⟨u, fun w' hw' => by simp [loadVar, ha, hw' _ _ hu], _, _, _, h c hc', by simp [setn_eq], hR.1, hR.2, hsl⟩
          · rename_i hno
            have hsh : (cell k j).shared := by
              generalize cell k j = y at hno
              cases y <;> first | trivial | exact hno _ _ _ _ rfl
            exact load_data hT hk r hdata (by rw [if_neg hag]; exact ⟨hj, hsh, h⟩)
    · rename_i ty cells hn
      obtain ⟨rfl, h⟩ := h
      have hnH := nth_ent hn (by simp)
      have hnl := (List.getElem?_eq_some_iff.1 hnH).1
      obtain ⟨b, cs, hp', hb, hh, hl, hcell⟩ := r.ent n _ hnH
      rw [hp] at hp'
      obtain rfl := Option.some.inj hp'
      have hget : ∀ i c, cells[i]? = some c → ∃ u, w.cell? ⟨b, i, none⟩ = some u ∧ c.At g w (some (n, [0, i])) u := fun i c hc => by
        obtain ⟨u, hu, hi⟩ := hcell i c hc
        exact ⟨u, by simp [World.cell?, hh, hu], hi⟩
      simp only [Nat.zero_mul, Nat.zero_add]
      split at h
      · rename_i hag
        simp only [hag] at ha
        obtain ⟨hle, h⟩ := h
        split at h
        · rename_i hown
          obtain ⟨hR, hS, hfr⟩ := RelH.iced r hnH hle
          obtain ⟨us, hr, hF⟩ := loadCells_F2 (P := P) (w := w) (R := CV.Is (g.ice n j (T t).size) w) (b := b) (o := j) (((cells.drop j).take (T t).size).map CV.frz) (T t).size (by simp; omega) (fun i c hi => by
            rw [List.getElem?_map, List.getElem?_take] at hi
            split at hi
            · rw [List.getElem?_drop] at hi
              cases hci : cells[j + i]? with
              | none => rw [hci] at hi; cases hi
              | some c0 =>
                rw [hci] at hi
                obtain rfl := Option.some.inj hi
                obtain ⟨u, hu, hi⟩ := hget _ _ hci
                exact ⟨u, hu, hfr _ _ _ (by omega) (by omega) hi⟩
            · cases hi)
          exact ⟨.agg us.toArray, fun w' hw' => by simp [loadVar, ha, hs, hr w' hw'], _, _, _, h, by simp [setn_eq], hR, hS, ⟨us, rfl, hF⟩⟩
        · rename_i hown
          have hsh : ∀ (l : List CV), anyOwn l = false → ∀ (i : Nat) (c : CV), l[i]? = some c → c.shared := fun l => by
            induction l with
            | nil => intro _ i c hi; simp at hi
            | cons x l ih =>
              intro hl i c hi
              cases i with
              | zero =>
                obtain rfl := Option.some.inj hi
                cases x <;> first | trivial | simp [anyOwn] at hl
              | succ i =>
                refine ih ?_ i c (by simpa using hi)
                cases x <;> first | (simp [anyOwn] at hl; done) | exact hl
          obtain ⟨us, hr, hF⟩ := loadCells_F2 (P := P) (w := w) (R := CV.Is g w) (b := b) (o := j) ((cells.drop j).take (T t).size) (T t).size (by simp; omega) (fun i c hi => by
            have hshc := hsh _ hown i c hi
            rw [List.getElem?_take] at hi
            split at hi
            · rw [List.getElem?_drop] at hi
              obtain ⟨u, hu, hi⟩ := hget _ _ hi
              exact ⟨u, hu, CV.At.share hshc hi⟩
            · cases hi)
          exact ⟨.agg us.toArray, fun w' hw' => by simp [loadVar, ha, hs, hr w' hw'], g, H, _, h, Nat.le_refl _, r, Step.refl _ _ _, ⟨us, rfl, hF⟩⟩
      · rename_i hag
        simp only [eq_false_of_ne_true hag] at ha
        obtain ⟨hlt, h⟩ := h
        obtain ⟨u, hu, hi⟩ := hget j cells[j] (List.getElem?_eq_getElem hlt)
        have hnth : nth cells j = cells[j] := by rw [nth_eq, List.getElem?_eq_getElem hlt]; rfl
        rw [← hnth] at hi
        split at h
        · rename_i e wd' m cl hown
          rw [hown] at hi
          obtain ⟨c, pl, hc', hsl, hgo⟩ := RelH.unpack r hnl hi
          have hname : ∀ x, x < H.length → (g.unp n 0 j H.length pl).ρ x = g.ρ x := fun x hx => by simp only [Gh.unp]; rw [if_neg (by omega)]
          have hR := hgo (.box ty (setn cells j (.sl H.length wd' 0 m c))) (by
            refine ⟨b, cs, by rw [hname n hnl, setn_eq, List.length_set]; exact hp, unp_nm hb, hh, by rw [setn_eq, List.length_set]; exact hl, fun i x hx => ?_⟩
            rw [setn_eq] at hx
            by_cases hij : j = i
            · subst hij
              rw [List.getElem?_set_self hlt] at hx
              obtain rfl := Option.some.inj hx
              refine ⟨u, ?_, CV.At.lift _ hsl⟩
              simpa [World.cell?, hh] using hu
            · rw [List.getElem?_set_ne hij] at hx
              obtain ⟨u', hu', hi'⟩ := hcell i x hx
              exact ⟨u', hu', CV.At.move (fun b hb => ⟨unp_imm hb, rfl⟩) (r.ext hname) (fun b q hq => ⟨unp_other hq (fun h => hij h.2.2.symm), rfl⟩) hi'⟩)
          exact ⟨u, fun w' hw' => by simp [loadVar, ha, hw' _ _ hu], _, _, _, h c hc', by simp [setn_eq], hR.1, hR.2, hsl⟩
        · rename_i hno
          refine ⟨u, fun w' hw' => by simp [loadVar, ha, hw' _ _ hu], g, H, _, h, Nat.le_refl _, r, Step.refl _ _ _, ?_⟩
          have hsh : (nth cells j).shared := by
            generalize nth cells j = y at hno
            cases y <;> first | trivial | exact hno _ _ _ _ rfl
          exact CV.At.share hsh hi
    · exact h.elim
  · rename_i wd n cell k j
    obtain ⟨b, o, rfl, hkn, hb, hc⟩ := hx
    have hsh : ∀ f, f < wd → (cell k f).shared := fun f hf => by
      obtain ⟨u, _, hi⟩ := hc k hkn f hf
      exact CV.At.sharedOf hi
    refine load_data hT hk r (fun f hf => by
      obtain ⟨u, hu, hi⟩ := hc k hkn f hf
      exact ⟨u, hu, fun _ => CV.At.ofBare hi⟩) ?_
    split
    · rename_i hag
      rw [if_pos hag] at h
      exact ⟨h.1, sharedFrom_of hsh _ _ h.1, h.2⟩
    · rename_i hag
      rw [if_neg hag] at h
      exact ⟨h.1, hsh j h.1, h.2⟩
  · exact h.elim

theorem setCells_heap (b : Nat) : ∀ (vs : List Value) (o : Nat) (w : World) (cs : Array Value) (ty : TypeId) (fz : Nat × Nat), w.heap[b]? = some (.cells cs ty fz) →
    ∃ cs', (w.setCells b o vs).heap[b]? = some (.cells cs' ty fz) ∧ cs'.size = cs.size
  | [], o, w, cs, ty, fz, h => ⟨cs, h, rfl⟩
  | v :: vs, o, w, cs, ty, fz, h => by
    have h1 : (w.setCell ⟨b, o, none⟩ v).heap[b]? = some (.cells (cs.setIfInBounds o v) ty fz) := by
      simp [World.setCell, Array.getElem?_modify, h]
    obtain ⟨cs', h2, h3⟩ := setCells_heap b vs (o + 1) _ _ ty fz h1
    exact ⟨cs', h2, by simpa using h3⟩
theorem setCells_other (b c : Nat) (hbc : c ≠ b) : ∀ (vs : List Value) (o : Nat) (w : World), (w.setCells b o vs).heap[c]? = w.heap[c]?
  | [], _, _ => rfl
  | v :: vs, o, w => by
    rw [World.setCells, setCells_other b c hbc vs]
    simp only [World.setCell, Array.getElem?_modify]
    rw [if_neg (fun h => hbc h.symm)]
theorem setCells_size (b : Nat) : ∀ (vs : List Value) (o : Nat) (w : World), (w.setCells b o vs).heap.size = w.heap.size
  | [], _, _ => rfl
  | v :: vs, o, w => by rw [World.setCells, setCells_size b vs]; simp
theorem setCells_os (b : Nat) : ∀ (vs : List Value) (o : Nat) (w : World), (w.setCells b o vs).os = w.os ∧ (w.setCells b o vs).tape = w.tape ∧ (w.setCells b o vs).output = w.output
  | [], _, _ => ⟨rfl, rfl, rfl⟩
  | v :: vs, o, w => by rw [World.setCells]; exact setCells_os b vs (o + 1) _

theorem okAll_get : ∀ {l : List CV}, okAll l = true → ∀ (i : Nat) (c : CV), l[i]? = some c → c.ok = true
  | [], _, i, c, h => by simp at h
  | x :: l, ho, 0, c, h => by simp [okAll] at ho; simp at h; exact h ▸ ho.1
  | x :: l, ho, i + 1, c, h => by simp [okAll] at ho; exact okAll_get ho.2 i c (by simpa using h)
theorem F2.get' {α β : Type} {R : α → β → Prop} : ∀ {l : List α} {m : List β}, F2 R l m → ∀ {i : Nat} {b : β}, m[i]? = some b → ∃ a, l[i]? = some a ∧ R a b
  | [], [], _, i, a, h => by simp at h
  | x :: _, _ :: _, hl, 0, a, h => ⟨x, rfl, by simp at h; exact h ▸ hl.1⟩
  | _ :: _, _ :: _, hl, i + 1, a, h => by simpa using F2.get' hl.2 (by simpa using h)

theorem typedS_is {T : Nat → TI} {t : Nat} {x : SV} {v : Value} (h : x.Is g w v) : (typedS T t x).Is g w v := by
  unfold typedS
  split
  · exact typed_is h
  · exact h
theorem setn_set (H : List Ent) (n : Nat) (e : Ent) : setn H n e = H.set n e := setn_eq H n e

theorem storeP_sound (hT : TOk P T) (r : RelH E g H w) {t : Nat} {x v : AV} {K : List Ent → Prop} {vx vv : Value} (hx : x.Is g w vx) (hv : v.Is g w vv) (h : storeP T t x v H K) :
    ∃ H' w', (Instr.storeAt t vx vv).run P w = .ok () w' ∧ K H' ∧ RelH E g H' w' ∧ Step H.length g w g w' := by
  unfold storeP at h
  obtain ⟨hk, h⟩ := h
  split at h
  · rename_i n k j y
    split at h
    · rename_i cs hcs
      obtain ⟨hsz, hok, h⟩ := h
      have hF := SV.cells_is hcs (typedS_is (T := T) (t := t) hv)
      have hlen : cs.length = vv.cells.size := by rw [hF.length]; simp
      have hs := hT.size hk w
      obtain ⟨p, hp, rfl⟩ := hx
      have hone : ∀ u ∈ vv.cells.toList, u.oneCell' = true := fun u hu => by
        obtain ⟨i, hi⟩ := List.getElem?_of_mem hu
        obtain ⟨c, hc, hcu⟩ := F2.get' hF hi
        exact CV.Is.one (okAll_get hok i c hc) hcu
      have hrun : ∀ w', (storeCells ⟨p.blk, p.off + (k * p.wd + j), none⟩ vv.cells.toList 0).run P w = .ok () w' → (Instr.storeAt t (.pointer (some ⟨p.blk, p.off + (k * p.wd + j), none⟩)) vv).run P w = .ok () w' := fun w' h => by
        have : vv.cells.size = (T t).size := by omega
        simp [Instr.storeAt, Instr.sureAddr, storeVar, hs, this, h]
      split at h
      · rename_i ty wd len cap cell hn
        have hnH := nth_ent hn (by simp)
        have hnl : n < H.length := (List.getElem?_eq_some_iff.1 hnH).1
        · obtain ⟨hkl, hjw, hK⟩ := h
          rcases r.ent n _ hnH with ⟨_, h0, _⟩ | ⟨b, o, cells, fz, hp', hb, hh, hf, hlc, hcap, hcell⟩
          · omega
          · rw [hp] at hp'
            obtain rfl := Option.some.inj hp'
            simp only at hrun ⊢
            have hkw : k * wd + wd ≤ cap * wd := by
              have := Nat.mul_le_mul_right wd (show k + 1 ≤ cap by omega)
              rw [Nat.add_mul] at this; omega
            have hexi : ∀ i, i < cap * wd → ∃ u, w.cell? ⟨b, o + i, none⟩ = some u := fun i hi => by
              refine ⟨cells[o + i]'(by omega), ?_⟩
              simp [World.cell?, hh]
            have hfr : ∀ i, i < cap * wd → w.frozen? ⟨b, o + i, none⟩ = false := fun i hi => by
              simp only [World.frozen?, hh]
              rcases hf with hf | hf <;> simp <;> omega
            have hll : vv.cells.toList.length = cs.length := by rw [hF.length]
            have hst := run_storeCells_cells (P := P) b (o + (k * wd + j)) vv.cells.toList 0 w (fun i hi => by
                obtain ⟨u, hu⟩ := hexi (k * wd + j + i) (by omega)
                rw [show o + (k * wd + j) + 0 + i = o + (k * wd + j + i) by omega, hu]; rfl)
              (fun i hi => by
                rw [show o + (k * wd + j) + 0 + i = o + (k * wd + j + i) by omega]
                exact hfr _ (by omega)) hone
            rw [Nat.add_zero] at hst
            obtain ⟨cells', hh', hsz'⟩ := setCells_heap b vv.cells.toList (o + (k * wd + j)) w cells ty fz hh
            obtain ⟨ho1, ho2, ho3⟩ := setCells_os b vv.cells.toList (o + (k * wd + j)) w
            have hoth : ∀ c, g.κ c ≠ .nm n → (w.setCells b (o + (k * wd + j)) vv.cells.toList).heap[c]? = w.heap[c]? := fun c hc => setCells_other b c (fun e => hc (by rw [e]; exact hb)) _ _ _
            have hmono : ∀ c, g.κ c = .imm → g.κ c = .imm ∧ (w.setCells b (o + (k * wd + j)) vv.cells.toList).heap[c]? = w.heap[c]? := fun c hc => ⟨hc, hoth c (by rw [hc]; simp)⟩
            have hR := RelH.write n hnl r (.row ty wd len cap (updCell cell k j cs)) ho1 ho2 ho3 (setCells_size _ _ _ _) hoth (by
              refine .inr ⟨b, o, cells', fz, hp, hb, hh', hf, hlc, by omega, fun k' hk' f hf' => ?_⟩
              obtain ⟨u0, hu0, hi0⟩ := hcell k' hk' f hf'
              by_cases hin : k' = k ∧ j ≤ f ∧ f < j + cs.length
              · obtain ⟨rfl, hj1, hj2⟩ := hin
                have hfl : f - j < vv.cells.toList.length := by omega
                have hin := World.cell?_setCells_in b vv.cells.toList (o + (k' * wd + j)) w (fun i hi => by
                  obtain ⟨u, hu⟩ := hexi (k' * wd + j + i) (by omega)
                  rw [show o + (k' * wd + j) + i = o + (k' * wd + j + i) by omega, hu]; rfl) (f - j) hfl
                refine ⟨_, by rw [show o + (k' * wd + f) = o + (k' * wd + j) + (f - j) by omega]; exact hin, ?_⟩
                obtain ⟨d, hd, hdi⟩ := F2.get' hF (List.getElem?_eq_getElem hfl)
                have : updCell cell k' j cs k' f = d := by
                  simp only [updCell]
                  rw [if_pos trivial, if_pos ⟨hj1, hj2⟩]
                  simp [List.getD, hd]
                rw [this]
                exact CV.At.lift _ (CV.Is.mono hmono (fun _ _ h => h) hdi)
              · refine ⟨u0, ?_, ?_⟩
                · rw [World.cell?_setCells_out, hu0]
                  intro _ _
                  simp only
                  rw [hll]
                  rcases Nat.lt_trichotomy k' k with hlt | heq | hgt
                  · left
                    have := Nat.mul_le_mul_right wd (show k' + 1 ≤ k by omega)
                    rw [Nat.add_mul] at this; omega
                  · subst heq
                    have : ¬ (j ≤ f ∧ f < j + cs.length) := fun h => hin ⟨rfl, h⟩
                    omega
                  · right
                    have := Nat.mul_le_mul_right wd (show k + 1 ≤ k' by omega)
                    rw [Nat.add_mul] at this; omega
                · have : updCell cell k j cs k' f = cell k' f := by
                    simp only [updCell]
                    split
                    · rename_i hkk
                      rw [if_neg (fun h => hin ⟨hkk, h⟩)]
                    · rfl
                  rw [this]
                  exact CV.At.move hmono (fun _ _ h => h) (fun c q hc => ⟨hc, hoth c (by rw [hc]; simp)⟩) hi0)
            exact ⟨_, _, hrun _ hst, by rw [setn_set] at hK; exact hK, hR.1, hR.2⟩
      · rename_i ty cells hn
        have hnH := nth_ent hn (by simp)
        have hnl : n < H.length := (List.getElem?_eq_some_iff.1 hnH).1
        obtain ⟨rfl, hjl, hK⟩ := h
        obtain ⟨b, arr, hp', hb, hh, hl, hcell⟩ := r.ent n _ hnH
        rw [hp] at hp'
        obtain rfl := Option.some.inj hp'
        simp only [Nat.zero_mul, Nat.zero_add] at hrun ⊢
        have hll : vv.cells.toList.length = cs.length := by rw [hF.length]
        have hst := run_storeCells_cells (P := P) b j vv.cells.toList 0 w (fun i hi => by
            have : j + 0 + i < arr.size := by omega
            simp [World.cell?, hh]; omega)
          (fun i hi => by simp [World.frozen?, hh]) hone
        rw [Nat.add_zero] at hst
        obtain ⟨arr', hh', hsz'⟩ := setCells_heap b vv.cells.toList j w arr ty (0, 0) hh
        obtain ⟨ho1, ho2, ho3⟩ := setCells_os b vv.cells.toList j w
        have hoth : ∀ c, g.κ c ≠ .nm n → (w.setCells b j vv.cells.toList).heap[c]? = w.heap[c]? := fun c hc => setCells_other b c (fun e => hc (by rw [e]; exact hb)) _ _ _
        have hmono : ∀ c, g.κ c = .imm → g.κ c = .imm ∧ (w.setCells b j vv.cells.toList).heap[c]? = w.heap[c]? := fun c hc => ⟨hc, hoth c (by rw [hc]; simp)⟩
        have hR := RelH.write n hnl r (.box ty (setAt cells j cs)) ho1 ho2 ho3 (setCells_size _ _ _ _) hoth (by
          refine ⟨b, arr', by rw [setAt_length]; exact hp, hb, hh', by rw [setAt_length]; omega, fun i c hc => ?_⟩
          have hlt : i < arr'.size := by
            have := (List.getElem?_eq_some_iff.1 hc).1
            rw [setAt_length] at this; omega
          have hcell' : ∀ u, (w.setCells b j vv.cells.toList).cell? ⟨b, i, none⟩ = some u → arr'[i]? = some u := fun u hu => by
            simpa [World.cell?, hh'] using hu
          rw [setAt_get cs cells j hjl i] at hc
          split at hc
          · rename_i hij
            have hfl : i - j < vv.cells.toList.length := by omega
            have hin := World.cell?_setCells_in b vv.cells.toList j w (fun i hi => by
              have : j + i < arr.size := by omega
              simp [World.cell?, hh]; omega) (i - j) hfl
            rw [show j + (i - j) = i by omega] at hin
            obtain ⟨c', hc', hi⟩ := F2.get' hF (List.getElem?_eq_getElem hfl)
            rw [hc] at hc'
            obtain rfl := Option.some.inj hc'
            exact ⟨_, hcell' _ hin, CV.At.lift _ (CV.Is.mono hmono (fun _ _ h => h) hi)⟩
          · rename_i hij
            obtain ⟨u, hu, hi⟩ := hcell i c hc
            refine ⟨u, hcell' u ?_, CV.At.move hmono (fun _ _ h => h) (fun c q hc => ⟨hc, hoth c (by rw [hc]; simp)⟩) hi⟩
            rw [World.cell?_setCells_out]
            · simp [World.cell?, hh, hu]
            · intro _ _
              simp only
              omega)
        exact ⟨_, _, hrun _ hst, by rw [setn_set] at hK; exact hK, hR.1, hR.2⟩
      · exact h.elim
    · exact h.elim
  · exact h.elim
end
end Go.V
