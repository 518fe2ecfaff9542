/- V, part 2: how abstract heaps follow changes of the world. -/
import Derived.Test.YtoajalcngklenaaDoorV1
namespace Go.V
open Go Go.RowKit

theorem Ent.Is.keep {g g' : Gh} {w w' : World} {m : Nat} {e : Ent} (h : ∀ b, g.κ b = .imm → g'.κ b = .imm ∧ w'.heap[b]? = w.heap[b]?)
    (hn : ∀ n p, g.ρ n = some p → g'.ρ n = some p) (hm : g'.ρ m = g.ρ m)
    (hk : ∀ b, g.κ b = .nm m → g'.κ b = .nm m ∧ w'.heap[b]? = w.heap[b]?)
    (hs : ∀ b p, g.κ b = .sub m p → g'.κ b = .sub m p ∧ w'.heap[b]? = w.heap[b]?) (he : e.Is g w m) : e.Is g' w' m := by
  cases e with
  | dead => trivial
  | row ty wd len cap cell =>
    refine he.imp (fun hz => ⟨by rw [hm]; exact hz.1, hz.2⟩) ?_
    rintro ⟨b, o, cs, fz, hp, hb, hh, hf, hl, hc, hcell⟩
    refine ⟨b, o, cs, fz, by rw [hm]; exact hp, (hk b hb).1, (hk b hb).2.trans hh, hf, hl, hc, fun k hk' f hf' => ?_⟩
    obtain ⟨u, hu, hi⟩ := hcell k hk' f hf'
    exact ⟨u, (cell?_of_heap (a := ⟨b, o + (k * wd + f), none⟩) (hk b hb).2).trans hu, CV.At.move h hn (fun b q => hs b _) hi⟩
  | box ty cells =>
    obtain ⟨b, cs, hp, hb, hh, hl, hcell⟩ := he
    refine ⟨b, cs, by rw [hm]; exact hp, (hk b hb).1, (hk b hb).2.trans hh, hl, fun i c hc => ?_⟩
    obtain ⟨u, hu, hi⟩ := hcell i c hc
    exact ⟨u, hu, CV.At.move h hn (fun b q => hs b _) hi⟩

/-- The general step: entry n alone may be touched. -/
theorem RelH.upd {E : Env} {g g' : Gh} {H H' : List Ent} {w w' : World} (n : Nat) (r : RelH E g H w)
    (hos : w'.os = w.os) (htape : w'.tape = w.tape) (hout : w'.output = w.output) (hsz : w.heap.size ≤ w'.heap.size)
    (himm : ∀ b, g.κ b = .imm → g'.κ b = .imm ∧ w'.heap[b]? = w.heap[b]?)
    (hfree : ∀ b, b < w.heap.size → g.κ b = .free → g'.κ b = .free ∧ w'.heap[b]? = w.heap[b]?)
    (hname : ∀ m, m < H.length → g'.ρ m = g.ρ m)
    (hnm : ∀ b m, m ≠ n → g.κ b = .nm m → g'.κ b = .nm m ∧ w'.heap[b]? = w.heap[b]?)
    (hsub : ∀ b m p, m ≠ n → g.κ b = .sub m p → g'.κ b = .sub m p ∧ w'.heap[b]? = w.heap[b]?)
    (hlt : ∀ b, w'.heap.size ≤ b → g'.κ b = .free) (hdom : ∀ m, H'.length ≤ m → g'.ρ m = none)
    (hrol : ∀ b m, g'.κ b = .nm m → m < H'.length) (hrols : ∀ b m p, g'.κ b = .sub m p → m < H'.length)
    (hent : ∀ (m : Nat) (e : Ent), H'[m]? = some e → (m ≠ n ∧ H[m]? = some e) ∨ e.Is g' w' m) :
    RelH E g' H' w' ∧ Step H.length g w g' w' := by
  have hmono : ∀ m p, g.ρ m = some p → g'.ρ m = some p := fun m p hp => by
    rcases Nat.lt_or_ge m H.length with h | h
    · rw [hname m h]; exact hp
    · rw [r.dom m h] at hp; cases hp
  refine ⟨⟨fun m e he => ?_, E.keeps _ _ _ _ r.inv himm, hlt, hdom, hrol, hrols⟩, ⟨hos, htape, hout, hsz, himm, hfree, hname⟩⟩
  rcases hent m e he with ⟨hmn, hm⟩ | h
  · have hlt : m < H.length := (List.getElem?_eq_some_iff.1 hm).1
    exact Ent.Is.keep himm hmono (hname m hlt) (fun b hb => hnm b m hmn hb) (fun b p hb => hsub b m p hmn hb) (r.ent m e hm)
  · exact h

def Gh.add (g : Gh) (N b o wd : Nat) : Gh := ⟨fun n => if n = N then some ⟨b, o, wd⟩ else g.ρ n, fun c => if c = b then .nm N else g.κ c⟩

/-- A new block, a new entry. -/
theorem RelH.alloc {E : Env} {g : Gh} {H : List Ent} {w w' : World} (r : RelH E g H w) (e : Ent) (o wd : Nat)
    (hos : w'.os = w.os) (htape : w'.tape = w.tape) (hout : w'.output = w.output) (hsz : w'.heap.size = w.heap.size + 1)
    (hold : ∀ b, b < w.heap.size → w'.heap[b]? = w.heap[b]?) (he : e.Is (g.add H.length w.heap.size o wd) w' H.length) :
    RelH E (g.add H.length w.heap.size o wd) (H ++ [e]) w' ∧ Step H.length g w (g.add H.length w.heap.size o wd) w' := by
  have hne : ∀ b, g.κ b ≠ .free → b < w.heap.size := fun b hb => by
    rcases Nat.lt_or_ge b w.heap.size with h | h
    · exact h
    · exact absurd (r.lt b h) hb
  have hk : ∀ b, b < w.heap.size → (g.add H.length w.heap.size o wd).κ b = g.κ b := fun b hb => by
    simp only [Gh.add]; rw [if_neg (by omega)]
  refine RelH.upd H.length r hos htape hout (by omega) (fun b hb => ?_) (fun b hb hf => ?_) (fun m hm => ?_) (fun b m _ hb => ?_) (fun b m p _ hb => ?_) (fun b hb => ?_) (fun m hm => ?_) (fun b m hb => ?_) (fun b m p hb => ?_) (fun m e' he' => ?_)
  · have hl := hne b (by rw [hb]; simp)
    exact ⟨(hk b hl).trans hb, hold b hl⟩
  · exact ⟨(hk b hb).trans hf, hold b hb⟩
  · simp only [Gh.add]; rw [if_neg (by omega)]
  · have hl := hne b (by rw [hb]; simp)
    exact ⟨(hk b hl).trans hb, hold b hl⟩
  · have hl := hne b (by rw [hb]; simp)
    exact ⟨(hk b hl).trans hb, hold b hl⟩
  · simp only [Gh.add]; rw [if_neg (by omega)]; exact r.lt b (by omega)
  · simp only [List.length_append, List.length_cons, List.length_nil] at hm
    simp only [Gh.add]; rw [if_neg (by omega)]; exact r.dom m (by omega)
  · simp only [List.length_append, List.length_cons, List.length_nil]
    simp only [Gh.add] at hb
    split at hb
    · injection hb with hb; omega
    · have := r.rol b m hb; omega
  · simp only [List.length_append, List.length_cons, List.length_nil]
    simp only [Gh.add] at hb
    split at hb
    · cases hb
    · have := r.rols b m p hb; omega
  · rcases Nat.lt_or_ge m H.length with h | h
    · rw [List.getElem?_append_left h] at he'
      exact .inl ⟨by omega, he'⟩
    · rw [List.getElem?_append_right h] at he'
      rcases Nat.eq_zero_or_pos (m - H.length) with h0 | h0
      · rw [h0] at he'
        simp only [List.getElem?_cons_zero, Option.some.injEq] at he'
        have : m = H.length := by omega
        subst this; subst he'
        exact .inr he
      · rw [show m - H.length = (m - H.length - 1) + 1 by omega] at he'
        simp at he'

/-- A draw turns nothing. -/
theorem RelH.drew {E : Env} {g : Gh} {H : List Ent} {w w' : World} (r : RelH E g H w) (hh : w'.heap = w.heap) (hos : w'.os = w.os) (htape : w'.tape = w.tape) (hout : w'.output = w.output) :
    RelH E g H w' ∧ Step H.length g w g w' := by
  refine RelH.upd H.length r hos htape hout (by rw [hh]; exact Nat.le_refl _) (fun b hb => ⟨hb, by rw [hh]⟩) (fun b _ hf => ⟨hf, by rw [hh]⟩) (fun _ _ => rfl) (fun b m _ hb => ⟨hb, by rw [hh]⟩) (fun b m p _ hb => ⟨hb, by rw [hh]⟩)
    (fun b hb => r.lt b (by rw [hh] at hb; exact hb)) r.dom r.rol r.rols (fun m e he => .inl ⟨?_, he⟩)
  have := (List.getElem?_eq_some_iff.1 he).1
  omega

/-- The block of one entry is written: the entry becomes another one. -/
theorem RelH.write {E : Env} {g : Gh} {H : List Ent} {w w' : World} (n : Nat) (hn : n < H.length) (r : RelH E g H w) (e' : Ent)
    (hos : w'.os = w.os) (htape : w'.tape = w.tape) (hout : w'.output = w.output) (hsz : w'.heap.size = w.heap.size)
    (hold : ∀ b, g.κ b ≠ .nm n → w'.heap[b]? = w.heap[b]?) (he : e'.Is g w' n) :
    RelH E g (H.set n e') w' ∧ Step H.length g w g w' := by
  refine RelH.upd n r hos htape hout (by omega) (fun b hb => ⟨hb, hold b (by rw [hb]; simp)⟩) (fun b _ hf => ⟨hf, hold b (by rw [hf]; simp)⟩) (fun _ _ => rfl)
    (fun b m hm hb => ⟨hb, hold b (by rw [hb]; simpa using hm)⟩) (fun b m p _ hb => ⟨hb, hold b (by rw [hb]; simp)⟩)
    (fun b hb => r.lt b (by omega)) (fun m hm => r.dom m (by simpa using hm)) (fun b m hb => by simpa using r.rol b m hb) (fun b m p hb => by simpa using r.rols b m p hb) (fun m e he' => ?_)
  by_cases hm : m = n
  · subst hm
    rw [List.getElem?_set_self (by simpa using hn)] at he'
    simp only [Option.some.injEq] at he'
    exact .inr (he' ▸ he)
  · rw [List.getElem?_set_ne (Ne.symm hm)] at he'
    exact .inl ⟨hm, he'⟩

def Gh.move (g : Gh) (n N b o wd : Nat) : Gh := ⟨fun m => if m = N then some ⟨b, o, wd⟩ else g.ρ m, fun c => if c = b then .nm N else match g.κ c with
    | .sub m p => if m = n then .sub N p else .sub m p
    | r => r⟩

/-- The entry n is given up; what it held goes on in the block b, its own or a new one, as a new entry. -/
theorem RelH.move {E : Env} {g : Gh} {H : List Ent} {w w' : World} (n : Nat) (hn : n < H.length) (r : RelH E g H w) (e' : Ent) (b₀ o wd : Nat)
    (hb : g.κ b₀ = .nm n ∨ b₀ = w.heap.size) (hb0 : b₀ < w'.heap.size)
    (hos : w'.os = w.os) (htape : w'.tape = w.tape) (hout : w'.output = w.output) (hsz : w.heap.size ≤ w'.heap.size)
    (hold : ∀ b, b < w.heap.size → g.κ b ≠ .nm n → w'.heap[b]? = w.heap[b]?) (he : e'.Is (g.move n H.length b₀ o wd) w' H.length) :
    RelH E (g.move n H.length b₀ o wd) (H.set n .dead ++ [e']) w' ∧ Step H.length g w (g.move n H.length b₀ o wd) w' := by
  have hlt : ∀ b, g.κ b ≠ .free → b < w.heap.size := fun b hb => by
    rcases Nat.lt_or_ge b w.heap.size with h | h
    · exact h
    · exact absurd (r.lt b h) hb
  have hnb : ∀ b, b < w.heap.size → g.κ b ≠ .nm n → b ≠ b₀ := fun b hl hne he => by
    rcases hb with h | h
    · exact hne (he ▸ h)
    · omega
  have hk : ∀ b, b < w.heap.size → g.κ b ≠ .nm n → (∀ p, g.κ b ≠ .sub n p) → (g.move n H.length b₀ o wd).κ b = g.κ b := fun b hl hb hb' => by
    simp only [Gh.move]
    rw [if_neg (hnb b hl hb)]
    split
    · rename_i m p hm; rw [if_neg (fun h => hb' p (by rw [hm, h]))]; exact hm.symm
    · rfl
  refine RelH.upd n r hos htape hout hsz (fun b hb => ?_) (fun b hl hf => ?_) (fun m hm => ?_) (fun b m hm hb => ?_) (fun b m p hm hb => ?_) (fun b hb => ?_) (fun m hm => ?_) (fun b m hb => ?_) (fun b m p hb => ?_) (fun m e hem => ?_)
  · have hl := hlt b (by rw [hb]; simp)
    exact ⟨(hk b hl (by rw [hb]; simp) (by rw [hb]; simp)).trans hb, hold b hl (by rw [hb]; simp)⟩
  · exact ⟨(hk b hl (by rw [hf]; simp) (by rw [hf]; simp)).trans hf, hold b hl (by rw [hf]; simp)⟩
  · simp only [Gh.move]; rw [if_neg (by omega)]
  · have hl := hlt b (by rw [hb]; simp)
    exact ⟨(hk b hl (by rw [hb]; simpa using hm) (by rw [hb]; simp)).trans hb, hold b hl (by rw [hb]; simpa using hm)⟩
  · have hl := hlt b (by rw [hb]; simp)
    exact ⟨(hk b hl (by rw [hb]; simp) (by rw [hb]; intro p h; injection h with h; contradiction)).trans hb, hold b hl (by rw [hb]; simp)⟩
  · have h0 := r.lt b (by omega)
    simp only [Gh.move]
    rw [if_neg (by omega), h0]
  · simp only [List.length_append, List.length_set, List.length_cons, List.length_nil] at hm
    simp only [Gh.move]; rw [if_neg (by omega)]; exact r.dom m (by omega)
  · simp only [List.length_append, List.length_set, List.length_cons, List.length_nil]
    simp only [Gh.move] at hb
    split at hb
    · injection hb with hb; omega
    · split at hb
      · split at hb <;> cases hb
      · have := r.rol b m hb; omega
  · simp only [List.length_append, List.length_set, List.length_cons, List.length_nil]
    simp only [Gh.move] at hb
    split at hb
    · cases hb
    · split at hb
      · rename_i m' p' hm'
        have := r.rols b m' p' hm'
        split at hb <;> (injection hb with hb _; omega)
      · have := r.rols b m p hb; omega
  · rcases Nat.lt_or_ge m H.length with h | h
    · rw [List.getElem?_append_left (by simpa using h)] at hem
      by_cases hm : m = n
      · subst hm
        rw [List.getElem?_set_self (by simpa using hn)] at hem
        simp only [Option.some.injEq] at hem
        exact .inr (hem ▸ trivial)
      · rw [List.getElem?_set_ne (Ne.symm hm)] at hem
        exact .inl ⟨hm, hem⟩
    · rw [List.getElem?_append_right (by simpa using h)] at hem
      simp only [List.length_set] at hem
      rcases Nat.eq_zero_or_pos (m - H.length) with h0 | h0
      · rw [h0] at hem
        simp only [List.getElem?_cons_zero, Option.some.injEq] at hem
        have : m = H.length := by omega
        subst this; subst hem
        exact .inr he
      · rw [show m - H.length = (m - H.length - 1) + 1 by omega] at hem
        simp at hem

/-- An entry is forgotten. -/
theorem RelH.kill {E : Env} {g : Gh} {H : List Ent} {w : World} (n : Nat) (r : RelH E g H w) : RelH E g (H.set n .dead) w := by
  refine ⟨fun m e he => ?_, r.inv, r.lt, fun m hm => r.dom m (by simpa using hm), fun b m hb => by simpa using r.rol b m hb, fun b m p hb => by simpa using r.rols b m p hb⟩
  by_cases hm : n = m
  · subst hm
    rcases Nat.lt_or_ge n H.length with h | h
    · rw [List.getElem?_set_self h] at he
      simp only [Option.some.injEq] at he
      exact he ▸ trivial
    · rw [List.getElem?_eq_none (by simpa using h)] at he; cases he
  · rw [List.getElem?_set_ne hm] at he
    exact r.ent m e he

/-- The world stays; what is said of it turns. -/
theorem RelH.same {E : Env} {g g' : Gh} {H H' : List Ent} {w : World} (r : RelH E g H w) (himm : ∀ b, g.κ b = .imm → g'.κ b = .imm) (hfree : ∀ b, g.κ b = .free → g'.κ b = .free)
    (hname : ∀ m, m < H.length → g'.ρ m = g.ρ m) (hdom : ∀ m, H'.length ≤ m → g'.ρ m = none)
    (hrol : ∀ b m, g'.κ b = .nm m → m < H'.length) (hrols : ∀ b m p, g'.κ b = .sub m p → m < H'.length) (hent : ∀ (m : Nat) (e : Ent), H'[m]? = some e → e.Is g' w m) :
    RelH E g' H' w ∧ Step H.length g w g' w :=
  ⟨⟨hent, E.keeps _ _ _ _ r.inv (fun b hb => ⟨himm b hb, rfl⟩), fun b hb => hfree b (r.lt b hb), hdom, hrol, hrols⟩,
   ⟨rfl, rfl, rfl, Nat.le_refl _, fun b hb => ⟨himm b hb, rfl⟩, fun b _ hb => ⟨hfree b hb, rfl⟩, hname⟩⟩
theorem RelH.ext {E : Env} {g g' : Gh} {H : List Ent} {w : World} (r : RelH E g H w) (hname : ∀ m, m < H.length → g'.ρ m = g.ρ m) (n : Nat) (p : Place) (hp : g.ρ n = some p) : g'.ρ n = some p := by
  rcases Nat.lt_or_ge n H.length with h | h
  · rw [hname n h]; exact hp
  · rw [r.dom n h] at hp; cases hp
theorem RelH.blk {E : Env} {g : Gh} {H : List Ent} {w : World} (r : RelH E g H w) (b : Nat) (h : g.κ b ≠ .free) : b < w.heap.size := by
  rcases Nat.lt_or_ge b w.heap.size with h' | h'
  · exact h'
  · exact absurd (r.lt b h') h
end Go.V
