/- V, part 16: contracts of the shelf as contracts of V. -/
import Derived.Test.YtoajalcngklenaaDoorV15
import Derived.Lib.LaidTab
set_option linter.unusedSimpArgs false
set_option linter.unusedVariables false
namespace Go.V
open Go Go.RowKit

/-- A contract that leaves the world alone. -/
theorem Meets.same {E : Env} {P : Program} {f : FuncId} {args : List AV} {H : List Ent} {av : AV} (hc : ∀ us w, (callFunc f us).run P w = .ok (.enter f us) w)
    (h : ∀ g w us, RelH E g H w → F2 (AV.Is g w) args us → ∃ v, av.Is g w v ∧ Calls P f us.toArray w fun e w' => e = .returned v ∧ w' = w) : Meets E P f args H (Ret av H) := by
  intro g w us r hu
  obtain ⟨v, hi, hcl⟩ := h g w us r hu
  refine .inl ⟨hc _ _, hcl.mono ?_⟩
  rintro e w' ⟨rfl, rfl⟩
  exact ⟨g, H, av, ⟨rfl, rfl⟩, Nat.le_refl _, r, hi, Step.refl _ _ _⟩

/-- A contract that makes one new row of data, full. -/
theorem Meets.fresh {E : Env} {P : Program} {f : FuncId} {args : List AV} {H : List Ent} (ty n : Nat) (cell : Nat → Nat → Dat) (hc : ∀ us w, (callFunc f us).run P w = .ok (.enter f us) w)
    (h : ∀ g w us, RelH E g H w → F2 (AV.Is g w) args us → ∃ cs : List Value, cs.length = n ∧ (∀ i, i < n → ∃ u, cs[i]? = some u ∧ (cell i 0).Is g.κ w none u) ∧
      Calls P f us.toArray w fun e w' => e = .returned (.slice (some ⟨w.heap.size, 0, none⟩) n n) ∧ w' = w.alloc (.cells cs.toArray ty)) :
    Meets E P f args H (Ret (.c (.sl H.length 1 0 n n)) (H ++ [.row ty 1 n n cell])) := by
  intro g w us r hu
  obtain ⟨cs, hl, hcell, hcl⟩ := h g w us r hu
  refine .inl ⟨hc _ _, hcl.mono ?_⟩
  rintro e w' ⟨rfl, rfl⟩
  obtain ⟨g', hR, hS, hI⟩ := new_row r ty 1 n n cell cs.toArray (0, 0) (w.alloc (.cells cs.toArray ty)) rfl rfl rfl (by simp) (fun b hb => Below.heap_alloc w _ b hb)
    (by simp [World.alloc, -World.alloc_eq]) (.inl (Nat.le_refl _)) (Nat.le_refl _) (by simp [hl]) (fun k hk f hf => by
      obtain rfl : f = 0 := by omega
      obtain ⟨u, hu, hi⟩ := hcell k hk
      exact ⟨u, by simpa using hu, hi⟩)
  exact ⟨g', _, _, ⟨rfl, rfl⟩, by simp, hR, hI, hS⟩

/-- A table of the library lies where it was laid. -/
def tabEnv (P : Program) (name : String) (k : IntKind) (zs : List Int) : Env where
  inv κ w := Lib.TabIs P w name k zs ∧ ∃ g, P.globalNamed name = some g ∧ κ g = .imm
  keeps κ κ' w w' h hm := by
    obtain ⟨ht, g, hg, hi⟩ := h
    refine ⟨?_, g, hg, (hm g hi).1⟩
    unfold Lib.TabIs World.var? at *
    rw [hg] at ht ⊢
    simp only [Option.bind_some] at ht ⊢
    rw [(hm g hi).2]
    exact ht

/-! ### rows that read the same -/
def EntLe (e e' : Ent) : Prop := e = e' ∨ ∃ ty wd len cap cell cell', e = .row ty wd len cap cell ∧ e' = .row ty wd len cap cell' ∧ ∀ k, k < len → ∀ f, f < wd → cell k f = cell' k f
theorem EntLe.refl (e : Ent) : EntLe e e := .inl rfl
theorem EntLe.row {ty wd len cap : Nat} {cell cell' : Nat → Nat → Dat} (h : ∀ k, k < len → ∀ f, f < wd → cell k f = cell' k f) : EntLe (.row ty wd len cap cell) (.row ty wd len cap cell') := .inr ⟨ty, wd, len, cap, cell, cell', rfl, rfl, h⟩
theorem EntLe.row1 {ty len cap : Nat} {cell cell' : Nat → Nat → Dat} (h : ∀ k, k < len → cell k 0 = cell' k 0) : EntLe (.row ty 1 len cap cell) (.row ty 1 len cap cell') := .row fun k hk f hf => by
  obtain rfl : f = 0 := by omega
  exact h k hk
theorem HeapLe.refl : ∀ H : List Ent, F2 EntLe H H
  | [] => trivial
  | e :: H => ⟨.inl rfl, HeapLe.refl H⟩
theorem HeapLe.app {H L L' : List Ent} (h : F2 EntLe L L') : F2 EntLe (H ++ L) (H ++ L') := F2.append (HeapLe.refl H) h
theorem EntLe.is {g : Gh} {w : World} {n : Nat} {e e' : Ent} (h : EntLe e e') (hi : e.Is g w n) : e'.Is g w n := by
  rcases h with rfl | ⟨ty, wd, len, cap, cell, cell', rfl, rfl, heq⟩
  · exact hi
  · rcases hi with h | ⟨b, o, cs, fz, h1, h2, h3, h4, h5, h6, h7⟩
    · exact .inl h
    · exact .inr ⟨b, o, cs, fz, h1, h2, h3, h4, h5, h6, fun k hk f hf => by rw [← heq k hk f hf]; exact h7 k hk f hf⟩
theorem HeapLe.rel {E : Env} {g : Gh} {H H' : List Ent} {w : World} (h : F2 EntLe H H') (r : RelH E g H w) : RelH E g H' w := by
  have hl := h.length
  refine ⟨fun n e he => ?_, r.inv, r.lt, fun n hn => r.dom n (by omega), fun b n hb => by have := r.rol b n hb; omega, fun b n k f hb => by have := r.rols b n k f hb; omega⟩
  obtain ⟨e0, he0, hle⟩ := F2.get' h he
  exact hle.is (r.ent n e0 he0)
theorem Goes.le {E : Env} {N0 : Nat} {l l' : List AV} {H H' : List Ent} (h : SlotsLe l l') (hH : F2 EntLe H H') : Goes E N0 ⟨l, H⟩ ⟨l', H'⟩ := by
  rintro g0 w0 a w ⟨g, hN, hS, r, hs⟩
  exact ⟨g, by have := hH.length; simp only at *; omega, hS, HeapLe.rel hH r, hs.1, h.is hs.2⟩
theorem Ends.le {E : Env} {N0 : Nat} {v : AV} {H H' : List Ent} (hH : F2 EntLe H H') : Ends E N0 v H v H' := fun g0 w0 g w r hN hS hR hv => ⟨g, by have := hH.length; omega, hS, HeapLe.rel hH hR, hv⟩

/-! ### what is new and not handed back is forgotten -/
def CV.below (N : Nat) : CV → Prop
  | .ptr n _ _ => n < N
  | .sl n _ _ len cap => (len = 0 ∧ cap = 0) ∨ n < N
  | .fn _ caps => ∀ c ∈ caps, c < N
  | _ => True
def Ent.below (N : Nat) : Ent → Prop
  | .box _ cells => ∀ c ∈ cells, c.below N
  | _ => True
def SV.below (N : Nat) : SV → Prop
  | .c x => x.below N
  | .agg cs => ∀ c ∈ cs, c.below N
def AV.below (N : Nat) : AV → Prop
  | .s x => x.below N
  | .tup vs => ∀ v ∈ vs, v.below N
def Closed (N : Nat) (H : List Ent) : Prop := ∀ (n : Nat) (e : Ent), H[n]? = some e → e.below N

theorem F2.mem {α β : Type} {R : α → β → Prop} : ∀ {l : List α} {m : List β}, F2 R l m → ∀ a ∈ l, ∃ b, R a b
  | _ :: _, b :: _, hl, a, ha => by
    rcases List.mem_cons.1 ha with rfl | ha
    · exact ⟨b, hl.1⟩
    · exact F2.mem hl.2 a ha

theorem CV.Is.belowOf {g : Gh} {w : World} {N : Nat} (hN : ∀ n p, g.ρ n = some p → n < N) {x : CV} {v : Value} (h : x.Is g w v) : x.below N := by
  cases x with
  | ptr n k f => obtain ⟨p, hp, _⟩ := h; exact hN _ _ hp
  | sl n wd k len cap =>
    rcases h with ⟨h1, h2, _⟩ | ⟨p, hp, _⟩
    · exact .inl ⟨h1, h2⟩
    · exact .inr (hN _ _ hp)
  | fn q caps =>
    obtain ⟨cs, _, hc⟩ := h
    intro c hcm
    obtain ⟨_, p, hp, _⟩ := F2.mem hc c hcm
    exact hN _ _ hp
  | _ => trivial

theorem RelH.closed {E : Env} {g : Gh} {H : List Ent} {w : World} (r : RelH E g H w) : Closed H.length H := by
  have hN : ∀ n p, g.ρ n = some p → n < H.length := fun n p hp => by
    rcases Nat.lt_or_ge n H.length with h | h
    · exact h
    · rw [r.dom n h] at hp; cases hp
  intro n e he
  have hi := r.ent n e he
  cases e with
  | box t cells =>
    obtain ⟨b, cs, _, _, _, hl, hc⟩ := hi
    intro c hcm
    obtain ⟨i, hi⟩ := List.getElem?_of_mem hcm
    obtain ⟨u, _, hu⟩ := hc i c hi
    exact CV.Is.belowOf hN hu
  | _ => trivial

def Gh.cut (g : Gh) (N : Nat) : Gh := ⟨fun n => if n < N then g.ρ n else none, fun b => match g.κ b with
  | .nm n => if n < N then .nm n else .free
  | .sub n k f => if n < N then .sub n k f else .free
  | r => r⟩

theorem cut_imm {g : Gh} {N b : Nat} (h : g.κ b = .imm) : (g.cut N).κ b = .imm := by simp [Gh.cut, h]
theorem cut_imm' {g : Gh} {N b : Nat} (h : (g.cut N).κ b = .imm) : g.κ b = .imm := by
  simp only [Gh.cut] at h
  split at h
  · split at h <;> cases h
  · split at h <;> cases h
  · exact h

theorem CV.Is.cut {g : Gh} {w : World} {N : Nat} {x : CV} {v : Value} (hb : x.below N) (h : x.Is g w v) : x.Is (g.cut N) w v := by
  cases x with
  | d x => exact Dat.Is.mono (fun b hb => ⟨cut_imm hb, rfl⟩) x v h
  | ptr n k f => obtain ⟨p, hp, hv⟩ := h; exact ⟨p, by simp only [Gh.cut]; rw [if_pos (show n < N from hb)]; exact hp, hv⟩
  | sl n wd k len cap =>
    rcases h with h | ⟨p, hp, hv⟩
    · exact .inl h
    · rcases hb with ⟨rfl, rfl⟩ | hb
      · exact .inl ⟨rfl, rfl, _, hv.2⟩
      · exact .inr ⟨p, by simp only [Gh.cut]; rw [if_pos hb]; exact hp, hv⟩
  | dptr wd n cell k f =>
    obtain ⟨b, o, hv, hk, hb, hc⟩ := h
    exact ⟨b, o, hv, hk, cut_imm hb, fun k hk f hf => by
      obtain ⟨u, hu, hi⟩ := hc k hk f hf
      exact ⟨u, hu, Dat.Is.mono (fun b hb => ⟨cut_imm hb, rfl⟩) _ _ hi⟩⟩
  | fn q caps =>
    obtain ⟨cs, hv, hc⟩ := h
    refine ⟨cs, hv, ?_⟩
    clear hv
    induction caps generalizing cs with
    | nil => cases cs <;> first | trivial | exact hc.elim
    | cons c l ih =>
      cases cs with
      | nil => exact hc.elim
      | cons u us =>
        obtain ⟨⟨p, hp, hu⟩, hc⟩ := hc
        exact ⟨⟨p, by simp only [Gh.cut]; rw [if_pos (show c < N from hb c (by simp))]; exact hp, hu⟩, ih (fun c hc => hb c (by simp [hc])) us hc⟩
  | bad => trivial
theorem F2.imp' {α β : Type} {R S : α → β → Prop} : ∀ {l : List α} {m : List β}, (∀ a ∈ l, ∀ b, R a b → S a b) → F2 R l m → F2 S l m
  | [], [], _, _ => trivial
  | a :: _, _ :: _, h, hl => ⟨h a (by simp) _ hl.1, F2.imp' (fun a ha => h a (by simp [ha])) hl.2⟩
theorem SV.Is.cut {g : Gh} {w : World} {N : Nat} {x : SV} {v : Value} (hb : x.below N) (h : x.Is g w v) : x.Is (g.cut N) w v := by
  cases x with
  | c x => exact CV.Is.cut hb h
  | agg cs => obtain ⟨us, hv, hc⟩ := h; exact ⟨us, hv, F2.imp' (fun a ha b => CV.Is.cut (hb a ha)) hc⟩
theorem AV.Is.cut {g : Gh} {w : World} {N : Nat} {x : AV} {v : Value} (hb : x.below N) (h : x.Is g w v) : x.Is (g.cut N) w v := by
  cases x with
  | s x => exact SV.Is.cut hb h
  | tup vs => obtain ⟨us, hv, hc⟩ := h; exact ⟨us, hv, F2.imp' (fun a ha b => SV.Is.cut (hb a ha)) hc⟩

theorem Dat.Is.cutL {g : Gh} {w : World} {N m i j : Nat} (hm : m < N) {x : Dat} {v : Value} (h : x.Is g.κ w (some (m, i, j)) v) : x.Is (g.cut N).κ w (some (m, i, j)) v := by
  have hmono : ∀ b, g.κ b = .imm → (g.cut N).κ b = .imm ∧ w.heap[b]? = w.heap[b]? := fun b hb => ⟨cut_imm hb, rfl⟩
  cases x with
  | own wd n c cell =>
    simp only [Dat.Is] at h ⊢
    refine ⟨h.1, h.2.imp id ?_⟩
    rintro ⟨b, hv, hb, hcs, hc⟩
    refine ⟨b, hv, by simp only [Gh.cut, hb]; rw [if_pos hm], hcs, fun k hk f hf => ?_⟩
    obtain ⟨u, hu, hi⟩ := hc k hk f hf
    exact ⟨u, hu, Dat.Is.mono hmono _ _ hi⟩
  | lst wd n cell => exact Dat.Is.lift _ (Dat.Is.mono hmono (.lst wd n cell) v (by simpa [Dat.Is] using h))
  | int k n => simpa [Dat.Is] using h
  | bool b => simpa [Dat.Is] using h
  | str l => simpa [Dat.Is] using h
  | raw u => simpa [Dat.Is] using h

theorem Ends.cut {E : Env} {N0 : Nat} {v : AV} {H L : List Ent} (hc : Closed H.length H) (hv : v.below H.length) (hN : N0 ≤ H.length) : Ends E N0 v (H ++ L) v H := by
  intro g0 w0 g w r hN' hS hR hi
  have hent : ∀ n e, H[n]? = some e → (H ++ L)[n]? = some e ∧ n < H.length := fun n e he => by
    have hl := (List.getElem?_eq_some_iff.1 he).1
    exact ⟨by rw [List.getElem?_append_left hl]; exact he, hl⟩
  refine ⟨g.cut H.length, hN, ⟨hS.os, hS.tape, hS.output, hS.size, fun b hb => ⟨cut_imm (hS.imm b hb).1, (hS.imm b hb).2⟩, fun b hl hb => ⟨?_, (hS.free b hl hb).2⟩, fun n hn => ?_⟩, ?_, AV.Is.cut hv hi⟩
  · have := (hS.free b hl hb).1
    simp [Gh.cut, this]
  · simp only [Gh.cut]
    rw [if_pos (by omega)]
    exact hS.name n hn
  · refine ⟨fun n e he => ?_, E.keeps _ _ _ _ hR.inv (fun b hb => ⟨cut_imm hb, rfl⟩), fun b hb => by simp [Gh.cut, hR.lt b hb], fun n hn => by simp only [Gh.cut]; rw [if_neg (by omega)], fun b n hb => ?_, fun b n k f hb => ?_⟩
    · obtain ⟨he', hl⟩ := hent n e he
      have hi := hR.ent n e he'
      have hbl := hc n e he
      have hρ : (g.cut H.length).ρ n = g.ρ n := by simp only [Gh.cut]; rw [if_pos hl]
      cases e with
      | dead => trivial
      | row ty wd len cap cell =>
        rcases hi with ⟨h1, h2⟩ | ⟨b, o, cs, fz, h1, h2, h3⟩
        · exact .inl ⟨by rw [hρ]; exact h1, h2⟩
        · refine .inr ⟨b, o, cs, fz, by rw [hρ]; exact h1, by simp only [Gh.cut, h2]; rw [if_pos hl], h3.1, h3.2.1, h3.2.2.1, h3.2.2.2.1, fun k hk f hf => ?_⟩
          obtain ⟨u, hu, hi⟩ := h3.2.2.2.2 k hk f hf
          exact ⟨u, hu, Dat.Is.cutL hl hi⟩
      | box ty cells =>
        obtain ⟨b, cs, h1, h2, h3, h4, h5⟩ := hi
        refine ⟨b, cs, by rw [hρ]; exact h1, by simp only [Gh.cut, h2]; rw [if_pos hl], h3, h4, fun i c hic => ?_⟩
        obtain ⟨u, hu, hi⟩ := h5 i c hic
        exact ⟨u, hu, CV.Is.cut (hbl c (List.mem_of_getElem? hic)) hi⟩
    · simp only [Gh.cut] at hb
      split at hb
      · split at hb
        · rename_i h; cases hb; exact h
        · cases hb
      · split at hb <;> cases hb
      · rename_i h1 h2; exact absurd hb (h1 n)
    · simp only [Gh.cut] at hb
      split at hb
      · split at hb <;> cases hb
      · split at hb
        · rename_i h; cases hb; exact h
        · cases hb
      · rename_i h1 h2; exact absurd hb (h2 n k f)
theorem Fin.cut {E : Env} {N0 : Nat} {post : AV → List Ent → Prop} {v : AV} {H L : List Ent} (hc : Closed H.length H) (hv : v.below H.length) (hN : N0 ≤ H.length) (h : post v H) : V.Fin E N0 post v (H ++ L) := ⟨v, H, Ends.cut hc hv hN, h⟩
/-- The heap may be taken for closed ahead of a call. -/
theorem Meets.closed {E : Env} {P : Program} {f : FuncId} {args : List AV} {H : List Ent} {post : AV → List Ent → Prop} (h : Closed H.length H → Meets E P f args H post) : Meets E P f args H post :=
  fun g w us r hu => h r.closed g w us r hu
end Go.V
