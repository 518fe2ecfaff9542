/- V, part 16: what is said of a heap may be weakened, packed, frozen, named anew; contracts of the shelf as contracts of V. -/
import Derived.Test.YtoajalcngklenaaDoorV15
import Derived.Lib.LaidTab
set_option linter.unusedSimpArgs false
set_option linter.unusedVariables false
namespace Go.V
open Go Go.RowKit

/-! ### contracts of the shelf -/
/-- A contract that leaves the world alone. -/
theorem Meets.same {E : Env} {P : Program} {f : FuncId} {args : List AV} {H : List Ent} {av : AV} (hc : ∀ us w, (callFunc f us).run P w = .ok (.enter f us) w)
    (h : ∀ g w us, RelH E g H w → F2 (AV.Is g w) args us → ∃ v, av.Is g w v ∧ Calls P f us.toArray w fun e w' => e = .returned v ∧ w' = w) : Meets E P f args H (Ret av H) := by
  intro g w us r hu
  obtain ⟨v, hi, hcl⟩ := h g w us r hu
  refine .inl ⟨hc _ _, hcl.mono ?_⟩
  rintro e w' ⟨rfl, rfl⟩
  exact ⟨g, H, av, ⟨rfl, rfl⟩, Nat.le_refl _, r, hi, Step.refl _ _ _⟩

/-- A contract that makes one new row of data, full. -/
theorem Meets.fresh {E : Env} {P : Program} {f : FuncId} {args : List AV} {H : List Ent} (ty n : Nat) (cell : Nat → Nat → CV) (hc : ∀ us w, (callFunc f us).run P w = .ok (.enter f us) w)
    (h : ∀ g w us, RelH E g H w → F2 (AV.Is g w) args us → ∃ cs : List Value, cs.length = n ∧ (∀ i, i < n → ∃ u, cs[i]? = some u ∧ (cell i 0).Is g w u) ∧
      Calls P f us.toArray w fun e w' => e = .returned (.slice (some ⟨w.heap.size, 0, none⟩) n n) ∧ w' = w.alloc (.cells cs.toArray ty)) :
    Meets E P f args H (Ret (.c (.sl H.length 1 0 n n)) (H ++ [.row ty 1 n n cell])) := by
  intro g w us r hu
  obtain ⟨cs, hl, hcell, hcl⟩ := h g w us r hu
  refine .inl ⟨hc _ _, hcl.mono ?_⟩
  rintro e w' ⟨rfl, rfl⟩
  obtain ⟨g', hR, hS, hI⟩ := new_row r ty 1 n n cell cs.toArray (0, 0) (w.alloc (.cells cs.toArray ty)) rfl rfl rfl (by simp) (fun b hb => Below.heap_alloc w _ b hb)
    (by simp [World.alloc, -World.alloc_eq]) (.inl (Nat.le_refl _)) (Nat.le_refl _) (by simp [hl]) (fun k hk f hf => by
      obtain rfl : f = 0 := by omega
      obtain ⟨u, hu, hi⟩ := hcell k hk
      exact ⟨u, by simpa using hu, hi⟩)
  exact ⟨g', _, _, ⟨rfl, rfl⟩, by simp, hR, hI, hS⟩

/-- A table of the library lies where it was laid. -/
def tabEnv (P : Program) (name : String) (k : IntKind) (zs : List Int) : Env where
  inv κ w := Lib.TabIs P w name k zs ∧ ∃ g, P.globalNamed name = some g ∧ κ g = .imm
  keeps κ κ' w w' h hm := by
    obtain ⟨ht, g, hg, hi⟩ := h
    refine ⟨?_, g, hg, (hm g hi).1⟩
    unfold Lib.TabIs World.var? at *
    rw [hg] at ht ⊢
    simp only [Option.bind_some] at ht ⊢
    rw [(hm g hi).2]
    exact ht

/-! ### what says no more -/
def CvLe (a b : CV) : Prop := ∀ g w l v, a.At g w l v → b.At g w l v
theorem CvLe.refl (a : CV) : CvLe a a := fun _ _ _ _ h => h
theorem CvLe.of_eq {a b : CV} (h : a = b) : CvLe a b := h ▸ CvLe.refl a
theorem CvLe.lst {wd n : Nat} {cell cell' : Nat → Nat → CV} (h : ∀ k, k < n → ∀ f, f < wd → CvLe (cell k f) (cell' k f)) : CvLe (.lst wd n cell) (.lst wd n cell') := by
  intro g w l v hi
  have hi : (CV.lst wd n cell).At g w none v := CV.At.share trivial hi
  refine CV.At.lift _ ?_
  obtain ⟨A, c, hv, hc, hx⟩ := hi
  refine ⟨A, c, hv, hc, hx.imp id ?_⟩
  rintro ⟨b, o, hA, hb, hx⟩
  refine ⟨b, o, hA, hb, fun k hk f hf => ?_⟩
  obtain ⟨u, hu, hi⟩ := hx k hk f hf
  exact ⟨u, hu, h k hk f hf _ _ _ _ hi⟩
/-- .. where it stands in a place. -/
def CwLe (a b : CV) : Prop := ∀ g w m p v, a.At g w (some (m, p)) v → b.At g w (some (m, p)) v
theorem CwLe.of {a b : CV} (h : CvLe a b) : CwLe a b := fun g w m p v => h g w _ v
theorem CwLe.refl (a : CV) : CwLe a a := fun _ _ _ _ _ h => h
theorem CwLe.of_eq {a b : CV} (h : a = b) : CwLe a b := h ▸ CwLe.refl a
theorem CwLe.nil (e wd ty wd' : Nat) (cell : Nat → Nat → CV) : CwLe (.nil e wd) (.own ty wd' 0 cell) := by
  intro g w m p v hi
  have hi : (CV.nil e wd).At g w none v := CV.At.share trivial hi
  simp only [CV.At]
  exact .inl ⟨trivial, hi⟩
theorem CvLe.own {ty wd n : Nat} {cell cell' : Nat → Nat → CV} (h : ∀ k, k < n → ∀ f, f < wd → CwLe (cell k f) (cell' k f)) : CvLe (.own ty wd n cell) (.own ty wd n cell') := by
  intro g w l v hi
  cases l with
  | none => simp [CV.At] at hi
  | some l =>
    obtain ⟨m, p⟩ := l
    simp only [CV.At] at hi ⊢
    refine hi.imp id ?_
    rintro ⟨b, o, c, cs, fz, h1, h2, h3, h4, h5, h6, h7⟩
    refine ⟨b, o, c, cs, fz, h1, h2, h3, h4, h5, h6, fun k hk f hf => ?_⟩
    obtain ⟨u, hu, hi⟩ := h7 k hk f hf
    exact ⟨u, hu, h k hk f hf _ _ _ _ _ hi⟩
/-- Nothing is a list of nothing. -/
theorem CvLe.nil (e wd wd' : Nat) (cell : Nat → Nat → CV) : CvLe (.nil e wd) (.lst wd' 0 cell) := by
  intro g w l v hi
  have hi : (CV.nil e wd).At g w none v := CV.At.share trivial hi
  obtain ⟨A, rfl⟩ := hi
  exact CV.At.lift _ ⟨A, 0, rfl, Nat.le_refl _, .inl rfl⟩
theorem CvLe.rows {wd : Nat} {rows rows' : List (List CV)} (h : F2 (F2 CvLe) rows rows') : ∀ k f, CvLe (at2 rows k f) (at2 rows' k f) := by
  intro k f
  have hl := h.length
  simp only [at2, List.getD]
  cases hk : rows[k]? with
  | none =>
    have : rows'[k]? = none := by rw [List.getElem?_eq_none_iff] at hk ⊢; omega
    rw [this]
    exact CvLe.refl _
  | some r =>
    obtain ⟨r', hr', hrr⟩ := F2.get h hk
    rw [hr']
    simp only [Option.getD_some]
    have hl := hrr.length
    cases hf : r[f]? with
    | none =>
      have : r'[f]? = none := by rw [List.getElem?_eq_none_iff] at hf ⊢; omega
      rw [this]
      exact CvLe.refl _
    | some c =>
      obtain ⟨c', hc', hcc⟩ := F2.get hrr hf
      rw [hc']
      exact hcc
theorem CwLe.rows {wd : Nat} {rows rows' : List (List CV)} (h : F2 (F2 CwLe) rows rows') : ∀ k f, CwLe (at2 rows k f) (at2 rows' k f) := by
  intro k f
  have hl := h.length
  simp only [at2, List.getD]
  cases hk : rows[k]? with
  | none =>
    have : rows'[k]? = none := by rw [List.getElem?_eq_none_iff] at hk ⊢; omega
    rw [this]
    exact CwLe.refl _
  | some r =>
    obtain ⟨r', hr', hrr⟩ := F2.get h hk
    rw [hr']
    simp only [Option.getD_some]
    have hl := hrr.length
    cases hf : r[f]? with
    | none =>
      have : r'[f]? = none := by rw [List.getElem?_eq_none_iff] at hf ⊢; omega
      rw [this]
      exact CwLe.refl _
    | some c =>
      obtain ⟨c', hc', hcc⟩ := F2.get hrr hf
      rw [hc']
      exact hcc
theorem F2.refl {α : Type} {R : α → α → Prop} (h : ∀ a, R a a) : ∀ l, F2 R l l
  | [] => trivial
  | a :: l => ⟨h a, F2.refl h l⟩

def EntLe (e e' : Ent) : Prop := ∀ g w n, e.Is g w n → e'.Is g w n
theorem EntLe.refl (e : Ent) : EntLe e e := fun _ _ _ h => h
theorem EntLe.of_eq {e e' : Ent} (h : e = e') : EntLe e e' := h ▸ EntLe.refl e
theorem EntLe.row {ty wd len cap : Nat} {cell cell' : Nat → Nat → CV} (h : ∀ k, k < len → ∀ f, f < wd → CwLe (cell k f) (cell' k f)) : EntLe (.row ty wd len cap cell) (.row ty wd len cap cell') := by
  intro g w n hi
  refine hi.imp id ?_
  rintro ⟨b, o, cs, fz, h1, h2, h3, h4, h5, h6, h7⟩
  refine ⟨b, o, cs, fz, h1, h2, h3, h4, h5, h6, fun k hk f hf => ?_⟩
  obtain ⟨u, hu, hi⟩ := h7 k hk f hf
  exact ⟨u, hu, h k hk f hf _ _ _ _ _ hi⟩
theorem EntLe.row1 {ty len cap : Nat} {cell cell' : Nat → Nat → CV} (h : ∀ k, k < len → cell k 0 = cell' k 0) : EntLe (.row ty 1 len cap cell) (.row ty 1 len cap cell') := .row fun k hk f hf => by
  obtain rfl : f = 0 := by omega
  exact CwLe.of_eq (h k hk)
theorem EntLe.box {ty : Nat} {cells cells' : List CV} (h : F2 CwLe cells cells') : EntLe (.box ty cells) (.box ty cells') := by
  intro g w n hi
  have hl := h.length
  obtain ⟨b, cs, h1, h2, h3, h4, h5⟩ := hi
  refine ⟨b, cs, by rw [← hl]; exact h1, h2, h3, by rw [← hl]; exact h4, fun i c hc => ?_⟩
  obtain ⟨c0, hc0, hle⟩ := F2.get' h hc
  obtain ⟨u, hu, hi⟩ := h5 i c0 hc0
  exact ⟨u, hu, hle _ _ _ _ _ hi⟩
theorem HeapLe.refl (H : List Ent) : F2 EntLe H H := F2.refl EntLe.refl H
theorem HeapLe.app {H L L' : List Ent} (h : F2 EntLe L L') : F2 EntLe (H ++ L) (H ++ L') := F2.append (HeapLe.refl H) h
theorem F2.setn {α : Type} [Inhabited α] {R : α → α → Prop} (hr : ∀ a, R a a) {a b : α} (h : R a b) : ∀ (l : List α) (n : Nat), F2 R (V.setn l n a) (V.setn l n b)
  | [], _ => trivial
  | _ :: l, 0 => ⟨h, F2.refl hr l⟩
  | x :: l, n + 1 => ⟨hr x, F2.setn hr h l n⟩
theorem HeapLe.set {H : List Ent} {n : Nat} {e e' : Ent} (h : EntLe e e') : F2 EntLe (setn H n e) (setn H n e') := F2.setn EntLe.refl h H n
theorem HeapLe.rel {E : Env} {g : Gh} {H H' : List Ent} {w : World} (h : F2 EntLe H H') (r : RelH E g H w) : RelH E g H' w := by
  have hl := h.length
  refine ⟨fun n e he => ?_, r.inv, r.lt, fun n hn => r.dom n (by omega), fun b n hb => by have := r.rol b n hb; omega, fun b n p hb => by have := r.rols b n p hb; omega⟩
  obtain ⟨e0, he0, hle⟩ := F2.get' h he
  exact hle _ _ _ (r.ent n e0 he0)

/-! ### what is said of a world may turn -/
/-- What is said of every world of H may be said as H'. Names stay. -/
def HMv (E : Env) (H H' : List Ent) : Prop := H.length ≤ H'.length ∧ ∀ g w, RelH E g H w → ∃ g', RelH E g' H' w ∧ Step H.length g w g' w
theorem HMv.refl (E : Env) (H : List Ent) : HMv E H H := ⟨Nat.le_refl _, fun g w r => ⟨g, r, Step.refl _ _ _⟩⟩
theorem HMv.trans {E : Env} {H H' H'' : List Ent} (h : HMv E H H') (h' : HMv E H' H'') : HMv E H H'' := ⟨Nat.le_trans h.1 h'.1, fun g w r => by
  obtain ⟨g1, r1, s1⟩ := h.2 g w r
  obtain ⟨g2, r2, s2⟩ := h'.2 g1 w r1
  exact ⟨g2, r2, s1.trans s2 h.1⟩⟩
theorem HMv.le {E : Env} {H H' : List Ent} (h : F2 EntLe H H') : HMv E H H' := ⟨by rw [h.length]; exact Nat.le_refl _, fun g w r => ⟨g, HeapLe.rel h r, Step.refl _ _ _⟩⟩
theorem HMv.nil (E : Env) (H : List Ent) (e wd : Nat) (cell : Nat → Nat → CV) : HMv E H (H ++ [.row e wd 0 0 cell]) := ⟨by simp, fun g w r => ⟨g, r.addNil e wd cell, Step.refl _ _ _⟩⟩

theorem F2.avs {g g' : Gh} {w : World} {H : List Ent} {E : Env} (r : RelH E g H w) (s : Step H.length g w g' w) {l : List AV} {us : List Value} (h : F2 (AV.Is g w) l us) : F2 (AV.Is g' w) l us :=
  F2.imp (fun _ _ => AV.Is.mono s.imm (r.ext s.name)) h
theorem Meets.mv {E : Env} {P : Program} {f : FuncId} {args : List AV} {H H' : List Ent} {post : AV → List Ent → Prop} (h : HMv E H H') (hm : Meets E P f args H' post) : Meets E P f args H post := by
  intro g w us r hu
  obtain ⟨g1, r1, s1⟩ := h.2 g w r
  refine (hm g1 w us r1 (F2.avs r s1 hu)).mono fun v w' ⟨g', H1, av, hp, hl, hR, hi, hS⟩ => ⟨g', H1, av, hp, Nat.le_trans h.1 hl, hR, hi, s1.trans hS h.1⟩
theorem Fin.mv {E : Env} {N0 : Nat} {post : AV → List Ent → Prop} {v : AV} {H H' : List Ent} (h : HMv E H H') (hf : V.Fin E N0 post v H') : V.Fin E N0 post v H := by
  obtain ⟨v', H1, he, hp⟩ := hf
  refine ⟨v', H1, fun g0 w0 g w r hN hS hR hv => ?_, hp⟩
  obtain ⟨g1, r1, s1⟩ := h.2 g w hR
  exact he g0 w0 g1 w r (Nat.le_trans hN h.1) (hS.trans s1 hN) r1 (AV.Is.mono s1.imm (hR.ext s1.name) hv)
theorem Goes.mv {E : Env} {N0 : Nat} {l : List AV} {H H' : List Ent} {s : St} (h : HMv E H H') (hg : Goes E N0 ⟨l, H'⟩ s) : Goes E N0 ⟨l, H⟩ s := by
  rintro g0 w0 a w ⟨g, hN, hS, r, hs⟩
  obtain ⟨g1, r1, s1⟩ := h.2 g w r
  exact hg g0 w0 a w ⟨g1, Nat.le_trans hN h.1, hS.trans s1 hN, r1, hs.step r s1⟩
theorem Back.via {E : Env} {N0 : Nat} {α : Type} {Iv : α → Prop} {μ : α → Nat} {f : α → St} {x : α} {s s' : St} (h : Goes E N0 s s') (hb : Back E N0 Iv μ f x s') : Back E N0 Iv μ f x s := by
  obtain ⟨y, hy, hg⟩ := hb
  exact ⟨y, hy, h.trans hg⟩
theorem Back.mv {E : Env} {N0 : Nat} {α : Type} {Iv : α → Prop} {μ : α → Nat} {f : α → St} {x : α} {l : List AV} {H H' : List Ent} (h : HMv E H H') (hb : Back E N0 Iv μ f x ⟨l, H'⟩) : Back E N0 Iv μ f x ⟨l, H⟩ :=
  Back.via (Goes.mv h (Goes.refl _ _ _)) hb
theorem Goes.le {E : Env} {N0 : Nat} {l l' : List AV} {H H' : List Ent} (h : SlotsLe l l') (hH : F2 EntLe H H') : Goes E N0 ⟨l, H⟩ ⟨l', H'⟩ := (Goes.slots h rfl).trans (Goes.mv (HMv.le hH) (Goes.refl _ _ _))
theorem Fin.le {E : Env} {N0 : Nat} {post : AV → List Ent → Prop} {v : AV} {H H' : List Ent} (h : F2 EntLe H H') (hp : post v H') : V.Fin E N0 post v H := Fin.mv (HMv.le h) (Fin.now hp)
theorem Fin.av {E : Env} {N0 : Nat} {post : AV → List Ent → Prop} {v v' : AV} {H : List Ent} (h : AvLe v v') (hf : V.Fin E N0 post v' H) : V.Fin E N0 post v H := by
  obtain ⟨v1, H1, he, hp⟩ := hf
  exact ⟨v1, H1, fun g0 w0 g w r hN hS hR hv => he g0 w0 g w r hN hS hR (h _ _ _ hv), hp⟩
theorem Meets.args {E : Env} {P : Program} {f : FuncId} {args args' : List AV} {H : List Ent} {post : AV → List Ent → Prop} (h : SlotsLe args args') (hm : Meets E P f args' H post) : Meets E P f args H post :=
  fun g w us r hu => hm g w us r (h.is hu)
theorem AvLe.c {a b : CV} (h : CvLe a b) : AvLe (.c a) (.c b) := fun g w v hi => h g w none v hi
theorem F2.cvs {g : Gh} {w : World} : ∀ {a b : List CV} {us : List Value}, F2 CvLe a b → F2 (CV.Is g w) a us → F2 (CV.Is g w) b us
  | [], [], [], _, _ => trivial
  | _ :: _, _ :: _, _ :: _, h, hu => ⟨h.1 _ _ _ _ hu.1, F2.cvs h.2 hu.2⟩
theorem AvLe.agg {a b : List CV} (h : F2 CvLe a b) : AvLe (.s (.agg a)) (.s (.agg b)) := by
  rintro g w v ⟨us, rfl, hu⟩
  exact ⟨us, rfl, F2.cvs h hu⟩
end Go.V
