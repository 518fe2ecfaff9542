/- V, part 17: packing (a list that a box alone holds stands in it), freezing, naming anew. -/
import Derived.Test.YtoajalcngklenaaDoorV16
set_option linter.unusedSimpArgs false
set_option linter.unusedVariables false
namespace Go.V
open Go Go.RowKit

/-! ### cells without addresses of ours -/
def NrC (cell : Nat → Nat → CV) (n wd : Nat) : Prop := ∀ k, k < n → ∀ f, f < wd → isNr (cell k f) = true
def allNr : List (List CV) → Bool
  | [] => true
  | r :: l => r.all isNr && allNr l
theorem allNr_get : ∀ {rows : List (List CV)}, allNr rows = true → ∀ k f, isNr (at2 rows k f) = true
  | [], _, k, f => by simp [at2, isNr]
  | r :: rows, h, 0, f => by
    simp only [allNr, Bool.and_eq_true, List.all_eq_true] at h
    simp only [at2, List.getD_cons_zero]
    cases hf : r[f]? with
    | none => simp [List.getD, hf, isNr]
    | some c => simp only [List.getD, hf, Option.getD_some]; exact h.1 c (List.mem_of_getElem? hf)
  | r :: rows, h, k + 1, f => by
    simp only [allNr, Bool.and_eq_true] at h
    have := allNr_get h.2 k f
    simpa [at2] using this
theorem NrC_at2 (rows : List (List CV)) (n wd : Nat) (h : allNr rows = true) : NrC (at2 rows) n wd = True := eq_true fun k _ f _ => allNr_get h k f
theorem NrC_byte (l : List UInt8) (n wd : Nat) : NrC (byteCell l) n wd = True := eq_true fun i _ f _ => by rcases byteCell_sh l i f with ⟨b, h⟩ | h <;> rw [h] <;> rfl
def NrU (cell : Nat → Nat → CV) : Prop := ∀ k f, isNr (cell k f) = true
theorem NrU_at2 (rows : List (List CV)) (h : allNr rows = true) : NrU (at2 rows) = True := eq_true fun k f => allNr_get h k f
theorem NrU_byte (l : List UInt8) : NrU (byteCell l) = True := eq_true fun i f => by rcases byteCell_sh l i f with ⟨b, h⟩ | h <;> rw [h] <;> rfl
theorem NrU_app (n : Nat) (c s : Nat → Nat → CV) (h1 : NrU c) (h2 : NrU s) : NrU (appCell n c s) = True := eq_true fun k f => by
  simp only [appCell]
  split
  · exact h1 _ _
  · exact h2 _ _
theorem NrC_app (n m wd : Nat) (c s : Nat → Nat → CV) (h1 : NrU c) (h2 : NrU s) : NrC (appCell n c s) m wd = True := eq_true fun k _ f _ => of_eq_true (NrU_app n c s h1 h2) k f
theorem allNr_app (l m : List (List CV)) : allNr (l ++ m) = (allNr l && allNr m) := by
  induction l with
  | nil => rfl
  | cons r l ih => simp [allNr, ih, Bool.and_assoc]
theorem allNr_iff : ∀ (l : List (List CV)), allNr l = true ↔ ∀ r ∈ l, r.all isNr = true
  | [] => by simp [allNr]
  | r :: l => by simp [allNr, allNr_iff l]
theorem allNr_take (l : List (List CV)) (n : Nat) (h : allNr l = true) : allNr (l.take n) = true := (allNr_iff _).2 fun r hr => (allNr_iff _).1 h r (List.mem_of_mem_take hr)
theorem allNr_drop (l : List (List CV)) (n : Nat) (h : allNr l = true) : allNr (l.drop n) = true := (allNr_iff _).2 fun r hr => (allNr_iff _).1 h r (List.mem_of_mem_drop hr)
/-- Plain data. -/
def isPl : CV → Bool
  | .int .. | .bool .. | .str .. | .raw .. | .lst .. | .nil .. => true
  | _ => false
theorem isPl_sh {x : CV} (h : isPl x = true) : isSh x = true := by cases x <;> simp [isPl] at h <;> rfl
theorem isPl_nr {x : CV} (h : isPl x = true) : isNr x = true := by cases x <;> simp [isPl] at h <;> rfl
theorem allSh_pl {α : Type} (e : α → List CV) (l : List α) (h : ∀ x, (e x).all isPl = true) : allSh (l.map e) = true := allSh_map e l fun x => by
  have := h x
  rw [List.all_eq_true] at this ⊢
  exact fun c hc => isPl_sh (this c hc)
theorem allNr_pl {α : Type} (e : α → List CV) (l : List α) (h : ∀ x, (e x).all isPl = true) : allNr (l.map e) = true := (allNr_iff _).2 fun r hr => by
  obtain ⟨x, _, rfl⟩ := List.mem_map.1 hr
  have := h x
  rw [List.all_eq_true] at this ⊢
  exact fun c hc => isPl_nr (this c hc)

section
variable {E : Env} {g : Gh} {w : World} {H : List Ent}

/-! ### packing -/
def Gh.pk (g : Gh) (r n i j : Nat) : Gh := ⟨g.ρ, fun b => match g.κ b with
    | .nm m => if m = r then .sub n [i, j] else .nm m
    | .sub m q => if m = r then .sub n (i :: j :: q) else .sub m q
    | x => x⟩
theorem HMv.pack {n r j ty e wd m c rn rc : Nat} {cells : List CV} {cell : Nat → Nat → CV} (hn : nth H n = .box ty cells) (hr : nth H r = .row e wd rn rc cell) (hj : cells[j]? = some (.sl r wd 0 m c))
    (hne : ¬ r = n) (hm : m ≤ rn) (hmc : m ≤ c) (hc : c ≤ rc) (hnr : NrC cell m wd) : HMv E H (setn (setn H n (.box ty (setn cells j (.own e wd m cell)))) r .dead) := by
  have hnH := nth_ent hn (by simp)
  have hrH := nth_ent hr (by simp)
  have hnl := (List.getElem?_eq_some_iff.1 hnH).1
  have hrl := (List.getElem?_eq_some_iff.1 hrH).1
  refine ⟨by simp [setn_eq], fun g w rel => ⟨g.pk r n 0 j, ?_⟩⟩
  have himm : ∀ b, g.κ b = .imm → (g.pk r n 0 j).κ b = .imm := fun b hb => by simp [Gh.pk, hb]
  have hsub : ∀ b m q, ¬ m = r → g.κ b = .sub m q → (g.pk r n 0 j).κ b = .sub m q := fun b m q h hb => by simp only [Gh.pk, hb]; rw [if_neg h]
  have hlen : (setn (setn H n (.box ty (setn cells j (.own e wd m cell)))) r .dead).length = H.length := by simp [setn_eq]
  refine RelH.same rel himm (fun b hb => by simp [Gh.pk, hb]) (fun _ _ => rfl) (fun x hx => rel.dom x (by rw [hlen] at hx; exact hx)) (fun b x hb => ?_) (fun b x p hb => ?_) (fun x ent hx => ?_)
  · rw [hlen]
    simp only [Gh.pk] at hb
    split at hb
    · rename_i m' hm'
      split at hb
      · cases hb
      · injection hb with hb; subst hb; exact rel.rol b _ hm'
    · split at hb <;> cases hb
    · rename_i h1 h2; exact absurd hb (h1 x)
  · rw [hlen]
    simp only [Gh.pk] at hb
    split at hb
    · split at hb
      · injection hb with hb _; omega
      · cases hb
    · rename_i m' q hm'
      split at hb
      · injection hb with hb _; omega
      · injection hb with hb _; have := rel.rols b m' q hm'; omega
    · rename_i h1 h2; exact absurd hb (h2 x p)
  · rw [setn_eq, setn_eq] at hx
    by_cases hxr : r = x
    · subst hxr
      rw [List.getElem?_set_self (by simpa using hrl)] at hx
      exact (Option.some.inj hx) ▸ trivial
    · rw [List.getElem?_set_ne hxr] at hx
      by_cases hxn : n = x
      · subst hxn
        rw [List.getElem?_set_self hnl] at hx
        obtain rfl := Option.some.inj hx
        obtain ⟨b, cs, h1, h2, h3, h4, h5⟩ := rel.ent n _ hnH
        refine ⟨b, cs, by rw [setn_eq, List.length_set]; exact h1, by simp only [Gh.pk, h2]; rw [if_neg (Ne.symm hne)], h3, by rw [setn_eq, List.length_set]; exact h4, fun i y hy => ?_⟩
        rw [setn_eq] at hy
        have hjl := (List.getElem?_eq_some_iff.1 hj).1
        by_cases hij : j = i
        · subst hij
          rw [List.getElem?_set_self hjl] at hy
          obtain rfl := Option.some.inj hy
          obtain ⟨u, hu, hi⟩ := h5 j _ hj
          refine ⟨u, hu, ?_⟩
          have hi : (CV.sl r wd 0 m c).At g w none u := CV.At.share trivial hi
          simp only [CV.At]
          rcases hi with ⟨hm0, hc0, A, rfl⟩ | ⟨p, hp, hwd, rfl⟩
          · exact .inl ⟨hm0, A, rfl⟩
          · rcases rel.ent r _ hrH with ⟨hno, _⟩ | ⟨b', o, cs', fz, g1, g2, g3, g4, g5, g6, g7⟩
            · rw [hp] at hno; cases hno
            · rw [hp] at g1
              obtain rfl := Option.some.inj g1
              have hcw : c * wd ≤ rc * wd := Nat.mul_le_mul_right _ hc
              refine .inr ⟨b', o, c, cs', fz, by simp, hmc, by simp [Gh.pk, g2], g3, by rcases g4 with g4 | g4 <;> omega, by omega, fun k hk f hf => ?_⟩
              obtain ⟨u, hu, hi⟩ := g7 k (by omega) f hf
              refine ⟨u, hu, CV.At.move (g := g.bare) (g' := (g.pk r n 0 j).bare) (fun b hb => ⟨himm b hb, rfl⟩) (fun _ _ h => by cases h) (fun b q hq => ⟨?_, rfl⟩) (CV.At.toBare (hnr k hk f hf) hi)⟩
              have hq : g.κ b = _ := hq
              show (g.pk r n 0 j).κ b = _
              simp [Gh.pk, hq]
        · rw [List.getElem?_set_ne hij] at hy
          obtain ⟨u, hu, hi⟩ := h5 i y hy
          exact ⟨u, hu, CV.At.move (fun b hb => ⟨himm b hb, rfl⟩) (fun _ _ h => h) (fun b q hq => ⟨hsub b n _ (Ne.symm hne) hq, rfl⟩) hi⟩
      · rw [List.getElem?_set_ne hxn] at hx
        exact Ent.Is.keep (fun b hb => ⟨himm b hb, rfl⟩) (fun _ _ h => h) rfl (fun b hb => ⟨by simp only [Gh.pk, hb]; rw [if_neg (Ne.symm hxr)], rfl⟩) (fun b p hb => ⟨hsub b x p (Ne.symm hxr) hb, rfl⟩) (rel.ent x ent hx)

/-- All lists that the box n holds, as its own. -/
def packC (n : Nat) : Nat → List CV → List Ent → (List Ent → Prop) → Prop
  | _, [], H, K => K H
  | j, .sl r wd k m c :: l, H, K => match nth H r, nth H n with
    | .row e wd2 rn rc cell, .box ty cells => ¬ r = n ∧ k = 0 ∧ wd2 = wd ∧ m ≤ rn ∧ m ≤ c ∧ c ≤ rc ∧ NrC cell m wd ∧ packC n (j + 1) l (setn (setn H n (.box ty (setn cells j (.own e wd m cell)))) r .dead) K
    | _, _ => False
  | j, .nil e wd :: l, H, K => match nth H n with
    | .box ty cells => packC n (j + 1) l (setn H n (.box ty (setn cells j (.own e wd 0 (at2 []))))) K
    | _ => False
  | j, .int .. :: l, H, K => packC n (j + 1) l H K
  | j, .bool .. :: l, H, K => packC n (j + 1) l H K
  | j, .str .. :: l, H, K => packC n (j + 1) l H K
  | j, .raw .. :: l, H, K => packC n (j + 1) l H K
  | j, .lst .. :: l, H, K => packC n (j + 1) l H K
  | j, .own .. :: l, H, K => packC n (j + 1) l H K
  | j, .ptr .. :: l, H, K => packC n (j + 1) l H K
  | j, .dptr .. :: l, H, K => packC n (j + 1) l H K
  | j, .fn .. :: l, H, K => packC n (j + 1) l H K
  | j, .bad :: l, H, K => packC n (j + 1) l H K
def cellsAt (H : List Ent) (n : Nat) : List CV := match nth H n with
  | .box _ cs => cs
  | _ => []
def packP (n : Nat) (H : List Ent) (K : List Ent → Prop) : Prop := packC n 0 (cellsAt H n) H K

theorem packC_sound {n : Nat} : ∀ (l : List CV) (j : Nat) {H : List Ent} {K : List Ent → Prop}, (∀ (ty : Nat) (cells : List CV), nth H n = .box ty cells → ∀ i, i < l.length → cells[j + i]? = l[i]?) → packC n j l H K → ∃ H', HMv E H H' ∧ K H'
  | [], j, H, K, _, h => ⟨H, HMv.refl _ _, h⟩
  | x :: l, j, H, K, hc, h => by
    have step : ∀ H1 : List Ent, HMv E H H1 → (∀ (ty : Nat) (cells : List CV), nth H1 n = .box ty cells → ∃ ty' cells', nth H n = .box ty' cells' ∧ ∀ i, j < i → cells[i]? = cells'[i]?) → packC n (j + 1) l H1 K → ∃ H', HMv E H H' ∧ K H' := fun H1 hm hc' h' => by
      obtain ⟨H', h1, h2⟩ := packC_sound l (j + 1) (H := H1) (fun ty cells hb i hi => by
        obtain ⟨ty', cells', hb', heq⟩ := hc' ty cells hb
        have := hc ty' cells' hb' (i + 1) (by simpa using hi)
        rw [heq _ (by omega), show j + 1 + i = j + (i + 1) by omega, this]; rfl) h'
      exact ⟨H', hm.trans h1, h2⟩
    have stay : packC n (j + 1) l H K → ∃ H', HMv E H H' ∧ K H' := fun h' => step H (HMv.refl _ _) (fun ty cells hb => ⟨ty, cells, hb, fun _ _ => rfl⟩) h'
    cases x with
    | sl r wd k m c =>
      simp only [packC] at h
      split at h
      · rename_i e wd2 rn rc cell ty cells hr hn
        obtain ⟨hne, rfl, rfl, hm, hmc, hcc, hnr, h⟩ := h
        have hj := hc ty cells hn 0 (by simp)
        simp only [Nat.add_zero, List.getElem?_cons_zero] at hj
        refine step _ (HMv.pack hn hr hj hne hm hmc hcc hnr) (fun ty1 cells1 hb => ⟨ty, cells, hn, fun i hi => ?_⟩) h
        rw [nth_set_ne _ _ _ _ hne, nth_set _ _ _ (nth_lt hn (by simp))] at hb
        injection hb with _ hb
        rw [← hb, setn_eq, List.getElem?_set_ne (by omega)]
      · exact h.elim
    | nil e wd =>
      simp only [packC] at h
      split at h
      · rename_i ty cells hn
        have hj := hc ty cells hn 0 (by simp)
        simp only [Nat.add_zero, List.getElem?_cons_zero] at hj
        refine step _ (HMv.le ?_) (fun ty1 cells1 hb => ⟨ty, cells, hn, fun i hi => ?_⟩) h
        · have hs := setn_same hn (by simp)
          have := HeapLe.set (H := H) (n := n) (e := .box ty cells) (e' := .box ty (setn cells j (.own e wd 0 (at2 [])))) (EntLe.box ?_)
          · rw [hs] at this; exact this
          · rw [setn_eq]
            have hset : cells.set j (.nil e wd) = cells := by
              apply List.ext_getElem?
              intro i
              have hjl := (List.getElem?_eq_some_iff.1 hj).1
              by_cases hij : j = i
              · subst hij; rw [List.getElem?_set_self hjl, hj]
              · rw [List.getElem?_set_ne hij]
            have hF := F2.setn (R := CwLe) CwLe.refl (CwLe.nil e wd e wd (at2 [])) cells j
            rw [setn_eq, setn_eq, hset] at hF
            exact hF
        · rw [nth_set _ _ _ (nth_lt hn (by simp))] at hb
          injection hb with _ hb
          rw [← hb, setn_eq, List.getElem?_set_ne (by omega)]
      · exact h.elim
    | _ => exact stay h
theorem packP_sound {n : Nat} {K : List Ent → Prop} (h : packP n H K) : ∃ H', HMv E H H' ∧ K H' :=
  packC_sound (cellsAt H n) 0 (fun ty cells hb i _ => by simp [cellsAt, hb]) h
theorem Meets.pack {P : Program} {f : FuncId} {args : List AV} {post : AV → List Ent → Prop} (n : Nat) (h : packP n H (bx fun H' => Meets E P f args H' post)) : Meets E P f args H post := by
  obtain ⟨H', hm, hk⟩ := packP_sound (E := E) h
  exact Meets.mv hm hk
theorem Fin.pack {N0 : Nat} {post : AV → List Ent → Prop} {v : AV} (n : Nat) (h : packP n H (bx fun H' => V.Fin E N0 post v H')) : V.Fin E N0 post v H := by
  obtain ⟨H', hm, hk⟩ := packP_sound (E := E) h
  exact Fin.mv hm hk
theorem Goes.pack {N0 : Nat} {l : List AV} {s : St} (n : Nat) (h : packP n H (bx fun H' => Goes E N0 ⟨l, H'⟩ s)) : Goes E N0 ⟨l, H⟩ s := by
  obtain ⟨H', hm, hk⟩ := packP_sound (E := E) h
  exact Goes.mv hm hk
theorem Back.pack {N0 : Nat} {α : Type} {Iv : α → Prop} {μ : α → Nat} {f : α → St} {x : α} {l : List AV} (n : Nat) (h : packP n H (bx fun H' => Back E N0 Iv μ f x ⟨l, H'⟩)) : Back E N0 Iv μ f x ⟨l, H⟩ := by
  obtain ⟨H', hm, hk⟩ := packP_sound (E := E) h
  exact Back.mv hm hk
end
end Go.V
