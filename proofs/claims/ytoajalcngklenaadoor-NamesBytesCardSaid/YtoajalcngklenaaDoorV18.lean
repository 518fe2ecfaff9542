/- V, part 18: freezing a row; naming anew what goes on, forgetting the rest. -/
import Derived.Test.YtoajalcngklenaaDoorV17
set_option linter.unusedSimpArgs false
set_option linter.unusedVariables false
namespace Go.V
open Go Go.RowKit

section
variable {E : Env} {g : Gh} {w : World} {H : List Ent}

/-! ### freezing -/
def thaw (r wd n : Nat) (cell : Nat → Nat → CV) : CV → CV
  | .sl r' wd' k len cap => if r' = r then .lst wd len (subCell k len cell) else .sl r' wd' k len cap
  | x => x
/-- What refers to the row is a part of it. -/
def thawOk (r wd n : Nat) : CV → Prop
  | .sl r' wd' k len cap => r' = r → wd' = wd ∧ k + len ≤ n ∧ len ≤ cap
  | _ => True
def mapS (f : CV → CV) : SV → SV
  | .c x => .c (f x)
  | .agg cs => .agg (cs.map f)
def mapA (f : CV → CV) : AV → AV
  | .s x => .s (mapS f x)
  | .tup vs => .tup (vs.map (mapS f))
def allC (p : CV → Prop) : List CV → Prop
  | [] => True
  | x :: l => p x ∧ allC p l
def allS (p : CV → Prop) : SV → Prop
  | .c x => p x
  | .agg cs => allC p cs
def allSs (p : CV → Prop) : List SV → Prop
  | [] => True
  | x :: l => allS p x ∧ allSs p l
def allA (p : CV → Prop) : AV → Prop
  | .s x => allS p x
  | .tup vs => allSs p vs
def allAs (p : CV → Prop) : List AV → Prop
  | [] => True
  | x :: l => allA p x ∧ allAs p l

theorem map_is {g g' : Gh} {f : CV → CV} {p : CV → Prop} (hf : ∀ (x : CV) (v : Value), p x → x.Is g w v → (f x).Is g' w v) :
    (∀ {cs : List CV} {us : List Value}, allC p cs → F2 (CV.Is g w) cs us → F2 (CV.Is g' w) (cs.map f) us) := by
  intro cs
  induction cs with
  | nil => intro us _ h; cases us <;> first | trivial | exact h.elim
  | cons x cs ih =>
    intro us hp h
    cases us with
    | nil => exact h.elim
    | cons u us => exact ⟨hf _ _ hp.1 h.1, ih hp.2 h.2⟩
theorem mapS_is {g g' : Gh} {f : CV → CV} {p : CV → Prop} (hf : ∀ (x : CV) (v : Value), p x → x.Is g w v → (f x).Is g' w v) {x : SV} {v : Value} (hp : allS p x) (h : x.Is g w v) : (mapS f x).Is g' w v := by
  cases x with
  | c x => exact hf _ _ hp h
  | agg cs =>
    obtain ⟨us, rfl, hu⟩ := h
    exact ⟨us, rfl, map_is hf hp hu⟩
theorem mapSs_is {g g' : Gh} {f : CV → CV} {p : CV → Prop} (hf : ∀ (x : CV) (v : Value), p x → x.Is g w v → (f x).Is g' w v) : ∀ {vs : List SV} {us : List Value}, allSs p vs → F2 (SV.Is g w) vs us → F2 (SV.Is g' w) (vs.map (mapS f)) us
  | [], [], _, _ => trivial
  | _ :: _, _ :: _, hp, h => ⟨mapS_is hf hp.1 h.1, mapSs_is hf hp.2 h.2⟩
theorem mapA_is {g g' : Gh} {f : CV → CV} {p : CV → Prop} (hf : ∀ (x : CV) (v : Value), p x → x.Is g w v → (f x).Is g' w v) {x : AV} {v : Value} (hp : allA p x) (h : x.Is g w v) : (mapA f x).Is g' w v := by
  cases x with
  | s x => exact mapS_is hf hp h
  | tup vs =>
    obtain ⟨us, rfl, hu⟩ := h
    exact ⟨us, rfl, mapSs_is hf hp hu⟩
theorem mapAs_is {g g' : Gh} {f : CV → CV} {p : CV → Prop} (hf : ∀ (x : CV) (v : Value), p x → x.Is g w v → (f x).Is g' w v) : ∀ {vs : List AV} {us : List Value}, allAs p vs → F2 (AV.Is g w) vs us → F2 (AV.Is g' w) (vs.map (mapA f)) us
  | [], [], _, _ => trivial
  | _ :: _, _ :: _, hp, h => ⟨mapA_is hf hp.1 h.1, mapAs_is hf hp.2 h.2⟩

def Gh.fr (g : Gh) (r : Nat) : Gh := ⟨g.ρ, fun b => match g.κ b with
    | .nm m => if m = r then .imm else .nm m
    | x => x⟩
theorem RelH.fr (rel : RelH E g H w) {r e wd rn rc : Nat} {cell : Nat → Nat → CV} (hr : nth H r = .row e wd rn rc cell) (hsh : ShC cell 0 rn wd) (hnr : NrC cell rn wd) :
    RelH E (g.fr r) (setn H r .dead) w ∧ Step H.length g w (g.fr r) w ∧ ∀ (x : CV) (v : Value), thawOk r wd rn x → x.Is g w v → (thaw r wd rn cell x).Is (g.fr r) w v := by
  have hrH := nth_ent hr (by simp)
  have hrl := (List.getElem?_eq_some_iff.1 hrH).1
  have himm : ∀ b, g.κ b = .imm → (g.fr r).κ b = .imm := fun b hb => by simp [Gh.fr, hb]
  have hS := RelH.same (g' := g.fr r) (H' := setn H r .dead) rel himm (fun b hb => by simp [Gh.fr, hb]) (fun _ _ => rfl) (fun x hx => rel.dom x (by rw [setn_length] at hx; exact hx))
    (fun b x hb => by
      rw [setn_length]
      simp only [Gh.fr] at hb
      split at hb
      · rename_i m hm
        split at hb
        · cases hb
        · injection hb with hb; subst hb; exact rel.rol b _ hm
      · rename_i h1; exact absurd hb (h1 x))
    (fun b x p hb => by
      rw [setn_length]
      simp only [Gh.fr] at hb
      split at hb
      · split at hb <;> cases hb
      · exact rel.rols b x p hb)
    (fun x ent hx => by
      rw [setn_eq] at hx
      by_cases hxr : r = x
      · subst hxr
        rw [List.getElem?_set_self hrl] at hx
        exact (Option.some.inj hx) ▸ trivial
      · rw [List.getElem?_set_ne hxr] at hx
        exact Ent.Is.keep (fun b hb => ⟨himm b hb, rfl⟩) (fun _ _ h => h) rfl (fun b hb => ⟨by simp only [Gh.fr, hb]; rw [if_neg (Ne.symm hxr)], rfl⟩) (fun b p hb => ⟨by simp only [Gh.fr, hb], rfl⟩) (rel.ent x ent hx))
  refine ⟨hS.1, hS.2, fun x v hok hi => ?_⟩
  have keep : x.Is (g.fr r) w v := CV.Is.mono (fun b hb => ⟨himm b hb, rfl⟩) (fun _ _ h => h) hi
  unfold thaw
  split
  · rename_i r' wd' k len cap
    split
    · rename_i hrr
      obtain ⟨rfl, hkn, hlc⟩ := hok hrr
      subst hrr
      rcases hi with ⟨rfl, rfl, A, rfl⟩ | ⟨p, hp, hwd, rfl⟩
      · exact ⟨A, 0, rfl, Nat.le_refl _, .inl rfl⟩
      · rcases rel.ent r' _ hrH with ⟨hno, _⟩ | ⟨b, o, cs, fz, h1, h2, h3, h4, h5, h6, h7⟩
        · rw [hp] at hno; cases hno
        · rw [hp] at h1
          obtain rfl := Option.some.inj h1
          refine ⟨_, cap, rfl, hlc, .inr ⟨b, o + k * wd', rfl, by simp [Gh.fr, h2], fun i hi f hf => ?_⟩⟩
          obtain ⟨u, hu, hiu⟩ := h7 (k + i) (by omega) f hf
          have hs : isSh (cell (k + i) f) = true := by have := hsh (k + i) (by omega) f hf; rwa [Nat.zero_add] at this
          refine ⟨u, ?_, ?_⟩
          · rw [← hu]; congr 2; rw [Nat.add_mul]; omega
          · rw [show subCell k len cell i f = cell (k + i) f from if_pos hi]
            have h8 := CV.At.share (isSh_ok hs).1 (CV.At.toBare (hnr (k + i) (by omega) f hf) hiu)
            exact CV.Is.mono (g := g.bare) (g' := (g.fr r').bare) (fun b hb => ⟨himm b hb, rfl⟩) (fun _ _ h => by cases h) h8
    · exact keep
  · exact keep

def frzP (r : Nat) (H : List Ent) (K : (CV → CV) → (CV → Prop) → List Ent → Prop) : Prop :=
  match nth H r with
  | .row _ wd rn _ cell => ShC cell 0 rn wd ∧ NrC cell rn wd ∧ K (thaw r wd rn cell) (thawOk r wd rn) (setn H r .dead)
  | _ => False
theorem Meets.frz {P : Program} {f : FuncId} {args : List AV} {post : AV → List Ent → Prop} (r : Nat) (h : frzP r H fun th ok H' => allAs ok args ∧ Meets E P f (args.map (mapA th)) H' post) : Meets E P f args H post := by
  unfold frzP at h
  split at h
  · rename_i e wd rn rc cell hr
    obtain ⟨hsh, hnr, hok, hm⟩ := h
    intro g w us rel hu
    obtain ⟨r1, s1, hth⟩ := RelH.fr rel hr hsh hnr
    refine (hm _ w us r1 (mapAs_is hth hok hu)).mono fun v w' ⟨g', H1, av, hp, hl, hR, hi, hS⟩ => ⟨g', H1, av, hp, by rw [setn_length] at hl; exact hl, hR, hi, s1.trans hS (by rw [setn_length]; exact Nat.le_refl _)⟩
  · exact h.elim
theorem Fin.frz {N0 : Nat} {post : AV → List Ent → Prop} {v : AV} (r : Nat) (h : frzP r H fun th ok H' => allA ok v ∧ V.Fin E N0 post (mapA th v) H') : V.Fin E N0 post v H := by
  unfold frzP at h
  split at h
  · rename_i e wd rn rc cell hr
    obtain ⟨hsh, hnr, hok, v1, H1, he, hp⟩ := h
    refine ⟨v1, H1, fun g0 w0 g w u hN hS rel hv => ?_, hp⟩
    obtain ⟨r1, s1, hth⟩ := RelH.fr rel hr hsh hnr
    exact he g0 w0 _ w u (by rw [setn_length]; exact hN) (hS.trans s1 hN) r1 (mapA_is hth hok hv)
  · exact h.elim
theorem Goes.frz {N0 : Nat} {l : List AV} {s : St} (r : Nat) (h : frzP r H fun th ok H' => allAs ok l ∧ Goes E N0 ⟨l.map (mapA th), H'⟩ s) : Goes E N0 ⟨l, H⟩ s := by
  unfold frzP at h
  split at h
  · rename_i e wd rn rc cell hr
    obtain ⟨hsh, hnr, hok, hg⟩ := h
    rintro g0 w0 a w ⟨g, hN, hS, rel, hs⟩
    obtain ⟨r1, s1, hth⟩ := RelH.fr rel hr hsh hnr
    exact hg g0 w0 a w ⟨_, by rw [setn_length]; exact hN, hS.trans s1 hN, r1, hs.1, mapAs_is hth hok hs.2⟩
  · exact h.elim

/-! ### naming anew -/
def rnI : Nat → List Nat → Nat → Option Nat
  | _, [], _ => none
  | N, j :: l, i => if i = j then some N else rnI (N + 1) l i
def rnN (N : Nat) (ix : List Nat) (i : Nat) : Option Nat := if i < N then some i else rnI N ix i
def rnL (N : Nat) (ix : List Nat) : List Nat → Option (List Nat)
  | [] => some []
  | i :: l => match rnN N ix i, rnL N ix l with
    | some m, some r => some (m :: r)
    | _, _ => none
def rnC (N : Nat) (ix : List Nat) : CV → CV
  | .ptr n k f => match rnN N ix n with
    | some m => .ptr m k f
    | none => .bad
  | .sl n wd k len cap => match rnN N ix n with
    | some m => .sl m wd k len cap
    | none => .bad
  | .fn q caps => match rnL N ix caps with
    | some m => .fn q m
    | none => .bad
  | x => x
def rnE (N : Nat) (ix : List Nat) : Ent → Ent
  | .dead => .dead
  | .row ty wd len cap cell => .row ty wd len cap cell
  | .box ty cells => .box ty (cells.map (rnC N ix))
def rowsNr : List Ent → Prop
  | [] => True
  | .row _ wd len _ cell :: l => NrC cell len wd ∧ rowsNr l
  | _ :: l => rowsNr l
def Gh.rn (g : Gh) (N : Nat) (ix : List Nat) : Gh := ⟨fun m => if m < N then g.ρ m else match ix[m - N]? with
    | some i => g.ρ i
    | none => none, fun b => match g.κ b with
    | .nm i => (match rnN N ix i with
      | some m => .nm m
      | none => .free)
    | .sub i p => (match rnN N ix i with
      | some m => .sub m p
      | none => .free)
    | x => x⟩
theorem rnI_some : ∀ {ix : List Nat} {N i m : Nat}, rnI N ix i = some m → N ≤ m ∧ m < N + ix.length ∧ ix[m - N]? = some i
  | j :: l, N, i, m, h => by
    simp only [rnI] at h
    split at h
    · rename_i hij
      obtain rfl := Option.some.inj h
      subst hij
      exact ⟨Nat.le_refl _, by simp, by simp⟩
    · obtain ⟨h1, h2, h3⟩ := rnI_some h
      refine ⟨by omega, by simp; omega, ?_⟩
      rw [show m - N = (m - (N + 1)) + 1 by omega]
      simpa using h3
theorem rnI_of : ∀ {ix : List Nat} {N k i : Nat}, ix.Nodup → ix[k]? = some i → rnI N ix i = some (N + k)
  | j :: l, N, 0, i, _, h => by
    obtain rfl := Option.some.inj (by simpa using h : some j = some i)
    simp [rnI]
  | j :: l, N, k + 1, i, hn, h => by
    rw [List.nodup_cons] at hn
    have h' : l[k]? = some i := by simpa using h
    have hij : ¬ i = j := fun e => hn.1 (e ▸ List.mem_of_getElem? h')
    simp only [rnI]
    rw [if_neg hij, rnI_of hn.2 h']
    congr 1
    omega
theorem rnN_ρ {N : Nat} {ix : List Nat} {i m : Nat} (h : rnN N ix i = some m) : (g.rn N ix).ρ m = g.ρ i := by
  unfold rnN at h
  split at h
  · obtain rfl := Option.some.inj h
    simp only [Gh.rn]; rw [if_pos (by assumption)]
  · obtain ⟨h1, _, h3⟩ := rnI_some h
    simp only [Gh.rn]; rw [if_neg (by omega), h3]
theorem rn_imm {N : Nat} {ix : List Nat} {b : Nat} (h : g.κ b = .imm) : (g.rn N ix).κ b = .imm := by simp [Gh.rn, h]
theorem rn_free {N : Nat} {ix : List Nat} {b : Nat} (h : g.κ b = .free) : (g.rn N ix).κ b = .free := by simp [Gh.rn, h]
theorem rn_bare {N : Nat} {ix : List Nat} : ∀ b, g.bare.κ b = .imm → (g.rn N ix).bare.κ b = .imm ∧ w.heap[b]? = w.heap[b]? := fun b hb => ⟨rn_imm (g := g) hb, rfl⟩
theorem rnL_F2 {N : Nat} {ix : List Nat} : ∀ {caps ms : List Nat} {cs : List Value}, rnL N ix caps = some ms → F2 (fun n c => ∃ p, g.ρ n = some p ∧ c = Value.pointer (some ⟨p.blk, p.off, none⟩)) caps cs → F2 (fun n c => ∃ p, (g.rn N ix).ρ n = some p ∧ c = Value.pointer (some ⟨p.blk, p.off, none⟩)) ms cs
  | [], ms, [], h, _ => by obtain rfl := Option.some.inj h; trivial
  | i :: l, ms, c :: cs, h, hc => by
    simp only [rnL] at h
    split at h
    · rename_i m r h1 h2
      obtain rfl := Option.some.inj h
      obtain ⟨⟨p, hp, hv⟩, hc⟩ := hc
      exact ⟨⟨p, by rw [rnN_ρ h1]; exact hp, hv⟩, rnL_F2 h2 hc⟩
    · cases h
theorem rnC_is {N : Nat} {ix : List Nat} {x : CV} {v : Value} (h : x.Is g w v) : (rnC N ix x).Is (g.rn N ix) w v := by
  cases x with
  | ptr n k f =>
    simp only [rnC]
    split
    · rename_i m hm
      obtain ⟨p, hp, hv⟩ := h
      exact ⟨p, by rw [rnN_ρ hm]; exact hp, hv⟩
    · trivial
  | sl n wd k len cap =>
    simp only [rnC]
    split
    · rename_i m hm
      rcases h with h | ⟨p, hp, hv⟩
      · exact .inl h
      · exact .inr ⟨p, by rw [rnN_ρ hm]; exact hp, hv⟩
    · trivial
  | fn q caps =>
    simp only [rnC]
    split
    · rename_i m hm
      obtain ⟨cs, hv, hc⟩ := h
      exact ⟨cs, hv, rnL_F2 hm hc⟩
    · trivial
  | _ => exact CV.At.ofBare (CV.Is.mono (g := g.bare) (g' := (g.rn N ix).bare) rn_bare (fun _ _ h => by cases h) (CV.At.toBare rfl h))
theorem rnC_at {N : Nat} {ix : List Nat} {x : CV} {v : Value} {i m : Nat} {p : List Nat} (hm : rnN N ix i = some m) (h : x.At g w (some (i, p)) v) : (rnC N ix x).At (g.rn N ix) w (some (m, p)) v := by
  cases x with
  | own ty wd n cell =>
    refine CV.At.ofBare (CV.At.move (g := g.bare) (g' := (g.rn N ix).bare) rn_bare (fun _ _ h => by cases h) (fun b q hq => ⟨?_, rfl⟩) (CV.At.toBare rfl h))
    have hq : g.κ b = _ := hq
    show (g.rn N ix).κ b = _
    simp only [Gh.rn, hq, hm]
  | _ => exact CV.At.lift _ (rnC_is (CV.At.share trivial h))

def CV.under (N : Nat) : CV → Prop
  | .ptr n _ _ => n < N
  | .sl n _ _ len cap => (len = 0 ∧ cap = 0) ∨ n < N
  | .fn _ caps => ∀ c ∈ caps, c < N
  | _ => True
def Ent.below (N : Nat) : Ent → Prop
  | .box _ cells => ∀ c ∈ cells, c.under N
  | .row _ wd len _ cell => ∀ k, k < len → ∀ f, f < wd → (cell k f).under N
  | .dead => True
def Closed (N : Nat) (H : List Ent) : Prop := ∀ (n : Nat) (e : Ent), H[n]? = some e → e.below N

theorem below_at {N : Nat} {ix : List Nat} {x : CV} {v : Value} {i : Nat} {p : List Nat} (hi : i < N) (hb : x.under N) (h : x.At g w (some (i, p)) v) : x.At (g.rn N ix) w (some (i, p)) v := by
  have hm : rnN N ix i = some i := by simp [rnN, hi]
  have hρ : ∀ n, n < N → (g.rn N ix).ρ n = g.ρ n := fun n hn => by simp [Gh.rn, hn]
  cases x with
  | ptr n k f =>
    simp only [CV.At] at h ⊢
    obtain ⟨p, hp, hv⟩ := h
    exact ⟨p, by rw [hρ n hb]; exact hp, hv⟩
  | sl n wd k len cap =>
    simp only [CV.At] at h ⊢
    rcases h with h | ⟨p, hp, hw, hv⟩
    · exact .inl h
    · rcases hb with ⟨rfl, rfl⟩ | hb
      · exact .inl ⟨rfl, rfl, _, hv⟩
      · exact .inr ⟨p, by rw [hρ n hb]; exact hp, hw, hv⟩
  | fn q caps =>
    simp only [CV.At] at h ⊢
    obtain ⟨cs, hv, hc⟩ := h
    refine ⟨cs, hv, ?_⟩
    clear hv
    induction caps generalizing cs with
    | nil => cases cs <;> first | trivial | exact hc.elim
    | cons c l ih =>
      cases cs with
      | nil => exact hc.elim
      | cons u us =>
        obtain ⟨⟨p, hp, hu⟩, hc⟩ := hc
        exact ⟨⟨p, by rw [hρ c (hb c (by simp))]; exact hp, hu⟩, ih (fun c hc => hb c (by simp [hc])) us hc⟩
  | own ty wd n cell => exact rnC_at (x := .own ty wd n cell) hm h
  | bad => simp only [CV.At]
  | int k n => exact rnC_at (x := .int k n) hm h
  | bool k => exact rnC_at (x := .bool k) hm h
  | str k => exact rnC_at (x := .str k) hm h
  | raw k => exact rnC_at (x := .raw k) hm h
  | lst wd n cell => exact rnC_at (x := .lst wd n cell) hm h
  | nil e wd => exact rnC_at (x := .nil e wd) hm h
  | dptr wd n cell k f => exact rnC_at (x := .dptr wd n cell k f) hm h

theorem RelH.rn (rel : RelH E g (H) w) {A L : List Ent} {N : Nat} {ix : List Nat} (hH : H = A ++ L) (hA : A.length = N) (hc : Closed N A) (hix : ∀ i ∈ ix, N ≤ i) (hnd : ix.Nodup) (hrow : rowsNr (ix.map (nth H))) :
    RelH E (g.rn N ix) (A ++ (ix.map (nth H)).map (rnE N ix)) w ∧ Step N g w (g.rn N ix) w := by
  subst hH
  have hlen : (A ++ (ix.map (nth (A ++ L))).map (rnE N ix)).length = N + ix.length := by simp [hA]
  have hlt : ∀ {i m}, rnN N ix i = some m → m < N + ix.length := fun {i m} h => by
    unfold rnN at h
    split at h
    · obtain rfl := Option.some.inj h; omega
    · have := (rnI_some h).2.1; omega
  refine ⟨⟨fun n e he => ?_, E.keeps _ _ _ _ rel.inv (fun b hb => ⟨rn_imm hb, rfl⟩), fun b hb => rn_free (rel.lt b hb), fun n hn => ?_, fun b n hb => ?_, fun b n p hb => ?_⟩, ⟨rfl, rfl, rfl, Nat.le_refl _, fun b hb => ⟨rn_imm hb, rfl⟩, fun b _ hb => ⟨rn_free hb, rfl⟩, fun n hn => by simp [Gh.rn, hn]⟩⟩
  · rcases Nat.lt_or_ge n A.length with hn | hn
    · rw [List.getElem?_append_left hn] at he
      have hi := rel.ent n e (by rw [List.getElem?_append_left hn]; exact he)
      have hbl := hc n e he
      have hnN : n < N := by omega
      have hm : rnN N ix n = some n := by simp [rnN, hnN]
      have hρ : (g.rn N ix).ρ n = g.ρ n := by simp [Gh.rn, hnN]
      cases e with
      | dead => trivial
      | row ty wd len cap cell =>
        rcases hi with ⟨h1, h2⟩ | ⟨b, o, cs, fz, h1, h2, h3⟩
        · exact .inl ⟨by rw [hρ]; exact h1, h2⟩
        · refine .inr ⟨b, o, cs, fz, by rw [hρ]; exact h1, by simp [Gh.rn, h2, hm], h3.1, h3.2.1, h3.2.2.1, h3.2.2.2.1, fun k hk f hf => ?_⟩
          obtain ⟨u, hu, hi⟩ := h3.2.2.2.2 k hk f hf
          exact ⟨u, hu, below_at hnN (hbl k hk f hf) hi⟩
      | box ty cells =>
        obtain ⟨b, cs, h1, h2, h3, h4, h5⟩ := hi
        refine ⟨b, cs, by rw [hρ]; exact h1, by simp [Gh.rn, h2, hm], h3, h4, fun i c hic => ?_⟩
        obtain ⟨u, hu, hi⟩ := h5 i c hic
        exact ⟨u, hu, below_at hnN (hbl c (List.mem_of_getElem? hic)) hi⟩
    · rw [List.getElem?_append_right hn, List.getElem?_map, List.getElem?_map] at he
      cases hk : ix[n - A.length]? with
      | none => rw [hk] at he; cases he
      | some i =>
        rw [hk] at he
        obtain rfl := Option.some.inj he
        have hiN : ¬ i < N := by have := hix i (List.mem_of_getElem? hk); omega
        have hm : rnN N ix i = some n := by
          unfold rnN
          rw [if_neg hiN, rnI_of hnd hk]
          congr 1
          omega
        have hρ : (g.rn N ix).ρ n = g.ρ i := rnN_ρ hm
        have hrows : ∀ {l : List Ent} {k : Nat} {ty wd len cap : Nat} {cell : Nat → Nat → CV}, rowsNr l → l[k]? = some (.row ty wd len cap cell) → NrC cell len wd := fun {l} => by
          induction l with
          | nil => intro k ty wd len cap cell _ h; simp at h
          | cons x l ih =>
            intro k ty wd len cap cell hr h
            cases k with
            | zero =>
              obtain rfl := Option.some.inj (by simpa using h : some x = _)
              exact hr.1
            | succ k =>
              refine ih ?_ (by simpa using h)
              cases x with
              | row => exact hr.2
              | dead => exact hr
              | box => exact hr
        have hent : ∀ e, nth (A ++ L) i = e → e ≠ .dead → e.Is g w i := fun e h1 h2 => rel.ent i e (nth_ent h1 h2)
        cases hq : nth (A ++ L) i with
        | dead => trivial
        | row ty wd len cap cell =>
          have hi := hent _ hq (by simp)
          have hnr := hrows hrow (k := n - A.length) (ty := ty) (wd := wd) (len := len) (cap := cap) (cell := cell) (by rw [List.getElem?_map, hk]; simp [hq])
          rcases hi with ⟨h1, h2⟩ | ⟨b, o, cs, fz, h1, h2, h3⟩
          · exact .inl ⟨by rw [hρ]; exact h1, h2⟩
          · refine .inr ⟨b, o, cs, fz, by rw [hρ]; exact h1, by simp [Gh.rn, h2, hm], h3.1, h3.2.1, h3.2.2.1, h3.2.2.2.1, fun k hk f hf => ?_⟩
            obtain ⟨u, hu, hi⟩ := h3.2.2.2.2 k hk f hf
            refine ⟨u, hu, CV.At.ofBare (CV.At.move (g := g.bare) (g' := (g.rn N ix).bare) rn_bare (fun _ _ h => by cases h) (fun b q hq => ⟨?_, rfl⟩) (CV.At.toBare (hnr k hk f hf) hi))⟩
            have hq : g.κ b = _ := hq
            show (g.rn N ix).κ b = _
            simp only [Gh.rn, hq, hm]
        | box ty cells =>
          obtain ⟨b, cs, h1, h2, h3, h4, h5⟩ := hent _ hq (by simp)
          refine ⟨b, cs, by rw [hρ, List.length_map]; exact h1, by simp [Gh.rn, h2, hm], h3, by rw [List.length_map]; exact h4, fun j c hjc => ?_⟩
          rw [List.getElem?_map] at hjc
          cases hj : cells[j]? with
          | none => rw [hj] at hjc; cases hjc
          | some c0 =>
            rw [hj] at hjc
            obtain rfl := Option.some.inj hjc
            obtain ⟨u, hu, hi⟩ := h5 j c0 hj
            exact ⟨u, hu, rnC_at hm hi⟩
  · rw [hlen] at hn
    simp only [Gh.rn]
    rw [if_neg (by omega), List.getElem?_eq_none (by omega)]
  · rw [hlen]
    simp only [Gh.rn] at hb
    split at hb
    · split at hb
      · rename_i m hm
        injection hb with hb; subst hb
        exact hlt hm
      · cases hb
    · split at hb <;> cases hb
    · rename_i h1 h2; exact absurd hb (h1 n)
  · rw [hlen]
    simp only [Gh.rn] at hb
    split at hb
    · split at hb <;> cases hb
    · split at hb
      · rename_i m hm
        injection hb with hb _; subst hb
        exact hlt hm
      · cases hb
    · rename_i h1 h2; exact absurd hb (h2 n p)

theorem allAs_true (l : List AV) : allAs (fun _ => True) l := by
  have hC : ∀ cs : List CV, allC (fun _ => True) cs := fun cs => by induction cs with
    | nil => trivial
    | cons x cs ih => exact ⟨trivial, ih⟩
  have hS : ∀ x : SV, allS (fun _ => True) x := fun x => by cases x with
    | c x => trivial
    | agg cs => exact hC cs
  have hSs : ∀ xs : List SV, allSs (fun _ => True) xs := fun xs => by induction xs with
    | nil => trivial
    | cons x xs ih => exact ⟨hS x, ih⟩
  induction l with
  | nil => trivial
  | cons x l ih => exact ⟨by cases x with
    | s x => exact hS x
    | tup vs => exact hSs vs, ih⟩

/-- The side conditions of a renaming: of what goes on nothing is named twice, and rows hold no addresses. -/
def rnOk (N : Nat) : List Nat → Prop
  | [] => True
  | i :: l => N ≤ i ∧ rnFresh i l ∧ rnOk N l
where rnFresh (i : Nat) : List Nat → Prop
  | [] => True
  | j :: l => ¬ i = j ∧ rnFresh i l
theorem rnFresh_mem {i : Nat} : ∀ {l : List Nat}, rnOk.rnFresh i l → i ∉ l
  | [], _ => by simp
  | j :: l, h => by
    simp only [List.mem_cons, not_or]
    exact ⟨h.1, rnFresh_mem h.2⟩
theorem rnOk_spec {N : Nat} : ∀ {ix : List Nat}, rnOk N ix → (∀ i ∈ ix, N ≤ i) ∧ ix.Nodup
  | [], _ => ⟨by simp, List.nodup_nil⟩
  | i :: l, h => by
    obtain ⟨h1, h2⟩ := rnOk_spec h.2.2
    refine ⟨fun j hj => ?_, List.nodup_cons.2 ⟨rnFresh_mem h.2.1, h2⟩⟩
    rcases List.mem_cons.1 hj with rfl | hj
    · exact h.1
    · exact h1 j hj

/-- The entries A stay; of L those of ix go on, in that order. -/
theorem Goes.rn {N0 : Nat} {l : List AV} {A L : List Ent} {s : St} (ix : List Nat) (hN : N0 ≤ A.length) (hc : Closed A.length A) (hix : rnOk A.length ix) (hrow : rowsNr (ix.map (nth (A ++ L))))
    (h : Goes E N0 ⟨l.map (mapA (rnC A.length ix)), A ++ (ix.map (nth (A ++ L))).map (rnE A.length ix)⟩ s) : Goes E N0 ⟨l, A ++ L⟩ s := by
  rintro g0 w0 a w ⟨g, hN', hS, rel, hs⟩
  obtain ⟨h1, h2⟩ := rnOk_spec hix
  obtain ⟨r1, s1⟩ := RelH.rn rel rfl rfl hc h1 h2 hrow
  refine h g0 w0 a w ⟨_, by simp; omega, hS.trans s1 hN, r1, hs.1, mapAs_is (p := fun _ => True) (fun x v _ hi => rnC_is hi) (allAs_true l) hs.2⟩
theorem Fin.rn {N0 : Nat} {post : AV → List Ent → Prop} {v : AV} {A L : List Ent} (ix : List Nat) (hN : N0 ≤ A.length) (hc : Closed A.length A) (hix : rnOk A.length ix) (hrow : rowsNr (ix.map (nth (A ++ L))))
    (h : V.Fin E N0 post (mapA (rnC A.length ix) v) (A ++ (ix.map (nth (A ++ L))).map (rnE A.length ix))) : V.Fin E N0 post v (A ++ L) := by
  obtain ⟨v1, H1, he, hp⟩ := h
  refine ⟨v1, H1, fun g0 w0 g w u hN' hS rel hv => ?_, hp⟩
  obtain ⟨h1, h2⟩ := rnOk_spec hix
  obtain ⟨r1, s1⟩ := RelH.rn rel rfl rfl hc h1 h2 hrow
  exact he g0 w0 _ w u (by simp; omega) (hS.trans s1 hN) r1 (mapA_is (p := fun _ => True) (fun x v _ hi => rnC_is hi) ((allAs_true [v]).1) hv)
/-- What is new and not handed back is forgotten. -/
theorem Fin.cut {N0 : Nat} {post : AV → List Ent → Prop} {v : AV} {A L : List Ent} (hN : N0 ≤ A.length) (hc : Closed A.length A) (h : post (mapA (rnC A.length []) v) A) : V.Fin E N0 post v (A ++ L) :=
  Fin.rn [] hN hc trivial trivial (Fin.now (by simpa using h))
theorem Back.rn {N0 : Nat} {α : Type} {Iv : α → Prop} {μ : α → Nat} {f : α → St} {x : α} {l : List AV} {A L : List Ent} (ix : List Nat) (hN : N0 ≤ A.length) (hc : Closed A.length A) (hix : rnOk A.length ix) (hrow : rowsNr (ix.map (nth (A ++ L))))
    (h : Back E N0 Iv μ f x ⟨l.map (mapA (rnC A.length ix)), A ++ (ix.map (nth (A ++ L))).map (rnE A.length ix)⟩) : Back E N0 Iv μ f x ⟨l, A ++ L⟩ :=
  Back.via (Goes.rn ix hN hc hix hrow (Goes.refl _ _ _)) h
theorem Back.frz {N0 : Nat} {α : Type} {Iv : α → Prop} {μ : α → Nat} {f : α → St} {x : α} {l : List AV} (r : Nat) (h : frzP r H fun th ok H' => allAs ok l ∧ Back E N0 Iv μ f x ⟨l.map (mapA th), H'⟩) : Back E N0 Iv μ f x ⟨l, H⟩ := by
  unfold frzP at h
  split at h
  · rename_i e wd rn rc cell hr
    obtain ⟨h1, h2, h3, h4⟩ := h
    refine Back.via (Goes.frz r ?_) h4
    unfold frzP
    rw [hr]
    exact ⟨h1, h2, h3, Goes.refl _ _ _⟩
  · exact h.elim

/-! ### closed heaps -/
theorem F2.mem {α β : Type} {R : α → β → Prop} : ∀ {l : List α} {m : List β}, F2 R l m → ∀ a ∈ l, ∃ b, R a b
  | _ :: _, b :: _, hl, a, ha => by
    rcases List.mem_cons.1 ha with rfl | ha
    · exact ⟨b, hl.1⟩
    · exact F2.mem hl.2 a ha
theorem CV.At.belowOf {N : Nat} {l : Option (Nat × List Nat)} (hN : ∀ n p, g.ρ n = some p → n < N) {x : CV} {v : Value} (h : x.At g w l v) : x.under N := by
  cases x with
  | ptr n k f => simp only [CV.At] at h; obtain ⟨p, hp, _⟩ := h; exact hN _ _ hp
  | sl n wd k len cap =>
    simp only [CV.At] at h
    rcases h with ⟨h1, h2, _⟩ | ⟨p, hp, _⟩
    · exact .inl ⟨h1, h2⟩
    · exact .inr (hN _ _ hp)
  | fn q caps =>
    simp only [CV.At] at h
    obtain ⟨cs, _, hc⟩ := h
    intro c hcm
    obtain ⟨_, p, hp, _⟩ := F2.mem hc c hcm
    exact hN _ _ hp
  | _ => trivial
theorem RelH.closed (r : RelH E g H w) : Closed H.length H := by
  have hN : ∀ n p, g.ρ n = some p → n < H.length := fun n p hp => by
    rcases Nat.lt_or_ge n H.length with h | h
    · exact h
    · rw [r.dom n h] at hp; cases hp
  intro n e he
  have hi := r.ent n e he
  cases e with
  | box t cells =>
    obtain ⟨b, cs, _, _, _, hl, hc⟩ := hi
    intro c hcm
    obtain ⟨i, hi⟩ := List.getElem?_of_mem hcm
    obtain ⟨u, _, hu⟩ := hc i c hi
    exact CV.At.belowOf hN hu
  | row ty wd len cap cell =>
    intro k hk f hf
    rcases hi with ⟨_, h0, _⟩ | ⟨b, o, cs, fz, _, _, _, _, _, _, hc⟩
    · omega
    · obtain ⟨u, _, hu⟩ := hc k hk f hf
      exact CV.At.belowOf hN hu
  | dead => trivial
/-- The heap may be taken for closed ahead of a call. -/
theorem Meets.closed {P : Program} {f : FuncId} {args : List AV} {post : AV → List Ent → Prop} (h : Closed H.length H → Meets E P f args H post) : Meets E P f args H post :=
  fun g w us r hu => h r.closed g w us r hu
theorem Closed.set {N n : Nat} {A : List Ent} {e : Ent} (h : Closed N A) (he : e.below N) : Closed N (setn A n e) := by
  intro m e' hm
  rw [setn_eq] at hm
  by_cases hnm : n = m
  · subst hnm
    rcases Nat.lt_or_ge n A.length with hl | hl
    · rw [List.getElem?_set_self hl] at hm
      exact (Option.some.inj hm) ▸ he
    · rw [List.getElem?_eq_none (by simpa using hl)] at hm; cases hm
  · rw [List.getElem?_set_ne hnm] at hm
    exact h m e' hm
def belowL (N : Nat) : List CV → Prop
  | [] => True
  | x :: l => x.under N ∧ belowL N l
theorem below_box {N ty : Nat} {cells : List CV} (h : belowL N cells) : (Ent.box ty cells).below N := by
  intro c hc
  induction cells with
  | nil => cases hc
  | cons x l ih =>
    rcases List.mem_cons.1 hc with rfl | hc
    · exact h.1
    · exact ih h.2 hc
end

attribute [go_sem] packP packC cellsAt NrC_at2 NrC_byte NrU_at2 NrU_byte NrU_app NrC_app allNr allNr_app isNr frzP thaw thawOk mapS mapA allC allS allSs allA allAs rnI rnN rnL rnC rnE rowsNr rnOk rnOk.rnFresh CV.under belowL
end Go.V
