/- V, part 1: abstract values, abstract heaps, and what they say of the model's values and worlds. Over any program; no row is proved here. -/
import Derived.Calls
import Derived.Tactics
import Derived.Orders
import Derived.Laws.Cells
import Derived.Laws.Append
import Derived.Laws.Entries
import Derived.Laws.World
import Derived.Below
namespace Go.V
open Go Go.RowKit

/-- Two lists, element by element. -/
def F2 {α β : Type} (R : α → β → Prop) : List α → List β → Prop
  | [], [] => True
  | a :: l, b :: m => R a b ∧ F2 R l m
  | _, _ => False
theorem F2.imp {α β : Type} {R S : α → β → Prop} (h : ∀ a b, R a b → S a b) : ∀ {l : List α} {m : List β}, F2 R l m → F2 S l m
  | [], [], _ => trivial
  | _ :: _, _ :: _, hl => ⟨h _ _ hl.1, F2.imp h hl.2⟩
theorem F2.length {α β : Type} {R : α → β → Prop} : ∀ {l : List α} {m : List β}, F2 R l m → l.length = m.length
  | [], [], _ => rfl
  | _ :: _, _ :: _, hl => by simp [F2.length hl.2]
theorem F2.get {α β : Type} {R : α → β → Prop} : ∀ {l : List α} {m : List β}, F2 R l m → ∀ {i : Nat} {a : α}, l[i]? = some a → ∃ b, m[i]? = some b ∧ R a b
  | [], [], _, i, a, h => by simp at h
  | _ :: _, y :: _, hl, 0, a, h => ⟨y, rfl, by simp at h; exact h ▸ hl.1⟩
  | _ :: _, _ :: _, hl, i + 1, a, h => by simpa using F2.get hl.2 (by simpa using h)
theorem F2.append {α β : Type} {R : α → β → Prop} : ∀ {l l' : List α} {m m' : List β}, F2 R l m → F2 R l' m' → F2 R (l ++ l') (m ++ m')
  | [], _, [], _, _, h => h
  | _ :: _, _, _ :: _, _, hl, h => ⟨hl.1, F2.append hl.2 h⟩

/-! ### values -/

/-- What one cell may hold. 'lst': a list that is not written any more. 'own': a list that this place alone holds. 'ptr n k f': the address of cell f of element k of the entry n. 'sl n wd k len cap': a slice of the row n (elements of wd cells) from element k on. 'nil e wd': a slice without places (of elements of type e, of wd cells). 'dptr': the address of a cell of a list that is not written any more. -/
inductive CV where
  | int (k : IntKind) (n : Int)
  | bool (b : Bool)
  | str (l : List UInt8)
  | raw (v : Value)
  | lst (wd n : Nat) (cell : Nat → Nat → CV)
  | own (ty wd n : Nat) (cell : Nat → Nat → CV)
  | ptr (n k f : Nat)
  | sl (n wd k len cap : Nat)
  | nil (e wd : Nat)
  | dptr (wd len : Nat) (cell : Nat → Nat → CV) (k f : Nat)
  | fn (g : Nat) (caps : List Nat)
  | bad
instance : Inhabited CV := ⟨.bad⟩

inductive SV where
  | c (x : CV)
  | agg (cs : List CV)
instance : Inhabited SV := ⟨.c .bad⟩

inductive AV where
  | s (v : SV)
  | tup (vs : List SV)
instance : Inhabited AV := ⟨.s (.c .bad)⟩

abbrev AV.d (x : CV) : AV := .s (.c x)
abbrev AV.c (x : CV) : AV := .s (.c x)
abbrev AV.bad : AV := .s (.c .bad)

inductive Ent where
  | dead
  | row (ty wd len cap : Nat) (cell : Nat → Nat → CV)
  | box (ty : Nat) (cells : List CV)
instance : Inhabited Ent := ⟨.dead⟩

/-! ### roles of real blocks -/
/-- 'nm n': the block of the entry n. 'sub n p': the block of what stands in the entry n, at the path p. -/
inductive Role where
  | free
  | imm
  | nm (n : Nat)
  | sub (n : Nat) (p : List Nat)
  deriving DecidableEq

structure Place where
  blk : Nat
  off : Nat
  wd : Nat

structure Gh where
  ρ : Nat → Option Place
  κ : Nat → Role

/-- Names left out: what stands in a list that is told whole has no addresses of ours. -/
def Gh.bare (g : Gh) : Gh := ⟨fun _ => none, g.κ⟩

def bstr (l : List UInt8) : ByteArray := ⟨l.toArray⟩

/-- What a cell's abstract value says of the model's. The place: of the cell, for what is owned. -/
def CV.At (g : Gh) (w : World) : Option (Nat × List Nat) → CV → Value → Prop
  | _, .int k n, v => v = .int k n
  | _, .bool b, v => v = .bool b
  | _, .str l, v => v = .string (bstr l)
  | _, .raw x, v => v = x ∧ x.oneCell' = true
  | _, .lst wd n cell, v => ∃ A c, v = .slice A n c ∧ n ≤ c ∧ (n = 0 ∨ ∃ b o, A = some ⟨b, o, none⟩ ∧ g.κ b = .imm ∧
      ∀ k, k < n → ∀ f, f < wd → ∃ u, w.cell? ⟨b, o + (k * wd + f), none⟩ = some u ∧ (cell k f).At g.bare w none u)
  | none, .own .., _ => False
  | some (m, p), .own ty wd n cell, v => (n = 0 ∧ ∃ A, v = .slice A 0 0) ∨ ∃ b o c cs, ∃ fz : Nat × Nat, v = .slice (some ⟨b, o, none⟩) n c ∧ n ≤ c ∧ g.κ b = .sub m p ∧ w.heap[b]? = some (.cells cs ty fz) ∧
      (fz.2 ≤ fz.1 ∨ o + c * wd ≤ fz.1) ∧ o + c * wd ≤ cs.size ∧
      ∀ k, k < n → ∀ f, f < wd → ∃ u, w.cell? ⟨b, o + (k * wd + f), none⟩ = some u ∧ (cell k f).At g.bare w (some (m, p ++ [k, f])) u
  | _, .ptr n k f, v => ∃ p, g.ρ n = some p ∧ v = .pointer (some ⟨p.blk, p.off + (k * p.wd + f), none⟩)
  | _, .sl n wd k len cap, v => (len = 0 ∧ cap = 0 ∧ ∃ A, v = .slice A 0 0) ∨ ∃ p, g.ρ n = some p ∧ p.wd = wd ∧ v = .slice (some ⟨p.blk, p.off + k * wd, none⟩) len cap
  | _, .nil _ _, v => ∃ A, v = .slice A 0 0
  | _, .dptr wd n cell k f, v => ∃ b o, v = .pointer (some ⟨b, o + (k * wd + f), none⟩) ∧ k < n ∧ g.κ b = .imm ∧
      ∀ k, k < n → ∀ f, f < wd → ∃ u, w.cell? ⟨b, o + (k * wd + f), none⟩ = some u ∧ (cell k f).At g.bare w none u
  | _, .fn h caps, v => ∃ cs : List Value, v = .func (.func h) #[] cs.toArray ∧ F2 (fun n c => ∃ p, g.ρ n = some p ∧ c = .pointer (some ⟨p.blk, p.off, none⟩)) caps cs
  | _, .bad, _ => True

abbrev CV.Is (g : Gh) (w : World) (x : CV) (v : Value) : Prop := x.At g w none v

def SV.Is (g : Gh) (w : World) : SV → Value → Prop
  | .c x, v => x.Is g w v
  | .agg cs, v => ∃ us : List Value, v = .agg us.toArray ∧ F2 (CV.Is g w) cs us

def AV.Is (g : Gh) (w : World) : AV → Value → Prop
  | .s x, v => x.Is g w v
  | .tup vs, v => ∃ us : List Value, v = .tuple us.toArray ∧ F2 (SV.Is g w) vs us

def Ent.Is (g : Gh) (w : World) (n : Nat) : Ent → Prop
  | .dead => True
  | .row ty wd len cap cell => (g.ρ n = none ∧ len = 0 ∧ cap = 0) ∨ ∃ b o cs, ∃ fz : Nat × Nat, g.ρ n = some ⟨b, o, wd⟩ ∧ g.κ b = .nm n ∧ w.heap[b]? = some (.cells cs ty fz) ∧
      (fz.2 ≤ fz.1 ∨ o + cap * wd ≤ fz.1) ∧ len ≤ cap ∧ o + cap * wd ≤ cs.size ∧
      ∀ k, k < len → ∀ f, f < wd → ∃ u, w.cell? ⟨b, o + (k * wd + f), none⟩ = some u ∧ (cell k f).At g w (some (n, [k, f])) u
  | .box ty cells => ∃ b cs, g.ρ n = some ⟨b, 0, cells.length⟩ ∧ g.κ b = .nm n ∧ w.heap[b]? = some (.cells cs ty (0, 0)) ∧ cs.size = cells.length ∧
      ∀ (i : Nat) (c : CV), cells[i]? = some c → ∃ u : Value, cs[i]? = some u ∧ c.At g w (some (n, [0, i])) u

/-- What stands besides: an invariant of the world that hangs on the immutable blocks alone. -/
structure Env where
  inv : (Nat → Role) → World → Prop
  keeps : ∀ κ κ' w w', inv κ w → (∀ b, κ b = .imm → κ' b = .imm ∧ w'.heap[b]? = w.heap[b]?) → inv κ' w'

structure RelH (E : Env) (g : Gh) (H : List Ent) (w : World) : Prop where
  ent : ∀ (n : Nat) (e : Ent), H[n]? = some e → e.Is g w n
  inv : E.inv g.κ w
  lt : ∀ b, w.heap.size ≤ b → g.κ b = .free
  dom : ∀ n, H.length ≤ n → g.ρ n = none
  rol : ∀ b n, g.κ b = .nm n → n < H.length
  rols : ∀ b n p, g.κ b = .sub n p → n < H.length

/-- How the world may go on. 'N': how many names there were. -/
structure Step (N : Nat) (g : Gh) (w : World) (g' : Gh) (w' : World) : Prop where
  os : w'.os = w.os
  tape : w'.tape = w.tape
  output : w'.output = w.output
  size : w.heap.size ≤ w'.heap.size
  imm : ∀ b, g.κ b = .imm → g'.κ b = .imm ∧ w'.heap[b]? = w.heap[b]?
  free : ∀ b, b < w.heap.size → g.κ b = .free → g'.κ b = .free ∧ w'.heap[b]? = w.heap[b]?
  name : ∀ n, n < N → g'.ρ n = g.ρ n

theorem Step.refl (N : Nat) (g : Gh) (w : World) : Step N g w g w :=
  ⟨rfl, rfl, rfl, Nat.le_refl _, fun _ h => ⟨h, rfl⟩, fun _ _ h => ⟨h, rfl⟩, fun _ _ => rfl⟩
theorem Step.trans {N N' : Nat} {g g' g'' : Gh} {w w' w'' : World} (h : Step N g w g' w') (h' : Step N' g' w' g'' w'') (hN : N ≤ N') : Step N g w g'' w'' :=
  ⟨h'.os.trans h.os, h'.tape.trans h.tape, h'.output.trans h.output, Nat.le_trans h.size h'.size,
   fun b hb => ⟨(h'.imm b (h.imm b hb).1).1, (h'.imm b (h.imm b hb).1).2.trans (h.imm b hb).2⟩,
   fun b hl hb => ⟨(h'.free b (Nat.lt_of_lt_of_le hl h.size) (h.free b hl hb).1).1, (h'.free b (Nat.lt_of_lt_of_le hl h.size) (h.free b hl hb).1).2.trans (h.free b hl hb).2⟩,
   fun n hn => (h'.name n (Nat.lt_of_lt_of_le hn hN)).trans (h.name n hn)⟩

/-! ### values go on to mean what they meant -/
theorem cell?_of_heap {w w' : World} {a : Addr} (h : w'.heap[a.block]? = w.heap[a.block]?) : w'.cell? a = w.cell? a := World.cell?_of_block (w := w) h

theorem CV.Is.mono {g g' : Gh} {w w' : World} (h : ∀ b, g.κ b = .imm → g'.κ b = .imm ∧ w'.heap[b]? = w.heap[b]?)
    (hn : ∀ n p, g.ρ n = some p → g'.ρ n = some p) : ∀ {x : CV} {v : Value}, x.At g w none v → x.At g' w' none v
  | .int .., _, hx => hx
  | .bool .., _, hx => hx
  | .str .., _, hx => hx
  | .raw .., _, hx => hx
  | .lst wd n cell, v, hx => by
    obtain ⟨A, c, hv, hle, hx⟩ := hx
    refine ⟨A, c, hv, hle, hx.imp id ?_⟩
    rintro ⟨b, o, hA, hb, hc⟩
    refine ⟨b, o, hA, (h b hb).1, fun k hk f hf => ?_⟩
    obtain ⟨u, hu, hi⟩ := hc k hk f hf
    exact ⟨u, (cell?_of_heap (a := ⟨b, o + (k * wd + f), none⟩) (h b hb).2).trans hu, CV.Is.mono (g := g.bare) (g' := g'.bare) h (fun _ _ h => by cases h) hi⟩
  | .own .., _, hx => by simp [CV.At] at hx
  | .ptr n k f, v, hx => by obtain ⟨p, hp, hv⟩ := hx; exact ⟨p, hn _ _ hp, hv⟩
  | .sl n wd k len cap, v, hx => by
    rcases hx with hx | ⟨p, hp, hv⟩
    · exact .inl hx
    · exact .inr ⟨p, hn _ _ hp, hv⟩
  | .nil _ _, _, hx => hx
  | .dptr wd n cell k f, v, hx => by
    obtain ⟨b, o, hv, hk, hb, hc⟩ := hx
    refine ⟨b, o, hv, hk, (h b hb).1, fun k hk f hf => ?_⟩
    obtain ⟨u, hu, hi⟩ := hc k hk f hf
    exact ⟨u, (cell?_of_heap (a := ⟨b, o + (k * wd + f), none⟩) (h b hb).2).trans hu, CV.Is.mono (g := g.bare) (g' := g'.bare) h (fun _ _ h => by cases h) hi⟩
  | .fn q caps, v, hx => by
    obtain ⟨cs, hv, hc⟩ := hx
    exact ⟨cs, hv, F2.imp (fun _ _ ⟨p, hp, he⟩ => ⟨p, hn _ _ hp, he⟩) hc⟩
  | .bad, _, _ => trivial

/-- What owns its places alone. -/
def CV.shared : CV → Prop
  | .own .. => False
  | _ => True
theorem CV.At.lift {g : Gh} {w : World} {x : CV} {v : Value} (l : Option (Nat × List Nat)) (h : x.At g w none v) : x.At g w l v := by
  cases x <;> first
    | (simp [CV.At] at h; done)
    | (simp only [CV.At] at h ⊢; try exact h)
theorem CV.At.share {g : Gh} {w : World} {x : CV} {v : Value} {l : Option (Nat × List Nat)} (hx : x.shared) (h : x.At g w l v) : x.At g w none v := by
  cases x <;> first
    | exact hx.elim
    | (simp only [CV.At] at h ⊢; try exact h)
theorem CV.At.sharedOf {g : Gh} {w : World} {x : CV} {v : Value} (h : x.At g w none v) : x.shared := by
  cases x with
  | own => simp [CV.At] at h
  | _ => trivial

/-- A place's contents, at another place: what it owns goes along. -/
theorem CV.At.move {g g' : Gh} {w w' : World} (h : ∀ b, g.κ b = .imm → g'.κ b = .imm ∧ w'.heap[b]? = w.heap[b]?)
    (hn : ∀ n p, g.ρ n = some p → g'.ρ n = some p) : ∀ {x : CV} {v : Value} {m m' : Nat} {p p' : List Nat}, (∀ b q, g.κ b = .sub m (p ++ q) → g'.κ b = .sub m' (p' ++ q) ∧ w'.heap[b]? = w.heap[b]?) →
      x.At g w (some (m, p)) v → x.At g' w' (some (m', p')) v
  | .own ty wd n cell, v, m, m', p, p', hs, hx => by
    simp only [CV.At] at hx ⊢
    refine hx.imp id ?_
    rintro ⟨b, o, c, cs, fz, hv, hc, hb, hh, hf, hsz, hcell⟩
    have hb' := hs b [] (by simpa using hb)
    refine ⟨b, o, c, cs, fz, hv, hc, by simpa using hb'.1, hb'.2.trans hh, hf, hsz, fun k hk f hf' => ?_⟩
    obtain ⟨u, hu, hi⟩ := hcell k hk f hf'
    exact ⟨u, (cell?_of_heap (a := ⟨b, o + (k * wd + f), none⟩) hb'.2).trans hu, CV.At.move (g := g.bare) (g' := g'.bare) h (fun _ _ h => by cases h) (fun b q hq => by
      have := hs b ([k, f] ++ q) (by rw [← List.append_assoc]; exact hq)
      rw [← List.append_assoc] at this
      exact this) hi⟩
  | .int .., _, _, _, _, _, _, hx => hx
  | .bool .., _, _, _, _, _, _, hx => hx
  | .str .., _, _, _, _, _, _, hx => hx
  | .raw .., _, _, _, _, _, _, hx => hx
  | .lst .., _, _, _, _, _, _, hx => CV.At.lift _ (CV.Is.mono h hn (CV.At.share trivial hx))
  | .ptr .., _, _, _, _, _, _, hx => CV.At.lift _ (CV.Is.mono h hn (CV.At.share trivial hx))
  | .sl .., _, _, _, _, _, _, hx => CV.At.lift _ (CV.Is.mono h hn (CV.At.share trivial hx))
  | .nil .., _, _, _, _, _, _, hx => hx
  | .dptr .., _, _, _, _, _, _, hx => CV.At.lift _ (CV.Is.mono h hn (CV.At.share trivial hx))
  | .fn .., _, _, _, _, _, _, hx => CV.At.lift _ (CV.Is.mono h hn (CV.At.share trivial hx))
  | .bad, _, _, _, _, _, _, _ => trivial

/-- Rows of cells, by number. -/
def at2 (rows : List (List CV)) (k f : Nat) : CV := (rows.getD k []).getD f (.bool false)

/-- Lists that were owned, not to be written any more. -/
def CV.frz : CV → CV
  | .own _ wd n cell => .lst wd n fun k f => (cell k f).frz
  | .nil _ wd => .lst wd 0 (at2 [])
  | x => x
theorem CV.At.freeze {g g' : Gh} {w : World} (h : ∀ b, g.κ b = .imm → g'.κ b = .imm) (hn : ∀ n p, g.ρ n = some p → g'.ρ n = some p) :
    ∀ {x : CV} {v : Value} {m : Nat} {p : List Nat}, (∀ b q, g.κ b = .sub m (p ++ q) → g'.κ b = .imm) → x.At g w (some (m, p)) v → x.frz.At g' w none v
  | .own ty wd n cell, v, m, p, hs, hx => by
    simp only [CV.At] at hx
    simp only [CV.frz, CV.At]
    rcases hx with ⟨h0, A, hv⟩ | ⟨b, o, c, cs, fz, hv, hc, hb, hh, hf, hsz, hcell⟩
    · exact ⟨A, 0, by rw [h0]; exact hv, by omega, .inl h0⟩
    · refine ⟨_, c, hv, hc, .inr ⟨b, o, rfl, hs b [] (by simpa using hb), fun k hk f hf' => ?_⟩⟩
      obtain ⟨u, hu, hi⟩ := hcell k hk f hf'
      exact ⟨u, hu, CV.At.freeze (g := g.bare) (g' := g'.bare) h (fun _ _ h => by cases h) (fun b q hq => hs b ([k, f] ++ q) (by rw [← List.append_assoc]; exact hq)) hi⟩
  | .nil _ _, v, _, _, _, hx => by
    obtain ⟨A, hv⟩ := hx
    simp only [CV.frz, CV.At]
    exact ⟨A, 0, hv, Nat.le_refl _, .inl trivial⟩
  | .int .., _, _, _, _, hx => hx
  | .bool .., _, _, _, _, hx => hx
  | .str .., _, _, _, _, hx => hx
  | .raw .., _, _, _, _, hx => hx
  | .lst .., _, _, _, _, hx => CV.Is.mono (fun b hb => ⟨h b hb, rfl⟩) hn (CV.At.share trivial hx)
  | .ptr .., _, _, _, _, hx => CV.Is.mono (fun b hb => ⟨h b hb, rfl⟩) hn (CV.At.share trivial hx)
  | .sl .., _, _, _, _, hx => CV.Is.mono (fun b hb => ⟨h b hb, rfl⟩) hn (CV.At.share trivial hx)
  | .dptr .., _, _, _, _, hx => CV.Is.mono (fun b hb => ⟨h b hb, rfl⟩) hn (CV.At.share trivial hx)
  | .fn .., _, _, _, _, hx => CV.Is.mono (fun b hb => ⟨h b hb, rfl⟩) hn (CV.At.share trivial hx)
  | .bad, _, _, _, _, _ => trivial

theorem CV.At.ofBare {g : Gh} {w : World} {l : Option (Nat × List Nat)} {x : CV} {v : Value} (h : x.At g.bare w l v) : x.At g w l v := by
  cases l with
  | none => exact CV.Is.mono (g := g.bare) (g' := g) (fun b hb => ⟨hb, rfl⟩) (fun _ _ h => by cases h) h
  | some l => exact CV.At.move (g := g.bare) (g' := g) (fun b hb => ⟨hb, rfl⟩) (fun _ _ h => by cases h) (fun b q hq => ⟨hq, rfl⟩) h
/-- What has no address of ours. -/
def isNr : CV → Bool
  | .ptr .. => false
  | .sl .. => false
  | .fn .. => false
  | _ => true
theorem CV.At.toBare {g : Gh} {w : World} {l : Option (Nat × List Nat)} {x : CV} {v : Value} (hn : isNr x = true) (h : x.At g w l v) : x.At g.bare w l v := by
  cases x <;> first
    | (simp [isNr] at hn; done)
    | (cases l <;> exact h)
theorem SV.Is.mono {g g' : Gh} {w w' : World} (h : ∀ b, g.κ b = .imm → g'.κ b = .imm ∧ w'.heap[b]? = w.heap[b]?)
    (hn : ∀ n p, g.ρ n = some p → g'.ρ n = some p) {x : SV} {v : Value} (hx : x.Is g w v) : x.Is g' w' v := by
  cases x with
  | c x => exact CV.Is.mono h hn hx
  | agg cs => obtain ⟨us, hv, hc⟩ := hx; exact ⟨us, hv, F2.imp (fun _ _ => CV.Is.mono h hn) hc⟩
theorem AV.Is.mono {g g' : Gh} {w w' : World} (h : ∀ b, g.κ b = .imm → g'.κ b = .imm ∧ w'.heap[b]? = w.heap[b]?)
    (hn : ∀ n p, g.ρ n = some p → g'.ρ n = some p) {x : AV} {v : Value} (hx : x.Is g w v) : x.Is g' w' v := by
  cases x with
  | s x => exact SV.Is.mono h hn hx
  | tup vs => obtain ⟨us, hv, hc⟩ := hx; exact ⟨us, hv, F2.imp (fun _ _ => SV.Is.mono h hn) hc⟩
end Go.V
