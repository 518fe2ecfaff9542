/- V, part 1: abstract values, abstract heaps, and what they say of the model's values and worlds. Over any program; no row is proved here. V, part 2: how abstract heaps follow changes of the world. V, part 3: types as a short table; the operations that look at no memory. V, part 4: the operations that look at no memory do what part 3 says. V, part 5: the rest of the operations that look at no memory. V, part 6: loads and stores, new boxes and rows. -/
import Derived.Calls
import Derived.Tactics
import Derived.Orders
import Derived.Laws.Cells
import Derived.Laws.Append
import Derived.Laws.Entries
import Derived.Laws.World
import Derived.Below
import Derived.Laws.Strings
import Derived.Laws.Strings2
import Derived.Laws.Strings3
import Derived.ChangeKeysEq
import Derived.Laws.IdiomCopy
section
namespace Go.V
open Go Go.RowKit

/-- Two lists, element by element. -/
def F2 {α β : Type} (R : α → β → Prop) : List α → List β → Prop
  | [], [] => True
  | a :: l, b :: m => R a b ∧ F2 R l m
  | _, _ => False
theorem F2.imp {α β : Type} {R S : α → β → Prop} (h : ∀ a b, R a b → S a b) : ∀ {l : List α} {m : List β}, F2 R l m → F2 S l m
  | [], [], _ => trivial
  | _ :: _, _ :: _, hl => ⟨h _ _ hl.1, F2.imp h hl.2⟩
theorem F2.length {α β : Type} {R : α → β → Prop} : ∀ {l : List α} {m : List β}, F2 R l m → l.length = m.length
  | [], [], _ => rfl
  | _ :: _, _ :: _, hl => by simp [F2.length hl.2]
theorem F2.get {α β : Type} {R : α → β → Prop} : ∀ {l : List α} {m : List β}, F2 R l m → ∀ {i : Nat} {a : α}, l[i]? = some a → ∃ b, m[i]? = some b ∧ R a b
  | [], [], _, i, a, h => by simp at h
  | _ :: _, y :: _, hl, 0, a, h => ⟨y, rfl, by simp at h; exact h ▸ hl.1⟩
  | _ :: _, _ :: _, hl, i + 1, a, h => by simpa using F2.get hl.2 (by simpa using h)
theorem F2.append {α β : Type} {R : α → β → Prop} : ∀ {l l' : List α} {m m' : List β}, F2 R l m → F2 R l' m' → F2 R (l ++ l') (m ++ m')
  | [], _, [], _, _, h => h
  | _ :: _, _, _ :: _, _, hl, h => ⟨hl.1, F2.append hl.2 h⟩

/-! ### values -/

/-- What one cell may hold. 'lst': a list that is not written any more. 'own': a list that this place alone holds. 'ptr n k f': the address of cell f of element k of the entry n. 'sl n wd k len cap': a slice of the row n (elements of wd cells) from element k on. 'nil e wd': a slice without places (of elements of type e, of wd cells). 'dptr': the address of a cell of a list that is not written any more. -/
inductive CV where
  | int (k : IntKind) (n : Int)
  | bool (b : Bool)
  | str (l : List UInt8)
  | raw (v : Value)
  | lst (wd n : Nat) (cell : Nat → Nat → CV)
  | own (ty wd n : Nat) (cell : Nat → Nat → CV)
  | ptr (n k f : Nat)
  | sl (n wd k len cap : Nat)
  | nil (e wd : Nat)
  | dptr (wd len : Nat) (cell : Nat → Nat → CV) (k f : Nat)
  | fn (g : Nat) (caps : List Nat)
  | bad
instance : Inhabited CV := ⟨.bad⟩

inductive SV where
  | c (x : CV)
  | agg (cs : List CV)
instance : Inhabited SV := ⟨.c .bad⟩

inductive AV where
  | s (v : SV)
  | tup (vs : List SV)
instance : Inhabited AV := ⟨.s (.c .bad)⟩

abbrev AV.d (x : CV) : AV := .s (.c x)
abbrev AV.c (x : CV) : AV := .s (.c x)
abbrev AV.bad : AV := .s (.c .bad)

inductive Ent where
  | dead
  | row (ty wd len cap : Nat) (cell : Nat → Nat → CV)
  | box (ty : Nat) (cells : List CV)
instance : Inhabited Ent := ⟨.dead⟩

/-! ### roles of real blocks -/
/-- 'nm n': the block of the entry n. 'sub n p': the block of what stands in the entry n, at the path p. -/
inductive Role where
  | free
  | imm
  | nm (n : Nat)
  | sub (n : Nat) (p : List Nat)
  deriving DecidableEq

structure Place where
  blk : Nat
  off : Nat
  wd : Nat

structure Gh where
  ρ : Nat → Option Place
  κ : Nat → Role

/-- Names left out: what stands in a list that is told whole has no addresses of ours. -/
def Gh.bare (g : Gh) : Gh := ⟨fun _ => none, g.κ⟩

def bstr (l : List UInt8) : ByteArray := ⟨l.toArray⟩

/-- What a cell's abstract value says of the model's. The place: of the cell, for what is owned. -/
def CV.At (g : Gh) (w : World) : Option (Nat × List Nat) → CV → Value → Prop
  | _, .int k n, v => v = .int k n
  | _, .bool b, v => v = .bool b
  | _, .str l, v => v = .string (bstr l)
  | _, .raw x, v => v = x ∧ x.oneCell' = true
  | _, .lst wd n cell, v => ∃ A c, v = .slice A n c ∧ n ≤ c ∧ (n = 0 ∨ ∃ b o, A = some ⟨b, o, none⟩ ∧ g.κ b = .imm ∧
      ∀ k, k < n → ∀ f, f < wd → ∃ u, w.cell? ⟨b, o + (k * wd + f), none⟩ = some u ∧ (cell k f).At g.bare w none u)
  | none, .own .., _ => False
  | some (m, p), .own ty wd n cell, v => (n = 0 ∧ ∃ A, v = .slice A 0 0) ∨ ∃ b o c cs, ∃ fz : Nat × Nat, v = .slice (some ⟨b, o, none⟩) n c ∧ n ≤ c ∧ g.κ b = .sub m p ∧ w.heap[b]? = some (.cells cs ty fz) ∧
      (fz.2 ≤ fz.1 ∨ o + c * wd ≤ fz.1) ∧ o + c * wd ≤ cs.size ∧
      ∀ k, k < n → ∀ f, f < wd → ∃ u, w.cell? ⟨b, o + (k * wd + f), none⟩ = some u ∧ (cell k f).At g.bare w (some (m, p ++ [k, f])) u
  | _, .ptr n k f, v => ∃ p, g.ρ n = some p ∧ v = .pointer (some ⟨p.blk, p.off + (k * p.wd + f), none⟩)
  | _, .sl n wd k len cap, v => (len = 0 ∧ cap = 0 ∧ ∃ A, v = .slice A 0 0) ∨ ∃ p, g.ρ n = some p ∧ p.wd = wd ∧ v = .slice (some ⟨p.blk, p.off + k * wd, none⟩) len cap
  | _, .nil _ _, v => ∃ A, v = .slice A 0 0
  | _, .dptr wd n cell k f, v => ∃ b o, v = .pointer (some ⟨b, o + (k * wd + f), none⟩) ∧ k < n ∧ g.κ b = .imm ∧
      ∀ k, k < n → ∀ f, f < wd → ∃ u, w.cell? ⟨b, o + (k * wd + f), none⟩ = some u ∧ (cell k f).At g.bare w none u
  | _, .fn h caps, v => ∃ cs : List Value, v = .func (.func h) #[] cs.toArray ∧ F2 (fun n c => ∃ p, g.ρ n = some p ∧ c = .pointer (some ⟨p.blk, p.off, none⟩)) caps cs
  | _, .bad, _ => True

abbrev CV.Is (g : Gh) (w : World) (x : CV) (v : Value) : Prop := x.At g w none v

def SV.Is (g : Gh) (w : World) : SV → Value → Prop
  | .c x, v => x.Is g w v
  | .agg cs, v => ∃ us : List Value, v = .agg us.toArray ∧ F2 (CV.Is g w) cs us

def AV.Is (g : Gh) (w : World) : AV → Value → Prop
  | .s x, v => x.Is g w v
  | .tup vs, v => ∃ us : List Value, v = .tuple us.toArray ∧ F2 (SV.Is g w) vs us

def Ent.Is (g : Gh) (w : World) (n : Nat) : Ent → Prop
  | .dead => True
  | .row ty wd len cap cell => (g.ρ n = none ∧ len = 0 ∧ cap = 0) ∨ ∃ b o cs, ∃ fz : Nat × Nat, g.ρ n = some ⟨b, o, wd⟩ ∧ g.κ b = .nm n ∧ w.heap[b]? = some (.cells cs ty fz) ∧
      (fz.2 ≤ fz.1 ∨ o + cap * wd ≤ fz.1) ∧ len ≤ cap ∧ o + cap * wd ≤ cs.size ∧
      ∀ k, k < len → ∀ f, f < wd → ∃ u, w.cell? ⟨b, o + (k * wd + f), none⟩ = some u ∧ (cell k f).At g w (some (n, [k, f])) u
  | .box ty cells => ∃ b cs, g.ρ n = some ⟨b, 0, cells.length⟩ ∧ g.κ b = .nm n ∧ w.heap[b]? = some (.cells cs ty (0, 0)) ∧ cs.size = cells.length ∧
      ∀ (i : Nat) (c : CV), cells[i]? = some c → ∃ u : Value, cs[i]? = some u ∧ c.At g w (some (n, [0, i])) u

/-- What stands besides: an invariant of the world that hangs on the immutable blocks alone. -/
structure Env where
  inv : (Nat → Role) → World → Prop
  keeps : ∀ κ κ' w w', inv κ w → (∀ b, κ b = .imm → κ' b = .imm ∧ w'.heap[b]? = w.heap[b]?) → inv κ' w'

structure RelH (E : Env) (g : Gh) (H : List Ent) (w : World) : Prop where
  ent : ∀ (n : Nat) (e : Ent), H[n]? = some e → e.Is g w n
  inv : E.inv g.κ w
  lt : ∀ b, w.heap.size ≤ b → g.κ b = .free
  dom : ∀ n, H.length ≤ n → g.ρ n = none
  rol : ∀ b n, g.κ b = .nm n → n < H.length
  rols : ∀ b n p, g.κ b = .sub n p → n < H.length

/-- How the world may go on. 'N': how many names there were. -/
structure Step (N : Nat) (g : Gh) (w : World) (g' : Gh) (w' : World) : Prop where
  os : w'.os = w.os
  tape : w'.tape = w.tape
  output : w'.output = w.output
  size : w.heap.size ≤ w'.heap.size
  imm : ∀ b, g.κ b = .imm → g'.κ b = .imm ∧ w'.heap[b]? = w.heap[b]?
  free : ∀ b, b < w.heap.size → g.κ b = .free → g'.κ b = .free ∧ w'.heap[b]? = w.heap[b]?
  name : ∀ n, n < N → g'.ρ n = g.ρ n

theorem Step.refl (N : Nat) (g : Gh) (w : World) : Step N g w g w :=
  ⟨rfl, rfl, rfl, Nat.le_refl _, fun _ h => ⟨h, rfl⟩, fun _ _ h => ⟨h, rfl⟩, fun _ _ => rfl⟩
theorem Step.trans {N N' : Nat} {g g' g'' : Gh} {w w' w'' : World} (h : Step N g w g' w') (h' : Step N' g' w' g'' w'') (hN : N ≤ N') : Step N g w g'' w'' :=
  ⟨h'.os.trans h.os, h'.tape.trans h.tape, h'.output.trans h.output, Nat.le_trans h.size h'.size,
   fun b hb => ⟨(h'.imm b (h.imm b hb).1).1, (h'.imm b (h.imm b hb).1).2.trans (h.imm b hb).2⟩,
   fun b hl hb => ⟨(h'.free b (Nat.lt_of_lt_of_le hl h.size) (h.free b hl hb).1).1, (h'.free b (Nat.lt_of_lt_of_le hl h.size) (h.free b hl hb).1).2.trans (h.free b hl hb).2⟩,
   fun n hn => (h'.name n (Nat.lt_of_lt_of_le hn hN)).trans (h.name n hn)⟩

/-! ### values go on to mean what they meant -/
theorem cell?_of_heap {w w' : World} {a : Addr} (h : w'.heap[a.block]? = w.heap[a.block]?) : w'.cell? a = w.cell? a := World.cell?_of_block (w := w) h

theorem CV.Is.mono {g g' : Gh} {w w' : World} (h : ∀ b, g.κ b = .imm → g'.κ b = .imm ∧ w'.heap[b]? = w.heap[b]?)
    (hn : ∀ n p, g.ρ n = some p → g'.ρ n = some p) : ∀ {x : CV} {v : Value}, x.At g w none v → x.At g' w' none v
  | .int .., _, hx => hx
  | .bool .., _, hx => hx
  | .str .., _, hx => hx
  | .raw .., _, hx => hx
  | .lst wd n cell, v, hx => by
    obtain ⟨A, c, hv, hle, hx⟩ := hx
    refine ⟨A, c, hv, hle, hx.imp id ?_⟩
    rintro ⟨b, o, hA, hb, hc⟩
    refine ⟨b, o, hA, (h b hb).1, fun k hk f hf => ?_⟩
    obtain ⟨u, hu, hi⟩ := hc k hk f hf
    exact ⟨u, (cell?_of_heap (a := ⟨b, o + (k * wd + f), none⟩) (h b hb).2).trans hu, CV.Is.mono (g := g.bare) (g' := g'.bare) h (fun _ _ h => by cases h) hi⟩
  | .own .., _, hx => by simp [CV.At] at hx
  | .ptr n k f, v, hx => by obtain ⟨p, hp, hv⟩ := hx; exact ⟨p, hn _ _ hp, hv⟩
  | .sl n wd k len cap, v, hx => by
    rcases hx with hx | ⟨p, hp, hv⟩
    · exact .inl hx
    · exact .inr ⟨p, hn _ _ hp, hv⟩
  | .nil _ _, _, hx => hx
  | .dptr wd n cell k f, v, hx => by
    obtain ⟨b, o, hv, hk, hb, hc⟩ := hx
    refine ⟨b, o, hv, hk, (h b hb).1, fun k hk f hf => ?_⟩
    obtain ⟨u, hu, hi⟩ := hc k hk f hf
    exact ⟨u, (cell?_of_heap (a := ⟨b, o + (k * wd + f), none⟩) (h b hb).2).trans hu, CV.Is.mono (g := g.bare) (g' := g'.bare) h (fun _ _ h => by cases h) hi⟩
  | .fn q caps, v, hx => by
    obtain ⟨cs, hv, hc⟩ := hx
    exact ⟨cs, hv, F2.imp (fun _ _ ⟨p, hp, he⟩ => ⟨p, hn _ _ hp, he⟩) hc⟩
  | .bad, _, _ => trivial

/-- What owns its places alone. -/
def CV.shared : CV → Prop
  | .own .. => False
  | _ => True
theorem CV.At.lift {g : Gh} {w : World} {x : CV} {v : Value} (l : Option (Nat × List Nat)) (h : x.At g w none v) : x.At g w l v := by
  cases x <;> first
    | (simp [CV.At] at h; done)
    | (simp only [CV.At] at h ⊢; try exact h)
theorem CV.At.share {g : Gh} {w : World} {x : CV} {v : Value} {l : Option (Nat × List Nat)} (hx : x.shared) (h : x.At g w l v) : x.At g w none v := by
  cases x <;> first
    | exact hx.elim
    | (simp only [CV.At] at h ⊢; try exact h)
theorem CV.At.sharedOf {g : Gh} {w : World} {x : CV} {v : Value} (h : x.At g w none v) : x.shared := by
  cases x with
  | own => simp [CV.At] at h
  | _ => trivial

/-- A place's contents, at another place: what it owns goes along. -/
theorem CV.At.move {g g' : Gh} {w w' : World} (h : ∀ b, g.κ b = .imm → g'.κ b = .imm ∧ w'.heap[b]? = w.heap[b]?)
    (hn : ∀ n p, g.ρ n = some p → g'.ρ n = some p) : ∀ {x : CV} {v : Value} {m m' : Nat} {p p' : List Nat}, (∀ b q, g.κ b = .sub m (p ++ q) → g'.κ b = .sub m' (p' ++ q) ∧ w'.heap[b]? = w.heap[b]?) →
      x.At g w (some (m, p)) v → x.At g' w' (some (m', p')) v
  | .own ty wd n cell, v, m, m', p, p', hs, hx => by
    simp only [CV.At] at hx ⊢
    refine hx.imp id ?_
    rintro ⟨b, o, c, cs, fz, hv, hc, hb, hh, hf, hsz, hcell⟩
    have hb' := hs b [] (by simpa using hb)
    refine ⟨b, o, c, cs, fz, hv, hc, by simpa using hb'.1, hb'.2.trans hh, hf, hsz, fun k hk f hf' => ?_⟩
    obtain ⟨u, hu, hi⟩ := hcell k hk f hf'
    exact ⟨u, (cell?_of_heap (a := ⟨b, o + (k * wd + f), none⟩) hb'.2).trans hu, CV.At.move (g := g.bare) (g' := g'.bare) h (fun _ _ h => by cases h) (fun b q hq => by
      have := hs b ([k, f] ++ q) (by rw [← List.append_assoc]; exact hq)
      rw [← List.append_assoc] at this
      exact this) hi⟩
  | .int .., _, _, _, _, _, _, hx => hx
  | .bool .., _, _, _, _, _, _, hx => hx
  | .str .., _, _, _, _, _, _, hx => hx
  | .raw .., _, _, _, _, _, _, hx => hx
  | .lst .., _, _, _, _, _, _, hx => CV.At.lift _ (CV.Is.mono h hn (CV.At.share trivial hx))
  | .ptr .., _, _, _, _, _, _, hx => CV.At.lift _ (CV.Is.mono h hn (CV.At.share trivial hx))
  | .sl .., _, _, _, _, _, _, hx => CV.At.lift _ (CV.Is.mono h hn (CV.At.share trivial hx))
  | .nil .., _, _, _, _, _, _, hx => hx
  | .dptr .., _, _, _, _, _, _, hx => CV.At.lift _ (CV.Is.mono h hn (CV.At.share trivial hx))
  | .fn .., _, _, _, _, _, _, hx => CV.At.lift _ (CV.Is.mono h hn (CV.At.share trivial hx))
  | .bad, _, _, _, _, _, _, _ => trivial

/-- Rows of cells, by number. -/
def at2 (rows : List (List CV)) (k f : Nat) : CV := (rows.getD k []).getD f (.bool false)

/-- Lists that were owned, not to be written any more. -/
def CV.frz : CV → CV
  | .own _ wd n cell => .lst wd n fun k f => (cell k f).frz
  | .nil _ wd => .lst wd 0 (at2 [])
  | x => x
theorem CV.At.freeze {g g' : Gh} {w : World} (h : ∀ b, g.κ b = .imm → g'.κ b = .imm) (hn : ∀ n p, g.ρ n = some p → g'.ρ n = some p) :
    ∀ {x : CV} {v : Value} {m : Nat} {p : List Nat}, (∀ b q, g.κ b = .sub m (p ++ q) → g'.κ b = .imm) → x.At g w (some (m, p)) v → x.frz.At g' w none v
  | .own ty wd n cell, v, m, p, hs, hx => by
    simp only [CV.At] at hx
    simp only [CV.frz, CV.At]
    rcases hx with ⟨h0, A, hv⟩ | ⟨b, o, c, cs, fz, hv, hc, hb, hh, hf, hsz, hcell⟩
    · exact ⟨A, 0, by rw [h0]; exact hv, by omega, .inl h0⟩
    · refine ⟨_, c, hv, hc, .inr ⟨b, o, rfl, hs b [] (by simpa using hb), fun k hk f hf' => ?_⟩⟩
      obtain ⟨u, hu, hi⟩ := hcell k hk f hf'
      exact ⟨u, hu, CV.At.freeze (g := g.bare) (g' := g'.bare) h (fun _ _ h => by cases h) (fun b q hq => hs b ([k, f] ++ q) (by rw [← List.append_assoc]; exact hq)) hi⟩
  | .nil _ _, v, _, _, _, hx => by
    obtain ⟨A, hv⟩ := hx
    simp only [CV.frz, CV.At]
    exact ⟨A, 0, hv, Nat.le_refl _, .inl trivial⟩
  | .int .., _, _, _, _, hx => hx
  | .bool .., _, _, _, _, hx => hx
  | .str .., _, _, _, _, hx => hx
  | .raw .., _, _, _, _, hx => hx
  | .lst .., _, _, _, _, hx => CV.Is.mono (fun b hb => ⟨h b hb, rfl⟩) hn (CV.At.share trivial hx)
  | .ptr .., _, _, _, _, hx => CV.Is.mono (fun b hb => ⟨h b hb, rfl⟩) hn (CV.At.share trivial hx)
  | .sl .., _, _, _, _, hx => CV.Is.mono (fun b hb => ⟨h b hb, rfl⟩) hn (CV.At.share trivial hx)
  | .dptr .., _, _, _, _, hx => CV.Is.mono (fun b hb => ⟨h b hb, rfl⟩) hn (CV.At.share trivial hx)
  | .fn .., _, _, _, _, hx => CV.Is.mono (fun b hb => ⟨h b hb, rfl⟩) hn (CV.At.share trivial hx)
  | .bad, _, _, _, _, _ => trivial

theorem CV.At.ofBare {g : Gh} {w : World} {l : Option (Nat × List Nat)} {x : CV} {v : Value} (h : x.At g.bare w l v) : x.At g w l v := by
  cases l with
  | none => exact CV.Is.mono (g := g.bare) (g' := g) (fun b hb => ⟨hb, rfl⟩) (fun _ _ h => by cases h) h
  | some l => exact CV.At.move (g := g.bare) (g' := g) (fun b hb => ⟨hb, rfl⟩) (fun _ _ h => by cases h) (fun b q hq => ⟨hq, rfl⟩) h
/-- What has no address of ours. -/
def isNr : CV → Bool
  | .ptr .. => false
  | .sl .. => false
  | .fn .. => false
  | _ => true
theorem CV.At.toBare {g : Gh} {w : World} {l : Option (Nat × List Nat)} {x : CV} {v : Value} (hn : isNr x = true) (h : x.At g w l v) : x.At g.bare w l v := by
  cases x <;> first
    | (simp [isNr] at hn; done)
    | (cases l <;> exact h)
theorem SV.Is.mono {g g' : Gh} {w w' : World} (h : ∀ b, g.κ b = .imm → g'.κ b = .imm ∧ w'.heap[b]? = w.heap[b]?)
    (hn : ∀ n p, g.ρ n = some p → g'.ρ n = some p) {x : SV} {v : Value} (hx : x.Is g w v) : x.Is g' w' v := by
  cases x with
  | c x => exact CV.Is.mono h hn hx
  | agg cs => obtain ⟨us, hv, hc⟩ := hx; exact ⟨us, hv, F2.imp (fun _ _ => CV.Is.mono h hn) hc⟩
theorem AV.Is.mono {g g' : Gh} {w w' : World} (h : ∀ b, g.κ b = .imm → g'.κ b = .imm ∧ w'.heap[b]? = w.heap[b]?)
    (hn : ∀ n p, g.ρ n = some p → g'.ρ n = some p) {x : AV} {v : Value} (hx : x.Is g w v) : x.Is g' w' v := by
  cases x with
  | s x => exact SV.Is.mono h hn hx
  | tup vs => obtain ⟨us, hv, hc⟩ := hx; exact ⟨us, hv, F2.imp (fun _ _ => SV.Is.mono h hn) hc⟩
end Go.V
end

section
namespace Go.V
open Go Go.RowKit

theorem Ent.Is.keep {g g' : Gh} {w w' : World} {m : Nat} {e : Ent} (h : ∀ b, g.κ b = .imm → g'.κ b = .imm ∧ w'.heap[b]? = w.heap[b]?)
    (hn : ∀ n p, g.ρ n = some p → g'.ρ n = some p) (hm : g'.ρ m = g.ρ m)
    (hk : ∀ b, g.κ b = .nm m → g'.κ b = .nm m ∧ w'.heap[b]? = w.heap[b]?)
    (hs : ∀ b p, g.κ b = .sub m p → g'.κ b = .sub m p ∧ w'.heap[b]? = w.heap[b]?) (he : e.Is g w m) : e.Is g' w' m := by
  cases e with
  | dead => trivial
  | row ty wd len cap cell =>
    refine he.imp (fun hz => ⟨by rw [hm]; exact hz.1, hz.2⟩) ?_
    rintro ⟨b, o, cs, fz, hp, hb, hh, hf, hl, hc, hcell⟩
    refine ⟨b, o, cs, fz, by rw [hm]; exact hp, (hk b hb).1, (hk b hb).2.trans hh, hf, hl, hc, fun k hk' f hf' => ?_⟩
    obtain ⟨u, hu, hi⟩ := hcell k hk' f hf'
    exact ⟨u, (cell?_of_heap (a := ⟨b, o + (k * wd + f), none⟩) (hk b hb).2).trans hu, CV.At.move h hn (fun b q => hs b _) hi⟩
  | box ty cells =>
    obtain ⟨b, cs, hp, hb, hh, hl, hcell⟩ := he
    refine ⟨b, cs, by rw [hm]; exact hp, (hk b hb).1, (hk b hb).2.trans hh, hl, fun i c hc => ?_⟩
    obtain ⟨u, hu, hi⟩ := hcell i c hc
    exact ⟨u, hu, CV.At.move h hn (fun b q => hs b _) hi⟩

/-- The general step: entry n alone may be touched. -/
theorem RelH.upd {E : Env} {g g' : Gh} {H H' : List Ent} {w w' : World} (n : Nat) (r : RelH E g H w)
    (hos : w'.os = w.os) (htape : w'.tape = w.tape) (hout : w'.output = w.output) (hsz : w.heap.size ≤ w'.heap.size)
    (himm : ∀ b, g.κ b = .imm → g'.κ b = .imm ∧ w'.heap[b]? = w.heap[b]?)
    (hfree : ∀ b, b < w.heap.size → g.κ b = .free → g'.κ b = .free ∧ w'.heap[b]? = w.heap[b]?)
    (hname : ∀ m, m < H.length → g'.ρ m = g.ρ m)
    (hnm : ∀ b m, m ≠ n → g.κ b = .nm m → g'.κ b = .nm m ∧ w'.heap[b]? = w.heap[b]?)
    (hsub : ∀ b m p, m ≠ n → g.κ b = .sub m p → g'.κ b = .sub m p ∧ w'.heap[b]? = w.heap[b]?)
    (hlt : ∀ b, w'.heap.size ≤ b → g'.κ b = .free) (hdom : ∀ m, H'.length ≤ m → g'.ρ m = none)
    (hrol : ∀ b m, g'.κ b = .nm m → m < H'.length) (hrols : ∀ b m p, g'.κ b = .sub m p → m < H'.length)
    (hent : ∀ (m : Nat) (e : Ent), H'[m]? = some e → (m ≠ n ∧ H[m]? = some e) ∨ e.Is g' w' m) :
    RelH E g' H' w' ∧ Step H.length g w g' w' := by
  have hmono : ∀ m p, g.ρ m = some p → g'.ρ m = some p := fun m p hp => by
    rcases Nat.lt_or_ge m H.length with h | h
    · rw [hname m h]; exact hp
    · rw [r.dom m h] at hp; cases hp
  refine ⟨⟨fun m e he => ?_, E.keeps _ _ _ _ r.inv himm, hlt, hdom, hrol, hrols⟩, ⟨hos, htape, hout, hsz, himm, hfree, hname⟩⟩
  rcases hent m e he with ⟨hmn, hm⟩ | h
  · have hlt : m < H.length := (List.getElem?_eq_some_iff.1 hm).1
    exact Ent.Is.keep himm hmono (hname m hlt) (fun b hb => hnm b m hmn hb) (fun b p hb => hsub b m p hmn hb) (r.ent m e hm)
  · exact h

def Gh.add (g : Gh) (N b o wd : Nat) : Gh := ⟨fun n => if n = N then some ⟨b, o, wd⟩ else g.ρ n, fun c => if c = b then .nm N else g.κ c⟩

/-- A new block, a new entry. -/
theorem RelH.alloc {E : Env} {g : Gh} {H : List Ent} {w w' : World} (r : RelH E g H w) (e : Ent) (o wd : Nat)
    (hos : w'.os = w.os) (htape : w'.tape = w.tape) (hout : w'.output = w.output) (hsz : w'.heap.size = w.heap.size + 1)
    (hold : ∀ b, b < w.heap.size → w'.heap[b]? = w.heap[b]?) (he : e.Is (g.add H.length w.heap.size o wd) w' H.length) :
    RelH E (g.add H.length w.heap.size o wd) (H ++ [e]) w' ∧ Step H.length g w (g.add H.length w.heap.size o wd) w' := by
  have hne : ∀ b, g.κ b ≠ .free → b < w.heap.size := fun b hb => by
    rcases Nat.lt_or_ge b w.heap.size with h | h
    · exact h
    · exact absurd (r.lt b h) hb
  have hk : ∀ b, b < w.heap.size → (g.add H.length w.heap.size o wd).κ b = g.κ b := fun b hb => by
    simp only [Gh.add]; rw [if_neg (by omega)]
  refine RelH.upd H.length r hos htape hout (by omega) (fun b hb => ?_) (fun b hb hf => ?_) (fun m hm => ?_) (fun b m _ hb => ?_) (fun b m p _ hb => ?_) (fun b hb => ?_) (fun m hm => ?_) (fun b m hb => ?_) (fun b m p hb => ?_) (fun m e' he' => ?_)
  · have hl := hne b (by rw [hb]; simp)
    exact ⟨(hk b hl).trans hb, hold b hl⟩
  · exact ⟨(hk b hb).trans hf, hold b hb⟩
  · simp only [Gh.add]; rw [if_neg (by omega)]
  · have hl := hne b (by rw [hb]; simp)
    exact ⟨(hk b hl).trans hb, hold b hl⟩
  · have hl := hne b (by rw [hb]; simp)
    exact ⟨(hk b hl).trans hb, hold b hl⟩
  · simp only [Gh.add]; rw [if_neg (by omega)]; exact r.lt b (by omega)
  · simp only [List.length_append, List.length_cons, List.length_nil] at hm
    simp only [Gh.add]; rw [if_neg (by omega)]; exact r.dom m (by omega)
  · simp only [List.length_append, List.length_cons, List.length_nil]
    simp only [Gh.add] at hb
    split at hb
    · injection hb with hb; omega
    · have := r.rol b m hb; omega
  · simp only [List.length_append, List.length_cons, List.length_nil]
    simp only [Gh.add] at hb
    split at hb
    · cases hb
    · have := r.rols b m p hb; omega
  · rcases Nat.lt_or_ge m H.length with h | h
    · rw [List.getElem?_append_left h] at he'
      exact .inl ⟨by omega, he'⟩
    · rw [List.getElem?_append_right h] at he'
      rcases Nat.eq_zero_or_pos (m - H.length) with h0 | h0
      · rw [h0] at he'
        simp only [List.getElem?_cons_zero, Option.some.injEq] at he'
        have : m = H.length := by omega
        subst this; subst he'
        exact .inr he
      · rw [show m - H.length = (m - H.length - 1) + 1 by omega] at he'
        simp at he'

/-- A draw turns nothing. -/
theorem RelH.drew {E : Env} {g : Gh} {H : List Ent} {w w' : World} (r : RelH E g H w) (hh : w'.heap = w.heap) (hos : w'.os = w.os) (htape : w'.tape = w.tape) (hout : w'.output = w.output) :
    RelH E g H w' ∧ Step H.length g w g w' := by
  refine RelH.upd H.length r hos htape hout (by rw [hh]; exact Nat.le_refl _) (fun b hb => ⟨hb, by rw [hh]⟩) (fun b _ hf => ⟨hf, by rw [hh]⟩) (fun _ _ => rfl) (fun b m _ hb => ⟨hb, by rw [hh]⟩) (fun b m p _ hb => ⟨hb, by rw [hh]⟩)
    (fun b hb => r.lt b (by rw [hh] at hb; exact hb)) r.dom r.rol r.rols (fun m e he => .inl ⟨?_, he⟩)
  have := (List.getElem?_eq_some_iff.1 he).1
  omega

/-- The block of one entry is written: the entry becomes another one. -/
theorem RelH.write {E : Env} {g : Gh} {H : List Ent} {w w' : World} (n : Nat) (hn : n < H.length) (r : RelH E g H w) (e' : Ent)
    (hos : w'.os = w.os) (htape : w'.tape = w.tape) (hout : w'.output = w.output) (hsz : w'.heap.size = w.heap.size)
    (hold : ∀ b, g.κ b ≠ .nm n → w'.heap[b]? = w.heap[b]?) (he : e'.Is g w' n) :
    RelH E g (H.set n e') w' ∧ Step H.length g w g w' := by
  refine RelH.upd n r hos htape hout (by omega) (fun b hb => ⟨hb, hold b (by rw [hb]; simp)⟩) (fun b _ hf => ⟨hf, hold b (by rw [hf]; simp)⟩) (fun _ _ => rfl)
    (fun b m hm hb => ⟨hb, hold b (by rw [hb]; simpa using hm)⟩) (fun b m p _ hb => ⟨hb, hold b (by rw [hb]; simp)⟩)
    (fun b hb => r.lt b (by omega)) (fun m hm => r.dom m (by simpa using hm)) (fun b m hb => by simpa using r.rol b m hb) (fun b m p hb => by simpa using r.rols b m p hb) (fun m e he' => ?_)
  by_cases hm : m = n
  · subst hm
    rw [List.getElem?_set_self (by simpa using hn)] at he'
    simp only [Option.some.injEq] at he'
    exact .inr (he' ▸ he)
  · rw [List.getElem?_set_ne (Ne.symm hm)] at he'
    exact .inl ⟨hm, he'⟩

def Gh.move (g : Gh) (n N b o wd : Nat) : Gh := ⟨fun m => if m = N then some ⟨b, o, wd⟩ else g.ρ m, fun c => if c = b then .nm N else match g.κ c with
    | .sub m p => if m = n then .sub N p else .sub m p
    | r => r⟩

/-- The entry n is given up; what it held goes on in the block b, its own or a new one, as a new entry. -/
theorem RelH.move {E : Env} {g : Gh} {H : List Ent} {w w' : World} (n : Nat) (hn : n < H.length) (r : RelH E g H w) (e' : Ent) (b₀ o wd : Nat)
    (hb : g.κ b₀ = .nm n ∨ b₀ = w.heap.size) (hb0 : b₀ < w'.heap.size)
    (hos : w'.os = w.os) (htape : w'.tape = w.tape) (hout : w'.output = w.output) (hsz : w.heap.size ≤ w'.heap.size)
    (hold : ∀ b, b < w.heap.size → g.κ b ≠ .nm n → w'.heap[b]? = w.heap[b]?) (he : e'.Is (g.move n H.length b₀ o wd) w' H.length) :
    RelH E (g.move n H.length b₀ o wd) (H.set n .dead ++ [e']) w' ∧ Step H.length g w (g.move n H.length b₀ o wd) w' := by
  have hlt : ∀ b, g.κ b ≠ .free → b < w.heap.size := fun b hb => by
    rcases Nat.lt_or_ge b w.heap.size with h | h
    · exact h
    · exact absurd (r.lt b h) hb
  have hnb : ∀ b, b < w.heap.size → g.κ b ≠ .nm n → b ≠ b₀ := fun b hl hne he => by
    rcases hb with h | h
    · exact hne (he ▸ h)
    · omega
  have hk : ∀ b, b < w.heap.size → g.κ b ≠ .nm n → (∀ p, g.κ b ≠ .sub n p) → (g.move n H.length b₀ o wd).κ b = g.κ b := fun b hl hb hb' => by
    simp only [Gh.move]
    rw [if_neg (hnb b hl hb)]
    split
    · rename_i m p hm; rw [if_neg (fun h => hb' p (by rw [hm, h]))]; exact hm.symm
    · rfl
  refine RelH.upd n r hos htape hout hsz (fun b hb => ?_) (fun b hl hf => ?_) (fun m hm => ?_) (fun b m hm hb => ?_) (fun b m p hm hb => ?_) (fun b hb => ?_) (fun m hm => ?_) (fun b m hb => ?_) (fun b m p hb => ?_) (fun m e hem => ?_)
  · have hl := hlt b (by rw [hb]; simp)
    exact ⟨(hk b hl (by rw [hb]; simp) (by rw [hb]; simp)).trans hb, hold b hl (by rw [hb]; simp)⟩
  · exact ⟨(hk b hl (by rw [hf]; simp) (by rw [hf]; simp)).trans hf, hold b hl (by rw [hf]; simp)⟩
  · simp only [Gh.move]; rw [if_neg (by omega)]
  · have hl := hlt b (by rw [hb]; simp)
    exact ⟨(hk b hl (by rw [hb]; simpa using hm) (by rw [hb]; simp)).trans hb, hold b hl (by rw [hb]; simpa using hm)⟩
  · have hl := hlt b (by rw [hb]; simp)
    exact ⟨(hk b hl (by rw [hb]; simp) (by rw [hb]; intro p h; injection h with h; contradiction)).trans hb, hold b hl (by rw [hb]; simp)⟩
  · have h0 := r.lt b (by omega)
    simp only [Gh.move]
    rw [if_neg (by omega), h0]
  · simp only [List.length_append, List.length_set, List.length_cons, List.length_nil] at hm
    simp only [Gh.move]; rw [if_neg (by omega)]; exact r.dom m (by omega)
  · simp only [List.length_append, List.length_set, List.length_cons, List.length_nil]
    simp only [Gh.move] at hb
    split at hb
    · injection hb with hb; omega
    · split at hb
      · split at hb <;> cases hb
      · have := r.rol b m hb; omega
  · simp only [List.length_append, List.length_set, List.length_cons, List.length_nil]
    simp only [Gh.move] at hb
    split at hb
    · cases hb
    · split at hb
      · rename_i m' p' hm'
        have := r.rols b m' p' hm'
        split at hb <;> (injection hb with hb _; omega)
      · have := r.rols b m p hb; omega
  · rcases Nat.lt_or_ge m H.length with h | h
    · rw [List.getElem?_append_left (by simpa using h)] at hem
      by_cases hm : m = n
      · subst hm
        rw [List.getElem?_set_self (by simpa using hn)] at hem
        simp only [Option.some.injEq] at hem
        exact .inr (hem ▸ trivial)
      · rw [List.getElem?_set_ne (Ne.symm hm)] at hem
        exact .inl ⟨hm, hem⟩
    · rw [List.getElem?_append_right (by simpa using h)] at hem
      simp only [List.length_set] at hem
      rcases Nat.eq_zero_or_pos (m - H.length) with h0 | h0
      · rw [h0] at hem
        simp only [List.getElem?_cons_zero, Option.some.injEq] at hem
        have : m = H.length := by omega
        subst this; subst hem
        exact .inr he
      · rw [show m - H.length = (m - H.length - 1) + 1 by omega] at hem
        simp at hem

/-- An entry is forgotten. -/
theorem RelH.kill {E : Env} {g : Gh} {H : List Ent} {w : World} (n : Nat) (r : RelH E g H w) : RelH E g (H.set n .dead) w := by
  refine ⟨fun m e he => ?_, r.inv, r.lt, fun m hm => r.dom m (by simpa using hm), fun b m hb => by simpa using r.rol b m hb, fun b m p hb => by simpa using r.rols b m p hb⟩
  by_cases hm : n = m
  · subst hm
    rcases Nat.lt_or_ge n H.length with h | h
    · rw [List.getElem?_set_self h] at he
      simp only [Option.some.injEq] at he
      exact he ▸ trivial
    · rw [List.getElem?_eq_none (by simpa using h)] at he; cases he
  · rw [List.getElem?_set_ne hm] at he
    exact r.ent m e he

/-- The world stays; what is said of it turns. -/
theorem RelH.same {E : Env} {g g' : Gh} {H H' : List Ent} {w : World} (r : RelH E g H w) (himm : ∀ b, g.κ b = .imm → g'.κ b = .imm) (hfree : ∀ b, g.κ b = .free → g'.κ b = .free)
    (hname : ∀ m, m < H.length → g'.ρ m = g.ρ m) (hdom : ∀ m, H'.length ≤ m → g'.ρ m = none)
    (hrol : ∀ b m, g'.κ b = .nm m → m < H'.length) (hrols : ∀ b m p, g'.κ b = .sub m p → m < H'.length) (hent : ∀ (m : Nat) (e : Ent), H'[m]? = some e → e.Is g' w m) :
    RelH E g' H' w ∧ Step H.length g w g' w :=
  ⟨⟨hent, E.keeps _ _ _ _ r.inv (fun b hb => ⟨himm b hb, rfl⟩), fun b hb => hfree b (r.lt b hb), hdom, hrol, hrols⟩,
   ⟨rfl, rfl, rfl, Nat.le_refl _, fun b hb => ⟨himm b hb, rfl⟩, fun b _ hb => ⟨hfree b hb, rfl⟩, hname⟩⟩
theorem RelH.ext {E : Env} {g g' : Gh} {H : List Ent} {w : World} (r : RelH E g H w) (hname : ∀ m, m < H.length → g'.ρ m = g.ρ m) (n : Nat) (p : Place) (hp : g.ρ n = some p) : g'.ρ n = some p := by
  rcases Nat.lt_or_ge n H.length with h | h
  · rw [hname n h]; exact hp
  · rw [r.dom n h] at hp; cases hp
theorem RelH.blk {E : Env} {g : Gh} {H : List Ent} {w : World} (r : RelH E g H w) (b : Nat) (h : g.κ b ≠ .free) : b < w.heap.size := by
  rcases Nat.lt_or_ge b w.heap.size with h' | h'
  · exact h'
  · exact absurd (r.lt b h') h
end Go.V
end

section
namespace Go.V
open Go Go.RowKit

/-! ### types -/
inductive TK where
  | int (k : IntKind)
  | bool
  | str
  | ptr (e : Nat)
  | sl (e : Nat)
  | st (fs : List (Nat × Nat))   -- (offset, type) of each field
  | arr (n e : Nat)
  | func
  | map (k e : Nat)
  | iface
  | other
  deriving Inhabited

structure TI where
  kind : TK
  size : Nat
  bytes : Nat
  zero : List Value
  za : List CV := []
  eqs : Bool := false
  deriving Inhabited

def TI.no : TI := ⟨.other, 0, 0, [], [], false⟩
def tkOf : TypeDesc → TK
  | .int k => .int k
  | .bool => .bool
  | .string => .str
  | .pointer e => .ptr e
  | .slice e => .sl e
  | .struct fs => .st (fs.toList.map fun f => (f.offset, f.type))
  | .array n e => .arr n e
  | .func .. => .func
  | .map k e => .map k e
  | .interface _ => .iface
  | _ => .other
def tiOf (P : Program) (t : TypeId) : TI :=
  match P.info? t, P.underlying t with
  | some i, some d => ⟨tkOf d, i.size, i.bytes, (i.zero.map (·.cells.toList)).getD [], [], false⟩
  | _, _ => .no

/-- A zero value's cells, as they are told. -/
def zOk1 : Value → CV → Bool
  | .int k n, .int k' n' => k == k' && n == n'
  | .bool b, .bool b' => b == b'
  | .string s, .str l => s.data.toList == l
  | .slice none 0 0, .nil _ _ => true
  | .pointer none, .raw (.pointer none) => true
  | .nilFunc, .raw .nilFunc => true
  | .map none, .raw (.map none) => true
  | .nilIface, .raw .nilIface => true
  | _, .bad => true
  | _, _ => false
def zOk : List Value → List CV → Bool
  | [], [] => true
  | v :: l, c :: m => zOk1 v c && zOk l m
  | _, _ => false
def TI.real (t : TI) : TI := { t with za := [], eqs := false }
/-- '==' may be asked of the structs of a type: its fields are numbers, texts and truths. -/
def EqOk (P : Program) (t : TypeId) : Bool := !P.eqGuardType P.depth t && !P.stoodInHeld t && match P.underlying t with
  | some (.struct fs) => fs.toList.all fun f => f.name != "_" && P.plainKey f.type
  | _ => false
/-- A table of types says what the program's do. -/
def TOk (P : Program) (T : Nat → TI) : Prop := ∀ t, T t = .no ∨ ((T t).real = tiOf P t ∧ zOk (T t).zero (T t).za = true ∧ ((T t).eqs = false ∨ EqOk P t = true))

section
variable {P : Program} {T : Nat → TI}
theorem TOk.und {t : Nat} {k : TK} (h : TOk P T) (hk : (T t).kind = k) (hne : k ≠ .other) : ∃ d, P.underlying t = some d ∧ tkOf d = k := by
  rcases h t with h | ⟨h, _⟩
  · rw [h] at hk; exact absurd hk.symm hne
  · have hk : (T t).real.kind = k := hk
    rw [h] at hk
    unfold tiOf at hk
    split at hk
    · rename_i i d hi hd; exact ⟨d, hd, hk⟩
    · exact absurd hk.symm hne
theorem TOk.int {t : Nat} {k : IntKind} (h : TOk P T) (hk : (T t).kind = .int k) : P.underlying t = some (.int k) := by
  obtain ⟨d, hd, hkd⟩ := h.und hk (by simp)
  cases d <;> simp [tkOf] at hkd
  rw [hd, hkd]
theorem TOk.bool {t : Nat} (h : TOk P T) (hk : (T t).kind = .bool) : P.underlying t = some .bool := by
  obtain ⟨d, hd, hkd⟩ := h.und hk (by simp)
  cases d <;> simp [tkOf] at hkd
  exact hd
theorem TOk.str {t : Nat} (h : TOk P T) (hk : (T t).kind = .str) : P.underlying t = some .string := by
  obtain ⟨d, hd, hkd⟩ := h.und hk (by simp)
  cases d <;> simp [tkOf] at hkd
  exact hd
theorem TOk.ptr {t e : Nat} (h : TOk P T) (hk : (T t).kind = .ptr e) : P.underlying t = some (.pointer e) := by
  obtain ⟨d, hd, hkd⟩ := h.und hk (by simp)
  cases d <;> simp [tkOf] at hkd
  rw [hd, hkd]
theorem TOk.sl {t e : Nat} (h : TOk P T) (hk : (T t).kind = .sl e) : P.underlying t = some (.slice e) := by
  obtain ⟨d, hd, hkd⟩ := h.und hk (by simp)
  cases d <;> simp [tkOf] at hkd
  rw [hd, hkd]
theorem TOk.arr {t n e : Nat} (h : TOk P T) (hk : (T t).kind = .arr n e) : P.underlying t = some (.array n e) := by
  obtain ⟨d, hd, hkd⟩ := h.und hk (by simp)
  cases d <;> simp [tkOf] at hkd
  rw [hd, hkd.1, hkd.2]
theorem TOk.st {t : Nat} {l : List (Nat × Nat)} (h : TOk P T) (hk : (T t).kind = .st l) : ∃ fs : Array Field, P.underlying t = some (.struct fs) ∧ fs.toList.map (fun f => (f.offset, f.type)) = l := by
  obtain ⟨d, hd, hkd⟩ := h.und hk (by simp)
  cases d <;> simp [tkOf] at hkd
  exact ⟨_, hd, hkd⟩
theorem TOk.info {t : Nat} (h : TOk P T) (hk : (T t).kind ≠ .other) : ∃ i, P.info? t = some i ∧ i.size = (T t).size ∧ i.bytes = (T t).bytes ∧ (i.zero.map (·.cells.toList)).getD [] = (T t).zero := by
  rcases h t with h | ⟨h, _⟩
  · rw [h] at hk; exact absurd rfl hk
  · have hk : (T t).real.kind ≠ .other := hk
    have h1 : (T t).size = (T t).real.size := rfl
    have h2 : (T t).bytes = (T t).real.bytes := rfl
    have h3 : (T t).zero = (T t).real.zero := rfl
    rw [h1, h2, h3]
    rw [h] at hk ⊢
    unfold tiOf at hk ⊢
    split at hk
    · rename_i i d hi hd; rw [hi]; exact ⟨i, rfl, rfl, rfl, rfl⟩
    · exact absurd rfl hk
theorem TOk.za {t : Nat} (h : TOk P T) (hk : (T t).kind ≠ .other) : zOk (T t).zero (T t).za = true := by
  rcases h t with h | ⟨_, h⟩
  · rw [h] at hk; exact absurd rfl hk
  · exact h.1
theorem TOk.size {t : Nat} (h : TOk P T) (hk : (T t).kind ≠ .other) (w : World) : (sizeOf t).run P w = .ok (T t).size w := by
  obtain ⟨i, hi, hs, _⟩ := h.info hk
  simp [sizeOf, typeInfo, hi, hs]
end

def TK.isAgg : TK → Bool
  | .st _ | .arr .. => true
  | _ => false
theorem TOk.agg {P : Program} {T : Nat → TI} {t : Nat} (h : TOk P T) (hk : (T t).kind ≠ .other) (w : World) : (isAgg t).run P w = .ok (T t).kind.isAgg w := by
  obtain ⟨d, hd, hkd⟩ := h.und (k := (T t).kind) rfl hk
  rw [← hkd]
  cases d <;> simp [isAgg, run_underlying hd, tkOf, TK.isAgg]

/-! ### states -/
structure St where
  tmps : List AV
  heap : List Ent

def nth {α : Type} [Inhabited α] : List α → Nat → α
  | [], _ => default
  | a :: _, 0 => a
  | _ :: l, n + 1 => nth l n
def setn {α : Type} : List α → Nat → α → List α
  | [], _, _ => []
  | _ :: l, 0, v => v :: l
  | a :: l, n + 1, v => a :: setn l n v
theorem nth_eq {α : Type} [Inhabited α] : ∀ (l : List α) (n : Nat), nth l n = (l[n]?).getD default
  | [], _ => by simp [nth]
  | _ :: _, 0 => by simp [nth]
  | _ :: l, n + 1 => by simp [nth, nth_eq l n]
theorem setn_eq {α : Type} : ∀ (l : List α) (n : Nat) (v : α), setn l n v = l.set n v
  | [], _, _ => rfl
  | _ :: _, 0, _ => rfl
  | _ :: l, n + 1, v => by simp [setn, setn_eq l n v]

def constCV : Value → CV
  | .int k n => .int k n
  | .bool b => .bool b
  | .string s => .str s.data.toList
  | .slice _ 0 0 => .nil 0 0
  | .pointer none => .raw (.pointer none)
  | .nilFunc => .raw .nilFunc
  | .map none => .raw (.map none)
  | .nilIface => .raw .nilIface
  | _ => .bad
def constAV : Value → AV
  | .agg cs => .s (.agg (cs.toList.map constCV))
  | v => .c (constCV v)
def St.ev (s : St) : Operand → AV
  | .tmp t => nth s.tmps t
  | .const v => constAV v
  | .func f => .c (.fn f [])
  | .global _ => .bad
def put (l : List AV) (d : Option Nat) (v : AV) : List AV :=
  match d with
  | some d => setn l d v
  | none => l

/-- What the abstract slots say of the model's. -/
def Slots (g : Gh) (w : World) (l : List AV) (a : Act) : Prop := a.defers = [] ∧ F2 (AV.Is g w) l a.tmps.toList

theorem bstr_data (s : ByteArray) : bstr s.data.toList = s := by cases s; simp [bstr]
theorem constCV_is (g : Gh) (w : World) (v : Value) : (constCV v).Is g w v := by
  unfold constCV
  split <;> first
    | exact rfl
    | exact ⟨rfl, rfl⟩
    | (rename_i s; exact congrArg Value.string (bstr_data s).symm)
    | (rename_i A; exact ⟨A, rfl⟩)
    | trivial
theorem F2_const (g : Gh) (w : World) : ∀ l : List Value, F2 (CV.Is g w) (l.map constCV) l
  | [] => trivial
  | v :: l => ⟨constCV_is g w v, F2_const g w l⟩
theorem zOk1_is (g : Gh) (w : World) {v : Value} {c : CV} (h : zOk1 v c = true) : c.Is g w v := by
  unfold zOk1 at h
  split at h
  · simp only [Bool.and_eq_true, beq_iff_eq] at h; rw [h.1, h.2]; rfl
  · rw [beq_iff_eq] at h; rw [h]; rfl
  · rw [beq_iff_eq] at h; rw [← h]; exact congrArg Value.string (bstr_data _).symm
  · exact ⟨none, rfl⟩
  · exact ⟨rfl, rfl⟩
  · exact ⟨rfl, rfl⟩
  · exact ⟨rfl, rfl⟩
  · exact ⟨rfl, rfl⟩
  · exact trivial
  · cases h
theorem zOk_is (g : Gh) (w : World) : ∀ {zs : List Value} {cs : List CV}, zOk zs cs = true → F2 (CV.Is g w) cs zs
  | [], [], _ => trivial
  | v :: zs, c :: cs, h => by
    simp only [zOk, Bool.and_eq_true] at h
    exact ⟨zOk1_is g w h.1, zOk_is g w h.2⟩
theorem constAV_is (g : Gh) (w : World) (v : Value) : (constAV v).Is g w v := by
  unfold constAV
  split
  · exact ⟨_, rfl, F2_const g w _⟩
  · exact constCV_is g w v

theorem ev_is {g : Gh} {w : World} {s : St} {a : Act} (h : Slots g w s.tmps a) (x : Operand) : (s.ev x).Is g w (a.eval x) := by
  cases x with
  | tmp t =>
    simp only [St.ev, nth_eq]
    cases hl : s.tmps[t]? with
    | none => exact trivial
    | some v =>
      obtain ⟨u, hu, hi⟩ := F2.get h.2 hl
      rw [Array.getElem?_toList] at hu
      simp only [Option.getD_some, Act.eval, Array.getD_eq_getD_getElem?, hu]
      exact hi
  | const v => exact constAV_is g w v
  | func f => exact ⟨[], rfl, trivial⟩
  | global _ => exact trivial

theorem F2.set {α β : Type} {R : α → β → Prop} : ∀ {l : List α} {m : List β}, F2 R l m → ∀ {i : Nat} {a : α} {b : β}, R a b → F2 R (l.set i a) (m.set i b)
  | [], [], _, _, _, _, _ => trivial
  | _ :: _, _ :: _, hl, 0, _, _, h => ⟨h, hl.2⟩
  | _ :: _, _ :: _, hl, _ + 1, _, _, h => ⟨hl.1, F2.set hl.2 h⟩

theorem Slots.put {g : Gh} {w : World} {l : List AV} {a : Act} (h : Slots g w l a) (d : Option Nat) {v : AV} {u : Value} (hv : v.Is g w u) : Slots g w (put l d v) (a.put d u) := by
  cases d with
  | none => exact h
  | some d =>
    refine ⟨h.1, ?_⟩
    simp only [V.put, Act.put, setn_eq, Array.toList_setIfInBounds]
    exact F2.set h.2 hv
theorem Slots.mono {g g' : Gh} {w w' : World} {l : List AV} {a : Act} (h : Slots g w l a) (hi : ∀ b, g.κ b = .imm → g'.κ b = .imm ∧ w'.heap[b]? = w.heap[b]?)
    (hn : ∀ n p, g.ρ n = some p → g'.ρ n = some p) : Slots g' w' l a := ⟨h.1, F2.imp (fun _ _ => AV.Is.mono hi hn) h.2⟩
theorem RelH.mono_name {E : Env} {g g' : Gh} {H : List Ent} {w w' : World} (r : RelH E g H w) (s : Step H.length g w g' w') (n : Nat) (p : Place) (hp : g.ρ n = some p) : g'.ρ n = some p := by
  rcases Nat.lt_or_ge n H.length with h | h
  · rw [s.name n h]; exact hp
  · rw [r.dom n h] at hp; cases hp
theorem Slots.step {E : Env} {g g' : Gh} {H : List Ent} {w w' : World} {l : List AV} {a : Act} (h : Slots g w l a) (r : RelH E g H w) (s : Step H.length g w g' w') : Slots g' w' l a :=
  h.mono s.imm (r.mono_name s)

/-! ### the operations that look at no memory -/
/-- Of what another argument's type speaks, simp turns nothing. -/
def Tk {α : Type} (_ : α) : Type := Unit
instance {α : Type} (a : α) : Inhabited (Tk a) := ⟨()⟩
abbrev tk {α : Type} {a : α} : Tk a := ()
/-- A continuation that simp does not enter. -/
def bx {α : Type} (K : α → Prop) (_ : Tk K := tk) : α → Prop := K
def bx2 {α β : Type} (K : α → β → Prop) (_ : Tk K := tk) : α → β → Prop := K
theorem bx_app {α : Type} (K : α → Prop) (d : Tk K) (x : α) : bx K d x = K x := rfl
theorem bx2_app {α β : Type} (K : α → β → Prop) (d : Tk K) (x : α) (y : β) : bx2 K d x y = K x y := rfl
def condP (b : Bool) (p q : Prop) (_ : Tk p := tk) (_ : Tk q := tk) : Prop := match b with | true => p | false => q
theorem condP_intro {b : Bool} {p q : Prop} (h : b = true → p) (h' : b = false → q) : condP b p q := by
  cases b
  · exact h' rfl
  · exact h rfl
theorem condP_true (p q : Prop) : condP true p q = p := rfl
theorem condP_false (p q : Prop) : condP false p q = q := rfl
theorem condP_congr {b b' : Bool} {p q : Prop} (h : b = b') : condP b p q = condP b' p q := by rw [h]

def addw (k : IntKind) (a b : Int) : Int := k.wrap (a + b)
def subw (k : IntKind) (a b : Int) : Int := k.wrap (a - b)
def mulw (k : IntKind) (a b : Int) : Int := k.wrap (a * b)
def bitw (op : BinOp) (k : IntKind) (x y : Int) : Int :=
  let a := BitVec.ofInt k.bits x
  let b := BitVec.ofInt k.bits y
  match op with
  | .and => k.wrap (a &&& b).toNat
  | .or => k.wrap (a ||| b).toNat
  | .xor => k.wrap (a ^^^ b).toNat
  | _ => k.wrap (a &&& ~~~b).toNat

def intP (op : BinOp) (k : IntKind) (a b : Int) (K : AV → Prop) : Prop :=
  match op with
  | .add => K (.d (.int k (addw k a b)))
  | .sub => K (.d (.int k (subw k a b)))
  | .mul => K (.d (.int k (mulw k a b)))
  | .quo => b ≠ 0 ∧ K (.d (.int k (k.wrap (a.tdiv b))))
  | .rem => b ≠ 0 ∧ K (.d (.int k (a.tmod b)))
  | .and | .or | .xor | .andNot => K (.d (.int k (bitw op k a b)))
  | .eql => K (.d (.bool (decide (a = b))))
  | .neq => K (.d (.bool (!decide (a = b))))
  | .lss => K (.d (.bool (decide (a < b))))
  | .leq => K (.d (.bool (decide (a ≤ b))))
  | .gtr => K (.d (.bool (decide (b < a))))
  | .geq => K (.d (.bool (decide (b ≤ a))))
  | _ => False
def strP (op : BinOp) (a b : List UInt8) (K : AV → Prop) : Prop :=
  match op with
  | .add => a.length + b.length ≤ 4611686018427387904 ∧ K (.d (.str (a ++ b)))
  | .eql => K (.d (.bool (decide (a = b))))
  | .neq => K (.d (.bool (!decide (a = b))))
  | _ => False
/-- '==' and '!=' between what are no numbers and no texts. -/
def eqP (T : Nat → TI) (neg : Bool) (t : Nat) (x y : CV) (K : AV → Prop) : Prop :=
  match (T t).kind, x, y with
  | .bool, .bool a, .bool b => K (.d (.bool (neg != (a == b))))
  | .ptr _, .raw (.pointer none), .raw (.pointer none) => K (.d (.bool (!neg)))
  | .ptr _, .ptr .., .raw (.pointer none) => K (.d (.bool neg))
  | .ptr _, .raw (.pointer none), .ptr .. => K (.d (.bool neg))
  | .func, .raw .nilFunc, .raw .nilFunc => K (.d (.bool (!neg)))
  | .func, .fn .., .raw .nilFunc => K (.d (.bool neg))
  | _, _, _ => False
def eqCell (k : TK) (x y : CV) : Option Bool :=
  match k, x, y with
  | .int _, .int k a, .int k' b => if k = k' then some (decide (a = b)) else none
  | .str, .str a, .str b => some (decide (a = b))
  | .bool, .bool a, .bool b => some (decide (a = b))
  | _, _, _ => none
def andO : Option Bool → Option Bool → Option Bool
  | some a, some b => some (a && b)
  | _, _ => none
def eqFs (T : Nat → TI) : List (Nat × Nat) → List CV → List CV → Option Bool
  | [], _, _ => some true
  | (o, t) :: fs, cs, ds => andO (eqCell (T t).kind (nth cs o) (nth ds o)) (eqFs T fs cs ds)
def isK (neg : Bool) (K : AV → Prop) : Option Bool → Prop
  | some b => K (.d (.bool (neg != b)))
  | none => False
/-- '==' between structs. -/
def eqAggP (T : Nat → TI) (neg : Bool) (t : Nat) (cs ds : List CV) (K : AV → Prop) : Prop :=
  (T t).eqs = true ∧ match (T t).kind with
  | .st fs => isK neg K (eqFs T fs cs ds)
  | _ => False
def binP (T : Nat → TI) (op : BinOp) (t : Nat) (x y : AV) (K : AV → Prop) : Prop :=
  match x, y with
  | .s (.c (.int k a)), .s (.c (.int k' b)) => if k = k' then intP op k a b K else False
  | .s (.c (.str a)), .s (.c (.str b)) => strP op a b K
  | .s (.c a), .s (.c b) => match op with
    | .eql => eqP T false t a b K
    | .neq => eqP T true t a b K
    | _ => False
  | .s (.agg a), .s (.agg b) => match op with
    | .eql => eqAggP T false t a b K
    | .neq => eqAggP T true t a b K
    | _ => False
  | _, _ => False
def unP (op : UnOp) (x : AV) (K : AV → Prop) : Prop :=
  match op, x with
  | .not, .s (.c (.bool b)) => K (.d (.bool (!b)))
  | .neg, .s (.c (.int k n)) => K (.d (.int k (subw k 0 n)))
  | _, _ => False

/-- A slice's bound: an int between 0 and n. -/
def boundP (x : Option AV) (dflt n : Nat) (K : Nat → Prop) : Prop :=
  match x with
  | none => K dflt
  | some (.s (.c (.int _ i))) => 0 ≤ i ∧ i ≤ n ∧ K i.toNat
  | _ => False
/-- So many rows from one on. -/
def subCell (j m : Nat) (cell : Nat → Nat → CV) : Nat → Nat → CV := fun i f => if i < m then cell (j + i) f else .bool false
def sliceP (T : Nat → TI) (t : Nat) (x : AV) (lo hi mx : Option AV) (K : AV → Prop) : Prop :=
  match (T t).kind, x with
  | .str, .s (.c (.str l)) => mx = none ∧ boundP hi l.length l.length (bx fun h => boundP lo 0 h (bx fun j => K (.d (.str ((l.drop j).take (h - j))))))
  | .sl e, .s (.c (.sl n wd k len cap)) => (T e).kind ≠ .other ∧ ((T e).size = wd ∨ cap = 0) ∧ len ≤ cap ∧ (hi.isSome || mx.isNone) = true ∧ boundP mx cap cap (bx fun m => boundP hi len (min len m) (bx fun h => boundP lo 0 h (bx fun j => K (.c (.sl n wd (k + j) (h - j) (m - j))))))
  | .sl e, .s (.c (.lst wd n cell)) => (T e).kind ≠ .other ∧ (T e).size = wd ∧ mx = none ∧ boundP hi n n (bx fun h => boundP lo 0 h (bx fun j => K (.d (.lst wd (h - j) (subCell j (h - j) cell)))))
  | .sl e, .s (.c (.nil e' wd)) => (T e).kind ≠ .other ∧ mx = none ∧ boundP hi 0 0 (bx fun h => boundP lo 0 h (bx fun _ => K (.d (.nil e' wd))))
  | _, _ => False
def indexAddrP (T : Nat → TI) (t : Nat) (x i : AV) (K : AV → Prop) : Prop :=
  match (T t).kind, x, i with
  | .sl e, .s (.c (.sl n wd k len _)), .s (.c (.int _ i)) => (T e).kind ≠ .other ∧ (T e).size = wd ∧ 0 ≤ i ∧ i < len ∧ K (.c (.ptr n (k + i.toNat) 0))
  | .sl e, .s (.c (.lst wd n cell)), .s (.c (.int _ i)) => (T e).kind ≠ .other ∧ (T e).size = wd ∧ 0 ≤ i ∧ i < n ∧ K (.c (.dptr wd n cell i.toNat 0))
  | _, _, _ => False
def indexP (T : Nat → TI) (t : Nat) (x i : AV) (K : AV → Prop) : Prop :=
  match (T t).kind, x, i with
  | .str, .s (.c (.str l)), .s (.c (.int _ i)) => 0 ≤ i ∧ i < l.length ∧ K (.d (.int .u8 ((l.getD i.toNat 0).toNat : Int)))
  | _, _, _ => False

def fieldAddrP (T : Nat → TI) (s : Nat) (x : AV) (f : Nat) (K : AV → Prop) : Prop :=
  match (T s).kind with
  | .st fs => match fs[f]? with
    | some (off, ft) => (T ft).kind ≠ .other ∧ (T ft).size ≠ 0 ∧ match x with
      | .s (.c (.ptr n k j)) => K (.c (.ptr n k (j + off)))
      | .s (.c (.dptr wd n cell k j)) => K (.c (.dptr wd n cell k (j + off)))
      | _ => False
    | none => False
  | _ => False
def fieldP (T : Nat → TI) (s : Nat) (x : AV) (f : Nat) (K : AV → Prop) : Prop :=
  match (T s).kind, x with
  | .st fs, .s (.agg cs) => match fs[f]? with
    | some (off, ft) => (T ft).kind ≠ .other ∧ if (T ft).kind.isAgg then K (.s (.agg ((cs.drop off).take (T ft).size))) else off < cs.length ∧ K (.c (nth cs off))
    | none => False
  | _, _ => False
def extractP (x : AV) (i : Nat) (K : AV → Prop) : Prop :=
  match x with
  | .tup vs => i < vs.length ∧ K (.s (nth vs i))
  | _ => False
def capsOf : List AV → Option (List Nat)
  | [] => some []
  | .s (.c (.ptr n 0 0)) :: l => match capsOf l with
    | some r => some (n :: r)
    | none => none
  | _ => none
def makeFuncP (fn : Fn) (first captured : List AV) (K : AV → Prop) : Prop :=
  match fn, first, capsOf captured with
  | .func g, [], some caps => K (.c (.fn g caps))
  | _, _, _ => False
def CV.ok : CV → Bool
  | .bad => false
  | _ => true
/-- The cells that a value has. -/
def SV.cells : SV → Option (List CV)
  | .c .bad => none
  | .c x => some [x]
  | .agg cs => some cs
def setAt : List CV → Nat → List CV → List CV
  | l, _, [] => l
  | l, n, x :: r => setAt (setn l n x) (n + 1) r
def fillP (place : Nat → Option (Nat × Nat)) (cs : List CV) : List (Nat × AV) → (List CV → Prop) → Prop
  | [], K => K cs
  | (i, .s x) :: r, K => match place i, x.cells with
    | some (off, size), some xs => xs.length = size ∧ off + xs.length ≤ cs.length ∧ fillP place (setAt cs off xs) r K
    | _, _ => False
  | _ :: _, _ => False
/-- A slice without places, told by its type. -/
def typed (T : Nat → TI) (t : Nat) (x : CV) : CV :=
  match (T t).kind, x with
  | .sl e, .nil _ _ => .nil e (T e).size
  | _, x => x
def typedA (T : Nat → TI) (t : Nat) (x : AV) : AV :=
  match x with
  | .s (.c x) => .s (.c (typed T t x))
  | x => x
def typedF (T : Nat → TI) (fs : List (Nat × Nat)) (i : Nat) (x : AV) : AV :=
  match fs[i]? with
  | some f => typedA T f.2 x
  | none => x
def buildP (T : Nat → TI) (t : Nat) (parts : List (Nat × AV)) (K : AV → Prop) : Prop :=
  match (T t).kind with
  | .st fs => (∀ f ∈ fs, (T f.2).kind ≠ .other) ∧ (T t).za ≠ [] ∧ fillP (fun i => (fs[i]?).map fun f => (f.1, (T f.2).size)) (T t).za (parts.map fun p => (p.1, typedF T fs p.1 p.2)) (bx fun cs => K (.s (.agg cs)))
  | .arr _ e => (T e).kind ≠ .other ∧ (T t).za ≠ [] ∧ fillP (fun i => some (i * (T e).size, (T e).size)) (T t).za parts (bx fun cs => K (.s (.agg cs)))
  | _ => False
def nilCheckP (x : AV) (K : AV → Prop) : Prop :=
  match x with
  | .s (.c (.ptr ..)) | .s (.c (.dptr ..)) | .s (.c (.fn ..)) => K x
  | _ => False
def lenP (T : Nat → TI) (t : Nat) (x : AV) (K : AV → Prop) : Prop :=
  match (T t).kind, x with
  | .str, .s (.c (.str l)) => K (.d (.int .i64 (l.length : Int)))
  | .sl _, .s (.c (.sl _ _ _ len _)) => K (.d (.int .i64 (len : Int)))
  | .sl _, .s (.c (.lst _ n _)) => K (.d (.int .i64 (n : Int)))
  | .sl _, .s (.c (.nil _ _)) => K (.d (.int .i64 0))
  | _, _ => False
def minmaxP (mx : Bool) (x y : AV) (K : AV → Prop) : Prop :=
  match x, y with
  | .s (.c (.int k a)), .s (.c (.int _ b)) => K (.d (.int k (if mx then (if a < b then b else a) else (if b < a then b else a))))
  | _, _ => False
def builtinP (T : Nat → TI) (b : Builtin) (ts : List TypeId) (xs : List AV) (K : AV → Prop) : Prop :=
  match b, ts, xs with
  | .len, t :: _, x :: _ => lenP T t x K
  | .min, _, [x, y] => minmaxP false x y K
  | .max, _, [x, y] => minmaxP true x y K
  | _, _, _ => False
def popP (T : Nat → TI) (ev : Operand → AV) (op : Op) (K : AV → Prop) : Prop :=
  match op with
  | .move x | .assign x => K (ev x)
  | .pick c a b => match ev c with
    | .s (.c (.bool t)) => condP t (K (ev a)) (K (ev b))
    | _ => False
  | .nilCheck x => nilCheckP (ev x) K
  | .binOp op t x y _ => binP T op t (ev x) (ev y) K
  | .unOp op _ x => unP op (ev x) K
  | .makeFunc fn first captured => makeFuncP fn (first.toList.map ev) (captured.toList.map ev) K
  | .slice t x lo hi mx => sliceP T t (ev x) (lo.map ev) (hi.map ev) (mx.map ev) K
  | .fieldAddr s x f => fieldAddrP T s (ev x) f K
  | .field s x f => fieldP T s (ev x) f K
  | .indexAddr t x i => indexAddrP T t (ev x) (ev i) K
  | .index t x i => indexP T t (ev x) (ev i) K
  | .extract x i => extractP (ev x) i K
  | .build t parts => buildP T t (parts.toList.map fun p => (p.1, ev p.2)) K
  | .call { callee := .builtin b, args, argTypes } => builtinP T b argTypes.toList (args.toList.map ev) K
  | _ => False
end Go.V
end

section
set_option linter.unusedSimpArgs false
set_option linter.unusedVariables false
namespace Go.V
open Go Go.RowKit

/-- A run that neither looks at the world nor turns it, and what comes of it. -/
def RunsTo (P : Program) (g : Gh) (w : World) (m : Sem Value) (K : AV → Prop) : Prop := ∃ v av, (∀ w', m.run P w' = .ok v w') ∧ K av ∧ av.Is g w v

theorem beq_dec {α : Type} [BEq α] [LawfulBEq α] [DecidableEq α] (a b : α) : (a == b) = decide (a = b) := by rw [Bool.eq_iff_iff]; simp

section
variable {P : Program} {T : Nat → TI} {g : Gh} {w : World}

theorem intP_sound {op : BinOp} {k : IntKind} {a b : Int} {K : AV → Prop} {t : Nat} (h : intP op k a b K) : RunsTo P g w (binOp op t (.int k a) (.int k b)) K := by
  have hne : (k ≠ k) = False := by simp
  cases op <;> simp only [intP] at h
  all_goals first
    | exact h.elim
    | (refine ⟨_, _, fun w' => ?_, h, rfl⟩; simp [binOp, Op.intArith, Op.intBits, Op.intCmp, addw, subw, mulw, bitw]; done)
    | (refine ⟨_, _, fun w' => ?_, h, rfl⟩; simp [binOp, Op.intArith, Op.intBits, Op.intCmp, addw, subw, mulw, bitw]; rfl)
    | (refine ⟨_, _, fun w' => ?_, h.2, rfl⟩; simp [binOp, Op.intDiv, h.1]; done)

theorem strP_sound {op : BinOp} {a b : List UInt8} {K : AV → Prop} {t : Nat} (h : strP op a b K) : RunsTo P g w (binOp op t (.string (bstr a)) (.string (bstr b))) K := by
  cases op <;> simp only [strP] at h
  case add =>
    refine ⟨.string (bstr (a ++ b)), _, fun w' => ?_, h.2, rfl⟩
    have hs : (bstr a).size = a.length := by simp [bstr, ByteArray.size]
    have hs' : (bstr b).size = b.length := by simp [bstr, ByteArray.size]
    have hm : ¬ (((((bstr a).size + (bstr b).size : Nat) : Int)) > IntKind.i64.max) := by
      rw [hs, hs']; simp [IntKind.max, IntKind.bits, IntKind.signed]; omega
    have happ : bstr a ++ bstr b = bstr (a ++ b) := by
      apply ByteArray.ext; simp [bstr]
    simp only [binOp, Op.stringOp, hm, if_false, happ]
    rfl
  case eql => exact ⟨.bool (decide (a = b)), _, fun w' => by simp [binOp, Op.stringOp, bstr, beq_dec], h, rfl⟩
  case neq => exact ⟨.bool (!decide (a = b)), _, fun w' => by simp [binOp, Op.stringOp, bstr, beq_dec], h, rfl⟩
  all_goals exact h.elim

theorem eqGuard_cell {op : BinOp} {t : Nat} {x y : Operand} {a b : Value} (hn : a ≠ .nilIface ∨ b ≠ .nilIface) (ha : ∀ cs, a ≠ .agg cs) : (eqGuard op t x y a b).run P w = .ok () w := by
  unfold eqGuard
  cases op <;> first
    | rfl
    | (cases a <;> cases b <;> first | rfl | exact absurd rfl (ha _) | (simp at hn; done))

theorem run_equalIn_bool {t : Nat} (hu : P.underlying t = some .bool) (d : Nat) (a b : Bool) : (Op.equalIn (d + 1) t (.bool a) (.bool b)).run P w = .ok (a == b) w := by
  simp [Op.equalIn, run_underlying hu]
theorem run_equalIn_nilptr {t e : Nat} (hu : P.underlying t = some (.pointer e)) (d : Nat) (b : Option Addr) : (Op.equalIn (d + 1) t (.pointer none) (.pointer b)).run P w = .ok b.isNone w := by
  simp [Op.equalIn, run_underlying hu]
theorem run_equalIn_ptrnil {t e : Nat} (hu : P.underlying t = some (.pointer e)) (d : Nat) (a : Addr) : (Op.equalIn (d + 1) t (.pointer (some a)) (.pointer none)).run P w = .ok false w := by
  simp [Op.equalIn, run_underlying hu]
theorem run_equalIn_nilfn {t : Nat} {ps rs : Array TypeId} {v : Bool} (hu : P.underlying t = some (.func ps rs v)) (d : Nat) : (Op.equalIn (d + 1) t .nilFunc .nilFunc).run P w = .ok true w := by
  simp [Op.equalIn, run_underlying hu]
theorem run_equalIn_fnnil {t : Nat} {ps rs : Array TypeId} {v : Bool} (hu : P.underlying t = some (.func ps rs v)) (d : Nat) (f : Fn) (x y : Array Value) : (Op.equalIn (d + 1) t (.func f x y) .nilFunc).run P w = .ok false w := by
  simp [Op.equalIn, run_underlying hu]

/-- Neither a number nor a text: '==' goes to Op.equal. -/
def other : Value → Bool
  | .int .. | .float .. | .complex .. | .string _ => false
  | _ => true
theorem binOp_eql {t : Nat} {a b : Value} (ha : other a = true) {r : Bool} (h : (Op.equalIn (9999 + 1) t a b).run P w = .ok r w) : (binOp .eql t a b).run P w = .ok (.bool r) w := by
  have : binOp .eql t a b = (do pure (.bool (← Op.equal t a b))) := by cases a <;> simp [other] at ha <;> cases b <;> rfl
  rw [this]
  have h' : (Op.equal t a b).run P w = .ok r w := h
  simp [h']
theorem binOp_neq {t : Nat} {a b : Value} (ha : other a = true) {r : Bool} (h : (Op.equalIn (9999 + 1) t a b).run P w = .ok r w) : (binOp .neq t a b).run P w = .ok (.bool (!r)) w := by
  have : binOp .neq t a b = (do pure (.bool (!(← Op.equal t a b)))) := by cases a <;> simp [other] at ha <;> cases b <;> rfl
  rw [this]
  have h' : (Op.equal t a b).run P w = .ok r w := h
  simp [h']
theorem eq_to {t : Nat} {va vb : Value} {x y : Operand} {K : AV → Prop} (neg : Bool) (hn : va ≠ .nilIface) (hag : ∀ cs, va ≠ .agg cs) (ha : other va = true) {r : Bool} (h : ∀ w, (Op.equalIn (9999 + 1) t va vb).run P w = .ok r w)
    (hK : K (.d (.bool (neg != r)))) : RunsTo P g w (do eqGuard (if neg then .neq else .eql) t x y va vb; binOp (if neg then .neq else .eql) t va vb) K := by
  refine ⟨.bool (neg != r), _, fun w' => ?_, hK, rfl⟩
  have h := h w'
  have hg : (eqGuard (if neg then .neq else .eql) t x y va vb).run P w' = .ok () w' := eqGuard_cell (.inl hn) hag
  simp only [Sem.run_bind, hg, Result.andThen_ok]
  cases neg
  · simpa using binOp_eql ha h
  · simpa using binOp_neq ha h

/-- The cell values of which '==' asks here. -/
theorem eqP_sound (hT : TOk P T) {t : Nat} {a b : CV} {K : AV → Prop} {va vb : Value} (ha : a.Is g w va) (hb : b.Is g w vb) (neg : Bool) {x y : Operand} (h : eqP T neg t a b K) :
    RunsTo P g w (do eqGuard (if neg then .neq else .eql) t x y va vb; binOp (if neg then .neq else .eql) t va vb) K := by
  unfold eqP at h
  split at h
  · rename_i p q hk
    obtain rfl := ha
    obtain rfl := hb
    exact eq_to neg (by simp) (by simp) rfl (fun _ => run_equalIn_bool (hT.bool hk) _ _ _) h
  · rename_i e hk
    obtain ⟨rfl, _⟩ := ha
    obtain ⟨rfl, _⟩ := hb
    exact eq_to neg (by simp) (by simp) rfl (fun _ => run_equalIn_nilptr (hT.ptr hk) _ _) (by simpa using h)
  · rename_i e n k f hk
    obtain ⟨p, _, rfl⟩ := ha
    obtain ⟨rfl, _⟩ := hb
    exact eq_to neg (by simp) (by simp) rfl (fun _ => run_equalIn_ptrnil (hT.ptr hk) _ _) (by simpa using h)
  · rename_i e n k f hk
    obtain ⟨rfl, _⟩ := ha
    obtain ⟨p, _, rfl⟩ := hb
    exact eq_to neg (by simp) (by simp) rfl (fun _ => run_equalIn_nilptr (hT.ptr hk) _ _) (by simpa using h)
  · rename_i hk
    obtain ⟨rfl, _⟩ := ha
    obtain ⟨rfl, _⟩ := hb
    obtain ⟨d, hu, hd⟩ := hT.und hk (by simp)
    cases d <;> simp [tkOf] at hd
    exact eq_to neg (by simp) (by simp) rfl (fun _ => run_equalIn_nilfn hu _) (by simpa using h)
  · rename_i q caps hk
    obtain ⟨cs, rfl, _⟩ := ha
    obtain ⟨rfl, _⟩ := hb
    obtain ⟨d, hu, hd⟩ := hT.und hk (by simp)
    cases d <;> simp [tkOf] at hd
    exact eq_to neg (by simp) (by simp) rfl (fun _ => run_equalIn_fnnil hu _ _ _ _) (by simpa using h)
  · exact h.elim

theorem nth_some {α : Type} [Inhabited α] {l : List α} {i : Nat} {x : α} (h : nth l i = x) (hne : x ≠ default) : l[i]? = some x := by
  rw [nth_eq] at h
  cases hl : l[i]? with
  | none => rw [hl] at h; exact absurd h.symm hne
  | some y => rw [hl] at h; exact congrArg some h
theorem bstr_beq (p q : List UInt8) : (bstr p == bstr q) = decide (p = q) := by
  rw [beq_toListBytes, ByteArray.toList_eq, ByteArray.toList_eq]
  simp [bstr, beq_dec]
theorem eqFields_to (hT : TOk P T) {cs ds : List CV} {us vs : List Value} (hc : F2 (CV.Is g w) cs us) (hd : F2 (CV.Is g w) ds vs) (d : Nat) : ∀ (fs : List Field) (r : Bool), (∀ f ∈ fs, f.name ≠ "_" ∧ P.plainKey f.type = true) →
    eqFs T (fs.map fun f => (f.offset, f.type)) cs ds = some r → ∀ w', (Op.eqFields (d + 1) us.toArray vs.toArray fs).run P w' = .ok r w'
  | [], r, _, h, w' => by simp only [List.map_nil, eqFs, Option.some.injEq] at h; subst h; rfl
  | f :: fs, r, hf, h, w' => by
    obtain ⟨hn, hp⟩ := hf f (by simp)
    simp only [List.map_cons, eqFs] at h
    cases h1 : eqCell (T f.type).kind (nth cs f.offset) (nth ds f.offset) with
    | none => rw [h1] at h; cases h
    | some a =>
      cases h2 : eqFs T (fs.map fun f => (f.offset, f.type)) cs ds with
      | none => rw [h1, h2] at h; cases h
      | some b =>
        rw [h1, h2] at h
        simp only [andO, Option.some.injEq] at h
        subst h
        have ih := eqFields_to hT hc hd d fs b (fun f hm => hf f (by simp [hm])) h2 w'
        have step : ∀ u v : Value, us[f.offset]? = some u → vs[f.offset]? = some v → (Op.equalIn (d + 1) f.type u v).run P w' = .ok a w' → (Op.eqFields (d + 1) us.toArray vs.toArray (f :: fs)).run P w' = .ok (a && b) w' := by
          intro u v hu hv he
          have e1 : (part f.type us.toArray f.offset).run P w' = .ok u w' := run_part_plain w' hp (by simpa using hu)
          have e2 : (part f.type vs.toArray f.offset).run P w' = .ok v w' := run_part_plain w' hp (by simpa using hv)
          simp only [Op.eqFields, hn, ne_eq, not_false_eq_true, if_true, Sem.run_bind, e1, e2, he, Result.andThen_ok]
          cases a
          · rfl
          · simpa using ih
        have hpick : ∀ (x : CV) (l : List CV) (ws : List Value), F2 (CV.Is g w) l ws → nth l f.offset = x → x ≠ .bad → ∃ u, ws[f.offset]? = some u ∧ x.Is g w u := fun x l ws hl hx hne => F2.get hl (nth_some hx hne)
        unfold eqCell at h1
        split at h1
        · rename_i k k1 p k2 q hk hx hy
          split at h1
          · rename_i hkk
            subst hkk
            injection h1 with h1
            obtain ⟨u, hu, rfl⟩ := hpick _ _ _ hc hx (by simp)
            obtain ⟨v, hv, rfl⟩ := hpick _ _ _ hd hy (by simp)
            exact step _ _ hu hv (by rw [run_equalIn_int (P := P) w' d f.type k1 k p q (hT.int hk), ← h1, beq_dec])
          · cases h1
        · rename_i p q hk hx hy
          injection h1 with h1
          obtain ⟨u, hu, rfl⟩ := hpick _ _ _ hc hx (by simp)
          obtain ⟨v, hv, rfl⟩ := hpick _ _ _ hd hy (by simp)
          refine step _ _ hu hv (by rw [run_equalIn_string (P := P) w' d f.type _ _ (hT.str hk), ← h1, ← beq_toListBytes]; exact congrArg (Result.ok · w') (bstr_beq p q))
        · rename_i p q hk hx hy
          injection h1 with h1
          obtain ⟨u, hu, rfl⟩ := hpick _ _ _ hc hx (by simp)
          obtain ⟨v, hv, rfl⟩ := hpick _ _ _ hd hy (by simp)
          exact step _ _ hu hv (by rw [run_equalIn_bool (hT.bool hk) d p q, ← h1, beq_dec])
        · cases h1
theorem eqAggP_sound (hT : TOk P T) {t : Nat} {cs ds : List CV} {K : AV → Prop} {va vb : Value} (ha : (SV.agg cs).Is g w va) (hb : (SV.agg ds).Is g w vb) (neg : Bool) {x y : Operand} (h : eqAggP T neg t cs ds K) :
    RunsTo P g w (do eqGuard (if neg then .neq else .eql) t x y va vb; binOp (if neg then .neq else .eql) t va vb) K := by
  obtain ⟨us, rfl, hc⟩ := ha
  obtain ⟨vs, rfl, hd⟩ := hb
  obtain ⟨he, h⟩ := h
  split at h
  · rename_i fs hk
    have hok : EqOk P t = true := by
      rcases hT t with h0 | ⟨_, _, h0 | h0⟩
      · rw [h0] at he; cases he
      · rw [h0] at he; cases he
      · exact h0
    simp only [EqOk, Bool.and_eq_true, Bool.not_eq_true'] at hok
    obtain ⟨⟨hg, hs⟩, hok⟩ := hok
    obtain ⟨fl, hu, rfl⟩ := hT.st hk
    rw [hu] at hok
    simp only [List.all_eq_true, Bool.and_eq_true, bne_iff_ne] at hok
    have hfo : P.fieldsOf t = fl := by simp [Program.fieldsOf, hu]
    cases hr : eqFs T (fl.toList.map fun f => (f.offset, f.type)) cs ds with
    | none => rw [hr] at h; exact h.elim
    | some r =>
      rw [hr] at h
      have hrun : ∀ w', (Op.equalIn 10000 t (.agg us.toArray) (.agg vs.toArray)).run P w' = .ok r w' := fun w' => by
        rw [run_equalIn_agg (P := P) w' 9999 t _ _ (by rw [hfo]; exact hu) hs, hfo]
        exact eqFields_to hT hc hd 9998 fl.toList r hok hr w'
      refine ⟨.bool (neg != r), _, fun w' => ?_, h, rfl⟩
      simp only [Sem.run_bind, run_eqGuard_agg (P := P) w' _ t x y _ _ hg, Result.andThen_ok]
      cases neg
      · simp [run_eql_struct, hrun]
      · simp [run_neq_struct, hrun]
  · exact h.elim

theorem binP_sound (hT : TOk P T) {op : BinOp} {t : Nat} {a b : AV} {K : AV → Prop} {va vb : Value} (ha : a.Is g w va) (hb : b.Is g w vb) {x y : Operand} (h : binP T op t a b K) :
    RunsTo P g w (do eqGuard op t x y va vb; binOp op t va vb) K := by
  unfold binP at h
  split at h
  · rename_i k p k' q
    split at h
    · rename_i hk
      subst hk
      obtain rfl := ha
      obtain rfl := hb
      have hg : ∀ w, (eqGuard op t x y (.int k p) (.int k q)).run P w = .ok () w := fun _ => eqGuard_cell (.inl (by simp)) (by simp)
      obtain ⟨v, av, hr, hK, hi⟩ := intP_sound (P := P) (g := g) (w := w) (t := t) h
      exact ⟨v, av, fun w' => by simp only [Sem.run_bind, hg, Result.andThen_ok, hr], hK, hi⟩
    · exact h.elim
  · rename_i p q
    obtain rfl := ha
    obtain rfl := hb
    have hg : ∀ w, (eqGuard op t x y (.string (bstr p)) (.string (bstr q))).run P w = .ok () w := fun _ => eqGuard_cell (.inl (by simp)) (by simp)
    obtain ⟨v, av, hr, hK, hi⟩ := strP_sound (P := P) (g := g) (w := w) (t := t) h
    exact ⟨v, av, fun w' => by simp only [Sem.run_bind, hg, Result.andThen_ok, hr], hK, hi⟩
  · split at h
    · exact eqP_sound hT ha hb false h
    · exact eqP_sound hT ha hb true h
    · exact h.elim
  · split at h
    · exact eqAggP_sound hT ha hb false h
    · exact eqAggP_sound hT ha hb true h
    · exact h.elim
  · exact h.elim

theorem unP_sound {op : UnOp} {x : AV} {K : AV → Prop} {v : Value} (hx : x.Is g w v) (h : unP op x K) : RunsTo P g w (Op.unary op v) K := by
  unfold unP at h
  split at h
  · obtain rfl := hx
    exact ⟨_, _, fun w' => by simp only [Op.unary, Sem.run_pure], h, rfl⟩
  · obtain rfl := hx
    exact ⟨_, _, fun w' => by simp only [Op.unary, Op.intArith, Sem.run_pure]; rfl, h, rfl⟩
  · exact h.elim

/-- An operand that may be missing. -/
def OptIs (g : Gh) (w : World) : Option AV → Option Value → Prop
  | some a, some b => a.Is g w b
  | none, none => True
  | _, _ => False

theorem boundP_sound {x : Option AV} {v : Option Value} {dflt n : Nat} {K : Nat → Prop} (hx : OptIs g w x v) (h : boundP x dflt n K) :
    ∃ i, K i ∧ ((v = none ∧ i = dflt) ∨ ∃ b, v = some b ∧ i ≤ n ∧ ∀ (w : World) (m : Nat) code, i ≤ m → (Instr.sliceBound b m code).run P w = .ok i w) := by
  unfold boundP at h
  split at h
  · cases v with
    | none => exact ⟨dflt, h, .inl ⟨rfl, rfl⟩⟩
    | some b => exact hx.elim
  · cases v with
    | none => exact hx.elim
    | some b =>
      rename_i k i
      obtain rfl := (show b = .int k i from hx)
      obtain ⟨h0, hn, hK⟩ := h
      refine ⟨i.toNat, hK, .inr ⟨_, rfl, by omega, fun w m code hm => ?_⟩⟩
      have h1 : 0 ≤ i ∧ i ≤ (m : Int) := by omega
      simp [Instr.sliceBound, asIntOf, h1]
  · exact h.elim

theorem indexAddrP_sound (hT : TOk P T) {t : Nat} {x i : AV} {K : AV → Prop} {v u : Value} (hx : x.Is g w v) (hi : i.Is g w u) (h : indexAddrP T t x i K) : RunsTo P g w (Instr.indexAt t v u) K := by
  unfold indexAddrP at h
  split at h
  · rename_i e n wd k len cap ki i hk
    obtain rfl := (show u = .int ki i from hi)
    obtain ⟨hne, hsz, h0, hl, hK⟩ := h
    have hu := hT.sl hk
    rcases hx with ⟨h1, h2, A, rfl⟩ | ⟨p, hp, hwd, rfl⟩
    · omega
    · have hs := hT.size hne
      simp only [hsz] at hs
      refine ⟨.pointer (some ⟨p.blk, p.off + ((k + i.toNat) * p.wd + 0), none⟩), _, fun w' => ?_, hK, ⟨p, hp, rfl⟩⟩
      have hadd : Addr.add ⟨p.blk, p.off + k * wd, none⟩ (i.toNat * wd) = ⟨p.blk, p.off + ((k + i.toNat) * p.wd + 0), none⟩ := by
        rw [hwd, Nat.add_mul]
        unfold Addr.add
        split
        · rename_i hz; rw [hz]; congr 1
        · show Addr.mk p.blk (p.off + k * wd + i.toNat * wd) none = Addr.mk _ _ _
          congr 1
          omega
      have h1 : 0 ≤ i ∧ i < (len : Int) := ⟨h0, hl⟩
      simp [Instr.indexAt, asIntOf, run_underlying hu, h1, hs, hadd]
  · rename_i e wd n cell ki i hk
    obtain rfl := (show u = .int ki i from hi)
    obtain ⟨hne, hsz, h0, hl, hK⟩ := h
    have hu := hT.sl hk
    have hx2 : (CV.lst wd n cell).Is g w v := hx
    simp only [CV.At] at hx2
    obtain ⟨A, c, rfl, _, hx3⟩ := hx2
    rcases hx3 with h3 | ⟨b, o, rfl, hb, hc⟩
    · omega
    · have hs := hT.size hne
      simp only [hsz] at hs
      refine ⟨.pointer (some ⟨b, o + (i.toNat * wd + 0), none⟩), _, fun w' => ?_, hK, ⟨b, o, rfl, by omega, hb, hc⟩⟩
      have hadd : Addr.add ⟨b, o, none⟩ (i.toNat * wd) = ⟨b, o + (i.toNat * wd + 0), none⟩ := by
        unfold Addr.add
        split
        · rename_i hz; rw [hz]; rfl
        · rfl
      have h1 : 0 ≤ i ∧ i < (n : Int) := ⟨h0, hl⟩
      simp [Instr.indexAt, asIntOf, run_underlying hu, h1, hs, hadd]
  · exact h.elim

theorem bstr_size (l : List UInt8) : (bstr l).size = l.length := by simp [bstr, ByteArray.size]
theorem bstr_get (l : List UInt8) (i : Nat) (h : i < l.length) : (bstr l)[i]? = some (l.getD i 0) := by
  rw [ByteArray.getElem?_lt' _ _ (by rw [bstr_size]; exact h)]
  congr 1
  simp [bstr, List.getD, h]
  rfl

theorem indexP_sound (hT : TOk P T) {t : Nat} {x i : AV} {K : AV → Prop} {v u : Value} (hx : x.Is g w v) (hi : i.Is g w u) (h : indexP T t x i K) : RunsTo P g w (Instr.index t v u) K := by
  unfold indexP at h
  split at h
  · rename_i l ki i hk
    obtain rfl := (show u = .int ki i from hi)
    obtain rfl := (show v = .string (bstr l) from hx)
    obtain ⟨h0, hl, hK⟩ := h
    have hu := hT.str hk
    refine ⟨.int .u8 ((l.getD i.toNat 0).toNat : Int), _, fun w' => ?_, hK, rfl⟩
    have hg := bstr_get l i.toNat (by omega)
    simp [Instr.index, asIntOf, run_underlying hu, h0, hg]
  · exact h.elim
end
end Go.V
end

section
set_option linter.unusedSimpArgs false
set_option linter.unusedVariables false
namespace Go.V
open Go Go.RowKit
section
variable {P : Program} {T : Nat → TI} {g : Gh} {w : World}

theorem OptIs.none_iff {x : Option AV} {v : Option Value} (h : OptIs g w x v) : x = none ↔ v = none := by
  cases x <;> cases v <;> simp [OptIs] at h ⊢

/-- Where a slice expression cuts. -/
theorem bounds_run {isSlice : Bool} {len cap l h m : Nat} {lo hi mx : Option Value}
    (hm : (mx = none ∧ m = cap) ∨ ∃ b, mx = some b ∧ m ≤ cap ∧ ∀ (w : World) (k : Nat) code, m ≤ k → (Instr.sliceBound b k code).run P w = .ok m w)
    (hh : (hi = none ∧ h = len ∧ mx = none) ∨ ∃ b, hi = some b ∧ h ≤ m ∧ ∀ (w : World) (k : Nat) code, h ≤ k → (Instr.sliceBound b k code).run P w = .ok h w)
    (hl : (lo = none ∧ l = 0) ∨ ∃ b, lo = some b ∧ l ≤ h ∧ ∀ (w : World) (k : Nat) code, l ≤ k → (Instr.sliceBound b k code).run P w = .ok l w) :
    (Instr.sliceBounds isSlice len cap lo hi mx).run P w = .ok (l, h, m) w := by
  rcases hm with ⟨rfl, rfl⟩ | ⟨bm, rfl, hm1, hm2⟩ <;> rcases hh with ⟨rfl, rfl, hx⟩ | ⟨bh, rfl, hh1, hh2⟩ <;> rcases hl with ⟨rfl, rfl⟩ | ⟨bl, rfl, hl1, hl2⟩
  all_goals first
    | (cases hx; done)
    | (simp [Instr.sliceBounds]; done)
    | (simp [Instr.sliceBounds, hl2 _ _ _ hl1]; done)
    | (simp [Instr.sliceBounds, hh2 _ _ _ hh1]; done)
    | (simp [Instr.sliceBounds, hh2 _ _ _ hh1, hl2 _ _ _ hl1]; done)
    | (simp [Instr.sliceBounds, hm2 _ _ _ hm1, hh2 _ _ _ hh1]; done)
    | (simp [Instr.sliceBounds, hm2 _ _ _ hm1, hh2 _ _ _ hh1, hl2 _ _ _ hl1]; done)

theorem bstr_extract (l : List UInt8) (a b : Nat) : (bstr l).extract a b = bstr ((l.drop a).take (b - a)) := ByteArray.extract_mk l a b

theorem sliceP_sound (hT : TOk P T) {t : Nat} {x : AV} {lo hi mx : Option AV} {K : AV → Prop} {v : Value} {vlo vhi vmx : Option Value} (hx : x.Is g w v) (hlo : OptIs g w lo vlo) (hhi : OptIs g w hi vhi) (hmx : OptIs g w mx vmx)
    (h : sliceP T t x lo hi mx K) : RunsTo P g w (Instr.sliceAt t v vlo vhi vmx) K := by
  unfold sliceP at h
  split at h
  · rename_i l hk
    obtain rfl := (show v = .string (bstr l) from hx)
    obtain ⟨rfl, h⟩ := h
    have hmn : vmx = none := hmx.none_iff.1 rfl
    subst hmn
    have hu := hT.str hk
    obtain ⟨j2, h2, c2⟩ := boundP_sound (P := P) hhi h
    obtain ⟨j1, h1, c1⟩ := boundP_sound (P := P) hlo h2
    refine ⟨.string (bstr ((l.drop j1).take (j2 - j1))), _, fun w' => ?_, h1, rfl⟩
    have hb := fun w' => bounds_run (P := P) (w := w') (isSlice := false) (len := (bstr l).size) (cap := (bstr l).size) (m := (bstr l).size) (mx := none) (hi := vhi) (lo := vlo) (h := j2) (l := j1) (.inl ⟨rfl, rfl⟩)
      (by rw [bstr_size]; rcases c2 with ⟨e1, e2⟩ | ⟨b, e1, e2, e3⟩
          · exact .inl ⟨e1, e2, rfl⟩
          · exact .inr ⟨b, e1, e2, e3⟩) c1
    simp only [Instr.sliceAt, Instr.slice, Sem.run_bind, run_underlying hu, Result.andThen_ok, Option.isSome_none, Bool.false_eq_true, if_false, hb, Sem.run_pure, bstr_extract]
  · rename_i e n wd k len cap hk
    obtain ⟨hne, hsz, hle, hsome, h⟩ := h
    have hu := hT.sl hk
    have hs := hT.size hne
    obtain ⟨j3, h3, c3⟩ := boundP_sound (P := P) hmx h
    obtain ⟨j2, h2, c2⟩ := boundP_sound (P := P) hhi h3
    obtain ⟨j1, h1, c1⟩ := boundP_sound (P := P) hlo h2
    have hj3 : j3 ≤ cap := by rcases c3 with ⟨_, rfl⟩ | ⟨_, _, h, _⟩ <;> omega
    have hj2 : j2 ≤ len ∧ j2 ≤ j3 := by
      rcases c2 with ⟨e1, rfl⟩ | ⟨_, _, h, _⟩
      · have hi0 := hhi.none_iff.2 e1
        subst hi0
        have : mx = none := by simpa using hsome
        have := hmx.none_iff.1 this
        rcases c3 with ⟨_, rfl⟩ | ⟨b, e3, _⟩
        · omega
        · rw [this] at e3; cases e3
      · omega
    have hb : ∀ (a : Option Addr) (w : World), (Instr.sliceBounds true len cap vlo vhi vmx).run P w = .ok (j1, j2, j3) w := fun _ _ => bounds_run c3
      (by rcases c2 with ⟨e1, e2⟩ | ⟨b, e1, e2, e3⟩
          · refine .inl ⟨e1, e2, ?_⟩
            have hi0 := hhi.none_iff.2 e1
            subst hi0
            exact hmx.none_iff.1 (by simpa using hsome)
          · exact .inr ⟨b, e1, by omega, e3⟩) c1
    have hj1 : j1 ≤ j2 := by rcases c1 with ⟨_, rfl⟩ | ⟨_, _, h, _⟩ <;> omega
    rcases hx with ⟨z1, z2, A, rfl⟩ | ⟨p, hp, hwd, rfl⟩
    · subst z1; subst z2
      obtain rfl : j3 = 0 := by omega
      obtain rfl : j2 = 0 := by omega
      obtain rfl : j1 = 0 := by omega
      refine ⟨.slice A 0 0, _, fun w' => ?_, h1, .inl ⟨rfl, rfl, A, rfl⟩⟩
      simp [Instr.sliceAt, Instr.slice, run_underlying hu, hb none, hs]
    · by_cases hc : cap = 0
      · subst hc
        obtain rfl : j3 = 0 := by omega
        obtain rfl : j2 = 0 := by omega
        obtain rfl : j1 = 0 := by omega
        obtain rfl : len = 0 := by omega
        refine ⟨.slice (some ⟨p.blk, p.off + k * wd, none⟩) 0 0, _, fun w' => ?_, h1, .inl ⟨rfl, rfl, _, rfl⟩⟩
        simp [Instr.sliceAt, Instr.slice, run_underlying hu, hb none, hs]
      · have hsw : (T e).size = wd := hsz.resolve_right hc
        simp only [hsw] at hs
        by_cases hmj : j3 = j1
        · subst hmj
          obtain rfl : j2 = j3 := by omega
          refine ⟨.slice (some ⟨p.blk, p.off + k * wd, none⟩) 0 0, _, fun w' => ?_, h1, .inl ⟨by omega, by omega, _, rfl⟩⟩
          simp [Instr.sliceAt, Instr.slice, run_underlying hu, hb none, hs]
        · refine ⟨.slice (some ⟨p.blk, p.off + (k + j1) * wd, none⟩) (j2 - j1) (j3 - j1), _, fun w' => ?_, h1, .inr ⟨p, hp, hwd, rfl⟩⟩
          have hadd : Addr.add ⟨p.blk, p.off + k * wd, none⟩ (j1 * wd) = ⟨p.blk, p.off + (k + j1) * wd, none⟩ := by
            rw [Nat.add_mul]
            unfold Addr.add
            split
            · rename_i hz; rw [hz]; rfl
            · show Addr.mk p.blk (p.off + k * wd + j1 * wd) none = Addr.mk _ _ _
              congr 1
              omega
          simp [Instr.sliceAt, Instr.slice, run_underlying hu, hb none, hs, hmj, hadd]
  · rename_i e wd n cell hk
    obtain ⟨hne, hsw, rfl, h⟩ := h
    have hmn : vmx = none := hmx.none_iff.1 rfl
    subst hmn
    have hu := hT.sl hk
    have hs := hT.size hne
    simp only [hsw] at hs
    obtain ⟨j2, h2, c2⟩ := boundP_sound (P := P) hhi h
    obtain ⟨j1, h1, c1⟩ := boundP_sound (P := P) hlo h2
    have hj2 : j2 ≤ n := by rcases c2 with ⟨_, rfl⟩ | ⟨_, _, h, _⟩ <;> omega
    have hj1 : j1 ≤ j2 := by rcases c1 with ⟨_, rfl⟩ | ⟨_, _, h, _⟩ <;> omega
    have hx2 : (CV.lst wd n cell).Is g w v := hx
    simp only [CV.At] at hx2
    obtain ⟨A, c, rfl, hnc, hx3⟩ := hx2
    have hb : ∀ w, (Instr.sliceBounds true n c vlo vhi none).run P w = .ok (j1, j2, c) w := fun _ => bounds_run (.inl ⟨rfl, rfl⟩)
      (by rcases c2 with ⟨e1, e2⟩ | ⟨b, e1, e2, e3⟩
          · exact .inl ⟨e1, e2, rfl⟩
          · exact .inr ⟨b, e1, by omega, e3⟩) c1
    refine ⟨.slice (if c = j1 then A else A.map (·.add (j1 * wd))) (j2 - j1) (c - j1), _, fun w' => ?_, h1, ?_⟩
    · simp [Instr.sliceAt, Instr.slice, run_underlying hu, hb, hs]
    · show (CV.lst wd (j2 - j1) (subCell j1 (j2 - j1) cell)).Is g w _
      simp only [CV.At]
      refine ⟨_, _, rfl, by omega, ?_⟩
      by_cases hz : j2 - j1 = 0
      · exact .inl hz
      · rcases hx3 with h3 | ⟨b, o, rfl, hb, hc⟩
        · omega
        · refine .inr ⟨b, o + j1 * wd, ?_, hb, fun k hk f hf => ?_⟩
          · rw [if_neg (by omega)]
            simp only [Option.map_some]
            unfold Addr.add
            split
            · rename_i hz; rw [hz]; rfl
            · rfl
          · obtain ⟨u, hu, hi⟩ := hc (j1 + k) (by omega) f hf
            refine ⟨u, ?_, by rw [show subCell j1 (j2 - j1) cell k f = cell (j1 + k) f from if_pos hk]; exact hi⟩
            rw [← hu]
            congr 2
            rw [Nat.add_mul]; omega
  · rename_i e e' wd hk
    obtain ⟨hne, rfl, h⟩ := h
    have hmn : vmx = none := hmx.none_iff.1 rfl
    subst hmn
    have hu := hT.sl hk
    have hs := hT.size hne
    obtain ⟨j2, h2, c2⟩ := boundP_sound (P := P) hhi h
    obtain ⟨j1, h1, c1⟩ := boundP_sound (P := P) hlo h2
    obtain rfl : j2 = 0 := by rcases c2 with ⟨_, rfl⟩ | ⟨_, _, h, _⟩ <;> omega
    obtain rfl : j1 = 0 := by rcases c1 with ⟨_, rfl⟩ | ⟨_, _, h, _⟩ <;> omega
    obtain ⟨A, rfl⟩ := hx
    have hb : ∀ w, (Instr.sliceBounds true 0 0 vlo vhi none).run P w = .ok (0, 0, 0) w := fun _ => bounds_run (.inl ⟨rfl, rfl⟩)
      (by rcases c2 with ⟨e1, e2⟩ | ⟨b, e1, e2, e3⟩
          · exact .inl ⟨e1, rfl, rfl⟩
          · exact .inr ⟨b, e1, by omega, e3⟩) c1
    refine ⟨.slice A 0 0, _, fun w' => ?_, h1, A, rfl⟩
    simp [Instr.sliceAt, Instr.slice, run_underlying hu, hb, hs]
  · exact h.elim

theorem getElem?_field {fs : Array Field} {l : List (Nat × Nat)} (h : fs.toList.map (fun f => (f.offset, f.type)) = l) {i off ft : Nat} (hi : l[i]? = some (off, ft)) : ∃ f, fs[i]? = some f ∧ f.offset = off ∧ f.type = ft := by
  subst h
  rw [List.getElem?_map] at hi
  cases hf : fs.toList[i]? with
  | none => rw [hf] at hi; cases hi
  | some f =>
    rw [hf] at hi
    simp only [Option.map_some, Option.some.injEq, Prod.mk.injEq] at hi
    exact ⟨f, by rw [← Array.getElem?_toList]; exact hf, hi.1, hi.2⟩

theorem Addr.add_off (b o n : Nat) : Addr.add ⟨b, o, none⟩ n = ⟨b, o + n, none⟩ := by
  unfold Addr.add
  split
  · rename_i h; rw [h]; rfl
  · rfl

theorem fieldAddrP_sound (hT : TOk P T) {s f : Nat} {x : AV} {K : AV → Prop} {v : Value} (hx : x.Is g w v) (h : fieldAddrP T s x f K) : RunsTo P g w (Instr.fieldAt s v f) K := by
  unfold fieldAddrP at h
  split at h
  · rename_i l hk
    split at h
    · rename_i off ft hf
      obtain ⟨hne, hz, h⟩ := h
      obtain ⟨fs, hu, hfs⟩ := hT.st hk
      obtain ⟨fd, hfd, ho, ht⟩ := getElem?_field hfs hf
      have hs := hT.size hne
      have hplace : ∀ (b o : Nat) (w : World), (Instr.fieldAt s (.pointer (some ⟨b, o, none⟩)) f).run P w = .ok (.pointer (some ⟨b, o + off, none⟩)) w := fun b o w => by
        simp [Instr.fieldAt, run_underlying hu, hfd, Instr.sureAddr, fieldPlace, ho, ht, hs, hz, Addr.add_off]
      split at h
      · rename_i n k j
        obtain ⟨p, hp, rfl⟩ := hx
        exact ⟨_, _, hplace _ _, h, ⟨p, hp, by rw [Nat.add_assoc, Nat.add_assoc]⟩⟩
      · rename_i wd n cell k j
        obtain ⟨b, o, rfl, hx⟩ := hx
        exact ⟨_, _, hplace _ _, h, ⟨b, o, by rw [Nat.add_assoc, Nat.add_assoc], hx⟩⟩
      · exact h.elim
    · exact h.elim
  · exact h.elim

theorem F2.drop {α β : Type} {R : α → β → Prop} : ∀ {l : List α} {m : List β} (n : Nat), F2 R l m → F2 R (l.drop n) (m.drop n)
  | [], [], _, _ => by simp [F2]
  | _ :: _, _ :: _, 0, h => h
  | _ :: _, _ :: _, n + 1, h => F2.drop n h.2
theorem F2.take {α β : Type} {R : α → β → Prop} : ∀ {l : List α} {m : List β} (n : Nat), F2 R l m → F2 R (l.take n) (m.take n)
  | [], [], _, _ => by simp [F2]
  | _ :: _, _ :: _, 0, _ => trivial
  | _ :: _, _ :: _, n + 1, h => ⟨h.1, F2.take n h.2⟩

theorem fieldP_sound (hT : TOk P T) {s f : Nat} {x : AV} {K : AV → Prop} {v : Value} (hx : x.Is g w v) (h : fieldP T s x f K) : RunsTo P g w (Instr.field s v f) K := by
  unfold fieldP at h
  split at h
  · rename_i l cs hk
    obtain ⟨us, rfl, hc⟩ := hx
    split at h
    · rename_i off ft hf
      obtain ⟨hne, h⟩ := h
      obtain ⟨fs, hu, hfs⟩ := hT.st hk
      obtain ⟨fd, hfd, ho, ht⟩ := getElem?_field hfs hf
      have hs := hT.size hne
      have ha := hT.agg hne
      split at h
      · rename_i hag
        simp only [hag] at ha
        refine ⟨.agg ((us.drop off).take (T ft).size).toArray, _, fun w' => ?_, h, ⟨_, rfl, F2.take _ (F2.drop _ hc)⟩⟩
        simp [Instr.field, run_underlying hu, hfd, asAgg, part, ht, ho, ha, hs]
      · rename_i hag
        simp only [eq_false_of_ne_true hag] at ha
        obtain ⟨hl, h⟩ := h
        obtain ⟨u, hu1, hi⟩ := F2.get hc (List.getElem?_eq_getElem hl)
        refine ⟨u, _, fun w' => ?_, h, ?_⟩
        · simp [Instr.field, run_underlying hu, hfd, asAgg, part, ht, ho, ha, hu1]
        · rw [nth_eq, List.getElem?_eq_getElem hl]; exact hi
    · exact h.elim
  · exact h.elim

theorem extractP_sound {x : AV} {i : Nat} {K : AV → Prop} {v : Value} (hx : x.Is g w v) (h : extractP x i K) : RunsTo P g w (Instr.extract v i) K := by
  unfold extractP at h
  split at h
  · rename_i vs
    obtain ⟨us, rfl, hc⟩ := hx
    obtain ⟨hl, h⟩ := h
    obtain ⟨u, hu1, hi⟩ := F2.get hc (List.getElem?_eq_getElem hl)
    refine ⟨u, _, fun w' => ?_, h, ?_⟩
    · simp [Instr.extract, hu1]
    · rw [nth_eq, List.getElem?_eq_getElem hl]; exact hi
  · exact h.elim

theorem capsOf_is : ∀ {l : List AV} {us : List Value} {ns : List Nat}, F2 (AV.Is g w) l us → capsOf l = some ns → F2 (fun n c => ∃ p, g.ρ n = some p ∧ c = .pointer (some ⟨p.blk, p.off, none⟩)) ns us
  | [], [], ns, _, h => by simp [capsOf] at h; subst h; trivial
  | a :: l, u :: us, ns, hl, h => by
    unfold capsOf at h
    split at h
    · rename_i heq; cases heq
    · rename_i n r heq
      simp only [List.cons.injEq] at heq
      obtain ⟨rfl, rfl⟩ := heq
      split at h
      · rename_i r hr
        simp only [Option.some.injEq] at h
        subst h
        obtain ⟨p, hp, hv⟩ := hl.1
        exact ⟨⟨p, hp, by simpa using hv⟩, capsOf_is hl.2 hr⟩
      · cases h
    · cases h

theorem makeFuncP_sound {fn : Fn} {first captured : List AV} {K : AV → Prop} {uf uc : List Value} (hf : F2 (AV.Is g w) first uf) (hc : F2 (AV.Is g w) captured uc) (h : makeFuncP fn first captured K) :
    RunsTo P g w (Instr.makeFunc fn uf.toArray uc.toArray) K := by
  unfold makeFuncP at h
  split at h
  · rename_i q caps hcap
    have : uf = [] := by cases uf <;> first | rfl | exact hf.elim
    subst this
    exact ⟨_, _, fun _ => rfl, h, ⟨uc, rfl, capsOf_is hc hcap⟩⟩
  · exact h.elim

theorem nilCheckP_sound {x : AV} {K : AV → Prop} {v : Value} (hx : x.Is g w v) (h : nilCheckP x K) : K x ∧ ∀ ρ : Operand → Value, ∀ y o, ρ y = v → o.op = .nilCheck y → ∀ w', (execOp ρ o).run P w' = .ok (.value v) w' := by
  unfold nilCheckP at h
  split at h
  · obtain ⟨p, hp, rfl⟩ := hx
    exact ⟨h, fun ρ y o hy ho w' => by simp [execOp, ho, hy]⟩
  · obtain ⟨b, o, rfl, _⟩ := hx
    exact ⟨h, fun ρ y o hy ho w' => by simp [execOp, ho, hy]⟩
  · obtain ⟨cs, rfl, _⟩ := hx
    exact ⟨h, fun ρ y o hy ho w' => by simp [execOp, ho, hy]⟩
  · exact h.elim

theorem lenP_sound (hT : TOk P T) {t : Nat} {x : AV} {K : AV → Prop} {v : Value} (hx : x.Is g w v) (h : lenP T t x K) {ts : Array TypeId} {xs : Array Value} {ty : TypeId} (ht : ts[0]? = some t) (hxs : xs[0]? = some v) : RunsTo P g w (Builtin.len_ ts ty xs) K := by
  unfold lenP at h
  split at h
  · rename_i l hk
    obtain rfl := (show v = .string (bstr l) from hx)
    have hu := hT.str hk
    exact ⟨_, _, fun w' => by simp [Builtin.len_, ht, hxs, run_underlying hu, goInt, bstr_size], h, rfl⟩
  · rename_i e n wd k len cap hk
    have hu := hT.sl hk
    rcases hx with ⟨rfl, rfl, A, rfl⟩ | ⟨p, hp, hwd, rfl⟩
    · exact ⟨_, _, fun w' => by simp [Builtin.len_, ht, hxs, run_underlying hu, goInt], h, rfl⟩
    · exact ⟨_, _, fun w' => by simp [Builtin.len_, ht, hxs, run_underlying hu, goInt], h, rfl⟩
  · rename_i e wd n cell hk
    have hu := hT.sl hk
    have hx2 : (CV.lst wd n cell).Is g w v := hx
    simp only [CV.At] at hx2
    obtain ⟨A, c, rfl, _⟩ := hx2
    exact ⟨_, _, fun w' => by simp [Builtin.len_, ht, hxs, run_underlying hu, goInt], h, rfl⟩
  · rename_i e e' wd hk
    have hu := hT.sl hk
    obtain ⟨A, rfl⟩ := hx
    exact ⟨_, _, fun w' => by simp [Builtin.len_, ht, hxs, run_underlying hu, goInt], h, rfl⟩
  · exact h.elim

theorem oneCell_cells {v : Value} (h : v.oneCell' = true) : v.cells = #[v] := by cases v <;> first | rfl | simp [Value.oneCell'] at h

theorem CV.At.one {l : Option (Nat × List Nat)} : ∀ {x : CV} {v : Value}, x.ok = true → x.At g w l v → v.oneCell' = true
  | .int .., _, _, h => by simp only [CV.At] at h; subst h; rfl
  | .bool .., _, _, h => by simp only [CV.At] at h; subst h; rfl
  | .str .., _, _, h => by simp only [CV.At] at h; subst h; rfl
  | .raw .., _, _, h => by simp only [CV.At] at h; obtain ⟨rfl, h⟩ := h; exact h
  | .lst .., _, _, h => by simp only [CV.At] at h; obtain ⟨A, c, rfl, _⟩ := h; rfl
  | .own .., _, _, h => by
    cases l with
    | none => simp [CV.At] at h
    | some m =>
      obtain ⟨m, p⟩ := m
      simp only [CV.At] at h
      rcases h with ⟨_, A, rfl⟩ | ⟨b, o, c, cs, fz, rfl, _⟩ <;> rfl
  | .ptr .., _, _, h => by simp only [CV.At] at h; obtain ⟨p, _, rfl⟩ := h; rfl
  | .sl .., _, _, h => by simp only [CV.At] at h; rcases h with ⟨_, _, A, rfl⟩ | ⟨p, _, _, rfl⟩ <;> rfl
  | .nil .., _, _, h => by simp only [CV.At] at h; obtain ⟨A, rfl⟩ := h; rfl
  | .dptr .., _, _, h => by simp only [CV.At] at h; obtain ⟨b, o, rfl, _⟩ := h; rfl
  | .fn .., _, _, h => by simp only [CV.At] at h; obtain ⟨cs, rfl, _⟩ := h; rfl
  | .bad, _, ho, _ => by simp [CV.ok] at ho
theorem CV.Is.one {x : CV} {v : Value} (hx : x.ok = true) (h : x.Is g w v) : v.oneCell' = true := CV.At.one hx h

theorem typed_is {T : Nat → TI} {t : Nat} {x : CV} {v : Value} (h : x.Is g w v) : (typed T t x).Is g w v := by
  unfold typed
  split
  · exact h
  · exact h
theorem typedA_is {T : Nat → TI} {t : Nat} {x : AV} {v : Value} (h : x.Is g w v) : (typedA T t x).Is g w v := by
  unfold typedA
  split
  · exact typed_is h
  · exact h
theorem typedF_is {T : Nat → TI} {fs : List (Nat × Nat)} {i : Nat} {x : AV} {v : Value} (h : x.Is g w v) : (typedF T fs i x).Is g w v := by
  unfold typedF
  split
  · exact typedA_is h
  · exact h
theorem typed_parts {T : Nat → TI} {fs : List (Nat × Nat)} : ∀ {parts : List (Nat × AV)} {vs : List (Nat × Value)}, F2 (fun (a : Nat × AV) (b : Nat × Value) => a.1 = b.1 ∧ a.2.Is g w b.2) parts vs →
    F2 (fun (a : Nat × AV) (b : Nat × Value) => a.1 = b.1 ∧ a.2.Is g w b.2) (parts.map fun p => (p.1, typedF T fs p.1 p.2)) vs
  | [], [], _ => trivial
  | _ :: _, _ :: _, h => ⟨⟨h.1.1, typedF_is h.1.2⟩, typed_parts h.2⟩

theorem SV.cells_is {x : SV} {xs : List CV} {v : Value} (hx : x.cells = some xs) (h : x.Is g w v) : F2 (CV.Is g w) xs v.cells.toList := by
  cases x with
  | c x =>
    have hok : x.ok = true ∧ xs = [x] := by
      cases x <;> simp [SV.cells] at hx <;> simp [CV.ok, hx]
    have h1 := CV.Is.one hok.1 h
    rw [oneCell_cells h1, hok.2]
    exact ⟨h, trivial⟩
  | agg cs =>
    simp only [SV.cells, Option.some.injEq] at hx
    subst hx
    obtain ⟨us, rfl, hc⟩ := h
    simpa [Value.cells] using hc

theorem foldl_setAt {R : CV → Value → Prop} (off : Nat) : ∀ (l : List Value) (k : Nat) (cells : Array Value) (cs : List CV) (xs : List CV), F2 R xs l → F2 R cs cells.toList →
    F2 R (setAt cs (off + k) xs) ((l.zipIdx k).foldl (fun (cs : Array Value) (p : Value × Nat) => cs.setIfInBounds (off + p.2) p.1) cells).toList
  | [], k, cells, cs, [], _, h => by simpa [setAt] using h
  | u :: l, k, cells, cs, x :: xs, hx, h => by
    simp only [List.zipIdx_cons, List.foldl_cons, setAt, setn_eq]
    have := foldl_setAt off l (k + 1) (cells.setIfInBounds (off + k) u) (cs.set (off + k) x) xs hx.2 (by rw [Array.toList_setIfInBounds]; exact F2.set h hx.1)
    rw [show off + k + 1 = off + (k + 1) by omega]
    exact this

theorem fillP_sound {place : Nat → Option (Nat × Nat)} : ∀ {parts : List (Nat × AV)} {vs : List (Nat × Value)} {cs : List CV} {cells : Array Value} {K : List CV → Prop},
    F2 (fun (a : Nat × AV) (b : Nat × Value) => a.1 = b.1 ∧ a.2.Is g w b.2) parts vs → F2 (CV.Is g w) cs cells.toList → fillP place cs parts K →
    ∃ cells' cs', Instr.fill place cells vs = some cells' ∧ K cs' ∧ F2 (CV.Is g w) cs' cells'.toList
  | [], [], cs, cells, K, _, hc, h => ⟨cells, cs, rfl, h, hc⟩
  | (i, .s x) :: parts, (i', v) :: vs, cs, cells, K, hp, hc, h => by
    obtain ⟨⟨hi, hx⟩, hp⟩ := hp
    simp only at hi hx
    subst hi
    unfold fillP at h
    split at h
    · rename_i off size xs hpl hxs
      obtain ⟨hl, hle, h⟩ := h
      have hcx := SV.cells_is hxs hx
      have hlen : xs.length = v.cells.size := by rw [hcx.length]; simp
      have hcl : cs.length = cells.size := by rw [hc.length]; simp
      unfold Instr.fill
      rw [hpl]
      have hcond : (v.cells.size ≠ size || off + v.cells.size > cells.size) = false := by
        simp; omega
      simp only [hcond, Bool.false_eq_true, if_false]
      have hf := foldl_setAt (R := CV.Is g w) off v.cells.toList 0 cells cs xs hcx hc
      have he : (v.cells.zipIdx.foldl (fun (cs : Array Value) (p : Value × Nat) => cs.setIfInBounds (off + p.2) p.1) cells) = ((v.cells.toList.zipIdx 0).foldl (fun (cs : Array Value) (p : Value × Nat) => cs.setIfInBounds (off + p.2) p.1) cells) := by
        rw [← Array.foldl_toList, Array.toList_zipIdx]
      rw [← he] at hf
      exact fillP_sound hp hf h
    · exact h.elim
  | (i, .tup x) :: parts, _ :: _, cs, cells, K, _, _, h => by simp [fillP] at h

theorem zero_run (hT : TOk P T) {t : Nat} (hk : (T t).kind ≠ .other) (hz : (T t).zero ≠ []) : ∃ z : Value, (∀ w, (zeroValue t).run P w = .ok z w) ∧ z.cells.toList = (T t).zero := by
  obtain ⟨i, hi, _, _, hzero⟩ := hT.info hk
  cases h : i.zero with
  | none => rw [h] at hzero; exact absurd hzero.symm hz
  | some z =>
    rw [h] at hzero
    exact ⟨z, fun w => by simp [zeroValue, typeInfo, hi, h], by simpa using hzero⟩

theorem za_ne {zs : List Value} {cs : List CV} (h : zOk zs cs = true) (hc : cs ≠ []) : zs ≠ [] := by
  cases zs with
  | nil => cases cs with
    | nil => exact absurd rfl hc
    | cons c cs => simp [zOk] at h
  | cons z zs => simp
theorem mapM_sizes (hT : TOk P T) : ∀ (fs : List Field) (_ : ∀ f ∈ fs, (T f.type).kind ≠ .other) (w : World),
    (fs.mapM fun f => (do pure (f.offset, ← sizeOf f.type) : Sem (Nat × Nat))).run P w = .ok (fs.map fun f => (f.offset, (T f.type).size)) w
  | [], _, w => rfl
  | f :: fs, h, w => by
    have h1 := hT.size (h f (by simp)) w
    have h2 := mapM_sizes hT fs (fun f' hf => h f' (by simp [hf])) w
    simp only [List.mapM_cons, Sem.run_bind, h1, Result.andThen_ok, Sem.run_pure, h2, List.map_cons]

theorem buildP_sound (hT : TOk P T) {t : Nat} {parts : List (Nat × AV)} {vs : List (Nat × Value)} {K : AV → Prop}
    (hp : F2 (fun (a : Nat × AV) (b : Nat × Value) => a.1 = b.1 ∧ a.2.Is g w b.2) parts vs) (h : buildP T t parts K) : RunsTo P g w (Instr.build t vs.toArray) K := by
  unfold buildP at h
  split at h
  · rename_i l hk
    obtain ⟨hf, hz, h⟩ := h
    obtain ⟨fs, hu, hfs⟩ := hT.st hk
    obtain ⟨z, hzr, hzc⟩ := zero_run (P := P) hT (by rw [hk]; simp) (za_ne (hT.za (by rw [hk]; simp)) hz)
    have hc0 : F2 (CV.Is g w) (T t).za z.cells.toList := by rw [hzc]; exact zOk_is g w (hT.za (by rw [hk]; simp))
    obtain ⟨cells', cs', hfill, hK, hc⟩ := fillP_sound (typed_parts hp) hc0 h
    refine ⟨.agg cells', _, fun w' => ?_, hK, ⟨cells'.toList, by simp, hc⟩⟩
    have hm := mapM_sizes hT fs.toList (fun f hf' => by
      have := hf (f.offset, f.type) (by rw [← hfs]; exact List.mem_map_of_mem hf')
      exact this)
    have hplace : (fun (i : Nat) => ((fs.toList.map fun f => (f.offset, (T f.type).size)).toArray)[i]?) = (fun (i : Nat) => (l[i]?).map fun (f : Nat × Nat) => (f.1, (T f.2).size)) := by
      funext i
      rw [← hfs]
      simp [Function.comp_def]
    have hm' : ∀ w, (fs.mapM fun f => (do pure (f.offset, ← sizeOf f.type) : Sem (Nat × Nat))).run P w = .ok (fs.toList.map fun f => (f.offset, (T f.type).size)).toArray w := by
      intro w
      rw [Array.mapM_eq_mapM_toList]
      simp only [Sem.run_map, hm, Result.andThen_ok]
    simp only [Instr.build, Sem.run_bind, hzr, Result.andThen_ok, run_underlying hu, hm', hplace, hfill, Sem.run_pure]
  · rename_i n e hk
    obtain ⟨hne, hz, h⟩ := h
    have hu := hT.arr hk
    have hs := hT.size hne
    obtain ⟨z, hzr, hzc⟩ := zero_run (P := P) hT (by rw [hk]; simp) (za_ne (hT.za (by rw [hk]; simp)) hz)
    have hc0 : F2 (CV.Is g w) (T t).za z.cells.toList := by rw [hzc]; exact zOk_is g w (hT.za (by rw [hk]; simp))
    obtain ⟨cells', cs', hfill, hK, hc⟩ := fillP_sound hp hc0 h
    refine ⟨.agg cells', _, fun w' => ?_, hK, ⟨cells'.toList, by simp, hc⟩⟩
    simp only [Instr.build, Sem.run_bind, hzr, Result.andThen_ok, run_underlying hu, hs, hfill, Sem.run_pure]
  · exact h.elim

theorem builtinP_sound (hT : TOk P T) {b : Builtin} {ts : Array TypeId} {ty : TypeId} {cons : Array Bool} {xs : List AV} {vs : List Value} {K : AV → Prop} (hx : F2 (AV.Is g w) xs vs) (h : builtinP T b ts.toList xs K) :
    ∃ v av, (∀ w', (builtin b ts ty cons vs.toArray).run P w' = .ok (.value v) w') ∧ K av ∧ av.Is g w v := by
  unfold builtinP at h
  split at h
  · rename_i t ts' x xs' hts
    cases vs with
    | nil => exact hx.elim
    | cons u us =>
      obtain ⟨v, av, hr, hK, hi⟩ := lenP_sound (P := P) hT hx.1 h (ts := ts) (xs := (u :: us).toArray) (ty := ty) (by rw [← Array.getElem?_toList, hts]; rfl) (by simp)
      exact ⟨v, av, fun w' => by simp only [builtin, Sem.run_bind, hr, Result.andThen_ok, Sem.run_pure], hK, hi⟩
  · rename_i x y
    match vs, hx with
    | [u, u'], hx =>
      unfold minmaxP at h
      split at h
      · have h1 := hx.1
        have h2 := hx.2.1
        simp only [AV.Is, SV.Is, CV.Is, CV.At] at h1 h2
        subst h1; subst h2
        exact ⟨_, _, fun w' => by simp [builtin, Builtin.min_, Builtin.min2]; rfl, h, by simp only [Bool.false_eq_true, if_false]; rfl⟩
      · exact h.elim
  · rename_i x y
    match vs, hx with
    | [u, u'], hx =>
      unfold minmaxP at h
      split at h
      · have h1 := hx.1
        have h2 := hx.2.1
        simp only [AV.Is, SV.Is, CV.Is, CV.At] at h1 h2
        subst h1; subst h2
        exact ⟨_, _, fun w' => by simp [builtin, Builtin.max_, Builtin.max2]; rfl, h, by simp only [if_true]; rfl⟩
      · exact h.elim
  · exact h.elim
end
end Go.V
end

section
set_option linter.unusedSimpArgs false
set_option linter.unusedVariables false
namespace Go.V
open Go Go.RowKit

def cellsFrom (cell : Nat → Nat → CV) (k : Nat) : Nat → Nat → List CV
  | _, 0 => []
  | j, s + 1 => cell k j :: cellsFrom cell k (j + 1) s
def sharedFrom (cell : Nat → Nat → CV) (k : Nat) : Nat → Nat → Prop
  | _, 0 => True
  | j, s + 1 => (cell k j).shared ∧ sharedFrom cell k (j + 1) s
def updCell (cell : Nat → Nat → CV) (k j : Nat) (ds : List CV) : Nat → Nat → CV := fun k' f => if k' = k then (if j ≤ f ∧ f < j + ds.length then ds.getD (f - j) (.bool false) else cell k' f) else cell k' f
def okAll : List CV → Bool
  | [] => true
  | c :: l => c.ok && okAll l
def anyOwn : List CV → Bool
  | [] => false
  | .own .. :: _ => true
  | _ :: l => anyOwn l
/-- A load. Of what a place owns alone a single load makes a row of its own; a load of a whole struct freezes it. -/
def loadP (T : Nat → TI) (t : Nat) (x : AV) (H : List Ent) (K : AV → List Ent → Prop) : Prop :=
  (T t).kind ≠ .other ∧ match x with
  | .s (.c (.ptr n k j)) => match nth H n with
    | .row ty wd len cap cell => k < len ∧ if (T t).kind.isAgg then j + (T t).size ≤ wd ∧ sharedFrom cell k j (T t).size ∧ K (.s (.agg (cellsFrom cell k j (T t).size))) H
        else j < wd ∧ match cell k j with
          | .own e wd' m cl => ∀ c, m ≤ c → K (.c (.sl H.length wd' 0 m c)) (setn H n (.row ty wd len cap (updCell cell k j [.sl H.length wd' 0 m c])) ++ [.row e wd' m c cl])
          | y => K (.c y) H
    | .box ty cells => k = 0 ∧ if (T t).kind.isAgg then j + (T t).size ≤ cells.length ∧ (match anyOwn ((cells.drop j).take (T t).size) with
          | true => K (.s (.agg (((cells.drop j).take (T t).size).map CV.frz))) (setn H n (.box ty (setAt cells j (((cells.drop j).take (T t).size).map CV.frz))))
          | false => K (.s (.agg ((cells.drop j).take (T t).size))) H)
        else j < cells.length ∧ match nth cells j with
          | .own e wd' m cl => ∀ c, m ≤ c → K (.c (.sl H.length wd' 0 m c)) (setn H n (.box ty (setn cells j (.sl H.length wd' 0 m c))) ++ [.row e wd' m c cl])
          | y => K (.c y) H
    | .dead => False
  | .s (.c (.dptr wd n cell k j)) => if (T t).kind.isAgg then j + (T t).size ≤ wd ∧ K (.s (.agg (cellsFrom cell k j (T t).size))) H
        else j < wd ∧ K (.c (cell k j)) H
  | _ => False

def typedS (T : Nat → TI) (t : Nat) (x : SV) : SV :=
  match x with
  | .c x => .c (typed T t x)
  | x => x
def storeP (T : Nat → TI) (t : Nat) (x v : AV) (H : List Ent) (K : List Ent → Prop) : Prop :=
  (T t).kind ≠ .other ∧ match x, v with
  | .s (.c (.ptr n k j)), .s y => match (typedS T t y).cells with
    | some cs => cs.length = (T t).size ∧ okAll cs = true ∧ match nth H n with
      | .row ty wd len cap cell => k < len ∧ j + cs.length ≤ wd ∧ K (setn H n (.row ty wd len cap (updCell cell k j cs)))
      | .box ty cells => k = 0 ∧ j + cs.length ≤ cells.length ∧ K (setn H n (.box ty (setAt cells j cs)))
      | .dead => False
    | none => False
  | _, _ => False
def boxP (T : Nat → TI) (t : Nat) (v : AV) (H : List Ent) (K : AV → List Ent → Prop) : Prop :=
  match v with
  | .s y => match (typedS T t y).cells with
    | some cs => K (.c (.ptr H.length 0 0)) (H ++ [.box t cs])
    | none => False
  | _ => False
def allocP (T : Nat → TI) (t : Nat) (H : List Ent) (K : AV → List Ent → Prop) : Prop :=
  (T t).kind ≠ .other ∧ (T t).za ≠ [] ∧ K (.c (.ptr H.length 0 0)) (H ++ [.box t (T t).za])

/-- w' has what w has. -/
def Sees (w w' : World) : Prop := ∀ (a : Addr) (u : Value), w.cell? a = some u → w'.cell? a = some u
/-- A run that looks at cells and turns no world; what is said of the world may turn. -/
def LoadsTo (P : Program) (E : Env) (g : Gh) (H : List Ent) (w : World) (m : Sem Value) (K : AV → List Ent → Prop) : Prop :=
  ∃ v, (∀ w', Sees w w' → m.run P w' = .ok v w') ∧ ∃ g' H' av, K av H' ∧ H.length ≤ H'.length ∧ RelH E g' H' w ∧ Step H.length g w g' w ∧ av.Is g' w v

section
variable {P : Program} {T : Nat → TI} {E : Env} {g : Gh} {w : World} {H : List Ent}

theorem sharedFrom_of {cell : Nat → Nat → CV} {k wd : Nat} (h : ∀ f, f < wd → (cell k f).shared) : ∀ (s j : Nat), j + s ≤ wd → sharedFrom cell k j s
  | 0, _, _ => trivial
  | s + 1, j, hj => ⟨h j (by omega), sharedFrom_of h s (j + 1) (by omega)⟩
theorem loadCells_F2 {R : CV → Value → Prop} {b o : Nat} : ∀ (cs : List CV) (n : Nat), cs.length = n → (∀ i c, cs[i]? = some c → ∃ u, w.cell? ⟨b, o + i, none⟩ = some u ∧ R c u) →
    ∃ us : List Value, (∀ w', Sees w w' → (loadCells ⟨b, o, none⟩ n).run P w' = .ok us.toArray w') ∧ F2 R cs us := by
  intro cs n hn h
  have hex : ∀ i, i < n → ∃ u, w.cell? ⟨b, o + i, none⟩ = some u := fun i hi => by
    obtain ⟨u, hu, _⟩ := h i cs[i] (List.getElem?_eq_getElem (by omega))
    exact ⟨u, hu⟩
  refine ⟨(List.range n).map fun i => (w.cell? ⟨b, o + i, none⟩).getD undef, fun w' hw' => ?_, ?_⟩
  · refine run_loadCells (P := P) w' ⟨b, o, none⟩ n _ (fun j hj => ?_)
    obtain ⟨u, hu⟩ := hex j hj
    rw [Addr.add_off, hw' _ _ hu, hu]; rfl
  · subst hn
    clear hex
    induction cs generalizing o with
    | nil => simp [F2]
    | cons c cs ih =>
      rw [List.length_cons, List.range_succ_eq_map, List.map_cons, List.map_map]
      obtain ⟨u, hu, hr⟩ := h 0 c rfl
      refine ⟨by rw [hu]; exact hr, ?_⟩
      have := ih (o := o + 1) (fun i c' hc' => by
        obtain ⟨u, hu, hr⟩ := h (i + 1) c' (by simpa using hc')
        exact ⟨u, by rw [show o + 1 + i = o + (i + 1) by omega]; exact hu, hr⟩)
      have he : ((fun i => (w.cell? ⟨b, o + i, none⟩).getD undef) ∘ Nat.succ) = (fun i => (w.cell? ⟨b, o + 1 + i, none⟩).getD undef) := by
        funext i
        simp only [Function.comp, Nat.succ_eq_add_one]
        rw [show o + (i + 1) = o + 1 + i by omega]
      rw [he]
      exact this

theorem cellsFrom_length (cell : Nat → Nat → CV) (k : Nat) : ∀ (s j : Nat), (cellsFrom cell k j s).length = s
  | 0, _ => rfl
  | s + 1, j => by simp [cellsFrom, cellsFrom_length cell k s (j + 1)]
theorem cellsFrom_get (cell : Nat → Nat → CV) (k : Nat) : ∀ (s j i : Nat), i < s → (cellsFrom cell k j s)[i]? = some (cell k (j + i))
  | s + 1, j, 0, _ => rfl
  | s + 1, j, i + 1, h => by
    simp only [cellsFrom, List.getElem?_cons_succ]
    rw [cellsFrom_get cell k s (j + 1) i (by omega), show j + 1 + i = j + (i + 1) by omega]
theorem sharedFrom_get (cell : Nat → Nat → CV) (k : Nat) : ∀ (s j i : Nat), i < s → sharedFrom cell k j s → (cell k (j + i)).shared
  | s + 1, j, 0, _, h => h.1
  | s + 1, j, i + 1, hi, h => by
    have := sharedFrom_get cell k s (j + 1) i (by omega) h.2
    rwa [show j + 1 + i = j + (i + 1) by omega] at this

theorem nth_ent {n : Nat} {e : Ent} (h : nth H n = e) (hne : e ≠ .dead) : H[n]? = some e := by
  rw [nth_eq] at h
  cases hh : H[n]? with
  | none => rw [hh] at h; exact absurd h.symm hne
  | some x => rw [hh] at h; rw [← h]; rfl

theorem setAt_length : ∀ (cs : List CV) (l : List CV) (j : Nat), (setAt l j cs).length = l.length
  | [], _, _ => rfl
  | c :: cs, l, j => by simp [setAt, setAt_length cs, setn_eq]
theorem setAt_get : ∀ (cs : List CV) (l : List CV) (j : Nat), j + cs.length ≤ l.length → ∀ i, (setAt l j cs)[i]? = if j ≤ i ∧ i < j + cs.length then cs[i - j]? else l[i]?
  | [], l, j, _, i => by
    rw [if_neg (by simp only [List.length_nil]; omega)]; rfl
  | c :: cs, l, j, h, i => by
    simp only [setAt, setn_eq]
    simp only [List.length_cons] at h ⊢
    rw [setAt_get cs (l.set j c) (j + 1) (by simp; omega) i]
    by_cases h1 : j + 1 ≤ i ∧ i < j + 1 + cs.length
    · rw [if_pos h1, if_pos (by omega), show i - j = (i - (j + 1)) + 1 by omega]; simp
    · rw [if_neg h1]
      by_cases h2 : i = j
      · subst h2
        rw [if_pos (by omega), List.getElem?_set_self (by omega)]
        simp
      · rw [if_neg (by omega), List.getElem?_set_ne (by omega)]

/-- A load from cells of data. -/
theorem load_data (hT : TOk P T) {t : Nat} (hk : (T t).kind ≠ .other) {b o k wd j : Nat} {cell : Nat → Nat → CV} {K : AV → List Ent → Prop} (r : RelH E g H w)
    (hc : ∀ f, f < wd → ∃ u, w.cell? ⟨b, o + (k * wd + f), none⟩ = some u ∧ ((cell k f).shared → (cell k f).Is g w u))
    (h : if (T t).kind.isAgg then j + (T t).size ≤ wd ∧ sharedFrom cell k j (T t).size ∧ K (.s (.agg (cellsFrom cell k j (T t).size))) H else j < wd ∧ (cell k j).shared ∧ K (.c (cell k j)) H) :
    LoadsTo P E g H w (loadVar t ⟨b, o + (k * wd + j), none⟩) K := by
  have ha := hT.agg hk
  have hs := hT.size hk
  split at h
  · rename_i hag
    simp only [hag] at ha
    obtain ⟨hle, hsh, hK⟩ := h
    obtain ⟨us, hr, hF⟩ := loadCells_F2 (P := P) (w := w) (R := CV.Is g w) (b := b) (o := o + (k * wd + j)) (cellsFrom cell k j (T t).size) (T t).size (cellsFrom_length _ _ _ _) (fun i c hi => by
      have hlt : i < (T t).size := by
        have := (List.getElem?_eq_some_iff.1 hi).1
        rwa [cellsFrom_length] at this
      rw [cellsFrom_get _ _ _ _ _ hlt] at hi
      simp only [Option.some.injEq] at hi
      subst hi
      obtain ⟨u, hu, hi⟩ := hc (j + i) (by omega)
      exact ⟨u, by rw [← hu]; congr 2; omega, hi (sharedFrom_get _ _ _ _ _ hlt hsh)⟩)
    exact ⟨.agg us.toArray, fun w' hw' => by simp [loadVar, ha, hs, hr w' hw'], g, H, _, hK, Nat.le_refl _, r, Step.refl _ _ _, ⟨us, rfl, hF⟩⟩
  · rename_i hag
    simp only [eq_false_of_ne_true hag] at ha
    obtain ⟨hlt, hsh, hK⟩ := h
    obtain ⟨u, hu, hi⟩ := hc j hlt
    exact ⟨u, fun w' hw' => by simp [loadVar, ha, hw' _ _ hu], g, H, _, hK, Nat.le_refl _, r, Step.refl _ _ _, hi hsh⟩

/-- What was owned becomes a row of its own. -/
def Gh.unp (g : Gh) (n i j N : Nat) (pl : Option Place) : Gh := ⟨fun m => if m = N then pl else g.ρ m, fun b => match g.κ b with
    | .sub m (a :: c :: q) => if m = n ∧ a = i ∧ c = j then (match q with
      | [] => .nm N
      | x :: q => .sub N (x :: q)) else .sub m (a :: c :: q)
    | r => r⟩
theorem unp_imm {n i j N : Nat} {pl : Option Place} {b : Nat} (h : g.κ b = .imm) : (g.unp n i j N pl).κ b = .imm := by simp [Gh.unp, h]
theorem unp_free {n i j N : Nat} {pl : Option Place} {b : Nat} (h : g.κ b = .free) : (g.unp n i j N pl).κ b = .free := by simp [Gh.unp, h]
theorem unp_nm {n i j N : Nat} {pl : Option Place} {b m : Nat} (h : g.κ b = .nm m) : (g.unp n i j N pl).κ b = .nm m := by simp [Gh.unp, h]
theorem unp_other {n i j N : Nat} {pl : Option Place} {b m a c : Nat} {q : List Nat} (h : g.κ b = .sub m ([a, c] ++ q)) (hne : ¬ (m = n ∧ a = i ∧ c = j)) : (g.unp n i j N pl).κ b = .sub m ([a, c] ++ q) := by
  simp only [Gh.unp, h, List.cons_append, List.nil_append]; rw [if_neg hne]
theorem unp_in {n i j N : Nat} {pl : Option Place} {b x : Nat} {q : List Nat} (h : g.κ b = .sub n ([i, j] ++ x :: q)) : (g.unp n i j N pl).κ b = .sub N (x :: q) := by
  simp [Gh.unp, h]
theorem unp_at {n i j N : Nat} {pl : Option Place} {b : Nat} (h : g.κ b = .sub n [i, j]) : (g.unp n i j N pl).κ b = .nm N := by
  simp [Gh.unp, h]
theorem unp_nm_inv {n i j N : Nat} {pl : Option Place} {b m : Nat} (h : (g.unp n i j N pl).κ b = .nm m) : g.κ b = .nm m ∨ m = N := by
  simp only [Gh.unp] at h
  split at h
  · split at h
    · split at h
      · exact .inr (by injection h with h; exact h.symm)
      · cases h
    · cases h
  · exact .inl h
theorem unp_sub_inv {n i j N : Nat} {pl : Option Place} {b m : Nat} {p : List Nat} (h : (g.unp n i j N pl).κ b = .sub m p) : (∃ p', g.κ b = .sub m p') ∨ m = N := by
  simp only [Gh.unp] at h
  split at h
  · rename_i m' a c q hq
    split at h
    · split at h
      · cases h
      · exact .inr (by injection h with h _; exact h.symm)
    · exact .inl ⟨_, by injection h with h1 h2; rw [hq, h1]⟩
  · exact .inl ⟨_, h⟩

theorem RelH.unpack (r : RelH E g H w) {n i j : Nat} (hn : n < H.length) {ty wd m : Nat} {cell : Nat → Nat → CV} {v : Value} (hv : (CV.own ty wd m cell).At g w (some (n, [i, j])) v) :
    ∃ c pl, m ≤ c ∧ (CV.sl H.length wd 0 m c).Is (g.unp n i j H.length pl) w v ∧ ∀ e1 : Ent, e1.Is (g.unp n i j H.length pl) w n →
      RelH E (g.unp n i j H.length pl) (setn H n e1 ++ [.row ty wd m c cell]) w ∧ Step H.length g w (g.unp n i j H.length pl) w := by
  have hname : ∀ pl, ∀ x, x < H.length → (g.unp n i j H.length pl).ρ x = g.ρ x := fun pl x hx => by simp only [Gh.unp]; rw [if_neg (by omega)]
  have go : ∀ c pl (e1 : Ent), e1.Is (g.unp n i j H.length pl) w n → (Ent.row ty wd m c cell).Is (g.unp n i j H.length pl) w H.length →
      RelH E (g.unp n i j H.length pl) (setn H n e1 ++ [.row ty wd m c cell]) w ∧ Step H.length g w (g.unp n i j H.length pl) w := fun c pl e1 h1 h2 => by
    have hlen : (setn H n e1 ++ [Ent.row ty wd m c cell]).length = H.length + 1 := by simp [setn_eq]
    refine RelH.same r (fun b hb => unp_imm hb) (fun b hb => unp_free hb) (hname pl) (fun x hx => ?_) (fun b x hb => ?_) (fun b x p hb => ?_) (fun x e he => ?_)
    · rw [hlen] at hx; simp only [Gh.unp]; rw [if_neg (by omega)]; exact r.dom x (by omega)
    · rw [hlen]
      rcases unp_nm_inv hb with h | h
      · have := r.rol b x h; omega
      · omega
    · rw [hlen]
      rcases unp_sub_inv hb with ⟨p', h⟩ | h
      · have := r.rols b x p' h; omega
      · omega
    · rw [setn_eq] at he
      rcases Nat.lt_or_ge x H.length with hx | hx
      · rw [List.getElem?_append_left (by simpa using hx)] at he
        by_cases hxn : x = n
        · subst hxn
          rw [List.getElem?_set_self (by simpa using hx)] at he
          exact (Option.some.inj he) ▸ h1
        · rw [List.getElem?_set_ne (Ne.symm hxn)] at he
          refine Ent.Is.keep (fun b hb => ⟨unp_imm hb, rfl⟩) (r.ext (hname pl)) (hname pl x hx) (fun b hb => ⟨unp_nm hb, rfl⟩) (fun b p hb => ⟨?_, rfl⟩) (r.ent x e he)
          simp only [Gh.unp, hb]
          split
          · rename_i m' a c' q heq
            injection heq with h1 h2
            rw [if_neg (fun h => hxn (h1.trans h.1))]
            rw [h1, h2]
          · rfl
      · rw [List.getElem?_append_right (by simpa using hx)] at he
        simp only [List.length_set] at he
        rcases Nat.eq_zero_or_pos (x - H.length) with h0 | h0
        · rw [h0] at he
          obtain rfl := Option.some.inj he
          have : x = H.length := by omega
          subst this
          exact h2
        · rw [show x - H.length = (x - H.length - 1) + 1 by omega] at he
          simp at he
  simp only [CV.At] at hv
  rcases hv with ⟨h0, A, rfl⟩ | ⟨b, o, c, cs, fz, rfl, hc, hb, hh, hf, hsz, hcell⟩
  · subst h0
    refine ⟨0, none, Nat.le_refl _, .inl ⟨rfl, rfl, A, rfl⟩, fun e1 h1 => go 0 none e1 h1 (.inl ⟨by simp [Gh.unp], rfl, rfl⟩)⟩
  · refine ⟨c, some ⟨b, o, wd⟩, hc, .inr ⟨⟨b, o, wd⟩, by simp [Gh.unp], rfl, by simp⟩, fun e1 h1 => go c _ e1 h1 (.inr ⟨b, o, cs, fz, by simp [Gh.unp], unp_at hb, hh, hf, hc, hsz, fun k hk f hf' => ?_⟩)⟩
    obtain ⟨u, hu, hi⟩ := hcell k hk f hf'
    refine ⟨u, hu, CV.At.move (g := g.bare) (g' := g.unp n i j H.length (some ⟨b, o, wd⟩)) (fun b hb => ⟨unp_imm (g := g) hb, rfl⟩) (fun _ _ h => by cases h) (fun b q hq => ⟨?_, rfl⟩) hi⟩
    exact unp_in (g := g) (x := k) (q := f :: q) (show g.κ b = _ from by simpa using (show g.κ b = _ from hq))

/-- What was owned is frozen: cells j, j + 1, .., of a box. -/
def Gh.ice (g : Gh) (n j s : Nat) : Gh := ⟨g.ρ, fun b => match g.κ b with
    | .sub m (a :: c :: q) => if m = n ∧ a = 0 ∧ j ≤ c ∧ c < j + s then .imm else .sub m (a :: c :: q)
    | r => r⟩
theorem RelH.iced (r : RelH E g H w) {n j s ty : Nat} {cells : List CV} (hn : H[n]? = some (.box ty cells)) (hj : j + s ≤ cells.length) :
    RelH E (g.ice n j s) (setn H n (.box ty (setAt cells j (((cells.drop j).take s).map CV.frz)))) w ∧ Step H.length g w (g.ice n j s) w ∧
      ∀ (i : Nat) (c : CV) (u : Value), j ≤ i → i < j + s → c.At g w (some (n, [0, i])) u → c.frz.Is (g.ice n j s) w u := by
  have himm : ∀ b, g.κ b = .imm → (g.ice n j s).κ b = .imm := fun b hb => by simp [Gh.ice, hb]
  have hnl := (List.getElem?_eq_some_iff.1 hn).1
  have hothr : ∀ b m p, g.κ b = .sub m p → (∀ a c q, p = a :: c :: q → ¬ (m = n ∧ a = 0 ∧ j ≤ c ∧ c < j + s)) → (g.ice n j s).κ b = .sub m p := fun b m p hb hne => by
    simp only [Gh.ice, hb]
    split
    · rename_i m' a c q heq
      injection heq with h1 h2
      rw [if_neg (fun h => hne a c q h2 (by rw [h1]; exact h)), h1, h2]
    · rfl
  have hfr : ∀ (i : Nat) (c : CV) (u : Value), j ≤ i → i < j + s → c.At g w (some (n, [0, i])) u → c.frz.Is (g.ice n j s) w u := fun i c u h1 h2 hc =>
    CV.At.freeze (fun b hb => himm b hb) (fun _ _ h => h) (fun b q hq => by
      simp only [Gh.ice, hq, List.cons_append, List.nil_append]
      rw [if_pos ⟨trivial, trivial, h1, h2⟩]) hc
  have hlen : (((cells.drop j).take s).map CV.frz).length = s := by simp; omega
  have hS := RelH.same (g' := g.ice n j s) (H' := setn H n (.box ty (setAt cells j (((cells.drop j).take s).map CV.frz)))) r himm (fun b hb => by simp [Gh.ice, hb]) (fun _ _ => rfl)
    (fun m hm => r.dom m (by simpa [setn_eq] using hm)) (fun b m hb => by
      rw [setn_eq]; simp only [List.length_set]
      simp only [Gh.ice] at hb
      split at hb
      · split at hb <;> cases hb
      · exact r.rol b m hb) (fun b m p hb => by
      rw [setn_eq]; simp only [List.length_set]
      simp only [Gh.ice] at hb
      split at hb
      · rename_i m' a c q heq
        split at hb
        · cases hb
        · injection hb with h1 h2
          exact r.rols b m _ (by rw [heq, h1])
      · exact r.rols b m p hb) (fun m e he => by
      rw [setn_eq] at he
      by_cases hm : n = m
      · subst hm
        rw [List.getElem?_set_self hnl] at he
        obtain rfl := Option.some.inj he
        obtain ⟨b, cs, h1, h2, h3, h4, h5⟩ := r.ent n _ hn
        have hsl := setAt_length (((cells.drop j).take s).map CV.frz) cells j
        refine ⟨b, cs, by rw [hsl]; exact h1, by simp [Gh.ice, h2], h3, by rw [hsl]; exact h4, fun i c hic => ?_⟩
        rw [setAt_get _ _ _ (by rw [hlen]; exact hj)] at hic
        rw [hlen] at hic
        split at hic
        · rename_i hin
          rw [List.getElem?_map, List.getElem?_take] at hic
          rw [if_pos (by omega), List.getElem?_drop, show j + (i - j) = i by omega] at hic
          cases hci : cells[i]? with
          | none => rw [hci] at hic; cases hic
          | some c0 =>
            rw [hci] at hic
            obtain rfl := Option.some.inj hic
            obtain ⟨u, hu, hi⟩ := h5 i c0 hci
            exact ⟨u, hu, CV.At.lift _ (hfr i c0 u hin.1 hin.2 hi)⟩
        · rename_i hin
          obtain ⟨u, hu, hi⟩ := h5 i c hic
          refine ⟨u, hu, CV.At.move (fun b hb => ⟨himm b hb, rfl⟩) (fun _ _ h => h) (fun b q hq => ⟨hothr b _ _ hq (fun a c q' he => ?_), rfl⟩) hi⟩
          simp only [List.cons_append, List.nil_append, List.cons.injEq] at he
          obtain ⟨rfl, rfl, _⟩ := he
          omega
      · rw [List.getElem?_set_ne hm] at he
        refine Ent.Is.keep (fun b hb => ⟨himm b hb, rfl⟩) (fun _ _ h => h) rfl (fun b hb => ⟨by simp [Gh.ice, hb], rfl⟩) (fun b p hb => ⟨hothr b m p hb (fun a c q he h => hm h.1.symm), rfl⟩) (r.ent m e he))
  exact ⟨hS.1, hS.2, hfr⟩

theorem loadP_sound (hT : TOk P T) (r : RelH E g H w) {t : Nat} {x : AV} {K : AV → List Ent → Prop} {v : Value} (hx : x.Is g w v) (h : loadP T t x H K) : LoadsTo P E g H w (Instr.loadAt t v) K := by
  unfold loadP at h
  obtain ⟨hk, h⟩ := h
  have ha := hT.agg hk
  have hs := hT.size hk
  split at h
  · rename_i n k j
    obtain ⟨p, hp, rfl⟩ := hx
    have hrun : ∀ m : Sem Value, Instr.loadAt t (.pointer (some ⟨p.blk, p.off + (k * p.wd + j), none⟩)) = loadVar t ⟨p.blk, p.off + (k * p.wd + j), none⟩ := fun _ => rfl
    rw [hrun (pure undef)]
    split at h
    · rename_i ty wd len cap cell hn
      obtain ⟨hkl, h⟩ := h
      have hnH := nth_ent hn (by simp)
      have hnl := (List.getElem?_eq_some_iff.1 hnH).1
      rcases r.ent n _ hnH with ⟨_, h0, _⟩ | ⟨b, o, cs, fz, hp', hb, hh, hf, hl, hc, hcell⟩
      · omega
      · rw [hp] at hp'
        obtain rfl := Option.some.inj hp'
        have hdata : ∀ f, f < wd → ∃ u, w.cell? ⟨b, o + (k * wd + f), none⟩ = some u ∧ ((cell k f).shared → (cell k f).Is g w u) := fun f hf => by
          obtain ⟨u, hu, hi⟩ := hcell k hkl f hf
          exact ⟨u, hu, fun hs => CV.At.share hs hi⟩
        split at h
        · rename_i hag
          exact load_data hT hk r hdata (by rw [if_pos hag]; exact h)
        · rename_i hag
          obtain ⟨hj, h⟩ := h
          split at h
          · rename_i e wd' m cl hown
            simp only [eq_false_of_ne_true hag] at ha
            obtain ⟨u, hu, hi⟩ := hcell k hkl j hj
            rw [hown] at hi
            obtain ⟨c, pl, hc', hsl, hgo⟩ := RelH.unpack r hnl hi
            have hname : ∀ x, x < H.length → (g.unp n k j H.length pl).ρ x = g.ρ x := fun x hx => by simp only [Gh.unp]; rw [if_neg (by omega)]
            have hR := hgo (.row ty wd len cap (updCell cell k j [.sl H.length wd' 0 m c])) (by
              refine .inr ⟨b, o, cs, fz, by rw [hname n hnl]; exact hp, unp_nm hb, hh, hf, hl, hc, fun k' hk' f hf' => ?_⟩
              by_cases hkf : k' = k ∧ f = j
              · obtain ⟨rfl, rfl⟩ := hkf
                refine ⟨u, hu, ?_⟩
                have : updCell cell k' f [.sl H.length wd' 0 m c] k' f = .sl H.length wd' 0 m c := by simp [updCell]
                rw [this]; exact CV.At.lift _ hsl
              · obtain ⟨u', hu', hi'⟩ := hcell k' hk' f hf'
                refine ⟨u', hu', ?_⟩
                have : updCell cell k j [.sl H.length wd' 0 m c] k' f = cell k' f := by
                  simp only [updCell, List.length_cons, List.length_nil]
                  split
                  · rw [if_neg (fun h => hkf ⟨by assumption, by omega⟩)]
                  · rfl
                rw [this]
                refine CV.At.move (fun b hb => ⟨unp_imm hb, rfl⟩) (r.ext hname) (fun b q hq => ⟨unp_other hq (fun h => hkf ⟨h.2.1, h.2.2⟩), rfl⟩) hi')
            exact ⟨u, fun w' hw' => by simp [loadVar, ha, hw' _ _ hu], _, _, _, h c hc', by simp [setn_eq], hR.1, hR.2, hsl⟩
          · rename_i hno
            have hsh : (cell k j).shared := by
              generalize cell k j = y at hno
              cases y <;> first | trivial | exact hno _ _ _ _ rfl
            exact load_data hT hk r hdata (by rw [if_neg hag]; exact ⟨hj, hsh, h⟩)
    · rename_i ty cells hn
      obtain ⟨rfl, h⟩ := h
      have hnH := nth_ent hn (by simp)
      have hnl := (List.getElem?_eq_some_iff.1 hnH).1
      obtain ⟨b, cs, hp', hb, hh, hl, hcell⟩ := r.ent n _ hnH
      rw [hp] at hp'
      obtain rfl := Option.some.inj hp'
      have hget : ∀ i c, cells[i]? = some c → ∃ u, w.cell? ⟨b, i, none⟩ = some u ∧ c.At g w (some (n, [0, i])) u := fun i c hc => by
        obtain ⟨u, hu, hi⟩ := hcell i c hc
        exact ⟨u, by simp [World.cell?, hh, hu], hi⟩
      simp only [Nat.zero_mul, Nat.zero_add]
      split at h
      · rename_i hag
        simp only [hag] at ha
        obtain ⟨hle, h⟩ := h
        split at h
        · rename_i hown
          obtain ⟨hR, hS, hfr⟩ := RelH.iced r hnH hle
          obtain ⟨us, hr, hF⟩ := loadCells_F2 (P := P) (w := w) (R := CV.Is (g.ice n j (T t).size) w) (b := b) (o := j) (((cells.drop j).take (T t).size).map CV.frz) (T t).size (by simp; omega) (fun i c hi => by
            rw [List.getElem?_map, List.getElem?_take] at hi
            split at hi
            · rw [List.getElem?_drop] at hi
              cases hci : cells[j + i]? with
              | none => rw [hci] at hi; cases hi
              | some c0 =>
                rw [hci] at hi
                obtain rfl := Option.some.inj hi
                obtain ⟨u, hu, hi⟩ := hget _ _ hci
                exact ⟨u, hu, hfr _ _ _ (by omega) (by omega) hi⟩
            · cases hi)
          exact ⟨.agg us.toArray, fun w' hw' => by simp [loadVar, ha, hs, hr w' hw'], _, _, _, h, by simp [setn_eq], hR, hS, ⟨us, rfl, hF⟩⟩
        · rename_i hown
          have hsh : ∀ (l : List CV), anyOwn l = false → ∀ (i : Nat) (c : CV), l[i]? = some c → c.shared := fun l => by
            induction l with
            | nil => intro _ i c hi; simp at hi
            | cons x l ih =>
              intro hl i c hi
              cases i with
              | zero =>
                obtain rfl := Option.some.inj hi
                cases x <;> first | trivial | simp [anyOwn] at hl
              | succ i =>
                refine ih ?_ i c (by simpa using hi)
                cases x <;> first | (simp [anyOwn] at hl; done) | exact hl
          obtain ⟨us, hr, hF⟩ := loadCells_F2 (P := P) (w := w) (R := CV.Is g w) (b := b) (o := j) ((cells.drop j).take (T t).size) (T t).size (by simp; omega) (fun i c hi => by
            have hshc := hsh _ hown i c hi
            rw [List.getElem?_take] at hi
            split at hi
            · rw [List.getElem?_drop] at hi
              obtain ⟨u, hu, hi⟩ := hget _ _ hi
              exact ⟨u, hu, CV.At.share hshc hi⟩
            · cases hi)
          exact ⟨.agg us.toArray, fun w' hw' => by simp [loadVar, ha, hs, hr w' hw'], g, H, _, h, Nat.le_refl _, r, Step.refl _ _ _, ⟨us, rfl, hF⟩⟩
      · rename_i hag
        simp only [eq_false_of_ne_true hag] at ha
        obtain ⟨hlt, h⟩ := h
        obtain ⟨u, hu, hi⟩ := hget j cells[j] (List.getElem?_eq_getElem hlt)
        have hnth : nth cells j = cells[j] := by rw [nth_eq, List.getElem?_eq_getElem hlt]; rfl
        rw [← hnth] at hi
        split at h
        · rename_i e wd' m cl hown
          rw [hown] at hi
          obtain ⟨c, pl, hc', hsl, hgo⟩ := RelH.unpack r hnl hi
          have hname : ∀ x, x < H.length → (g.unp n 0 j H.length pl).ρ x = g.ρ x := fun x hx => by simp only [Gh.unp]; rw [if_neg (by omega)]
          have hR := hgo (.box ty (setn cells j (.sl H.length wd' 0 m c))) (by
            refine ⟨b, cs, by rw [hname n hnl, setn_eq, List.length_set]; exact hp, unp_nm hb, hh, by rw [setn_eq, List.length_set]; exact hl, fun i x hx => ?_⟩
            rw [setn_eq] at hx
            by_cases hij : j = i
            · subst hij
              rw [List.getElem?_set_self hlt] at hx
              obtain rfl := Option.some.inj hx
              refine ⟨u, ?_, CV.At.lift _ hsl⟩
              simpa [World.cell?, hh] using hu
            · rw [List.getElem?_set_ne hij] at hx
              obtain ⟨u', hu', hi'⟩ := hcell i x hx
              exact ⟨u', hu', CV.At.move (fun b hb => ⟨unp_imm hb, rfl⟩) (r.ext hname) (fun b q hq => ⟨unp_other hq (fun h => hij h.2.2.symm), rfl⟩) hi'⟩)
          exact ⟨u, fun w' hw' => by simp [loadVar, ha, hw' _ _ hu], _, _, _, h c hc', by simp [setn_eq], hR.1, hR.2, hsl⟩
        · rename_i hno
          refine ⟨u, fun w' hw' => by simp [loadVar, ha, hw' _ _ hu], g, H, _, h, Nat.le_refl _, r, Step.refl _ _ _, ?_⟩
          have hsh : (nth cells j).shared := by
            generalize nth cells j = y at hno
            cases y <;> first | trivial | exact hno _ _ _ _ rfl
          exact CV.At.share hsh hi
    · exact h.elim
  · rename_i wd n cell k j
    obtain ⟨b, o, rfl, hkn, hb, hc⟩ := hx
    have hsh : ∀ f, f < wd → (cell k f).shared := fun f hf => by
      obtain ⟨u, _, hi⟩ := hc k hkn f hf
      exact CV.At.sharedOf hi
    refine load_data hT hk r (fun f hf => by
      obtain ⟨u, hu, hi⟩ := hc k hkn f hf
      exact ⟨u, hu, fun _ => CV.At.ofBare hi⟩) ?_
    split
    · rename_i hag
      rw [if_pos hag] at h
      exact ⟨h.1, sharedFrom_of hsh _ _ h.1, h.2⟩
    · rename_i hag
      rw [if_neg hag] at h
      exact ⟨h.1, hsh j h.1, h.2⟩
  · exact h.elim

theorem setCells_heap (b : Nat) : ∀ (vs : List Value) (o : Nat) (w : World) (cs : Array Value) (ty : TypeId) (fz : Nat × Nat), w.heap[b]? = some (.cells cs ty fz) →
    ∃ cs', (w.setCells b o vs).heap[b]? = some (.cells cs' ty fz) ∧ cs'.size = cs.size
  | [], o, w, cs, ty, fz, h => ⟨cs, h, rfl⟩
  | v :: vs, o, w, cs, ty, fz, h => by
    have h1 : (w.setCell ⟨b, o, none⟩ v).heap[b]? = some (.cells (cs.setIfInBounds o v) ty fz) := by
      simp [World.setCell, Array.getElem?_modify, h]
    obtain ⟨cs', h2, h3⟩ := setCells_heap b vs (o + 1) _ _ ty fz h1
    exact ⟨cs', h2, by simpa using h3⟩
theorem setCells_other (b c : Nat) (hbc : c ≠ b) : ∀ (vs : List Value) (o : Nat) (w : World), (w.setCells b o vs).heap[c]? = w.heap[c]?
  | [], _, _ => rfl
  | v :: vs, o, w => by
    rw [World.setCells, setCells_other b c hbc vs]
    simp only [World.setCell, Array.getElem?_modify]
    rw [if_neg (fun h => hbc h.symm)]
theorem setCells_size (b : Nat) : ∀ (vs : List Value) (o : Nat) (w : World), (w.setCells b o vs).heap.size = w.heap.size
  | [], _, _ => rfl
  | v :: vs, o, w => by rw [World.setCells, setCells_size b vs]; simp
theorem setCells_os (b : Nat) : ∀ (vs : List Value) (o : Nat) (w : World), (w.setCells b o vs).os = w.os ∧ (w.setCells b o vs).tape = w.tape ∧ (w.setCells b o vs).output = w.output
  | [], _, _ => ⟨rfl, rfl, rfl⟩
  | v :: vs, o, w => by rw [World.setCells]; exact setCells_os b vs (o + 1) _

theorem okAll_get : ∀ {l : List CV}, okAll l = true → ∀ (i : Nat) (c : CV), l[i]? = some c → c.ok = true
  | [], _, i, c, h => by simp at h
  | x :: l, ho, 0, c, h => by simp [okAll] at ho; simp at h; exact h ▸ ho.1
  | x :: l, ho, i + 1, c, h => by simp [okAll] at ho; exact okAll_get ho.2 i c (by simpa using h)
theorem F2.get' {α β : Type} {R : α → β → Prop} : ∀ {l : List α} {m : List β}, F2 R l m → ∀ {i : Nat} {b : β}, m[i]? = some b → ∃ a, l[i]? = some a ∧ R a b
  | [], [], _, i, a, h => by simp at h
  | x :: _, _ :: _, hl, 0, a, h => ⟨x, rfl, by simp at h; exact h ▸ hl.1⟩
  | _ :: _, _ :: _, hl, i + 1, a, h => by simpa using F2.get' hl.2 (by simpa using h)

theorem typedS_is {T : Nat → TI} {t : Nat} {x : SV} {v : Value} (h : x.Is g w v) : (typedS T t x).Is g w v := by
  unfold typedS
  split
  · exact typed_is h
  · exact h
theorem setn_set (H : List Ent) (n : Nat) (e : Ent) : setn H n e = H.set n e := setn_eq H n e

theorem storeP_sound (hT : TOk P T) (r : RelH E g H w) {t : Nat} {x v : AV} {K : List Ent → Prop} {vx vv : Value} (hx : x.Is g w vx) (hv : v.Is g w vv) (h : storeP T t x v H K) :
    ∃ H' w', (Instr.storeAt t vx vv).run P w = .ok () w' ∧ K H' ∧ RelH E g H' w' ∧ Step H.length g w g w' := by
  unfold storeP at h
  obtain ⟨hk, h⟩ := h
  split at h
  · rename_i n k j y
    split at h
    · rename_i cs hcs
      obtain ⟨hsz, hok, h⟩ := h
      have hF := SV.cells_is hcs (typedS_is (T := T) (t := t) hv)
      have hlen : cs.length = vv.cells.size := by rw [hF.length]; simp
      have hs := hT.size hk w
      obtain ⟨p, hp, rfl⟩ := hx
      have hone : ∀ u ∈ vv.cells.toList, u.oneCell' = true := fun u hu => by
        obtain ⟨i, hi⟩ := List.getElem?_of_mem hu
        obtain ⟨c, hc, hcu⟩ := F2.get' hF hi
        exact CV.Is.one (okAll_get hok i c hc) hcu
      have hrun : ∀ w', (storeCells ⟨p.blk, p.off + (k * p.wd + j), none⟩ vv.cells.toList 0).run P w = .ok () w' → (Instr.storeAt t (.pointer (some ⟨p.blk, p.off + (k * p.wd + j), none⟩)) vv).run P w = .ok () w' := fun w' h => by
        have : vv.cells.size = (T t).size := by omega
        simp [Instr.storeAt, Instr.sureAddr, storeVar, hs, this, h]
      split at h
      · rename_i ty wd len cap cell hn
        have hnH := nth_ent hn (by simp)
        have hnl : n < H.length := (List.getElem?_eq_some_iff.1 hnH).1
        · obtain ⟨hkl, hjw, hK⟩ := h
          rcases r.ent n _ hnH with ⟨_, h0, _⟩ | ⟨b, o, cells, fz, hp', hb, hh, hf, hlc, hcap, hcell⟩
          · omega
          · rw [hp] at hp'
            obtain rfl := Option.some.inj hp'
            simp only at hrun ⊢
            have hkw : k * wd + wd ≤ cap * wd := by
              have := Nat.mul_le_mul_right wd (show k + 1 ≤ cap by omega)
              rw [Nat.add_mul] at this; omega
            have hexi : ∀ i, i < cap * wd → ∃ u, w.cell? ⟨b, o + i, none⟩ = some u := fun i hi => by
              refine ⟨cells[o + i]'(by omega), ?_⟩
              simp [World.cell?, hh]
            have hfr : ∀ i, i < cap * wd → w.frozen? ⟨b, o + i, none⟩ = false := fun i hi => by
              simp only [World.frozen?, hh]
              rcases hf with hf | hf <;> simp <;> omega
            have hll : vv.cells.toList.length = cs.length := by rw [hF.length]
            have hst := run_storeCells_cells (P := P) b (o + (k * wd + j)) vv.cells.toList 0 w (fun i hi => by
                obtain ⟨u, hu⟩ := hexi (k * wd + j + i) (by omega)
                rw [show o + (k * wd + j) + 0 + i = o + (k * wd + j + i) by omega, hu]; rfl)
              (fun i hi => by
                rw [show o + (k * wd + j) + 0 + i = o + (k * wd + j + i) by omega]
                exact hfr _ (by omega)) hone
            rw [Nat.add_zero] at hst
            obtain ⟨cells', hh', hsz'⟩ := setCells_heap b vv.cells.toList (o + (k * wd + j)) w cells ty fz hh
            obtain ⟨ho1, ho2, ho3⟩ := setCells_os b vv.cells.toList (o + (k * wd + j)) w
            have hoth : ∀ c, g.κ c ≠ .nm n → (w.setCells b (o + (k * wd + j)) vv.cells.toList).heap[c]? = w.heap[c]? := fun c hc => setCells_other b c (fun e => hc (by rw [e]; exact hb)) _ _ _
            have hmono : ∀ c, g.κ c = .imm → g.κ c = .imm ∧ (w.setCells b (o + (k * wd + j)) vv.cells.toList).heap[c]? = w.heap[c]? := fun c hc => ⟨hc, hoth c (by rw [hc]; simp)⟩
            have hR := RelH.write n hnl r (.row ty wd len cap (updCell cell k j cs)) ho1 ho2 ho3 (setCells_size _ _ _ _) hoth (by
              refine .inr ⟨b, o, cells', fz, hp, hb, hh', hf, hlc, by omega, fun k' hk' f hf' => ?_⟩
              obtain ⟨u0, hu0, hi0⟩ := hcell k' hk' f hf'
              by_cases hin : k' = k ∧ j ≤ f ∧ f < j + cs.length
              · obtain ⟨rfl, hj1, hj2⟩ := hin
                have hfl : f - j < vv.cells.toList.length := by omega
                have hin := World.cell?_setCells_in b vv.cells.toList (o + (k' * wd + j)) w (fun i hi => by
                  obtain ⟨u, hu⟩ := hexi (k' * wd + j + i) (by omega)
                  rw [show o + (k' * wd + j) + i = o + (k' * wd + j + i) by omega, hu]; rfl) (f - j) hfl
                refine ⟨_, by rw [show o + (k' * wd + f) = o + (k' * wd + j) + (f - j) by omega]; exact hin, ?_⟩
                obtain ⟨d, hd, hdi⟩ := F2.get' hF (List.getElem?_eq_getElem hfl)
                have : updCell cell k' j cs k' f = d := by
                  simp only [updCell]
                  rw [if_pos trivial, if_pos ⟨hj1, hj2⟩]
                  simp [List.getD, hd]
                rw [this]
                exact CV.At.lift _ (CV.Is.mono hmono (fun _ _ h => h) hdi)
              · refine ⟨u0, ?_, ?_⟩
                · rw [World.cell?_setCells_out, hu0]
                  intro _ _
                  simp only
                  rw [hll]
                  rcases Nat.lt_trichotomy k' k with hlt | heq | hgt
                  · left
                    have := Nat.mul_le_mul_right wd (show k' + 1 ≤ k by omega)
                    rw [Nat.add_mul] at this; omega
                  · subst heq
                    have : ¬ (j ≤ f ∧ f < j + cs.length) := fun h => hin ⟨rfl, h⟩
                    omega
                  · right
                    have := Nat.mul_le_mul_right wd (show k + 1 ≤ k' by omega)
                    rw [Nat.add_mul] at this; omega
                · have : updCell cell k j cs k' f = cell k' f := by
                    simp only [updCell]
                    split
                    · rename_i hkk
                      rw [if_neg (fun h => hin ⟨hkk, h⟩)]
                    · rfl
                  rw [this]
                  exact CV.At.move hmono (fun _ _ h => h) (fun c q hc => ⟨hc, hoth c (by rw [hc]; simp)⟩) hi0)
            exact ⟨_, _, hrun _ hst, by rw [setn_set] at hK; exact hK, hR.1, hR.2⟩
      · rename_i ty cells hn
        have hnH := nth_ent hn (by simp)
        have hnl : n < H.length := (List.getElem?_eq_some_iff.1 hnH).1
        obtain ⟨rfl, hjl, hK⟩ := h
        obtain ⟨b, arr, hp', hb, hh, hl, hcell⟩ := r.ent n _ hnH
        rw [hp] at hp'
        obtain rfl := Option.some.inj hp'
        simp only [Nat.zero_mul, Nat.zero_add] at hrun ⊢
        have hll : vv.cells.toList.length = cs.length := by rw [hF.length]
        have hst := run_storeCells_cells (P := P) b j vv.cells.toList 0 w (fun i hi => by
            have : j + 0 + i < arr.size := by omega
            simp [World.cell?, hh]; omega)
          (fun i hi => by simp [World.frozen?, hh]) hone
        rw [Nat.add_zero] at hst
        obtain ⟨arr', hh', hsz'⟩ := setCells_heap b vv.cells.toList j w arr ty (0, 0) hh
        obtain ⟨ho1, ho2, ho3⟩ := setCells_os b vv.cells.toList j w
        have hoth : ∀ c, g.κ c ≠ .nm n → (w.setCells b j vv.cells.toList).heap[c]? = w.heap[c]? := fun c hc => setCells_other b c (fun e => hc (by rw [e]; exact hb)) _ _ _
        have hmono : ∀ c, g.κ c = .imm → g.κ c = .imm ∧ (w.setCells b j vv.cells.toList).heap[c]? = w.heap[c]? := fun c hc => ⟨hc, hoth c (by rw [hc]; simp)⟩
        have hR := RelH.write n hnl r (.box ty (setAt cells j cs)) ho1 ho2 ho3 (setCells_size _ _ _ _) hoth (by
          refine ⟨b, arr', by rw [setAt_length]; exact hp, hb, hh', by rw [setAt_length]; omega, fun i c hc => ?_⟩
          have hlt : i < arr'.size := by
            have := (List.getElem?_eq_some_iff.1 hc).1
            rw [setAt_length] at this; omega
          have hcell' : ∀ u, (w.setCells b j vv.cells.toList).cell? ⟨b, i, none⟩ = some u → arr'[i]? = some u := fun u hu => by
            simpa [World.cell?, hh'] using hu
          rw [setAt_get cs cells j hjl i] at hc
          split at hc
          · rename_i hij
            have hfl : i - j < vv.cells.toList.length := by omega
            have hin := World.cell?_setCells_in b vv.cells.toList j w (fun i hi => by
              have : j + i < arr.size := by omega
              simp [World.cell?, hh]; omega) (i - j) hfl
            rw [show j + (i - j) = i by omega] at hin
            obtain ⟨c', hc', hi⟩ := F2.get' hF (List.getElem?_eq_getElem hfl)
            rw [hc] at hc'
            obtain rfl := Option.some.inj hc'
            exact ⟨_, hcell' _ hin, CV.At.lift _ (CV.Is.mono hmono (fun _ _ h => h) hi)⟩
          · rename_i hij
            obtain ⟨u, hu, hi⟩ := hcell i c hc
            refine ⟨u, hcell' u ?_, CV.At.move hmono (fun _ _ h => h) (fun c q hc => ⟨hc, hoth c (by rw [hc]; simp)⟩) hi⟩
            rw [World.cell?_setCells_out]
            · simp [World.cell?, hh, hu]
            · intro _ _
              simp only
              omega)
        exact ⟨_, _, hrun _ hst, by rw [setn_set] at hK; exact hK, hR.1, hR.2⟩
      · exact h.elim
    · exact h.elim
  · exact h.elim
end
end Go.V
end
