/- V: arguments that are slices of structs: what a row's reading says of them, as lists that are told whole. -/
import Derived.Test.YtdpjmfipgkblfaaGreatDoorVArgs
import Derived.Deep.Slices
set_option linter.unusedSimpArgs false
namespace Go.V
open Go Go.RowKit Go.ChangeShapes Go.WideShapes Go.Deep
section
variable {H : Type} {enc : TypeId × Value → H} {P : Program} {W : World}

/-- Cells that say what an element is. -/
def Says (W : World) {α : Type} (en : α → List CV) (wd : Nat) (cs : List Value) (a : α) : Prop := ∀ f, f < wd → ∃ u, cs[f]? = some u ∧ ((en a).getD f (.bool false)).At (gh0 W) W none u
theorem lst_of_trod {α : Type} [Inhabited α] {en : α → List CV} {wd : Nat} {t e : TypeId} {fuel : Nat} {cs : List Value} {x : DataW H × List MemPlace} (ht : P.underlying t = some (.slice e)) (hc : P.cellsOf e = wd) (hw : 0 < wd)
    (h : DataW.trod enc P W 0 (fun _ => true) true fuel t cs = some x)
    (el : ∀ cs' m y, cs'.length = wd → DataW.trod enc P W 0 (fun _ => true) true m e cs' = some y → ∃ a : α, Says W en wd cs' a) :
    ∃ v, cs = [v] ∧ ∃ l : List α, l.length ≤ 9223372036854775807 ∧ (CV.lst wd l.length (at2 (l.map en))).At (gh0 W) W none v := by
  rcases open_slice ht h with ⟨h0, _⟩ | ⟨a, len, cap, m, n, D, Pl, rfl, _, hl, hml, hmm, _, hx⟩
  · refine ⟨_, h0, [], Nat.zero_le _, none, 0, rfl, Nat.le_refl _, .inl rfl⟩
  · have hm : m = cap := by simpa using hmm
    have each : ∀ i, i < len → ∃ q : List Value × α, W.cells? 0 (a.add (i * wd)) wd = some q.1 ∧ Says W en wd q.1 q.2 := fun i hi => by
      obtain ⟨cs', h1, h2⟩ := hx i (by omega)
      rw [hc] at h1
      obtain ⟨_, hlen, _⟩ := World.cells?_some h1
      obtain ⟨b, hb⟩ := el cs' n _ hlen h2
      exact ⟨(cs', b), h1, hb⟩
    obtain ⟨q, hq⟩ := choose_lt each
    have hml : cap ≤ 9223372036854775807 := hml
    refine ⟨_, rfl, (List.range len).map fun i => (q i).2, by simp; omega, some a, cap, by simp, by simpa using hl, ?_⟩
    rcases Nat.eq_zero_or_pos len with hz | hz
    · left; simp [hz]
    right
    have h00 : ∃ u, W.cell? (a.add 0) = some u := by
      obtain ⟨h1, h2⟩ := hq 0 hz
      obtain ⟨_, hlen, hcell⟩ := World.cells?_some h1
      obtain ⟨u, hu, _⟩ := h2 0 hw
      have := hcell 0 hw
      rw [add_add] at this
      simp only [Nat.zero_mul, Nat.add_zero] at this
      exact ⟨u, by rw [this, hu]⟩
    obtain ⟨u0, hu0⟩ := h00
    obtain ⟨hs, hb⟩ := addr_at hu0
    refine ⟨a.block, a.off, ?_, gh0_imm hb, ?_⟩
    · have := addr_add hs 0
      simpa [Addr.add] using congrArg some this
    intro k hk f hf
    have hk' : k < len := by simpa using hk
    obtain ⟨h1, h2⟩ := hq k hk'
    obtain ⟨_, hlen, hcell⟩ := World.cells?_some h1
    obtain ⟨u, hu, hi⟩ := h2 f hf
    have hcf := hcell f hf
    rw [add_add, addr_add hs, hu] at hcf
    refine ⟨u, hcf, ?_⟩
    have e1 : at2 (((List.range len).map fun i => (q i).2).map en) k f = (en (q k).2).getD f (.bool false) := by
      simp [at2, List.getD, List.getElem?_map, List.getElem?_range hk']
    rw [e1]
    exact hi
theorem lst_arg {α : Type} [Inhabited α] {en : α → List CV} {wd : Nat} {t e : TypeId} {b0 : Nat} {v : Value} {d : DataW H} {ps : List MemPlace} (ht : P.underlying t = some (.slice e)) (hc : P.cellsOf e = wd) (hw : 0 < wd)
    (hval : Value.okWide P W .any b0 t v) (hd : DataW.Trod enc P W 0 (fun _ => true) true t v d ps)
    (el : ∀ cs' m y, cs'.length = wd → DataW.trod enc P W 0 (fun _ => true) true m e cs' = some y → ∃ a : α, Says W en wd cs' a) :
    ∃ l : List α, l.length ≤ 9223372036854775807 ∧ (AV.c (.lst wd l.length (at2 (l.map en)))).Is (gh0 W) W v := by
  obtain ⟨A0, n0, c0, rfl⟩ := okWide_slice ht hval
  obtain ⟨fuel, h⟩ := hd
  obtain ⟨v, hv, l, hl⟩ := lst_of_trod ht hc hw h el
  have hv : [Value.slice A0 n0 c0] = [v] := hv
  obtain rfl : Value.slice A0 n0 c0 = v := by simpa using hv
  exact ⟨l, hl⟩
/-- A struct's field, of one cell. -/
theorem field_cell {e : TypeId} {fs : Array Field} {m : Nat} {cs : List Value} {y : DataW H × List MemPlace} (he : P.underlying e = some (.struct fs)) (h : DataW.trod enc P W 0 (fun _ => true) true m e cs = some y)
    {i : Nat} {f : Field} {off : Nat} (hf : fs[i]? = some f) (ho : f.offset = off) (h1 : P.cellsOf f.type = 1) (hlt : off < cs.length) :
    ∃ u n z, cs[off]? = some u ∧ DataW.trod enc P W 0 (fun _ => true) true n f.type [u] = some z := by
  obtain ⟨xs, n, _, _, hl, hxl, hx⟩ := DataW.trod_struct he h
  have := hx i f hf
  rw [ho, h1] at this
  have hd : (cs.drop off).take 1 = [cs[off]] := by
    rw [List.drop_eq_getElem_cons hlt]; rfl
  rw [hd] at this
  have hi : i < xs.length := by rw [hxl]; exact (Array.getElem?_eq_some_iff.1 hf).1
  rw [List.getElem?_eq_getElem hi] at this
  exact ⟨_, n, _, List.getElem?_eq_getElem hlt, this⟩
theorem str_cell {t : TypeId} {m : Nat} {u : Value} {z : DataW H × List MemPlace} (ht : P.underlying t = some .string) (h : DataW.trod enc P W 0 (fun _ => true) true m t [u] = some z) : ∃ s : List UInt8, u = .string (bstr s) := by
  obtain ⟨s, hs, _⟩ := DataW.trod_string ht h
  obtain rfl : u = .string s := by simpa using hs
  exact ⟨s.data.toList, congrArg Value.string (bstr_data s).symm⟩
theorem int_cell {t : TypeId} {k : IntKind} {m : Nat} {u : Value} {z : DataW H × List MemPlace} (ht : P.underlying t = some (.int k)) (h : DataW.trod enc P W 0 (fun _ => true) true m t [u] = some z) : ∃ n : Int, u = .int k n ∧ (Lit.int k n).wf = true := by
  obtain ⟨n, hs, _, hw⟩ := DataW.trod_int ht h
  obtain rfl : u = .int k n := by simpa using hs
  exact ⟨n, rfl, hw⟩
end
end Go.V
