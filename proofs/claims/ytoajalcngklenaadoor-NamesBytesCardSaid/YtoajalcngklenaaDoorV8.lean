/- V, part 8: append; conversions between texts and bytes. -/
import Derived.Test.YtoajalcngklenaaDoorV7
import Derived.Laws.AppendOwn
set_option linter.unusedSimpArgs false
set_option linter.unusedVariables false
namespace Go.V
open Go Go.RowKit

/-- A byte, as a row of one cell; rows of bytes. -/
def bcell (b : UInt8) : List CV := [.int .u8 (b.toNat : Int)]
def byteCell (l : List UInt8) : Nat → Nat → CV := at2 (l.map bcell)
theorem byteCell_get (l : List UInt8) (i : Nat) (h : i < l.length) : byteCell l i 0 = .int .u8 ((l.getD i 0).toNat : Int) := by
  simp [byteCell, at2, List.getD, h, bcell]
theorem byteCell_sh (l : List UInt8) (i f : Nat) : (∃ b : UInt8, byteCell l i f = .int .u8 (b.toNat : Int)) ∨ byteCell l i f = .bool false := by
  simp only [byteCell, at2, List.getD, List.getElem?_map]
  cases l[i]? with
  | none => right; simp
  | some b => cases f with
    | zero => left; exact ⟨b, by simp [bcell]⟩
    | succ f => right; simp [bcell]
/-- Cells that may be copied. -/
def isSh : CV → Bool
  | .own .. => false
  | .bad => false
  | _ => true
def ShC (cell : Nat → Nat → CV) (k n wd : Nat) : Prop := ∀ i, i < n → ∀ f, f < wd → isSh (cell (k + i) f) = true
theorem isSh_ok {x : CV} (h : isSh x = true) : x.shared ∧ x.ok = true := by
  cases x <;> simp [isSh] at h <;> exact ⟨trivial, rfl⟩
/-- What stands behind the dots of an append, or what is copied: how many elements, of how many cells, and which. -/
def srcP (wd : Nat) (y : AV) (H : List Ent) (K : Nat → (Nat → Nat → CV) → Prop) : Prop :=
  match y with
  | .s (.c (.nil _ _)) => K 0 (at2 [])
  | .s (.c (.sl m wd' k n _)) => match nth H m with
    | .row _ wd2 rn _ cell => wd' = wd ∧ wd2 = wd ∧ k + n ≤ rn ∧ ShC cell k n wd ∧ K n (subCell k n cell)
    | _ => False
  | .s (.c (.lst wd' n cell)) => (wd' = wd ∨ n = 0) ∧ ShC cell 0 n wd ∧ K n cell
  | .s (.c (.str l)) => wd = 1 ∧ K l.length (byteCell l)
  | _ => False
def appCell (n : Nat) (cell src : Nat → Nat → CV) : Nat → Nat → CV := fun i f => if i < n then cell i f else src (i - n) f
def appendP (T : Nat → TI) (ts : List TypeId) (xs : List AV) (H : List Ent) (K : AV → List Ent → Prop) : Prop :=
  match ts, xs with
  | [t, t2], [x, y] => match (T t).kind with
    | .sl e => (T e).kind ≠ .other ∧ (T e).bytes ≤ 128 ∧ (T e).za.length = (T e).size ∧ (T e).za ≠ [] ∧ ((T t2).kind = .sl e ∨ (T t2).kind = .str) ∧
      srcP (T e).size y H (bx2 fun m src => match x with
        | .s (.c (.nil _ _)) => m ≤ 274877906944 ∧ ∀ c, m ≤ c → K (.c (.sl H.length (T e).size 0 m c)) (H ++ [.row e (T e).size m c src])
        | .s (.c (.sl n wd k len cap)) => match nth H n with
          | .row ty wd2 rn rc cell => k = 0 ∧ ty = e ∧ wd = (T e).size ∧ wd2 = (T e).size ∧ len ≤ rn ∧ len ≤ cap ∧ cap ≤ rc ∧ len + m ≤ 274877906944 ∧
              ∀ c, len + m ≤ c → K (.c (.sl H.length (T e).size 0 (len + m) c)) (setn H n .dead ++ [.row e (T e).size (len + m) c (appCell len cell src)])
          | _ => False
        | _ => False)
    | _ => False
  | _, _ => False
def toBytesP (T : Nat → TI) (dst : TypeId) (x : AV) (H : List Ent) (K : AV → List Ent → Prop) : Prop :=
  match (T dst).kind, x with
  | .sl e, .s (.c (.str l)) => (T e).kind = .int .u8 ∧ (T e).size = 1 ∧ ∀ c, l.length ≤ c → K (.c (.sl H.length 1 0 l.length c)) (H ++ [.row e 1 l.length c (byteCell l)])
  | _, _ => False
def bytesOf (m : Nat) (cell : Nat → Nat → CV) : List UInt8 := (List.range m).map fun i => match cell i 0 with
  | .int _ n => UInt8.ofNat n.toNat
  | _ => 0
/-- Cells that are bytes. -/
def ByC (m : Nat) (cell : Nat → Nat → CV) : Prop := ∀ i, i < m → ∃ b : UInt8, cell i 0 = .int .u8 (b.toNat : Int)
def toStrP (T : Nat → TI) (src : TypeId) (x : AV) (H : List Ent) (K : AV → Prop) : Prop :=
  match (T src).kind, x with
  | .sl _, .s (.c (.str _)) => False
  | .sl e, x => (T e).kind = .int .u8 ∧ srcP 1 x H (bx2 fun m cell => ByC m cell ∧ K (.c (.str (bytesOf m cell))))
  | _, _ => False

section
variable {P : Program} {T : Nat → TI} {E : Env} {g : Gh} {w : World} {H : List Ent}

/-- A source's cells, as a list of the model's values. -/
structure SrcIs (P : Program) (g : Gh) (w : World) (wd m : Nat) (cell : Nat → Nat → CV) (vy : Value) (us : List Value) : Prop where
  len : us.length = m * wd
  lenOf : (Builtin.lenOf vy).run P w = .ok m w
  run : ∀ w', (∀ a, w'.cell? a = w.cell? a) → (Builtin.firstCells wd m vy).run P w' = .ok us.toArray w'
  is : ∀ i, i < m → ∀ f, f < wd → ∃ u, us[i * wd + f]? = some u ∧ (cell i f).Is g w u
  ok : ∀ i, i < m → ∀ f, f < wd → (cell i f).ok = true

theorem src_of_cells {wd m b o c : Nat} {cell : Nat → Nat → CV} (hok : ∀ i, i < m → ∀ f, f < wd → (cell i f).ok = true) (h : ∀ i, i < m → ∀ f, f < wd → ∃ u, w.cell? ⟨b, o + (i * wd + f), none⟩ = some u ∧ (cell i f).Is g w u) :
    ∃ us, SrcIs P g w wd m cell (.slice (some ⟨b, o, none⟩) m c) us := by
  have hall : ∀ j, j < m * wd → ∃ u, w.cell? ⟨b, o + j, none⟩ = some u := fun j hj => by
    have hwd : 0 < wd := by
      rcases Nat.eq_zero_or_pos wd with h | h
      · rw [h] at hj; omega
      · exact h
    obtain ⟨u, hu, _⟩ := h (j / wd) (Nat.div_lt_of_lt_mul (by rw [Nat.mul_comm]; exact hj)) (j % wd) (Nat.mod_lt _ hwd)
    rw [show j / wd * wd + j % wd = j by rw [Nat.mul_comm]; exact Nat.div_add_mod j wd] at hu
    exact ⟨u, hu⟩
  refine ⟨(List.range (m * wd)).map fun j => (w.cell? ⟨b, o + j, none⟩).getD undef, by simp, by simp [Builtin.lenOf], fun w' hw => ?_, fun i hi f hf => ?_, hok⟩
  · simp only [Builtin.firstCells]
    refine run_loadCells (P := P) w' ⟨b, o, none⟩ (m * wd) _ (fun j hj => ?_)
    obtain ⟨u, hu⟩ := hall j hj
    rw [Addr.add_off, hw, hu]; rfl
  · obtain ⟨u, hu, hiu⟩ := h i hi f hf
    have hlt : i * wd + f < m * wd := by
      have := Nat.mul_le_mul_right wd (show i + 1 ≤ m by omega)
      rw [Nat.add_mul] at this; omega
    refine ⟨u, ?_, hiu⟩
    simp [hlt, hu]

theorem src_empty {wd c : Nat} {cell : Nat → Nat → CV} {A : Option Addr} : SrcIs P g w wd 0 cell (.slice A 0 c) [] := by
  refine ⟨by simp, by simp [Builtin.lenOf], fun w' _ => ?_, fun i hi => absurd hi (by omega), fun i hi => absurd hi (by omega)⟩
  cases A with
  | none => simp [Builtin.firstCells]
  | some a => simp [Builtin.firstCells, loadCells, loadCellsFrom]

theorem srcP_sound (r : RelH E g H w) {wd : Nat} {y : AV} {vy : Value} {K : Nat → (Nat → Nat → CV) → Prop} (hy : y.Is g w vy) (h : srcP wd y H K) :
    ∃ m cell us, K m cell ∧ SrcIs P g w wd m cell vy us := by
  unfold srcP at h
  split at h
  · obtain ⟨A, rfl⟩ := hy
    exact ⟨0, _, [], h, src_empty⟩
  · rename_i m wd' k n cap
    split at h
    · rename_i ty wd2 rn rc cell hn
      obtain ⟨rfl, rfl, hle, hsh, hK⟩ := h
      rcases hy with ⟨rfl, rfl, A, rfl⟩ | ⟨p, hp, hwd, rfl⟩
      · exact ⟨0, _, [], hK, src_empty⟩
      · rcases r.ent m _ (nth_ent hn (by simp)) with ⟨hnone, _⟩ | ⟨b, o, cs, fz, hp', hb, hh, hf, hl, hc, hcell⟩
        · rw [hp] at hnone; cases hnone
        · rw [hp] at hp'
          obtain rfl := Option.some.inj hp'
          obtain ⟨us, hus⟩ := src_of_cells (P := P) (g := g) (w := w) (wd := wd2) (m := n) (b := b) (o := o + k * wd2) (c := cap) (cell := subCell k n cell) (fun i hi f hf => by rw [show subCell k n cell i f = cell (k + i) f from if_pos hi]; exact (isSh_ok (hsh i hi f hf)).2) (fun i hi f hf => by
            obtain ⟨u, hu, hiu⟩ := hcell (k + i) (by omega) f hf
            refine ⟨u, ?_, by rw [show subCell k n cell i f = cell (k + i) f from if_pos hi]; exact CV.At.share (isSh_ok (hsh i hi f hf)).1 hiu⟩
            rw [← hu]; congr 2; rw [Nat.add_mul]; omega)
          exact ⟨n, _, us, hK, hus⟩
    · exact h.elim
  · rename_i wd' n cell
    obtain ⟨hw, hsh, hK⟩ := h
    have hx2 : (CV.lst wd' n cell).Is g w vy := hy
    simp only [CV.At] at hx2
    obtain ⟨A, c, rfl, hnc, hx3⟩ := hx2
    rcases hx3 with rfl | ⟨b, o, rfl, hb, hc⟩
    · exact ⟨0, _, [], hK, src_empty⟩
    · rcases hw with rfl | rfl
      case inr => exact ⟨0, _, [], hK, src_empty⟩
      obtain ⟨us, hus⟩ := src_of_cells (P := P) (g := g) (w := w) (wd := wd') (m := n) (b := b) (o := o) (c := c) (cell := cell) (fun i hi f hf => by have := hsh i hi f hf; rw [Nat.zero_add] at this; exact (isSh_ok this).2) (fun k hk f hf => by obtain ⟨u, hu, hi⟩ := hc k hk f hf; exact ⟨u, hu, CV.At.ofBare hi⟩)
      exact ⟨n, _, us, hK, hus⟩
  · rename_i l
    obtain ⟨rfl, hK⟩ := h
    obtain rfl := (show vy = .string (bstr l) from hy)
    refine ⟨l.length, _, l.map fun b => .int .u8 (b.toNat : Int), hK, ⟨by simp, by simp [Builtin.lenOf, bstr_size], fun w' _ => ?_, fun i hi f hf => ?_, fun i hi f hf => by rcases byteCell_sh l i f with ⟨b, h⟩ | h <;> rw [h] <;> rfl⟩⟩
    · have : (bstr l).extract 0 l.length = bstr l := by rw [bstr_extract]; simp
      simp [Builtin.firstCells, this, bstr]
    · obtain rfl : f = 0 := by omega
      refine ⟨.int .u8 ((l.getD i 0).toNat : Int), ?_, by rw [byteCell_get l i hi]; rfl⟩
      simp [hi, List.getD]
  · exact h.elim

theorem SrcIs.is' {g' : Gh} {w' : World} {wd m : Nat} {cell : Nat → Nat → CV} {vy : Value} {us : List Value} (h : SrcIs P g w wd m cell vy us) (hm : ∀ b, g.κ b = .imm → g'.κ b = .imm ∧ w'.heap[b]? = w.heap[b]?) (hn : ∀ n p, g.ρ n = some p → g'.ρ n = some p) :
    ∀ i, i < m → ∀ f, f < wd → ∃ u, us[i * wd + f]? = some u ∧ (cell i f).Is g' w' u := fun i hi f hf => by
  obtain ⟨u, hu, hiu⟩ := h.is i hi f hf
  exact ⟨u, hu, CV.Is.mono hm hn hiu⟩

theorem run_append_fit (hT : TOk P T) {t t2 e ty wd m : Nat} (ht : P.underlying t = some (.slice e)) (h2 : (T t2).kind = .sl e ∨ (T t2).kind = .str) (hs : ∀ w, (sizeOf e).run P w = .ok wd w)
    {cell : Nat → Nat → CV} {vy : Value} {us : List Value} (hsrc : SrcIs P g w wd m cell vy us) (base : Option Addr) (n c : Nat) (hfit : n + m ≤ c) {w' : World}
    (hst : ∀ a, base = some a → (storeCells (a.add (n * wd)) us).run P w = .ok () w') (hno : base = none → w' = w) :
    (Builtin.append_ #[t, t2] ty #[.slice base n c, vy]).run P w = .ok (.slice base (n + m) c) w' := by
  have hf := hsrc.run w (fun _ => rfl)
  have key : ∀ d, (d = .slice e ∨ d = .string) → P.underlying t2 = some d → (Builtin.append_ #[t, t2] ty #[.slice base n c, vy]).run P w = .ok (.slice base (n + m) c) w' := fun d hd hu => by
    cases base with
    | none =>
      obtain rfl := hno rfl
      rcases hd with rfl | rfl <;> simp [Builtin.append_, run_underlying ht, hs, run_underlying hu, hsrc.lenOf, hfit, hf]
    | some a =>
      have := hst a rfl
      rcases hd with rfl | rfl <;> simp [Builtin.append_, run_underlying ht, hs, run_underlying hu, hsrc.lenOf, hfit, hf, this]
  rcases h2 with h | h
  · exact key _ (.inl rfl) (hT.sl h)
  · exact key _ (.inr rfl) (hT.str h)

theorem zeroCells_size (z : Array Value) (n : Nat) : (Builtin.zeroCells z n).size = n * z.size := by simp [Builtin.zeroCells]

theorem run_append_more (hT : TOk P T) {t t2 e ty m : Nat} (hne : (T e).kind ≠ .other) (hz : (T e).zero ≠ []) (hb : (T e).bytes ≤ 128) (ht : P.underlying t = some (.slice e)) (h2 : (T t2).kind = .sl e ∨ (T t2).kind = .str)
    {cell : Nat → Nat → CV} {vy : Value} {us : List Value} (hsrc : SrcIs P g w (T e).size m cell vy us) (base : Option Addr) (n c : Nat) (hbig : n + m ≤ 274877906944) (hmore : c < n + m)
    {olds : List Value} (hold : (Builtin.firstCells (T e).size n (.slice base n c)).run P w.drew = .ok olds.toArray w.drew) :
    ∃ (cap : Nat) (rest : Array Value), n + m ≤ cap ∧ rest.size = (cap - (n + m)) * (T e).zero.length ∧
      (Builtin.append_ #[t, t2] ty #[.slice base n c, vy]).run P w = .ok (.slice (some ⟨w.heap.size, 0, none⟩) (n + m) cap) (w.drew.alloc (.cells (olds.toArray ++ (us.toArray ++ rest)) e)) := by
  obtain ⟨i, hi, hi1, hi2, hi3⟩ := hT.info hne
  obtain ⟨z, hzrun, hzc⟩ := zero_run (P := P) hT hne hz
  have hf := hsrc.run w.drew (fun _ => rfl)
  have hn : ¬ (n + m ≤ c) := by omega
  have hs : ∀ w, (sizeOf e).run P w = .ok (T e).size w := fun w => hT.size hne w
  have hti : ∀ w, (typeInfo e).run P w = .ok i w := fun w => by simp [typeInfo, hi]
  have hfit : Builtin.nextslicecap (n + m) c * i.bytes ≤ 281474976710656 := by
    refine growslice_fits hmore ?_
    rw [hi2]
    have : (n + m) * (T e).bytes ≤ 274877906944 * 128 := Nat.mul_le_mul hbig hb
    omega
  have h48 : ¬ (Builtin.nextslicecap (n + m) c * i.bytes > 2 ^ 48) := by
    have : (2 : Nat) ^ 48 = 281474976710656 := by decide
    omega
  have h63 : ¬ ((((n + m : Nat) : Int)) > IntKind.i64.max) := by simp [IntKind.max, IntKind.bits, IntKind.signed]; omega
  refine ⟨grownCap w (n + m) c e, Builtin.zeroCells z.cells (grownCap w (n + m) c e - (n + m)), grownCap_ge w _ _ _, by rw [zeroCells_size, ← hzc]; simp, ?_⟩
  have key : ∀ d, (d = .slice e ∨ d = .string) → P.underlying t2 = some d → (Builtin.append_ #[t, t2] ty #[.slice base n c, vy]).run P w =
      .ok (.slice (some ⟨w.heap.size, 0, none⟩) (n + m) (grownCap w (n + m) c e)) (w.drew.alloc (.cells (olds.toArray ++ (us.toArray ++ Builtin.zeroCells z.cells (grownCap w (n + m) c e - (n + m)))) e)) := fun d hd hu => by
    have h63' : ¬ (9223372036854775807 < ((n : Int) + (m : Int))) := by omega
    have h48' : ¬ (281474976710656 < Builtin.nextslicecap (n + m) c * i.bytes) := by omega
    rcases hd with rfl | rfl <;>
      simp [Builtin.append_, run_underlying ht, hs, run_underlying hu, hsrc.lenOf, hn, h63', h48', hti, Question.forced, hold, hf, hzrun, newRow, grownCap]
  rcases h2 with h | h
  · exact key _ (.inl rfl) (hT.sl h)
  · exact key _ (.inr rfl) (hT.str h)

/-- An entry for a row that is not there. -/
theorem RelH.addNil (r : RelH E g H w) (e wd : Nat) (cell : Nat → Nat → CV) : RelH E g (H ++ [.row e wd 0 0 cell]) w := by
  refine ⟨fun m e' he' => ?_, r.inv, r.lt, fun m hm => r.dom m (by simp at hm; omega), fun b m hb => by have := r.rol b m hb; simp; omega, fun b m p hb => by have := r.rols b m p hb; simp; omega⟩
  rcases Nat.lt_or_ge m H.length with h | h
  · rw [List.getElem?_append_left h] at he'
    exact r.ent m e' he'
  · rw [List.getElem?_append_right h] at he'
    rcases Nat.eq_zero_or_pos (m - H.length) with h0 | h0
    · rw [h0] at he'
      simp only [List.getElem?_cons_zero, Option.some.injEq] at he'
      exact he' ▸ .inl ⟨r.dom m h, rfl, rfl⟩
    · rw [show m - H.length = (m - H.length - 1) + 1 by omega] at he'
      simp at he'

theorem mul_lt_of {k f wd n : Nat} (hk : k < n) (hf : f < wd) : k * wd + f < n * wd := by
  have := Nat.mul_le_mul_right wd (show k + 1 ≤ n by omega)
  rw [Nat.add_mul] at this; omega

theorem row_list (w : World) (b o n : Nat) (cells : Array Value) (ty : TypeId) (fz : Nat × Nat) (hh : w.heap[b]? = some (.cells cells ty fz)) (hn : o + n ≤ cells.size) :
    ∃ us : List Value, us.length = n ∧ ∀ j, j < n → us[j]? = w.cell? ⟨b, o + j, none⟩ := by
  refine ⟨(List.range n).map fun j => (w.cell? ⟨b, o + j, none⟩).getD undef, by simp, fun j hj => ?_⟩
  have : w.cell? ⟨b, o + j, none⟩ = some (cells[o + j]'(by omega)) := by simp [World.cell?, hh]
  rw [this]
  simp [hj, this]

set_option maxHeartbeats 1000000 in
theorem appendP_sound (hT : TOk P T) (r : RelH E g H w) {ts : Array TypeId} {ty : TypeId} {xs : List AV} {vs : List Value} {K : AV → List Ent → Prop} (hx : F2 (AV.Is g w) xs vs) (h : appendP T ts.toList xs H K) :
    ∃ g' H' w' x av, (Builtin.append_ ts ty vs.toArray).run P w = .ok x w' ∧ K av H' ∧ RelH E g' H' w' ∧ Step H.length g w g' w' ∧ av.Is g' w' x := by
  unfold appendP at h
  split at h
  · rename_i t t2 x y hts
    have hts' : ts = #[t, t2] := by apply Array.ext'; rw [hts]
    subst hts'
    match vs, hx with
    | [vx, vy], hx =>
      obtain ⟨hx, hy, _⟩ := hx
      split at h
      · rename_i e hk
        obtain ⟨hne, hb, hzal, hza, h2, h⟩ := h
        have hz := za_ne (hT.za hne) hza
        have hzl : (T e).zero.length = (T e).size := by rw [← hzal]; exact (zOk_is g w (hT.za hne)).length.symm
        have hu := hT.sl hk
        have hs : ∀ w, (sizeOf e).run P w = .ok (T e).size w := fun w => hT.size hne w
        obtain ⟨m, src, us, h', hsrc⟩ := srcP_sound (P := P) r hy h
        clear h
        have h := h'
        clear h'
        unfold bx2 at h
        have himm : ∀ b, g.κ b = .imm → b < w.heap.size := fun b hb => by
          rcases Nat.lt_or_ge b w.heap.size with h | h
          · exact h
          · rw [r.lt b h] at hb; cases hb
        have nothing : ∀ A : Option Addr, m = 0 → (Builtin.append_ #[t, t2] ty [Value.slice A 0 0, vy].toArray).run P w = .ok (.slice A 0 0) w := fun A hm => by
          subst hm
          have hus : us = [] := by have := hsrc.len; simpa using this
          subst hus
          exact run_append_fit (P := P) (w' := w) hT hu h2 hs hsrc A 0 0 (by omega) (fun a _ => rfl) (fun _ => rfl)
        have first0 : ∀ A : Option Addr, (Builtin.firstCells (T e).size 0 (.slice A 0 0)).run P w.drew = .ok ([] : List Value).toArray w.drew := fun A => by
          cases A with
          | none => simp [Builtin.firstCells]
          | some a => simp [Builtin.firstCells, loadCells, loadCellsFrom]
        split at h
        · -- onto nothing
          obtain ⟨hm, hK⟩ := h
          obtain ⟨A, rfl⟩ := hx
          by_cases hm0 : m = 0
          · subst hm0
            exact ⟨g, _, w, _, _, nothing A rfl, hK 0 (Nat.le_refl _), r.addNil e _ _, Step.refl _ _ _, .inl ⟨rfl, rfl, A, rfl⟩⟩
          · obtain ⟨cap, rest, hcap, hrest, hrun⟩ := run_append_more (P := P) (ty := ty) hT hne hz hb hu h2 hsrc A 0 0 (by omega) (by omega) (first0 A)
            rw [Nat.zero_add] at hrun hcap hrest
            have hlen := hsrc.len
            obtain ⟨g', hR, hS, hI⟩ := new_row r e (T e).size m cap src _ (0, 0) (w.drew.alloc (.cells (([] : List Value).toArray ++ (us.toArray ++ rest)) e)) rfl rfl rfl (by simp)
              (fun b hb => Below.heap_alloc w.drew _ b hb) (by simp [World.alloc, World.drew, -World.alloc_eq, -World.drew_eq]; rfl) (.inl (Nat.le_refl _)) hcap
              (by simp [hlen, hrest, hzl]; rw [← Nat.add_mul]; exact Nat.mul_le_mul_right _ (by omega)) (fun k hk f hf => by
                obtain ⟨u, hu, hi⟩ := hsrc.is k hk f hf
                refine ⟨u, ?_, hi⟩
                have hlt : k * (T e).size + f < us.length := by rw [hlen]; exact mul_lt_of hk hf
                simp [Array.getElem?_append, hlt]
                rw [List.getElem?_eq_getElem hlt] at hu
                simpa using hu)
            exact ⟨g', _, _, _, _, hrun, hK cap hcap, hR, hS, hI⟩
        · rename_i n wd k len cap _
          split at h
          · rename_i ty0 wd2 rn rc cell hn
            obtain ⟨rfl, rfl, rfl, rfl, hlr, hlc, hcr, hbig, hK⟩ := h
            have hnH := nth_ent hn (by simp)
            have hnl : n < H.length := (List.getElem?_eq_some_iff.1 hnH).1
            have hlen := hsrc.len
            simp only [setn_set] at hK
            -- a new block for all of it
            have grow : ∀ (base : Option Addr) (n0 c0 : Nat) (olds : List Value), n0 = len → c0 < len + m → vx = .slice base n0 c0 →
                (Builtin.firstCells (T ty0).size n0 (.slice base n0 c0)).run P w.drew = .ok olds.toArray w.drew → olds.length = len * (T ty0).size →
                (∀ i, i < len → ∀ f, f < (T ty0).size → ∃ u, olds[i * (T ty0).size + f]? = some u ∧ (cell i f).At g w (some (n, [i, f])) u) →
                ∃ g' H' w' x av, (Builtin.append_ #[t, t2] ty [vx, vy].toArray).run P w = .ok x w' ∧ K av H' ∧ RelH E g' H' w' ∧ Step H.length g w g' w' ∧ av.Is g' w' x := by
              intro base n0 c0 olds hn0 hc0 hvx hfirst holen hois
              subst hn0; subst hvx
              obtain ⟨cap', rest, hcap', hrest, hrun⟩ := run_append_more (P := P) (ty := ty) hT hne hz hb hu h2 hsrc base n0 c0 hbig hc0 hfirst
              have hsz : (olds.toArray ++ (us.toArray ++ rest)).size = cap' * (T ty0).size := by
                simp [hlen, hrest, hzl, holen]
                rw [← Nat.add_mul, ← Nat.add_mul]
                congr 1
                omega
              generalize hW : (w.drew.alloc (.cells (olds.toArray ++ (us.toArray ++ rest)) ty0)) = w' at hrun
              have hsize : w'.heap.size = w.heap.size + 1 := by rw [← hW]; simp
              have hnewb : w'.heap[w.heap.size]? = some (.cells (olds.toArray ++ (us.toArray ++ rest)) ty0 (0, 0)) := by
                rw [← hW]; simp [World.alloc, World.drew, -World.alloc_eq, -World.drew_eq]
              have hold : ∀ b, b < w.heap.size → w'.heap[b]? = w.heap[b]? := fun b hb => by rw [← hW]; exact Below.heap_alloc w.drew _ b hb
              have hkimm : ∀ b, g.κ b = .imm → (g.move n H.length w.heap.size 0 (T ty0).size).κ b = .imm ∧ w'.heap[b]? = w.heap[b]? := fun b hb => by
                have hl := himm b hb
                refine ⟨?_, hold b hl⟩
                simp only [Gh.move]
                rw [if_neg (by omega), hb]
              have hext : ∀ x p, g.ρ x = some p → (g.move n H.length w.heap.size 0 (T ty0).size).ρ x = some p := r.ext (fun x hx => by simp only [Gh.move]; rw [if_neg (by omega)])
              have hR := RelH.move (w' := w') n hnl r (.row ty0 (T ty0).size (n0 + m) cap' (appCell n0 cell src)) w.heap.size 0 (T ty0).size (.inr rfl) (by omega)
                (by rw [← hW]; rfl) (by rw [← hW]; rfl) (by rw [← hW]; rfl) (by omega) (fun b hb _ => hold b hb) (by
                  refine .inr ⟨w.heap.size, 0, _, (0, 0), by simp [Gh.move], by simp [Gh.move], hnewb, .inl (Nat.le_refl _), hcap', by rw [hsz]; omega, fun i hi f hf => ?_⟩
                  by_cases hil : i < n0
                  · obtain ⟨u, hu, hiu⟩ := hois i hil f hf
                    have hlt : i * (T ty0).size + f < olds.length := by rw [holen]; exact mul_lt_of hil hf
                    refine ⟨u, ?_, ?_⟩
                    · simp only [World.cell?, hnewb, Option.isSome_none, Bool.false_eq_true, if_false, Nat.zero_add]
                      rw [Array.getElem?_append_left (by simpa using hlt)]
                      simpa using hu
                    · have : appCell n0 cell src i f = cell i f := by simp [appCell, hil]
                      rw [this]
                      refine CV.At.move hkimm hext (fun b q hb => ?_) hiu
                      have hl : b < w.heap.size := by
                        rcases Nat.lt_or_ge b w.heap.size with h | h
                        · exact h
                        · rw [r.lt b h] at hb; cases hb
                      refine ⟨?_, hold b hl⟩
                      simp only [Gh.move]
                      rw [if_neg (by omega), hb]
                      simp
                  · obtain ⟨u, hu, hiu⟩ := hsrc.is (i - n0) (by omega) f hf
                    have hlt : (i - n0) * (T ty0).size + f < us.length := by rw [hlen]; exact mul_lt_of (by omega) hf
                    have hidx : i * (T ty0).size + f = olds.length + ((i - n0) * (T ty0).size + f) := by
                      rw [holen, ← Nat.add_assoc, ← Nat.add_mul]
                      congr 2
                      omega
                    refine ⟨u, ?_, ?_⟩
                    · simp only [World.cell?, hnewb, Option.isSome_none, Bool.false_eq_true, if_false, Nat.zero_add]
                      rw [hidx, Array.getElem?_append_right (by simp)]
                      simp only [List.size_toArray, Nat.add_sub_cancel_left]
                      rw [Array.getElem?_append_left (by simpa using hlt)]
                      simpa using hu
                    · have : appCell n0 cell src i f = src (i - n0) f := by simp [appCell, hil]
                      rw [this]
                      exact CV.At.lift _ (CV.Is.mono hkimm hext hiu))
              exact ⟨_, _, _, _, _, hrun, hK cap' hcap', hR.1, hR.2, .inr ⟨⟨w.heap.size, 0, (T ty0).size⟩, by simp [Gh.move], rfl, by simp⟩⟩
            rcases hx with ⟨rfl, rfl, A, rfl⟩ | ⟨p, hp, hwd, rfl⟩
            · by_cases hm0 : m = 0
              · subst hm0
                refine ⟨g, _, w, _, _, nothing A rfl, hK 0 (Nat.le_refl _), ?_, ?_, .inl ⟨rfl, rfl, A, rfl⟩⟩
                · exact (by simpa using RelH.addNil (RelH.kill n r) ty0 (T ty0).size (appCell 0 cell src))
                · exact Step.refl _ _ _
              · exact grow A 0 0 [] rfl (by omega) rfl (first0 A) (by simp) (fun i hi => absurd hi (by omega))
            · rcases r.ent n _ hnH with ⟨hnone, _⟩ | ⟨b, o, cells, fz, hp', hbk, hh, hf, hl, hcap, hcell⟩
              · rw [hp] at hnone; cases hnone
              · rw [hp] at hp'
                obtain rfl := Option.some.inj hp'
                simp only [Nat.zero_mul, Nat.add_zero] at hK grow ⊢
                by_cases hfit : len + m ≤ cap
                · -- in place
                  have hcapw : cap * (T ty0).size ≤ rc * (T ty0).size := Nat.mul_le_mul_right _ hcr
                  have hlm : (len + m) * (T ty0).size ≤ cap * (T ty0).size := Nat.mul_le_mul_right _ hfit
                  have hlm2 : (len + m) * (T ty0).size = len * (T ty0).size + m * (T ty0).size := Nat.add_mul _ _ _
                  have hexi : ∀ i, i < rc * (T ty0).size → ∃ u, w.cell? ⟨b, o + i, none⟩ = some u := fun i hi => by
                    refine ⟨cells[o + i]'(by omega), ?_⟩
                    simp [World.cell?, hh]
                  have hfr : ∀ i, i < rc * (T ty0).size → w.frozen? ⟨b, o + i, none⟩ = false := fun i hi => by
                    simp only [World.frozen?, hh]
                    rcases hf with hf | hf <;> simp <;> omega
                  have hone : ∀ u ∈ us, u.oneCell' = true := fun u hu => by
                    obtain ⟨j, hj⟩ := List.getElem?_of_mem hu
                    have hjl : j < m * (T ty0).size := by rw [← hlen]; exact (List.getElem?_eq_some_iff.1 hj).1
                    have hwd : 0 < (T ty0).size := by
                      rcases Nat.eq_zero_or_pos (T ty0).size with h | h
                      · rw [h] at hjl; omega
                      · exact h
                    obtain ⟨u', hu', hiu⟩ := hsrc.is (j / (T ty0).size) (Nat.div_lt_of_lt_mul (by rw [Nat.mul_comm]; exact hjl)) (j % (T ty0).size) (Nat.mod_lt _ hwd)
                    rw [show j / (T ty0).size * (T ty0).size + j % (T ty0).size = j by rw [Nat.mul_comm]; exact Nat.div_add_mod j _, hj] at hu'
                    obtain rfl := Option.some.inj hu'
                    exact CV.At.one (hsrc.ok _ (Nat.div_lt_of_lt_mul (by rw [Nat.mul_comm]; exact hjl)) _ (Nat.mod_lt _ hwd)) hiu
                  have hst := run_storeCells_cells (P := P) b (o + len * (T ty0).size) us 0 w (fun i hi => by
                      obtain ⟨u, hu⟩ := hexi (len * (T ty0).size + i) (by omega)
                      rw [show o + len * (T ty0).size + 0 + i = o + (len * (T ty0).size + i) by omega, hu]; rfl)
                    (fun i hi => by
                      rw [show o + len * (T ty0).size + 0 + i = o + (len * (T ty0).size + i) by omega]
                      exact hfr _ (by omega)) hone
                  rw [Nat.add_zero] at hst
                  have hrun := run_append_fit (P := P) (ty := ty) hT hu h2 hs hsrc (some ⟨b, o, none⟩) len cap hfit (w' := w.setCells b (o + len * (T ty0).size) us)
                    (fun a ha => by
                      obtain rfl := Option.some.inj ha
                      rw [Addr.add_off]; exact hst) (fun h => by cases h)
                  obtain ⟨cells', hh', hsz'⟩ := setCells_heap b us (o + len * (T ty0).size) w cells ty0 fz hh
                  obtain ⟨ho1, ho2, ho3⟩ := setCells_os b us (o + len * (T ty0).size) w
                  have hoth : ∀ c, g.κ c ≠ .nm n → (w.setCells b (o + len * (T ty0).size) us).heap[c]? = w.heap[c]? := fun c hc => setCells_other b c (fun e => hc (by rw [e]; exact hbk)) _ _ _
                  have hbl : b < w.heap.size := by
                    rcases Nat.lt_or_ge b w.heap.size with h | h
                    · exact h
                    · rw [r.lt b h] at hbk; cases hbk
                  have hkimm : ∀ c, g.κ c = .imm → (g.move n H.length b o (T ty0).size).κ c = .imm ∧ (w.setCells b (o + len * (T ty0).size) us).heap[c]? = w.heap[c]? := fun c hc => by
                    refine ⟨?_, hoth c (by rw [hc]; simp)⟩
                    simp only [Gh.move]
                    rw [if_neg (fun e => by rw [e, hbk] at hc; cases hc), hc]
                  have hext : ∀ x p, g.ρ x = some p → (g.move n H.length b o (T ty0).size).ρ x = some p := r.ext (fun x hx => by simp only [Gh.move]; rw [if_neg (by omega)])
                  have hR := RelH.move (w' := w.setCells b (o + len * (T ty0).size) us) n hnl r (.row ty0 (T ty0).size (len + m) cap (appCell len cell src)) b o (T ty0).size (.inl hbk) (by rw [setCells_size]; exact hbl)
                    ho1 ho2 ho3 (by rw [setCells_size]; exact Nat.le_refl _) (fun c _ hc => hoth c hc) (by
                      refine .inr ⟨b, o, cells', fz, by simp [Gh.move], by simp [Gh.move], hh', by rcases hf with hf | hf <;> omega, hfit, by omega, fun i hi f hf' => ?_⟩
                      by_cases hil : i < len
                      · obtain ⟨u, hu, hiu⟩ := hcell i (by omega) f hf'
                        have hlt := mul_lt_of hil hf'
                        refine ⟨u, ?_, ?_⟩
                        · rw [World.cell?_setCells_out, hu]
                          intro _ _
                          simp only
                          omega
                        · have : appCell len cell src i f = cell i f := by simp [appCell, hil]
                          rw [this]
                          refine CV.At.move hkimm hext (fun c q hc => ⟨?_, hoth c (by rw [hc]; simp)⟩) hiu
                          simp only [Gh.move]
                          rw [if_neg (fun e => by rw [e, hbk] at hc; cases hc), hc]
                          simp
                      · obtain ⟨u, hu, hiu⟩ := hsrc.is (i - len) (by omega) f hf'
                        have hlt : (i - len) * (T ty0).size + f < us.length := by rw [hlen]; exact mul_lt_of (by omega) hf'
                        have hidx : i * (T ty0).size + f = len * (T ty0).size + ((i - len) * (T ty0).size + f) := by
                          rw [← Nat.add_assoc, ← Nat.add_mul]
                          congr 2
                          omega
                        refine ⟨u, ?_, ?_⟩
                        · rw [hidx, ← Nat.add_assoc]
                          rw [World.cell?_setCells_in b us (o + len * (T ty0).size) w (fun i hi => by
                            obtain ⟨u, hu⟩ := hexi (len * (T ty0).size + i) (by omega)
                            rw [show o + len * (T ty0).size + i = o + (len * (T ty0).size + i) by omega, hu]; rfl) _ hlt]
                          rw [List.getElem?_eq_getElem hlt] at hu
                          exact hu
                        · have : appCell len cell src i f = src (i - len) f := by simp [appCell, hil]
                          rw [this]
                          exact CV.At.lift _ (CV.Is.mono hkimm hext hiu))
                  exact ⟨_, _, _, _, _, hrun, hK cap hfit, hR.1, hR.2, .inr ⟨⟨b, o, (T ty0).size⟩, by simp [Gh.move], rfl, by simp⟩⟩
                · have hlr2 : len * (T ty0).size ≤ rc * (T ty0).size := Nat.mul_le_mul_right _ (by omega)
                  obtain ⟨us0, hl0, hus0⟩ := row_list w b o (len * (T ty0).size) cells ty0 fz hh (by clear hK hcell grow; omega)
                  refine grow (some ⟨b, o, none⟩) len cap us0 rfl (by clear hK hcell grow; omega) rfl ?_ hl0 (fun i hi f hf' => ?_)
                  · refine run_firstCells_some w.drew _ len ⟨b, o, none⟩ len cap us0 hl0 (fun j v hj => ?_)
                    have hjl : j < len * (T ty0).size := by rw [← hl0]; exact (List.getElem?_eq_some_iff.1 hj).1
                    rw [Addr.add_off, World.cell?_drew, ← hus0 j hjl]; exact hj
                  · obtain ⟨u, hu, hiu⟩ := hcell i (Nat.lt_of_lt_of_le hi hlr) f hf'
                    exact ⟨u, by rw [hus0 _ (mul_lt_of hi hf')]; exact hu, hiu⟩
          · exact h.elim
        · exact h.elim
      · exact h.elim
  · exact h.elim
end
end Go.V
