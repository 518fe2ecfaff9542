/- V, part 7: new boxes and rows; append. V, part 8: append; conversions between texts and bytes. V, part 9: conversions; every operation. V, part 10: one operation: what it does to an abstract state; calls. V, part 11: an operation does what its state says. V, part 12: regions: one after another, and in whatever order. -/
import Derived.Test.YtdpjmfipgkblfaaGreatDoorV6
import Derived.Lib.ConvBytes
import Derived.Laws.AppendOwn
import Derived.Laws.BytesString
import Derived.Still
section
set_option linter.unusedSimpArgs false
set_option linter.unusedVariables false
namespace Go.V
open Go Go.RowKit

/-- So many rows of wd cells. -/
def chunk (wd : Nat) : Nat → List CV → List (List CV)
  | 0, _ => []
  | n + 1, l => l.take wd :: chunk wd n (l.drop wd)
theorem chunk_at (wd : Nat) : ∀ (n : Nat) (l : List CV) (k f : Nat), k < n → f < wd → at2 (chunk wd n l) k f = l.getD (k * wd + f) (.bool false)
  | n + 1, l, 0, f, _, hf => by
    simp only [at2, chunk, List.getD_cons_zero, Nat.zero_mul, Nat.zero_add]
    simp [List.getD, List.getElem?_take, hf]
  | n + 1, l, k + 1, f, hk, hf => by
    have := chunk_at wd n (l.drop wd) k f (by omega) hf
    simp only [at2, chunk, List.getD_cons_succ] at this ⊢
    rw [this]
    simp only [List.getD, List.getElem?_drop]
    rw [show wd + (k * wd + f) = (k + 1) * wd + f by rw [Nat.add_mul]; omega]
def buildSliceP (T : Nat → TI) (t n : Nat) (parts : List (Nat × AV)) (H : List Ent) (K : AV → List Ent → Prop) : Prop :=
  match (T t).kind with
  | .sl e => (T e).kind ≠ .other ∧ n * (T e).size ≤ 16777216 ∧ (T e).za.length = (T e).size ∧ (T e).za ≠ [] ∧
    fillP (fun i => some (i * (T e).size, (T e).size)) ((List.replicate n (T e).za).flatten) (parts.map fun p => (p.1, typedA T e p.2)) (bx fun cs =>
      K (.c (.sl H.length (T e).size 0 n n)) (H ++ [.row e (T e).size n n (at2 (chunk (T e).size n cs))]))
  | _ => False
def makeSliceP (T : Nat → TI) (t : Nat) (l c : AV) (H : List Ent) (K : AV → List Ent → Prop) : Prop :=
  match (T t).kind, l, c with
  | .sl e, .s (.c (.int _ l)), .s (.c (.int _ c)) => (T e).kind ≠ .other ∧ (T e).za.length = (T e).size ∧ (T e).za ≠ [] ∧ 0 ≤ l ∧ l ≤ c ∧ c ≤ 1099511627776 ∧ (T e).bytes ≤ 128 ∧
      K (.c (.sl H.length (T e).size 0 l.toNat c.toNat)) (H ++ [.row e (T e).size l.toNat c.toNat (at2 (List.replicate l.toNat (T e).za))])
  | _, _, _ => False

section
variable {P : Program} {T : Nat → TI} {E : Env} {g : Gh} {w : World} {H : List Ent}

theorem sees_alloc (w : World) (o : Obj) : Sees w (w.alloc o) := fun a u h => by
  have hb : a.block < w.heap.size := by
    rcases Nat.lt_or_ge a.block w.heap.size with h' | h'
    · exact h'
    · simp [World.cell?, Array.getElem?_eq_none h'] at h
  rw [World.cell?_of_block (w := w) (Below.heap_alloc w o a.block hb)]; exact h
/-- A new box. -/
theorem new_box (r : RelH E g H w) (t : Nat) {cs : List CV} {us : List Value} (hF : F2 (CV.Is g w) cs us) :
    ∃ g' w', w' = w.alloc (.cells us.toArray t) ∧ RelH E g' (H ++ [.box t cs]) w' ∧ Step H.length g w g' w' ∧ (AV.c (.ptr H.length 0 0)).Is g' w' (.pointer (some ⟨w.heap.size, 0, none⟩)) := by
  have hold : ∀ b, b < w.heap.size → (w.alloc (.cells us.toArray t)).heap[b]? = w.heap[b]? := fun b hb => Below.heap_alloc w _ b hb
  have hne : ∀ b, g.κ b = .imm → b < w.heap.size := fun b hb => by
    rcases Nat.lt_or_ge b w.heap.size with h | h
    · exact h
    · rw [r.lt b h] at hb; cases hb
  have h := RelH.alloc (w' := w.alloc (.cells us.toArray t)) r (.box t cs) 0 cs.length rfl rfl rfl (by simp) hold (by
    refine ⟨w.heap.size, us.toArray, by simp [Gh.add], by simp [Gh.add], by simp [World.alloc, -World.alloc_eq], by simp [hF.length], fun i c hc => ?_⟩
    obtain ⟨u, hu, hi⟩ := F2.get hF hc
    refine ⟨u, by simpa using hu, CV.At.lift _ (CV.Is.mono (fun b hb => ?_) (fun m p hp => ?_) hi)⟩
    · have hl := hne b hb
      refine ⟨?_, hold b hl⟩
      simp only [Gh.add]; rw [if_neg (by omega)]; exact hb
    · simp only [Gh.add]
      split
      · rename_i hm; rw [r.dom m (by omega)] at hp; cases hp
      · exact hp)
  exact ⟨_, _, rfl, h.1, h.2, ⟨⟨w.heap.size, 0, cs.length⟩, by simp [Gh.add], by simp⟩⟩

theorem boxP_sound (r : RelH E g H w) {t : Nat} {v : AV} {K : AV → List Ent → Prop} {u : Value} (hv : v.Is g w u) (h : boxP T t v H K) :
    ∃ g' H' w' x av, (Instr.box t u).run P w = .ok x w' ∧ K av H' ∧ RelH E g' H' w' ∧ Step H.length g w g' w' ∧ av.Is g' w' x ∧ Sees w w' := by
  unfold boxP at h
  split at h
  · split at h
    · rename_i y cs hcs
      have hF := SV.cells_is hcs (typedS_is (T := T) (t := t) hv)
      obtain ⟨g', w', hw, hR, hS, hI⟩ := new_box r t hF
      refine ⟨g', _, w', _, _, ?_, h, hR, hS, hI, hw ▸ sees_alloc _ _⟩
      rw [hw]
      simp [Instr.box, newVar, newRow]
    · exact h.elim
  · exact h.elim

theorem allocP_sound (hT : TOk P T) (r : RelH E g H w) {t : Nat} {K : AV → List Ent → Prop} (h : allocP T t H K) :
    ∃ g' H' w' x av, (Instr.alloc t true (.tuple #[])).run P w = .ok x w' ∧ K av H' ∧ RelH E g' H' w' ∧ Step H.length g w g' w' ∧ av.Is g' w' x ∧ Sees w w' := by
  obtain ⟨hk, hz, h⟩ := h
  obtain ⟨z, hzr, hzc⟩ := zero_run (P := P) hT hk (za_ne (hT.za hk) hz)
  obtain ⟨g', w', hw, hR, hS, hI⟩ := new_box r t (zOk_is g w (hT.za hk))
  refine ⟨g', _, w', _, _, ?_, h, hR, hS, hI, hw ▸ sees_alloc _ _⟩
  rw [hw]
  have : z.cells = (T t).zero.toArray := by rw [← hzc]
  simp [Instr.alloc, hzr, newVar, newRow, this]

/-- A new row of data. -/
theorem new_row (r : RelH E g H w) (e wd n c : Nat) (cell : Nat → Nat → CV) (cs : Array Value) (fz : Nat × Nat) (w' : World)
    (hos : w'.os = w.os) (htape : w'.tape = w.tape) (hout : w'.output = w.output) (hsz : w'.heap.size = w.heap.size + 1)
    (hold : ∀ b, b < w.heap.size → w'.heap[b]? = w.heap[b]?) (hnew : w'.heap[w.heap.size]? = some (.cells cs e fz)) (hf : fz.2 ≤ fz.1 ∨ c * wd ≤ fz.1)
    (hnc : n ≤ c) (hc : c * wd ≤ cs.size) (hcell : ∀ k, k < n → ∀ f, f < wd → ∃ u, cs[k * wd + f]? = some u ∧ (cell k f).Is g w u) :
    ∃ g', RelH E g' (H ++ [.row e wd n c cell]) w' ∧ Step H.length g w g' w' ∧ (AV.c (.sl H.length wd 0 n c)).Is g' w' (.slice (some ⟨w.heap.size, 0, none⟩) n c) := by
  have hne : ∀ b, g.κ b = .imm → b < w.heap.size := fun b hb => by
    rcases Nat.lt_or_ge b w.heap.size with h | h
    · exact h
    · rw [r.lt b h] at hb; cases hb
  have h := RelH.alloc (w' := w') r (.row e wd n c cell) 0 wd hos htape hout hsz hold (by
    refine .inr ⟨w.heap.size, 0, cs, fz, by simp [Gh.add], by simp [Gh.add], hnew, by simpa using hf, hnc, by omega, fun k hk f hf' => ?_⟩
    obtain ⟨u, hu, hi⟩ := hcell k hk f hf'
    refine ⟨u, by simp [World.cell?, hnew, hu], CV.At.lift _ (CV.Is.mono (fun b hb => ?_) (fun m p hp => ?_) hi)⟩
    · have hl := hne b hb
      refine ⟨?_, hold b hl⟩
      simp only [Gh.add]; rw [if_neg (by omega)]; exact hb
    · simp only [Gh.add]
      split
      · rename_i hm; rw [r.dom m (by omega)] at hp; cases hp
      · exact hp)
  exact ⟨_, h.1, h.2, .inr ⟨⟨w.heap.size, 0, wd⟩, by simp [Gh.add], rfl, by simp⟩⟩

theorem replicate_flatten_getElem {α : Type} (l : List α) : ∀ (n k f : Nat), k < n → f < l.length → ((List.replicate n l).flatten)[k * l.length + f]? = l[f]?
  | n + 1, 0, f, _, hf => by
    rw [List.replicate_succ, List.flatten_cons, Nat.zero_mul, Nat.zero_add, List.getElem?_append_left hf]
  | n + 1, k + 1, f, hk, hf => by
    rw [List.replicate_succ, List.flatten_cons, List.getElem?_append_right (by rw [Nat.add_mul]; omega)]
    rw [show (k + 1) * l.length + f - l.length = k * l.length + f by rw [Nat.add_mul]; omega]
    exact replicate_flatten_getElem l n k f (by omega) hf

theorem range_map_mod (zs : List Value) (n : Nat) (hz : zs ≠ []) : ((Array.range (n * zs.length)).map (zs.toArray[· % zs.toArray.size]!)).toList = (List.replicate n zs).flatten := by
  have hpos : 0 < zs.length := List.length_pos_iff.2 hz
  apply List.ext_getElem?
  intro i
  by_cases hi : i < n * zs.length
  · have hk : i / zs.length < n := Nat.div_lt_of_lt_mul (by rw [Nat.mul_comm]; exact hi)
    have hf : i % zs.length < zs.length := Nat.mod_lt _ hpos
    have := replicate_flatten_getElem zs n (i / zs.length) (i % zs.length) hk hf
    rw [show i / zs.length * zs.length + i % zs.length = i by rw [Nat.mul_comm]; exact Nat.div_add_mod i zs.length] at this
    rw [this]
    simp [hi, hf]
  · rw [List.getElem?_eq_none (by simp; omega), List.getElem?_eq_none (by simp [List.length_flatten]; omega)]

theorem foldl_size (off : Nat) : ∀ (l : List (Value × Nat)) (cells : Array Value), (l.foldl (fun (cs : Array Value) (p : Value × Nat) => cs.setIfInBounds (off + p.2) p.1) cells).size = cells.size
  | [], _ => rfl
  | p :: l, cells => by rw [List.foldl_cons, foldl_size off l]; simp
theorem fill_size {place : Nat → Option (Nat × Nat)} : ∀ {vs : List (Nat × Value)} {cells cells' : Array Value}, Instr.fill place cells vs = some cells' → cells'.size = cells.size
  | [], cells, cells', h => by simp only [Instr.fill, Option.some.injEq] at h; rw [h]
  | (i, v) :: vs, cells, cells', h => by
    unfold Instr.fill at h
    split at h
    · cases h
    · split at h
      · cases h
      · have := fill_size h
        rw [this]
        show (v.cells.zipIdx.foldl (fun (cs : Array Value) (p : Value × Nat) => cs.setIfInBounds (_ + p.2) p.1) cells).size = _
        rw [← Array.foldl_toList]
        exact foldl_size _ _ _
theorem F2_flatten {R : CV → Value → Prop} {l : List CV} {m : List Value} (h : F2 R l m) : ∀ n, F2 R (List.replicate n l).flatten (List.replicate n m).flatten
  | 0 => trivial
  | n + 1 => by
    rw [List.replicate_succ, List.replicate_succ, List.flatten_cons, List.flatten_cons]
    exact F2.append h (F2_flatten h n)

theorem typedE_parts {T : Nat → TI} {e : Nat} : ∀ {parts : List (Nat × AV)} {vs : List (Nat × Value)}, F2 (fun (a : Nat × AV) (b : Nat × Value) => a.1 = b.1 ∧ a.2.Is g w b.2) parts vs →
    F2 (fun (a : Nat × AV) (b : Nat × Value) => a.1 = b.1 ∧ a.2.Is g w b.2) (parts.map fun p => (p.1, typedA T e p.2)) vs
  | [], [], _ => trivial
  | _ :: _, _ :: _, h => ⟨⟨h.1.1, typedA_is h.1.2⟩, typedE_parts h.2⟩

theorem buildSliceP_sound (hT : TOk P T) (r : RelH E g H w) {t n : Nat} {parts : List (Nat × AV)} {vs : List (Nat × Value)} {K : AV → List Ent → Prop}
    (hp : F2 (fun (a : Nat × AV) (b : Nat × Value) => a.1 = b.1 ∧ a.2.Is g w b.2) parts vs) (h : buildSliceP T t n parts H K) :
    ∃ g' H' w' x av, (Instr.buildSlice t n vs.toArray).run P w = .ok x w' ∧ K av H' ∧ RelH E g' H' w' ∧ Step H.length g w g' w' ∧ av.Is g' w' x ∧ Sees w w' := by
  unfold buildSliceP at h
  split at h
  · rename_i e hk
    obtain ⟨hne, hbig, hzal, hza, h⟩ := h
    have hz := za_ne (hT.za hne) hza
    have hzl : (T e).zero.length = (T e).size := by rw [← hzal]; exact (zOk_is g w (hT.za hne)).length.symm
    have hu := hT.sl hk
    have hs := hT.size hne w
    obtain ⟨z, hzr, hzc⟩ := zero_run (P := P) hT hne hz
    have hzsz : z.cells.size = (T e).size := by rw [← hzl, ← hzc]; simp
    have hpos : 0 < (T e).size := by rw [← hzl]; exact List.length_pos_iff.2 hz
    have hzero : (if n * (T e).size = 0 then (pure #[] : Sem (Array Value)) else do pure (← zeroValue e).cells).run P w = .ok (if n * (T e).size = 0 then #[] else z.cells) w := by
      split <;> simp [hzr]
    have hz2 : ((Array.range (n * (T e).size)).map ((if n * (T e).size = 0 then #[] else z.cells)[· % (if n * (T e).size = 0 then #[] else z.cells).size]!)).toList = (List.replicate n (T e).zero).flatten := by
      split
      · rename_i h0
        have : n = 0 := by
          rcases Nat.mul_eq_zero.1 h0 with h | h
          · exact h
          · omega
        subst this
        simp
      · have := range_map_mod (T e).zero n hz
        rw [hzl] at this
        rw [← this, ← hzc]
    have hc0 : F2 (CV.Is g w) ((List.replicate n (T e).za).flatten) ((Array.range (n * (T e).size)).map ((if n * (T e).size = 0 then #[] else z.cells)[· % (if n * (T e).size = 0 then #[] else z.cells).size]!)).toList := by
      rw [hz2]; exact F2_flatten (zOk_is g w (hT.za hne)) n
    obtain ⟨cells', cs', hfill, hK, hc⟩ := fillP_sound (typedE_parts hp) hc0 h
    simp only [bx_app] at hK
    have hfl : cells'.size = n * (T e).size := by
      rw [fill_size hfill]; simp
    have hcl : cs'.length = n * (T e).size := by rw [hc.length]; simpa using hfl
    obtain ⟨g', hR, hS, hI⟩ := new_row r e (T e).size n n (at2 (chunk (T e).size n cs')) cells' (0, 0) (w.alloc (.cells cells' e)) rfl rfl rfl (by simp) (fun b hb => Below.heap_alloc w _ b hb)
      (by simp [World.alloc, -World.alloc_eq]) (.inl (Nat.le_refl _)) (Nat.le_refl _) (by omega) (fun k hk' f hf => by
        have hlt : k * (T e).size + f < cells'.size := by
          have := Nat.mul_le_mul_right (T e).size (show k + 1 ≤ n by omega)
          rw [Nat.add_mul] at this; omega
        have hg : cells'.toList[k * (T e).size + f]? = some cells'[k * (T e).size + f] := by simp [hlt]
        obtain ⟨d, hd, hdi⟩ := F2.get' hc hg
        refine ⟨_, by rw [← Array.getElem?_toList]; exact hg, ?_⟩
        rw [chunk_at _ _ _ _ _ hk' hf]
        simp only [List.getD, hd, Option.getD_some]
        exact hdi)
    refine ⟨g', _, _, _, _, ?_, hK, hR, hS, hI, sees_alloc _ _⟩
    have hb' : ¬ (n * (T e).size > 2 ^ 24) := by omega
    by_cases h0 : n * (T e).size = 0
    · simp only [h0, if_true] at hfill
      have hb0 : ¬ ((0 : Nat) > 2 ^ 24) := by decide
      simp only [Instr.buildSlice, Sem.run_bind, run_underlying hu, Result.andThen_ok, hs, hb0, if_false, h0, if_true, Sem.run_pure, hfill, newRow, run_newObj, World.alloc_eq]
    · simp only [h0, if_false] at hfill
      simp only [Instr.buildSlice, Sem.run_bind, run_underlying hu, Result.andThen_ok, hs, hb', if_false, h0, Sem.run_pure, hzr, hfill, newRow, run_newObj, World.alloc_eq]
  · exact h.elim

theorem wrap_small (n : Int) (h0 : 0 ≤ n) (h1 : n ≤ 1099511627776) : IntKind.i64.wrap n = n := by
  simp [IntKind.wrap, IntKind.min, IntKind.bits, IntKind.signed]; omega

theorem makeSliceP_sound (hT : TOk P T) (r : RelH E g H w) {t : Nat} {l c : AV} {K : AV → List Ent → Prop} {vl vc : Value} (hl : l.Is g w vl) (hc : c.Is g w vc) (h : makeSliceP T t l c H K) :
    ∃ g' H' w' x av, (Instr.makeSlice t vl vc).run P w = .ok x w' ∧ K av H' ∧ RelH E g' H' w' ∧ Step H.length g w g' w' ∧ av.Is g' w' x ∧ Sees w w' := by
  unfold makeSliceP at h
  split at h
  · rename_i e k1 l k2 c hk
    obtain rfl := (show vl = .int k1 l from hl)
    obtain rfl := (show vc = .int k2 c from hc)
    obtain ⟨hne, hzal, hza, h0, h1, h2, hbt, hK⟩ := h
    have hz := za_ne (hT.za hne) hza
    have hF := zOk_is g w (hT.za hne)
    have hzl : (T e).zero.length = (T e).size := by rw [← hzal]; exact hF.length.symm
    have hu := hT.sl hk
    have hs := hT.size hne w
    obtain ⟨i, hi, hi1, hi2, _⟩ := hT.info hne
    obtain ⟨z, hzr, hzc⟩ := zero_run (P := P) hT hne hz
    have hpos : 0 < (T e).size := by rw [← hzl]; exact List.length_pos_iff.2 hz
    have hwl := wrap_small l h0 (by omega)
    have hwc := wrap_small c (by omega) h2
    have hbytes : (((T e).bytes : Int)) * c ≤ 281474976710656 := by
      have : ((T e).bytes : Int) * c ≤ 128 * c := Int.mul_le_mul_of_nonneg_right (by omega) (by omega)
      omega
    have hbytesl : (((T e).bytes : Int)) * l ≤ 281474976710656 := by
      have : ((T e).bytes : Int) * l ≤ 128 * l := Int.mul_le_mul_of_nonneg_right (by omega) (by omega)
      omega
    have harr : ((Array.range (c.toNat * (T e).size)).map ((if c.toNat * (T e).size = 0 then #[] else z.cells)[· % (if c.toNat * (T e).size = 0 then #[] else z.cells).size]!)).toList = (List.replicate c.toNat (T e).zero).flatten := by
      split
      · rename_i h0
        have : c.toNat = 0 := by
          rcases Nat.mul_eq_zero.1 h0 with h | h
          · exact h
          · omega
        rw [this]
        simp
      · have := range_map_mod (T e).zero c.toNat hz
        rw [hzl] at this
        rw [← this, ← hzc]
    generalize hA : ((Array.range (c.toNat * (T e).size)).map ((if c.toNat * (T e).size = 0 then #[] else z.cells)[· % (if c.toNat * (T e).size = 0 then #[] else z.cells).size]!)) = A at harr
    have hAs : A.size = c.toNat * (T e).size := by rw [← hA]; simp
    obtain ⟨g', hR, hS, hI⟩ := new_row r e (T e).size l.toNat c.toNat (at2 (List.replicate l.toNat (T e).za)) A (0, 0) (w.alloc (.cells A e)) rfl rfl rfl (by simp) (fun b hb => Below.heap_alloc w _ b hb)
      (by simp [World.alloc, -World.alloc_eq]) (.inl (Nat.le_refl _)) (by omega) (by omega) (fun k hk' f hf => by
        have hg := replicate_flatten_getElem (T e).zero c.toNat k f (by omega) (by rw [hzl]; exact hf)
        rw [hzl] at hg
        have hfz : (T e).zero[f]? = some (T e).zero[f] := List.getElem?_eq_getElem (show f < (T e).zero.length by rw [hzl]; exact hf)
        obtain ⟨c0, hc0, hi0⟩ := F2.get' hF hfz
        refine ⟨_, by rw [← Array.getElem?_toList, harr, hg]; exact hfz, ?_⟩
        have : at2 (List.replicate l.toNat (T e).za) k f = c0 := by
          simp only [at2, List.getD]
          rw [List.getElem?_replicate, if_pos hk']
          simp [hc0]
        rw [this]; exact hi0)
    refine ⟨g', _, _, _, _, ?_, hK, hR, hS, hI, sees_alloc _ _⟩
    have c1 : ¬ (c < 0) := by omega
    have c2 : ¬ (281474976710656 < ((T e).bytes : Int) * c) := by omega
    have c3 : ¬ (l < 0) := by omega
    have c4 : ¬ (c < l) := by omega
    have d1 : (decide (c < 0) || decide ((i.bytes : Int) * c > 2 ^ 48)) = false := by
      rw [hi2]; simp only [Bool.or_eq_false_iff, decide_eq_false_iff_not]; exact ⟨by omega, by simpa using c2⟩
    have hcond : ((decide (c < 0) || decide ((i.bytes : Int) * c > 2 ^ 48)) || decide (l < 0) || decide (l > c)) = false := by
      rw [d1]; simp only [Bool.or_eq_false_iff, decide_eq_false_iff_not]; exact ⟨⟨trivial, by omega⟩, by omega⟩
    have hti : (typeInfo e).run P w = .ok i w := by simp [typeInfo, hi]
    by_cases hz0 : c.toNat * (T e).size = 0
    · simp only [hz0, if_true] at hA
      simp only [Instr.makeSlice, Sem.run_bind, run_underlying hu, Result.andThen_ok, asInt, asIntOf, Sem.run_pure, hti, hwl, hwc, hcond, Bool.false_eq_true, if_false, run_askRoom, hs, hz0, if_true, newRow, run_newObj, World.alloc_eq, hA]
    · simp only [hz0, if_false] at hA
      simp only [Instr.makeSlice, Sem.run_bind, run_underlying hu, Result.andThen_ok, asInt, asIntOf, Sem.run_pure, hti, hwl, hwc, hcond, Bool.false_eq_true, if_false, run_askRoom, hs, hz0, hzr, newRow, run_newObj, World.alloc_eq, hA]
  · exact h.elim
end
end Go.V
end

section
set_option linter.unusedSimpArgs false
set_option linter.unusedVariables false
namespace Go.V
open Go Go.RowKit

/-- A byte, as a row of one cell; rows of bytes. -/
def bcell (b : UInt8) : List CV := [.int .u8 (b.toNat : Int)]
def byteCell (l : List UInt8) : Nat → Nat → CV := at2 (l.map bcell)
theorem byteCell_get (l : List UInt8) (i : Nat) (h : i < l.length) : byteCell l i 0 = .int .u8 ((l.getD i 0).toNat : Int) := by
  simp [byteCell, at2, List.getD, h, bcell]
theorem byteCell_sh (l : List UInt8) (i f : Nat) : (∃ b : UInt8, byteCell l i f = .int .u8 (b.toNat : Int)) ∨ byteCell l i f = .bool false := by
  simp only [byteCell, at2, List.getD, List.getElem?_map]
  cases l[i]? with
  | none => right; simp
  | some b => cases f with
    | zero => left; exact ⟨b, by simp [bcell]⟩
    | succ f => right; simp [bcell]
/-- Cells that may be copied. -/
def isSh : CV → Bool
  | .own .. => false
  | .bad => false
  | _ => true
def ShC (cell : Nat → Nat → CV) (k n wd : Nat) : Prop := ∀ i, i < n → ∀ f, f < wd → isSh (cell (k + i) f) = true
theorem isSh_ok {x : CV} (h : isSh x = true) : x.shared ∧ x.ok = true := by
  cases x <;> simp [isSh] at h <;> exact ⟨trivial, rfl⟩
/-- What stands behind the dots of an append, or what is copied: how many elements, of how many cells, and which. -/
def srcP (wd : Nat) (y : AV) (H : List Ent) (K : Nat → (Nat → Nat → CV) → Prop) : Prop :=
  match y with
  | .s (.c (.nil _ _)) => K 0 (at2 [])
  | .s (.c (.sl m wd' k n _)) => match nth H m with
    | .row _ wd2 rn _ cell => wd' = wd ∧ wd2 = wd ∧ k + n ≤ rn ∧ ShC cell k n wd ∧ K n (subCell k n cell)
    | _ => False
  | .s (.c (.lst wd' n cell)) => (wd' = wd ∨ n = 0) ∧ ShC cell 0 n wd ∧ K n cell
  | .s (.c (.str l)) => wd = 1 ∧ K l.length (byteCell l)
  | _ => False
def appCell (n : Nat) (cell src : Nat → Nat → CV) : Nat → Nat → CV := fun i f => if i < n then cell i f else src (i - n) f
def appendP (T : Nat → TI) (ts : List TypeId) (xs : List AV) (H : List Ent) (K : AV → List Ent → Prop) : Prop :=
  match ts, xs with
  | [t, t2], [x, y] => match (T t).kind with
    | .sl e => (T e).kind ≠ .other ∧ (T e).bytes ≤ 128 ∧ (T e).za.length = (T e).size ∧ (T e).za ≠ [] ∧ ((T t2).kind = .sl e ∨ (T t2).kind = .str) ∧
      srcP (T e).size y H (bx2 fun m src => match x with
        | .s (.c (.nil _ _)) => m ≤ 274877906944 ∧ ∀ c, m ≤ c → K (.c (.sl H.length (T e).size 0 m c)) (H ++ [.row e (T e).size m c src])
        | .s (.c (.sl n wd k len cap)) => match nth H n with
          | .row ty wd2 rn rc cell => k = 0 ∧ ty = e ∧ wd = (T e).size ∧ wd2 = (T e).size ∧ len ≤ rn ∧ len ≤ cap ∧ cap ≤ rc ∧ len + m ≤ 274877906944 ∧
              ∀ c, len + m ≤ c → K (.c (.sl H.length (T e).size 0 (len + m) c)) (setn H n .dead ++ [.row e (T e).size (len + m) c (appCell len cell src)])
          | _ => False
        | _ => False)
    | _ => False
  | _, _ => False
def toBytesP (T : Nat → TI) (dst : TypeId) (x : AV) (H : List Ent) (K : AV → List Ent → Prop) : Prop :=
  match (T dst).kind, x with
  | .sl e, .s (.c (.str l)) => (T e).kind = .int .u8 ∧ (T e).size = 1 ∧ ∀ c, l.length ≤ c → K (.c (.sl H.length 1 0 l.length c)) (H ++ [.row e 1 l.length c (byteCell l)])
  | _, _ => False
def bytesOf (m : Nat) (cell : Nat → Nat → CV) : List UInt8 := (List.range m).map fun i => match cell i 0 with
  | .int _ n => UInt8.ofNat n.toNat
  | _ => 0
/-- Cells that are bytes. -/
def ByC (m : Nat) (cell : Nat → Nat → CV) : Prop := ∀ i, i < m → ∃ b : UInt8, cell i 0 = .int .u8 (b.toNat : Int)
def toStrP (T : Nat → TI) (src : TypeId) (x : AV) (H : List Ent) (K : AV → Prop) : Prop :=
  match (T src).kind, x with
  | .sl _, .s (.c (.str _)) => False
  | .sl e, x => (T e).kind = .int .u8 ∧ srcP 1 x H (bx2 fun m cell => ByC m cell ∧ K (.c (.str (bytesOf m cell))))
  | _, _ => False

section
variable {P : Program} {T : Nat → TI} {E : Env} {g : Gh} {w : World} {H : List Ent}

/-- A source's cells, as a list of the model's values. -/
structure SrcIs (P : Program) (g : Gh) (w : World) (wd m : Nat) (cell : Nat → Nat → CV) (vy : Value) (us : List Value) : Prop where
  len : us.length = m * wd
  lenOf : (Builtin.lenOf vy).run P w = .ok m w
  run : ∀ w', (∀ a, w'.cell? a = w.cell? a) → (Builtin.firstCells wd m vy).run P w' = .ok us.toArray w'
  is : ∀ i, i < m → ∀ f, f < wd → ∃ u, us[i * wd + f]? = some u ∧ (cell i f).Is g w u
  ok : ∀ i, i < m → ∀ f, f < wd → (cell i f).ok = true

theorem src_of_cells {wd m b o c : Nat} {cell : Nat → Nat → CV} (hok : ∀ i, i < m → ∀ f, f < wd → (cell i f).ok = true) (h : ∀ i, i < m → ∀ f, f < wd → ∃ u, w.cell? ⟨b, o + (i * wd + f), none⟩ = some u ∧ (cell i f).Is g w u) :
    ∃ us, SrcIs P g w wd m cell (.slice (some ⟨b, o, none⟩) m c) us := by
  have hall : ∀ j, j < m * wd → ∃ u, w.cell? ⟨b, o + j, none⟩ = some u := fun j hj => by
    have hwd : 0 < wd := by
      rcases Nat.eq_zero_or_pos wd with h | h
      · rw [h] at hj; omega
      · exact h
    obtain ⟨u, hu, _⟩ := h (j / wd) (Nat.div_lt_of_lt_mul (by rw [Nat.mul_comm]; exact hj)) (j % wd) (Nat.mod_lt _ hwd)
    rw [show j / wd * wd + j % wd = j by rw [Nat.mul_comm]; exact Nat.div_add_mod j wd] at hu
    exact ⟨u, hu⟩
  refine ⟨(List.range (m * wd)).map fun j => (w.cell? ⟨b, o + j, none⟩).getD undef, by simp, by simp [Builtin.lenOf], fun w' hw => ?_, fun i hi f hf => ?_, hok⟩
  · simp only [Builtin.firstCells]
    refine run_loadCells (P := P) w' ⟨b, o, none⟩ (m * wd) _ (fun j hj => ?_)
    obtain ⟨u, hu⟩ := hall j hj
    rw [Addr.add_off, hw, hu]; rfl
  · obtain ⟨u, hu, hiu⟩ := h i hi f hf
    have hlt : i * wd + f < m * wd := by
      have := Nat.mul_le_mul_right wd (show i + 1 ≤ m by omega)
      rw [Nat.add_mul] at this; omega
    refine ⟨u, ?_, hiu⟩
    simp [hlt, hu]

theorem src_empty {wd c : Nat} {cell : Nat → Nat → CV} {A : Option Addr} : SrcIs P g w wd 0 cell (.slice A 0 c) [] := by
  refine ⟨by simp, by simp [Builtin.lenOf], fun w' _ => ?_, fun i hi => absurd hi (by omega), fun i hi => absurd hi (by omega)⟩
  cases A with
  | none => simp [Builtin.firstCells]
  | some a => simp [Builtin.firstCells, loadCells, loadCellsFrom]

theorem srcP_sound (r : RelH E g H w) {wd : Nat} {y : AV} {vy : Value} {K : Nat → (Nat → Nat → CV) → Prop} (hy : y.Is g w vy) (h : srcP wd y H K) :
    ∃ m cell us, K m cell ∧ SrcIs P g w wd m cell vy us := by
  unfold srcP at h
  split at h
  · obtain ⟨A, rfl⟩ := hy
    exact ⟨0, _, [], h, src_empty⟩
  · rename_i m wd' k n cap
    split at h
    · rename_i ty wd2 rn rc cell hn
      obtain ⟨rfl, rfl, hle, hsh, hK⟩ := h
      rcases hy with ⟨rfl, rfl, A, rfl⟩ | ⟨p, hp, hwd, rfl⟩
      · exact ⟨0, _, [], hK, src_empty⟩
      · rcases r.ent m _ (nth_ent hn (by simp)) with ⟨hnone, _⟩ | ⟨b, o, cs, fz, hp', hb, hh, hf, hl, hc, hcell⟩
        · rw [hp] at hnone; cases hnone
        · rw [hp] at hp'
          obtain rfl := Option.some.inj hp'
          obtain ⟨us, hus⟩ := src_of_cells (P := P) (g := g) (w := w) (wd := wd2) (m := n) (b := b) (o := o + k * wd2) (c := cap) (cell := subCell k n cell) (fun i hi f hf => by rw [show subCell k n cell i f = cell (k + i) f from if_pos hi]; exact (isSh_ok (hsh i hi f hf)).2) (fun i hi f hf => by
            obtain ⟨u, hu, hiu⟩ := hcell (k + i) (by omega) f hf
            refine ⟨u, ?_, by rw [show subCell k n cell i f = cell (k + i) f from if_pos hi]; exact CV.At.share (isSh_ok (hsh i hi f hf)).1 hiu⟩
            rw [← hu]; congr 2; rw [Nat.add_mul]; omega)
          exact ⟨n, _, us, hK, hus⟩
    · exact h.elim
  · rename_i wd' n cell
    obtain ⟨hw, hsh, hK⟩ := h
    have hx2 : (CV.lst wd' n cell).Is g w vy := hy
    simp only [CV.At] at hx2
    obtain ⟨A, c, rfl, hnc, hx3⟩ := hx2
    rcases hx3 with rfl | ⟨b, o, rfl, hb, hc⟩
    · exact ⟨0, _, [], hK, src_empty⟩
    · rcases hw with rfl | rfl
      case inr => exact ⟨0, _, [], hK, src_empty⟩
      obtain ⟨us, hus⟩ := src_of_cells (P := P) (g := g) (w := w) (wd := wd') (m := n) (b := b) (o := o) (c := c) (cell := cell) (fun i hi f hf => by have := hsh i hi f hf; rw [Nat.zero_add] at this; exact (isSh_ok this).2) (fun k hk f hf => by obtain ⟨u, hu, hi⟩ := hc k hk f hf; exact ⟨u, hu, CV.At.ofBare hi⟩)
      exact ⟨n, _, us, hK, hus⟩
  · rename_i l
    obtain ⟨rfl, hK⟩ := h
    obtain rfl := (show vy = .string (bstr l) from hy)
    refine ⟨l.length, _, l.map fun b => .int .u8 (b.toNat : Int), hK, ⟨by simp, by simp [Builtin.lenOf, bstr_size], fun w' _ => ?_, fun i hi f hf => ?_, fun i hi f hf => by rcases byteCell_sh l i f with ⟨b, h⟩ | h <;> rw [h] <;> rfl⟩⟩
    · have : (bstr l).extract 0 l.length = bstr l := by rw [bstr_extract]; simp
      simp [Builtin.firstCells, this, bstr]
    · obtain rfl : f = 0 := by omega
      refine ⟨.int .u8 ((l.getD i 0).toNat : Int), ?_, by rw [byteCell_get l i hi]; rfl⟩
      simp [hi, List.getD]
  · exact h.elim

theorem SrcIs.is' {g' : Gh} {w' : World} {wd m : Nat} {cell : Nat → Nat → CV} {vy : Value} {us : List Value} (h : SrcIs P g w wd m cell vy us) (hm : ∀ b, g.κ b = .imm → g'.κ b = .imm ∧ w'.heap[b]? = w.heap[b]?) (hn : ∀ n p, g.ρ n = some p → g'.ρ n = some p) :
    ∀ i, i < m → ∀ f, f < wd → ∃ u, us[i * wd + f]? = some u ∧ (cell i f).Is g' w' u := fun i hi f hf => by
  obtain ⟨u, hu, hiu⟩ := h.is i hi f hf
  exact ⟨u, hu, CV.Is.mono hm hn hiu⟩

theorem run_append_fit (hT : TOk P T) {t t2 e ty wd m : Nat} (ht : P.underlying t = some (.slice e)) (h2 : (T t2).kind = .sl e ∨ (T t2).kind = .str) (hs : ∀ w, (sizeOf e).run P w = .ok wd w)
    {cell : Nat → Nat → CV} {vy : Value} {us : List Value} (hsrc : SrcIs P g w wd m cell vy us) (base : Option Addr) (n c : Nat) (hfit : n + m ≤ c) {w' : World}
    (hst : ∀ a, base = some a → (storeCells (a.add (n * wd)) us).run P w = .ok () w') (hno : base = none → w' = w) :
    (Builtin.append_ #[t, t2] ty #[.slice base n c, vy]).run P w = .ok (.slice base (n + m) c) w' := by
  have hf := hsrc.run w (fun _ => rfl)
  have key : ∀ d, (d = .slice e ∨ d = .string) → P.underlying t2 = some d → (Builtin.append_ #[t, t2] ty #[.slice base n c, vy]).run P w = .ok (.slice base (n + m) c) w' := fun d hd hu => by
    cases base with
    | none =>
      obtain rfl := hno rfl
      rcases hd with rfl | rfl <;> simp [Builtin.append_, run_underlying ht, hs, run_underlying hu, hsrc.lenOf, hfit, hf]
    | some a =>
      have := hst a rfl
      rcases hd with rfl | rfl <;> simp [Builtin.append_, run_underlying ht, hs, run_underlying hu, hsrc.lenOf, hfit, hf, this]
  rcases h2 with h | h
  · exact key _ (.inl rfl) (hT.sl h)
  · exact key _ (.inr rfl) (hT.str h)

theorem zeroCells_size (z : Array Value) (n : Nat) : (Builtin.zeroCells z n).size = n * z.size := by simp [Builtin.zeroCells]

theorem run_append_more (hT : TOk P T) {t t2 e ty m : Nat} (hne : (T e).kind ≠ .other) (hz : (T e).zero ≠ []) (hb : (T e).bytes ≤ 128) (ht : P.underlying t = some (.slice e)) (h2 : (T t2).kind = .sl e ∨ (T t2).kind = .str)
    {cell : Nat → Nat → CV} {vy : Value} {us : List Value} (hsrc : SrcIs P g w (T e).size m cell vy us) (base : Option Addr) (n c : Nat) (hbig : n + m ≤ 274877906944) (hmore : c < n + m)
    {olds : List Value} (hold : (Builtin.firstCells (T e).size n (.slice base n c)).run P w.drew = .ok olds.toArray w.drew) :
    ∃ (cap : Nat) (rest : Array Value), n + m ≤ cap ∧ rest.size = (cap - (n + m)) * (T e).zero.length ∧
      (Builtin.append_ #[t, t2] ty #[.slice base n c, vy]).run P w = .ok (.slice (some ⟨w.heap.size, 0, none⟩) (n + m) cap) (w.drew.alloc (.cells (olds.toArray ++ (us.toArray ++ rest)) e)) := by
  obtain ⟨i, hi, hi1, hi2, hi3⟩ := hT.info hne
  obtain ⟨z, hzrun, hzc⟩ := zero_run (P := P) hT hne hz
  have hf := hsrc.run w.drew (fun _ => rfl)
  have hn : ¬ (n + m ≤ c) := by omega
  have hs : ∀ w, (sizeOf e).run P w = .ok (T e).size w := fun w => hT.size hne w
  have hti : ∀ w, (typeInfo e).run P w = .ok i w := fun w => by simp [typeInfo, hi]
  have hfit : Builtin.nextslicecap (n + m) c * i.bytes ≤ 281474976710656 := by
    refine growslice_fits hmore ?_
    rw [hi2]
    have : (n + m) * (T e).bytes ≤ 274877906944 * 128 := Nat.mul_le_mul hbig hb
    omega
  have h48 : ¬ (Builtin.nextslicecap (n + m) c * i.bytes > 2 ^ 48) := by
    have : (2 : Nat) ^ 48 = 281474976710656 := by decide
    omega
  have h63 : ¬ ((((n + m : Nat) : Int)) > IntKind.i64.max) := by simp [IntKind.max, IntKind.bits, IntKind.signed]; omega
  refine ⟨grownCap w (n + m) c e, Builtin.zeroCells z.cells (grownCap w (n + m) c e - (n + m)), grownCap_ge w _ _ _, by rw [zeroCells_size, ← hzc]; simp, ?_⟩
  have key : ∀ d, (d = .slice e ∨ d = .string) → P.underlying t2 = some d → (Builtin.append_ #[t, t2] ty #[.slice base n c, vy]).run P w =
      .ok (.slice (some ⟨w.heap.size, 0, none⟩) (n + m) (grownCap w (n + m) c e)) (w.drew.alloc (.cells (olds.toArray ++ (us.toArray ++ Builtin.zeroCells z.cells (grownCap w (n + m) c e - (n + m)))) e)) := fun d hd hu => by
    have h63' : ¬ (9223372036854775807 < ((n : Int) + (m : Int))) := by omega
    have h48' : ¬ (281474976710656 < Builtin.nextslicecap (n + m) c * i.bytes) := by omega
    rcases hd with rfl | rfl <;>
      simp [Builtin.append_, run_underlying ht, hs, run_underlying hu, hsrc.lenOf, hn, h63', h48', hti, Question.forced, hold, hf, hzrun, newRow, grownCap]
  rcases h2 with h | h
  · exact key _ (.inl rfl) (hT.sl h)
  · exact key _ (.inr rfl) (hT.str h)

/-- An entry for a row that is not there. -/
theorem RelH.addNil (r : RelH E g H w) (e wd : Nat) (cell : Nat → Nat → CV) : RelH E g (H ++ [.row e wd 0 0 cell]) w := by
  refine ⟨fun m e' he' => ?_, r.inv, r.lt, fun m hm => r.dom m (by simp at hm; omega), fun b m hb => by have := r.rol b m hb; simp; omega, fun b m p hb => by have := r.rols b m p hb; simp; omega⟩
  rcases Nat.lt_or_ge m H.length with h | h
  · rw [List.getElem?_append_left h] at he'
    exact r.ent m e' he'
  · rw [List.getElem?_append_right h] at he'
    rcases Nat.eq_zero_or_pos (m - H.length) with h0 | h0
    · rw [h0] at he'
      simp only [List.getElem?_cons_zero, Option.some.injEq] at he'
      exact he' ▸ .inl ⟨r.dom m h, rfl, rfl⟩
    · rw [show m - H.length = (m - H.length - 1) + 1 by omega] at he'
      simp at he'

theorem mul_lt_of {k f wd n : Nat} (hk : k < n) (hf : f < wd) : k * wd + f < n * wd := by
  have := Nat.mul_le_mul_right wd (show k + 1 ≤ n by omega)
  rw [Nat.add_mul] at this; omega

theorem row_list (w : World) (b o n : Nat) (cells : Array Value) (ty : TypeId) (fz : Nat × Nat) (hh : w.heap[b]? = some (.cells cells ty fz)) (hn : o + n ≤ cells.size) :
    ∃ us : List Value, us.length = n ∧ ∀ j, j < n → us[j]? = w.cell? ⟨b, o + j, none⟩ := by
  refine ⟨(List.range n).map fun j => (w.cell? ⟨b, o + j, none⟩).getD undef, by simp, fun j hj => ?_⟩
  have : w.cell? ⟨b, o + j, none⟩ = some (cells[o + j]'(by omega)) := by simp [World.cell?, hh]
  rw [this]
  simp [hj, this]

set_option maxHeartbeats 1000000 in
theorem appendP_sound (hT : TOk P T) (r : RelH E g H w) {ts : Array TypeId} {ty : TypeId} {xs : List AV} {vs : List Value} {K : AV → List Ent → Prop} (hx : F2 (AV.Is g w) xs vs) (h : appendP T ts.toList xs H K) :
    ∃ g' H' w' x av, (Builtin.append_ ts ty vs.toArray).run P w = .ok x w' ∧ K av H' ∧ RelH E g' H' w' ∧ Step H.length g w g' w' ∧ av.Is g' w' x := by
  unfold appendP at h
  split at h
  · rename_i t t2 x y hts
    have hts' : ts = #[t, t2] := by apply Array.ext'; rw [hts]
    subst hts'
    match vs, hx with
    | [vx, vy], hx =>
      obtain ⟨hx, hy, _⟩ := hx
      split at h
      · rename_i e hk
        obtain ⟨hne, hb, hzal, hza, h2, h⟩ := h
        have hz := za_ne (hT.za hne) hza
        have hzl : (T e).zero.length = (T e).size := by rw [← hzal]; exact (zOk_is g w (hT.za hne)).length.symm
        have hu := hT.sl hk
        have hs : ∀ w, (sizeOf e).run P w = .ok (T e).size w := fun w => hT.size hne w
        obtain ⟨m, src, us, h', hsrc⟩ := srcP_sound (P := P) r hy h
        clear h
        have h := h'
        clear h'
        unfold bx2 at h
        have himm : ∀ b, g.κ b = .imm → b < w.heap.size := fun b hb => by
          rcases Nat.lt_or_ge b w.heap.size with h | h
          · exact h
          · rw [r.lt b h] at hb; cases hb
        have nothing : ∀ A : Option Addr, m = 0 → (Builtin.append_ #[t, t2] ty [Value.slice A 0 0, vy].toArray).run P w = .ok (.slice A 0 0) w := fun A hm => by
          subst hm
          have hus : us = [] := by have := hsrc.len; simpa using this
          subst hus
          exact run_append_fit (P := P) (w' := w) hT hu h2 hs hsrc A 0 0 (by omega) (fun a _ => rfl) (fun _ => rfl)
        have first0 : ∀ A : Option Addr, (Builtin.firstCells (T e).size 0 (.slice A 0 0)).run P w.drew = .ok ([] : List Value).toArray w.drew := fun A => by
          cases A with
          | none => simp [Builtin.firstCells]
          | some a => simp [Builtin.firstCells, loadCells, loadCellsFrom]
        split at h
        · -- onto nothing
          obtain ⟨hm, hK⟩ := h
          obtain ⟨A, rfl⟩ := hx
          by_cases hm0 : m = 0
          · subst hm0
            exact ⟨g, _, w, _, _, nothing A rfl, hK 0 (Nat.le_refl _), r.addNil e _ _, Step.refl _ _ _, .inl ⟨rfl, rfl, A, rfl⟩⟩
          · obtain ⟨cap, rest, hcap, hrest, hrun⟩ := run_append_more (P := P) (ty := ty) hT hne hz hb hu h2 hsrc A 0 0 (by omega) (by omega) (first0 A)
            rw [Nat.zero_add] at hrun hcap hrest
            have hlen := hsrc.len
            obtain ⟨g', hR, hS, hI⟩ := new_row r e (T e).size m cap src _ (0, 0) (w.drew.alloc (.cells (([] : List Value).toArray ++ (us.toArray ++ rest)) e)) rfl rfl rfl (by simp)
              (fun b hb => Below.heap_alloc w.drew _ b hb) (by simp [World.alloc, World.drew, -World.alloc_eq, -World.drew_eq]; rfl) (.inl (Nat.le_refl _)) hcap
              (by simp [hlen, hrest, hzl]; rw [← Nat.add_mul]; exact Nat.mul_le_mul_right _ (by omega)) (fun k hk f hf => by
                obtain ⟨u, hu, hi⟩ := hsrc.is k hk f hf
                refine ⟨u, ?_, hi⟩
                have hlt : k * (T e).size + f < us.length := by rw [hlen]; exact mul_lt_of hk hf
                simp [Array.getElem?_append, hlt]
                rw [List.getElem?_eq_getElem hlt] at hu
                simpa using hu)
            exact ⟨g', _, _, _, _, hrun, hK cap hcap, hR, hS, hI⟩
        · rename_i n wd k len cap _
          split at h
          · rename_i ty0 wd2 rn rc cell hn
            obtain ⟨rfl, rfl, rfl, rfl, hlr, hlc, hcr, hbig, hK⟩ := h
            have hnH := nth_ent hn (by simp)
            have hnl : n < H.length := (List.getElem?_eq_some_iff.1 hnH).1
            have hlen := hsrc.len
            simp only [setn_set] at hK
            -- a new block for all of it
            have grow : ∀ (base : Option Addr) (n0 c0 : Nat) (olds : List Value), n0 = len → c0 < len + m → vx = .slice base n0 c0 →
                (Builtin.firstCells (T ty0).size n0 (.slice base n0 c0)).run P w.drew = .ok olds.toArray w.drew → olds.length = len * (T ty0).size →
                (∀ i, i < len → ∀ f, f < (T ty0).size → ∃ u, olds[i * (T ty0).size + f]? = some u ∧ (cell i f).At g w (some (n, [i, f])) u) →
                ∃ g' H' w' x av, (Builtin.append_ #[t, t2] ty [vx, vy].toArray).run P w = .ok x w' ∧ K av H' ∧ RelH E g' H' w' ∧ Step H.length g w g' w' ∧ av.Is g' w' x := by
              intro base n0 c0 olds hn0 hc0 hvx hfirst holen hois
              subst hn0; subst hvx
              obtain ⟨cap', rest, hcap', hrest, hrun⟩ := run_append_more (P := P) (ty := ty) hT hne hz hb hu h2 hsrc base n0 c0 hbig hc0 hfirst
              have hsz : (olds.toArray ++ (us.toArray ++ rest)).size = cap' * (T ty0).size := by
                simp [hlen, hrest, hzl, holen]
                rw [← Nat.add_mul, ← Nat.add_mul]
                congr 1
                omega
              generalize hW : (w.drew.alloc (.cells (olds.toArray ++ (us.toArray ++ rest)) ty0)) = w' at hrun
              have hsize : w'.heap.size = w.heap.size + 1 := by rw [← hW]; simp
              have hnewb : w'.heap[w.heap.size]? = some (.cells (olds.toArray ++ (us.toArray ++ rest)) ty0 (0, 0)) := by
                rw [← hW]; simp [World.alloc, World.drew, -World.alloc_eq, -World.drew_eq]
              have hold : ∀ b, b < w.heap.size → w'.heap[b]? = w.heap[b]? := fun b hb => by rw [← hW]; exact Below.heap_alloc w.drew _ b hb
              have hkimm : ∀ b, g.κ b = .imm → (g.move n H.length w.heap.size 0 (T ty0).size).κ b = .imm ∧ w'.heap[b]? = w.heap[b]? := fun b hb => by
                have hl := himm b hb
                refine ⟨?_, hold b hl⟩
                simp only [Gh.move]
                rw [if_neg (by omega), hb]
              have hext : ∀ x p, g.ρ x = some p → (g.move n H.length w.heap.size 0 (T ty0).size).ρ x = some p := r.ext (fun x hx => by simp only [Gh.move]; rw [if_neg (by omega)])
              have hR := RelH.move (w' := w') n hnl r (.row ty0 (T ty0).size (n0 + m) cap' (appCell n0 cell src)) w.heap.size 0 (T ty0).size (.inr rfl) (by omega)
                (by rw [← hW]; rfl) (by rw [← hW]; rfl) (by rw [← hW]; rfl) (by omega) (fun b hb _ => hold b hb) (by
                  refine .inr ⟨w.heap.size, 0, _, (0, 0), by simp [Gh.move], by simp [Gh.move], hnewb, .inl (Nat.le_refl _), hcap', by rw [hsz]; omega, fun i hi f hf => ?_⟩
                  by_cases hil : i < n0
                  · obtain ⟨u, hu, hiu⟩ := hois i hil f hf
                    have hlt : i * (T ty0).size + f < olds.length := by rw [holen]; exact mul_lt_of hil hf
                    refine ⟨u, ?_, ?_⟩
                    · simp only [World.cell?, hnewb, Option.isSome_none, Bool.false_eq_true, if_false, Nat.zero_add]
                      rw [Array.getElem?_append_left (by simpa using hlt)]
                      simpa using hu
                    · have : appCell n0 cell src i f = cell i f := by simp [appCell, hil]
                      rw [this]
                      refine CV.At.move hkimm hext (fun b q hb => ?_) hiu
                      have hl : b < w.heap.size := by
                        rcases Nat.lt_or_ge b w.heap.size with h | h
                        · exact h
                        · rw [r.lt b h] at hb; cases hb
                      refine ⟨?_, hold b hl⟩
                      simp only [Gh.move]
                      rw [if_neg (by omega), hb]
                      simp
                  · obtain ⟨u, hu, hiu⟩ := hsrc.is (i - n0) (by omega) f hf
                    have hlt : (i - n0) * (T ty0).size + f < us.length := by rw [hlen]; exact mul_lt_of (by omega) hf
                    have hidx : i * (T ty0).size + f = olds.length + ((i - n0) * (T ty0).size + f) := by
                      rw [holen, ← Nat.add_assoc, ← Nat.add_mul]
                      congr 2
                      omega
                    refine ⟨u, ?_, ?_⟩
                    · simp only [World.cell?, hnewb, Option.isSome_none, Bool.false_eq_true, if_false, Nat.zero_add]
                      rw [hidx, Array.getElem?_append_right (by simp)]
                      simp only [List.size_toArray, Nat.add_sub_cancel_left]
                      rw [Array.getElem?_append_left (by simpa using hlt)]
                      simpa using hu
                    · have : appCell n0 cell src i f = src (i - n0) f := by simp [appCell, hil]
                      rw [this]
                      exact CV.At.lift _ (CV.Is.mono hkimm hext hiu))
              exact ⟨_, _, _, _, _, hrun, hK cap' hcap', hR.1, hR.2, .inr ⟨⟨w.heap.size, 0, (T ty0).size⟩, by simp [Gh.move], rfl, by simp⟩⟩
            rcases hx with ⟨rfl, rfl, A, rfl⟩ | ⟨p, hp, hwd, rfl⟩
            · by_cases hm0 : m = 0
              · subst hm0
                refine ⟨g, _, w, _, _, nothing A rfl, hK 0 (Nat.le_refl _), ?_, ?_, .inl ⟨rfl, rfl, A, rfl⟩⟩
                · exact (by simpa using RelH.addNil (RelH.kill n r) ty0 (T ty0).size (appCell 0 cell src))
                · exact Step.refl _ _ _
              · exact grow A 0 0 [] rfl (by omega) rfl (first0 A) (by simp) (fun i hi => absurd hi (by omega))
            · rcases r.ent n _ hnH with ⟨hnone, _⟩ | ⟨b, o, cells, fz, hp', hbk, hh, hf, hl, hcap, hcell⟩
              · rw [hp] at hnone; cases hnone
              · rw [hp] at hp'
                obtain rfl := Option.some.inj hp'
                simp only [Nat.zero_mul, Nat.add_zero] at hK grow ⊢
                by_cases hfit : len + m ≤ cap
                · -- in place
                  have hcapw : cap * (T ty0).size ≤ rc * (T ty0).size := Nat.mul_le_mul_right _ hcr
                  have hlm : (len + m) * (T ty0).size ≤ cap * (T ty0).size := Nat.mul_le_mul_right _ hfit
                  have hlm2 : (len + m) * (T ty0).size = len * (T ty0).size + m * (T ty0).size := Nat.add_mul _ _ _
                  have hexi : ∀ i, i < rc * (T ty0).size → ∃ u, w.cell? ⟨b, o + i, none⟩ = some u := fun i hi => by
                    refine ⟨cells[o + i]'(by omega), ?_⟩
                    simp [World.cell?, hh]
                  have hfr : ∀ i, i < rc * (T ty0).size → w.frozen? ⟨b, o + i, none⟩ = false := fun i hi => by
                    simp only [World.frozen?, hh]
                    rcases hf with hf | hf <;> simp <;> omega
                  have hone : ∀ u ∈ us, u.oneCell' = true := fun u hu => by
                    obtain ⟨j, hj⟩ := List.getElem?_of_mem hu
                    have hjl : j < m * (T ty0).size := by rw [← hlen]; exact (List.getElem?_eq_some_iff.1 hj).1
                    have hwd : 0 < (T ty0).size := by
                      rcases Nat.eq_zero_or_pos (T ty0).size with h | h
                      · rw [h] at hjl; omega
                      · exact h
                    obtain ⟨u', hu', hiu⟩ := hsrc.is (j / (T ty0).size) (Nat.div_lt_of_lt_mul (by rw [Nat.mul_comm]; exact hjl)) (j % (T ty0).size) (Nat.mod_lt _ hwd)
                    rw [show j / (T ty0).size * (T ty0).size + j % (T ty0).size = j by rw [Nat.mul_comm]; exact Nat.div_add_mod j _, hj] at hu'
                    obtain rfl := Option.some.inj hu'
                    exact CV.At.one (hsrc.ok _ (Nat.div_lt_of_lt_mul (by rw [Nat.mul_comm]; exact hjl)) _ (Nat.mod_lt _ hwd)) hiu
                  have hst := run_storeCells_cells (P := P) b (o + len * (T ty0).size) us 0 w (fun i hi => by
                      obtain ⟨u, hu⟩ := hexi (len * (T ty0).size + i) (by omega)
                      rw [show o + len * (T ty0).size + 0 + i = o + (len * (T ty0).size + i) by omega, hu]; rfl)
                    (fun i hi => by
                      rw [show o + len * (T ty0).size + 0 + i = o + (len * (T ty0).size + i) by omega]
                      exact hfr _ (by omega)) hone
                  rw [Nat.add_zero] at hst
                  have hrun := run_append_fit (P := P) (ty := ty) hT hu h2 hs hsrc (some ⟨b, o, none⟩) len cap hfit (w' := w.setCells b (o + len * (T ty0).size) us)
                    (fun a ha => by
                      obtain rfl := Option.some.inj ha
                      rw [Addr.add_off]; exact hst) (fun h => by cases h)
                  obtain ⟨cells', hh', hsz'⟩ := setCells_heap b us (o + len * (T ty0).size) w cells ty0 fz hh
                  obtain ⟨ho1, ho2, ho3⟩ := setCells_os b us (o + len * (T ty0).size) w
                  have hoth : ∀ c, g.κ c ≠ .nm n → (w.setCells b (o + len * (T ty0).size) us).heap[c]? = w.heap[c]? := fun c hc => setCells_other b c (fun e => hc (by rw [e]; exact hbk)) _ _ _
                  have hbl : b < w.heap.size := by
                    rcases Nat.lt_or_ge b w.heap.size with h | h
                    · exact h
                    · rw [r.lt b h] at hbk; cases hbk
                  have hkimm : ∀ c, g.κ c = .imm → (g.move n H.length b o (T ty0).size).κ c = .imm ∧ (w.setCells b (o + len * (T ty0).size) us).heap[c]? = w.heap[c]? := fun c hc => by
                    refine ⟨?_, hoth c (by rw [hc]; simp)⟩
                    simp only [Gh.move]
                    rw [if_neg (fun e => by rw [e, hbk] at hc; cases hc), hc]
                  have hext : ∀ x p, g.ρ x = some p → (g.move n H.length b o (T ty0).size).ρ x = some p := r.ext (fun x hx => by simp only [Gh.move]; rw [if_neg (by omega)])
                  have hR := RelH.move (w' := w.setCells b (o + len * (T ty0).size) us) n hnl r (.row ty0 (T ty0).size (len + m) cap (appCell len cell src)) b o (T ty0).size (.inl hbk) (by rw [setCells_size]; exact hbl)
                    ho1 ho2 ho3 (by rw [setCells_size]; exact Nat.le_refl _) (fun c _ hc => hoth c hc) (by
                      refine .inr ⟨b, o, cells', fz, by simp [Gh.move], by simp [Gh.move], hh', by rcases hf with hf | hf <;> omega, hfit, by omega, fun i hi f hf' => ?_⟩
                      by_cases hil : i < len
                      · obtain ⟨u, hu, hiu⟩ := hcell i (by omega) f hf'
                        have hlt := mul_lt_of hil hf'
                        refine ⟨u, ?_, ?_⟩
                        · rw [World.cell?_setCells_out, hu]
                          intro _ _
                          simp only
                          omega
                        · have : appCell len cell src i f = cell i f := by simp [appCell, hil]
                          rw [this]
                          refine CV.At.move hkimm hext (fun c q hc => ⟨?_, hoth c (by rw [hc]; simp)⟩) hiu
                          simp only [Gh.move]
                          rw [if_neg (fun e => by rw [e, hbk] at hc; cases hc), hc]
                          simp
                      · obtain ⟨u, hu, hiu⟩ := hsrc.is (i - len) (by omega) f hf'
                        have hlt : (i - len) * (T ty0).size + f < us.length := by rw [hlen]; exact mul_lt_of (by omega) hf'
                        have hidx : i * (T ty0).size + f = len * (T ty0).size + ((i - len) * (T ty0).size + f) := by
                          rw [← Nat.add_assoc, ← Nat.add_mul]
                          congr 2
                          omega
                        refine ⟨u, ?_, ?_⟩
                        · rw [hidx, ← Nat.add_assoc]
                          rw [World.cell?_setCells_in b us (o + len * (T ty0).size) w (fun i hi => by
                            obtain ⟨u, hu⟩ := hexi (len * (T ty0).size + i) (by omega)
                            rw [show o + len * (T ty0).size + i = o + (len * (T ty0).size + i) by omega, hu]; rfl) _ hlt]
                          rw [List.getElem?_eq_getElem hlt] at hu
                          exact hu
                        · have : appCell len cell src i f = src (i - len) f := by simp [appCell, hil]
                          rw [this]
                          exact CV.At.lift _ (CV.Is.mono hkimm hext hiu))
                  exact ⟨_, _, _, _, _, hrun, hK cap hfit, hR.1, hR.2, .inr ⟨⟨b, o, (T ty0).size⟩, by simp [Gh.move], rfl, by simp⟩⟩
                · have hlr2 : len * (T ty0).size ≤ rc * (T ty0).size := Nat.mul_le_mul_right _ (by omega)
                  obtain ⟨us0, hl0, hus0⟩ := row_list w b o (len * (T ty0).size) cells ty0 fz hh (by clear hK hcell grow; omega)
                  refine grow (some ⟨b, o, none⟩) len cap us0 rfl (by clear hK hcell grow; omega) rfl ?_ hl0 (fun i hi f hf' => ?_)
                  · refine run_firstCells_some w.drew _ len ⟨b, o, none⟩ len cap us0 hl0 (fun j v hj => ?_)
                    have hjl : j < len * (T ty0).size := by rw [← hl0]; exact (List.getElem?_eq_some_iff.1 hj).1
                    rw [Addr.add_off, World.cell?_drew, ← hus0 j hjl]; exact hj
                  · obtain ⟨u, hu, hiu⟩ := hcell i (Nat.lt_of_lt_of_le hi hlr) f hf'
                    exact ⟨u, by rw [hus0 _ (mul_lt_of hi hf')]; exact hu, hiu⟩
          · exact h.elim
        · exact h.elim
      · exact h.elim
  · exact h.elim
end
end Go.V
end

section
set_option linter.unusedSimpArgs false
set_option linter.unusedVariables false
namespace Go.V
open Go Go.RowKit

def runesOf (m : Nat) (cell : Nat → Nat → CV) : List Int := (List.range m).map fun i => match cell i 0 with
  | .int _ n => n
  | _ => 0
/-- Cells that are runes. -/
def RuC (m : Nat) (cell : Nat → Nat → CV) : Prop := ∀ i, i < m → ∃ n : Int, cell i 0 = .int .i32 n
def toRunesStrP (T : Nat → TI) (src : TypeId) (x : AV) (H : List Ent) (K : AV → Prop) : Prop :=
  match (T src).kind, x with
  | .sl _, .s (.c (.str _)) => False
  | .sl e, x => (T e).kind = .int .i32 ∧ srcP 1 x H (bx2 fun m cell => RuC m cell ∧ K (.d (.str ((runesOf m cell).flatMap fun n => (Utf8.encode n).data.toList))))
  | _, _ => False
def convP (T : Nat → TI) (src dst : TypeId) (x : AV) (H : List Ent) (K : AV → List Ent → Prop) : Prop :=
  match (T src).kind, (T dst).kind, x with
  | .int _, .int k, .s (.c (.int _ n)) => K (.d (.int k (k.wrap n))) H
  | .int _, .str, .s (.c (.int _ n)) => K (.d (.str (Utf8.encode n).data.toList)) H
  | .str, .str, .s (.c (.str l)) => K (.d (.str l)) H
  | .str, .sl _, x => toBytesP T dst x H K
  | .sl e, .str, x => if (T e).kind.isAgg then False else match (T e).kind with
    | .int .u8 => toStrP T src x H (bx fun v => K v H)
    | .int .i32 => toRunesStrP T src x H (bx fun v => K v H)
    | _ => False
  | _, _, _ => False

/-- A run that turns nothing. -/
def RunsAt (P : Program) (g : Gh) (w : World) (m : Sem Value) (K : AV → Prop) : Prop := ∃ v av, m.run P w = .ok v w ∧ K av ∧ av.Is g w v

section
variable {P : Program} {T : Nat → TI} {E : Env} {g : Gh} {w : World} {H : List Ent}

theorem foldl_push (l : List UInt8) : ∀ s : ByteArray, (l.map fun b => ((b.toNat : Int))).foldl (fun r n => r.push (UInt8.ofNat n.toNat)) s = s ++ bstr l := by
  induction l with
  | nil => intro s; apply ByteArray.ext; simp [bstr]
  | cons b l ih =>
    intro s
    simp only [List.map_cons, List.foldl_cons, ih]
    apply ByteArray.ext
    simp [bstr]

theorem sees_old {w w' : World} (h : ∀ b, b < w.heap.size → w'.heap[b]? = w.heap[b]?) : Sees w w' := fun a u hu => by
  rcases Nat.lt_or_ge a.block w.heap.size with hb | hb
  · exact (cell?_of_heap (h _ hb)).trans hu
  · have : w.heap[a.block]? = none := by simp [hb]
    simp [World.cell?, this] at hu
theorem toBytesP_sound (hT : TOk P T) (r : RelH E g H w) {src dst : TypeId} (hs : (T src).kind = .str) {x : AV} {K : AV → List Ent → Prop} {v : Value} (hx : x.Is g w v) (h : toBytesP T dst x H K) :
    ∃ g' H' w' u av, (convert src dst v).run P w = .ok u w' ∧ K av H' ∧ RelH E g' H' w' ∧ Step H.length g w g' w' ∧ av.Is g' w' u ∧ Sees w w' := by
  unfold toBytesP at h
  split at h
  · rename_i e l hk
    obtain rfl := (show v = .string (bstr l) from hx)
    obtain ⟨he, hsz, hK⟩ := h
    have hrun := Lib.run_convert_string_bytes (P := P) w src dst e (bstr l) (hT.str hs) (hT.sl hk) (hT.int he)
    have hge : l.length ≤ grownCap w (bstr l).size 0 e := by have := grownCap_ge w (bstr l).size 0 e; rw [bstr_size] at this ⊢; exact this
    have hbs : (Lib.bytesCells w e (bstr l)).size = grownCap w (bstr l).size 0 e := by
      have h1 : (bstr l).data.size = l.length := by simp [bstr]
      rw [Lib.bytesCells, Array.size_append, Array.size_map, Array.size_replicate, h1]
      rw [bstr_size] at hge ⊢
      omega
    obtain ⟨g', hR, hS, hI⟩ := new_row r e 1 l.length (grownCap w (bstr l).size 0 e) (byteCell l) (Lib.bytesCells w e (bstr l)) _ (Lib.bytesWorld w e (bstr l)) rfl rfl rfl
      (Lib.bytesWorld_size _ _ _) (fun b hb => Lib.bytesWorld_at_old w e _ b hb) (Lib.bytesWorld_at_new w e _) (.inr (by rw [hbs]; omega)) hge (by rw [hbs]; omega) (fun k hk f hf => by
        obtain rfl : f = 0 := by omega
        refine ⟨.int .u8 ((l.getD k 0).toNat : Int), ?_, by rw [byteCell_get l k hk]; rfl⟩
        simp [Lib.bytesCells, bstr, Array.getElem?_append, hk, List.getD])
    exact ⟨g', _, _, _, _, hrun, hK _ hge, hR, hS, by rw [bstr_size] at hI ⊢; exact hI, sees_old (Lib.bytesWorld_at_old w e _)⟩
  · exact h.elim

theorem srcIs_nil {m : Nat} {cell : Nat → Nat → CV} {l c : Nat} {us : List Value} {wd : Nat} (h : SrcIs P g w wd m cell (.slice none l c) us) : l = m ∧ us = [] := by
  have h1 := h.lenOf
  have h2 := h.run w (fun _ => rfl)
  simp [Builtin.lenOf] at h1
  simp [Builtin.firstCells] at h2
  exact ⟨h1, h2⟩

theorem srcP_slice {wd : Nat} {x : AV} {v : Value} {K : Nat → (Nat → Nat → CV) → Prop} (hx : x.Is g w v) (hns : ∀ l, x ≠ .d (.str l)) (h : srcP wd x H K) : ∃ A n c, v = .slice A n c := by
  unfold srcP at h
  split at h
  · obtain ⟨A, hA⟩ := hx
    exact ⟨_, _, _, hA⟩
  · rcases hx with ⟨_, _, A, hA⟩ | ⟨p, _, _, hv⟩
    · exact ⟨_, _, _, hA⟩
    · exact ⟨_, _, _, hv⟩
  · rename_i wd' n cell
    have hx2 : (CV.lst wd' n cell).Is g w v := hx
    simp only [CV.At] at hx2
    obtain ⟨A, c, hv, _⟩ := hx2
    exact ⟨_, _, _, hv⟩
  · exact absurd rfl (hns _)
  · exact h.elim

theorem srcIs_ints {m : Nat} {cell : Nat → Nat → CV} {vy : Value} {us : List Value} {k : IntKind} {l : List Int} (h : SrcIs P g w 1 m cell vy us) (hl : l.length = m) (hc : ∀ i, i < m → cell i 0 = .int k (l.getD i 0)) : us = l.map (Value.int k) := by
  apply List.ext_getElem?
  intro i
  rcases Nat.lt_or_ge i m with hi | hi
  · obtain ⟨u, hu, hiu⟩ := h.is i hi 0 (by omega)
    rw [Nat.mul_one, Nat.add_zero] at hu
    rw [hc i hi] at hiu
    rw [hu, show u = _ from hiu]
    simp [List.getD, show i < l.length by omega]
  · rw [List.getElem?_eq_none (by rw [h.len]; omega), List.getElem?_eq_none (by simp; omega)]

theorem bytesOf_spec {m : Nat} {cell : Nat → Nat → CV} (h : ∀ i, i < m → ∃ b : UInt8, cell i 0 = .int .u8 (b.toNat : Int)) :
    (bytesOf m cell).length = m ∧ ∀ i, i < m → cell i 0 = .int .u8 (((bytesOf m cell).getD i 0).toNat : Int) := by
  refine ⟨by simp [bytesOf], fun i hi => ?_⟩
  obtain ⟨b, hb⟩ := h i hi
  simp [bytesOf, hi, hb]
theorem runesOf_spec {m : Nat} {cell : Nat → Nat → CV} (h : ∀ i, i < m → ∃ n : Int, cell i 0 = .int .i32 n) :
    (runesOf m cell).length = m ∧ ∀ i, i < m → cell i 0 = .int .i32 ((runesOf m cell).getD i 0) := by
  refine ⟨by simp [runesOf], fun i hi => ?_⟩
  obtain ⟨b, hb⟩ := h i hi
  simp [runesOf, hi, hb]
theorem toStrP_sound (hT : TOk P T) (r : RelH E g H w) {src dst : TypeId} (hd : (T dst).kind = .str) {x : AV} {K : AV → Prop} {v : Value} (hx : x.Is g w v) (h : toStrP T src x H K) :
    RunsAt P g w (convert src dst v) K := by
  unfold toStrP at h
  split at h
  · exact h.elim
  · rename_i e hk hns
    obtain ⟨he, h⟩ := h
    obtain ⟨A, n, c, rfl⟩ := srcP_slice hx (fun l hl => hns l hl) h
    obtain ⟨m, cell, us, ⟨hb, hK⟩, hsrc⟩ := srcP_sound (P := P) r hx h
    obtain ⟨hl, hc⟩ := bytesOf_spec hb
    generalize bytesOf m cell = l at hl hc hK
    have hus : us = (l.map fun b => ((b.toNat : Int))).map (Value.int .u8) := srcIs_ints hsrc (by simpa using hl) (fun i hi => by
      rw [hc i hi]; simp [List.getD, show i < l.length by omega])
    refine ⟨.string (bstr l), _, ?_, hK, rfl⟩
    rw [run_convert_bytes_string w src dst e A n c (hT.sl hk) (hT.int he) (hT.str hd)]
    cases A with
    | none =>
      obtain ⟨_, h0⟩ := srcIs_nil hsrc
      rw [h0] at hus
      have : l = [] := by simpa using hus.symm
      subst this
      simp [Conv.bytesToString, bstr]
      rfl
    | some a =>
      have hlen := hsrc.lenOf
      simp [Builtin.lenOf] at hlen
      have hrun := hsrc.run w (fun _ => rfl)
      simp only [Builtin.firstCells, Nat.mul_one] at hrun
      rw [hus] at hrun
      subst hlen
      rw [run_bytesToString w a n c _ hrun, foldl_push]
      congr 2
  · exact h.elim

theorem run_forIn_runes {P : Program} {w : World} (f : Value → ByteArray → Sem (ForInStep ByteArray))
    (hf : ∀ (n : Int) (r : ByteArray), (f (.int .i32 n) r).run P w = .ok (.yield (r ++ Utf8.encode n)) w) :
    ∀ (ns : List Int) (s : ByteArray), (forIn (ns.map (Value.int .i32)) s f).run P w = .ok (ns.foldl (fun r n => r ++ Utf8.encode n) s) w := by
  intro ns
  induction ns with
  | nil => intro s; simp [Sem.run_pure]
  | cons n ns ih =>
    intro s
    simp only [List.map_cons, List.forIn_cons, Sem.run_bind, hf, Result.andThen, List.foldl_cons]
    exact ih _
theorem foldl_runes (l : List Int) : ∀ s : ByteArray, l.foldl (fun r n => r ++ Utf8.encode n) s = s ++ bstr (l.flatMap fun n => (Utf8.encode n).data.toList) := by
  induction l with
  | nil => intro s; apply ByteArray.ext; simp [bstr]
  | cons b l ih =>
    intro s
    simp only [List.foldl_cons, ih]
    apply ByteArray.ext
    apply Array.ext'
    simp [bstr]

theorem toRunesStrP_sound (hT : TOk P T) (r : RelH E g H w) {src dst : TypeId} (hd : (T dst).kind = .str) {x : AV} {K : AV → Prop} {v : Value} (hx : x.Is g w v) (h : toRunesStrP T src x H K) :
    RunsAt P g w (convert src dst v) K := by
  unfold toRunesStrP at h
  split at h
  · exact h.elim
  · rename_i e hk hns
    obtain ⟨he, h⟩ := h
    obtain ⟨A, n, c, rfl⟩ := srcP_slice hx (fun l hl => hns l hl) h
    obtain ⟨m, cell, us, ⟨hb, hK⟩, hsrc⟩ := srcP_sound (P := P) r hx h
    obtain ⟨hl, hc⟩ := runesOf_spec hb
    generalize runesOf m cell = l at hl hc hK
    have hus : us = l.map (Value.int .i32) := srcIs_ints hsrc hl hc
    refine ⟨_, _, ?_, hK, rfl⟩
    have hcv : (convert src dst (.slice A n c)).run P w = (Conv.runesToString (.slice A n c)).run P w := by
      simp [convert, run_underlying (hT.sl hk), run_underlying (hT.str hd), run_underlying (hT.int he)]
    rw [hcv]
    cases A with
    | none =>
      obtain ⟨_, h0⟩ := srcIs_nil hsrc
      rw [h0] at hus
      have : l = [] := by simpa using hus.symm
      subst this
      simp [Conv.runesToString, bstr]
      rfl
    | some a =>
      have hlen := hsrc.lenOf
      simp [Builtin.lenOf] at hlen
      have hrun := hsrc.run w (fun _ => rfl)
      simp only [Builtin.firstCells, Nat.mul_one] at hrun
      rw [hus] at hrun
      subst hlen
      unfold Conv.runesToString
      simp only [Sem.run_bind, hrun, Result.andThen, List.forIn_toArray]
      rw [run_forIn_runes _ (by intro n r; simp [Sem.run_pure])]
      simp only [Sem.run_pure, foldl_runes]
      congr 2
      all_goals (apply ByteArray.ext; simp [bstr])
  · exact h.elim

theorem convP_sound (hT : TOk P T) (r : RelH E g H w) {src dst : TypeId} {x : AV} {K : AV → List Ent → Prop} {v : Value} (hx : x.Is g w v) (h : convP T src dst x H K) :
    ∃ g' H' w' u av, (convert src dst v).run P w = .ok u w' ∧ K av H' ∧ RelH E g' H' w' ∧ Step H.length g w g' w' ∧ av.Is g' w' u ∧ Sees w w' := by
  have same : RunsAt P g w (convert src dst v) (fun av => K av H) → ∃ g' H' w' u av, (convert src dst v).run P w = .ok u w' ∧ K av H' ∧ RelH E g' H' w' ∧ Step H.length g w g' w' ∧ av.Is g' w' u ∧ Sees w w' :=
    fun ⟨u, av, hr, hK, hi⟩ => ⟨g, H, w, u, av, hr, hK, r, Step.refl _ _ _, hi, fun _ _ h => h⟩
  unfold convP at h
  split at h
  · rename_i k0 k k1 n hs hd
    obtain rfl := (show v = .int k1 n from hx)
    exact same ⟨.int k (k.wrap n), _, by simp [convert, run_underlying (hT.int hs), run_underlying (hT.int hd), Conv.intToInt], h, rfl⟩
  · rename_i k0 k1 n hs hd
    obtain rfl := (show v = .int k1 n from hx)
    exact same ⟨.string (Utf8.encode n), _, by simp [convert, run_underlying (hT.int hs), run_underlying (hT.str hd), Conv.intToString], h, congrArg Value.string (bstr_data _).symm⟩
  · rename_i l hs hd
    obtain rfl := (show v = .string (bstr l) from hx)
    exact same ⟨.string (bstr l), _, by simp [convert, run_underlying (hT.str hs), run_underlying (hT.str hd)], h, rfl⟩
  · exact toBytesP_sound hT r (by assumption) hx h
  · rename_i hs hd
    split at h
    · exact h.elim
    · split at h
      · exact same (toStrP_sound hT r hd hx h)
      · exact same (toRunesStrP_sound hT r hd hx h)
      · exact h.elim
  · exact h.elim
end
end Go.V
end

section
set_option linter.unusedSimpArgs false
set_option linter.unusedVariables false
namespace Go.V
open Go Go.RowKit

theorem F2_map {α β γ : Type} {R : α → β → Prop} {f : γ → α} {h : γ → β} (hf : ∀ x, R (f x) (h x)) : ∀ l : List γ, F2 R (l.map f) (l.map h)
  | [] => trivial
  | x :: l => ⟨hf x, F2_map hf l⟩

theorem map_arr {α β : Type} (f : α → β) (a : Array α) : (a.toList.map f).toArray = a.map f := by apply Array.ext'; simp

section
variable {P : Program} {T : Nat → TI} {g : Gh} {w : World}

theorem value_of {m : Sem Value} {ρ : Operand → Value} {o : Oper} {K : AV → Prop} (ho : execOp ρ o = (do pure (.value (← m)))) (h : RunsTo P g w m K) :
    ∃ u av, (∀ w', (execOp ρ o).run P w' = .ok (.value u) w') ∧ K av ∧ av.Is g w u := by
  obtain ⟨v, av, hr, hK, hi⟩ := h
  exact ⟨v, av, fun w' => by rw [ho]; simp [hr], hK, hi⟩

theorem parts_is {ev : Operand → AV} {ρ : Operand → Value} (hev : ∀ x, (ev x).Is g w (ρ x)) (parts : Array (Nat × Operand)) :
    F2 (fun (a : Nat × AV) (b : Nat × Value) => a.1 = b.1 ∧ a.2.Is g w b.2) (parts.toList.map fun p => (p.1, ev p.2)) (parts.toList.map fun p => (p.1, ρ p.2)) :=
  F2_map (R := fun (a : Nat × AV) (b : Nat × Value) => a.1 = b.1 ∧ a.2.Is g w b.2) (fun x => ⟨rfl, hev x.2⟩) _

theorem opt_is {ev : Operand → AV} {ρ : Operand → Value} (hev : ∀ x, (ev x).Is g w (ρ x)) (x : Option Operand) : OptIs g w (x.map ev) (x.map ρ) := by
  cases x with
  | none => trivial
  | some x => exact hev x

theorem popP_sound (hT : TOk P T) {ev : Operand → AV} {ρ : Operand → Value} (hev : ∀ x, (ev x).Is g w (ρ x)) {o : Oper} {K : AV → Prop} (h : popP T ev o.op K) :
    ∃ u av, (∀ w', (execOp ρ o).run P w' = .ok (.value u) w') ∧ K av ∧ av.Is g w u := by
  obtain ⟨dst, op, type, pos, after, guard⟩ := o
  cases op <;> simp only [popP] at h <;> try exact h.elim
  case move x => exact ⟨_, _, fun _ => rfl, h, hev x⟩
  case assign x => exact ⟨_, _, fun _ => rfl, h, hev x⟩
  case pick c a b =>
    split at h
    · rename_i t hc
      have h1 := hev c
      rw [hc] at h1
      have h2 : ρ c = .bool t := h1
      cases t
      · exact ⟨_, _, fun w' => by simp [execOp, h2, asBool], h, hev b⟩
      · exact ⟨_, _, fun w' => by simp [execOp, h2, asBool], h, hev a⟩
    · exact h.elim
  case nilCheck x =>
    obtain ⟨hK, hr⟩ := nilCheckP_sound (P := P) (hev x) h
    exact ⟨_, _, hr ρ x _ rfl rfl, hK, hev x⟩
  case binOp op t x y yt => exact value_of rfl (binP_sound hT (hev x) (hev y) h)
  case unOp op t x => exact value_of rfl (unP_sound (hev x) h)
  case makeFunc fn first captured =>
    have := makeFuncP_sound (P := P) (F2_map hev first.toList) (F2_map hev captured.toList) h
    exact value_of (by simp only [execOp, map_arr]) this
  case slice t x lo hi mx => exact value_of rfl (sliceP_sound hT (hev x) (opt_is hev lo) (opt_is hev hi) (opt_is hev mx) h)
  case fieldAddr s x f => exact value_of rfl (fieldAddrP_sound hT (hev x) h)
  case field s x f => exact value_of rfl (fieldP_sound hT (hev x) h)
  case indexAddr t x i => exact value_of rfl (indexAddrP_sound hT (hev x) (hev i) h)
  case index t x i => exact value_of rfl (indexP_sound hT (hev x) (hev i) h)
  case extract x i => exact value_of rfl (extractP_sound (hev x) h)
  case build t parts =>
    have := buildP_sound (P := P) hT (parts_is hev parts) h
    refine value_of ?_ this
    simp only [execOp, map_arr]
  case call c =>
    obtain ⟨callee, args, tys⟩ := c
    cases callee <;> simp only at h <;> try exact h.elim
    rename_i b
    have he : ∃ cons, ∀ w', (execOp ρ ⟨dst, .call ⟨.builtin b, args, tys⟩, type, pos, after, guard⟩).run P w' = (builtin b tys type cons (args.map ρ)).run P w' :=
      ⟨_, fun w' => rfl⟩
    obtain ⟨cons, he⟩ := he
    obtain ⟨v, av, hr, hK, hi⟩ := builtinP_sound (P := P) (ty := type) (cons := cons) hT (F2_map hev args.toList) h
    refine ⟨v, av, fun w' => ?_, hK, hi⟩
    rw [he, ← map_arr]
    exact hr w'
end

/-! ### calls -/
/-- A call of f: one of a body, or one of what the model does by itself. -/
def CallsTo (P : Program) (f : FuncId) (us : Array Value) (w : World) (R : Value → World → Prop) : Prop :=
  ((callFunc f us).run P w = .ok (.enter f us) w ∧ Calls P f us w fun | .returned v, w' => R v w' | _, _ => False) ∨
  ∃ v w', (callFunc f us).run P w = .ok (.value v) w' ∧ R v w'

/-- What a call of f does to a heap. -/
def Meets (E : Env) (P : Program) (f : FuncId) (args : List AV) (H : List Ent) (post : AV → List Ent → Prop) (_ : Tk post := tk) : Prop :=
  ∀ g w us, RelH E g H w → F2 (AV.Is g w) args us → CallsTo P f us.toArray w fun r w' => ∃ g' H' v, post v H' ∧ H.length ≤ H'.length ∧ RelH E g' H' w' ∧ v.Is g' w' r ∧ Step H.length g w g' w'

theorem CallsTo.mono {P : Program} {f : FuncId} {us : Array Value} {w : World} {R R' : Value → World → Prop} (h : CallsTo P f us w R) (hR : ∀ v w', R v w' → R' v w') : CallsTo P f us w R' := by
  rcases h with ⟨h1, h2⟩ | ⟨v, w', h1, h2⟩
  · exact .inl ⟨h1, h2.mono fun e w' he => by cases e <;> first | exact hR _ _ he | exact he⟩
  · exact .inr ⟨v, w', h1, hR _ _ h2⟩
theorem Meets.mono {E : Env} {P : Program} {f : FuncId} {args : List AV} {H : List Ent} {post post' : AV → List Ent → Prop} (h : Meets E P f args H post) (hp : ∀ v H', post v H' → post' v H') : Meets E P f args H post' :=
  fun g w us hr hu => (h g w us hr hu).mono fun v w' ⟨g', H', av, hpo, rest⟩ => ⟨g', H', av, hp _ _ hpo, rest⟩
theorem Meets_congr {E : Env} {P : Program} {f : FuncId} {args args' : List AV} {H H' : List Ent} {post : AV → List Ent → Prop} (ha : args = args') (hH : H = H') : Meets E P f args H post = Meets E P f args' H' post := by rw [ha, hH]

def capArgs : List Nat → List AV
  | [] => []
  | n :: l => .c (.ptr n 0 0) :: capArgs l

def stOp (E : Env) (P : Program) (T : Nat → TI) (op : Op) (s : St) (K : AV → List Ent → Prop) : Prop :=
  match op with
  | .load t a => loadP T t (s.ev a) s.heap K
  | .store t a x => storeP T t (s.ev a) (s.ev x) s.heap (bx fun H => K .bad H)
  | .alloc t => allocP T t s.heap K
  | .box t x => boxP T t (s.ev x) s.heap K
  | .buildSlice t n parts => buildSliceP T t n (parts.toList.map fun p => (p.1, s.ev p.2)) s.heap K
  | .makeSlice t l c => makeSliceP T t (s.ev l) (s.ev c) s.heap K
  | .convert src dst x => convP T src dst (s.ev x) s.heap K
  | .call { callee := .builtin .append, args, argTypes } => appendP T argTypes.toList (args.toList.map s.ev) s.heap K
  | .call { callee := .value f, args, .. } => match s.ev f with
    | .s (.c (.fn g caps)) => Meets E P g (args.toList.map s.ev ++ capArgs caps) s.heap K
    | _ => False
  | op => popP T s.ev op (bx fun v => K v s.heap)

section
variable {P : Program} {T : Nat → TI} {E : Env} {g : Gh} {w : World} {H : List Ent}

/-- What an operation leaves behind it. -/
def After (E : Env) (g : Gh) (H : List Ent) (w : World) (K : AV → List Ent → Prop) (u : Value) (w' : World) : Prop :=
  ∃ g' H' av, K av H' ∧ H.length ≤ H'.length ∧ RelH E g' H' w' ∧ Step H.length g w g' w' ∧ av.Is g' w' u

theorem storeP_len {t : Nat} {x v : AV} {K : List Ent → Prop} (h : storeP T t x v H K) : storeP T t x v H (fun H' => K H' ∧ H.length ≤ H'.length) := by
  have hl : ∀ n e, H.length ≤ (setn H n e).length := fun n e => by rw [setn_eq]; simp
  unfold storeP at *
  obtain ⟨hk, h⟩ := h
  refine ⟨hk, ?_⟩
  split at h
  · split at h
    · rename_i cs hcs
      try simp only [hcs]
      refine ⟨h.1, h.2.1, ?_⟩
      have h := h.2.2
      split at h
      · rename_i hn
        try simp only [hn]
        exact ⟨h.1, h.2.1, h.2.2, hl _ _⟩
      · rename_i hn
        try simp only [hn]
        exact ⟨h.1, h.2.1, h.2.2, hl _ _⟩
      · exact h.elim
    · exact h.elim
  · exact h.elim
theorem boxP_len {t : Nat} {v : AV} {K : AV → List Ent → Prop} (h : boxP T t v H K) : boxP T t v H (fun v H' => K v H' ∧ H.length ≤ H'.length) := by
  unfold boxP at *
  split at h
  · split at h
    · rename_i hcs
      try simp only [hcs]
      exact ⟨h, by simp⟩
    · exact h.elim
  · exact h.elim
theorem allocP_len {t : Nat} {K : AV → List Ent → Prop} (h : allocP T t H K) : allocP T t H (fun v H' => K v H' ∧ H.length ≤ H'.length) := ⟨h.1, h.2.1, h.2.2, by simp⟩

theorem srcP_mono {wd : Nat} {y : AV} {K K' : Nat → (Nat → Nat → CV) → Prop} (hK : ∀ m c, K m c → K' m c) (h : srcP wd y H K) : srcP wd y H K' := by
  unfold srcP at *
  split at h
  · exact hK _ _ h
  · split at h
    · rename_i hn
      exact ⟨h.1, h.2.1, h.2.2.1, h.2.2.2.1, hK _ _ h.2.2.2.2⟩
    · exact h.elim
  · exact ⟨h.1, h.2.1, hK _ _ h.2.2⟩
  · exact ⟨h.1, hK _ _ h.2⟩
  · exact h.elim
theorem fillP_mono {place : Nat → Option (Nat × Nat)} {K K' : List CV → Prop} (hK : ∀ cs, K cs → K' cs) : ∀ {parts : List (Nat × AV)} {cs : List CV}, fillP place cs parts K → fillP place cs parts K'
  | [], _, h => hK _ h
  | (i, .s x) :: parts, cs, h => by
    unfold fillP at *
    split at h
    · rename_i off size xs h1 h2
      try simp only [h1, h2]
      exact ⟨h.1, h.2.1, fillP_mono hK h.2.2⟩
    · exact h.elim
  | (i, .tup x) :: parts, cs, h => by simp [fillP] at h
theorem buildSliceP_len {t n : Nat} {parts : List (Nat × AV)} {K : AV → List Ent → Prop} (h : buildSliceP T t n parts H K) : buildSliceP T t n parts H (fun v H' => K v H' ∧ H.length ≤ H'.length) := by
  unfold buildSliceP at *
  split at h
  · refine ⟨h.1, h.2.1, h.2.2.1, h.2.2.2.1, fillP_mono (fun cs hc => ?_) h.2.2.2.2⟩
    simp only [bx_app] at hc ⊢
    exact ⟨hc, by simp⟩
  · exact h.elim
theorem makeSliceP_len {t : Nat} {l c : AV} {K : AV → List Ent → Prop} (h : makeSliceP T t l c H K) : makeSliceP T t l c H (fun v H' => K v H' ∧ H.length ≤ H'.length) := by
  unfold makeSliceP at *
  split at h
  · obtain ⟨h1, h2, h3, h4, h5, h6, h7, h9⟩ := h
    exact ⟨h1, h2, h3, h4, h5, h6, h7, h9, by simp⟩
  · exact h.elim
theorem convP_len {src dst : TypeId} {x : AV} {K : AV → List Ent → Prop} (h : convP T src dst x H K) : convP T src dst x H (fun v H' => K v H' ∧ H.length ≤ H'.length) := by
  unfold convP at *
  split at h
  · exact ⟨h, Nat.le_refl _⟩
  · exact ⟨h, Nat.le_refl _⟩
  · exact ⟨h, Nat.le_refl _⟩
  · unfold toBytesP at *
    split at h
    · exact ⟨h.1, h.2.1, fun c hc => ⟨h.2.2 c hc, by simp⟩⟩
    · exact h.elim
  · split at h
    · exact h.elim
    · rename_i hag
      rw [if_neg hag]
      split at h
      · rename_i hk
        try simp only [hk]
        unfold toStrP at *
        split at h
        · exact h.elim
        · exact ⟨h.1, srcP_mono (fun m cell ⟨h1, h2⟩ => ⟨h1, h2, Nat.le_refl _⟩) h.2⟩
        · exact h.elim
      · rename_i hk
        try simp only [hk]
        unfold toRunesStrP at *
        split at h
        · exact h.elim
        · exact ⟨h.1, srcP_mono (fun m cell ⟨h1, h2⟩ => ⟨h1, h2, Nat.le_refl _⟩) h.2⟩
        · exact h.elim
      · exact h.elim
  · exact h.elim
theorem appendP_len {ts : List TypeId} {xs : List AV} {K : AV → List Ent → Prop} (h : appendP T ts xs H K) : appendP T ts xs H (fun v H' => K v H' ∧ H.length ≤ H'.length) := by
  unfold appendP at *
  split at h
  · split at h
    · obtain ⟨h1, h2, h3, h4, h5, h6⟩ := h
      refine ⟨h1, h2, h3, h4, h5, srcP_mono (fun m src h => ?_) h6⟩
      clear h6
      unfold bx2 at h ⊢
      revert h
      intro h
      split at h
      · exact ⟨h.1, fun c hc => ⟨h.2 c hc, by simp⟩⟩
      · split at h
        · rename_i hn
          obtain ⟨a1, a2, a3, a4, a5, a6, a7, a8, a9⟩ := h
          exact ⟨a1, a2, a3, a4, a5, a6, a7, a8, fun c hc => ⟨a9 c hc, by simp [setn_eq]⟩⟩
        · exact h.elim
      · exact h.elim
    · exact h.elim
  · exact h.elim
end
end Go.V
end

section
set_option linter.unusedSimpArgs false
set_option linter.unusedVariables false
namespace Go.V
open Go Go.RowKit

/-- The operations that neither look at the world nor turn it. -/
def pureOp : Op → Bool
  | .move _ | .assign _ | .pick .. | .nilCheck _ | .binOp .. | .unOp .. | .makeFunc .. | .slice .. | .fieldAddr .. | .field .. | .indexAddr .. | .index .. | .extract .. | .build .. => true
  | .call { callee := .builtin b, ..} => match b with | .len | .min | .max => true | _ => false
  | _ => false
def loadOp : Op → Bool
  | .load .. => true
  | _ => false
/-- The operations that turn nothing that is there. -/
def growOp : Op → Bool
  | .load .. | .alloc _ | .box .. | .buildSlice .. | .makeSlice .. | .convert .. => true
  | op => pureOp op

section
variable {P : Program} {T : Nat → TI} {E : Env} {g : Gh} {w : World} {s : St} {a : Act}

theorem pure_stOp {op : Op} {K : AV → List Ent → Prop} (hp : pureOp op = true) : stOp E P T op s K = popP T s.ev op (bx fun v => K v s.heap) := by
  cases op <;> simp [pureOp] at hp <;> try rfl
  rename_i c
  obtain ⟨callee, args, tys⟩ := c
  cases callee <;> simp at hp
  rename_i b
  cases b <;> simp at hp <;> rfl

theorem Slots.ev (hs : Slots g w s.tmps a) : ∀ x, (s.ev x).Is g w (a.eval x) := fun x => ev_is hs x

theorem pure_run (hT : TOk P T) (hs : Slots g w s.tmps a) {o : Oper} {K : AV → List Ent → Prop} (hp : pureOp o.op = true) (h : stOp E P T o.op s K) :
    ∃ u av, (∀ w', (execOp a.eval o).run P w' = .ok (.value u) w') ∧ K av s.heap ∧ av.Is g w u := by
  rw [pure_stOp hp] at h
  exact popP_sound hT hs.ev h

theorem load_run (hT : TOk P T) (r : RelH E g s.heap w) (hs : Slots g w s.tmps a) {o : Oper} {K : AV → List Ent → Prop} (hp : loadOp o.op = true) (h : stOp E P T o.op s K) :
    ∃ u, (∀ w', Sees w w' → (execOp a.eval o).run P w' = .ok (.value u) w') ∧ After E g s.heap w K u w := by
  obtain ⟨dst, op, type, pos, after, guard⟩ := o
  cases op <;> simp [loadOp] at hp
  rename_i t x
  obtain ⟨v, hr, g', H', av, hK, hl, hR, hS, hI⟩ := loadP_sound (t := t) (K := K) hT r (hs.ev x) h
  exact ⟨v, fun w' hw' => by simp [execOp, hr w' hw'], g', H', av, hK, hl, hR, hS, hI⟩

theorem sees_refl (w : World) : Sees w w := fun _ _ h => h

theorem grow_run (hT : TOk P T) (r : RelH E g s.heap w) (hs : Slots g w s.tmps a) {o : Oper} {K : AV → List Ent → Prop} (hp : growOp o.op = true) (h : stOp E P T o.op s K) :
    ∃ u w', (execOp a.eval o).run P w = .ok (.value u) w' ∧ Sees w w' ∧ After E g s.heap w K u w' := by
  by_cases hpu : pureOp o.op = true
  · obtain ⟨u, av, hr, hK, hi⟩ := pure_run hT hs hpu h
    exact ⟨u, w, hr w, sees_refl w, g, s.heap, av, hK, Nat.le_refl _, r, Step.refl _ _ _, hi⟩
  by_cases hlo : loadOp o.op = true
  · obtain ⟨u, hr, ha⟩ := load_run hT r hs hlo h
    exact ⟨u, w, hr w (sees_refl w), sees_refl w, ha⟩
  obtain ⟨dst, op, type, pos, after, guard⟩ := o
  cases op <;> simp only [growOp] at hp <;> first | exact absurd hp hpu | exact absurd rfl hlo | skip
  case alloc t =>
    obtain ⟨g', H', w', x, av, hr, ⟨hK, hl⟩, hR, hS, hI, hse⟩ := allocP_sound hT r (allocP_len h)
    exact ⟨x, w', by simp [execOp, hr], hse, g', H', av, hK, hl, hR, hS, hI⟩
  case box t x =>
    obtain ⟨g', H', w', x, av, hr, ⟨hK, hl⟩, hR, hS, hI, hse⟩ := boxP_sound (T := T) r (P := P) (hs.ev x) (boxP_len (T := T) h)
    exact ⟨x, w', by simp [execOp, hr], hse, g', H', av, hK, hl, hR, hS, hI⟩
  case buildSlice t n parts =>
    obtain ⟨g', H', w', x, av, hr, ⟨hK, hl⟩, hR, hS, hI, hse⟩ := buildSliceP_sound hT r (parts_is hs.ev parts) (buildSliceP_len h)
    exact ⟨x, w', by rw [map_arr] at hr; simp [execOp, hr], hse, g', H', av, hK, hl, hR, hS, hI⟩
  case makeSlice t l c =>
    obtain ⟨g', H', w', x, av, hr, ⟨hK, hl⟩, hR, hS, hI, hse⟩ := makeSliceP_sound hT r (hs.ev l) (hs.ev c) (makeSliceP_len h)
    exact ⟨x, w', by simp [execOp, hr], hse, g', H', av, hK, hl, hR, hS, hI⟩
  case convert src dst' x =>
    obtain ⟨g', H', w', u, av, hr, ⟨hK, hl⟩, hR, hS, hI, hse⟩ := convP_sound hT r (hs.ev x) (convP_len h)
    exact ⟨u, w', by simp [execOp, hr], hse, g', H', av, hK, hl, hR, hS, hI⟩

theorem F2_caps {caps : List Nat} {cs : List Value} (h : F2 (fun n c => ∃ p, g.ρ n = some p ∧ c = .pointer (some ⟨p.blk, p.off, none⟩)) caps cs) : F2 (AV.Is g w) (capArgs caps) cs := by
  induction caps generalizing cs with
  | nil => cases cs <;> first | trivial | exact h.elim
  | cons n l ih =>
    cases cs with
    | nil => exact h.elim
    | cons c cs =>
      obtain ⟨⟨p, hp, hc⟩, h⟩ := h
      exact ⟨⟨p, hp, by rw [hc]; simp⟩, ih h⟩

theorem stOp_sound (hT : TOk P T) (r : RelH E g s.heap w) (hs : Slots g w s.tmps a) {o : Oper} {K : AV → List Ent → Prop} (h : stOp E P T o.op s K)
    {next : Act → World → Prop} {Q : Exit → Act → World → Prop} (hn : ∀ u w', After E g s.heap w K u w' → next (a.put o.dst u) w') : o.wp P a w next Q := by
  by_cases hp : growOp o.op = true
  · obtain ⟨u, w', hr, _, ha⟩ := grow_run hT r hs hp h
    unfold Oper.wp
    rw [hr]
    exact hn _ _ ha
  obtain ⟨dst, op, type, pos, after, guard⟩ := o
  cases op <;> simp only [growOp, pureOp, not_true_eq_false] at hp <;> simp only [stOp, popP] at h <;> try exact h.elim
  case store t x v =>
    obtain ⟨H', w', hr, ⟨hK, hl⟩, hR, hS⟩ := storeP_sound hT r (hs.ev x) (hs.ev v) (storeP_len h)
    unfold Oper.wp
    have : (execOp a.eval ⟨dst, .store t x v, type, pos, after, guard⟩).run P w = .ok .skip w' := by simp [execOp, hr]
    rw [this]
    exact hn undef w' ⟨g, H', .bad, hK, hl, hR, hS, trivial⟩
  case call c =>
    obtain ⟨callee, args, tys⟩ := c
    cases callee with
    | builtin b =>
      cases b <;> simp only [popP, builtinP] at h <;> try exact h.elim
      case append =>
        obtain ⟨g', H', w', u, av, hr, ⟨hK, hl⟩, hR, hS, hI⟩ := appendP_sound (ty := type) hT r (F2_map hs.ev args.toList) (appendP_len h)
        unfold Oper.wp
        rw [map_arr] at hr
        have : (execOp a.eval ⟨dst, .call ⟨.builtin .append, args, tys⟩, type, pos, after, guard⟩).run P w = .ok (.value u) w' := by simp [execOp, resolve, invoke, builtin, hr]
        rw [this]
        exact hn u w' ⟨g', H', av, hK, hl, hR, hS, hI⟩
      all_goals (exfalso; simp at hp)
    | invoke x n => exact h.elim
    | value f =>
      simp only at h
      split at h
      · rename_i q caps hf
        have hfv := hs.ev f
        rw [hf] at hfv
        obtain ⟨cs, hfv, hcs⟩ := hfv
        have hargs : F2 (AV.Is g w) (args.toList.map s.ev ++ capArgs caps) (args.toList.map a.eval ++ cs) := F2.append (F2_map hs.ev args.toList) (F2_caps hcs)
        have hex : execOp a.eval ⟨dst, .call ⟨.value f, args, tys⟩, type, pos, after, guard⟩ = callFunc q (args.toList.map a.eval ++ cs).toArray := by
          have : (args.toList.map a.eval ++ cs).toArray = args.map a.eval ++ cs.toArray := by apply Array.ext'; simp
          rw [this]
          simp [execOp, resolve, hfv, Deferred.ofValue, invoke]
        unfold Oper.wp
        rw [hex]
        rcases h g w _ r hargs with ⟨h1, h2⟩ | ⟨v, w', h1, g', H', av, h2⟩
        · rw [h1, Oper.upon_enter]
          refine h2.mono fun e w' he => ?_
          cases e with
          | returned v =>
            obtain ⟨g', H', av, hK, hl, hR, hI, hS⟩ := he
            exact hn v w' ⟨g', H', av, hK, hl, hR, hS, hI⟩
          | panicked c => exact he.elim
          | outgrown => exact he.elim
        · rw [h1]
          exact hn v w' ⟨g', H', av, h2.1, h2.2.1, h2.2.2.1, h2.2.2.2.2, h2.2.2.2.1⟩
      · exact h.elim
end
end Go.V
end

section
set_option linter.unusedSimpArgs false
set_option linter.unusedVariables false
namespace Go.V
open Go Go.RowKit

/-- A state of ours and one of the model, N0 names and the world w0 being what was there at the function's begin. -/
def Ok (E : Env) (N0 : Nat) (g0 : Gh) (w0 : World) (s : St) (a : Act) (w : World) : Prop :=
  ∃ g, N0 ≤ s.heap.length ∧ Step N0 g0 w0 g w ∧ RelH E g s.heap w ∧ Slots g w s.tmps a

def guardV (ops : List Oper) (s : St) (j : Nat) : AV :=
  match ops[j]? with
  | some o => match o.dst with
    | some d => nth s.tmps d
    | none => .bad
  | none => .bad
def gM (a : AV) (want : Bool) (p q : Prop) (_ : Tk p := tk) (_ : Tk q := tk) : Prop :=
  match a with
  | .s (.c (.bool b)) => condP (b == want) p q
  | .tup [] => q
  | _ => False
def vcO (E : Env) (P : Program) (T : Nat → TI) (ops : List Oper) (o : Oper) (K : St → Prop) (s : St) : Prop :=
  match o.guard with
  | none => stOp E P T o.op s (bx2 fun v H => K ⟨put s.tmps o.dst v, H⟩)
  | some (j, want) => gM (guardV ops s j) want (stOp E P T o.op s (bx2 fun v H => K ⟨put s.tmps o.dst v, H⟩)) (K ⟨put s.tmps o.dst (.tup []), s.heap⟩)
def vcL (E : Env) (P : Program) (T : Nat → TI) (ops : List Oper) : List Oper → (St → Prop) → St → Prop
  | [], K, s => K s
  | o :: l, K, s => vcO E P T ops o (bx fun s => vcL E P T ops l K s) s

/-- In which order the operations of a region are gone through. -/
inductive Plan where
  | done
  | take (i : Nat) (p : Plan)
  | one (i : Nat) (p : Plan)
  | fork (i : Nat) (p q : Plan)
  | nil
def Plan.heads : Plan → List Nat
  | .fork i _ q => i :: q.heads
  | _ => []
/-- What stands behind i among the operations that are not listed yet. -/
def behindL (ops : Array Oper) (listed : Array Bool) (i : Nat) : List Nat → List Nat → List Nat
  | [], D => D
  | j :: l, D => match ops[j]? with
    | some oj => behindL ops listed i l (if (!listed.getD j true) && oj.after.any (fun e => Region.binds .any e && (e.on == i || D.contains e.on)) then j :: D else D)
    | none => behindL ops listed i l D
def behind (ops : Array Oper) (listed : Array Bool) (i : Nat) : List Nat := behindL ops listed i (List.range ops.size) []
def calmB (ops : Array Oper) (listed : Array Bool) (i : Nat) : Bool :=
  match ops[i]? with
  | none => false
  | some oi => let D := behind ops listed i
    (pureOp oi.op || loadOp oi.op) && (D.all fun j => j != i && !listed.getD j true && match ops[j]? with
      | some oj => oj.after.any fun e => Region.binds .any e && (e.on == i || D.contains e.on)
      | none => false) && (List.range ops.size).all fun j => j == i || listed.getD j true || D.contains j || match ops[j]? with
      | some oj => oi.apart ops oj && (pureOp oi.op || growOp oj.op)
      | none => true
def planOk (ops : Array Oper) : Bool → Plan → Array Bool → Nat → Bool
  | false, .done, l, _ => (Region.ready .any ops l).isEmpty
  | false, .take i p, l, n + 1 => (Region.ready .any ops l).contains i && calmB ops l i && planOk ops false p (l.setIfInBounds i true) n
  | false, .one i p, l, n + 1 => (Region.ready .any ops l == [i]) && planOk ops false p (l.setIfInBounds i true) n
  | false, .fork i p q, l, n + 1 => (Region.ready .any ops l == i :: q.heads) && planOk ops false p (l.setIfInBounds i true) n && planOk ops true q l (n + 1)
  | true, .fork i p q, l, n + 1 => planOk ops false p (l.setIfInBounds i true) n && planOk ops true q l (n + 1)
  | true, .nil, _, _ => true
  | _, _, _, _ => false
def vcI (E : Env) (P : Program) (T : Nat → TI) (ops : List Oper) (i : Nat) (K : St → Prop) (s : St) : Prop :=
  match ops[i]? with
  | some o => vcO E P T ops o K s
  | none => False
def vcP (E : Env) (P : Program) (T : Nat → TI) (ops : List Oper) : Bool → Plan → (St → Prop) → St → Prop
  | false, .done, K, s => K s
  | false, .take i p, K, s => vcI E P T ops i (bx fun s => vcP E P T ops false p K s) s
  | false, .one i p, K, s => vcI E P T ops i (bx fun s => vcP E P T ops false p K s) s
  | false, .fork i p q, K, s => vcI E P T ops i (bx fun s => vcP E P T ops false p K s) s ∧ vcP E P T ops true q K s
  | true, .fork i p q, K, s => vcI E P T ops i (bx fun s => vcP E P T ops false p K s) s ∧ vcP E P T ops true q K s
  | true, .nil, _, _ => True
  | _, _, _, _ => False

section
variable {P : Program} {T : Nat → TI} {E : Env} {N0 : Nat} {g0 : Gh} {w0 : World} {s : St} {a : Act} {w : World}

theorem Ok.after {g : Gh} (hN : N0 ≤ s.heap.length) (hS : Step N0 g0 w0 g w) (r : RelH E g s.heap w) (hs : Slots g w s.tmps a) {K : AV → List Ent → Prop} {u : Value} {w' : World} (h : After E g s.heap w K u w') (d : Option Tmp) :
    ∃ av H', K av H' ∧ Ok E N0 g0 w0 ⟨put s.tmps d av, H'⟩ (a.put d u) w' := by
  obtain ⟨g', H', av, hK, hl, hR, hS', hI⟩ := h
  exact ⟨av, H', hK, g', Nat.le_trans hN hl, hS.trans hS' hN, hR, (hs.step r hS').put d hI⟩

theorem Ok.undef {s : St} {d : Option Tmp} (h : Ok E N0 g0 w0 s a w) : Ok E N0 g0 w0 ⟨put s.tmps d (.tup []), s.heap⟩ (a.put d undef) w := by
  obtain ⟨g, hN, hS, r, hs⟩ := h
  exact ⟨g, hN, hS, r, hs.put d ⟨[], rfl, trivial⟩⟩

theorem guard_is {g : Gh} {ops : List Oper} (hs : Slots g w s.tmps a) {j : Nat} {x : AV} (h : guardV ops s j = x) :
    (∀ b, x = .d (.bool b) → yielded ops.toArray a.tmps j = some b) ∧ (x = .tup [] → yielded ops.toArray a.tmps j = none) := by
  unfold guardV at h
  unfold yielded
  cases ho : ops[j]? with
  | none => rw [ho] at h; subst h; simp
  | some o =>
    rw [ho] at h
    simp only at h
    cases hd : o.dst with
    | none => rw [hd] at h; subst h; simp
    | some d =>
      rw [hd] at h
      simp only at h
      rw [nth_eq] at h
      simp only [List.getElem?_toArray, ho, Option.bind_some, hd]
      cases hl : s.tmps[d]? with
      | none =>
        rw [hl] at h
        have hx : x = .bad := h.symm
        subst hx
        exact ⟨fun b hb => (by cases hb), fun hb => (by cases hb)⟩
      | some v =>
        rw [hl] at h
        simp only [Option.getD_some] at h
        subst h
        obtain ⟨u, hu, hi⟩ := F2.get hs.2 hl
        rw [Array.getElem?_toList] at hu
        rw [hu]
        refine ⟨fun b hb => ?_, fun hb => ?_⟩
        · subst hb
          have : u = .bool b := hi
          subst this; rfl
        · subst hb
          obtain ⟨us, rfl, hus⟩ := hi
          rfl

theorem wanted_none {o : Oper} {y : Nat → Option Bool} (h : o.guard = none) : Region.wanted o y = true := by simp [Region.wanted, h]
theorem wanted_some {o : Oper} {y : Nat → Option Bool} {j : Nat} {want : Bool} (h : o.guard = some (j, want)) : Region.wanted o y = (y j == some want) := by simp [Region.wanted, h]

/-- An operation with its guard: it is wanted and does what it says, or it is not. -/
theorem vcO_cases (hok : Ok E N0 g0 w0 s a w) {ops : List Oper} {o : Oper} {K : St → Prop} (h : vcO E P T ops o K s) :
    (Region.wanted o (yielded ops.toArray a.tmps) = true ∧ stOp E P T o.op s fun v H => K ⟨put s.tmps o.dst v, H⟩) ∨
    (Region.wanted o (yielded ops.toArray a.tmps) = false ∧ K ⟨put s.tmps o.dst (.tup []), s.heap⟩) := by
  obtain ⟨g, hN, hS, r, hs⟩ := hok
  unfold vcO at h
  split at h
  · rename_i hg
    exact .inl ⟨wanted_none hg, h⟩
  · rename_i j want hg
    rw [wanted_some hg]
    unfold gM at h
    split at h
    · rename_i b hb
      rw [(guard_is hs hb).1 b rfl]
      by_cases hbw : b = want
      · subst hbw
        simp only [beq_self_eq_true, condP_true] at h ⊢
        exact .inl ⟨trivial, h⟩
      · have h1 : (b == want) = false := by simpa using hbw
        have h2 : (some b == some want) = false := by simpa using hbw
        rw [h1, condP_false] at h
        exact .inr ⟨h2, h⟩
    · rename_i hb
      rw [(guard_is hs hb).2 rfl]
      exact .inr ⟨rfl, h⟩
    · exact h.elim

theorem vcO_sound (hT : TOk P T) (hok : Ok E N0 g0 w0 s a w) {ops : List Oper} {o : Oper} {K : St → Prop} (h : vcO E P T ops o K s)
    {next : Act → World → Prop} {Q : Exit → Act → World → Prop} (hn : ∀ s a w, K s → Ok E N0 g0 w0 s a w → next a w) :
    if Region.wanted o (yielded ops.toArray a.tmps) = true then o.wp P a w next Q else next (a.put o.dst undef) w := by
  rcases vcO_cases hok h with ⟨hw, h⟩ | ⟨hw, h⟩
  · rw [if_pos hw]
    obtain ⟨g, hN, hS, r, hs⟩ := hok
    refine stOp_sound hT r hs h fun u w' ha => ?_
    obtain ⟨av, H', hK, hok'⟩ := Ok.after hN hS r hs ha o.dst
    exact hn _ _ _ hK hok'
  · rw [if_neg (by rw [hw]; simp)]
    exact hn _ _ _ h hok.undef

theorem vcL_sound (hT : TOk P T) {ops : List Oper} {Q : Exit → Act → World → Prop} {K : St → Prop} (hn : ∀ s a w, K s → Ok E N0 g0 w0 s a w → Q .normal a w) :
    ∀ (l : List Oper) (s : St) (a : Act) (w : World), vcL E P T ops l K s → Ok E N0 g0 w0 s a w → wpList P ops.toArray Q l a w
  | [], s, a, w, h, hok => wpList_nil (hn s a w h hok)
  | o :: l, s, a, w, h, hok => wpList_step fun next hnext => vcO_sound hT hok h fun s a w hK hok' => hnext a w (vcL_sound hT hn l s a w hK hok')

/-! ### in whatever order -/
/-- One operation of a region; of what grows the heap at most it is kept that it does. -/
def gUp (P : Program) (ops : Array Oper) (Q : Exit → Act → World → Prop) (i : Nat) (K : Act → World → Prop) (a : Act) (w : World) : Prop :=
  match ops[i]? with
  | none => K a w
  | some o => if Region.wanted o (yielded ops a.tmps) = true then
      (if growOp o.op = true then ∃ v w', (execOp a.eval o).run P w = .ok (.value v) w' ∧ Sees w w' ∧ K (a.put o.dst v) w' else o.wp P a w K Q)
      else K (a.put o.dst undef) w
def gAny (P : Program) (ops : Array Oper) (Q : Exit → Act → World → Prop) : Nat → Array Bool → Act → World → Prop
  | 0, listed, a, w => Region.ready .any ops listed = [] ∧ Q .normal a w
  | fuel + 1, listed, a, w => (Region.ready .any ops listed = [] → Q .normal a w) ∧ ∀ i ∈ Region.ready .any ops listed, gUp P ops Q i (gAny P ops Q fuel (listed.setIfInBounds i true)) a w

theorem gUp_wpOp {ops : Array Oper} {Q : Exit → Act → World → Prop} {i : Nat} {K : Act → World → Prop} (h : gUp P ops Q i K a w) : wpOp P ops Q i K a w := by
  unfold gUp at h
  unfold wpOp
  cases ho : ops[i]? with
  | none => simp only [ho] at h; exact h
  | some o =>
    simp only [ho] at h ⊢
    split at h
    · rename_i hw
      rw [if_pos hw]
      refine .inl ?_
      split at h
      · obtain ⟨v, w', hr, _, hK⟩ := h
        unfold Oper.wp
        rw [hr]
        exact hK
      · exact h
    · rename_i hw
      rw [if_neg hw]
      exact h
theorem gUp_mono {ops : Array Oper} {Q : Exit → Act → World → Prop} {i : Nat} {K K' : Act → World → Prop} (hK : ∀ a w, K a w → K' a w) (h : gUp P ops Q i K a w) : gUp P ops Q i K' a w := by
  unfold gUp at *
  split
  · rename_i ho; simp only [ho] at h; exact hK _ _ h
  · rename_i o ho
    simp only [ho] at h
    split
    · rename_i hw
      rw [if_pos hw] at h
      split
      · rename_i hg
        rw [if_pos hg] at h
        obtain ⟨v, w', hr, hs, h⟩ := h
        exact ⟨v, w', hr, hs, hK _ _ h⟩
      · rename_i hg
        rw [if_neg hg] at h
        exact Oper.wp_mono hK h
    · rename_i hw
      rw [if_neg hw] at h
      exact hK _ _ h
theorem gAny_wpAny {ops : Array Oper} {Q : Exit → Act → World → Prop} : ∀ (fuel : Nat) (listed : Array Bool) (a : Act) (w : World), gAny P ops Q fuel listed a w → wpAny P .any ops Q fuel listed a w
  | 0, _, _, _, h => h
  | fuel + 1, listed, a, w, h => ⟨h.1, fun i hi => wpOp_mono (fun a w => gAny_wpAny fuel _ a w) (gUp_wpOp (h.2 i hi))⟩

/-- i comes to v: in every world ('full'), or in those that see what w has. -/
def YieldsG (P : Program) (ops : Array Oper) (full : Bool) (w : World) (o : Oper) (v : Value) (a : Act) : Prop :=
  (Region.wanted o (yielded ops a.tmps) = true ∧ ∀ w', (full = true ∨ Sees w w') → (execOp a.eval o).run P w' = .ok (.value v) w') ∨
  (Region.wanted o (yielded ops a.tmps) = false ∧ v = undef)
theorem Sees.trans {w w' w'' : World} (h : Sees w w') (h' : Sees w' w'') : Sees w w'' := fun a u hu => h' a u (h a u hu)
theorem YieldsG.of_same {ops : Array Oper} {full : Bool} {o : Oper} {v : Value} {a a' : Act} {w w' : World} (hy : YieldsG P ops full w o v a) (hs : full = true ∨ Sees w w') (he : execOp a'.eval o = execOp a.eval o)
    (hw : Region.wanted o (yielded ops a'.tmps) = Region.wanted o (yielded ops a.tmps)) : YieldsG P ops full w' o v a' := by
  unfold YieldsG at *
  rw [he, hw]
  refine hy.imp (fun h => ⟨h.1, fun w'' h'' => h.2 w'' ?_⟩) id
  rcases hs with hs | hs
  · exact .inl hs
  · exact h''.imp id (hs.trans ·)
theorem YieldsG.gUp {ops : Array Oper} {Q : Exit → Act → World → Prop} {full : Bool} {i : Nat} {o : Oper} {v : Value} (hi : ops[i]? = some o) (hg : growOp o.op = true) (hy : YieldsG P ops full w o v a)
    {K : Act → World → Prop} (h : K (a.put o.dst v) w) : gUp P ops Q i K a w := by
  unfold V.gUp
  simp only [hi]
  rcases hy with ⟨hw, hv⟩ | ⟨hw, rfl⟩
  · rw [if_pos hw, if_pos hg]
    exact ⟨v, w, hv w (.inr (sees_refl w)), sees_refl w, h⟩
  · rw [if_neg (by rw [hw]; simp)]
    exact h

def Plain (Q : Exit → Act → World → Prop) : Prop := (∀ c a w, ¬ Q (.panic c) a w) ∧ ¬ LetsOut Q

theorem gUp_put {ops : Array Oper} {Q : Exit → Act → World → Prop} (hQ : Plain Q) {full : Bool} {j : Nat} {oi oj : Oper} {v : Value} (hj : ops[j]? = some oj) (hap : oi.apart ops oj = true)
    (hsi : ∀ cs b, oi.op ≠ .select cs b) (hsj : ∀ cs b, oj.op ≠ .select cs b) (hc : full = true ∨ growOp oj.op = true) {K : Act → World → Prop}
    (hy : YieldsG P ops full w oi v a) (h : gUp P ops Q j K (a.put oi.dst v) w) :
    gUp P ops Q j (fun a' w' => YieldsG P ops full w' oi v a' ∧ K (a'.put oi.dst v) w') a w := by
  obtain ⟨h1, h2, h3⟩ := Oper.apart_spec hap
  have keep : ∀ u w', (full = true ∨ Sees w w') → YieldsG P ops full w' oi v (a.put oj.dst u) := fun u w' hs =>
    hy.of_same hs (execOp_put oi hsi a oj.dst u h3) (wanted_put oi a oj.dst u h3)
  by_cases hg : growOp oj.op = true
  · unfold gUp at *
    simp only [hj] at *
    rw [wanted_put oj a oi.dst v h1] at h
    split
    · rename_i hw
      rw [if_pos hw, if_pos hg] at h
      try rw [if_pos hg]
      rw [execOp_put oj hsj a oi.dst v h1] at h
      obtain ⟨u, w', hr, hs, hK⟩ := h
      exact ⟨u, w', hr, hs, keep u w' (.inr hs), by rw [← Act.put_comm a v u h2]; exact hK⟩
    · rename_i hw
      rw [if_neg hw] at h
      exact ⟨keep _ w (.inr (sees_refl w)), by rw [← Act.put_comm a v undef h2]; exact h⟩
  · have hf := hc.resolve_right hg
    subst hf
    have hy' : Yields P ops oi v a := by
      rcases hy with ⟨hw, hv⟩ | h
      · exact .inl ⟨hw, fun w => hv w (.inl rfl)⟩
      · exact .inr h
    have hw := wpOp_put (Q := Q) hj hap hsi hsj (fun c a w hp => absurd hp (hQ.1 c _ w)) hy' (gUp_wpOp h)
    unfold wpOp at hw
    unfold gUp
    simp only [hj] at hw ⊢
    have conv : ∀ a' w', Yields P ops oi v a' ∧ K (a'.put oi.dst v) w' → YieldsG P ops true w' oi v a' ∧ K (a'.put oi.dst v) w' := fun a' w' ⟨hy, hK⟩ => by
      refine ⟨?_, hK⟩
      rcases hy with ⟨hw, hv⟩ | h
      · exact .inl ⟨hw, fun w _ => hv w⟩
      · exact .inr h
    split
    · rename_i hwa
      rw [if_pos hwa] at hw
      try rw [if_neg hg]
      rcases hw with hw | hw
      · exact Oper.wp_mono conv hw
      · exact absurd hw.2 hQ.2
    · rename_i hwa
      rw [if_neg hwa] at hw
      exact conv _ _ hw

theorem no_select {op : Op} (h : growOp op = true) : ∀ cs b, op ≠ .select cs b := by
  intro cs b he; subst he; simp [growOp, pureOp] at h
end
end Go.V
end
