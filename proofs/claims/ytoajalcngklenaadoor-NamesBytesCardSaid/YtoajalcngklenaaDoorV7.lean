/- V, part 7: new boxes and rows; append. -/
import Derived.Test.YtoajalcngklenaaDoorV6
import Derived.Lib.ConvBytes
set_option linter.unusedSimpArgs false
set_option linter.unusedVariables false
namespace Go.V
open Go Go.RowKit

/-- So many rows of wd cells. -/
def chunk (wd : Nat) : Nat → List CV → List (List CV)
  | 0, _ => []
  | n + 1, l => l.take wd :: chunk wd n (l.drop wd)
theorem chunk_at (wd : Nat) : ∀ (n : Nat) (l : List CV) (k f : Nat), k < n → f < wd → at2 (chunk wd n l) k f = l.getD (k * wd + f) (.bool false)
  | n + 1, l, 0, f, _, hf => by
    simp only [at2, chunk, List.getD_cons_zero, Nat.zero_mul, Nat.zero_add]
    simp [List.getD, List.getElem?_take, hf]
  | n + 1, l, k + 1, f, hk, hf => by
    have := chunk_at wd n (l.drop wd) k f (by omega) hf
    simp only [at2, chunk, List.getD_cons_succ] at this ⊢
    rw [this]
    simp only [List.getD, List.getElem?_drop]
    rw [show wd + (k * wd + f) = (k + 1) * wd + f by rw [Nat.add_mul]; omega]
def buildSliceP (T : Nat → TI) (t n : Nat) (parts : List (Nat × AV)) (H : List Ent) (K : AV → List Ent → Prop) : Prop :=
  match (T t).kind with
  | .sl e => (T e).kind ≠ .other ∧ n * (T e).size ≤ 16777216 ∧ (T e).za.length = (T e).size ∧ (T e).za ≠ [] ∧
    fillP (fun i => some (i * (T e).size, (T e).size)) ((List.replicate n (T e).za).flatten) (parts.map fun p => (p.1, typedA T e p.2)) (bx fun cs =>
      K (.c (.sl H.length (T e).size 0 n n)) (H ++ [.row e (T e).size n n (at2 (chunk (T e).size n cs))]))
  | _ => False
def makeSliceP (T : Nat → TI) (t : Nat) (l c : AV) (H : List Ent) (K : AV → List Ent → Prop) : Prop :=
  match (T t).kind, l, c with
  | .sl e, .s (.c (.int _ l)), .s (.c (.int _ c)) => (T e).kind ≠ .other ∧ (T e).za.length = (T e).size ∧ (T e).za ≠ [] ∧ 0 ≤ l ∧ l ≤ c ∧ c ≤ 1099511627776 ∧ (T e).bytes ≤ 128 ∧
      K (.c (.sl H.length (T e).size 0 l.toNat c.toNat)) (H ++ [.row e (T e).size l.toNat c.toNat (at2 (List.replicate l.toNat (T e).za))])
  | _, _, _ => False

section
variable {P : Program} {T : Nat → TI} {E : Env} {g : Gh} {w : World} {H : List Ent}

theorem sees_alloc (w : World) (o : Obj) : Sees w (w.alloc o) := fun a u h => by
  have hb : a.block < w.heap.size := by
    rcases Nat.lt_or_ge a.block w.heap.size with h' | h'
    · exact h'
    · simp [World.cell?, Array.getElem?_eq_none h'] at h
  rw [World.cell?_of_block (w := w) (Below.heap_alloc w o a.block hb)]; exact h
/-- A new box. -/
theorem new_box (r : RelH E g H w) (t : Nat) {cs : List CV} {us : List Value} (hF : F2 (CV.Is g w) cs us) :
    ∃ g' w', w' = w.alloc (.cells us.toArray t) ∧ RelH E g' (H ++ [.box t cs]) w' ∧ Step H.length g w g' w' ∧ (AV.c (.ptr H.length 0 0)).Is g' w' (.pointer (some ⟨w.heap.size, 0, none⟩)) := by
  have hold : ∀ b, b < w.heap.size → (w.alloc (.cells us.toArray t)).heap[b]? = w.heap[b]? := fun b hb => Below.heap_alloc w _ b hb
  have hne : ∀ b, g.κ b = .imm → b < w.heap.size := fun b hb => by
    rcases Nat.lt_or_ge b w.heap.size with h | h
    · exact h
    · rw [r.lt b h] at hb; cases hb
  have h := RelH.alloc (w' := w.alloc (.cells us.toArray t)) r (.box t cs) 0 cs.length rfl rfl rfl (by simp) hold (by
    refine ⟨w.heap.size, us.toArray, by simp [Gh.add], by simp [Gh.add], by simp [World.alloc, -World.alloc_eq], by simp [hF.length], fun i c hc => ?_⟩
    obtain ⟨u, hu, hi⟩ := F2.get hF hc
    refine ⟨u, by simpa using hu, CV.At.lift _ (CV.Is.mono (fun b hb => ?_) (fun m p hp => ?_) hi)⟩
    · have hl := hne b hb
      refine ⟨?_, hold b hl⟩
      simp only [Gh.add]; rw [if_neg (by omega)]; exact hb
    · simp only [Gh.add]
      split
      · rename_i hm; rw [r.dom m (by omega)] at hp; cases hp
      · exact hp)
  exact ⟨_, _, rfl, h.1, h.2, ⟨⟨w.heap.size, 0, cs.length⟩, by simp [Gh.add], by simp⟩⟩

theorem boxP_sound (r : RelH E g H w) {t : Nat} {v : AV} {K : AV → List Ent → Prop} {u : Value} (hv : v.Is g w u) (h : boxP T t v H K) :
    ∃ g' H' w' x av, (Instr.box t u).run P w = .ok x w' ∧ K av H' ∧ RelH E g' H' w' ∧ Step H.length g w g' w' ∧ av.Is g' w' x ∧ Sees w w' := by
  unfold boxP at h
  split at h
  · split at h
    · rename_i y cs hcs
      have hF := SV.cells_is hcs (typedS_is (T := T) (t := t) hv)
      obtain ⟨g', w', hw, hR, hS, hI⟩ := new_box r t hF
      refine ⟨g', _, w', _, _, ?_, h, hR, hS, hI, hw ▸ sees_alloc _ _⟩
      rw [hw]
      simp [Instr.box, newVar, newRow]
    · exact h.elim
  · exact h.elim

theorem allocP_sound (hT : TOk P T) (r : RelH E g H w) {t : Nat} {K : AV → List Ent → Prop} (h : allocP T t H K) :
    ∃ g' H' w' x av, (Instr.alloc t true (.tuple #[])).run P w = .ok x w' ∧ K av H' ∧ RelH E g' H' w' ∧ Step H.length g w g' w' ∧ av.Is g' w' x ∧ Sees w w' := by
  obtain ⟨hk, hz, h⟩ := h
  obtain ⟨z, hzr, hzc⟩ := zero_run (P := P) hT hk (za_ne (hT.za hk) hz)
  obtain ⟨g', w', hw, hR, hS, hI⟩ := new_box r t (zOk_is g w (hT.za hk))
  refine ⟨g', _, w', _, _, ?_, h, hR, hS, hI, hw ▸ sees_alloc _ _⟩
  rw [hw]
  have : z.cells = (T t).zero.toArray := by rw [← hzc]
  simp [Instr.alloc, hzr, newVar, newRow, this]

/-- A new row of data. -/
theorem new_row (r : RelH E g H w) (e wd n c : Nat) (cell : Nat → Nat → CV) (cs : Array Value) (fz : Nat × Nat) (w' : World)
    (hos : w'.os = w.os) (htape : w'.tape = w.tape) (hout : w'.output = w.output) (hsz : w'.heap.size = w.heap.size + 1)
    (hold : ∀ b, b < w.heap.size → w'.heap[b]? = w.heap[b]?) (hnew : w'.heap[w.heap.size]? = some (.cells cs e fz)) (hf : fz.2 ≤ fz.1 ∨ c * wd ≤ fz.1)
    (hnc : n ≤ c) (hc : c * wd ≤ cs.size) (hcell : ∀ k, k < n → ∀ f, f < wd → ∃ u, cs[k * wd + f]? = some u ∧ (cell k f).Is g w u) :
    ∃ g', RelH E g' (H ++ [.row e wd n c cell]) w' ∧ Step H.length g w g' w' ∧ (AV.c (.sl H.length wd 0 n c)).Is g' w' (.slice (some ⟨w.heap.size, 0, none⟩) n c) := by
  have hne : ∀ b, g.κ b = .imm → b < w.heap.size := fun b hb => by
    rcases Nat.lt_or_ge b w.heap.size with h | h
    · exact h
    · rw [r.lt b h] at hb; cases hb
  have h := RelH.alloc (w' := w') r (.row e wd n c cell) 0 wd hos htape hout hsz hold (by
    refine .inr ⟨w.heap.size, 0, cs, fz, by simp [Gh.add], by simp [Gh.add], hnew, by simpa using hf, hnc, by omega, fun k hk f hf' => ?_⟩
    obtain ⟨u, hu, hi⟩ := hcell k hk f hf'
    refine ⟨u, by simp [World.cell?, hnew, hu], CV.At.lift _ (CV.Is.mono (fun b hb => ?_) (fun m p hp => ?_) hi)⟩
    · have hl := hne b hb
      refine ⟨?_, hold b hl⟩
      simp only [Gh.add]; rw [if_neg (by omega)]; exact hb
    · simp only [Gh.add]
      split
      · rename_i hm; rw [r.dom m (by omega)] at hp; cases hp
      · exact hp)
  exact ⟨_, h.1, h.2, .inr ⟨⟨w.heap.size, 0, wd⟩, by simp [Gh.add], rfl, by simp⟩⟩

theorem replicate_flatten_getElem {α : Type} (l : List α) : ∀ (n k f : Nat), k < n → f < l.length → ((List.replicate n l).flatten)[k * l.length + f]? = l[f]?
  | n + 1, 0, f, _, hf => by
    rw [List.replicate_succ, List.flatten_cons, Nat.zero_mul, Nat.zero_add, List.getElem?_append_left hf]
  | n + 1, k + 1, f, hk, hf => by
    rw [List.replicate_succ, List.flatten_cons, List.getElem?_append_right (by rw [Nat.add_mul]; omega)]
    rw [show (k + 1) * l.length + f - l.length = k * l.length + f by rw [Nat.add_mul]; omega]
    exact replicate_flatten_getElem l n k f (by omega) hf

theorem range_map_mod (zs : List Value) (n : Nat) (hz : zs ≠ []) : ((Array.range (n * zs.length)).map (zs.toArray[· % zs.toArray.size]!)).toList = (List.replicate n zs).flatten := by
  have hpos : 0 < zs.length := List.length_pos_iff.2 hz
  apply List.ext_getElem?
  intro i
  by_cases hi : i < n * zs.length
  · have hk : i / zs.length < n := Nat.div_lt_of_lt_mul (by rw [Nat.mul_comm]; exact hi)
    have hf : i % zs.length < zs.length := Nat.mod_lt _ hpos
    have := replicate_flatten_getElem zs n (i / zs.length) (i % zs.length) hk hf
    rw [show i / zs.length * zs.length + i % zs.length = i by rw [Nat.mul_comm]; exact Nat.div_add_mod i zs.length] at this
    rw [this]
    simp [hi, hf]
  · rw [List.getElem?_eq_none (by simp; omega), List.getElem?_eq_none (by simp [List.length_flatten]; omega)]

theorem foldl_size (off : Nat) : ∀ (l : List (Value × Nat)) (cells : Array Value), (l.foldl (fun (cs : Array Value) (p : Value × Nat) => cs.setIfInBounds (off + p.2) p.1) cells).size = cells.size
  | [], _ => rfl
  | p :: l, cells => by rw [List.foldl_cons, foldl_size off l]; simp
theorem fill_size {place : Nat → Option (Nat × Nat)} : ∀ {vs : List (Nat × Value)} {cells cells' : Array Value}, Instr.fill place cells vs = some cells' → cells'.size = cells.size
  | [], cells, cells', h => by simp only [Instr.fill, Option.some.injEq] at h; rw [h]
  | (i, v) :: vs, cells, cells', h => by
    unfold Instr.fill at h
    split at h
    · cases h
    · split at h
      · cases h
      · have := fill_size h
        rw [this]
        show (v.cells.zipIdx.foldl (fun (cs : Array Value) (p : Value × Nat) => cs.setIfInBounds (_ + p.2) p.1) cells).size = _
        rw [← Array.foldl_toList]
        exact foldl_size _ _ _
theorem F2_flatten {R : CV → Value → Prop} {l : List CV} {m : List Value} (h : F2 R l m) : ∀ n, F2 R (List.replicate n l).flatten (List.replicate n m).flatten
  | 0 => trivial
  | n + 1 => by
    rw [List.replicate_succ, List.replicate_succ, List.flatten_cons, List.flatten_cons]
    exact F2.append h (F2_flatten h n)

theorem typedE_parts {T : Nat → TI} {e : Nat} : ∀ {parts : List (Nat × AV)} {vs : List (Nat × Value)}, F2 (fun (a : Nat × AV) (b : Nat × Value) => a.1 = b.1 ∧ a.2.Is g w b.2) parts vs →
    F2 (fun (a : Nat × AV) (b : Nat × Value) => a.1 = b.1 ∧ a.2.Is g w b.2) (parts.map fun p => (p.1, typedA T e p.2)) vs
  | [], [], _ => trivial
  | _ :: _, _ :: _, h => ⟨⟨h.1.1, typedA_is h.1.2⟩, typedE_parts h.2⟩

theorem buildSliceP_sound (hT : TOk P T) (r : RelH E g H w) {t n : Nat} {parts : List (Nat × AV)} {vs : List (Nat × Value)} {K : AV → List Ent → Prop}
    (hp : F2 (fun (a : Nat × AV) (b : Nat × Value) => a.1 = b.1 ∧ a.2.Is g w b.2) parts vs) (h : buildSliceP T t n parts H K) :
    ∃ g' H' w' x av, (Instr.buildSlice t n vs.toArray).run P w = .ok x w' ∧ K av H' ∧ RelH E g' H' w' ∧ Step H.length g w g' w' ∧ av.Is g' w' x ∧ Sees w w' := by
  unfold buildSliceP at h
  split at h
  · rename_i e hk
    obtain ⟨hne, hbig, hzal, hza, h⟩ := h
    have hz := za_ne (hT.za hne) hza
    have hzl : (T e).zero.length = (T e).size := by rw [← hzal]; exact (zOk_is g w (hT.za hne)).length.symm
    have hu := hT.sl hk
    have hs := hT.size hne w
    obtain ⟨z, hzr, hzc⟩ := zero_run (P := P) hT hne hz
    have hzsz : z.cells.size = (T e).size := by rw [← hzl, ← hzc]; simp
    have hpos : 0 < (T e).size := by rw [← hzl]; exact List.length_pos_iff.2 hz
    have hzero : (if n * (T e).size = 0 then (pure #[] : Sem (Array Value)) else do pure (← zeroValue e).cells).run P w = .ok (if n * (T e).size = 0 then #[] else z.cells) w := by
      split <;> simp [hzr]
    have hz2 : ((Array.range (n * (T e).size)).map ((if n * (T e).size = 0 then #[] else z.cells)[· % (if n * (T e).size = 0 then #[] else z.cells).size]!)).toList = (List.replicate n (T e).zero).flatten := by
      split
      · rename_i h0
        have : n = 0 := by
          rcases Nat.mul_eq_zero.1 h0 with h | h
          · exact h
          · omega
        subst this
        simp
      · have := range_map_mod (T e).zero n hz
        rw [hzl] at this
        rw [← this, ← hzc]
    have hc0 : F2 (CV.Is g w) ((List.replicate n (T e).za).flatten) ((Array.range (n * (T e).size)).map ((if n * (T e).size = 0 then #[] else z.cells)[· % (if n * (T e).size = 0 then #[] else z.cells).size]!)).toList := by
      rw [hz2]; exact F2_flatten (zOk_is g w (hT.za hne)) n
    obtain ⟨cells', cs', hfill, hK, hc⟩ := fillP_sound (typedE_parts hp) hc0 h
    simp only [bx_app] at hK
    have hfl : cells'.size = n * (T e).size := by
      rw [fill_size hfill]; simp
    have hcl : cs'.length = n * (T e).size := by rw [hc.length]; simpa using hfl
    obtain ⟨g', hR, hS, hI⟩ := new_row r e (T e).size n n (at2 (chunk (T e).size n cs')) cells' (0, 0) (w.alloc (.cells cells' e)) rfl rfl rfl (by simp) (fun b hb => Below.heap_alloc w _ b hb)
      (by simp [World.alloc, -World.alloc_eq]) (.inl (Nat.le_refl _)) (Nat.le_refl _) (by omega) (fun k hk' f hf => by
        have hlt : k * (T e).size + f < cells'.size := by
          have := Nat.mul_le_mul_right (T e).size (show k + 1 ≤ n by omega)
          rw [Nat.add_mul] at this; omega
        have hg : cells'.toList[k * (T e).size + f]? = some cells'[k * (T e).size + f] := by simp [hlt]
        obtain ⟨d, hd, hdi⟩ := F2.get' hc hg
        refine ⟨_, by rw [← Array.getElem?_toList]; exact hg, ?_⟩
        rw [chunk_at _ _ _ _ _ hk' hf]
        simp only [List.getD, hd, Option.getD_some]
        exact hdi)
    refine ⟨g', _, _, _, _, ?_, hK, hR, hS, hI, sees_alloc _ _⟩
    have hb' : ¬ (n * (T e).size > 2 ^ 24) := by omega
    by_cases h0 : n * (T e).size = 0
    · simp only [h0, if_true] at hfill
      have hb0 : ¬ ((0 : Nat) > 2 ^ 24) := by decide
      simp only [Instr.buildSlice, Sem.run_bind, run_underlying hu, Result.andThen_ok, hs, hb0, if_false, h0, if_true, Sem.run_pure, hfill, newRow, run_newObj, World.alloc_eq]
    · simp only [h0, if_false] at hfill
      simp only [Instr.buildSlice, Sem.run_bind, run_underlying hu, Result.andThen_ok, hs, hb', if_false, h0, Sem.run_pure, hzr, hfill, newRow, run_newObj, World.alloc_eq]
  · exact h.elim

theorem wrap_small (n : Int) (h0 : 0 ≤ n) (h1 : n ≤ 1099511627776) : IntKind.i64.wrap n = n := by
  simp [IntKind.wrap, IntKind.min, IntKind.bits, IntKind.signed]; omega

theorem makeSliceP_sound (hT : TOk P T) (r : RelH E g H w) {t : Nat} {l c : AV} {K : AV → List Ent → Prop} {vl vc : Value} (hl : l.Is g w vl) (hc : c.Is g w vc) (h : makeSliceP T t l c H K) :
    ∃ g' H' w' x av, (Instr.makeSlice t vl vc).run P w = .ok x w' ∧ K av H' ∧ RelH E g' H' w' ∧ Step H.length g w g' w' ∧ av.Is g' w' x ∧ Sees w w' := by
  unfold makeSliceP at h
  split at h
  · rename_i e k1 l k2 c hk
    obtain rfl := (show vl = .int k1 l from hl)
    obtain rfl := (show vc = .int k2 c from hc)
    obtain ⟨hne, hzal, hza, h0, h1, h2, hbt, hK⟩ := h
    have hz := za_ne (hT.za hne) hza
    have hF := zOk_is g w (hT.za hne)
    have hzl : (T e).zero.length = (T e).size := by rw [← hzal]; exact hF.length.symm
    have hu := hT.sl hk
    have hs := hT.size hne w
    obtain ⟨i, hi, hi1, hi2, _⟩ := hT.info hne
    obtain ⟨z, hzr, hzc⟩ := zero_run (P := P) hT hne hz
    have hpos : 0 < (T e).size := by rw [← hzl]; exact List.length_pos_iff.2 hz
    have hwl := wrap_small l h0 (by omega)
    have hwc := wrap_small c (by omega) h2
    have hbytes : (((T e).bytes : Int)) * c ≤ 281474976710656 := by
      have : ((T e).bytes : Int) * c ≤ 128 * c := Int.mul_le_mul_of_nonneg_right (by omega) (by omega)
      omega
    have hbytesl : (((T e).bytes : Int)) * l ≤ 281474976710656 := by
      have : ((T e).bytes : Int) * l ≤ 128 * l := Int.mul_le_mul_of_nonneg_right (by omega) (by omega)
      omega
    have harr : ((Array.range (c.toNat * (T e).size)).map ((if c.toNat * (T e).size = 0 then #[] else z.cells)[· % (if c.toNat * (T e).size = 0 then #[] else z.cells).size]!)).toList = (List.replicate c.toNat (T e).zero).flatten := by
      split
      · rename_i h0
        have : c.toNat = 0 := by
          rcases Nat.mul_eq_zero.1 h0 with h | h
          · exact h
          · omega
        rw [this]
        simp
      · have := range_map_mod (T e).zero c.toNat hz
        rw [hzl] at this
        rw [← this, ← hzc]
    generalize hA : ((Array.range (c.toNat * (T e).size)).map ((if c.toNat * (T e).size = 0 then #[] else z.cells)[· % (if c.toNat * (T e).size = 0 then #[] else z.cells).size]!)) = A at harr
    have hAs : A.size = c.toNat * (T e).size := by rw [← hA]; simp
    obtain ⟨g', hR, hS, hI⟩ := new_row r e (T e).size l.toNat c.toNat (at2 (List.replicate l.toNat (T e).za)) A (0, 0) (w.alloc (.cells A e)) rfl rfl rfl (by simp) (fun b hb => Below.heap_alloc w _ b hb)
      (by simp [World.alloc, -World.alloc_eq]) (.inl (Nat.le_refl _)) (by omega) (by omega) (fun k hk' f hf => by
        have hg := replicate_flatten_getElem (T e).zero c.toNat k f (by omega) (by rw [hzl]; exact hf)
        rw [hzl] at hg
        have hfz : (T e).zero[f]? = some (T e).zero[f] := List.getElem?_eq_getElem (show f < (T e).zero.length by rw [hzl]; exact hf)
        obtain ⟨c0, hc0, hi0⟩ := F2.get' hF hfz
        refine ⟨_, by rw [← Array.getElem?_toList, harr, hg]; exact hfz, ?_⟩
        have : at2 (List.replicate l.toNat (T e).za) k f = c0 := by
          simp only [at2, List.getD]
          rw [List.getElem?_replicate, if_pos hk']
          simp [hc0]
        rw [this]; exact hi0)
    refine ⟨g', _, _, _, _, ?_, hK, hR, hS, hI, sees_alloc _ _⟩
    have c1 : ¬ (c < 0) := by omega
    have c2 : ¬ (281474976710656 < ((T e).bytes : Int) * c) := by omega
    have c3 : ¬ (l < 0) := by omega
    have c4 : ¬ (c < l) := by omega
    have d1 : (decide (c < 0) || decide ((i.bytes : Int) * c > 2 ^ 48)) = false := by
      rw [hi2]; simp only [Bool.or_eq_false_iff, decide_eq_false_iff_not]; exact ⟨by omega, by simpa using c2⟩
    have hcond : ((decide (c < 0) || decide ((i.bytes : Int) * c > 2 ^ 48)) || decide (l < 0) || decide (l > c)) = false := by
      rw [d1]; simp only [Bool.or_eq_false_iff, decide_eq_false_iff_not]; exact ⟨⟨trivial, by omega⟩, by omega⟩
    have hti : (typeInfo e).run P w = .ok i w := by simp [typeInfo, hi]
    by_cases hz0 : c.toNat * (T e).size = 0
    · simp only [hz0, if_true] at hA
      simp only [Instr.makeSlice, Sem.run_bind, run_underlying hu, Result.andThen_ok, asInt, asIntOf, Sem.run_pure, hti, hwl, hwc, hcond, Bool.false_eq_true, if_false, run_askRoom, hs, hz0, if_true, newRow, run_newObj, World.alloc_eq, hA]
    · simp only [hz0, if_false] at hA
      simp only [Instr.makeSlice, Sem.run_bind, run_underlying hu, Result.andThen_ok, asInt, asIntOf, Sem.run_pure, hti, hwl, hwc, hcond, Bool.false_eq_true, if_false, run_askRoom, hs, hz0, hzr, newRow, run_newObj, World.alloc_eq, hA]
  · exact h.elim
end
end Go.V
