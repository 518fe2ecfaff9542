/- V, part 15: the rules by which simp goes through a function. -/
import Derived.Test.YtoajalcngklenaaDoorV14
import Derived.Attr
set_option linter.unusedSimpArgs false
set_option linter.unusedVariables false
namespace Go.V
open Go Go.RowKit

theorem nth_cons_zero {α : Type} [Inhabited α] (a : α) (l : List α) : nth (a :: l) 0 = a := rfl
theorem nth_cons_succ {α : Type} [Inhabited α] (a : α) (l : List α) (n : Nat) : nth (a :: l) (n + 1) = nth l n := rfl
theorem setn_cons_zero {α : Type} (a b : α) (l : List α) : setn (a :: l) 0 b = b :: l := rfl
theorem setn_cons_succ {α : Type} (a b : α) (l : List α) (n : Nat) : setn (a :: l) (n + 1) b = a :: setn l n b := rfl

/-- The call answers v and leaves the heap as it is. -/
def Ret (v0 : AV) (H0 : List Ent) : AV → List Ent → Prop := fun v H => v = v0 ∧ H = H0
theorem Meets.ret {E : Env} {P : Program} {f : FuncId} {args : List AV} {H H0 : List Ent} {v0 : AV} {K : AV → List Ent → Prop} (h : Meets E P f args H (Ret v0 H0)) (hK : K v0 H0) : Meets E P f args H K :=
  h.mono fun v H' ⟨hv, hH⟩ => by subst hv; subst hH; exact hK
theorem Fin.ret {E : Env} {N0 : Nat} {v v0 : AV} {H H0 : List Ent} (h : v = v0) (hH : H = H0) : V.Fin E N0 (Ret v0 H0) v H := Fin.now ⟨h, hH⟩

theorem toList_toArray {α : Type} (l : List α) : l.toArray.toList = l := rfl
theorem addw_i64 {a b : Int} (h : -9223372036854775808 ≤ a + b) (h' : a + b < 9223372036854775808) : addw .i64 a b = a + b := by
  simp [addw, IntKind.wrap, IntKind.min, IntKind.bits, IntKind.signed]; omega
theorem subw_i64 {a b : Int} (h : -9223372036854775808 ≤ a - b) (h' : a - b < 9223372036854775808) : subw .i64 a b = a - b := by
  simp [subw, IntKind.wrap, IntKind.min, IntKind.bits, IntKind.signed]; omega
theorem addw_u8 {a b : Int} (h : 0 ≤ a + b) (h' : a + b < 256) : addw .u8 a b = a + b := by
  simp [addw, IntKind.wrap, IntKind.min, IntKind.bits, IntKind.signed]; omega
theorem subw_u8 {a b : Int} (h : 0 ≤ a - b) (h' : a - b < 256) : subw .u8 a b = a - b := by
  simp [subw, IntKind.wrap, IntKind.min, IntKind.bits, IntKind.signed]; omega
section
variable (E : Env) (P : Program) (T : Nat → TI) (s : St) (K : AV → List Ent → Prop)
theorem stOp_move (x : Operand) : stOp E P T (.move x) s K = popP T s.ev (.move x) (bx fun v => K v s.heap) := rfl
theorem stOp_assign (x : Operand) : stOp E P T (.assign x) s K = popP T s.ev (.assign x) (bx fun v => K v s.heap) := rfl
theorem stOp_pick (c a b : Operand) : stOp E P T (.pick c a b) s K = popP T s.ev (.pick c a b) (bx fun v => K v s.heap) := rfl
theorem stOp_nilCheck (x : Operand) : stOp E P T (.nilCheck x) s K = popP T s.ev (.nilCheck x) (bx fun v => K v s.heap) := rfl
theorem stOp_binOp (o : BinOp) (t : TypeId) (x y : Operand) (u : TypeId) : stOp E P T (.binOp o t x y u) s K = popP T s.ev (.binOp o t x y u) (bx fun v => K v s.heap) := rfl
theorem stOp_unOp (o : UnOp) (t : TypeId) (x : Operand) : stOp E P T (.unOp o t x) s K = popP T s.ev (.unOp o t x) (bx fun v => K v s.heap) := rfl
theorem stOp_makeFunc (f : Fn) (a b : Array Operand) : stOp E P T (.makeFunc f a b) s K = popP T s.ev (.makeFunc f a b) (bx fun v => K v s.heap) := rfl
theorem stOp_slice (t : TypeId) (x : Operand) (l h m : Option Operand) : stOp E P T (.slice t x l h m) s K = popP T s.ev (.slice t x l h m) (bx fun v => K v s.heap) := rfl
theorem stOp_fieldAddr (t : TypeId) (x : Operand) (f : Nat) : stOp E P T (.fieldAddr t x f) s K = popP T s.ev (.fieldAddr t x f) (bx fun v => K v s.heap) := rfl
theorem stOp_field (t : TypeId) (x : Operand) (f : Nat) : stOp E P T (.field t x f) s K = popP T s.ev (.field t x f) (bx fun v => K v s.heap) := rfl
theorem stOp_indexAddr (t : TypeId) (x i : Operand) : stOp E P T (.indexAddr t x i) s K = popP T s.ev (.indexAddr t x i) (bx fun v => K v s.heap) := rfl
theorem stOp_index (t : TypeId) (x i : Operand) : stOp E P T (.index t x i) s K = popP T s.ev (.index t x i) (bx fun v => K v s.heap) := rfl
theorem stOp_extract (x : Operand) (i : Nat) : stOp E P T (.extract x i) s K = popP T s.ev (.extract x i) (bx fun v => K v s.heap) := rfl
theorem stOp_build (t : TypeId) (ps : Array (Nat × Operand)) : stOp E P T (.build t ps) s K = popP T s.ev (.build t ps) (bx fun v => K v s.heap) := rfl
theorem stOp_len (xs : Array Operand) (ts : Array TypeId) : stOp E P T (.call ⟨.builtin .len, xs, ts⟩) s K = popP T s.ev (.call ⟨.builtin .len, xs, ts⟩) (bx fun v => K v s.heap) := rfl
theorem stOp_min (xs : Array Operand) (ts : Array TypeId) : stOp E P T (.call ⟨.builtin .min, xs, ts⟩) s K = popP T s.ev (.call ⟨.builtin .min, xs, ts⟩) (bx fun v => K v s.heap) := rfl
theorem stOp_max (xs : Array Operand) (ts : Array TypeId) : stOp E P T (.call ⟨.builtin .max, xs, ts⟩) s K = popP T s.ev (.call ⟨.builtin .max, xs, ts⟩) (bx fun v => K v s.heap) := rfl
theorem stOp_load (t : TypeId) (a : Operand) : stOp E P T (.load t a) s K = loadP T t (s.ev a) s.heap K := rfl
theorem stOp_store (t : TypeId) (a x : Operand) : stOp E P T (.store t a x) s K = storeP T t (s.ev a) (s.ev x) s.heap (bx fun H => K .bad H) := rfl
theorem stOp_alloc (t : TypeId) : stOp E P T (.alloc t) s K = allocP T t s.heap K := rfl
theorem stOp_box (t : TypeId) (x : Operand) : stOp E P T (.box t x) s K = boxP T t (s.ev x) s.heap K := rfl
theorem stOp_buildSlice (t n : Nat) (ps : Array (Nat × Operand)) : stOp E P T (.buildSlice t n ps) s K = buildSliceP T t n (ps.toList.map fun p => (p.1, s.ev p.2)) s.heap K := rfl
theorem stOp_makeSlice (t : TypeId) (l c : Operand) : stOp E P T (.makeSlice t l c) s K = makeSliceP T t (s.ev l) (s.ev c) s.heap K := rfl
theorem stOp_convert (a b : TypeId) (x : Operand) : stOp E P T (.convert a b x) s K = convP T a b (s.ev x) s.heap K := rfl
theorem stOp_append (xs : Array Operand) (ts : Array TypeId) : stOp E P T (.call ⟨.builtin .append, xs, ts⟩) s K = appendP T ts.toList (xs.toList.map s.ev) s.heap K := rfl
theorem stOp_call (f : Operand) (xs : Array Operand) (ts : Array TypeId) : stOp E P T (.call ⟨.value f, xs, ts⟩) s K = (match s.ev f with | .s (.c (.fn g caps)) => Meets E P g (xs.toList.map s.ev ++ capArgs caps) s.heap K | _ => False) := rfl
end
theorem exThen_normal (n : St → Prop) (K : Cont) (d : Tk n) (d' : Tk K) (s : St) : exThen n K d d' .normal s = n s := rfl
theorem exThen_exit (n : St → Prop) (K : Cont) (d : Tk n) (d' : Tk K) (i : Nat) (s : St) : exThen n K d d' (.exit i) s = K (.exit i) s := rfl
theorem exThen_ret (n : St → Prop) (K : Cont) (d : Tk n) (d' : Tk K) (s : St) : exThen n K d d' .ret s = K .ret s := rfl
theorem exBlock_normal (id : Nat) (K : Cont) (d : Tk K) (s : St) : exBlock id K d .normal s = K .normal s := rfl
theorem exBlock_exit (id : Nat) (K : Cont) (d : Tk K) (i : Nat) (s : St) : exBlock id K d (.exit i) s = if i = id then K .normal s else K (.exit i) s := rfl
theorem exBlock_ret (id : Nat) (K : Cont) (d : Tk K) (s : St) : exBlock id K d .ret s = K .ret s := rfl
theorem exits_normal (E : Env) (T : Nat → TI) (N0 : Nat) (rs : List ResultVar) (post : AV → List Ent → Prop) (s : St) : exits E T N0 rs post .normal s = resultP T rs s (V.Fin E N0 post) := rfl
theorem exits_ret (E : Env) (T : Nat → TI) (N0 : Nat) (rs : List ResultVar) (post : AV → List Ent → Prop) (s : St) : exits E T N0 rs post .ret s = resultP T rs s (V.Fin E N0 post) := rfl
theorem nth_app {α : Type} [Inhabited α] (A H L : List α) (k : Nat) (h : A.length = H.length) : nth (A ++ L) (H.length + k) = nth L k := by
  rw [← h, nth_eq, nth_eq, List.getElem?_append_right (by omega)]; simp
theorem nth_app0 {α : Type} [Inhabited α] (A H L : List α) (h : A.length = H.length) : nth (A ++ L) H.length = nth L 0 := nth_app A H L 0 h
theorem nth_self {α : Type} [Inhabited α] (H L : List α) : nth (H ++ L) H.length = nth L 0 := nth_app H H L 0 rfl
theorem setn_app {α : Type} (A H L : List α) (k : Nat) (e : α) (h : A.length = H.length) : setn (A ++ L) (H.length + k) e = A ++ setn L k e := by
  rw [← h, setn_eq, setn_eq, List.set_append_right _ _ (by omega)]; simp
theorem setn_app0 {α : Type} (A H L : List α) (e : α) (h : A.length = H.length) : setn (A ++ L) H.length e = A ++ setn L 0 e := setn_app A H L 0 e h
theorem setn_length {α : Type} (H : List α) (n : Nat) (e : α) : (setn H n e).length = H.length := by rw [setn_eq]; simp
theorem nth_set {α : Type} [Inhabited α] (H : List α) (n : Nat) (e : α) (h : n < H.length) : nth (setn H n e) n = e := by
  rw [nth_eq, setn_eq, List.getElem?_set_self h]; rfl
theorem nth_set_ne {α : Type} [Inhabited α] (H : List α) (n m : Nat) (e : α) (h : ¬ n = m) : nth (setn H n e) m = nth H m := by
  rw [nth_eq, nth_eq, setn_eq, List.getElem?_set_ne h]
theorem nth_app_lt {α : Type} [Inhabited α] (A L : List α) (n : Nat) (h : n < A.length) : nth (A ++ L) n = nth A n := by
  rw [nth_eq, nth_eq, List.getElem?_append_left h]
theorem setn_app_lt {α : Type} (A L : List α) (n : Nat) (e : α) (h : n < A.length) : setn (A ++ L) n e = setn A n e ++ L := by
  rw [setn_eq, setn_eq, List.set_append_left _ _ h]
theorem setn_setn {α : Type} (H : List α) (n : Nat) (e e' : α) : setn (setn H n e) n e' = setn H n e' := by
  rw [setn_eq, setn_eq, setn_eq, List.set_set]
theorem nth_lt {H : List Ent} {n : Nat} {e : Ent} (h : nth H n = e) (hne : e ≠ .dead) : n < H.length := by
  have := nth_ent h hne
  exact (List.getElem?_eq_some_iff.1 this).1
theorem setn_same {H : List Ent} {n : Nat} {e : Ent} (h : nth H n = e) (hne : e ≠ .dead) : setn H n e = H := by
  have h1 := nth_ent h hne
  have hl := (List.getElem?_eq_some_iff.1 h1).1
  rw [setn_eq]
  apply List.ext_getElem?
  intro i
  by_cases hi : n = i
  · subst hi; rw [List.getElem?_set_self hl, h1]
  · rw [List.getElem?_set_ne hi]
theorem not_add_lt (a k : Nat) : (a + k < a) = False := eq_false (by omega)
theorem add_left_inj' (a k m : Nat) : (a + k = a + m) = (k = m) := propext (by omega)
theorem add_eq_self (a k : Nat) : (a + k = a) = (k = 0) := propext (by omega)
theorem self_eq_add (a k : Nat) : (a = a + k) = (0 = k) := propext (by omega)
/-! rows of cells -/
theorem at2_map {α : Type} [Inhabited α] (e : α → List CV) (l : List α) (k f : Nat) (h : k < l.length) : at2 (l.map e) k f = (e (l.getD k default)).getD f (.bool false) := by
  simp [at2, List.getD, h]
theorem appCell_at2 (n : Nat) (rows rs : List (List CV)) (h : rows.length = n) : appCell n (at2 rows) (at2 rs) = at2 (rows ++ rs) := by
  subst h
  funext i f
  simp only [appCell, at2, List.getD]
  split
  · rename_i hi; rw [List.getElem?_append_left hi]
  · rename_i hi; rw [List.getElem?_append_right (by omega)]
theorem appCell_byte (n : Nat) (l m : List UInt8) (h : l.length = n) : appCell n (byteCell l) (byteCell m) = byteCell (l ++ m) := by
  unfold byteCell
  rw [appCell_at2 _ _ _ (by simpa using h), List.map_append]
theorem at2_byte (b : UInt8) : at2 [[.int .u8 (b.toNat : Int)]] = byteCell [b] := rfl
theorem updCell_at2 (rows : List (List CV)) (k j : Nat) (ds : List CV) (h : k < rows.length) (hj : j + ds.length ≤ (rows.getD k []).length) :
    updCell (at2 rows) k j ds = at2 (rows.set k (setAt (rows.getD k []) j ds)) := by
  funext i f
  simp only [updCell, at2]
  by_cases hik : i = k
  · subst hik
    rw [if_pos rfl]
    have hg : (rows.set i (setAt (rows.getD i []) j ds)).getD i [] = setAt (rows.getD i []) j ds := by simp [List.getD, h]
    rw [hg]
    simp only [List.getD] at hj ⊢
    rw [setAt_get _ _ _ hj]
    split
    · rename_i hf
      rfl
    · rfl
  · rw [if_neg hik]
    have hg : (rows.set k (setAt (rows.getD k []) j ds)).getD i [] = rows.getD i [] := by
      simp only [List.getD]; rw [List.getElem?_set_ne (Ne.symm hik)]
    rw [hg]
theorem updCell_byte (l : List UInt8) (k : Nat) (b : UInt8) (h : k < l.length) : updCell (byteCell l) k 0 [.int .u8 (b.toNat : Int)] = byteCell (l.set k b) := by
  unfold byteCell
  rw [updCell_at2 _ _ _ _ (by simpa using h) (by simp [List.getD, h, bcell])]
  congr 1
  rw [List.map_set]
  congr 1
  simp [List.getD, h, bcell, setAt, setn]
theorem subCell_at2 (j m : Nat) (rows : List (List CV)) : subCell j m (at2 rows) = at2 ((rows.drop j).take m) := by
  funext i f
  simp only [subCell, at2, List.getD, List.getElem?_take, List.getElem?_drop]
  split <;> rfl
theorem subCell_byte (j m : Nat) (l : List UInt8) : subCell j m (byteCell l) = byteCell ((l.drop j).take m) := by
  unfold byteCell
  rw [subCell_at2, List.map_take, List.map_drop]
theorem subCell_byte_all (m : Nat) (l : List UInt8) (h : l.length = m) : subCell 0 m (byteCell l) = byteCell l := by
  rw [subCell_byte, List.drop_zero, ← h, List.take_length]
theorem subCell_all (m : Nat) (rows : List (List CV)) (h : rows.length = m) : subCell 0 m (at2 rows) = at2 rows := by
  rw [subCell_at2, List.drop_zero, ← h, List.take_length]
def allSh : List (List CV) → Bool
  | [] => true
  | r :: l => r.all isSh && allSh l
theorem allSh_get : ∀ {rows : List (List CV)}, allSh rows = true → ∀ k f, isSh (at2 rows k f) = true
  | [], _, k, f => by simp [at2, isSh]
  | r :: rows, h, 0, f => by
    simp only [allSh, Bool.and_eq_true, List.all_eq_true] at h
    simp only [at2, List.getD_cons_zero]
    cases hf : r[f]? with
    | none => simp [List.getD, hf, isSh]
    | some c => simp only [List.getD, hf, Option.getD_some]; exact h.1 c (List.mem_of_getElem? hf)
  | r :: rows, h, k + 1, f => by
    simp only [allSh, Bool.and_eq_true] at h
    have := allSh_get h.2 k f
    simpa [at2] using this
theorem ShC_at2 (rows : List (List CV)) (k n wd : Nat) (h : allSh rows = true) : ShC (at2 rows) k n wd = True := eq_true fun i _ f _ => allSh_get h (k + i) f
theorem ShC_byte (l : List UInt8) (k n wd : Nat) : ShC (byteCell l) k n wd = True := eq_true fun i _ f _ => by rcases byteCell_sh l (k + i) f with ⟨b, h⟩ | h <;> rw [h] <;> rfl
theorem allSh_app (l m : List (List CV)) : allSh (l ++ m) = (allSh l && allSh m) := by
  induction l with
  | nil => rfl
  | cons r l ih => simp [allSh, ih, Bool.and_assoc]
theorem allSh_map {α : Type} (e : α → List CV) (l : List α) (h : ∀ x, (e x).all isSh = true) : allSh (l.map e) = true := by
  induction l with
  | nil => rfl
  | cons x l ih => simp only [List.map_cons, allSh, h x, ih, Bool.and_self]
theorem allSh_iff : ∀ (l : List (List CV)), allSh l = true ↔ ∀ r ∈ l, r.all isSh = true
  | [] => by simp [allSh]
  | r :: l => by simp [allSh, allSh_iff l]
theorem allSh_take (l : List (List CV)) (n : Nat) (h : allSh l = true) : allSh (l.take n) = true := (allSh_iff _).2 fun r hr => (allSh_iff _).1 h r (List.mem_of_mem_take hr)
theorem allSh_drop (l : List (List CV)) (n : Nat) (h : allSh l = true) : allSh (l.drop n) = true := (allSh_iff _).2 fun r hr => (allSh_iff _).1 h r (List.mem_of_mem_drop hr)
theorem bytesOf_byte (m : Nat) (l : List UInt8) (h : l.length = m) : bytesOf m (byteCell l) = l := by
  subst h
  apply List.ext_getElem
  · simp [bytesOf]
  · intro i h1 h2; simp [bytesOf, byteCell_get, h2]
theorem ByC_byte (m : Nat) (l : List UInt8) (h : m ≤ l.length) : ByC m (byteCell l) = True := eq_true fun i hi => ⟨_, byteCell_get l i (by omega)⟩
/-! ### guards that are known as a formula -/
/-- What a guarded operation leaves: its value, or nothing. -/
def optA (b : Bool) (v : AV) : AV := match b with
  | true => v
  | false => .tup []
theorem optA_true (v : AV) : optA true v = v := rfl
theorem optA_false (v : AV) : optA false v = .tup [] := rfl
theorem gM_bool (b want : Bool) (p q : Prop) (d : Tk p) (d' : Tk q) : gM (.s (.c (.bool b))) want p q d d' = condP (b == want) p q := rfl
theorem gM_undef (want : Bool) (p q : Prop) (d : Tk p) (d' : Tk q) : gM (.tup []) want p q d d' = q := rfl
theorem gM_opt (c b want : Bool) (p q : Prop) (d : Tk p) (d' : Tk q) : gM (optA c (.s (.c (.bool b)))) want p q d d' = condP (c && (b == want)) p q := by
  cases c <;> rfl
theorem boundP_mono {x : Option AV} {d n : Nat} {J J' : Nat → Prop} (hJ : ∀ i, J i → J' i) (h : boundP x d n J) : boundP x d n J' := by
  unfold boundP at *
  split at h
  · exact hJ _ h
  · exact ⟨h.1, h.2.1, hJ _ h.2.2⟩
  · exact h.elim
section mono
variable {T : Nat → TI} {K K' : AV → Prop} (hK : ∀ v, K v → K' v)
include hK
theorem intP_mono {op : BinOp} {k : IntKind} {a b : Int} (h : intP op k a b K) : intP op k a b K' := by
  cases op <;> simp only [intP] at h ⊢ <;> first | exact hK _ h | exact ⟨h.1, hK _ h.2⟩ | exact h.elim
theorem strP_mono {op : BinOp} {a b : List UInt8} (h : strP op a b K) : strP op a b K' := by
  cases op <;> simp only [strP] at h ⊢ <;> first | exact hK _ h | exact ⟨h.1, hK _ h.2⟩ | exact h.elim
theorem eqP_mono {neg : Bool} {t : Nat} {x y : CV} (h : eqP T neg t x y K) : eqP T neg t x y K' := by
  unfold eqP at *
  split at h <;> first | exact hK _ h | exact h.elim
theorem binP_mono {op : BinOp} {t : Nat} {x y : AV} (h : binP T op t x y K) : binP T op t x y K' := by
  unfold binP at *
  split at h
  · split at h
    · rename_i hk; rw [if_pos hk]; exact intP_mono hK h
    · exact h.elim
  · exact strP_mono hK h
  · split at h
    · exact eqP_mono hK h
    · exact eqP_mono hK h
    · exact h.elim
  · exact h.elim
theorem unP_mono {op : UnOp} {x : AV} (h : unP op x K) : unP op x K' := by
  unfold unP at *
  split at h <;> first | exact hK _ h | exact h.elim
theorem sliceP_mono {t : Nat} {x : AV} {lo hi mx : Option AV} (h : sliceP T t x lo hi mx K) : sliceP T t x lo hi mx K' := by
  unfold sliceP at *
  split at h
  · exact ⟨h.1, boundP_mono (fun i h => boundP_mono (fun j h => hK _ h) h) h.2⟩
  · exact ⟨h.1, h.2.1, h.2.2.1, h.2.2.2.1, boundP_mono (fun m h => boundP_mono (fun i h => boundP_mono (fun j h => hK _ h) h) h) h.2.2.2.2⟩
  · exact ⟨h.1, h.2.1, h.2.2.1, boundP_mono (fun i h => boundP_mono (fun j h => hK _ h) h) h.2.2.2⟩
  · exact ⟨h.1, h.2.1, boundP_mono (fun i h => boundP_mono (fun j h => hK _ h) h) h.2.2⟩
  · exact h.elim
theorem fieldAddrP_mono {s f : Nat} {x : AV} (h : fieldAddrP T s x f K) : fieldAddrP T s x f K' := by
  unfold fieldAddrP at *
  split at h
  · split at h
    · rename_i heq
      try simp only [heq]
      refine ⟨h.1, h.2.1, ?_⟩
      have h := h.2.2
      split at h <;> first | exact hK _ h | exact h.elim
    · exact h.elim
  · exact h.elim
theorem fieldP_mono {s f : Nat} {x : AV} (h : fieldP T s x f K) : fieldP T s x f K' := by
  unfold fieldP at *
  split at h
  · split at h
    · rename_i heq
      try simp only [heq]
      refine ⟨h.1, ?_⟩
      have h := h.2
      split at h
      · rename_i hag; rw [if_pos hag]; exact hK _ h
      · rename_i hag; rw [if_neg hag]; exact ⟨h.1, hK _ h.2⟩
    · exact h.elim
  · exact h.elim
theorem indexAddrP_mono {t : Nat} {x i : AV} (h : indexAddrP T t x i K) : indexAddrP T t x i K' := by
  unfold indexAddrP at *
  split at h <;> first | exact ⟨h.1, h.2.1, h.2.2.1, h.2.2.2.1, hK _ h.2.2.2.2⟩ | exact h.elim
theorem indexP_mono {t : Nat} {x i : AV} (h : indexP T t x i K) : indexP T t x i K' := by
  unfold indexP at *
  split at h <;> first | exact ⟨h.1, h.2.1, hK _ h.2.2⟩ | exact h.elim
theorem extractP_mono {x : AV} {i : Nat} (h : extractP x i K) : extractP x i K' := by
  unfold extractP at *
  split at h <;> first | exact ⟨h.1, hK _ h.2⟩ | exact h.elim
theorem lenP_mono {t : Nat} {x : AV} (h : lenP T t x K) : lenP T t x K' := by
  unfold lenP at *
  split at h <;> first | exact hK _ h | exact h.elim
/-- The operations that a guard may stand ahead of without a split. -/
def calmOp : Op → Bool
  | .move _ | .assign _ | .binOp .. | .unOp .. | .slice .. | .fieldAddr .. | .field .. | .indexAddr .. | .index .. | .extract .. | .pick .. => true
  | .call { callee := .builtin .len, .. } => true
  | _ => false
theorem popP_mono {ev : Operand → AV} {op : Op} (hp : calmOp op = true) (h : popP T ev op K) : popP T ev op K' := by
  cases op <;> simp [calmOp] at hp <;> simp only [popP] at h ⊢
  case move => exact hK _ h
  case assign => exact hK _ h
  case binOp => exact binP_mono hK h
  case unOp => exact unP_mono hK h
  case slice => exact sliceP_mono hK h
  case fieldAddr => exact fieldAddrP_mono hK h
  case field => exact fieldP_mono hK h
  case indexAddr => exact indexAddrP_mono hK h
  case index => exact indexP_mono hK h
  case extract => exact extractP_mono hK h
  case pick =>
    split at h
    · rename_i t _
      cases t
      · exact hK _ h
      · exact hK _ h
    · exact h.elim
  case call c =>
    obtain ⟨callee, args, tys⟩ := c
    cases callee <;> try (simp at hp; done)
    rename_i b
    cases b <;> try (simp at hp; done)
    simp only [builtinP] at h ⊢
    split at h <;> first | exact lenP_mono hK h | exact h.elim | (rename_i hh _; exact absurd hh (by simp)) | (rename_i hh _ _; exact absurd hh (by simp)) | (rename_i hh _ _ _; exact absurd hh (by simp)) | (exfalso; simp_all; done)
end mono
theorem loadP_mono {T : Nat → TI} {t : Nat} {x : AV} {H : List Ent} {K K' : AV → List Ent → Prop} (hK : ∀ v H, K v H → K' v H) (h : loadP T t x H K) : loadP T t x H K' := by
  unfold loadP at *
  refine ⟨h.1, ?_⟩
  have h := h.2
  split at h
  · split at h
    · rename_i hn
      try simp only [hn]
      refine ⟨h.1, ?_⟩
      have h := h.2
      split at h
      · rename_i hag; rw [if_pos hag]; exact ⟨h.1, h.2.1, hK _ _ h.2.2⟩
      · rename_i hag
        rw [if_neg hag]
        refine ⟨h.1, ?_⟩
        have h := h.2
        split at h
        · exact fun c hc => hK _ _ (h c hc)
        · exact hK _ _ h
    · rename_i hn
      try simp only [hn]
      refine ⟨h.1, ?_⟩
      have h := h.2
      split at h
      · rename_i hag
        rw [if_pos hag]
        refine ⟨h.1, ?_⟩
        have h := h.2
        split at h
        · exact hK _ _ h
        · exact hK _ _ h
      · rename_i hag
        rw [if_neg hag]
        refine ⟨h.1, ?_⟩
        have h := h.2
        split at h
        · exact fun c hc => hK _ _ (h c hc)
        · exact hK _ _ h
    · exact h.elim
  · split at h
    · rename_i hag; rw [if_pos hag]; exact ⟨h.1, hK _ _ h.2⟩
    · rename_i hag; rw [if_neg hag]; exact ⟨h.1, hK _ _ h.2⟩
  · exact h.elim
/-- A guarded operation, taken as a value that hangs on the guard. -/
theorem condP_calm {E : Env} {P : Program} {T : Nat → TI} {b : Bool} {op : Op} {s : St} {dst : Option Nat} {K : St → Prop} {d : Tk fun (v : AV) (H : List Ent) => K ⟨put s.tmps dst v, H⟩} {d' : Tk _} {d'' : Tk _} (v0 : AV) (hp : calmOp op = true) (h : b = true → popP T s.ev op (fun v => v = v0))
    (hk : K ⟨put s.tmps dst (optA b v0), s.heap⟩) : condP b (stOp E P T op s (bx2 (fun v H => K ⟨put s.tmps dst v, H⟩) d)) (K ⟨put s.tmps dst (.tup []), s.heap⟩) d' d'' := by
  cases b
  · exact hk
  · show stOp E P T op s _
    have hpu : pureOp op = true := by
      cases op <;> simp [calmOp] at hp <;> simp [pureOp]
      rename_i c
      obtain ⟨callee, args, tys⟩ := c
      cases callee <;> try (simp at hp; done)
      rename_i b
      cases b <;> first | rfl | (simp at hp; done)
    rw [pure_stOp hpu]
    exact popP_mono (fun v hv => by subst hv; exact hk) hp (h rfl)
theorem condP_load {E : Env} {P : Program} {T : Nat → TI} {b : Bool} {t : Nat} {x : Operand} {s : St} {dst : Option Nat} {K : St → Prop} {d : Tk fun (v : AV) (H : List Ent) => K ⟨put s.tmps dst v, H⟩} {d' : Tk _} {d'' : Tk _} (v0 : AV) (h : b = true → loadP T t (s.ev x) s.heap (Ret v0 s.heap))
    (hk : K ⟨put s.tmps dst (optA b v0), s.heap⟩) : condP b (stOp E P T (.load t x) s (bx2 (fun v H => K ⟨put s.tmps dst v, H⟩) d)) (K ⟨put s.tmps dst (.tup []), s.heap⟩) d' d'' := by
  cases b
  · exact hk
  · exact loadP_mono (fun v H ⟨hv, hH⟩ => by subst hv; subst hH; exact hk) (h rfl)
theorem condP_call {E : Env} {P : Program} {T : Nat → TI} {b : Bool} {g : Nat} {xs : Array Operand} {ts : Array TypeId} {s : St} {dst : Option Nat} {K : St → Prop} {d : Tk fun (v : AV) (H : List Ent) => K ⟨put s.tmps dst v, H⟩} {d' : Tk _} {d'' : Tk _} (v0 : AV)
    (h : b = true → Meets E P g (xs.toList.map s.ev ++ []) s.heap (Ret v0 s.heap)) (hk : K ⟨put s.tmps dst (optA b v0), s.heap⟩) :
    condP b (stOp E P T (.call ⟨.value (.func g), xs, ts⟩) s (bx2 (fun v H => K ⟨put s.tmps dst v, H⟩) d)) (K ⟨put s.tmps dst (.tup []), s.heap⟩) d' d'' := by
  cases b
  · exact hk
  · exact (h rfl).mono fun v H ⟨hv, hH⟩ => by subst hv; subst hH; exact hk
/-- A choice between two truths is a formula. -/
theorem condP_pick {t a b : Bool} {K : AV → Prop} {x y : AV} {d d1 : Tk K} {d' : Tk _} {d'' : Tk _} (hx : t = true → x = .s (.c (.bool a))) (hy : t = false → y = .s (.c (.bool b))) (hk : K (.s (.c (.bool (bif t then a else b))))) : condP t (bx K d x) (bx K d1 y) d' d'' := by
  cases t
  · show K y
    rw [hy rfl]; exact hk
  · show K x
    rw [hx rfl]; exact hk
theorem condP_pickR {t a b : Bool} {x y v0 : AV} (hx : t = true → x = .s (.c (.bool a))) (hy : t = false → y = .s (.c (.bool b))) (hv : .s (.c (.bool (bif t then a else b))) = v0) {d' : Tk _} {d'' : Tk _} : condP t (x = v0) (y = v0) d' d'' := by
  cases t
  · exact (hy rfl).trans hv
  · exact (hx rfl).trans hv
theorem cond_tr (t b : Bool) : (bif t then true else b) = (t || b) := by cases t <;> rfl
theorem cond_fa (t a : Bool) : (bif t then a else false) = (t && a) := by cases t <;> rfl
theorem false_bne (b : Bool) : (false != b) = b := by cases b <;> rfl
theorem true_bne (b : Bool) : (true != b) = !b := by cases b <;> rfl
theorem bool_av {a b : Bool} (h : a = b) : AV.s (.c (.bool a)) = AV.d (.bool b) := by rw [h]
theorem int_av {k : IntKind} {a b : Int} (h : a = b) : AV.s (.c (.int k a)) = AV.d (.int k b) := by rw [h]
theorem str_av {a b : List UInt8} (h : a = b) : AV.s (.c (.str a)) = AV.d (.str b) := by rw [h]
theorem AvLe_str {a b : List UInt8} (h : a = b) : AvLe (.d (.str a)) (.d (.str b)) := by subst h; exact .same rfl
theorem AvLe_bad (a : AV) : AvLe a .bad = True := eq_true fun _ _ _ _ => trivial
theorem AvLe_refl (a : AV) : AvLe a a = True := eq_true fun _ _ _ h => h
theorem AvLe_nil (e wd n wd' k : Nat) : AvLe (.c (.nil e wd)) (.c (.sl n wd' k 0 0)) := by
  rintro g w v ⟨A, rfl⟩
  exact .inl ⟨rfl, rfl, A, rfl⟩
theorem AvLe_int (k : IntKind) (a b : Int) (h : a = b) : AvLe (.d (.int k a)) (.d (.int k b)) := by subst h; exact .same rfl
attribute [go_sem] sets bads badsO SlotsLe AvLe_bad AvLe_refl
attribute [go_sem] vc vcL vcP vcI vcO guardV stOp_move stOp_assign stOp_pick stOp_nilCheck stOp_binOp stOp_unOp stOp_makeFunc stOp_slice stOp_fieldAddr stOp_field stOp_indexAddr stOp_index stOp_extract stOp_build stOp_len stOp_min stOp_max stOp_load stOp_store stOp_alloc stOp_box stOp_buildSlice stOp_makeSlice stOp_convert stOp_append stOp_call popP St.ev put constAV constCV nth_cons_zero nth_cons_succ setn_cons_zero setn_cons_succ exThen_normal exThen_exit exThen_ret exBlock_normal exBlock_exit exBlock_ret exits_normal exits_ret resultP resP oneP
  loadP storeP boxP allocP buildSliceP makeSliceP convP toBytesP toStrP toRunesStrP srcP appendP builtinP lenP minmaxP binP intP strP eqP unP sliceP boundP indexAddrP indexP fieldAddrP fieldP extractP makeFuncP capsOf nilCheckP buildP fillP
  SV.cells setAt okAll CV.ok cellsFrom sharedFrom CV.shared capArgs undefs TK.isAgg typed typedA typedF typedS anyOwn CV.frz chunk allSh isSh ShC_at2 ShC_byte appCell_at2 appCell_byte at2_byte byteCell_get subCell_all subCell_byte_all bytesOf_byte ByC_byte allSh_app
  condP_true condP_false gM_bool gM_undef gM_opt optA_true optA_false cond_tr cond_fa toList_toArray bx_app bx2_app nth_app nth_app0 nth_self setn_app setn_app0 setn_length nth_set nth_app_lt setn_app_lt setn_setn List.length_append List.length_map false_bne true_bne beq_self_eq_true Bool.and_self Bool.true_and Bool.and_true Bool.false_and Bool.and_false Bool.true_or Bool.or_true Bool.false_or Bool.or_false Nat.zero_add Nat.add_zero Nat.le_refl Nat.lt_irrefl decide_true decide_false Int.toNat_natCast Int.natCast_nonneg Int.ofNat_lt Int.ofNat_le beq_true beq_false Bool.not_true Bool.not_false
  List.map_cons List.map_nil List.cons_append List.nil_append List.append_nil List.append_assoc List.length_cons List.length_nil List.getElem?_cons_zero List.getElem?_cons_succ Option.map_some Option.map_none List.all_cons List.all_nil
  List.replicate_succ List.replicate_zero List.flatten_cons List.flatten_nil List.take_succ_cons List.take_zero List.take_nil List.drop_succ_cons List.drop_zero List.drop_nil
  not_add_lt add_left_inj' add_eq_self self_eq_add Nat.add_assoc
  ne_eq not_false_eq_true not_true_eq_false true_and and_true true_or or_true false_or or_false false_and and_false reduceCtorEq if_true if_false Bool.false_eq_true
end Go.V
