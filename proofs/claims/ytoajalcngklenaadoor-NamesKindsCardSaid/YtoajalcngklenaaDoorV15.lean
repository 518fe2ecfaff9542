/- V, part 15: the rules by which simp goes through a function. -/
import Derived.Test.YtoajalcngklenaaDoorV14
import Derived.Attr
set_option linter.unusedSimpArgs false
set_option linter.unusedVariables false
namespace Go.V
open Go Go.RowKit

theorem nth_cons_zero {α : Type} [Inhabited α] (a : α) (l : List α) : nth (a :: l) 0 = a := rfl
theorem nth_cons_succ {α : Type} [Inhabited α] (a : α) (l : List α) (n : Nat) : nth (a :: l) (n + 1) = nth l n := rfl
theorem setn_cons_zero {α : Type} (a b : α) (l : List α) : setn (a :: l) 0 b = b :: l := rfl
theorem setn_cons_succ {α : Type} (a b : α) (l : List α) (n : Nat) : setn (a :: l) (n + 1) b = a :: setn l n b := rfl

/-- The call answers v and leaves the heap as it is. -/
def Ret (v0 : AV) (H0 : List Ent) : AV → List Ent → Prop := fun v H => v = v0 ∧ H = H0
theorem Meets.ret {E : Env} {P : Program} {f : FuncId} {args : List AV} {H H0 : List Ent} {v0 : AV} {K : AV → List Ent → Prop} (h : Meets E P f args H (Ret v0 H0)) (hK : K v0 H0) : Meets E P f args H K :=
  h.mono fun v H' ⟨hv, hH⟩ => by subst hv; subst hH; exact hK
theorem Fin.ret {E : Env} {N0 : Nat} {v v0 : AV} {H H0 : List Ent} (h : v = v0) (hH : H = H0) : V.Fin E N0 (Ret v0 H0) v H := Fin.now ⟨h, hH⟩

theorem toList_toArray {α : Type} (l : List α) : l.toArray.toList = l := rfl
theorem addw_i64 {a b : Int} (h : -9223372036854775808 ≤ a + b) (h' : a + b < 9223372036854775808) : addw .i64 a b = a + b := by
  simp [addw, IntKind.wrap, IntKind.min, IntKind.bits, IntKind.signed]; omega
theorem subw_i64 {a b : Int} (h : -9223372036854775808 ≤ a - b) (h' : a - b < 9223372036854775808) : subw .i64 a b = a - b := by
  simp [subw, IntKind.wrap, IntKind.min, IntKind.bits, IntKind.signed]; omega
theorem addw_u8 {a b : Int} (h : 0 ≤ a + b) (h' : a + b < 256) : addw .u8 a b = a + b := by
  simp [addw, IntKind.wrap, IntKind.min, IntKind.bits, IntKind.signed]; omega
theorem subw_u8 {a b : Int} (h : 0 ≤ a - b) (h' : a - b < 256) : subw .u8 a b = a - b := by
  simp [subw, IntKind.wrap, IntKind.min, IntKind.bits, IntKind.signed]; omega
section
variable (E : Env) (P : Program) (T : Nat → TI) (s : St) (K : AV → List Ent → Prop)
theorem stOp_move (x : Operand) : stOp E P T (.move x) s K = popP T s.ev (.move x) (bx fun v => K v s.heap) := rfl
theorem stOp_assign (x : Operand) : stOp E P T (.assign x) s K = popP T s.ev (.assign x) (bx fun v => K v s.heap) := rfl
theorem stOp_pick (c a b : Operand) : stOp E P T (.pick c a b) s K = popP T s.ev (.pick c a b) (bx fun v => K v s.heap) := rfl
theorem stOp_nilCheck (x : Operand) : stOp E P T (.nilCheck x) s K = popP T s.ev (.nilCheck x) (bx fun v => K v s.heap) := rfl
theorem stOp_binOp (o : BinOp) (t : TypeId) (x y : Operand) (u : TypeId) : stOp E P T (.binOp o t x y u) s K = popP T s.ev (.binOp o t x y u) (bx fun v => K v s.heap) := rfl
theorem stOp_unOp (o : UnOp) (t : TypeId) (x : Operand) : stOp E P T (.unOp o t x) s K = popP T s.ev (.unOp o t x) (bx fun v => K v s.heap) := rfl
theorem stOp_makeFunc (f : Fn) (a b : Array Operand) : stOp E P T (.makeFunc f a b) s K = popP T s.ev (.makeFunc f a b) (bx fun v => K v s.heap) := rfl
theorem stOp_slice (t : TypeId) (x : Operand) (l h m : Option Operand) : stOp E P T (.slice t x l h m) s K = popP T s.ev (.slice t x l h m) (bx fun v => K v s.heap) := rfl
theorem stOp_fieldAddr (t : TypeId) (x : Operand) (f : Nat) : stOp E P T (.fieldAddr t x f) s K = popP T s.ev (.fieldAddr t x f) (bx fun v => K v s.heap) := rfl
theorem stOp_field (t : TypeId) (x : Operand) (f : Nat) : stOp E P T (.field t x f) s K = popP T s.ev (.field t x f) (bx fun v => K v s.heap) := rfl
theorem stOp_indexAddr (t : TypeId) (x i : Operand) : stOp E P T (.indexAddr t x i) s K = popP T s.ev (.indexAddr t x i) (bx fun v => K v s.heap) := rfl
theorem stOp_index (t : TypeId) (x i : Operand) : stOp E P T (.index t x i) s K = popP T s.ev (.index t x i) (bx fun v => K v s.heap) := rfl
theorem stOp_extract (x : Operand) (i : Nat) : stOp E P T (.extract x i) s K = popP T s.ev (.extract x i) (bx fun v => K v s.heap) := rfl
theorem stOp_build (t : TypeId) (ps : Array (Nat × Operand)) : stOp E P T (.build t ps) s K = popP T s.ev (.build t ps) (bx fun v => K v s.heap) := rfl
theorem stOp_len (xs : Array Operand) (ts : Array TypeId) : stOp E P T (.call ⟨.builtin .len, xs, ts⟩) s K = popP T s.ev (.call ⟨.builtin .len, xs, ts⟩) (bx fun v => K v s.heap) := rfl
theorem stOp_min (xs : Array Operand) (ts : Array TypeId) : stOp E P T (.call ⟨.builtin .min, xs, ts⟩) s K = popP T s.ev (.call ⟨.builtin .min, xs, ts⟩) (bx fun v => K v s.heap) := rfl
theorem stOp_max (xs : Array Operand) (ts : Array TypeId) : stOp E P T (.call ⟨.builtin .max, xs, ts⟩) s K = popP T s.ev (.call ⟨.builtin .max, xs, ts⟩) (bx fun v => K v s.heap) := rfl
theorem stOp_load (t : TypeId) (a : Operand) : stOp E P T (.load t a) s K = loadP T t (s.ev a) s.heap (bx fun v => K v s.heap) := rfl
theorem stOp_store (t : TypeId) (a x : Operand) : stOp E P T (.store t a x) s K = storeP T t (s.ev a) (s.ev x) s.heap (bx fun H => K .bad H) := rfl
theorem stOp_alloc (t : TypeId) : stOp E P T (.alloc t) s K = allocP T t s.heap K := rfl
theorem stOp_box (t : TypeId) (x : Operand) : stOp E P T (.box t x) s K = boxP T t (s.ev x) s.heap K := rfl
theorem stOp_buildSlice (t n : Nat) (ps : Array (Nat × Operand)) : stOp E P T (.buildSlice t n ps) s K = buildSliceP T t n (ps.toList.map fun p => (p.1, s.ev p.2)) s.heap K := rfl
theorem stOp_makeSlice (t : TypeId) (l c : Operand) : stOp E P T (.makeSlice t l c) s K = makeSliceP T t (s.ev l) (s.ev c) s.heap K := rfl
theorem stOp_convert (a b : TypeId) (x : Operand) : stOp E P T (.convert a b x) s K = convP T a b (s.ev x) s.heap K := rfl
theorem stOp_append (xs : Array Operand) (ts : Array TypeId) : stOp E P T (.call ⟨.builtin .append, xs, ts⟩) s K = appendP T ts.toList (xs.toList.map s.ev) s.heap K := rfl
theorem stOp_call (f : Operand) (xs : Array Operand) (ts : Array TypeId) : stOp E P T (.call ⟨.value f, xs, ts⟩) s K = (match s.ev f with | .s (.c (.fn g caps)) => Meets E P g (xs.toList.map s.ev ++ capArgs caps) s.heap K | _ => False) := rfl
end
theorem exThen_normal (n : St → Prop) (K : Cont) (s : St) : exThen n K .normal s = n s := rfl
theorem exThen_exit (n : St → Prop) (K : Cont) (i : Nat) (s : St) : exThen n K (.exit i) s = K (.exit i) s := rfl
theorem exThen_ret (n : St → Prop) (K : Cont) (s : St) : exThen n K .ret s = K .ret s := rfl
theorem exBlock_normal (id : Nat) (K : Cont) (s : St) : exBlock id K .normal s = K .normal s := rfl
theorem exBlock_exit (id : Nat) (K : Cont) (s : St) : exBlock id K (.exit id) s = K .normal s := by simp [exBlock]
theorem exBlock_other (id i : Nat) (K : Cont) (s : St) (h : ¬ i = id) : exBlock id K (.exit i) s = K (.exit i) s := by simp [exBlock, h]
theorem exBlock_ret (id : Nat) (K : Cont) (s : St) : exBlock id K .ret s = K .ret s := rfl
theorem exits_normal (E : Env) (T : Nat → TI) (N0 : Nat) (rs : List ResultVar) (post : AV → List Ent → Prop) (s : St) : exits E T N0 rs post .normal s = resultP T rs s (V.Fin E N0 post) := rfl
theorem exits_ret (E : Env) (T : Nat → TI) (N0 : Nat) (rs : List ResultVar) (post : AV → List Ent → Prop) (s : St) : exits E T N0 rs post .ret s = resultP T rs s (V.Fin E N0 post) := rfl
theorem nth_app {α : Type} [Inhabited α] : ∀ (H L : List α) (k : Nat), nth (H ++ L) (H.length + k) = nth L k := by
  intro H L k; rw [nth_eq, nth_eq, List.getElem?_append_right (by omega)]; simp
theorem nth_app0 {α : Type} [Inhabited α] (H L : List α) : nth (H ++ L) H.length = nth L 0 := nth_app H L 0
theorem setn_app {α : Type} (H L : List α) (k : Nat) (e : α) : setn (H ++ L) (H.length + k) e = H ++ setn L k e := by
  rw [setn_eq, setn_eq, List.set_append_right _ _ (by omega)]; simp
theorem setn_app0 {α : Type} (H L : List α) (e : α) : setn (H ++ L) H.length e = H ++ setn L 0 e := setn_app H L 0 e
theorem false_bne (b : Bool) : (false != b) = b := by cases b <;> rfl
theorem true_bne (b : Bool) : (true != b) = !b := by cases b <;> rfl
theorem bool_av {a b : Bool} (h : a = b) : AV.s (.c (.d (.bool a))) = AV.d (.bool b) := by rw [h]
theorem int_av {k : IntKind} {a b : Int} (h : a = b) : AV.s (.c (.d (.int k a))) = AV.d (.int k b) := by rw [h]
theorem str_av {a b : List UInt8} (h : a = b) : AV.s (.c (.d (.str a))) = AV.d (.str b) := by rw [h]
theorem AvLe_str {a b : List UInt8} (h : a = b) : AvLe (.d (.str a)) (.d (.str b)) := by subst h; exact .inr rfl
theorem AvLe_bad (a : AV) : AvLe a .bad = True := eq_true (.inl rfl)
theorem AvLe_refl (a : AV) : AvLe a a = True := eq_true (.inr rfl)
theorem AvLe_int (k : IntKind) (a b : Int) (h : a = b) : AvLe (.d (.int k a)) (.d (.int k b)) := by subst h; exact .inr rfl
attribute [go_sem] sets bads badsO SlotsLe AvLe_bad AvLe_refl
attribute [go_sem] vc vcL vcP vcI vcO guardV stOp_move stOp_assign stOp_pick stOp_nilCheck stOp_binOp stOp_unOp stOp_makeFunc stOp_slice stOp_fieldAddr stOp_field stOp_indexAddr stOp_index stOp_extract stOp_build stOp_len stOp_min stOp_max stOp_load stOp_store stOp_alloc stOp_box stOp_buildSlice stOp_makeSlice stOp_convert stOp_append stOp_call popP St.ev put constAV constCV nth_cons_zero nth_cons_succ setn_cons_zero setn_cons_succ exBlock exits resultP resP oneP
  loadP storeP boxP allocP buildSliceP makeSliceP convP toBytesP toStrP toRunesStrP srcP appendP builtinP lenP minmaxP binP intP strP eqP unP sliceP boundP indexAddrP indexP fieldAddrP fieldP extractP makeFuncP capsOf nilCheckP buildP fillP
  SV.cells setAt datsOf okAll CV.ok cellsFrom sharedFrom Dat.shared capArgs undefs TK.isAgg
  condP_true condP_false toList_toArray bx_app bx2_app nth_app nth_app0 setn_app setn_app0 List.length_append false_bne true_bne beq_self_eq_true Bool.and_self Bool.true_and Bool.and_true Bool.false_and Bool.and_false Bool.true_or Bool.or_true Bool.false_or Bool.or_false Nat.zero_add Nat.add_zero Nat.le_refl Nat.lt_irrefl decide_true decide_false Int.toNat_natCast Int.natCast_nonneg Int.ofNat_lt Int.ofNat_le beq_true beq_false Bool.not_true Bool.not_false
  List.map_cons List.map_nil List.cons_append List.nil_append List.append_assoc List.length_cons List.length_nil List.getElem?_cons_zero List.getElem?_cons_succ Option.map_some Option.map_none
  ne_eq not_false_eq_true not_true_eq_false true_and and_true reduceCtorEq if_true if_false Bool.false_eq_true
end Go.V
