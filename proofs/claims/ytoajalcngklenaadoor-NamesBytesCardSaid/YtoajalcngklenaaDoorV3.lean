/- V, part 3: types as a short table; the operations that look at no memory. -/
import Derived.Test.YtoajalcngklenaaDoorV2
import Derived.Laws.Strings
import Derived.Laws.Strings2
import Derived.Laws.Strings3
namespace Go.V
open Go Go.RowKit

/-! ### types -/
inductive TK where
  | int (k : IntKind)
  | bool
  | str
  | ptr (e : Nat)
  | sl (e : Nat)
  | st (fs : List (Nat × Nat))   -- (offset, type) of each field
  | arr (n e : Nat)
  | func
  | map (k e : Nat)
  | iface
  | other
  deriving Inhabited

structure TI where
  kind : TK
  size : Nat
  bytes : Nat
  zero : List Value
  za : List CV := []
  deriving Inhabited

def TI.no : TI := ⟨.other, 0, 0, [], []⟩
def tkOf : TypeDesc → TK
  | .int k => .int k
  | .bool => .bool
  | .string => .str
  | .pointer e => .ptr e
  | .slice e => .sl e
  | .struct fs => .st (fs.toList.map fun f => (f.offset, f.type))
  | .array n e => .arr n e
  | .func .. => .func
  | .map k e => .map k e
  | .interface _ => .iface
  | _ => .other
def tiOf (P : Program) (t : TypeId) : TI :=
  match P.info? t, P.underlying t with
  | some i, some d => ⟨tkOf d, i.size, i.bytes, (i.zero.map (·.cells.toList)).getD [], []⟩
  | _, _ => .no

/-- A zero value's cells, as they are told. -/
def zOk1 : Value → CV → Bool
  | .int k n, .int k' n' => k == k' && n == n'
  | .bool b, .bool b' => b == b'
  | .string s, .str l => s.data.toList == l
  | .slice none 0 0, .nil _ _ => true
  | .pointer none, .raw (.pointer none) => true
  | .nilFunc, .raw .nilFunc => true
  | .map none, .raw (.map none) => true
  | .nilIface, .raw .nilIface => true
  | _, .bad => true
  | _, _ => false
def zOk : List Value → List CV → Bool
  | [], [] => true
  | v :: l, c :: m => zOk1 v c && zOk l m
  | _, _ => false
def TI.real (t : TI) : TI := { t with za := [] }
/-- A table of types says what the program's do. -/
def TOk (P : Program) (T : Nat → TI) : Prop := ∀ t, T t = .no ∨ ((T t).real = tiOf P t ∧ zOk (T t).zero (T t).za = true)

section
variable {P : Program} {T : Nat → TI}
theorem TOk.und {t : Nat} {k : TK} (h : TOk P T) (hk : (T t).kind = k) (hne : k ≠ .other) : ∃ d, P.underlying t = some d ∧ tkOf d = k := by
  rcases h t with h | ⟨h, _⟩
  · rw [h] at hk; exact absurd hk.symm hne
  · have hk : (T t).real.kind = k := hk
    rw [h] at hk
    unfold tiOf at hk
    split at hk
    · rename_i i d hi hd; exact ⟨d, hd, hk⟩
    · exact absurd hk.symm hne
theorem TOk.int {t : Nat} {k : IntKind} (h : TOk P T) (hk : (T t).kind = .int k) : P.underlying t = some (.int k) := by
  obtain ⟨d, hd, hkd⟩ := h.und hk (by simp)
  cases d <;> simp [tkOf] at hkd
  rw [hd, hkd]
theorem TOk.bool {t : Nat} (h : TOk P T) (hk : (T t).kind = .bool) : P.underlying t = some .bool := by
  obtain ⟨d, hd, hkd⟩ := h.und hk (by simp)
  cases d <;> simp [tkOf] at hkd
  exact hd
theorem TOk.str {t : Nat} (h : TOk P T) (hk : (T t).kind = .str) : P.underlying t = some .string := by
  obtain ⟨d, hd, hkd⟩ := h.und hk (by simp)
  cases d <;> simp [tkOf] at hkd
  exact hd
theorem TOk.ptr {t e : Nat} (h : TOk P T) (hk : (T t).kind = .ptr e) : P.underlying t = some (.pointer e) := by
  obtain ⟨d, hd, hkd⟩ := h.und hk (by simp)
  cases d <;> simp [tkOf] at hkd
  rw [hd, hkd]
theorem TOk.sl {t e : Nat} (h : TOk P T) (hk : (T t).kind = .sl e) : P.underlying t = some (.slice e) := by
  obtain ⟨d, hd, hkd⟩ := h.und hk (by simp)
  cases d <;> simp [tkOf] at hkd
  rw [hd, hkd]
theorem TOk.arr {t n e : Nat} (h : TOk P T) (hk : (T t).kind = .arr n e) : P.underlying t = some (.array n e) := by
  obtain ⟨d, hd, hkd⟩ := h.und hk (by simp)
  cases d <;> simp [tkOf] at hkd
  rw [hd, hkd.1, hkd.2]
theorem TOk.st {t : Nat} {l : List (Nat × Nat)} (h : TOk P T) (hk : (T t).kind = .st l) : ∃ fs : Array Field, P.underlying t = some (.struct fs) ∧ fs.toList.map (fun f => (f.offset, f.type)) = l := by
  obtain ⟨d, hd, hkd⟩ := h.und hk (by simp)
  cases d <;> simp [tkOf] at hkd
  exact ⟨_, hd, hkd⟩
theorem TOk.info {t : Nat} (h : TOk P T) (hk : (T t).kind ≠ .other) : ∃ i, P.info? t = some i ∧ i.size = (T t).size ∧ i.bytes = (T t).bytes ∧ (i.zero.map (·.cells.toList)).getD [] = (T t).zero := by
  rcases h t with h | ⟨h, _⟩
  · rw [h] at hk; exact absurd rfl hk
  · have hk : (T t).real.kind ≠ .other := hk
    have h1 : (T t).size = (T t).real.size := rfl
    have h2 : (T t).bytes = (T t).real.bytes := rfl
    have h3 : (T t).zero = (T t).real.zero := rfl
    rw [h1, h2, h3]
    rw [h] at hk ⊢
    unfold tiOf at hk ⊢
    split at hk
    · rename_i i d hi hd; rw [hi]; exact ⟨i, rfl, rfl, rfl, rfl⟩
    · exact absurd rfl hk
theorem TOk.za {t : Nat} (h : TOk P T) (hk : (T t).kind ≠ .other) : zOk (T t).zero (T t).za = true := by
  rcases h t with h | ⟨_, h⟩
  · rw [h] at hk; exact absurd rfl hk
  · exact h
theorem TOk.size {t : Nat} (h : TOk P T) (hk : (T t).kind ≠ .other) (w : World) : (sizeOf t).run P w = .ok (T t).size w := by
  obtain ⟨i, hi, hs, _⟩ := h.info hk
  simp [sizeOf, typeInfo, hi, hs]
end

def TK.isAgg : TK → Bool
  | .st _ | .arr .. => true
  | _ => false
theorem TOk.agg {P : Program} {T : Nat → TI} {t : Nat} (h : TOk P T) (hk : (T t).kind ≠ .other) (w : World) : (isAgg t).run P w = .ok (T t).kind.isAgg w := by
  obtain ⟨d, hd, hkd⟩ := h.und (k := (T t).kind) rfl hk
  rw [← hkd]
  cases d <;> simp [isAgg, run_underlying hd, tkOf, TK.isAgg]

/-! ### states -/
structure St where
  tmps : List AV
  heap : List Ent

def nth {α : Type} [Inhabited α] : List α → Nat → α
  | [], _ => default
  | a :: _, 0 => a
  | _ :: l, n + 1 => nth l n
def setn {α : Type} : List α → Nat → α → List α
  | [], _, _ => []
  | _ :: l, 0, v => v :: l
  | a :: l, n + 1, v => a :: setn l n v
theorem nth_eq {α : Type} [Inhabited α] : ∀ (l : List α) (n : Nat), nth l n = (l[n]?).getD default
  | [], _ => by simp [nth]
  | _ :: _, 0 => by simp [nth]
  | _ :: l, n + 1 => by simp [nth, nth_eq l n]
theorem setn_eq {α : Type} : ∀ (l : List α) (n : Nat) (v : α), setn l n v = l.set n v
  | [], _, _ => rfl
  | _ :: _, 0, _ => rfl
  | _ :: l, n + 1, v => by simp [setn, setn_eq l n v]

def constCV : Value → CV
  | .int k n => .int k n
  | .bool b => .bool b
  | .string s => .str s.data.toList
  | .slice _ 0 0 => .nil 0 0
  | .pointer none => .raw (.pointer none)
  | .nilFunc => .raw .nilFunc
  | .map none => .raw (.map none)
  | .nilIface => .raw .nilIface
  | _ => .bad
def constAV : Value → AV
  | .agg cs => .s (.agg (cs.toList.map constCV))
  | v => .c (constCV v)
def St.ev (s : St) : Operand → AV
  | .tmp t => nth s.tmps t
  | .const v => constAV v
  | .func f => .c (.fn f [])
  | .global _ => .bad
def put (l : List AV) (d : Option Nat) (v : AV) : List AV :=
  match d with
  | some d => setn l d v
  | none => l

/-- What the abstract slots say of the model's. -/
def Slots (g : Gh) (w : World) (l : List AV) (a : Act) : Prop := a.defers = [] ∧ F2 (AV.Is g w) l a.tmps.toList

theorem bstr_data (s : ByteArray) : bstr s.data.toList = s := by cases s; simp [bstr]
theorem constCV_is (g : Gh) (w : World) (v : Value) : (constCV v).Is g w v := by
  unfold constCV
  split <;> first
    | exact rfl
    | exact ⟨rfl, rfl⟩
    | (rename_i s; exact congrArg Value.string (bstr_data s).symm)
    | (rename_i A; exact ⟨A, rfl⟩)
    | trivial
theorem F2_const (g : Gh) (w : World) : ∀ l : List Value, F2 (CV.Is g w) (l.map constCV) l
  | [] => trivial
  | v :: l => ⟨constCV_is g w v, F2_const g w l⟩
theorem zOk1_is (g : Gh) (w : World) {v : Value} {c : CV} (h : zOk1 v c = true) : c.Is g w v := by
  unfold zOk1 at h
  split at h
  · simp only [Bool.and_eq_true, beq_iff_eq] at h; rw [h.1, h.2]; rfl
  · rw [beq_iff_eq] at h; rw [h]; rfl
  · rw [beq_iff_eq] at h; rw [← h]; exact congrArg Value.string (bstr_data _).symm
  · exact ⟨none, rfl⟩
  · exact ⟨rfl, rfl⟩
  · exact ⟨rfl, rfl⟩
  · exact ⟨rfl, rfl⟩
  · exact ⟨rfl, rfl⟩
  · exact trivial
  · cases h
theorem zOk_is (g : Gh) (w : World) : ∀ {zs : List Value} {cs : List CV}, zOk zs cs = true → F2 (CV.Is g w) cs zs
  | [], [], _ => trivial
  | v :: zs, c :: cs, h => by
    simp only [zOk, Bool.and_eq_true] at h
    exact ⟨zOk1_is g w h.1, zOk_is g w h.2⟩
theorem constAV_is (g : Gh) (w : World) (v : Value) : (constAV v).Is g w v := by
  unfold constAV
  split
  · exact ⟨_, rfl, F2_const g w _⟩
  · exact constCV_is g w v

theorem ev_is {g : Gh} {w : World} {s : St} {a : Act} (h : Slots g w s.tmps a) (x : Operand) : (s.ev x).Is g w (a.eval x) := by
  cases x with
  | tmp t =>
    simp only [St.ev, nth_eq]
    cases hl : s.tmps[t]? with
    | none => exact trivial
    | some v =>
      obtain ⟨u, hu, hi⟩ := F2.get h.2 hl
      rw [Array.getElem?_toList] at hu
      simp only [Option.getD_some, Act.eval, Array.getD_eq_getD_getElem?, hu]
      exact hi
  | const v => exact constAV_is g w v
  | func f => exact ⟨[], rfl, trivial⟩
  | global _ => exact trivial

theorem F2.set {α β : Type} {R : α → β → Prop} : ∀ {l : List α} {m : List β}, F2 R l m → ∀ {i : Nat} {a : α} {b : β}, R a b → F2 R (l.set i a) (m.set i b)
  | [], [], _, _, _, _, _ => trivial
  | _ :: _, _ :: _, hl, 0, _, _, h => ⟨h, hl.2⟩
  | _ :: _, _ :: _, hl, _ + 1, _, _, h => ⟨hl.1, F2.set hl.2 h⟩

theorem Slots.put {g : Gh} {w : World} {l : List AV} {a : Act} (h : Slots g w l a) (d : Option Nat) {v : AV} {u : Value} (hv : v.Is g w u) : Slots g w (put l d v) (a.put d u) := by
  cases d with
  | none => exact h
  | some d =>
    refine ⟨h.1, ?_⟩
    simp only [V.put, Act.put, setn_eq, Array.toList_setIfInBounds]
    exact F2.set h.2 hv
theorem Slots.mono {g g' : Gh} {w w' : World} {l : List AV} {a : Act} (h : Slots g w l a) (hi : ∀ b, g.κ b = .imm → g'.κ b = .imm ∧ w'.heap[b]? = w.heap[b]?)
    (hn : ∀ n p, g.ρ n = some p → g'.ρ n = some p) : Slots g' w' l a := ⟨h.1, F2.imp (fun _ _ => AV.Is.mono hi hn) h.2⟩
theorem RelH.mono_name {E : Env} {g g' : Gh} {H : List Ent} {w w' : World} (r : RelH E g H w) (s : Step H.length g w g' w') (n : Nat) (p : Place) (hp : g.ρ n = some p) : g'.ρ n = some p := by
  rcases Nat.lt_or_ge n H.length with h | h
  · rw [s.name n h]; exact hp
  · rw [r.dom n h] at hp; cases hp
theorem Slots.step {E : Env} {g g' : Gh} {H : List Ent} {w w' : World} {l : List AV} {a : Act} (h : Slots g w l a) (r : RelH E g H w) (s : Step H.length g w g' w') : Slots g' w' l a :=
  h.mono s.imm (r.mono_name s)

/-! ### the operations that look at no memory -/
/-- Of what another argument's type speaks, simp turns nothing. -/
def Tk {α : Type} (_ : α) : Type := Unit
instance {α : Type} (a : α) : Inhabited (Tk a) := ⟨()⟩
abbrev tk {α : Type} {a : α} : Tk a := ()
/-- A continuation that simp does not enter. -/
def bx {α : Type} (K : α → Prop) (_ : Tk K := tk) : α → Prop := K
def bx2 {α β : Type} (K : α → β → Prop) (_ : Tk K := tk) : α → β → Prop := K
theorem bx_app {α : Type} (K : α → Prop) (d : Tk K) (x : α) : bx K d x = K x := rfl
theorem bx2_app {α β : Type} (K : α → β → Prop) (d : Tk K) (x : α) (y : β) : bx2 K d x y = K x y := rfl
def condP (b : Bool) (p q : Prop) (_ : Tk p := tk) (_ : Tk q := tk) : Prop := match b with | true => p | false => q
theorem condP_intro {b : Bool} {p q : Prop} (h : b = true → p) (h' : b = false → q) : condP b p q := by
  cases b
  · exact h' rfl
  · exact h rfl
theorem condP_true (p q : Prop) : condP true p q = p := rfl
theorem condP_false (p q : Prop) : condP false p q = q := rfl
theorem condP_congr {b b' : Bool} {p q : Prop} (h : b = b') : condP b p q = condP b' p q := by rw [h]

def addw (k : IntKind) (a b : Int) : Int := k.wrap (a + b)
def subw (k : IntKind) (a b : Int) : Int := k.wrap (a - b)
def mulw (k : IntKind) (a b : Int) : Int := k.wrap (a * b)
def bitw (op : BinOp) (k : IntKind) (x y : Int) : Int :=
  let a := BitVec.ofInt k.bits x
  let b := BitVec.ofInt k.bits y
  match op with
  | .and => k.wrap (a &&& b).toNat
  | .or => k.wrap (a ||| b).toNat
  | .xor => k.wrap (a ^^^ b).toNat
  | _ => k.wrap (a &&& ~~~b).toNat

def intP (op : BinOp) (k : IntKind) (a b : Int) (K : AV → Prop) : Prop :=
  match op with
  | .add => K (.d (.int k (addw k a b)))
  | .sub => K (.d (.int k (subw k a b)))
  | .mul => K (.d (.int k (mulw k a b)))
  | .quo => b ≠ 0 ∧ K (.d (.int k (k.wrap (a.tdiv b))))
  | .rem => b ≠ 0 ∧ K (.d (.int k (a.tmod b)))
  | .and | .or | .xor | .andNot => K (.d (.int k (bitw op k a b)))
  | .eql => K (.d (.bool (decide (a = b))))
  | .neq => K (.d (.bool (!decide (a = b))))
  | .lss => K (.d (.bool (decide (a < b))))
  | .leq => K (.d (.bool (decide (a ≤ b))))
  | .gtr => K (.d (.bool (decide (b < a))))
  | .geq => K (.d (.bool (decide (b ≤ a))))
  | _ => False
def strP (op : BinOp) (a b : List UInt8) (K : AV → Prop) : Prop :=
  match op with
  | .add => a.length + b.length ≤ 4611686018427387904 ∧ K (.d (.str (a ++ b)))
  | .eql => K (.d (.bool (decide (a = b))))
  | .neq => K (.d (.bool (!decide (a = b))))
  | _ => False
/-- '==' and '!=' between what are no numbers and no texts. -/
def eqP (T : Nat → TI) (neg : Bool) (t : Nat) (x y : CV) (K : AV → Prop) : Prop :=
  match (T t).kind, x, y with
  | .bool, .bool a, .bool b => K (.d (.bool (neg != (a == b))))
  | .ptr _, .raw (.pointer none), .raw (.pointer none) => K (.d (.bool (!neg)))
  | .ptr _, .ptr .., .raw (.pointer none) => K (.d (.bool neg))
  | .ptr _, .raw (.pointer none), .ptr .. => K (.d (.bool neg))
  | .func, .raw .nilFunc, .raw .nilFunc => K (.d (.bool (!neg)))
  | .func, .fn .., .raw .nilFunc => K (.d (.bool neg))
  | _, _, _ => False
def binP (T : Nat → TI) (op : BinOp) (t : Nat) (x y : AV) (K : AV → Prop) : Prop :=
  match x, y with
  | .s (.c (.int k a)), .s (.c (.int k' b)) => if k = k' then intP op k a b K else False
  | .s (.c (.str a)), .s (.c (.str b)) => strP op a b K
  | .s (.c a), .s (.c b) => match op with
    | .eql => eqP T false t a b K
    | .neq => eqP T true t a b K
    | _ => False
  | _, _ => False
def unP (op : UnOp) (x : AV) (K : AV → Prop) : Prop :=
  match op, x with
  | .not, .s (.c (.bool b)) => K (.d (.bool (!b)))
  | .neg, .s (.c (.int k n)) => K (.d (.int k (subw k 0 n)))
  | _, _ => False

/-- A slice's bound: an int between 0 and n. -/
def boundP (x : Option AV) (dflt n : Nat) (K : Nat → Prop) : Prop :=
  match x with
  | none => K dflt
  | some (.s (.c (.int _ i))) => 0 ≤ i ∧ i ≤ n ∧ K i.toNat
  | _ => False
/-- So many rows from one on. -/
def subCell (j m : Nat) (cell : Nat → Nat → CV) : Nat → Nat → CV := fun i f => if i < m then cell (j + i) f else .bool false
def sliceP (T : Nat → TI) (t : Nat) (x : AV) (lo hi mx : Option AV) (K : AV → Prop) : Prop :=
  match (T t).kind, x with
  | .str, .s (.c (.str l)) => mx = none ∧ boundP hi l.length l.length (bx fun h => boundP lo 0 h (bx fun j => K (.d (.str ((l.drop j).take (h - j))))))
  | .sl e, .s (.c (.sl n wd k len cap)) => (T e).kind ≠ .other ∧ ((T e).size = wd ∨ cap = 0) ∧ len ≤ cap ∧ (hi.isSome || mx.isNone) = true ∧ boundP mx cap cap (bx fun m => boundP hi len (min len m) (bx fun h => boundP lo 0 h (bx fun j => K (.c (.sl n wd (k + j) (h - j) (m - j))))))
  | .sl e, .s (.c (.lst wd n cell)) => (T e).kind ≠ .other ∧ (T e).size = wd ∧ mx = none ∧ boundP hi n n (bx fun h => boundP lo 0 h (bx fun j => K (.d (.lst wd (h - j) (subCell j (h - j) cell)))))
  | .sl e, .s (.c (.nil e' wd)) => (T e).kind ≠ .other ∧ mx = none ∧ boundP hi 0 0 (bx fun h => boundP lo 0 h (bx fun _ => K (.d (.nil e' wd))))
  | _, _ => False
def indexAddrP (T : Nat → TI) (t : Nat) (x i : AV) (K : AV → Prop) : Prop :=
  match (T t).kind, x, i with
  | .sl e, .s (.c (.sl n wd k len _)), .s (.c (.int _ i)) => (T e).kind ≠ .other ∧ (T e).size = wd ∧ 0 ≤ i ∧ i < len ∧ K (.c (.ptr n (k + i.toNat) 0))
  | .sl e, .s (.c (.lst wd n cell)), .s (.c (.int _ i)) => (T e).kind ≠ .other ∧ (T e).size = wd ∧ 0 ≤ i ∧ i < n ∧ K (.c (.dptr wd n cell i.toNat 0))
  | _, _, _ => False
def indexP (T : Nat → TI) (t : Nat) (x i : AV) (K : AV → Prop) : Prop :=
  match (T t).kind, x, i with
  | .str, .s (.c (.str l)), .s (.c (.int _ i)) => 0 ≤ i ∧ i < l.length ∧ K (.d (.int .u8 ((l.getD i.toNat 0).toNat : Int)))
  | _, _, _ => False

def fieldAddrP (T : Nat → TI) (s : Nat) (x : AV) (f : Nat) (K : AV → Prop) : Prop :=
  match (T s).kind with
  | .st fs => match fs[f]? with
    | some (off, ft) => (T ft).kind ≠ .other ∧ (T ft).size ≠ 0 ∧ match x with
      | .s (.c (.ptr n k j)) => K (.c (.ptr n k (j + off)))
      | .s (.c (.dptr wd n cell k j)) => K (.c (.dptr wd n cell k (j + off)))
      | _ => False
    | none => False
  | _ => False
def fieldP (T : Nat → TI) (s : Nat) (x : AV) (f : Nat) (K : AV → Prop) : Prop :=
  match (T s).kind, x with
  | .st fs, .s (.agg cs) => match fs[f]? with
    | some (off, ft) => (T ft).kind ≠ .other ∧ if (T ft).kind.isAgg then K (.s (.agg ((cs.drop off).take (T ft).size))) else off < cs.length ∧ K (.c (nth cs off))
    | none => False
  | _, _ => False
def extractP (x : AV) (i : Nat) (K : AV → Prop) : Prop :=
  match x with
  | .tup vs => i < vs.length ∧ K (.s (nth vs i))
  | _ => False
def capsOf : List AV → Option (List Nat)
  | [] => some []
  | .s (.c (.ptr n 0 0)) :: l => match capsOf l with
    | some r => some (n :: r)
    | none => none
  | _ => none
def makeFuncP (fn : Fn) (first captured : List AV) (K : AV → Prop) : Prop :=
  match fn, first, capsOf captured with
  | .func g, [], some caps => K (.c (.fn g caps))
  | _, _, _ => False
def CV.ok : CV → Bool
  | .bad => false
  | _ => true
/-- The cells that a value has. -/
def SV.cells : SV → Option (List CV)
  | .c .bad => none
  | .c x => some [x]
  | .agg cs => some cs
def setAt : List CV → Nat → List CV → List CV
  | l, _, [] => l
  | l, n, x :: r => setAt (setn l n x) (n + 1) r
def fillP (place : Nat → Option (Nat × Nat)) (cs : List CV) : List (Nat × AV) → (List CV → Prop) → Prop
  | [], K => K cs
  | (i, .s x) :: r, K => match place i, x.cells with
    | some (off, size), some xs => xs.length = size ∧ off + xs.length ≤ cs.length ∧ fillP place (setAt cs off xs) r K
    | _, _ => False
  | _ :: _, _ => False
/-- A slice without places, told by its type. -/
def typed (T : Nat → TI) (t : Nat) (x : CV) : CV :=
  match (T t).kind, x with
  | .sl e, .nil _ _ => .nil e (T e).size
  | _, x => x
def typedA (T : Nat → TI) (t : Nat) (x : AV) : AV :=
  match x with
  | .s (.c x) => .s (.c (typed T t x))
  | x => x
def typedF (T : Nat → TI) (fs : List (Nat × Nat)) (i : Nat) (x : AV) : AV :=
  match fs[i]? with
  | some f => typedA T f.2 x
  | none => x
def buildP (T : Nat → TI) (t : Nat) (parts : List (Nat × AV)) (K : AV → Prop) : Prop :=
  match (T t).kind with
  | .st fs => (∀ f ∈ fs, (T f.2).kind ≠ .other) ∧ (T t).za ≠ [] ∧ fillP (fun i => (fs[i]?).map fun f => (f.1, (T f.2).size)) (T t).za (parts.map fun p => (p.1, typedF T fs p.1 p.2)) (bx fun cs => K (.s (.agg cs)))
  | .arr _ e => (T e).kind ≠ .other ∧ (T t).za ≠ [] ∧ fillP (fun i => some (i * (T e).size, (T e).size)) (T t).za parts (bx fun cs => K (.s (.agg cs)))
  | _ => False
def nilCheckP (x : AV) (K : AV → Prop) : Prop :=
  match x with
  | .s (.c (.ptr ..)) | .s (.c (.dptr ..)) | .s (.c (.fn ..)) => K x
  | _ => False
def lenP (T : Nat → TI) (t : Nat) (x : AV) (K : AV → Prop) : Prop :=
  match (T t).kind, x with
  | .str, .s (.c (.str l)) => K (.d (.int .i64 (l.length : Int)))
  | .sl _, .s (.c (.sl _ _ _ len _)) => K (.d (.int .i64 (len : Int)))
  | .sl _, .s (.c (.lst _ n _)) => K (.d (.int .i64 (n : Int)))
  | .sl _, .s (.c (.nil _ _)) => K (.d (.int .i64 0))
  | _, _ => False
def minmaxP (mx : Bool) (x y : AV) (K : AV → Prop) : Prop :=
  match x, y with
  | .s (.c (.int k a)), .s (.c (.int _ b)) => K (.d (.int k (if mx then (if a < b then b else a) else (if b < a then b else a))))
  | _, _ => False
def builtinP (T : Nat → TI) (b : Builtin) (ts : List TypeId) (xs : List AV) (K : AV → Prop) : Prop :=
  match b, ts, xs with
  | .len, t :: _, x :: _ => lenP T t x K
  | .min, _, [x, y] => minmaxP false x y K
  | .max, _, [x, y] => minmaxP true x y K
  | _, _, _ => False
def popP (T : Nat → TI) (ev : Operand → AV) (op : Op) (K : AV → Prop) : Prop :=
  match op with
  | .move x | .assign x => K (ev x)
  | .pick c a b => match ev c with
    | .s (.c (.bool t)) => condP t (K (ev a)) (K (ev b))
    | _ => False
  | .nilCheck x => nilCheckP (ev x) K
  | .binOp op t x y _ => binP T op t (ev x) (ev y) K
  | .unOp op _ x => unP op (ev x) K
  | .makeFunc fn first captured => makeFuncP fn (first.toList.map ev) (captured.toList.map ev) K
  | .slice t x lo hi mx => sliceP T t (ev x) (lo.map ev) (hi.map ev) (mx.map ev) K
  | .fieldAddr s x f => fieldAddrP T s (ev x) f K
  | .field s x f => fieldP T s (ev x) f K
  | .indexAddr t x i => indexAddrP T t (ev x) (ev i) K
  | .index t x i => indexP T t (ev x) (ev i) K
  | .extract x i => extractP (ev x) i K
  | .build t parts => buildP T t (parts.toList.map fun p => (p.1, ev p.2)) K
  | .call { callee := .builtin b, args, argTypes } => builtinP T b argTypes.toList (args.toList.map ev) K
  | _ => False
end Go.V
