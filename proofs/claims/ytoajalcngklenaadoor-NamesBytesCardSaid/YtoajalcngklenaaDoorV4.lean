/- V, part 4: the operations that look at no memory do what part 3 says. -/
import Derived.Test.YtoajalcngklenaaDoorV3
set_option linter.unusedSimpArgs false
set_option linter.unusedVariables false
namespace Go.V
open Go Go.RowKit

/-- A run that neither looks at the world nor turns it, and what comes of it. -/
def RunsTo (P : Program) (g : Gh) (w : World) (m : Sem Value) (K : AV → Prop) : Prop := ∃ v av, (∀ w', m.run P w' = .ok v w') ∧ K av ∧ av.Is g w v

theorem beq_dec {α : Type} [BEq α] [LawfulBEq α] [DecidableEq α] (a b : α) : (a == b) = decide (a = b) := by rw [Bool.eq_iff_iff]; simp

section
variable {P : Program} {T : Nat → TI} {g : Gh} {w : World}

theorem intP_sound {op : BinOp} {k : IntKind} {a b : Int} {K : AV → Prop} {t : Nat} (h : intP op k a b K) : RunsTo P g w (binOp op t (.int k a) (.int k b)) K := by
  have hne : (k ≠ k) = False := by simp
  cases op <;> simp only [intP] at h
  all_goals first
    | exact h.elim
    | (refine ⟨_, _, fun w' => ?_, h, rfl⟩; simp [binOp, Op.intArith, Op.intBits, Op.intCmp, addw, subw, mulw, bitw]; done)
    | (refine ⟨_, _, fun w' => ?_, h, rfl⟩; simp [binOp, Op.intArith, Op.intBits, Op.intCmp, addw, subw, mulw, bitw]; rfl)
    | (refine ⟨_, _, fun w' => ?_, h.2, rfl⟩; simp [binOp, Op.intDiv, h.1]; done)

theorem strP_sound {op : BinOp} {a b : List UInt8} {K : AV → Prop} {t : Nat} (h : strP op a b K) : RunsTo P g w (binOp op t (.string (bstr a)) (.string (bstr b))) K := by
  cases op <;> simp only [strP] at h
  case add =>
    refine ⟨.string (bstr (a ++ b)), _, fun w' => ?_, h.2, rfl⟩
    have hs : (bstr a).size = a.length := by simp [bstr, ByteArray.size]
    have hs' : (bstr b).size = b.length := by simp [bstr, ByteArray.size]
    have hm : ¬ (((((bstr a).size + (bstr b).size : Nat) : Int)) > IntKind.i64.max) := by
      rw [hs, hs']; simp [IntKind.max, IntKind.bits, IntKind.signed]; omega
    have happ : bstr a ++ bstr b = bstr (a ++ b) := by
      apply ByteArray.ext; simp [bstr]
    simp only [binOp, Op.stringOp, hm, if_false, happ]
    rfl
  case eql => exact ⟨.bool (decide (a = b)), _, fun w' => by simp [binOp, Op.stringOp, bstr, beq_dec], h, rfl⟩
  case neq => exact ⟨.bool (!decide (a = b)), _, fun w' => by simp [binOp, Op.stringOp, bstr, beq_dec], h, rfl⟩
  all_goals exact h.elim

theorem eqGuard_cell {op : BinOp} {t : Nat} {x y : Operand} {a b : Value} (hn : a ≠ .nilIface ∨ b ≠ .nilIface) (ha : ∀ cs, a ≠ .agg cs) : (eqGuard op t x y a b).run P w = .ok () w := by
  unfold eqGuard
  cases op <;> first
    | rfl
    | (cases a <;> cases b <;> first | rfl | exact absurd rfl (ha _) | (simp at hn; done))

theorem run_equalIn_bool {t : Nat} (hu : P.underlying t = some .bool) (d : Nat) (a b : Bool) : (Op.equalIn (d + 1) t (.bool a) (.bool b)).run P w = .ok (a == b) w := by
  simp [Op.equalIn, run_underlying hu]
theorem run_equalIn_nilptr {t e : Nat} (hu : P.underlying t = some (.pointer e)) (d : Nat) (b : Option Addr) : (Op.equalIn (d + 1) t (.pointer none) (.pointer b)).run P w = .ok b.isNone w := by
  simp [Op.equalIn, run_underlying hu]
theorem run_equalIn_ptrnil {t e : Nat} (hu : P.underlying t = some (.pointer e)) (d : Nat) (a : Addr) : (Op.equalIn (d + 1) t (.pointer (some a)) (.pointer none)).run P w = .ok false w := by
  simp [Op.equalIn, run_underlying hu]
theorem run_equalIn_nilfn {t : Nat} {ps rs : Array TypeId} {v : Bool} (hu : P.underlying t = some (.func ps rs v)) (d : Nat) : (Op.equalIn (d + 1) t .nilFunc .nilFunc).run P w = .ok true w := by
  simp [Op.equalIn, run_underlying hu]
theorem run_equalIn_fnnil {t : Nat} {ps rs : Array TypeId} {v : Bool} (hu : P.underlying t = some (.func ps rs v)) (d : Nat) (f : Fn) (x y : Array Value) : (Op.equalIn (d + 1) t (.func f x y) .nilFunc).run P w = .ok false w := by
  simp [Op.equalIn, run_underlying hu]

/-- Neither a number nor a text: '==' goes to Op.equal. -/
def other : Value → Bool
  | .int .. | .float .. | .complex .. | .string _ => false
  | _ => true
theorem binOp_eql {t : Nat} {a b : Value} (ha : other a = true) {r : Bool} (h : (Op.equalIn (9999 + 1) t a b).run P w = .ok r w) : (binOp .eql t a b).run P w = .ok (.bool r) w := by
  have : binOp .eql t a b = (do pure (.bool (← Op.equal t a b))) := by cases a <;> simp [other] at ha <;> cases b <;> rfl
  rw [this]
  have h' : (Op.equal t a b).run P w = .ok r w := h
  simp [h']
theorem binOp_neq {t : Nat} {a b : Value} (ha : other a = true) {r : Bool} (h : (Op.equalIn (9999 + 1) t a b).run P w = .ok r w) : (binOp .neq t a b).run P w = .ok (.bool (!r)) w := by
  have : binOp .neq t a b = (do pure (.bool (!(← Op.equal t a b)))) := by cases a <;> simp [other] at ha <;> cases b <;> rfl
  rw [this]
  have h' : (Op.equal t a b).run P w = .ok r w := h
  simp [h']
theorem eq_to {t : Nat} {va vb : Value} {x y : Operand} {K : AV → Prop} (neg : Bool) (hn : va ≠ .nilIface) (hag : ∀ cs, va ≠ .agg cs) (ha : other va = true) {r : Bool} (h : ∀ w, (Op.equalIn (9999 + 1) t va vb).run P w = .ok r w)
    (hK : K (.d (.bool (neg != r)))) : RunsTo P g w (do eqGuard (if neg then .neq else .eql) t x y va vb; binOp (if neg then .neq else .eql) t va vb) K := by
  refine ⟨.bool (neg != r), _, fun w' => ?_, hK, rfl⟩
  have h := h w'
  have hg : (eqGuard (if neg then .neq else .eql) t x y va vb).run P w' = .ok () w' := eqGuard_cell (.inl hn) hag
  simp only [Sem.run_bind, hg, Result.andThen_ok]
  cases neg
  · simpa using binOp_eql ha h
  · simpa using binOp_neq ha h

/-- The cell values of which '==' asks here. -/
theorem eqP_sound (hT : TOk P T) {t : Nat} {a b : CV} {K : AV → Prop} {va vb : Value} (ha : a.Is g w va) (hb : b.Is g w vb) (neg : Bool) {x y : Operand} (h : eqP T neg t a b K) :
    RunsTo P g w (do eqGuard (if neg then .neq else .eql) t x y va vb; binOp (if neg then .neq else .eql) t va vb) K := by
  unfold eqP at h
  split at h
  · rename_i p q hk
    obtain rfl := ha
    obtain rfl := hb
    exact eq_to neg (by simp) (by simp) rfl (fun _ => run_equalIn_bool (hT.bool hk) _ _ _) h
  · rename_i e hk
    obtain ⟨rfl, _⟩ := ha
    obtain ⟨rfl, _⟩ := hb
    exact eq_to neg (by simp) (by simp) rfl (fun _ => run_equalIn_nilptr (hT.ptr hk) _ _) (by simpa using h)
  · rename_i e n k f hk
    obtain ⟨p, _, rfl⟩ := ha
    obtain ⟨rfl, _⟩ := hb
    exact eq_to neg (by simp) (by simp) rfl (fun _ => run_equalIn_ptrnil (hT.ptr hk) _ _) (by simpa using h)
  · rename_i e n k f hk
    obtain ⟨rfl, _⟩ := ha
    obtain ⟨p, _, rfl⟩ := hb
    exact eq_to neg (by simp) (by simp) rfl (fun _ => run_equalIn_nilptr (hT.ptr hk) _ _) (by simpa using h)
  · rename_i hk
    obtain ⟨rfl, _⟩ := ha
    obtain ⟨rfl, _⟩ := hb
    obtain ⟨d, hu, hd⟩ := hT.und hk (by simp)
    cases d <;> simp [tkOf] at hd
    exact eq_to neg (by simp) (by simp) rfl (fun _ => run_equalIn_nilfn hu _) (by simpa using h)
  · rename_i q caps hk
    obtain ⟨cs, rfl, _⟩ := ha
    obtain ⟨rfl, _⟩ := hb
    obtain ⟨d, hu, hd⟩ := hT.und hk (by simp)
    cases d <;> simp [tkOf] at hd
    exact eq_to neg (by simp) (by simp) rfl (fun _ => run_equalIn_fnnil hu _ _ _ _) (by simpa using h)
  · exact h.elim

theorem binP_sound (hT : TOk P T) {op : BinOp} {t : Nat} {a b : AV} {K : AV → Prop} {va vb : Value} (ha : a.Is g w va) (hb : b.Is g w vb) {x y : Operand} (h : binP T op t a b K) :
    RunsTo P g w (do eqGuard op t x y va vb; binOp op t va vb) K := by
  unfold binP at h
  split at h
  · rename_i k p k' q
    split at h
    · rename_i hk
      subst hk
      obtain rfl := ha
      obtain rfl := hb
      have hg : ∀ w, (eqGuard op t x y (.int k p) (.int k q)).run P w = .ok () w := fun _ => eqGuard_cell (.inl (by simp)) (by simp)
      obtain ⟨v, av, hr, hK, hi⟩ := intP_sound (P := P) (g := g) (w := w) (t := t) h
      exact ⟨v, av, fun w' => by simp only [Sem.run_bind, hg, Result.andThen_ok, hr], hK, hi⟩
    · exact h.elim
  · rename_i p q
    obtain rfl := ha
    obtain rfl := hb
    have hg : ∀ w, (eqGuard op t x y (.string (bstr p)) (.string (bstr q))).run P w = .ok () w := fun _ => eqGuard_cell (.inl (by simp)) (by simp)
    obtain ⟨v, av, hr, hK, hi⟩ := strP_sound (P := P) (g := g) (w := w) (t := t) h
    exact ⟨v, av, fun w' => by simp only [Sem.run_bind, hg, Result.andThen_ok, hr], hK, hi⟩
  · split at h
    · exact eqP_sound hT ha hb false h
    · exact eqP_sound hT ha hb true h
    · exact h.elim
  · exact h.elim

theorem unP_sound {op : UnOp} {x : AV} {K : AV → Prop} {v : Value} (hx : x.Is g w v) (h : unP op x K) : RunsTo P g w (Op.unary op v) K := by
  unfold unP at h
  split at h
  · obtain rfl := hx
    exact ⟨_, _, fun w' => by simp only [Op.unary, Sem.run_pure], h, rfl⟩
  · obtain rfl := hx
    exact ⟨_, _, fun w' => by simp only [Op.unary, Op.intArith, Sem.run_pure]; rfl, h, rfl⟩
  · exact h.elim

/-- An operand that may be missing. -/
def OptIs (g : Gh) (w : World) : Option AV → Option Value → Prop
  | some a, some b => a.Is g w b
  | none, none => True
  | _, _ => False

theorem boundP_sound {x : Option AV} {v : Option Value} {dflt n : Nat} {K : Nat → Prop} (hx : OptIs g w x v) (h : boundP x dflt n K) :
    ∃ i, K i ∧ ((v = none ∧ i = dflt) ∨ ∃ b, v = some b ∧ i ≤ n ∧ ∀ (w : World) (m : Nat) code, i ≤ m → (Instr.sliceBound b m code).run P w = .ok i w) := by
  unfold boundP at h
  split at h
  · cases v with
    | none => exact ⟨dflt, h, .inl ⟨rfl, rfl⟩⟩
    | some b => exact hx.elim
  · cases v with
    | none => exact hx.elim
    | some b =>
      rename_i k i
      obtain rfl := (show b = .int k i from hx)
      obtain ⟨h0, hn, hK⟩ := h
      refine ⟨i.toNat, hK, .inr ⟨_, rfl, by omega, fun w m code hm => ?_⟩⟩
      have h1 : 0 ≤ i ∧ i ≤ (m : Int) := by omega
      simp [Instr.sliceBound, asIntOf, h1]
  · exact h.elim

theorem indexAddrP_sound (hT : TOk P T) {t : Nat} {x i : AV} {K : AV → Prop} {v u : Value} (hx : x.Is g w v) (hi : i.Is g w u) (h : indexAddrP T t x i K) : RunsTo P g w (Instr.indexAt t v u) K := by
  unfold indexAddrP at h
  split at h
  · rename_i e n wd k len cap ki i hk
    obtain rfl := (show u = .int ki i from hi)
    obtain ⟨hne, hsz, h0, hl, hK⟩ := h
    have hu := hT.sl hk
    rcases hx with ⟨h1, h2, A, rfl⟩ | ⟨p, hp, hwd, rfl⟩
    · omega
    · have hs := hT.size hne
      simp only [hsz] at hs
      refine ⟨.pointer (some ⟨p.blk, p.off + ((k + i.toNat) * p.wd + 0), none⟩), _, fun w' => ?_, hK, ⟨p, hp, rfl⟩⟩
      have hadd : Addr.add ⟨p.blk, p.off + k * wd, none⟩ (i.toNat * wd) = ⟨p.blk, p.off + ((k + i.toNat) * p.wd + 0), none⟩ := by
        rw [hwd, Nat.add_mul]
        unfold Addr.add
        split
        · rename_i hz; rw [hz]; congr 1
        · show Addr.mk p.blk (p.off + k * wd + i.toNat * wd) none = Addr.mk _ _ _
          congr 1
          omega
      have h1 : 0 ≤ i ∧ i < (len : Int) := ⟨h0, hl⟩
      simp [Instr.indexAt, asIntOf, run_underlying hu, h1, hs, hadd]
  · rename_i e wd n cell ki i hk
    obtain rfl := (show u = .int ki i from hi)
    obtain ⟨hne, hsz, h0, hl, hK⟩ := h
    have hu := hT.sl hk
    have hx2 : (CV.lst wd n cell).Is g w v := hx
    simp only [CV.At] at hx2
    obtain ⟨A, c, rfl, _, hx3⟩ := hx2
    rcases hx3 with h3 | ⟨b, o, rfl, hb, hc⟩
    · omega
    · have hs := hT.size hne
      simp only [hsz] at hs
      refine ⟨.pointer (some ⟨b, o + (i.toNat * wd + 0), none⟩), _, fun w' => ?_, hK, ⟨b, o, rfl, by omega, hb, hc⟩⟩
      have hadd : Addr.add ⟨b, o, none⟩ (i.toNat * wd) = ⟨b, o + (i.toNat * wd + 0), none⟩ := by
        unfold Addr.add
        split
        · rename_i hz; rw [hz]; rfl
        · rfl
      have h1 : 0 ≤ i ∧ i < (n : Int) := ⟨h0, hl⟩
      simp [Instr.indexAt, asIntOf, run_underlying hu, h1, hs, hadd]
  · exact h.elim

theorem bstr_size (l : List UInt8) : (bstr l).size = l.length := by simp [bstr, ByteArray.size]
theorem bstr_get (l : List UInt8) (i : Nat) (h : i < l.length) : (bstr l)[i]? = some (l.getD i 0) := by
  rw [ByteArray.getElem?_lt' _ _ (by rw [bstr_size]; exact h)]
  congr 1
  simp [bstr, List.getD, h]
  rfl

theorem indexP_sound (hT : TOk P T) {t : Nat} {x i : AV} {K : AV → Prop} {v u : Value} (hx : x.Is g w v) (hi : i.Is g w u) (h : indexP T t x i K) : RunsTo P g w (Instr.index t v u) K := by
  unfold indexP at h
  split at h
  · rename_i l ki i hk
    obtain rfl := (show u = .int ki i from hi)
    obtain rfl := (show v = .string (bstr l) from hx)
    obtain ⟨h0, hl, hK⟩ := h
    have hu := hT.str hk
    refine ⟨.int .u8 ((l.getD i.toNat 0).toNat : Int), _, fun w' => ?_, hK, rfl⟩
    have hg := bstr_get l i.toNat (by omega)
    simp [Instr.index, asIntOf, run_underlying hu, h0, hg]
  · exact h.elim
end
end Go.V
