/- V, part 5: the rest of the operations that look at no memory. -/
import Derived.Test.YtoajalcngklenaaDoorV4
set_option linter.unusedSimpArgs false
set_option linter.unusedVariables false
namespace Go.V
open Go Go.RowKit
section
variable {P : Program} {T : Nat → TI} {g : Gh} {w : World}

theorem OptIs.none_iff {x : Option AV} {v : Option Value} (h : OptIs g w x v) : x = none ↔ v = none := by
  cases x <;> cases v <;> simp [OptIs] at h ⊢

/-- Where a slice expression cuts. -/
theorem bounds_run {isSlice : Bool} {len cap l h m : Nat} {lo hi mx : Option Value}
    (hm : (mx = none ∧ m = cap) ∨ ∃ b, mx = some b ∧ m ≤ cap ∧ ∀ (w : World) (k : Nat) code, m ≤ k → (Instr.sliceBound b k code).run P w = .ok m w)
    (hh : (hi = none ∧ h = len ∧ mx = none) ∨ ∃ b, hi = some b ∧ h ≤ m ∧ ∀ (w : World) (k : Nat) code, h ≤ k → (Instr.sliceBound b k code).run P w = .ok h w)
    (hl : (lo = none ∧ l = 0) ∨ ∃ b, lo = some b ∧ l ≤ h ∧ ∀ (w : World) (k : Nat) code, l ≤ k → (Instr.sliceBound b k code).run P w = .ok l w) :
    (Instr.sliceBounds isSlice len cap lo hi mx).run P w = .ok (l, h, m) w := by
  rcases hm with ⟨rfl, rfl⟩ | ⟨bm, rfl, hm1, hm2⟩ <;> rcases hh with ⟨rfl, rfl, hx⟩ | ⟨bh, rfl, hh1, hh2⟩ <;> rcases hl with ⟨rfl, rfl⟩ | ⟨bl, rfl, hl1, hl2⟩
  all_goals first
    | (cases hx; done)
    | (simp [Instr.sliceBounds]; done)
    | (simp [Instr.sliceBounds, hl2 _ _ _ hl1]; done)
    | (simp [Instr.sliceBounds, hh2 _ _ _ hh1]; done)
    | (simp [Instr.sliceBounds, hh2 _ _ _ hh1, hl2 _ _ _ hl1]; done)
    | (simp [Instr.sliceBounds, hm2 _ _ _ hm1, hh2 _ _ _ hh1]; done)
    | (simp [Instr.sliceBounds, hm2 _ _ _ hm1, hh2 _ _ _ hh1, hl2 _ _ _ hl1]; done)

theorem bstr_extract (l : List UInt8) (a b : Nat) : (bstr l).extract a b = bstr ((l.drop a).take (b - a)) := ByteArray.extract_mk l a b

theorem sliceP_sound (hT : TOk P T) {t : Nat} {x : AV} {lo hi mx : Option AV} {K : AV → Prop} {v : Value} {vlo vhi vmx : Option Value} (hx : x.Is g w v) (hlo : OptIs g w lo vlo) (hhi : OptIs g w hi vhi) (hmx : OptIs g w mx vmx)
    (h : sliceP T t x lo hi mx K) : RunsTo P g w (Instr.sliceAt t v vlo vhi vmx) K := by
  unfold sliceP at h
  split at h
  · rename_i l hk
    obtain rfl := (show v = .string (bstr l) from hx)
    obtain ⟨rfl, h⟩ := h
    have hmn : vmx = none := hmx.none_iff.1 rfl
    subst hmn
    have hu := hT.str hk
    obtain ⟨j2, h2, c2⟩ := boundP_sound (P := P) hhi h
    obtain ⟨j1, h1, c1⟩ := boundP_sound (P := P) hlo h2
    refine ⟨.string (bstr ((l.drop j1).take (j2 - j1))), _, fun w' => ?_, h1, rfl⟩
    have hb := fun w' => bounds_run (P := P) (w := w') (isSlice := false) (len := (bstr l).size) (cap := (bstr l).size) (m := (bstr l).size) (mx := none) (hi := vhi) (lo := vlo) (h := j2) (l := j1) (.inl ⟨rfl, rfl⟩)
      (by rw [bstr_size]; rcases c2 with ⟨e1, e2⟩ | ⟨b, e1, e2, e3⟩
          · exact .inl ⟨e1, e2, rfl⟩
          · exact .inr ⟨b, e1, e2, e3⟩) c1
    simp only [Instr.sliceAt, Instr.slice, Sem.run_bind, run_underlying hu, Result.andThen_ok, Option.isSome_none, Bool.false_eq_true, if_false, hb, Sem.run_pure, bstr_extract]
  · rename_i e n wd k len cap hk
    obtain ⟨hne, hsz, hle, hsome, h⟩ := h
    have hu := hT.sl hk
    have hs := hT.size hne
    obtain ⟨j3, h3, c3⟩ := boundP_sound (P := P) hmx h
    obtain ⟨j2, h2, c2⟩ := boundP_sound (P := P) hhi h3
    obtain ⟨j1, h1, c1⟩ := boundP_sound (P := P) hlo h2
    have hj3 : j3 ≤ cap := by rcases c3 with ⟨_, rfl⟩ | ⟨_, _, h, _⟩ <;> omega
    have hj2 : j2 ≤ len ∧ j2 ≤ j3 := by
      rcases c2 with ⟨e1, rfl⟩ | ⟨_, _, h, _⟩
      · have hi0 := hhi.none_iff.2 e1
        subst hi0
        have : mx = none := by simpa using hsome
        have := hmx.none_iff.1 this
        rcases c3 with ⟨_, rfl⟩ | ⟨b, e3, _⟩
        · omega
        · rw [this] at e3; cases e3
      · omega
    have hb : ∀ (a : Option Addr) (w : World), (Instr.sliceBounds true len cap vlo vhi vmx).run P w = .ok (j1, j2, j3) w := fun _ _ => bounds_run c3
      (by rcases c2 with ⟨e1, e2⟩ | ⟨b, e1, e2, e3⟩
          · refine .inl ⟨e1, e2, ?_⟩
            have hi0 := hhi.none_iff.2 e1
            subst hi0
            exact hmx.none_iff.1 (by simpa using hsome)
          · exact .inr ⟨b, e1, by omega, e3⟩) c1
    have hj1 : j1 ≤ j2 := by rcases c1 with ⟨_, rfl⟩ | ⟨_, _, h, _⟩ <;> omega
    rcases hx with ⟨z1, z2, A, rfl⟩ | ⟨p, hp, hwd, rfl⟩
    · subst z1; subst z2
      obtain rfl : j3 = 0 := by omega
      obtain rfl : j2 = 0 := by omega
      obtain rfl : j1 = 0 := by omega
      refine ⟨.slice A 0 0, _, fun w' => ?_, h1, .inl ⟨rfl, rfl, A, rfl⟩⟩
      simp [Instr.sliceAt, Instr.slice, run_underlying hu, hb none, hs]
    · by_cases hc : cap = 0
      · subst hc
        obtain rfl : j3 = 0 := by omega
        obtain rfl : j2 = 0 := by omega
        obtain rfl : j1 = 0 := by omega
        obtain rfl : len = 0 := by omega
        refine ⟨.slice (some ⟨p.blk, p.off + k * wd, none⟩) 0 0, _, fun w' => ?_, h1, .inl ⟨rfl, rfl, _, rfl⟩⟩
        simp [Instr.sliceAt, Instr.slice, run_underlying hu, hb none, hs]
      · have hsw : (T e).size = wd := hsz.resolve_right hc
        simp only [hsw] at hs
        by_cases hmj : j3 = j1
        · subst hmj
          obtain rfl : j2 = j3 := by omega
          refine ⟨.slice (some ⟨p.blk, p.off + k * wd, none⟩) 0 0, _, fun w' => ?_, h1, .inl ⟨by omega, by omega, _, rfl⟩⟩
          simp [Instr.sliceAt, Instr.slice, run_underlying hu, hb none, hs]
        · refine ⟨.slice (some ⟨p.blk, p.off + (k + j1) * wd, none⟩) (j2 - j1) (j3 - j1), _, fun w' => ?_, h1, .inr ⟨p, hp, hwd, rfl⟩⟩
          have hadd : Addr.add ⟨p.blk, p.off + k * wd, none⟩ (j1 * wd) = ⟨p.blk, p.off + (k + j1) * wd, none⟩ := by
            rw [Nat.add_mul]
            unfold Addr.add
            split
            · rename_i hz; rw [hz]; rfl
            · show Addr.mk p.blk (p.off + k * wd + j1 * wd) none = Addr.mk _ _ _
              congr 1
              omega
          simp [Instr.sliceAt, Instr.slice, run_underlying hu, hb none, hs, hmj, hadd]
  · rename_i e wd n cell hk
    obtain ⟨hne, hsw, rfl, h⟩ := h
    have hmn : vmx = none := hmx.none_iff.1 rfl
    subst hmn
    have hu := hT.sl hk
    have hs := hT.size hne
    simp only [hsw] at hs
    obtain ⟨j2, h2, c2⟩ := boundP_sound (P := P) hhi h
    obtain ⟨j1, h1, c1⟩ := boundP_sound (P := P) hlo h2
    have hj2 : j2 ≤ n := by rcases c2 with ⟨_, rfl⟩ | ⟨_, _, h, _⟩ <;> omega
    have hj1 : j1 ≤ j2 := by rcases c1 with ⟨_, rfl⟩ | ⟨_, _, h, _⟩ <;> omega
    have hx2 : (CV.lst wd n cell).Is g w v := hx
    simp only [CV.At] at hx2
    obtain ⟨A, c, rfl, hnc, hx3⟩ := hx2
    have hb : ∀ w, (Instr.sliceBounds true n c vlo vhi none).run P w = .ok (j1, j2, c) w := fun _ => bounds_run (.inl ⟨rfl, rfl⟩)
      (by rcases c2 with ⟨e1, e2⟩ | ⟨b, e1, e2, e3⟩
          · exact .inl ⟨e1, e2, rfl⟩
          · exact .inr ⟨b, e1, by omega, e3⟩) c1
    refine ⟨.slice (if c = j1 then A else A.map (·.add (j1 * wd))) (j2 - j1) (c - j1), _, fun w' => ?_, h1, ?_⟩
    · simp [Instr.sliceAt, Instr.slice, run_underlying hu, hb, hs]
    · show (CV.lst wd (j2 - j1) (subCell j1 (j2 - j1) cell)).Is g w _
      simp only [CV.At]
      refine ⟨_, _, rfl, by omega, ?_⟩
      by_cases hz : j2 - j1 = 0
      · exact .inl hz
      · rcases hx3 with h3 | ⟨b, o, rfl, hb, hc⟩
        · omega
        · refine .inr ⟨b, o + j1 * wd, ?_, hb, fun k hk f hf => ?_⟩
          · rw [if_neg (by omega)]
            simp only [Option.map_some]
            unfold Addr.add
            split
            · rename_i hz; rw [hz]; rfl
            · rfl
          · obtain ⟨u, hu, hi⟩ := hc (j1 + k) (by omega) f hf
            refine ⟨u, ?_, by rw [show subCell j1 (j2 - j1) cell k f = cell (j1 + k) f from if_pos hk]; exact hi⟩
            rw [← hu]
            congr 2
            rw [Nat.add_mul]; omega
  · rename_i e e' wd hk
    obtain ⟨hne, rfl, h⟩ := h
    have hmn : vmx = none := hmx.none_iff.1 rfl
    subst hmn
    have hu := hT.sl hk
    have hs := hT.size hne
    obtain ⟨j2, h2, c2⟩ := boundP_sound (P := P) hhi h
    obtain ⟨j1, h1, c1⟩ := boundP_sound (P := P) hlo h2
    obtain rfl : j2 = 0 := by rcases c2 with ⟨_, rfl⟩ | ⟨_, _, h, _⟩ <;> omega
    obtain rfl : j1 = 0 := by rcases c1 with ⟨_, rfl⟩ | ⟨_, _, h, _⟩ <;> omega
    obtain ⟨A, rfl⟩ := hx
    have hb : ∀ w, (Instr.sliceBounds true 0 0 vlo vhi none).run P w = .ok (0, 0, 0) w := fun _ => bounds_run (.inl ⟨rfl, rfl⟩)
      (by rcases c2 with ⟨e1, e2⟩ | ⟨b, e1, e2, e3⟩
          · exact .inl ⟨e1, rfl, rfl⟩
          · exact .inr ⟨b, e1, by omega, e3⟩) c1
    refine ⟨.slice A 0 0, _, fun w' => ?_, h1, A, rfl⟩
    simp [Instr.sliceAt, Instr.slice, run_underlying hu, hb, hs]
  · exact h.elim

theorem getElem?_field {fs : Array Field} {l : List (Nat × Nat)} (h : fs.toList.map (fun f => (f.offset, f.type)) = l) {i off ft : Nat} (hi : l[i]? = some (off, ft)) : ∃ f, fs[i]? = some f ∧ f.offset = off ∧ f.type = ft := by
  subst h
  rw [List.getElem?_map] at hi
  cases hf : fs.toList[i]? with
  | none => rw [hf] at hi; cases hi
  | some f =>
    rw [hf] at hi
    simp only [Option.map_some, Option.some.injEq, Prod.mk.injEq] at hi
    exact ⟨f, by rw [← Array.getElem?_toList]; exact hf, hi.1, hi.2⟩

theorem Addr.add_off (b o n : Nat) : Addr.add ⟨b, o, none⟩ n = ⟨b, o + n, none⟩ := by
  unfold Addr.add
  split
  · rename_i h; rw [h]; rfl
  · rfl

theorem fieldAddrP_sound (hT : TOk P T) {s f : Nat} {x : AV} {K : AV → Prop} {v : Value} (hx : x.Is g w v) (h : fieldAddrP T s x f K) : RunsTo P g w (Instr.fieldAt s v f) K := by
  unfold fieldAddrP at h
  split at h
  · rename_i l hk
    split at h
    · rename_i off ft hf
      obtain ⟨hne, hz, h⟩ := h
      obtain ⟨fs, hu, hfs⟩ := hT.st hk
      obtain ⟨fd, hfd, ho, ht⟩ := getElem?_field hfs hf
      have hs := hT.size hne
      have hplace : ∀ (b o : Nat) (w : World), (Instr.fieldAt s (.pointer (some ⟨b, o, none⟩)) f).run P w = .ok (.pointer (some ⟨b, o + off, none⟩)) w := fun b o w => by
        simp [Instr.fieldAt, run_underlying hu, hfd, Instr.sureAddr, fieldPlace, ho, ht, hs, hz, Addr.add_off]
      split at h
      · rename_i n k j
        obtain ⟨p, hp, rfl⟩ := hx
        exact ⟨_, _, hplace _ _, h, ⟨p, hp, by rw [Nat.add_assoc, Nat.add_assoc]⟩⟩
      · rename_i wd n cell k j
        obtain ⟨b, o, rfl, hx⟩ := hx
        exact ⟨_, _, hplace _ _, h, ⟨b, o, by rw [Nat.add_assoc, Nat.add_assoc], hx⟩⟩
      · exact h.elim
    · exact h.elim
  · exact h.elim

theorem F2.drop {α β : Type} {R : α → β → Prop} : ∀ {l : List α} {m : List β} (n : Nat), F2 R l m → F2 R (l.drop n) (m.drop n)
  | [], [], _, _ => by simp [F2]
  | _ :: _, _ :: _, 0, h => h
  | _ :: _, _ :: _, n + 1, h => F2.drop n h.2
theorem F2.take {α β : Type} {R : α → β → Prop} : ∀ {l : List α} {m : List β} (n : Nat), F2 R l m → F2 R (l.take n) (m.take n)
  | [], [], _, _ => by simp [F2]
  | _ :: _, _ :: _, 0, _ => trivial
  | _ :: _, _ :: _, n + 1, h => ⟨h.1, F2.take n h.2⟩

theorem fieldP_sound (hT : TOk P T) {s f : Nat} {x : AV} {K : AV → Prop} {v : Value} (hx : x.Is g w v) (h : fieldP T s x f K) : RunsTo P g w (Instr.field s v f) K := by
  unfold fieldP at h
  split at h
  · rename_i l cs hk
    obtain ⟨us, rfl, hc⟩ := hx
    split at h
    · rename_i off ft hf
      obtain ⟨hne, h⟩ := h
      obtain ⟨fs, hu, hfs⟩ := hT.st hk
      obtain ⟨fd, hfd, ho, ht⟩ := getElem?_field hfs hf
      have hs := hT.size hne
      have ha := hT.agg hne
      split at h
      · rename_i hag
        simp only [hag] at ha
        refine ⟨.agg ((us.drop off).take (T ft).size).toArray, _, fun w' => ?_, h, ⟨_, rfl, F2.take _ (F2.drop _ hc)⟩⟩
        simp [Instr.field, run_underlying hu, hfd, asAgg, part, ht, ho, ha, hs]
      · rename_i hag
        simp only [eq_false_of_ne_true hag] at ha
        obtain ⟨hl, h⟩ := h
        obtain ⟨u, hu1, hi⟩ := F2.get hc (List.getElem?_eq_getElem hl)
        refine ⟨u, _, fun w' => ?_, h, ?_⟩
        · simp [Instr.field, run_underlying hu, hfd, asAgg, part, ht, ho, ha, hu1]
        · rw [nth_eq, List.getElem?_eq_getElem hl]; exact hi
    · exact h.elim
  · exact h.elim

theorem extractP_sound {x : AV} {i : Nat} {K : AV → Prop} {v : Value} (hx : x.Is g w v) (h : extractP x i K) : RunsTo P g w (Instr.extract v i) K := by
  unfold extractP at h
  split at h
  · rename_i vs
    obtain ⟨us, rfl, hc⟩ := hx
    obtain ⟨hl, h⟩ := h
    obtain ⟨u, hu1, hi⟩ := F2.get hc (List.getElem?_eq_getElem hl)
    refine ⟨u, _, fun w' => ?_, h, ?_⟩
    · simp [Instr.extract, hu1]
    · rw [nth_eq, List.getElem?_eq_getElem hl]; exact hi
  · exact h.elim

theorem capsOf_is : ∀ {l : List AV} {us : List Value} {ns : List Nat}, F2 (AV.Is g w) l us → capsOf l = some ns → F2 (fun n c => ∃ p, g.ρ n = some p ∧ c = .pointer (some ⟨p.blk, p.off, none⟩)) ns us
  | [], [], ns, _, h => by simp [capsOf] at h; subst h; trivial
  | a :: l, u :: us, ns, hl, h => by
    unfold capsOf at h
    split at h
    · rename_i heq; cases heq
    · rename_i n r heq
      simp only [List.cons.injEq] at heq
      obtain ⟨rfl, rfl⟩ := heq
      split at h
      · rename_i r hr
        simp only [Option.some.injEq] at h
        subst h
        obtain ⟨p, hp, hv⟩ := hl.1
        exact ⟨⟨p, hp, by simpa using hv⟩, capsOf_is hl.2 hr⟩
      · cases h
    · cases h

theorem makeFuncP_sound {fn : Fn} {first captured : List AV} {K : AV → Prop} {uf uc : List Value} (hf : F2 (AV.Is g w) first uf) (hc : F2 (AV.Is g w) captured uc) (h : makeFuncP fn first captured K) :
    RunsTo P g w (Instr.makeFunc fn uf.toArray uc.toArray) K := by
  unfold makeFuncP at h
  split at h
  · rename_i q caps hcap
    have : uf = [] := by cases uf <;> first | rfl | exact hf.elim
    subst this
    exact ⟨_, _, fun _ => rfl, h, ⟨uc, rfl, capsOf_is hc hcap⟩⟩
  · exact h.elim

theorem nilCheckP_sound {x : AV} {K : AV → Prop} {v : Value} (hx : x.Is g w v) (h : nilCheckP x K) : K x ∧ ∀ ρ : Operand → Value, ∀ y o, ρ y = v → o.op = .nilCheck y → ∀ w', (execOp ρ o).run P w' = .ok (.value v) w' := by
  unfold nilCheckP at h
  split at h
  · obtain ⟨p, hp, rfl⟩ := hx
    exact ⟨h, fun ρ y o hy ho w' => by simp [execOp, ho, hy]⟩
  · obtain ⟨b, o, rfl, _⟩ := hx
    exact ⟨h, fun ρ y o hy ho w' => by simp [execOp, ho, hy]⟩
  · obtain ⟨cs, rfl, _⟩ := hx
    exact ⟨h, fun ρ y o hy ho w' => by simp [execOp, ho, hy]⟩
  · exact h.elim

theorem lenP_sound (hT : TOk P T) {t : Nat} {x : AV} {K : AV → Prop} {v : Value} (hx : x.Is g w v) (h : lenP T t x K) {ts : Array TypeId} {xs : Array Value} {ty : TypeId} (ht : ts[0]? = some t) (hxs : xs[0]? = some v) : RunsTo P g w (Builtin.len_ ts ty xs) K := by
  unfold lenP at h
  split at h
  · rename_i l hk
    obtain rfl := (show v = .string (bstr l) from hx)
    have hu := hT.str hk
    exact ⟨_, _, fun w' => by simp [Builtin.len_, ht, hxs, run_underlying hu, goInt, bstr_size], h, rfl⟩
  · rename_i e n wd k len cap hk
    have hu := hT.sl hk
    rcases hx with ⟨rfl, rfl, A, rfl⟩ | ⟨p, hp, hwd, rfl⟩
    · exact ⟨_, _, fun w' => by simp [Builtin.len_, ht, hxs, run_underlying hu, goInt], h, rfl⟩
    · exact ⟨_, _, fun w' => by simp [Builtin.len_, ht, hxs, run_underlying hu, goInt], h, rfl⟩
  · rename_i e wd n cell hk
    have hu := hT.sl hk
    have hx2 : (CV.lst wd n cell).Is g w v := hx
    simp only [CV.At] at hx2
    obtain ⟨A, c, rfl, _⟩ := hx2
    exact ⟨_, _, fun w' => by simp [Builtin.len_, ht, hxs, run_underlying hu, goInt], h, rfl⟩
  · rename_i e e' wd hk
    have hu := hT.sl hk
    obtain ⟨A, rfl⟩ := hx
    exact ⟨_, _, fun w' => by simp [Builtin.len_, ht, hxs, run_underlying hu, goInt], h, rfl⟩
  · exact h.elim

theorem oneCell_cells {v : Value} (h : v.oneCell' = true) : v.cells = #[v] := by cases v <;> first | rfl | simp [Value.oneCell'] at h

theorem CV.At.one {l : Option (Nat × List Nat)} : ∀ {x : CV} {v : Value}, x.ok = true → x.At g w l v → v.oneCell' = true
  | .int .., _, _, h => by simp only [CV.At] at h; subst h; rfl
  | .bool .., _, _, h => by simp only [CV.At] at h; subst h; rfl
  | .str .., _, _, h => by simp only [CV.At] at h; subst h; rfl
  | .raw .., _, _, h => by simp only [CV.At] at h; obtain ⟨rfl, h⟩ := h; exact h
  | .lst .., _, _, h => by simp only [CV.At] at h; obtain ⟨A, c, rfl, _⟩ := h; rfl
  | .own .., _, _, h => by
    cases l with
    | none => simp [CV.At] at h
    | some m =>
      obtain ⟨m, p⟩ := m
      simp only [CV.At] at h
      rcases h with ⟨_, A, rfl⟩ | ⟨b, o, c, cs, fz, rfl, _⟩ <;> rfl
  | .ptr .., _, _, h => by simp only [CV.At] at h; obtain ⟨p, _, rfl⟩ := h; rfl
  | .sl .., _, _, h => by simp only [CV.At] at h; rcases h with ⟨_, _, A, rfl⟩ | ⟨p, _, _, rfl⟩ <;> rfl
  | .nil .., _, _, h => by simp only [CV.At] at h; obtain ⟨A, rfl⟩ := h; rfl
  | .dptr .., _, _, h => by simp only [CV.At] at h; obtain ⟨b, o, rfl, _⟩ := h; rfl
  | .fn .., _, _, h => by simp only [CV.At] at h; obtain ⟨cs, rfl, _⟩ := h; rfl
  | .bad, _, ho, _ => by simp [CV.ok] at ho
theorem CV.Is.one {x : CV} {v : Value} (hx : x.ok = true) (h : x.Is g w v) : v.oneCell' = true := CV.At.one hx h

theorem typed_is {T : Nat → TI} {t : Nat} {x : CV} {v : Value} (h : x.Is g w v) : (typed T t x).Is g w v := by
  unfold typed
  split
  · exact h
  · exact h
theorem typedA_is {T : Nat → TI} {t : Nat} {x : AV} {v : Value} (h : x.Is g w v) : (typedA T t x).Is g w v := by
  unfold typedA
  split
  · exact typed_is h
  · exact h
theorem typedF_is {T : Nat → TI} {fs : List (Nat × Nat)} {i : Nat} {x : AV} {v : Value} (h : x.Is g w v) : (typedF T fs i x).Is g w v := by
  unfold typedF
  split
  · exact typedA_is h
  · exact h
theorem typed_parts {T : Nat → TI} {fs : List (Nat × Nat)} : ∀ {parts : List (Nat × AV)} {vs : List (Nat × Value)}, F2 (fun (a : Nat × AV) (b : Nat × Value) => a.1 = b.1 ∧ a.2.Is g w b.2) parts vs →
    F2 (fun (a : Nat × AV) (b : Nat × Value) => a.1 = b.1 ∧ a.2.Is g w b.2) (parts.map fun p => (p.1, typedF T fs p.1 p.2)) vs
  | [], [], _ => trivial
  | _ :: _, _ :: _, h => ⟨⟨h.1.1, typedF_is h.1.2⟩, typed_parts h.2⟩

theorem SV.cells_is {x : SV} {xs : List CV} {v : Value} (hx : x.cells = some xs) (h : x.Is g w v) : F2 (CV.Is g w) xs v.cells.toList := by
  cases x with
  | c x =>
    have hok : x.ok = true ∧ xs = [x] := by
      cases x <;> simp [SV.cells] at hx <;> simp [CV.ok, hx]
    have h1 := CV.Is.one hok.1 h
    rw [oneCell_cells h1, hok.2]
    exact ⟨h, trivial⟩
  | agg cs =>
    simp only [SV.cells, Option.some.injEq] at hx
    subst hx
    obtain ⟨us, rfl, hc⟩ := h
    simpa [Value.cells] using hc

theorem foldl_setAt {R : CV → Value → Prop} (off : Nat) : ∀ (l : List Value) (k : Nat) (cells : Array Value) (cs : List CV) (xs : List CV), F2 R xs l → F2 R cs cells.toList →
    F2 R (setAt cs (off + k) xs) ((l.zipIdx k).foldl (fun (cs : Array Value) (p : Value × Nat) => cs.setIfInBounds (off + p.2) p.1) cells).toList
  | [], k, cells, cs, [], _, h => by simpa [setAt] using h
  | u :: l, k, cells, cs, x :: xs, hx, h => by
    simp only [List.zipIdx_cons, List.foldl_cons, setAt, setn_eq]
    have := foldl_setAt off l (k + 1) (cells.setIfInBounds (off + k) u) (cs.set (off + k) x) xs hx.2 (by rw [Array.toList_setIfInBounds]; exact F2.set h hx.1)
    rw [show off + k + 1 = off + (k + 1) by omega]
    exact this

theorem fillP_sound {place : Nat → Option (Nat × Nat)} : ∀ {parts : List (Nat × AV)} {vs : List (Nat × Value)} {cs : List CV} {cells : Array Value} {K : List CV → Prop},
    F2 (fun (a : Nat × AV) (b : Nat × Value) => a.1 = b.1 ∧ a.2.Is g w b.2) parts vs → F2 (CV.Is g w) cs cells.toList → fillP place cs parts K →
    ∃ cells' cs', Instr.fill place cells vs = some cells' ∧ K cs' ∧ F2 (CV.Is g w) cs' cells'.toList
  | [], [], cs, cells, K, _, hc, h => ⟨cells, cs, rfl, h, hc⟩
  | (i, .s x) :: parts, (i', v) :: vs, cs, cells, K, hp, hc, h => by
    obtain ⟨⟨hi, hx⟩, hp⟩ := hp
    simp only at hi hx
    subst hi
    unfold fillP at h
    split at h
    · rename_i off size xs hpl hxs
      obtain ⟨hl, hle, h⟩ := h
      have hcx := SV.cells_is hxs hx
      have hlen : xs.length = v.cells.size := by rw [hcx.length]; simp
      have hcl : cs.length = cells.size := by rw [hc.length]; simp
      unfold Instr.fill
      rw [hpl]
      have hcond : (v.cells.size ≠ size || off + v.cells.size > cells.size) = false := by
        simp; omega
      simp only [hcond, Bool.false_eq_true, if_false]
      have hf := foldl_setAt (R := CV.Is g w) off v.cells.toList 0 cells cs xs hcx hc
      have he : (v.cells.zipIdx.foldl (fun (cs : Array Value) (p : Value × Nat) => cs.setIfInBounds (off + p.2) p.1) cells) = ((v.cells.toList.zipIdx 0).foldl (fun (cs : Array Value) (p : Value × Nat) => cs.setIfInBounds (off + p.2) p.1) cells) := by
        rw [← Array.foldl_toList, Array.toList_zipIdx]
      rw [← he] at hf
      exact fillP_sound hp hf h
    · exact h.elim
  | (i, .tup x) :: parts, _ :: _, cs, cells, K, _, _, h => by simp [fillP] at h

theorem zero_run (hT : TOk P T) {t : Nat} (hk : (T t).kind ≠ .other) (hz : (T t).zero ≠ []) : ∃ z : Value, (∀ w, (zeroValue t).run P w = .ok z w) ∧ z.cells.toList = (T t).zero := by
  obtain ⟨i, hi, _, _, hzero⟩ := hT.info hk
  cases h : i.zero with
  | none => rw [h] at hzero; exact absurd hzero.symm hz
  | some z =>
    rw [h] at hzero
    exact ⟨z, fun w => by simp [zeroValue, typeInfo, hi, h], by simpa using hzero⟩

theorem za_ne {zs : List Value} {cs : List CV} (h : zOk zs cs = true) (hc : cs ≠ []) : zs ≠ [] := by
  cases zs with
  | nil => cases cs with
    | nil => exact absurd rfl hc
    | cons c cs => simp [zOk] at h
  | cons z zs => simp
theorem mapM_sizes (hT : TOk P T) : ∀ (fs : List Field) (_ : ∀ f ∈ fs, (T f.type).kind ≠ .other) (w : World),
    (fs.mapM fun f => (do pure (f.offset, ← sizeOf f.type) : Sem (Nat × Nat))).run P w = .ok (fs.map fun f => (f.offset, (T f.type).size)) w
  | [], _, w => rfl
  | f :: fs, h, w => by
    have h1 := hT.size (h f (by simp)) w
    have h2 := mapM_sizes hT fs (fun f' hf => h f' (by simp [hf])) w
    simp only [List.mapM_cons, Sem.run_bind, h1, Result.andThen_ok, Sem.run_pure, h2, List.map_cons]

theorem buildP_sound (hT : TOk P T) {t : Nat} {parts : List (Nat × AV)} {vs : List (Nat × Value)} {K : AV → Prop}
    (hp : F2 (fun (a : Nat × AV) (b : Nat × Value) => a.1 = b.1 ∧ a.2.Is g w b.2) parts vs) (h : buildP T t parts K) : RunsTo P g w (Instr.build t vs.toArray) K := by
  unfold buildP at h
  split at h
  · rename_i l hk
    obtain ⟨hf, hz, h⟩ := h
    obtain ⟨fs, hu, hfs⟩ := hT.st hk
    obtain ⟨z, hzr, hzc⟩ := zero_run (P := P) hT (by rw [hk]; simp) (za_ne (hT.za (by rw [hk]; simp)) hz)
    have hc0 : F2 (CV.Is g w) (T t).za z.cells.toList := by rw [hzc]; exact zOk_is g w (hT.za (by rw [hk]; simp))
    obtain ⟨cells', cs', hfill, hK, hc⟩ := fillP_sound (typed_parts hp) hc0 h
    refine ⟨.agg cells', _, fun w' => ?_, hK, ⟨cells'.toList, by simp, hc⟩⟩
    have hm := mapM_sizes hT fs.toList (fun f hf' => by
      have := hf (f.offset, f.type) (by rw [← hfs]; exact List.mem_map_of_mem hf')
      exact this)
    have hplace : (fun (i : Nat) => ((fs.toList.map fun f => (f.offset, (T f.type).size)).toArray)[i]?) = (fun (i : Nat) => (l[i]?).map fun (f : Nat × Nat) => (f.1, (T f.2).size)) := by
      funext i
      rw [← hfs]
      simp [Function.comp_def]
    have hm' : ∀ w, (fs.mapM fun f => (do pure (f.offset, ← sizeOf f.type) : Sem (Nat × Nat))).run P w = .ok (fs.toList.map fun f => (f.offset, (T f.type).size)).toArray w := by
      intro w
      rw [Array.mapM_eq_mapM_toList]
      simp only [Sem.run_map, hm, Result.andThen_ok]
    simp only [Instr.build, Sem.run_bind, hzr, Result.andThen_ok, run_underlying hu, hm', hplace, hfill, Sem.run_pure]
  · rename_i n e hk
    obtain ⟨hne, hz, h⟩ := h
    have hu := hT.arr hk
    have hs := hT.size hne
    obtain ⟨z, hzr, hzc⟩ := zero_run (P := P) hT (by rw [hk]; simp) (za_ne (hT.za (by rw [hk]; simp)) hz)
    have hc0 : F2 (CV.Is g w) (T t).za z.cells.toList := by rw [hzc]; exact zOk_is g w (hT.za (by rw [hk]; simp))
    obtain ⟨cells', cs', hfill, hK, hc⟩ := fillP_sound hp hc0 h
    refine ⟨.agg cells', _, fun w' => ?_, hK, ⟨cells'.toList, by simp, hc⟩⟩
    simp only [Instr.build, Sem.run_bind, hzr, Result.andThen_ok, run_underlying hu, hs, hfill, Sem.run_pure]
  · exact h.elim

theorem builtinP_sound (hT : TOk P T) {b : Builtin} {ts : Array TypeId} {ty : TypeId} {cons : Array Bool} {xs : List AV} {vs : List Value} {K : AV → Prop} (hx : F2 (AV.Is g w) xs vs) (h : builtinP T b ts.toList xs K) :
    ∃ v av, (∀ w', (builtin b ts ty cons vs.toArray).run P w' = .ok (.value v) w') ∧ K av ∧ av.Is g w v := by
  unfold builtinP at h
  split at h
  · rename_i t ts' x xs' hts
    cases vs with
    | nil => exact hx.elim
    | cons u us =>
      obtain ⟨v, av, hr, hK, hi⟩ := lenP_sound (P := P) hT hx.1 h (ts := ts) (xs := (u :: us).toArray) (ty := ty) (by rw [← Array.getElem?_toList, hts]; rfl) (by simp)
      exact ⟨v, av, fun w' => by simp only [builtin, Sem.run_bind, hr, Result.andThen_ok, Sem.run_pure], hK, hi⟩
  · rename_i x y
    match vs, hx with
    | [u, u'], hx =>
      unfold minmaxP at h
      split at h
      · have h1 := hx.1
        have h2 := hx.2.1
        simp only [AV.Is, SV.Is, CV.Is, CV.At] at h1 h2
        subst h1; subst h2
        exact ⟨_, _, fun w' => by simp [builtin, Builtin.min_, Builtin.min2]; rfl, h, by simp only [Bool.false_eq_true, if_false]; rfl⟩
      · exact h.elim
  · rename_i x y
    match vs, hx with
    | [u, u'], hx =>
      unfold minmaxP at h
      split at h
      · have h1 := hx.1
        have h2 := hx.2.1
        simp only [AV.Is, SV.Is, CV.Is, CV.At] at h1 h2
        subst h1; subst h2
        exact ⟨_, _, fun w' => by simp [builtin, Builtin.max_, Builtin.max2]; rfl, h, by simp only [if_true]; rfl⟩
      · exact h.elim
  · exact h.elim
end
end Go.V
