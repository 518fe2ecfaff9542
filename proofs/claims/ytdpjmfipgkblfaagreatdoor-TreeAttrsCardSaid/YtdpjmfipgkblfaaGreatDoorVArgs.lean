/- V: arguments that are slices: what a row's reading says of them, as a list that is told whole. -/
import Derived.Test.YtdpjmfipgkblfaaGreatDoorVRow
import Derived.ChangeSlices
set_option linter.unusedSimpArgs false
namespace Go.V
open Go Go.RowKit Go.ChangeShapes Go.WideShapes
section
variable {H : Type} {enc : TypeId × Value → H} {P : Program} {W : World}

theorem addr_at {a : Addr} {u : Value} (h : W.cell? (a.add 0) = some u) : a.spot = none ∧ a.block < W.heap.size := by
  simp only [Addr.add, if_true, World.cell?] at h
  cases hb : W.heap[a.block]? with
  | none => rw [hb] at h; cases h
  | some o =>
    rw [hb] at h
    refine ⟨?_, (Array.getElem?_eq_some_iff.1 hb).1⟩
    cases o with
    | cells c t f =>
      simp only at h
      cases hs : a.spot with
      | none => rfl
      | some x => rw [hs] at h; simp at h
    | _ => simp at h
theorem addr_add {a : Addr} (hs : a.spot = none) (i : Nat) : a.add i = ⟨a.block, a.off + i, none⟩ := by
  unfold Addr.add
  split
  · rename_i h
    subst h
    cases a
    simp only at hs
    subst hs
    rfl
  · rfl
theorem bytes_arg {t e : TypeId} {b0 : Nat} {v : Value} {d : DataW H} {ps : List MemPlace} (ht : P.underlying t = some (.slice e)) (he : P.underlying e = some (.int .u8)) (hc : P.cellsOf e = 1)
    (hval : Value.okWide P W .any b0 t v) (hd : DataW.Trod enc P W 0 (fun _ => true) true t v d ps) : ∃ l : List UInt8, (AV.c (.lst 1 l.length (byteCell l))).Is (gh0 W) W v := by
  obtain ⟨A0, n0, c0, rfl⟩ := okWide_slice ht hval
  obtain ⟨fuel, h⟩ := hd
  have hcs : (Value.slice A0 n0 c0).cells.toList = [Value.slice A0 n0 c0] := rfl
  rcases open_ints ht he hc h with ⟨h0, _⟩ | ⟨a, len, cap, zs, h1, _, h2, h3, h4, _, h5, h6⟩
  · refine ⟨[], A0, c0, ?_, ?_, .inl rfl⟩
    · have := hcs.symm.trans h0
      simp only [List.cons.injEq, Value.slice.injEq, and_true] at this
      rw [this.1, this.2.1, this.2.2]; rfl
    · exact Nat.zero_le _
  · have h1 := hcs.symm.trans h1
    simp only [List.cons.injEq, Value.slice.injEq, and_true] at h1
    obtain ⟨rfl, rfl, rfl⟩ := h1
    have hzl : n0 ≤ zs.length := by rw [h4]; split <;> omega
    obtain ⟨l, hl⟩ : ∃ l, (zs.take n0).map (fun z => UInt8.ofNat z.toNat) = l := ⟨_, rfl⟩
    have hll : l.length = n0 := by rw [← hl, List.length_map, List.length_take]; omega
    refine ⟨l, some a, c0, by rw [hll], by rw [hll]; exact h2, ?_⟩
    rcases Nat.eq_zero_or_pos n0 with hz | hz
    · left; omega
    right
    obtain ⟨hs, hb⟩ := addr_at (h5 0 (by omega))
    refine ⟨a.block, a.off, ?_, gh0_imm hb, ?_⟩
    · have := addr_add hs 0
      simpa [Addr.add] using congrArg some this
    intro k hk f hf
    obtain rfl : f = 0 := by omega
    have hk' : k < n0 := by omega
    have hu := h5 k (by omega)
    rw [addr_add hs] at hu
    refine ⟨_, by rw [Nat.mul_one, Nat.add_zero]; exact hu, ?_⟩
    rw [byteCell_get l k hk]
    have hz : zs.getD k 0 ∈ zs := by rw [List.getD, List.getElem?_eq_getElem (by omega)]; exact List.getElem_mem _
    have hwf := h6 _ hz
    have hlk : l.getD k 0 = UInt8.ofNat (zs.getD k 0).toNat := by
      rw [← hl]
      simp [List.getD, List.getElem?_map, List.getElem?_take, hk', show k < zs.length by omega]
    rw [hlk]
    obtain ⟨z, hzz⟩ : ∃ z, zs.getD k 0 = z := ⟨_, rfl⟩
    rw [hzz] at hwf ⊢
    simp [Lit.wf, IntKind.min, IntKind.max, IntKind.bits, IntKind.signed] at hwf
    show Value.int .u8 _ = Value.int .u8 _
    congr 1
    rw [UInt8.toNat_ofNat']
    omega
end
end Go.V
