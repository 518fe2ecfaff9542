/- (*stack).near: the range over slices.Backward, walked; as a contract of V. -/
import Derived.Test.YtdpjmfipgkblfaaGreatDoorTreeN
set_option linter.unusedSimpArgs false
set_option linter.unusedVariables false
namespace Go.Proofs.YtdpjmfipgkblfaaGreatDoor
open Go Go.V Go.RowKit Go.Shelf
attribute [local go_sem] Oper.semAt_some

set_option maxHeartbeats 1000000 in
theorem back_in (F : Fence) (n : Nat) (h5 : F.fn 103) (hro : F.round = none) (a : Option Addr) (len cap : Nat) (w : World) :
    CallsIn F n Tryz.prog 103 #[.slice a len cap] w fun e w' => e = .returned (.func (.func 119) #[] #[.pointer (some ⟨w.heap.size, 0, none⟩)]) ∧ w' = w.alloc (.cells #[.slice a len cap] 46) := by
  refine callsIn_of_wp Tryz.func103 rfl h5 ?_ hro
  simp only [Tryz.ntmps103, List.size_toArray, List.length_cons, List.length_nil, Nat.reduceAdd, Nat.reduceSub, Array.replicate_succ, Array.replicate_zero, List.push_toArray, List.append_toArray, List.nil_append, List.cons_append]
  gi_wp2
  go_ret
  exact ⟨rfl, rfl⟩
set_option maxRecDepth 100000 in
set_option maxHeartbeats 1000000 in
theorem back1_nil_in (F : Fence) (n : Nat) (h7 : F.fn 119) (hro : F.round = none) (l Bs cap : Nat) (a : Option Addr) (J : List (Int × List UInt8) → World → Prop) (W : World) (hBs : W.cell? ⟨Bs, 0, none⟩ = some (.slice a 0 cap)) (h0 : J [] W) :
    CallsIn F n Tryz.prog 119 #[.func (.yield l) #[] #[], .pointer (some ⟨Bs, 0, none⟩)] W fun e W' => (∃ v, e = .returned v) ∧ J [] W' := by
  refine callsIn_of_wp Tryz.func119 rfl h7 ?_ hro
  simp only [Tryz.ntmps119, List.size_toArray, List.length_cons, List.length_nil, Nat.reduceAdd, Nat.reduceSub, Array.replicate_succ, Array.replicate_zero, List.push_toArray, List.append_toArray, List.nil_append, List.cons_append]
  gi_wp2
  gi_loopw [3] (fun i wr => i = .int .i64 (-1) ∧ J [] wr) (fun _ _ => 0)
  case atStart => exact ⟨by first | rfl | trivial, h0⟩
  case round =>
    obtain ⟨rfl, hJs⟩ := hrel
    gi_wp2
    go_end0
    exact ⟨⟨_, rfl⟩, hJs⟩
/-- The slice value holds the names, in blocks below n0; or there are none. -/
def Names (n₀ : Nat) (W : World) (sv : Value) (zs : List (List UInt8)) : Prop :=
  (zs = [] ∧ ∃ a c, sv = .slice a 0 c) ∨ ∃ b off cap, sv = .slice (some ⟨b, off, none⟩) zs.length cap ∧ b < n₀ ∧ ∀ j, j < zs.length → W.cell? ⟨b, off + j, none⟩ = some (.string (bstr (zs[j]?.getD [])))
theorem Names.below {n₀ : Nat} {A B : World} (h : Below n₀ A B) {sv : Value} {zs : List (List UInt8)} : Names n₀ A sv zs → Names n₀ B sv zs
  | .inl e => .inl e
  | .inr ⟨b, off, cap, e, hb, hc⟩ => .inr ⟨b, off, cap, e, hb, fun j hj => (h.cell (p := ⟨b, off + j, none⟩) hb).trans (hc j hj)⟩
theorem back_stops (F : Fence) (n : Nat) (h7 : F.fn 119) (hro : F.round = none) (hn : 1 ≤ n) (Bs n₀ : Nat) (sv : Value) (zs : List (List UInt8)) (hz : zs.length < 1073741824) (w : World) (hBs : Bs < w.heap.size) (hB0 : Bs < n₀) (hn₀ : n₀ ≤ w.heap.size)
    (hc : w.cell? ⟨Bs, 0, none⟩ = some sv) (hI : Names n₀ w sv zs) :
    SeqStopsK F n Tryz.prog 119 #[.pointer (some ⟨Bs, 0, none⟩)] (fun x : Int × List UInt8 => #[Value.int .i64 x.1, Value.string (bstr x.2)]) (Below n₀) (fun ys => ys = upto (backAt zs) zs.length)
      (fun pre => ∃ k, k ≤ zs.length ∧ pre = upto (backAt zs) k) zs.length w := fun l J Jx W hW _ _ hY h0 => by
  have hc' := (hW.cell (p := ⟨Bs, 0, none⟩) hBs).trans hc
  rcases hI.below (hW.mono hn₀) with ⟨rfl, a, c, rfl⟩ | ⟨b, off, cap, rfl, hb, hcs⟩
  · exact (back1_nil_in F n h7 hro l Bs c a J W hc' h0).mono fun e W' ⟨he, hj⟩ => ⟨he, .inl ⟨_, rfl, hj⟩⟩
  · refine back1_in F n h7 hro hn l Bs b off cap zs hz J Jx (fun pre x W1 hJ hl => ?_) W ⟨hc', hcs⟩ h0
    obtain ⟨fn, tmps, assign, body, hy, hR⟩ := hY pre x W1 hJ hl
    refine ⟨fn, tmps, assign, body, hy, hR.mono ?_⟩
    rintro e W' (⟨h1, h2, h3⟩ | h1)
    · exact .inl ⟨h1, h2, fun hg => ⟨(h3.cell (p := ⟨Bs, 0, none⟩) hB0).trans hg.1, fun j hj => (h3.cell (p := ⟨b, off + j, none⟩) hb).trans (hg.2 j hj)⟩⟩
    · exact .inr h1
/-- What says whether a name is sought, as the machine calls it: what lay below is as it was. -/
def RawFn (g : Nat) (lb : Array Value) (is : List UInt8 → Bool) (n₀ : Nat) (w : World) : Prop :=
  ∀ x W, Below n₀ w W → Calls Tryz.prog g (#[.string (bstr x)] ++ lb) W fun e W' => e = .returned (.bool (is x)) ∧ Below W.heap.size W W'
theorem contains_calls (n₀ : Nat) (sv : Value) (ws : List (List UInt8)) (hl : ws.length < 1073741824) (W : World) (h : Names n₀ W sv ws) (x : List UInt8) :
    Calls Tryz.prog 87 #[sv, .string (bstr x)] W fun e W' => e = .returned (.bool (ws.contains x)) ∧ W' = W := by
  rcases h with ⟨rfl, a, c, rfl⟩ | ⟨b, off, cap, rfl, hb, hc⟩
  · exact Tryz.slices_Contains_string_empty a c (bstr x) W
  · have := Tryz.slices_Contains_string b off ws.length cap (ws.map bstr) (bstr x) W (by simp) (by omega) (fun j hj => by
      rw [hc j (by simpa using hj)]
      simp [List.getD, List.getElem?_eq_getElem (show j < ws.length by simpa using hj)])
    have he : Lib.containsS ((ws.map bstr).take ws.length) (bstr x) = ws.contains x := by
      rw [List.take_of_length_le (by simp), Bool.eq_iff_iff, Lib.containsS_iff, List.contains_iff_mem]
      constructor
      · intro h
        obtain ⟨y, hy, he⟩ := List.mem_map.1 h
        have : y = x := by
          have := congrArg (fun b : ByteArray => b.data.toList) he
          simpa [bstr] using this
        exact this ▸ hy
      · exact fun h => List.mem_map.2 ⟨x, h, rfl⟩
    rw [he] at this
    exact this
end Go.Proofs.YtdpjmfipgkblfaaGreatDoor
