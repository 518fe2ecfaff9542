/- strings.IndexRune and strings.IndexAny where the text is not ASCII and the sought runes are: over any program and any numbering. -/
import Derived.Shelf.Strings.IndexAny
import Derived.Shelf.Small.Utf8
import Derived.Laws.RangeAny
import Derived.Laws.Runes
import Derived.WalkMore
import Derived.Shelf.RegionOpenPlain
import Derived.BigQuiet
import Derived.Below
import Derived.Lib.OthersKept
import Derived.Shelf.Strings.IndexAnyAll
import Derived.Lib.Bytealg
namespace Go.V
open Go Go.Proofs Go.Shelf Go.RowKit Go.Lib
variable {P : Program} {ρ : Ren}

set_option maxHeartbeats 4000000 in
set_option maxRecDepth 1000000 in
theorem odd_strings_IndexRune_err (L : Lays.n152 P ρ) (s : ByteArray) (w : World) (hascii : ∀ (j : Nat) b, s.data.toList[j]? = some b → b.toNat < 128) :
    Calls P (ρ.f 152) #[.string s, .int .i32 65533] w fun e w' => e = .returned (.int .i64 (-1)) ∧ ∃ pos, w' = w.iter s pos := by
  have HA : Aside (∀ (j : Nat) b, s.data.toList[j]? = some b → b.toNat < 128) := hascii
  clear hascii
  have t3 := L.t3; have a3 := L.a3; have z3 := L.z3; have v3 := L.v3
  have t4 := L.t4; have a4 := L.a4; have z4 := L.z4; have v4 := L.v4
  have t5 := L.t5; have a5 := L.a5; have z5 := L.z5; have v5 := L.v5
  have t9 := L.t9; have a9 := L.a9; have z9 := L.z9; have v9 := L.v9
  have t21 := L.t21; have a21 := L.a21; have z21 := L.z21; have v21 := L.v21
  go_enter L.f152, Body.n152_ntmps ρ
  go_wp2
  go_loopg [5, 6] s.size (fun g _ _ wx => ∃ i : Nat, i + g = s.size ∧ wx = w.iter s i)
  case atStart => exact ⟨0, by omega, rfl⟩
  case round =>
    obtain ⟨i, hig, rfl⟩ := hrel
    cases gk with
    | zero =>
      obtain rfl : i = s.size := by omega
      have hnx := run_next_end (P := P) w s s.size
      go_wp2
      go_ret
      exact ⟨rfl, _, rfl⟩
    | succ g =>
      have hi : i < s.size := by omega
      obtain ⟨x, hx⟩ : ∃ x : UInt8, s[i]'hi = x := ⟨_, rfl⟩
      have hxl : s.data.toList[i]? = some x := by rw [← hx]; exact Lib.data_getElem? s i hi
      have hx128 : x.toNat < 128 := HA.out i x hxl
      have hnx := fun ty => run_next_ascii (P := P) w s i ty hi (by rw [hx]; exact hx128)
      rw [hx] at hnx
      clear hxl hx
      have hne : ((x.toNat : Int) == 65533) = false := beq_eq_false_iff_ne.2 (by omega)
      go_wp2
      go_roundg g
      case measure => omega
      case rel => exact ⟨i + 1, by omega, rfl⟩

set_option maxHeartbeats 4000000 in
set_option maxRecDepth 1000000 in
theorem odd_strings_IndexRune_high (L : Lays.n152 P ρ) (s : ByteArray) (r : Int) (w : World) (h0 : 128 ≤ r) (hne : r ≠ 65533) (hascii : ∀ (j : Nat) b, s.data.toList[j]? = some b → b.toNat < 128) :
    Calls P (ρ.f 152) #[.string s, .int .i32 r] w fun e w' => e = .returned (.int .i64 (-1)) ∧ Below w.heap.size w w' := by
  have HA : Aside (∀ (j : Nat) b, s.data.toList[j]? = some b → b.toNat < 128) := hascii
  clear hascii
  have hq : (r == 65533) = false := beq_eq_false_iff_ne.2 hne
  have hlt : ¬ r < 128 := by omega
  have h00 : (0 : Int) ≤ r := by omega
  have hmix := L.mixed
  have t3 := L.t3; have a3 := L.a3; have z3 := L.z3; have v3 := L.v3
  have t4 := L.t4; have a4 := L.a4; have z4 := L.z4; have v4 := L.v4
  have t5 := L.t5; have a5 := L.a5; have z5 := L.z5; have v5 := L.v5
  have t9 := L.t9; have a9 := L.a9; have z9 := L.z9; have v9 := L.v9
  have t21 := L.t21; have a21 := L.a21; have z21 := L.z21; have v21 := L.v21
  have e119 : ∀ args w, (callFunc (ρ.f 119) args).run P w = .ok (.enter (ρ.f 119) args) w := enters_of L.f119 (by kernel_rfl) rfl
  have e137 : ∀ args w, (callFunc (ρ.f 137) args).run P w = .ok (.enter (ρ.f 137) args) w := enters_of L.f137 (by kernel_rfl) rfl
  go_enter L.f152, Body.n152_ntmps ρ
  cases hv : Lib.validRune r
  · go_wp2_with (go_at_fn (ρ.f 119); refine (Any.utf8_ValidRune { L with } _ _).mono ?_; rintro e w' ⟨rfl, hw⟩; rw [hw, hv])
    go_ret
    exact ⟨rfl, Below.refl _ _⟩
  · obtain ⟨h2e, h4e, hlast⟩ := encode_facts r (by rw [validRune_eq]; exact hv) h0
    have hcv := fun w => run_convert_int_string (P := P) w (ρ.t 21) (ρ.t 9) .i32 r (by rw [t21]; rfl) t9
    obtain ⟨e, he⟩ : ∃ e, Utf8.encode r = e := ⟨_, rfl⟩
    rw [he] at h2e h4e hlast
    rw [he] at hcv
    clear he
    obtain ⟨m, hm⟩ : ∃ m, e.size = m + 1 := ⟨e.size - 1, by omega⟩
    have hz4 : m < e.size := by omega
    obtain ⟨c, hc⟩ : ∃ c : UInt8, e[m]'hz4 = c := ⟨_, rfl⟩
    have hc128 : 128 ≤ c.toNat := by
      rw [← hc]
      have := hlast (by omega)
      simpa [hm] using this
    clear hlast
    have hback : ((c.toNat : Int)).toNat.toUInt8 = c := by simp
    have hix : ∀ a b, Lib.indexByte (s.extract a b).data.toList c = -1 := fun a b => by
      rw [← Lib.firstIdx_eq]
      exact firstIdx_ascii s a b c (fun x hx => by obtain ⟨i, hi⟩ := List.getElem?_of_mem hx; exact HA.out i x hi) hc128
    have hz1 : (e.size : Int) - 1 = (m : Int) := by omega
    have hz3 : (m : Int) < (e.size : Int) := by omega
    clear hm
    have hw1 : IntKind.i64.wrap ((m : Int) + 1) = (m : Int) + 1 := wrap_small _ (by omega) (by omega)
    rcases Nat.lt_or_ge (m) s.size with hs | hs
    · have hs1 : (m : Int) < (s.size : Int) := by omega
      have hif : (0 ≤ (m : Int) + 1 ∧ (m : Int) + 1 ≤ (s.size : Int)) = True := eq_true ⟨by omega, by omega⟩
      obtain ⟨x, hx⟩ : ∃ x : UInt8, s[m]'hs = x := ⟨_, rfl⟩
      have hxl : s.data.toList[m]? = some x := by rw [← hx]; exact Lib.data_getElem? s _ hs
      have hx128 : x.toNat < 128 := HA.out _ x hxl
      have hne2 : ((x.toNat : Int) == (c.toNat : Int)) = false := beq_eq_false_iff_ne.2 (by omega)
      clear hxl
      go_wp2_with (go_at_fn (ρ.f 119); refine (Any.utf8_ValidRune { L with } _ _).mono ?_; rintro e w' ⟨rfl, hw⟩; rw [hw, hv])
      apply wp_scope_straight
      go_wp2
      go_loopg [9] 1 (fun _ s9 wx => s9 = .int .i64 (m : Int) ∧ wx = w)
      case atStart => exact ⟨rfl, rfl⟩
      case round =>
        obtain ⟨rfl, rfl⟩ := hrel
        go_wp2
        apply wp_scope_straight
        go_wp2
        go_quiet_o (fail)
        go_wp2
        obtain ⟨w2, hw2⟩ : ∃ w2, wr.drewN nq = w2 := ⟨_, rfl⟩
        rw [hw2]
        go_quiet_o ((go_at_fn (ρ.f 137); refine Calls.quiet_of_same (v := .int .i64 (-1)) ((Any.strings_IndexByte { L with } _ _ _).mono ?_); rintro e w' ⟨rfl, hw⟩; rw [hw, hback, hix]; exact ⟨rfl, rfl⟩))
        go_wp2
        simp only [Exit.noGoto, Exit.inBlock, Exit.then]
        go_ret
        exact ⟨rfl, by rw [← hw2]; exact ⟨rfl, rfl, rfl, Nat.le_refl _, fun _ _ => rfl⟩⟩
    · have hs1 : ¬ (m : Int) < (s.size : Int) := by omega
      go_wp2_with (go_at_fn (ρ.f 119); refine (Any.utf8_ValidRune { L with } _ _).mono ?_; rintro e w' ⟨rfl, hw⟩; rw [hw, hv])
      apply wp_scope_straight
      go_wp2
      go_loopg [9] 1 (fun _ s9 wx => s9 = .int .i64 (m : Int) ∧ wx = w)
      case atStart => exact ⟨rfl, rfl⟩
      case round =>
        obtain ⟨rfl, rfl⟩ := hrel
        go_wp2
        simp only [Exit.noGoto_ret]
        go_ret
        exact ⟨rfl, Below.refl _ _⟩

theorem odd_decode_wide (s : ByteArray) (pos : Nat) (h : pos < s.size) (ha : 128 ≤ (s[pos]'h).toNat) :
    pos + (Utf8.decode s pos).2 ≤ s.size ∧ ∀ k, pos ≤ k → k < pos + (Utf8.decode s pos).2 → ∃ h : k < s.size, 128 ≤ (s[k]'h).toNat := by
  have hget : ∀ k (hk : pos + k < s.size), s.get! (pos + k) = s[pos + k]'hk := fun k hk => by
    simp [ByteArray.get!, getElem!_pos, hk]
    rfl
  have hb : ∀ k (hk : pos + k < s.size), 128 ≤ (s.get! (pos + k)).toNat → ∃ h : pos + k < s.size, 128 ≤ (s[pos + k]'h).toNat := fun k hk h => ⟨hk, by rw [hget k hk] at h; exact h⟩
  have h1 : ∃ n, (Utf8.decode s pos).2 = n ∧ 1 ≤ n ∧ ∀ k, k < n → k ≠ 0 → pos + k < s.size ∧ (s.get! (pos + k)).toNat / 64 = 2 := by
    have hn : ¬ (s[pos]'h).toNat < 128 := by omega
    simp only [Utf8.decode, get_at s pos h, hn, if_false]
    repeat' split
    all_goals refine ⟨_, rfl, by simp, ?_⟩
    all_goals intro k hk h0
    all_goals simp only [Bool.and_eq_true, decide_eq_true_eq, beq_iff_eq] at *
    all_goals first
      | omega
      | (rcases (show k = 1 ∨ k = 2 ∨ k = 3 by omega) with rfl | rfl | rfl <;> first | omega | grind)
  obtain ⟨n, hn, h1n, hc⟩ := h1
  rw [hn]
  refine ⟨?_, fun k hk hk2 => ?_⟩
  · rcases Nat.lt_or_ge 1 n with h2 | h2
    · have := (hc (n - 1) (by omega) (by omega)).1; omega
    · omega
  · rcases Nat.eq_or_lt_of_le hk with rfl | hlt
    · exact ⟨h, ha⟩
    · obtain ⟨j, rfl⟩ : ∃ j, k = pos + j := ⟨k - pos, by omega⟩
      have := hc j (by omega) (by omega)
      exact hb j this.1 (by omega)

set_option maxHeartbeats 8000000 in
set_option maxRecDepth 1000000 in
/-- s of at most 8 bytes, whatever they are; chars of two or more, ASCII. -/
theorem odd_strings_IndexAny_short8 (L : Lays.n153 P ρ) (s chars : ByteArray) (w : World) (h2 : 2 ≤ chars.size) (h8 : s.size ≤ 8) (hascii : ∀ (j : Nat) b, chars.data.toList[j]? = some b → b.toNat < 128) :
    Calls P (ρ.f 153) #[.string s, .string chars] w fun e w' => e = .returned (.int .i64 (Lib.indexAny s.data.toList chars.data.toList)) ∧ Below w.heap.size w w' := by
  have HA : Aside (∀ (j : Nat) b, chars.data.toList[j]? = some b → b.toNat < 128) := hascii
  clear hascii
  have hemp : chars.toList.isEmpty = false := by
    rw [Lib.toList_data]
    cases h : chars.data.toList with
    | nil => have := Lib.size_eq chars; rw [h, List.length_nil] at this; omega
    | cons _ _ => rfl
  have hn1 : ((chars.size : Int) == 1) = false := beq_eq_false_iff_ne.2 (by omega)
  have h8z : decide ((8 : Int) < (s.size : Int)) = false := decide_eq_false (by omega)
  have t3 := L.t3; have a3 := L.a3; have z3 := L.z3; have v3 := L.v3
  have t4 := L.t4; have a4 := L.a4; have z4 := L.z4; have v4 := L.v4
  have t5 := L.t5; have a5 := L.a5; have z5 := L.z5; have v5 := L.v5
  have t9 := L.t9; have a9 := L.a9; have z9 := L.z9; have v9 := L.v9
  have t21 := L.t21; have a21 := L.a21; have z21 := L.z21; have v21 := L.v21
  have e152 : ∀ args w, (callFunc (ρ.f 152) args).run P w = .ok (.enter (ρ.f 152) args) w := enters_of L.f152 (by kernel_rfl) rfl
  have e226 : ∀ args w, (callFunc (ρ.f 226) args).run P w = .ok (.enter (ρ.f 226) args) w := enters_of L.f226 (by kernel_rfl) rfl
  go_enter L.f153, Body.n153_ntmps ρ
  go_wp2_with (go_at_fn (ρ.f 226); refine (Any.strings_shouldUseASCIISet { L with } _ _).mono ?_; rintro e w' ⟨rfl, hw⟩; rw [hw, h8z])
  go_loopg [9, 10] s.size (fun g _ _ wx => ∃ i : Nat, i + g = s.size ∧ wx.heap[w.heap.size]? = some (.stringIter s i) ∧ Below w.heap.size w wx ∧ Lib.NoAny s.data.toList chars.data.toList i)
  case atStart => exact ⟨0, by omega, World.iter_heap w s 0, (Below.refl _ w).alloc (Nat.le_refl _) _, Lib.NoAny.zero _ _⟩
  case round =>
    obtain ⟨i, hig, hit, hbw, hno⟩ := hrel
    have HN : Aside (Lib.NoAny s.data.toList chars.data.toList i) := hno
    clear hno
    cases gk with
    | zero =>
      obtain rfl : i = s.size := by omega
      have hnx : ∀ ty, (Instr.next (.pointer (some ⟨w.heap.size, 0, none⟩)) true ty).run P wr = _ := fun ty => Lib.run_next_end_at wr w.heap.size s s.size ty hit (by omega)
      go_wp2
      go_ret
      exact ⟨by rw [Lib.indexAny_none (by rw [← Lib.size_eq]; exact HN.out)]; rfl, hbw⟩
    | succ g =>
      have hi : i < s.size := by omega
      obtain ⟨x, hx⟩ : ∃ x : UInt8, s[i]'hi = x := ⟨_, rfl⟩
      have hxl : s.data.toList[i]? = some x := by rw [← hx]; exact Lib.data_getElem? s i hi
      have Hx : Aside (s.data.toList[i]? = some x) := hxl
      clear hxl
      rcases Nat.lt_or_ge x.toNat 128 with hx128 | hx128
      · have hnx : ∀ ty, (Instr.next (.pointer (some ⟨w.heap.size, 0, none⟩)) true ty).run P wr = _ := fun ty => Lib.run_next_ascii_at wr w.heap.size s i ty hit hi (by rw [hx]; exact hx128)
        rw [hx] at hnx
        have hit2 := Lib.iterAt_heap wr w.heap.size s i (i + 1) hit
        have hbw2 := Lib.below_iterAt hbw (k := w.heap.size) (Nat.le_refl _) s (i + 1)
        obtain ⟨W, hWd⟩ : ∃ W, wr.iterAt w.heap.size s (i + 1) = W := ⟨_, rfl⟩
        rw [hWd] at hnx hit2 hbw2
        clear hx
        have hcon := Lib.contains_iff_indexByte chars.data.toList x
        have hback : ((x.toNat : Int)).toNat.toUInt8 = x := by simp
        cases hin : chars.data.toList.contains x
        · rw [hin] at hcon
          have hlt : ¬ ((0 : Int) ≤ Lib.indexByte chars.data.toList x) := of_decide_eq_false hcon.symm
          clear hcon
          go_wp2_with (go_at_fn (ρ.f 152); refine (Any.strings_IndexRune_ascii { L with } _ _ _ (by omega) (by omega)).mono ?_; rintro e w' ⟨rfl, hw⟩; rw [hw, hback])
          go_roundg g
          case measure => omega
          case rel => exact ⟨i + 1, by omega, hit2, hbw2, HN.out.succ Hx.out hin⟩
        · rw [hin] at hcon
          have hge : (0 : Int) ≤ Lib.indexByte chars.data.toList x := of_decide_eq_true hcon.symm
          clear hcon
          go_wp2_with (go_at_fn (ρ.f 152); refine (Any.strings_IndexRune_ascii { L with } _ _ _ (by omega) (by omega)).mono ?_; rintro e w' ⟨rfl, hw⟩; rw [hw, hback])
          go_ret
          exact ⟨by rw [Lib.indexAny_hit HN.out Hx.out hin]; rfl, hbw2⟩
      · have hnx : ∀ ty, (Instr.next (.pointer (some ⟨w.heap.size, 0, none⟩)) true ty).run P wr = _ := fun ty => Lib.run_next_any_at wr w.heap.size s i ty hit hi
        have hhi := decode_high s i hi (by rw [hx]; exact hx128)
        have hwd := odd_decode_wide s i hi (by rw [hx]; exact hx128)
        obtain ⟨R, hR⟩ : ∃ R, (Utf8.decode s i).1 = R := ⟨_, rfl⟩
        obtain ⟨K, hK⟩ : ∃ K, (Utf8.decode s i).2 = K := ⟨_, rfl⟩
        rw [hR, hK] at hnx hhi
        rw [hK] at hwd
        have hit2 := Lib.iterAt_heap wr w.heap.size s i (i + K) hit
        have hbw2 := Lib.below_iterAt hbw (k := w.heap.size) (Nat.le_refl _) s (i + K)
        obtain ⟨W, hWd⟩ : ∃ W, wr.iterAt w.heap.size s (i + K) = W := ⟨_, rfl⟩
        rw [hWd] at hnx hit2 hbw2
        clear hx
        have hltW : w.heap.size < W.heap.size := (Array.getElem?_eq_some_iff.1 hit2).1
        have hnos : ∀ j, j ≤ K → Lib.NoAny s.data.toList chars.data.toList (i + j) := fun j hj => by
          induction j with
          | zero => exact HN.out
          | succ j ih =>
            obtain ⟨hk, h128⟩ := hwd.2 (i + j) (by omega) (by omega)
            refine (ih (by omega)).succ (Lib.data_getElem? s (i + j) hk) ?_
            cases hc : chars.data.toList.contains (s[i + j]'hk) with
            | false => rfl
            | true =>
              obtain ⟨q, hq⟩ := List.getElem?_of_mem (List.contains_iff_mem.1 hc)
              exact absurd (HA.out q _ hq) (by omega)
        have Hno : Aside (Lib.NoAny s.data.toList chars.data.toList (i + K)) := hnos K (Nat.le_refl _)
        clear hnos
        have hr : Calls P (ρ.f 152) #[.string chars, .int .i32 (R : Int)] W fun e w' => e = .returned (.int .i64 (-1)) ∧ Below W.heap.size W w' := by
          by_cases h65 : (R : Int) = 65533
          · rw [h65]
            refine (odd_strings_IndexRune_err { L with } chars W HA.out).mono ?_
            rintro e w' ⟨he, pos, rfl⟩
            exact ⟨he, (Below.refl _ W).alloc (Nat.le_refl _) _⟩
          · exact odd_strings_IndexRune_high { L with } chars R W (by omega) h65 HA.out
        go_wp2_with (go_at_fn (ρ.f 152); refine hr.mono ?_; rintro e w' ⟨rfl, hbc⟩)
        go_roundg (s.size - (i + K))
        case measure => omega
        case rel => exact ⟨i + K, by omega, (hbc.block _ hltW).trans hit2, hbw2.trans (hbc.mono hbw2.size), Hno.out⟩

/-- Whatever bytes s has; chars of two or more, ASCII. -/
theorem odd_strings_IndexAny_bytes (L : Lays.n153 P ρ) (h116 : (P.info? (ρ.t 116)).map (fun i => (i.zero, i.size)) = some (some (.agg (Array.replicate 256 (.bool false))), 256)) (s chars : ByteArray) (w : World) (hs : s.size < 4294967281) (h2 : 2 ≤ chars.size) (hcs : chars.size < 4294967281)
    (hac : ∀ (j : Nat) b, chars.data.toList[j]? = some b → b.toNat < 128) :
    Calls P (ρ.f 153) #[.string s, .string chars] w fun e w' => e = .returned (.int .i64 (Lib.indexAny s.data.toList chars.data.toList)) ∧ Below w.heap.size w w' := by
  by_cases h8 : s.size ≤ 8
  · exact odd_strings_IndexAny_short8 L s chars w h2 h8 hac
  · refine (Any.strings_IndexAny_long L (zero_of_info h116).1 (zero_of_info h116).2 s chars w h2 (by omega) hs hcs hac).mono fun e w' ⟨h1, h2⟩ => ⟨h1, ?_⟩
    rw [h2]
    exact ((Below.refl _ _).alloc (Nat.le_refl _) _).alloc (by simp) _
set_option maxHeartbeats 1000000 in
theorem odd_strings_ContainsAny_bytes (L : Lays.n150 P ρ) (h116 : (P.info? (ρ.t 116)).map (fun i => (i.zero, i.size)) = some (some (.agg (Array.replicate 256 (.bool false))), 256)) (s chars : ByteArray) (w : World) (hs : s.size < 4294967281) (h2 : 2 ≤ chars.size) (hcs : chars.size < 4294967281)
    (hac : ∀ (j : Nat) b, chars.data.toList[j]? = some b → b.toNat < 128) :
    Calls P (ρ.f 150) #[.string s, .string chars] w fun e w' => e = .returned (.bool (Lib.containsAny s.data.toList chars.data.toList)) ∧ Below w.heap.size w w' := by
  have c := odd_strings_IndexAny_bytes { L with } h116 s chars w hs h2 hcs hac
  have t3 := L.t3; have a3 := L.a3; have z3 := L.z3; have v3 := L.v3
  have t4 := L.t4; have a4 := L.a4; have z4 := L.z4; have v4 := L.v4
  have t9 := L.t9; have a9 := L.a9; have z9 := L.z9; have v9 := L.v9
  have e153 : ∀ args w, (callFunc (ρ.f 153) args).run P w = .ok (.enter (ρ.f 153) args) w := enters_of L.f153 (by kernel_rfl) rfl
  go_enter L.f150, Body.n150_ntmps ρ
  go_wp2_with (go_at_fn (ρ.f 153); refine c.mono ?_; rintro e w' ⟨rfl, hw⟩)
  go_ret
  exact ⟨rfl, hw⟩
end Go.V
