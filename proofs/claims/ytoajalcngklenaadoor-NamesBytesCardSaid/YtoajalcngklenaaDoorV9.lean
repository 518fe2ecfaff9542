/- V, part 9: conversions; every operation. -/
import Derived.Test.YtoajalcngklenaaDoorV8
import Derived.Laws.BytesString
import Derived.Lib.ConvBytes
set_option linter.unusedSimpArgs false
set_option linter.unusedVariables false
namespace Go.V
open Go Go.RowKit

def runesOf (m : Nat) (cell : Nat → Nat → CV) : List Int := (List.range m).map fun i => match cell i 0 with
  | .int _ n => n
  | _ => 0
/-- Cells that are runes. -/
def RuC (m : Nat) (cell : Nat → Nat → CV) : Prop := ∀ i, i < m → ∃ n : Int, cell i 0 = .int .i32 n
def toRunesStrP (T : Nat → TI) (src : TypeId) (x : AV) (H : List Ent) (K : AV → Prop) : Prop :=
  match (T src).kind, x with
  | .sl _, .s (.c (.str _)) => False
  | .sl e, x => (T e).kind = .int .i32 ∧ srcP 1 x H (bx2 fun m cell => RuC m cell ∧ K (.d (.str ((runesOf m cell).flatMap fun n => (Utf8.encode n).data.toList))))
  | _, _ => False
def convP (T : Nat → TI) (src dst : TypeId) (x : AV) (H : List Ent) (K : AV → List Ent → Prop) : Prop :=
  match (T src).kind, (T dst).kind, x with
  | .int _, .int k, .s (.c (.int _ n)) => K (.d (.int k (k.wrap n))) H
  | .int _, .str, .s (.c (.int _ n)) => K (.d (.str (Utf8.encode n).data.toList)) H
  | .str, .str, .s (.c (.str l)) => K (.d (.str l)) H
  | .str, .sl _, x => toBytesP T dst x H K
  | .sl e, .str, x => if (T e).kind.isAgg then False else match (T e).kind with
    | .int .u8 => toStrP T src x H (bx fun v => K v H)
    | .int .i32 => toRunesStrP T src x H (bx fun v => K v H)
    | _ => False
  | _, _, _ => False

/-- A run that turns nothing. -/
def RunsAt (P : Program) (g : Gh) (w : World) (m : Sem Value) (K : AV → Prop) : Prop := ∃ v av, m.run P w = .ok v w ∧ K av ∧ av.Is g w v

section
variable {P : Program} {T : Nat → TI} {E : Env} {g : Gh} {w : World} {H : List Ent}

theorem foldl_push (l : List UInt8) : ∀ s : ByteArray, (l.map fun b => ((b.toNat : Int))).foldl (fun r n => r.push (UInt8.ofNat n.toNat)) s = s ++ bstr l := by
  induction l with
  | nil => intro s; apply ByteArray.ext; simp [bstr]
  | cons b l ih =>
    intro s
    simp only [List.map_cons, List.foldl_cons, ih]
    apply ByteArray.ext
    simp [bstr]

theorem toBytesP_sound (hT : TOk P T) (r : RelH E g H w) {src dst : TypeId} (hs : (T src).kind = .str) {x : AV} {K : AV → List Ent → Prop} {v : Value} (hx : x.Is g w v) (h : toBytesP T dst x H K) :
    ∃ g' H' w' u av, (convert src dst v).run P w = .ok u w' ∧ K av H' ∧ RelH E g' H' w' ∧ Step H.length g w g' w' ∧ av.Is g' w' u := by
  unfold toBytesP at h
  split at h
  · rename_i e l hk
    obtain rfl := (show v = .string (bstr l) from hx)
    obtain ⟨he, hsz, hK⟩ := h
    have hrun := Lib.run_convert_string_bytes (P := P) w src dst e (bstr l) (hT.str hs) (hT.sl hk) (hT.int he)
    have hge : l.length ≤ grownCap w (bstr l).size 0 e := by have := grownCap_ge w (bstr l).size 0 e; rw [bstr_size] at this ⊢; exact this
    have hbs : (Lib.bytesCells w e (bstr l)).size = grownCap w (bstr l).size 0 e := by
      have h1 : (bstr l).data.size = l.length := by simp [bstr]
      rw [Lib.bytesCells, Array.size_append, Array.size_map, Array.size_replicate, h1]
      rw [bstr_size] at hge ⊢
      omega
    obtain ⟨g', hR, hS, hI⟩ := new_row r e 1 l.length (grownCap w (bstr l).size 0 e) (byteCell l) (Lib.bytesCells w e (bstr l)) _ (Lib.bytesWorld w e (bstr l)) rfl rfl rfl
      (Lib.bytesWorld_size _ _ _) (fun b hb => Lib.bytesWorld_at_old w e _ b hb) (Lib.bytesWorld_at_new w e _) (.inr (by rw [hbs]; omega)) hge (by rw [hbs]; omega) (fun k hk f hf => by
        obtain rfl : f = 0 := by omega
        refine ⟨.int .u8 ((l.getD k 0).toNat : Int), ?_, by rw [byteCell_get l k hk]; rfl⟩
        simp [Lib.bytesCells, bstr, Array.getElem?_append, hk, List.getD])
    exact ⟨g', _, _, _, _, hrun, hK _ hge, hR, hS, by rw [bstr_size] at hI ⊢; exact hI⟩
  · exact h.elim

theorem srcIs_nil {m : Nat} {cell : Nat → Nat → CV} {l c : Nat} {us : List Value} {wd : Nat} (h : SrcIs P g w wd m cell (.slice none l c) us) : l = m ∧ us = [] := by
  have h1 := h.lenOf
  have h2 := h.run w (fun _ => rfl)
  simp [Builtin.lenOf] at h1
  simp [Builtin.firstCells] at h2
  exact ⟨h1, h2⟩

theorem srcP_slice {wd : Nat} {x : AV} {v : Value} {K : Nat → (Nat → Nat → CV) → Prop} (hx : x.Is g w v) (hns : ∀ l, x ≠ .d (.str l)) (h : srcP wd x H K) : ∃ A n c, v = .slice A n c := by
  unfold srcP at h
  split at h
  · obtain ⟨A, hA⟩ := hx
    exact ⟨_, _, _, hA⟩
  · rcases hx with ⟨_, _, A, hA⟩ | ⟨p, _, _, hv⟩
    · exact ⟨_, _, _, hA⟩
    · exact ⟨_, _, _, hv⟩
  · rename_i wd' n cell
    have hx2 : (CV.lst wd' n cell).Is g w v := hx
    simp only [CV.At] at hx2
    obtain ⟨A, c, hv, _⟩ := hx2
    exact ⟨_, _, _, hv⟩
  · exact absurd rfl (hns _)
  · exact h.elim

theorem srcIs_ints {m : Nat} {cell : Nat → Nat → CV} {vy : Value} {us : List Value} {k : IntKind} {l : List Int} (h : SrcIs P g w 1 m cell vy us) (hl : l.length = m) (hc : ∀ i, i < m → cell i 0 = .int k (l.getD i 0)) : us = l.map (Value.int k) := by
  apply List.ext_getElem?
  intro i
  rcases Nat.lt_or_ge i m with hi | hi
  · obtain ⟨u, hu, hiu⟩ := h.is i hi 0 (by omega)
    rw [Nat.mul_one, Nat.add_zero] at hu
    rw [hc i hi] at hiu
    rw [hu, show u = _ from hiu]
    simp [List.getD, show i < l.length by omega]
  · rw [List.getElem?_eq_none (by rw [h.len]; omega), List.getElem?_eq_none (by simp; omega)]

theorem bytesOf_spec {m : Nat} {cell : Nat → Nat → CV} (h : ∀ i, i < m → ∃ b : UInt8, cell i 0 = .int .u8 (b.toNat : Int)) :
    (bytesOf m cell).length = m ∧ ∀ i, i < m → cell i 0 = .int .u8 (((bytesOf m cell).getD i 0).toNat : Int) := by
  refine ⟨by simp [bytesOf], fun i hi => ?_⟩
  obtain ⟨b, hb⟩ := h i hi
  simp [bytesOf, hi, hb]
theorem runesOf_spec {m : Nat} {cell : Nat → Nat → CV} (h : ∀ i, i < m → ∃ n : Int, cell i 0 = .int .i32 n) :
    (runesOf m cell).length = m ∧ ∀ i, i < m → cell i 0 = .int .i32 ((runesOf m cell).getD i 0) := by
  refine ⟨by simp [runesOf], fun i hi => ?_⟩
  obtain ⟨b, hb⟩ := h i hi
  simp [runesOf, hi, hb]
theorem toStrP_sound (hT : TOk P T) (r : RelH E g H w) {src dst : TypeId} (hd : (T dst).kind = .str) {x : AV} {K : AV → Prop} {v : Value} (hx : x.Is g w v) (h : toStrP T src x H K) :
    RunsAt P g w (convert src dst v) K := by
  unfold toStrP at h
  split at h
  · exact h.elim
  · rename_i e hk hns
    obtain ⟨he, h⟩ := h
    obtain ⟨A, n, c, rfl⟩ := srcP_slice hx (fun l hl => hns l hl) h
    obtain ⟨m, cell, us, ⟨hb, hK⟩, hsrc⟩ := srcP_sound (P := P) r hx h
    obtain ⟨hl, hc⟩ := bytesOf_spec hb
    generalize bytesOf m cell = l at hl hc hK
    have hus : us = (l.map fun b => ((b.toNat : Int))).map (Value.int .u8) := srcIs_ints hsrc (by simpa using hl) (fun i hi => by
      rw [hc i hi]; simp [List.getD, show i < l.length by omega])
    refine ⟨.string (bstr l), _, ?_, hK, rfl⟩
    rw [run_convert_bytes_string w src dst e A n c (hT.sl hk) (hT.int he) (hT.str hd)]
    cases A with
    | none =>
      obtain ⟨_, h0⟩ := srcIs_nil hsrc
      rw [h0] at hus
      have : l = [] := by simpa using hus.symm
      subst this
      simp [Conv.bytesToString, bstr]
      rfl
    | some a =>
      have hlen := hsrc.lenOf
      simp [Builtin.lenOf] at hlen
      have hrun := hsrc.run w (fun _ => rfl)
      simp only [Builtin.firstCells, Nat.mul_one] at hrun
      rw [hus] at hrun
      subst hlen
      rw [run_bytesToString w a n c _ hrun, foldl_push]
      congr 2
  · exact h.elim

theorem run_forIn_runes {P : Program} {w : World} (f : Value → ByteArray → Sem (ForInStep ByteArray))
    (hf : ∀ (n : Int) (r : ByteArray), (f (.int .i32 n) r).run P w = .ok (.yield (r ++ Utf8.encode n)) w) :
    ∀ (ns : List Int) (s : ByteArray), (forIn (ns.map (Value.int .i32)) s f).run P w = .ok (ns.foldl (fun r n => r ++ Utf8.encode n) s) w := by
  intro ns
  induction ns with
  | nil => intro s; simp [Sem.run_pure]
  | cons n ns ih =>
    intro s
    simp only [List.map_cons, List.forIn_cons, Sem.run_bind, hf, Result.andThen, List.foldl_cons]
    exact ih _
theorem foldl_runes (l : List Int) : ∀ s : ByteArray, l.foldl (fun r n => r ++ Utf8.encode n) s = s ++ bstr (l.flatMap fun n => (Utf8.encode n).data.toList) := by
  induction l with
  | nil => intro s; apply ByteArray.ext; simp [bstr]
  | cons b l ih =>
    intro s
    simp only [List.foldl_cons, ih]
    apply ByteArray.ext
    apply Array.ext'
    simp [bstr]

theorem toRunesStrP_sound (hT : TOk P T) (r : RelH E g H w) {src dst : TypeId} (hd : (T dst).kind = .str) {x : AV} {K : AV → Prop} {v : Value} (hx : x.Is g w v) (h : toRunesStrP T src x H K) :
    RunsAt P g w (convert src dst v) K := by
  unfold toRunesStrP at h
  split at h
  · exact h.elim
  · rename_i e hk hns
    obtain ⟨he, h⟩ := h
    obtain ⟨A, n, c, rfl⟩ := srcP_slice hx (fun l hl => hns l hl) h
    obtain ⟨m, cell, us, ⟨hb, hK⟩, hsrc⟩ := srcP_sound (P := P) r hx h
    obtain ⟨hl, hc⟩ := runesOf_spec hb
    generalize runesOf m cell = l at hl hc hK
    have hus : us = l.map (Value.int .i32) := srcIs_ints hsrc hl hc
    refine ⟨_, _, ?_, hK, rfl⟩
    have hcv : (convert src dst (.slice A n c)).run P w = (Conv.runesToString (.slice A n c)).run P w := by
      simp [convert, run_underlying (hT.sl hk), run_underlying (hT.str hd), run_underlying (hT.int he)]
    rw [hcv]
    cases A with
    | none =>
      obtain ⟨_, h0⟩ := srcIs_nil hsrc
      rw [h0] at hus
      have : l = [] := by simpa using hus.symm
      subst this
      simp [Conv.runesToString, bstr]
      rfl
    | some a =>
      have hlen := hsrc.lenOf
      simp [Builtin.lenOf] at hlen
      have hrun := hsrc.run w (fun _ => rfl)
      simp only [Builtin.firstCells, Nat.mul_one] at hrun
      rw [hus] at hrun
      subst hlen
      unfold Conv.runesToString
      simp only [Sem.run_bind, hrun, Result.andThen, List.forIn_toArray]
      rw [run_forIn_runes _ (by intro n r; simp [Sem.run_pure])]
      simp only [Sem.run_pure, foldl_runes]
      congr 2
      all_goals (apply ByteArray.ext; simp [bstr])
  · exact h.elim

theorem convP_sound (hT : TOk P T) (r : RelH E g H w) {src dst : TypeId} {x : AV} {K : AV → List Ent → Prop} {v : Value} (hx : x.Is g w v) (h : convP T src dst x H K) :
    ∃ g' H' w' u av, (convert src dst v).run P w = .ok u w' ∧ K av H' ∧ RelH E g' H' w' ∧ Step H.length g w g' w' ∧ av.Is g' w' u := by
  have same : RunsAt P g w (convert src dst v) (fun av => K av H) → ∃ g' H' w' u av, (convert src dst v).run P w = .ok u w' ∧ K av H' ∧ RelH E g' H' w' ∧ Step H.length g w g' w' ∧ av.Is g' w' u :=
    fun ⟨u, av, hr, hK, hi⟩ => ⟨g, H, w, u, av, hr, hK, r, Step.refl _ _ _, hi⟩
  unfold convP at h
  split at h
  · rename_i k0 k k1 n hs hd
    obtain rfl := (show v = .int k1 n from hx)
    exact same ⟨.int k (k.wrap n), _, by simp [convert, run_underlying (hT.int hs), run_underlying (hT.int hd), Conv.intToInt], h, rfl⟩
  · rename_i k0 k1 n hs hd
    obtain rfl := (show v = .int k1 n from hx)
    exact same ⟨.string (Utf8.encode n), _, by simp [convert, run_underlying (hT.int hs), run_underlying (hT.str hd), Conv.intToString], h, congrArg Value.string (bstr_data _).symm⟩
  · rename_i l hs hd
    obtain rfl := (show v = .string (bstr l) from hx)
    exact same ⟨.string (bstr l), _, by simp [convert, run_underlying (hT.str hs), run_underlying (hT.str hd)], h, rfl⟩
  · exact toBytesP_sound hT r (by assumption) hx h
  · rename_i hs hd
    split at h
    · exact h.elim
    · split at h
      · exact same (toStrP_sound hT r hd hx h)
      · exact same (toRunesStrP_sound hT r hd hx h)
      · exact h.elim
  · exact h.elim
end
end Go.V
