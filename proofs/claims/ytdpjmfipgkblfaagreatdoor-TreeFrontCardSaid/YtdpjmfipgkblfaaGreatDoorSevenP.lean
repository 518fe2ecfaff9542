/- Plain laws of layer 7: what the statements' own tokens make. No program is in sight. -/
import Derived.Test.YtdpjmfipgkblfaaGreatDoorTreeX
import Derived.Test.YtdpjmfipgkblfaaGreatDoorTokM
set_option linter.unusedSimpArgs false
namespace Go.Proofs.YtdpjmfipgkblfaaGreatDoor
open Go Go.V

theorem nearF_no {is stop : List UInt8 → Bool} {l : List (List UInt8)} : ∀ (k : Nat), (∀ i, i < k → is (l.getD i []) = false) → nearF is stop l k = -1
  | 0, _ => rfl
  | k + 1, h => by
    rw [nearF, if_neg (by rw [h k (by omega)]; simp)]
    split
    · rfl
    · exact nearF_no k fun i hi => h i (by omega)
theorem nearR_none {is stop l : List (List UInt8)} (h : ∀ x ∈ l, is.contains x = false) : nearR is stop l = -1 :=
  nearF_no _ fun i hi => h _ (by rw [List.getD, List.getElem?_eq_getElem hi]; exact List.getElem_mem _)
theorem end_neg (b : Bd) : b.end_ (-1) = b := rfl

/-! ### elements that end nothing -/
def deepNames : List (List UInt8) := [[100, 105, 118], [115, 112, 97, 110], [115, 101, 99, 116, 105, 111, 110], [98], [120, 45, 97]]
def startT (s : List UInt8) : Tok := ⟨1, s, [], false, [], 0⟩
def textT (d : List UInt8) : Tok := ⟨3, [], [], false, d, 0⟩
def endT (s : List UInt8) : Tok := ⟨2, s, [], false, [], 0⟩
theorem deep_firstEnd (s : List UInt8) (hs : s ∈ deepNames) (b : Bd) : firstEnd s b = b := by
  simp only [deepNames, List.mem_cons, List.not_mem_nil, or_false] at hs
  rcases hs with rfl | rfl | rfl | rfl | rfl <;> kernel_rfl
theorem deep_facts (s : List UInt8) (hs : s ∈ deepNames) : validN s = true ∧ voids.contains s = false ∧ [w "p"].contains s = false := by
  simp only [deepNames, List.mem_cons, List.not_mem_nil, or_false] at hs
  rcases hs with rfl | rfl | rfl | rfl | rfl <;> decide +kernel
theorem deep_step (s : List UInt8) (hs : s ∈ deepNames) (its : List Itm) (k : Nat) :
    tokB (startT s) ⟨its, [], List.replicate k s, 0⟩ = ⟨its ++ [⟨k, 1, s, [], []⟩], [], List.replicate (if k < 100 then k + 1 else k) s, 0⟩ := by
  obtain ⟨h1, h2, h3⟩ := deep_facts s hs
  have hf : firstR s ⟨its, [], List.replicate k s, 0⟩ = ⟨its, [], List.replicate k s, 0⟩ := by
    unfold firstR
    rw [deep_firstEnd s hs]
    have hn : nearR [w "p"] boundsL (List.replicate k s) = -1 := nearR_none fun x hx => by rw [List.eq_of_mem_replicate hx]; exact h3
    simp only [hn, end_neg]
    split <;> rfl
  show startR (startT s) _ = _
  unfold startR
  simp only [startT, h1, if_true, hf, attrsF, Bd.item, h2, List.length_replicate]
  by_cases hk : k < 100
  · simp [hk, List.replicate_succ', List.length_replicate]
  · simp [hk, List.length_replicate]
def deepToks (s : List UInt8) (m : Nat) : List Tok := List.replicate m (startT s) ++ [textT [120]]
def deepItems (s : List UInt8) (m : Nat) : List Itm := (List.range m).map fun i => ⟨(min i 100 : Nat), 1, s, [], []⟩
theorem deep_fold (s : List UInt8) (hs : s ∈ deepNames) : ∀ m, (List.replicate m (startT s)).foldl (fun b t => tokB t b) bd0 = ⟨deepItems s m, [], List.replicate (min m 100) s, 0⟩
  | 0 => rfl
  | m + 1 => by
    rw [List.replicate_succ', List.foldl_append, deep_fold s hs m]
    simp only [List.foldl_cons, List.foldl_nil]
    rw [deep_step s hs]
    have h1 : deepItems s (m + 1) = deepItems s m ++ [⟨(min m 100 : Nat), 1, s, [], []⟩] := by simp [deepItems, List.range_succ]
    rw [h1]
    congr 2
    split <;> omega
theorem deep_build (s : List UInt8) (hs : s ∈ deepNames) (m : Nat) :
    (buildB (deepToks s m)).items = deepItems s m ++ [⟨(min m 100 : Nat), 2, [], [120], []⟩] ∧ (buildB (deepToks s m)).faults = [] := by
  simp only [buildB, deepToks, List.foldl_append, deep_fold s hs, List.foldl_cons, List.foldl_nil]
  have : tokB (textT [120]) ⟨deepItems s m, [], List.replicate (min m 100) s, 0⟩ = ⟨deepItems s m ++ [⟨(List.replicate (min m 100) s).length, 2, [], [120], []⟩], [], List.replicate (min m 100) s, 0⟩ := rfl
  rw [this, List.length_replicate]
  exact ⟨rfl, rfl⟩
theorem deepItems_len (s : List UInt8) (m : Nat) : (deepItems s m).length = m := by simp [deepItems]
theorem deep_get (s : List UInt8) (m i : Nat) (h : i < m + 1) : ((deepItems s m ++ [(⟨(min m 100 : Nat), 2, [], [120], []⟩ : Itm)]).getD i default).deep = (min i 100 : Nat) := by
  rcases Nat.lt_or_ge i m with hi | hi
  · simp [deepItems, List.getD, List.getElem?_append, hi]
  · obtain rfl : i = m := by omega
    simp [deepItems, List.getD, List.getElem?_append]

/-! ### elements one behind the other -/
def endNames : List (List UInt8) := [[100, 105, 118], [115, 112, 97, 110], [115, 101, 99, 116, 105, 111, 110], [98], [120, 45, 97], [108, 105], [112], [97], [104, 49]]
def endN (k : UInt8) : List UInt8 := endNames.getD (k.toNat % 9) []
theorem endN_mem (k : UInt8) : endN k ∈ endNames := by
  have hl : endNames.length = 9 := rfl
  unfold endN
  rw [List.getD, List.getElem?_eq_getElem (by omega)]
  exact List.getElem_mem _
def endToks (d : List UInt8) (l : List UInt8) : List Tok := l.flatMap fun k => [startT (endN k), textT d, endT (endN k)]
def endItems (d : List UInt8) (l : List UInt8) : List Itm := l.flatMap fun k => [⟨0, 1, endN k, [], []⟩, ⟨1, 2, [], d, []⟩]
theorem end_step (s : List UInt8) (hs : s ∈ endNames) (d : List UInt8) (hd : d ≠ []) (its : List Itm) :
    tokB (endT s) (tokB (textT d) (tokB (startT s) ⟨its, [], [], 0⟩)) = ⟨its ++ [⟨0, 1, s, [], []⟩] ++ [⟨1, 2, [], d, []⟩], [], [], 0⟩ := by
  have h2 : ∀ b : Bd, tokB (textT d) b = { b with at_ := 0, items := b.items ++ [⟨b.opn.length, 2, [], d, []⟩] } := fun b => by simp [tokB, textT, hd, Bd.item]
  refine (congrArg (tokB (endT s)) (h2 (tokB (startT s) ⟨its, [], [], 0⟩))).trans ?_
  simp only [endNames, List.mem_cons, List.not_mem_nil, or_false] at hs
  rcases hs with rfl | rfl | rfl | rfl | rfl | rfl | rfl | rfl | rfl <;> kernel_rfl
theorem end_fold (d : List UInt8) (hd : d ≠ []) : ∀ (l : List UInt8) (its : List Itm), (endToks d l).foldl (fun b t => tokB t b) ⟨its, [], [], 0⟩ = ⟨its ++ endItems d l, [], [], 0⟩
  | [], its => by simp [endToks, endItems]
  | k :: l, its => by
    have h := end_fold d hd l (its ++ [⟨0, 1, endN k, [], []⟩] ++ [⟨1, 2, [], d, []⟩])
    simp only [endToks, List.flatMap_cons, List.foldl_append, List.foldl_cons, List.foldl_nil] at h ⊢
    rw [end_step _ (endN_mem k) d hd, h]
    simp [endItems]
theorem end_build (d : List UInt8) (hd : d ≠ []) (l : List UInt8) : (buildB (endToks d l)).items = endItems d l ∧ (buildB (endToks d l)).faults = [] := by
  have h := end_fold d hd l []
  rw [List.nil_append] at h
  simp only [buildB]
  show ((endToks d l).foldl (fun b t => tokB t b) ⟨[], [], [], 0⟩).items = _ ∧ _
  rw [h]
  exact ⟨rfl, by show ((endToks d l).foldl (fun b t => tokB t b) ⟨[], [], [], 0⟩).faults = _; rw [h]⟩
theorem endItems_len (d : List UInt8) : ∀ l : List UInt8, (endItems d l).length = 2 * l.length
  | [] => rfl
  | k :: l => by
    have := endItems_len d l
    simp only [endItems, List.flatMap_cons, List.length_append, List.length_cons, List.length_nil] at this ⊢
    omega
theorem end_get (d : List UInt8) : ∀ (l : List UInt8) (i : Nat), i < 2 * l.length → ((endItems d l).getD i default).deep = (i % 2 : Nat) ∧ ((endItems d l).getD i default).kind = 1 + i % 2
  | k :: l, 0, _ => ⟨rfl, rfl⟩
  | k :: l, 1, _ => ⟨rfl, rfl⟩
  | k :: l, i + 2, h => by
    have := end_get d l i (by simp only [List.length_cons] at h; omega)
    have e : (endItems d (k :: l)).getD (i + 2) default = (endItems d l).getD i default := by
      simp [endItems, List.getD]
    rw [e, this.1, this.2]
    constructor <;> simp

/-! ### headings -/
def headN (k : UInt8) : List UInt8 := [104, UInt8.ofNat (49 + k.toNat % 6)]
theorem headN_mem (k : UInt8) : headN k ∈ headsL := by
  have : ∀ n, n < 6 → [104, UInt8.ofNat (49 + n)] ∈ headsL := by decide +kernel
  exact this _ (Nat.mod_lt _ (by omega))
theorem headN_one (k : UInt8) : headN k = [104, 49] ↔ k.toNat % 6 = 0 := by
  have : ∀ n, n < 6 → (([104, UInt8.ofNat (49 + n)] : List UInt8) = [104, 49] ↔ n = 0) := by decide +kernel
  exact this _ (Nat.mod_lt _ (by omega))
def hStart (s : List UInt8) (i : Nat) : Tok := ⟨1, s, [], false, [], i⟩
def headToks : List UInt8 → Nat → List Tok
  | [], _ => []
  | k :: l, i => hStart (headN k) i :: headToks l (i + 1)
def headItems (l : List UInt8) : List Itm := l.map fun k => ⟨0, 1, headN k, [], []⟩
theorem heads_eq : headsL = [[104, 49], [104, 50], [104, 51], [104, 52], [104, 53], [104, 54]] := by kernel_rfl
theorem head_step0 (s : List UInt8) (hs : s ∈ headsL) (its : List Itm) (fs : List Flt) (a i : Nat) :
    tokB (hStart s i) ⟨its, fs, [], a⟩ = ⟨its ++ [⟨0, 1, s, [], []⟩], fs, [s], i⟩ := by
  rw [heads_eq] at hs
  simp only [List.mem_cons, List.not_mem_nil, or_false] at hs
  rcases hs with rfl | rfl | rfl | rfl | rfl | rfl <;> kernel_rfl
theorem head_step1 (s : List UInt8) (hs : s ∈ headsL) (u : List UInt8) (hu : u ∈ headsL) (its : List Itm) (fs : List Flt) (a i : Nat) :
    tokB (hStart s i) ⟨its, fs, [u], a⟩ = ⟨its ++ [⟨0, 1, s, [], []⟩], fs ++ [⟨9, i⟩], [s], i⟩ := by
  rw [heads_eq] at hs hu
  simp only [List.mem_cons, List.not_mem_nil, or_false] at hs hu
  rcases hs with rfl | rfl | rfl | rfl | rfl | rfl <;> rcases hu with rfl | rfl | rfl | rfl | rfl | rfl <;> kernel_rfl
theorem head_fold : ∀ (l : List UInt8) (i : Nat) (u : List UInt8), u ∈ headsL → ∀ (its : List Itm) (fs : List Flt) (a : Nat), ∃ fs' a', fs'.length = fs.length + l.length ∧
    (headToks l i).foldl (fun b t => tokB t b) ⟨its, fs, [u], a⟩ = ⟨its ++ headItems l, fs', [(l.map headN).getLastD u], a'⟩
  | [], i, u, hu, its, fs, a => ⟨fs, a, by simp, by simp [headToks, headItems]⟩
  | k :: l, i, u, hu, its, fs, a => by
    obtain ⟨fs', a', h1, h2⟩ := head_fold l (i + 1) (headN k) (headN_mem k) (its ++ [⟨0, 1, headN k, [], []⟩]) (fs ++ [⟨9, i⟩]) i
    refine ⟨fs', a', by rw [h1]; simp; omega, ?_⟩
    simp only [headToks, List.foldl_cons]
    rw [head_step1 _ (headN_mem k) u hu, h2]
    simp [headItems, List.getLast?_cons, List.getLast?_map]
def headEnd (n : Nat) : Tok := ⟨2, [104, 49], [], false, [], n⟩
theorem head_end1 (u : List UInt8) (hu : u ∈ headsL) (its : List Itm) (fs : List Flt) (a n : Nat) :
    tokB (textT [120]) (tokB (headEnd n) ⟨its, fs, [u], a⟩) = ⟨its ++ [⟨0, 2, [], [120], []⟩], if u = [104, 49] then fs else fs ++ [⟨9, n⟩], [], 0⟩ := by
  rw [heads_eq] at hu
  simp only [List.mem_cons, List.not_mem_nil, or_false] at hu
  rcases hu with rfl | rfl | rfl | rfl | rfl | rfl <;> kernel_rfl
def headAll (l : List UInt8) : List Tok := headToks l 0 ++ [headEnd l.length, textT [120]]
theorem head_build0 : (buildB (headAll [])).items = [⟨0, 2, [], [120], []⟩] ∧ (buildB (headAll [])).faults = [⟨8, 0⟩] := by constructor <;> kernel_rfl
theorem head_build (l : List UInt8) (k : UInt8) : (buildB (headAll (k :: l))).items = headItems (k :: l) ++ [⟨0, 2, [], [120], []⟩] ∧
    (buildB (headAll (k :: l))).faults.length = l.length + if ((k :: l).getD l.length 0).toNat % 6 = 0 then 0 else 1 := by
  obtain ⟨fs', a', h1, h2⟩ := head_fold l 1 (headN k) (headN_mem k) [⟨0, 1, headN k, [], []⟩] [] 0
  have hb : buildB (headAll (k :: l)) = tokB (textT [120]) (tokB (headEnd (l.length + 1)) ⟨headItems (k :: l), fs', [(l.map headN).getLastD (headN k)], a'⟩) := by
    simp only [buildB, headAll, headToks, List.cons_append, List.foldl_cons, List.foldl_append, List.foldl_nil, List.length_cons]
    rw [show bd0 = ⟨[], [], [], 0⟩ from rfl, head_step0 _ (headN_mem k), List.nil_append, h2]
    rfl
  have hlast : (l.map headN).getLastD (headN k) = headN ((k :: l).getD l.length 0) := by
    rw [List.getLastD_map]
    congr 1
    cases l with
    | nil => rfl
    | cons x l => simp [List.getLastD_cons, List.getD, List.getLastD_eq_getLast?, List.getLast?_eq_getElem?]
  rw [hb, hlast, head_end1 _ (headN_mem _)]
  refine ⟨rfl, ?_⟩
  show (if headN ((k :: l).getD l.length 0) = [104, 49] then fs' else fs' ++ [⟨9, l.length + 1⟩]).length = _
  by_cases h : ((k :: l).getD l.length 0).toNat % 6 = 0
  · rw [if_pos ((headN_one _).2 h), if_pos h, h1]; simp
  · rw [if_neg (fun hh => h ((headN_one _).1 hh)), if_neg h, List.length_append, h1]; simp

/-! ### lists -/
def listS : Nat → List UInt8
  | 0 => []
  | n + 1 => listS n ++ [60, 108, 105, 62, 120]
def listA (n : Nat) : List UInt8 := [60, 117, 108, 62] ++ listS n ++ [60, 47, 117, 108, 62]
def listB (n : Nat) : List UInt8 := [60, 117, 108, 62, 60, 108, 105, 62, 60, 117, 108, 62] ++ listS n ++ [60, 47, 117, 108, 62, 60, 108, 105, 62, 121, 60, 47, 117, 108, 62]
/-- What the statement says of n items. -/
def listsOk (n : Nat) : Bool :=
  let t := tokensT (listA n)
  let u := tokensT (listB n)
  let a := (buildB t).items
  let b := (buildB u).items
  t.all (fun x => x.attrs.isEmpty) && decide (t.length ≤ 1000) && u.all (fun x => x.attrs.isEmpty) && decide (u.length ≤ 1000) &&
  decide ((buildB t).faults = []) && decide ((buildB u).faults = []) && !tooBig (buildB t) && !tooBig (buildB u) &&
  decide (a.length = 1 + 2 * n) && decide (b.length = 1 + 2 * n + 4) &&
  (List.range a.length).all (fun i => decide (i = 0) || decide ((a.getD i default).deep = ((2 - i % 2 : Nat) : Int))) &&
  decide ((b.getD (b.length - 2) default).deep = 1) && decide ((b.getD (b.length - 2) default).name = [108, 105]) && decide ((b.getD 3 default).deep = 3)
set_option maxRecDepth 100000 in
theorem lists_ok : (List.range 20).all (fun n => listsOk (n + 1)) = true := by decide +kernel
end Go.Proofs.YtdpjmfipgkblfaaGreatDoor
