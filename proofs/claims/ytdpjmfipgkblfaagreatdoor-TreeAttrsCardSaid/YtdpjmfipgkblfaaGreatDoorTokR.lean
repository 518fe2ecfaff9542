/- The document's answers for layers 4 and 6 as plain functions: references, tokens. No program is in sight. -/
import Derived.Test.YtdpjmfipgkblfaaGreatDoorNamesI
set_option linter.unusedSimpArgs false
namespace Go.Proofs.YtdpjmfipgkblfaaGreatDoor
open Go Go.V

structure Att where
  name : List UInt8
  value : List UInt8
  deriving DecidableEq
structure Tok where
  kind : Nat
  name : List UInt8
  attrs : List Att
  self : Bool
  data : List UInt8
  pos : Nat
  deriving DecidableEq
structure Flt where
  kind : Nat
  pos : Nat
  deriving DecidableEq

/-! ### scanning -/
abbrev bAt (s : List UInt8) (i : Nat) : UInt8 := s.getD i 0
def sub (s : List UInt8) (a b : Nat) : List UInt8 := (s.drop a).take (b - a)
def scanF (q : Nat → Bool) : Nat → Nat → Nat
  | 0, i => i
  | k + 1, i => if q i then scanF q k (i + 1) else i
/-- The first place from i on, below n, that is not so. -/
def scan (q : Nat → Bool) (n i : Nat) : Nat := scanF q (n - i) i
theorem scan_step {q : Nat → Bool} {n i : Nat} (h : i < n) (hq : q i = true) : scan q n i = scan q n (i + 1) := by
  unfold scan
  rw [show n - i = (n - (i + 1)) + 1 by omega, scanF, if_pos hq]
theorem scan_stop {q : Nat → Bool} {n i : Nat} (hq : i < n → q i = false) : scan q n i = i := by
  unfold scan
  rcases Nat.lt_or_ge i n with h | h
  · rw [show n - i = (n - (i + 1)) + 1 by omega, scanF, hq h]; rfl
  · rw [show n - i = 0 by omega]; rfl
theorem scanF_ge {q : Nat → Bool} : ∀ (k i : Nat), i ≤ scanF q k i ∧ scanF q k i ≤ i + k
  | 0, i => ⟨Nat.le_refl _, Nat.le_refl _⟩
  | k + 1, i => by
    unfold scanF
    have := scanF_ge (q := q) k (i + 1)
    split <;> omega
theorem scan_ge (q : Nat → Bool) (n i : Nat) : i ≤ scan q n i := (scanF_ge _ _).1
theorem scan_le (q : Nat → Bool) (n i : Nat) (h : i ≤ n) : scan q n i ≤ n := by have := (scanF_ge (q := q) (n - i) i).2; unfold scan; omega
theorem scan_lt {q : Nat → Bool} {n i : Nat} (h : scan q n i < n) : q (scan q n i) = false := by
  unfold scan at *
  generalize hk : n - i = k at *
  induction k generalizing i with
  | zero => simp only [scanF] at h; omega
  | succ k ih =>
    unfold scanF at h ⊢
    cases hq : q i
    · simp [hq]
    · rw [hq, if_pos rfl] at h
      rw [if_pos rfl]
      exact ih (by omega) h

def blankZ (z : Int) : Bool := decide (z = 32) || decide (z = 9) || decide (z = 10) || decide (z = 12)
def blankB (b : UInt8) : Bool := blankZ (b.toNat : Int)
def letter6 (z : Int) : Bool := decide (97 ≤ z) && decide (z ≤ 122) || decide (65 ≤ z) && decide (z ≤ 90)
def cleanB (b : UInt8) : List UInt8 := if b = 0 then [239, 191, 189] else [b]
def cleanL (s : List UInt8) : List UInt8 := s.flatMap cleanB
def looksAt (s : List UInt8) (i : Nat) (t : List UInt8) : Bool := decide (i + t.length ≤ s.length) && decide (lowerL ((s.drop i).take t.length) = t)
def findB (s : List UInt8) (c : UInt8) (i : Nat) : Nat := scan (fun j => !decide (bAt s j = c)) s.length i
def blanksE (s : List UInt8) (i : Nat) : Nat := scan (fun j => blankB (bAt s j)) s.length i
def wordE (ends s : List UInt8) (i : Nat) : Nat := scan (fun j => !blankB (bAt s j) && !ends.contains (bAt s j)) s.length i

/-! ### references -/
def refNames : List (List UInt8) := ["amp", "lt", "gt", "quot", "apos", "nbsp", "copy", "reg", "hellip", "mdash", "ndash", "lsquo", "rsquo", "ldquo", "rdquo", "euro", "times", "divide", "para", "sect", "not", "notin"].map w
def refCodes : List Int := [0x0026, 0x003c, 0x003e, 0x0022, 0x0027, 0x00a0, 0x00a9, 0x00ae, 0x2026, 0x2014, 0x2013, 0x2018, 0x2019, 0x201c, 0x201d, 0x20ac, 0x00d7, 0x00f7, 0x00b6, 0x00a7, 0x00ac, 0x2209]
def refBare : List UInt8 := w "bbbb.bbb........bbbbb."
def uenc (n : Int) : List UInt8 := (Utf8.encode n).data.toList
def startsAt (s : List UInt8) (i : Nat) (t : List UInt8) : Bool := decide (i + t.length ≤ s.length) && decide ((s.drop i).take t.length = t)
def digitZ (z base : Int) : Int :=
  if 48 ≤ z ∧ z ≤ 57 then z - 48 else if base = 16 ∧ 97 ≤ z ∧ z ≤ 102 then z - 97 + 10 else if base = 16 ∧ 65 ≤ z ∧ z ≤ 70 then z - 65 + 10 else -1
def numF (s : List UInt8) (base : Int) : Nat → Nat → Int → Nat × Int
  | 0, i, n => (i, n)
  | k + 1, i, n => if 0 ≤ digitZ ((bAt s i).toNat : Int) base then numF s base k (i + 1) (if 1114112 < n * base + digitZ ((bAt s i).toNat : Int) base then 1114112 else n * base + digitZ ((bAt s i).toNat : Int) base) else (i, n)
def winCodes : List Int := [0x20ac, 0x81, 0x201a, 0x0192, 0x201e, 0x2026, 0x2020, 0x2021, 0x02c6, 0x2030, 0x0160, 0x2039, 0x0152, 0x8d, 0x017d, 0x8f, 0x90, 0x2018, 0x2019, 0x201c, 0x201d, 0x2022, 0x2013, 0x2014, 0x02dc, 0x2122, 0x0161, 0x203a, 0x0153, 0x9d, 0x017e, 0x0178]
def numFin (at_ i : Nat) (n : Int) (flt : Nat) : List UInt8 × Nat × Nat :=
  if n = 0 ∨ 1114111 < n ∨ (55296 ≤ n ∧ n ≤ 57343) then ([239, 191, 189], i - at_, 2)
  else if 128 ≤ n ∧ n ≤ 159 then (uenc (winCodes.getD (n - 128).toNat 0), i - at_, 2)
  else (uenc n, i - at_, flt)
def numRes (s : List UInt8) (at_ fr : Nat) (base : Int) : List UInt8 × Nat × Nat :=
  let p := numF s base (s.length - fr) fr 0
  if p.1 = fr then ([], 0, 0)
  else if p.1 < s.length ∧ bAt s p.1 = 59 then numFin at_ (p.1 + 1) p.2 0
  else numFin at_ p.1 p.2 1
def numericR (s : List UInt8) (at_ : Nat) : List UInt8 × Nat × Nat :=
  if at_ + 2 < s.length ∧ (bAt s (at_ + 2) = 120 ∨ bAt s (at_ + 2) = 88) then numRes s at_ (at_ + 2 + 1) 16 else numRes s at_ (at_ + 2) 10
def takeStep (s : List UInt8) (at_ k : Nat) (a : Nat × List UInt8 × Nat) : Nat × List UInt8 × Nat :=
  if startsAt s (at_ + 1) (refNames.getD k []) then
    let n0 := 1 + (refNames.getD k []).length
    let e := startsAt s (at_ + n0) [59]
    let n := if e then n0 + 1 else n0
    if a.1 < n ∧ (e = true ∨ refBare.getD k 0 = 98) then (n, uenc (refCodes.getD k 0), if e then 0 else 1) else a
  else a
def takeK (s : List UInt8) (at_ : Nat) : Nat → Nat × List UInt8 × Nat
  | 0 => (0, [], 0)
  | k + 1 => takeStep s at_ k (takeK s at_ k)
def alnumZ (z : Int) : Bool := decide (97 ≤ z) && decide (z ≤ 122) || decide (65 ≤ z) && decide (z ≤ 90) || decide (48 ≤ z) && decide (z ≤ 57)
def takeR (s : List UInt8) (at_ : Nat) (attr : Bool) : List UInt8 × Nat × Nat :=
  if at_ < s.length ∧ bAt s at_ = 38 then
    if at_ + 1 < s.length ∧ bAt s (at_ + 1) = 35 then numericR s at_
    else
      let a := takeK s at_ 22
      if a.2.2 ≠ 0 ∧ attr = true ∧ at_ + a.1 < s.length ∧ (bAt s (at_ + a.1) = 61 ∨ alnumZ ((bAt s (at_ + a.1)).toNat : Int) = true) then ([], 0, 0) else (a.2.1, a.1, a.2.2)
  else ([], 0, 0)
def allF (s : List UInt8) (attr : Bool) : Nat → Nat → List UInt8
  | 0, _ => []
  | k + 1, i => if i < s.length then (if 0 < (takeR s i attr).2.1 then (takeR s i attr).1 ++ allF s attr k (i + (takeR s i attr).2.1) else bAt s i :: allF s attr k (i + 1)) else []
def allR (s : List UInt8) (attr : Bool) : List UInt8 := allF s attr s.length 0

/-! ### tokens -/
structure Rd where
  at_ : Nat
  t : List Tok
  f : List Flt
  text : List UInt8
  frm : Nat
def Rd.fault (k p : Nat) (r : Rd) : Rd := { r with f := r.f ++ [⟨k, p⟩] }
def Rd.more (u : List UInt8) (n : Nat) (r : Rd) : Rd := { r with frm := if r.text = [] then r.at_ else r.frm, text := r.text ++ u, at_ := r.at_ + n }
def Rd.done (r : Rd) : Rd := { r with t := if r.text = [] then r.t else r.t ++ [⟨3, [], [], false, r.text, r.frm⟩], text := [] }
def Rd.to (i : Nat) (r : Rd) : Rd := { r with at_ := i }
def Rd.tok (x : Tok) (r : Rd) : Rd := { r with t := r.t ++ [x] }
def noteR (s : List UInt8) (n : Nat) (r : Rd) : Rd :=
  ((r.done.fault 7 r.at_).tok ⟨4, [], [], false, cleanL (sub s (r.at_ + n) (findB s 62 (r.at_ + n))), r.at_⟩).to (min (findB s 62 (r.at_ + n) + 1) s.length)
def commentE (s : List UInt8) (i : Nat) : Nat := scan (fun j => !looksAt s j [45, 45, 62] && !looksAt s j [45, 45, 33, 62]) s.length i
def commentR (s : List UInt8) (r : Rd) : Rd :=
  let fr := r.at_ + 4
  if looksAt s fr [62] || looksAt s fr [45, 62] then ((r.done.fault 7 r.at_).to (findB s 62 fr + 1)).tok ⟨4, [], [], false, [], r.at_⟩
  else
    let e := commentE s fr
    (if e = s.length then (r.done.fault 6 e).to e else if looksAt s e [45, 45, 62] then r.done.to (e + 3) else (r.done.fault 7 r.at_).to (e + 4)).tok ⟨4, [], [], false, cleanL (sub s fr e), r.at_⟩
def nameR (ends s : List UInt8) (i : Nat) : List UInt8 := cleanL (lowerL (sub s i (wordE ends s i)))
def doctypeR (s : List UInt8) (r : Rd) : Rd :=
  let i1 := blanksE s (r.at_ + 9)
  let i3 := findB s 62 (wordE [62] s i1)
  (if i3 = s.length then (r.done.fault 6 i3).to i3 else r.done.to (i3 + 1)).tok ⟨5, nameR [62] s i1, [], false, [], r.at_⟩
def valueR (s : List UInt8) (r : Rd) : (List UInt8 × Bool) × Rd :=
  let i := blanksE s r.at_
  if i = s.length then (([], true), r.to i)
  else if bAt s i = 62 then (([], true), (r.to i).fault 5 i)
  else if bAt s i ≠ 34 ∧ bAt s i ≠ 39 then ((allR (cleanL (sub s i (wordE [62] s i))) true, true), r.to (wordE [62] s i))
  else
    let e := findB s (bAt s i) (i + 1)
    ((allR (cleanL (sub s (i + 1) e)) true, decide (e < s.length)), r.to (min (e + 1) s.length))
def thereR (l : List Att) (name : List UInt8) : Bool := decide (50 ≤ l.length) || l.any fun a => decide (a.name = name)
def attrFin (p : Nat) (name value : List UInt8) (l : List Att) (r : Rd) : (List Att × Bool) × Rd :=
  if thereR l name then ((l, true), r.fault 5 p) else ((l ++ [⟨name, value⟩], true), r)
def attrR (s : List UInt8) (l : List Att) (r : Rd) : (List Att × Bool) × Rd :=
  let p := r.at_
  let r := if bAt s p = 61 then r.fault 5 p else r
  let name := cleanL (lowerL (sub s p (p + 1))) ++ nameR [47, 62, 61] s (p + 1)
  let i := blanksE s (wordE [47, 62, 61] s (p + 1))
  if looksAt s i [61] then
    let v := valueR s (r.to (i + 1))
    if v.1.2 then attrFin p name v.1.1 l v.2 else ((l, false), v.2)
  else attrFin p name [] l (r.to i)
def spaceE (s : List UInt8) (i : Nat) : Nat := scan (fun j => blankB (bAt s j) || decide (bAt s j = 47)) s.length i
def tagF (s : List UInt8) : Nat → List Att → Rd → Option (List Att × Bool) × Rd
  | 0, _, r => (none, r)
  | k + 1, l, r =>
    let i := spaceE s r.at_
    if i = s.length then (none, (r.to i).fault 6 i)
    else if bAt s i = 62 then (some (l, decide (r.at_ < i) && decide (bAt s (i - 1) = 47)), r.to (i + 1))
    else
      let a := attrR s l (r.to i)
      if a.1.2 then tagF s k a.1.1 a.2 else (none, (a.2.fault 6 s.length).to s.length)
def rawE (s name : List UInt8) (i : Nat) : Nat :=
  scan (fun j => !(looksAt s j ([60, 47] ++ name) && (decide (j + 2 + name.length < s.length) && (blankB (bAt s (j + 2 + name.length)) || decide (bAt s (j + 2 + name.length) = 47) || decide (bAt s (j + 2 + name.length) = 62))))) s.length i
def rawR (s name : List UInt8) (soft : Bool) (r : Rd) : Rd :=
  let e := rawE s name r.at_
  let d := cleanL (sub s r.at_ e)
  let d := if soft then allR d false else d
  if d = [] then r.to e else (r.to e).tok ⟨3, [], [], false, d, r.at_⟩
def tagR (s : List UInt8) (kind n : Nat) (r : Rd) : Rd :=
  let name := nameR [47, 62] s (r.at_ + n)
  match tagF s (s.length + 1) [] (r.done.to (wordE [47, 62] s (r.at_ + n))) with
  | (none, r') => r'
  | (some (l, self), r') =>
    let r' := r'.tok (if kind = 2 then ⟨kind, name, [], false, [], r.at_⟩ else ⟨kind, name, l, self, [], r.at_⟩)
    if kind = 1 ∧ (softs.contains name = true ∨ raws.contains name = true) then rawR s name (softs.contains name) r' else r'
def closesR (s : List UInt8) (r : Rd) : Rd :=
  if s.length ≤ r.at_ + 2 then (r.fault 6 r.at_).more [60, 47] 2
  else if letter6 ((bAt s (r.at_ + 2)).toNat : Int) then tagR s 2 2 r
  else if bAt s (r.at_ + 2) = 62 then (r.fault 4 r.at_).to (r.at_ + 3)
  else noteR s 2 r
def opensR (s : List UInt8) (r : Rd) : Rd :=
  let c := if r.at_ + 1 < s.length then bAt s (r.at_ + 1) else 0
  if letter6 (c.toNat : Int) then tagR s 1 1 r
  else if c = 47 then closesR s r
  else if looksAt s r.at_ [60, 33, 45, 45] then commentR s r
  else if looksAt s r.at_ [60, 33, 100, 111, 99, 116, 121, 112, 101] then doctypeR s r
  else if c = 33 then noteR s 2 r
  else if c = 63 then noteR s 1 r
  else (r.fault 4 r.at_).more [60] 1
def stepR (s : List UInt8) (r : Rd) : Rd :=
  if bAt s r.at_ = 60 then opensR s r
  else if bAt s r.at_ = 0 then (r.fault 3 r.at_).to (r.at_ + 1)
  else if bAt s r.at_ = 38 then
    let a := takeR s r.at_ false
    let r' := if a.2.2 = 0 then r else r.fault a.2.2 r.at_
    if 0 < a.2.1 then r'.more a.1 a.2.1 else r'.more [38] 1
  else r.more [bAt s r.at_] 1
def tokF (s : List UInt8) : Nat → Rd → Rd
  | 0, r => r
  | k + 1, r => if r.at_ < s.length then tokF s k (stepR s r) else r
def tokensRd (s : List UInt8) : Rd := (tokF s s.length ⟨0, [], [], [], 0⟩).done
def tokensT (s : List UInt8) : List Tok := (tokensRd s).t
def tokensF (s : List UInt8) : List Flt := (tokensRd s).f

/-! ### how a text is read on -/
theorem bAt_z (s : List UInt8) (i : Nat) (c : UInt8) : ((bAt s i).toNat : Int) = (c.toNat : Int) ↔ bAt s i = c := by
  rw [Int.ofNat_inj, UInt8.toNat_inj]

set_option maxRecDepth 20000 in
theorem known_tokens : tokensT (w "<ul><li>a<li>b</ul>") = [⟨1, w "ul", [], false, [], 0⟩, ⟨1, w "li", [], false, [], 4⟩, ⟨3, [], [], false, w "a", 8⟩, ⟨1, w "li", [], false, [], 9⟩, ⟨3, [], [], false, w "b", 13⟩, ⟨2, w "ul", [], false, [], 14⟩] := by decide +kernel
end Go.Proofs.YtdpjmfipgkblfaaGreatDoor
