/- The document's answer for layer 7 as plain functions: trees. No program is in sight. -/
import Derived.Test.YtdpjmfipgkblfaaGreatDoorTokR
set_option linter.unusedSimpArgs false
namespace Go.Proofs.YtdpjmfipgkblfaaGreatDoor
open Go Go.V

structure Itm where
  deep : Int
  kind : Nat
  name : List UInt8
  data : List UInt8
  attrs : List Att
  deriving DecidableEq
structure Bd where
  items : List Itm
  faults : List Flt
  opn : List (List UInt8)
  at_ : Nat

/-- Is a name one of some, with blanks between? -/
def inL (l name : List UInt8) : Bool := (splitSp l).contains name
def boundsL : List (List UInt8) := splitSp (w "template button object")
def headsL : List (List UInt8) := splitSp (w "h1 h2 h3 h4 h5 h6")
/-- The place of the nearest open one that is sought, among the first k, unless one of others is nearer; -1: none. -/
def nearF (is stop : List UInt8 → Bool) (l : List (List UInt8)) : Nat → Int
  | 0 => -1
  | k + 1 => if is (l.getD k []) then (k : Int) else if stop (l.getD k []) then -1 else nearF is stop l k
def nearR (is stop : List (List UInt8)) (l : List (List UInt8)) : Int := nearF (fun x => is.contains x) (fun x => stop.contains x) l l.length
def Bd.fault (k : Nat) (b : Bd) : Bd := { b with faults := b.faults ++ [⟨k, b.at_⟩] }
def Bd.end_ (k : Int) (b : Bd) : Bd := if 0 ≤ k then { b with opn := b.opn.take k.toNat } else b
def Bd.item (x : Itm) (b : Bd) : Bd := { b with items := b.items ++ [{ x with deep := b.opn.length }] }
def Bd.top (l : List (List UInt8)) (b : Bd) : Bool := decide (0 < b.opn.length) && l.contains (b.opn.getD (b.opn.length - 1) [])
def Bd.pop (b : Bd) : Bd := { b with opn := b.opn.take (b.opn.length - 1) }
def badAttrB (b : UInt8) : Bool := (decide (65 ≤ b.toNat) && decide (b.toNat ≤ 90)) || decide (b = 0) || decide (b = 32) || decide (b = 9) || decide (b = 10) || decide (b = 12) || decide (b = 47) || decide (b = 62) || decide (b = 61)
def writableA (a : Att) : Bool := !a.name.any badAttrB && decide (1 ≤ a.name.length) && decide (a.name.length ≤ 60) && decide (a.value.length ≤ 2000)
def hasA (l : List Att) (name : List UInt8) : Bool := l.any fun a => decide (a.name = name)
def firstEnd (name : List UInt8) (b : Bd) : Bd :=
  if name = w "li" then b.end_ (nearR [w "li"] (boundsL ++ [w "ul", w "ol"]) b.opn)
  else if name = w "dd" ∨ name = w "dt" then b.end_ (nearR [w "dd", w "dt"] (boundsL ++ [w "dl"]) b.opn)
  else if name = w "option" then (if b.top [w "option"] then b.pop else b)
  else if name = w "optgroup" then
    let b := if b.top [w "option"] then b.pop else b
    if b.top [w "optgroup"] then b.pop else b
  else if headsL.contains name then (if b.top headsL then b.pop.fault 9 else b)
  else if name = w "a" ∨ name = w "button" then
    let k := nearR [name] [w "template"] b.opn
    if 0 ≤ k then (b.end_ k).fault 9 else b
  else b
def itemN (name : List UInt8) : Bool := [w "li", w "dd", w "dt"].contains name
def firstR (name : List UInt8) (b : Bd) : Bd :=
  let b := firstEnd name b
  if blocks.contains name || itemN name then b.end_ (nearR [w "p"] boundsL b.opn) else b
/-- The attributes that may be written, each name once; a fault for each other one. -/
def attrsF : List Att → List Att → Bd → List Att × Bd
  | [], out, b => (out, b)
  | a :: l, out, b => if writableA a && !hasA out a.name then attrsF l (out ++ [a]) b else attrsF l out (b.fault 5)
def startR (t : Tok) (b : Bd) : Bd :=
  if validN t.name then
    let b := firstR t.name b
    let p := attrsF t.attrs [] b
    let b := p.2.item ⟨0, 1, t.name, [], p.1⟩
    if !voids.contains t.name && decide (b.opn.length < 100) then { b with opn := b.opn ++ [t.name] } else b
  else b.fault 4
def lastsL : List (List UInt8) := splitSp (w "li dd dt option optgroup p")
def stopR (name : List UInt8) (b : Bd) : Bd :=
  if name = w "br" ∨ name = w "p" ∧ nearR [w "p"] boundsL b.opn < 0 then (b.fault 8).item ⟨0, 1, name, [], []⟩
  else
    let k := nearR (if headsL.contains name then headsL else [name]) [w "template"] b.opn
    if voids.contains name ∨ k < 0 then b.fault 8
    else
      let c := !decide (b.opn.getD k.toNat [] = name) || (b.opn.drop (k.toNat + 1)).any fun x => !lastsL.contains x
      (if c then b.fault 9 else b).end_ k
def tokB (t : Tok) (b : Bd) : Bd :=
  let b := { b with at_ := t.pos }
  if t.kind = 1 then startR t b
  else if t.kind = 2 then stopR t.name b
  else if t.kind = 3 then (if t.data = [] then b else b.item ⟨0, 2, [], t.data, []⟩)
  else if t.kind = 4 then b.item ⟨0, 3, [], t.data, []⟩
  else if t.kind = 5 then (if b.items = [] then b.item ⟨0, 6, t.name, [], []⟩ else b.fault 8)
  else b
def bd0 : Bd := ⟨[], [], [], 0⟩
def buildB (l : List Tok) : Bd := l.foldl (fun b t => tokB t b) bd0
def tooBig (b : Bd) : Bool := decide (5000 < b.items.length) || b.items.any fun x => decide (50 < x.attrs.length)
end Go.Proofs.YtdpjmfipgkblfaaGreatDoor
