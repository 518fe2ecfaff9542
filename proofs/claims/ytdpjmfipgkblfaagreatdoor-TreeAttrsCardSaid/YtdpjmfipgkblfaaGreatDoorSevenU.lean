/- What the statements of layer 7 share: numbers, tokens as they are laid out. -/
import Derived.Test.YtdpjmfipgkblfaaGreatDoorSevenA
import Derived.Test.YtdpjmfipgkblfaaGreatDoorTreeK
namespace Go.Proofs.YtdpjmfipgkblfaaGreatDoor
open Go Go.V

theorem z0 : ((0 : Nat) : Int) = 0 := rfl
theorem z1 : ((1 : Nat) : Int) = 1 := rfl
theorem z2 : ((2 : Nat) : Int) = 2 := rfl
theorem z3 : ((3 : Nat) : Int) = 3 := rfl
theorem z4 : ((4 : Nat) : Int) = 4 := rfl
theorem z5 : ((5 : Nat) : Int) = 5 := rfl
theorem z6 : ((6 : Nat) : Int) = 6 := rfl
theorem z7 : ((7 : Nat) : Int) = 7 := rfl
theorem z8 : ((8 : Nat) : Int) = 8 := rfl
theorem z9 : ((9 : Nat) : Int) = 9 := rfl
theorem y0 : Int.toNat 0 = 0 := rfl
theorem y1 : Int.toNat 1 = 1 := rfl
theorem y2 : Int.toNat 2 = 2 := rfl
theorem y3 : Int.toNat 3 = 3 := rfl
theorem y4 : Int.toNat 4 = 4 := rfl
theorem at2_0 (r : List CV) (rs : List (List CV)) (f : Nat) : at2 (r :: rs) 0 f = r.getD f (.bool false) := rfl
theorem at2_s (r : List CV) (rs : List (List CV)) (k f : Nat) : at2 (r :: rs) (k + 1) f = at2 rs k f := rfl
/-- A token as it is laid out, without attributes. -/
def nilTok (t : Tok) : List CV := [.int .u8 t.kind, .str t.name, .nil 41 2, .bool t.self, .str t.data, .int .i64 t.pos]
theorem allSh_nilT (l : List Tok) : allSh (l.map nilTok) = true := allSh_pl _ _ fun _ => rfl
theorem allNr_nilT (l : List Tok) : allNr (l.map nilTok) = true := allNr_pl _ _ fun _ => rfl
theorem nilToks_f2 : ∀ (l : List Tok), (∀ t ∈ l, t.attrs = []) → F2 (F2 CvLe) (l.map nilTok) (l.map encTok)
  | [], _ => trivial
  | t :: l, h => ⟨⟨CvLe.refl _, CvLe.refl _, by
      have h0 := h t (List.mem_cons_self ..)
      obtain ⟨k, n, a, se, d, p⟩ := t
      simp only at h0
      subst h0
      exact CvLe.nil _ _ _ _, CvLe.refl _, CvLe.refl _, CvLe.refl _, trivial⟩, nilToks_f2 l fun t ht => h t (List.mem_cons_of_mem _ ht)⟩
theorem nilToks_le (l : List Tok) (h : ∀ t ∈ l, t.attrs = []) : AvLe (.c (.lst 6 l.length (at2 (l.map nilTok)))) (.c (.lst 6 l.length (at2 (l.map encTok)))) :=
  AvLe.c (CvLe.lst fun k _ f _ => CvLe.rows (wd := 6) (nilToks_f2 l h) k f)
end Go.Proofs.YtdpjmfipgkblfaaGreatDoor
