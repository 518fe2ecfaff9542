/- Contracts of package names, by V: the component's functions. -/
import Derived.Test.YtdpjmfipgkblfaaGreatDoorVT
import Derived.Test.YtdpjmfipgkblfaaGreatDoorShelf
import Derived.Test.YtdpjmfipgkblfaaGreatDoorNamesV
set_option linter.unusedSimpArgs false
namespace Go.Proofs.YtdpjmfipgkblfaaGreatDoor
open Go Go.V
attribute [local irreducible] vc vcL vcP vcI vcO stOp Loops condP bx bx2 Meets Back

abbrev nE : Env := tabEnv Tryz.prog "strings.asciiSpace" .u8 Lib.asciiSpaceTab

def smallB (c : UInt8) : UInt8 := if 65 ≤ c.toNat ∧ c.toNat ≤ 90 then c + 32 else c
theorem smallZ_nat (c : UInt8) : smallZ (c.toNat : Int) = ((smallB c).toNat : Int) := by
  unfold smallZ smallB
  by_cases h : 65 ≤ c.toNat ∧ c.toNat ≤ 90
  · rw [if_pos (by omega), if_pos h]
    have : (c + 32).toNat = c.toNat + 32 := by
      rw [UInt8.toNat_add]; simp; omega
    omega
  · rw [if_neg (by omega), if_neg h]
def okB (c : UInt8) : Bool := okZ (c.toNat : Int)
def validN (l : List UInt8) : Bool := !l.isEmpty && decide (l.length ≤ 60) && letterZ ((l.headD 0).toNat : Int) && l.all okB
def lowerL (l : List UInt8) : List UInt8 := l.map smallB

theorem fields_meets (l : List UInt8) (hs : l.length < 4294967281) (ha : ∀ b ∈ l, b.toNat < 128) (H : List Ent) :
    Meets nE Tryz.prog 88 [.d (.str l)] H (Ret (.c (.sl H.length 1 0 (Lib.fields l).length (Lib.fields l).length)) (H ++ [.row 9 1 (Lib.fields l).length (Lib.fields l).length (fun i _ => .str ((Lib.fields l).getD i []))])) := by
  refine Meets.fresh 9 (Lib.fields l).length _ Tryz.call88 fun g w us r hu => ?_
  match us, hu with
  | [u], hu =>
    have hv : u = .string (bstr l) := hu.1
    subst hv
    refine ⟨(Lib.fields l).map fun x => Value.string (bstr x), by simp, fun i hi => ⟨.string (bstr ((Lib.fields l).getD i [])), by simp [List.getD, hi], rfl⟩, ?_⟩
    have := Tryz.strings_Fields (bstr l) w (by rw [bstr_size]; exact hs) (fun j b hb => ha b (by simp [bstr] at hb; exact List.mem_of_getElem? hb)) r.inv.1
    simpa [bstr] using this

theorem indexByte_contains (l : List UInt8) (c : UInt8) : decide (0 ≤ Lib.indexByte l c) = l.contains c := by
  induction l with
  | nil => simp [Lib.indexByte]
  | cons b l ih =>
    have hge := Lib.indexByte_ge l c
    rw [Bool.eq_iff_iff] at ih ⊢
    simp only [Lib.indexByte, List.contains_cons]
    by_cases hb : b = c
    · subst hb; simp
    · have h1 : (b == c) = false := by simpa using hb
      have h2 : (c == b) = false := by simpa using fun h => hb h.symm
      simp only [h1, h2, Bool.false_eq_true, if_false, Bool.false_or]
      rw [← ih]
      simp only [decide_eq_true_eq]
      split
      · rename_i h; simp at h; omega
      · rename_i h; simp at h; omega
theorem contains1_meets (l : List UInt8) (c : UInt8) (H : List Ent) : Meets nE Tryz.prog 102 [.d (.str l), .d (.str [c])] H (Ret (.d (.bool (l.contains c))) H) := by
  refine Meets.same Tryz.call102 fun g w us r hu => ?_
  match us, hu with
  | [u, u'], hu =>
    have hv : u = .string (bstr l) := hu.1
    have hv' : u' = .string (bstr [c]) := hu.2.1
    subst hv; subst hv'
    refine ⟨.bool (l.contains c), rfl, ?_⟩
    have := Tryz.strings_Contains_one (bstr l) c w
    have he : decide (0 ≤ Lib.indexByte (bstr l).data.toList c) = l.contains c := by
      rw [show (bstr l).data.toList = l by simp [bstr]]
      exact indexByte_contains l c
    rw [he] at this
    simpa [bstr] using this

def firstFrom (p : Nat → Bool) : Nat → Nat → Int
  | 0, _ => -1
  | n + 1, i => if p i then (i : Int) else firstFrom p n (i + 1)
theorem firstFrom_nonneg (p : Nat → Bool) : ∀ n i, (0 ≤ firstFrom p n i) ↔ ∃ j, i ≤ j ∧ j < i + n ∧ p j = true
  | 0, i => by simp [firstFrom]; omega
  | n + 1, i => by
    unfold firstFrom
    split
    · rename_i h
      exact ⟨fun _ => ⟨i, Nat.le_refl _, by omega, h⟩, fun _ => by omega⟩
    · rename_i h
      rw [firstFrom_nonneg p n (i + 1)]
      constructor
      · rintro ⟨j, h1, h2, h3⟩; exact ⟨j, by omega, by omega, h3⟩
      · rintro ⟨j, h1, h2, h3⟩
        rcases Nat.lt_or_ge i j with h4 | h4
        · exact ⟨j, by omega, by omega, h3⟩
        · have : j = i := by omega
          subst this; exact absurd h3 h
theorem firstFrom_step (p : Nat → Bool) (n i : Nat) (h : i < n) : firstFrom p (n - i) i = if p i then (i : Int) else firstFrom p (n - (i + 1)) (i + 1) := by
  rw [show n - i = (n - (i + 1)) + 1 by omega]; rfl

attribute [local go_sem] Nat.reduceAdd Nat.reduceSub Nat.reduceMul Nat.reduceLT Nat.reduceLeDiff Nat.reduceEqDiff Int.reduceEq Int.reduceLT Int.reduceLE
theorem indexFunc_meets (E : Env) (g : Nat) (caps : List Nat) (p : Nat → Bool) (m n cap ty c : Nat) (l : List UInt8) (hl : l.length = n) (hn : n < 1073741824) (H : List Ent) (hm : nth H m = .row ty 1 n c (byteCell l))
    (hf : ∀ i, i < n → Meets E Tryz.prog g (.d (.int .u8 ((l.getD i 0).toNat : Int)) :: capArgs caps) H (Ret (.d (.bool (p i))) H)) :
    Meets E Tryz.prog 108 [.c (.sl m 1 0 n cap), .c (.fn g caps)] H (Ret (.d (.int .i64 (firstFrom p n 0))) H) := by
  subst hl
  refine Meets.of_body mixed tok (plan := fun _ => .done) Tryz.func108 Tryz.call108 Tryz.ntmps108 Tryz.results108 rfl (by kernel_rfl) ?_
  simp -dsimp -implicitDefEqProofs (maxSteps := 2000000) only [go_sem]
  refine Loops.on (α := Nat) (fun i => i ≤ l.length ∧ firstFrom p l.length 0 = firstFrom p (l.length - i) i) (fun i => l.length - i) (fun i => [(8, .d (.int .i64 i))]) (fun _ => H) 0 ⟨Nat.zero_le _, rfl⟩ ?_ ?_
  · exact Goes.slots (by simp -dsimp -implicitDefEqProofs (maxSteps := 2000000) only [go_sem]; exact .same rfl) rfl
  rintro i ⟨hi, hfst⟩
  simp -dsimp -implicitDefEqProofs (maxSteps := 2000000) only [go_sem]
  refine condP_intro (fun h => ?_) (fun h => ?_) <;> simp only [decide_eq_true_eq, decide_eq_false_iff_not, Int.ofNat_lt] at h <;> simp -dsimp -implicitDefEqProofs (maxSteps := 2000000) only [go_sem, hm, h]
  · refine (hf i h).ret ?_
    simp -dsimp -implicitDefEqProofs (maxSteps := 2000000) only [go_sem]
    have hst := firstFrom_step p l.length i h
    refine condP_intro (fun hp => ?_) (fun hp => ?_) <;> simp -dsimp -implicitDefEqProofs (maxSteps := 2000000) only [go_sem]
    · exact Fin.ret (by rw [hfst, hst, hp]; rfl) rfl
    · refine Back.mk (i + 1) ⟨⟨by omega, by rw [hfst, hst, hp]; rfl⟩, by omega⟩ (Goes.slots ?_ rfl)
      simp -dsimp -implicitDefEqProofs (maxSteps := 2000000) only [go_sem]
      exact AvLe_int _ _ _ (addw_i64 (by omega) (by omega))
  · exact Fin.ret (by rw [hfst, show l.length - i = 0 by omega]; rfl) rfl

theorem indexS_meets (E : Env) (m n cap ty c : Nat) (ws : List (List UInt8)) (x : List UInt8) (hl : ws.length = n) (hn : n < 1073741824) (H : List Ent) (hm : nth H m = .row ty 1 n c (fun i _ => .str (ws.getD i []))) :
    Meets E Tryz.prog 109 [.c (.sl m 1 0 n cap), .d (.str x)] H (Ret (.d (.int .i64 (firstFrom (fun i => decide (x = ws.getD i [])) n 0))) H) := by
  refine Meets.of_body mixed tok (plan := fun _ => .done) Tryz.func109 Tryz.call109 Tryz.ntmps109 Tryz.results109 rfl (by kernel_rfl) ?_
  simp -dsimp -implicitDefEqProofs (maxSteps := 2000000) only [go_sem]
  refine Loops.on (α := Nat) (fun i => i ≤ n ∧ firstFrom (fun i => decide (x = ws.getD i [])) n 0 = firstFrom (fun i => decide (x = ws.getD i [])) (n - i) i) (fun i => n - i) (fun i => [(8, .d (.int .i64 i))]) (fun _ => H) 0 ⟨Nat.zero_le _, rfl⟩ ?_ ?_
  · exact Goes.slots (by simp -dsimp -implicitDefEqProofs (maxSteps := 2000000) only [go_sem]; exact .same rfl) rfl
  rintro i ⟨hi, hfst⟩
  simp -dsimp -implicitDefEqProofs (maxSteps := 2000000) only [go_sem]
  refine condP_intro (fun h => ?_) (fun h => ?_) <;> simp only [decide_eq_true_eq, decide_eq_false_iff_not, Int.ofNat_lt] at h <;> simp -dsimp -implicitDefEqProofs (maxSteps := 2000000) only [go_sem, hm, h]
  · have hst := firstFrom_step (fun i => decide (x = ws.getD i [])) n i h
    refine condP_intro (fun hp => ?_) (fun hp => ?_) <;> simp -dsimp -implicitDefEqProofs (maxSteps := 2000000) only [go_sem]
    · exact Fin.ret (by rw [hfst, hst, hp]; rfl) rfl
    · refine Back.mk (i + 1) ⟨⟨by omega, by rw [hfst, hst, hp]; rfl⟩, by omega⟩ (Goes.slots ?_ rfl)
      simp -dsimp -implicitDefEqProofs (maxSteps := 2000000) only [go_sem]
      exact AvLe_int _ _ _ (addw_i64 (by omega) (by omega))
  · exact Fin.ret (by rw [hfst, show n - i = 0 by omega]; rfl) rfl

theorem containsS_meets (E : Env) (m n cap ty c : Nat) (ws : List (List UInt8)) (x : List UInt8) (hl : ws.length = n) (hn : n < 1073741824) (H : List Ent) (hm : nth H m = .row ty 1 n c (fun i _ => .str (ws.getD i []))) :
    Meets E Tryz.prog 87 [.c (.sl m 1 0 n cap), .d (.str x)] H (Ret (.d (.bool (ws.contains x))) H) := by
  refine Meets.of_body mixed tok (plan := fun _ => .done) Tryz.func87 Tryz.call87 Tryz.ntmps87 Tryz.results87 rfl (by kernel_rfl) ?_
  simp -dsimp -implicitDefEqProofs (maxSteps := 2000000) only [go_sem]
  refine (indexS_meets E m n cap ty c ws x hl hn H hm).ret ?_
  simp -dsimp -implicitDefEqProofs (maxSteps := 2000000) only [go_sem]
  refine Fin.ret (bool_av ?_) rfl
  rw [Bool.eq_iff_iff, decide_eq_true_eq, firstFrom_nonneg, List.contains_iff_mem]
  constructor
  · rintro ⟨j, _, h2, h3⟩
    have hj : j < ws.length := by omega
    have h3 : x = ws.getD j [] := by simpa using h3
    rw [h3, List.getD, List.getElem?_eq_getElem hj]
    exact List.getElem_mem hj
  · intro h
    obtain ⟨j, hj⟩ := List.getElem?_of_mem h
    have hlt := (List.getElem?_eq_some_iff.1 hj).1
    exact ⟨j, Nat.zero_le _, by omega, by simp [List.getD, hj]⟩

theorem among_meets (l x : List UInt8) (hs : l.length < 1000000) (ha : ∀ b ∈ l, b.toNat < 128) (hf : (Lib.fields l).length < 1000000) (H : List Ent) : Meets nE Tryz.prog 54 [.d (.str l), .d (.str x)] H (Ret (.d (.bool ((Lib.fields l).contains x))) H) := by
  refine Meets.closed fun hc => ?_
  refine Meets.of_body mixed tok (plan := fun _ => .done) Tryz.func54 Tryz.call54 Tryz.ntmps54 Tryz.results54 rfl (by kernel_rfl) ?_
  simp -dsimp -implicitDefEqProofs (maxSteps := 2000000) only [go_sem]
  refine (fields_meets l (by omega) ha H).ret ?_
  simp -dsimp -implicitDefEqProofs (maxSteps := 2000000) only [go_sem]
  refine (containsS_meets nE _ _ _ _ _ (Lib.fields l) x rfl (by omega) _ (nth_self H [_])).ret ?_
  simp -dsimp -implicitDefEqProofs (maxSteps := 2000000) only [go_sem]
  exact Fin.cut (Nat.le_refl _) hc ⟨rfl, rfl⟩

def wordsOf (l : List UInt8) (ws : List (List UInt8)) : Prop := Lib.fields l = ws ∧ l.length < 1000000 ∧ (∀ b ∈ l, b.toNat < 128) ∧ ws.length < 1000000
theorem among_const (l x : List UInt8) (ws : List (List UInt8)) (h : wordsOf l ws) (H : List Ent) : Meets nE Tryz.prog 54 [.d (.str l), .d (.str x)] H (Ret (.d (.bool (ws.contains x))) H) := by
  obtain ⟨rfl, h1, h2, h3⟩ := h
  exact among_meets l x h1 h2 h3 H

theorem containsF_meets (E : Env) (g : Nat) (caps : List Nat) (p : UInt8 → Bool) (m n cap ty c : Nat) (l : List UInt8) (hl : l.length = n) (hn : n < 1073741824) (H : List Ent) (hm : nth H m = .row ty 1 n c (byteCell l))
    (hf : ∀ b, Meets E Tryz.prog g (.d (.int .u8 (b.toNat : Int)) :: capArgs caps) H (Ret (.d (.bool (p b))) H)) :
    Meets E Tryz.prog 86 [.c (.sl m 1 0 n cap), .c (.fn g caps)] H (Ret (.d (.bool (l.any p))) H) := by
  refine Meets.of_body mixed tok (plan := fun _ => .done) Tryz.func86 Tryz.call86 Tryz.ntmps86 Tryz.results86 rfl (by kernel_rfl) ?_
  simp -dsimp -implicitDefEqProofs (maxSteps := 2000000) only [go_sem]
  refine (indexFunc_meets E g caps (fun i => p (l.getD i 0)) m n cap ty c l hl hn H hm (fun i _ => hf _)).ret ?_
  simp -dsimp -implicitDefEqProofs (maxSteps := 2000000) only [go_sem]
  refine Fin.ret (bool_av ?_) rfl
  rw [Bool.eq_iff_iff, decide_eq_true_eq, firstFrom_nonneg, List.any_eq_true]
  constructor
  · rintro ⟨j, _, h2, h3⟩
    have hj : j < l.length := by omega
    refine ⟨l.getD j 0, ?_, h3⟩
    rw [List.getD, List.getElem?_eq_getElem hj]
    exact List.getElem_mem hj
  · rintro ⟨b, hb, hp⟩
    obtain ⟨j, hj⟩ := List.getElem?_of_mem hb
    have hlt := (List.getElem?_eq_some_iff.1 hj).1
    exact ⟨j, Nat.zero_le _, by omega, by simpa [List.getD, hj] using hp⟩

theorem okZ_odd (l : List UInt8) : (!l.any fun b => !okZ (b.toNat : Int)) = l.all okB := by
  induction l with
  | nil => rfl
  | cons b l ih => simp [okB] at ih ⊢; cases okZ (b.toNat : Int) <;> simp_all

theorem valid_meets (l : List UInt8) (H : List Ent) : Meets nE Tryz.prog 53 [.d (.str l)] H (Ret (.d (.bool (validN l))) H) := by
  refine Meets.closed fun hc => ?_
  refine Meets.of_body mixed tok (plan := fun _ => .done) Tryz.func53 Tryz.call53 Tryz.ntmps53 Tryz.results53 rfl (by kernel_rfl) ?_
  rcases l with _ | ⟨b, l⟩
  · simp -dsimp -implicitDefEqProofs (maxSteps := 2000000) only [go_sem]
    exact Fin.ret rfl rfl
  simp -dsimp -implicitDefEqProofs (maxSteps := 2000000) only [go_sem]
  (refine condP_intro (fun h => ?_) (fun h => ?_) <;> (try simp only [Bool.and_eq_true, Bool.or_eq_true, Bool.not_eq_true', Bool.not_eq_false', Bool.or_eq_false_iff, Bool.and_eq_false_imp, decide_eq_true_eq, decide_eq_false_iff_not, Bool.not_eq_true, Bool.not_eq_false, Int.ofNat_lt, Int.ofNat_le] at h) <;> simp -dsimp -implicitDefEqProofs (maxSteps := 2000000) only [go_sem, h])
  · (repeat (refine ⟨by first | omega | assumption | trivial | (simp only [List.length_take, List.length_map, List.length_append, List.length_cons, List.length_nil, List.length_drop]; omega), ?_⟩))
    simp only [show (b :: l).getD (Int.toNat 0) 0 = b from rfl]
    refine (letter_meets nE _ H).ret ?_
    simp -dsimp -implicitDefEqProofs (maxSteps := 2000000) only [go_sem]
    (refine condP_intro (fun h2 => ?_) (fun h2 => ?_) <;> (try simp only [Bool.and_eq_true, Bool.or_eq_true, Bool.not_eq_true', Bool.not_eq_false', Bool.or_eq_false_iff, Bool.and_eq_false_imp, decide_eq_true_eq, decide_eq_false_iff_not, Bool.not_eq_true, Bool.not_eq_false, Int.ofNat_lt, Int.ofNat_le] at h2) <;> simp -dsimp -implicitDefEqProofs (maxSteps := 2000000) only [go_sem, h2])
    · exact Fin.ret (bool_av (by simp [validN, h2])) rfl
    · intro c hcl
      refine (containsF_meets nE 85 [] (fun b => !okZ (b.toNat : Int)) _ _ _ _ _ (b :: l) (by simp) (by omega) _ (nth_self H [_]) (fun b => odd_meets nE _ _)).ret ?_
      simp -dsimp -implicitDefEqProofs (maxSteps := 2000000) only [go_sem]
      refine Fin.cut (Nat.le_refl _) hc ⟨bool_av ?_, rfl⟩
      rw [okZ_odd]
      simp [validN, h2]; omega
  · exact Fin.ret (bool_av (by simp [validN]; omega)) rfl

def w (s : String) : List UInt8 := s.toUTF8.data.toList
def voids : List (List UInt8) := ["area", "base", "br", "col", "embed", "hr", "img", "input", "link", "meta", "source", "track", "wbr"].map w
theorem voids_words : wordsOf (w "area base br col embed hr img input link meta source track wbr") voids := ⟨by kernel_rfl, of_decide_eq_true (by kernel_rfl), of_decide_eq_true (by kernel_rfl), of_decide_eq_true (by kernel_rfl)⟩
def raws : List (List UInt8) := ["script", "style", "xmp", "iframe", "noembed", "noframes"].map w
theorem raws_words : wordsOf (w "script style xmp iframe noembed noframes") raws := ⟨by kernel_rfl, of_decide_eq_true (by kernel_rfl), of_decide_eq_true (by kernel_rfl), of_decide_eq_true (by kernel_rfl)⟩
def softs : List (List UInt8) := ["title", "textarea"].map w
theorem softs_words : wordsOf (w "title textarea") softs := ⟨by kernel_rfl, of_decide_eq_true (by kernel_rfl), of_decide_eq_true (by kernel_rfl), of_decide_eq_true (by kernel_rfl)⟩
def blocks : List (List UInt8) := ["address", "article", "aside", "blockquote", "details", "dialog", "div", "dl", "fieldset", "figcaption", "figure", "footer", "form", "h1", "h2", "h3", "h4", "h5", "h6", "header", "hgroup", "hr", "main", "menu", "nav", "ol", "p", "pre", "search", "section", "summary", "table", "ul"].map w
theorem blocks_words : wordsOf (w "address article aside blockquote details dialog div dl fieldset figcaption figure footer form h1 h2 h3 h4 h5 h6 header hgroup hr main menu nav ol p pre search section summary table ul") blocks := ⟨by kernel_rfl, of_decide_eq_true (by kernel_rfl), of_decide_eq_true (by kernel_rfl), of_decide_eq_true (by kernel_rfl)⟩
def hosts : List (List UInt8) := ["article", "aside", "blockquote", "body", "div", "footer", "h1", "h2", "h3", "h4", "h5", "h6", "header", "main", "nav", "p", "section", "span"].map w
theorem hosts_words : wordsOf (w "article aside blockquote body div footer h1 h2 h3 h4 h5 h6 header main nav p section span") hosts := ⟨by kernel_rfl, of_decide_eq_true (by kernel_rfl), of_decide_eq_true (by kernel_rfl), of_decide_eq_true (by kernel_rfl)⟩
def others : List (List UInt8) := ["annotation-xml", "color-profile", "font-face", "font-face-src", "font-face-uri", "font-face-format", "font-face-name", "missing-glyph"].map w
theorem others_words : wordsOf (w "annotation-xml color-profile font-face font-face-src font-face-uri font-face-format font-face-name missing-glyph") others := ⟨by kernel_rfl, of_decide_eq_true (by kernel_rfl), of_decide_eq_true (by kernel_rfl), of_decide_eq_true (by kernel_rfl)⟩
theorem void_meets (l : List UInt8) (H : List Ent) : Meets nE Tryz.prog 32 [.d (.str l)] H (Ret (.d (.bool (voids.contains l))) H) := by
  refine Meets.of_body mixed tok (plan := fun _ => .done) Tryz.func32 Tryz.call32 Tryz.ntmps32 Tryz.results32 rfl (by kernel_rfl) ?_
  simp -dsimp -implicitDefEqProofs (maxSteps := 2000000) only [go_sem]
  refine (among_const _ l voids voids_words H).ret ?_
  simp -dsimp -implicitDefEqProofs (maxSteps := 2000000) only [go_sem]
  exact Fin.ret rfl rfl
set_option maxRecDepth 20000 in
theorem block_meets (l : List UInt8) (H : List Ent) : Meets nE Tryz.prog 100 [.d (.str l)] H (Ret (.d (.bool (blocks.contains l))) H) := by
  refine Meets.of_body mixed tok (plan := fun _ => .done) Tryz.func100 Tryz.call100 Tryz.ntmps100 Tryz.results100 rfl (by kernel_rfl) ?_
  simp -dsimp -implicitDefEqProofs (maxSteps := 2000000) only [go_sem]
  refine (among_const _ l blocks blocks_words H).ret ?_
  simp -dsimp -implicitDefEqProofs (maxSteps := 2000000) only [go_sem]
  exact Fin.ret rfl rfl
def customN (l : List UInt8) : Bool := validN l && l.contains 45 && !others.contains l
def hostN (l : List UInt8) : Bool := customN l || hosts.contains l
def lowAt (l : List UInt8) (i : Nat) : List UInt8 := (l.take i).map smallB ++ l.drop i
theorem lowAt_len (l : List UInt8) (i : Nat) : (lowAt l i).length = l.length := by simp [lowAt]; omega
theorem lowAt_get (l : List UInt8) (i : Nat) (h : i < l.length) : (lowAt l i).getD i 0 = l.getD i 0 := by
  simp only [lowAt, List.getD]
  rw [List.getElem?_append_right (by simp; omega)]
  simp only [List.length_map, List.length_take, List.getElem?_drop]
  rw [show i + (i - min i l.length) = i by omega]
theorem lowAt_set (l : List UInt8) (i : Nat) (h : i < l.length) : (lowAt l i).set i (smallB (l.getD i 0)) = lowAt l (i + 1) := by
  have hlen : ((l.take i).map smallB).length = i := by simp; omega
  have hd : l.drop i = l.getD i 0 :: l.drop (i + 1) := by rw [List.drop_eq_getElem_cons h]; simp [List.getD, h]
  simp only [lowAt]
  rw [List.set_append_right _ _ (by omega), hlen, Nat.sub_self, hd, List.set_cons_zero, List.take_add_one, List.map_append]
  simp [List.getD, h]
theorem lower_meets (l : List UInt8) (hl : l.length < 1073741824) (H : List Ent) : Meets nE Tryz.prog 81 [.d (.str l)] H (Ret (.d (.str (lowerL l))) H) := by
  refine Meets.closed fun hc => ?_
  refine Meets.of_body mixed tok (plan := fun _ => .done) Tryz.func81 Tryz.call81 Tryz.ntmps81 Tryz.results81 rfl (by kernel_rfl) ?_
  simp -dsimp -implicitDefEqProofs (maxSteps := 2000000) only [go_sem]
  intro c hcl
  refine Loops.on (α := Nat) (fun i => i ≤ l.length) (fun i => l.length - i) (fun i => [(10, .d (.int .i64 i))]) (fun i => H ++ [.row 5 1 l.length c (byteCell (lowAt l i))]) 0 (Nat.zero_le _) ?_ ?_
  · exact Goes.slots (by simp -dsimp -implicitDefEqProofs (maxSteps := 2000000) only [go_sem]; exact .same rfl) (by simp [lowAt])
  intro i hi
  simp -dsimp -implicitDefEqProofs (maxSteps := 2000000) only [go_sem]
  (refine condP_intro (fun h => ?_) (fun h => ?_) <;> (try simp only [Bool.and_eq_true, Bool.or_eq_true, Bool.not_eq_true', Bool.not_eq_false', Bool.or_eq_false_iff, Bool.and_eq_false_imp, decide_eq_true_eq, decide_eq_false_iff_not, Bool.not_eq_true, Bool.not_eq_false, Int.ofNat_lt, Int.ofNat_le] at h) <;> simp -dsimp -implicitDefEqProofs (maxSteps := 2000000) only [go_sem, h, lowAt_len, lowAt_get l i])
  · refine (small_meets nE _ (by omega) (by have := UInt8.toNat_lt (l.getD i 0); omega) _).ret ?_
    simp -dsimp -implicitDefEqProofs (maxSteps := 2000000) only [go_sem, h, smallZ_nat, updCell_byte, lowAt_len, lowAt_set l i h]
    refine Back.mk (i + 1) ⟨h, by omega⟩ (Goes.slots ?_ rfl)
    simp -dsimp -implicitDefEqProofs (maxSteps := 2000000) only [go_sem]
    exact AvLe_int _ _ _ (addw_i64 (by omega) (by omega))
  · obtain rfl : i = l.length := by omega
    exact Fin.cut (Nat.le_refl _) hc ⟨str_av (by simp [lowAt, lowerL]), rfl⟩
end Go.Proofs.YtdpjmfipgkblfaaGreatDoor
