/-
  NARROWER THAN 'FOR EVERY INPUT', by the rows' own cells (each row's printed sentence says how): TreeFront: laid · TreeLists: laid · TreeAttrs: laid · TreeVoid: laid · TreeTexts: laid · TreeSounds: laid · TreeDeep: laid · TreeEnds: laid · TreeParagraphs: laid · TreeHeads: laid.
  DERIVED. THE GIVEN ROWS OF THIS SEAT. 10 by the template 'for every input the law returns true; each argument reads behind the call as it read before'; 0 by the template 'total and deterministic' (their statements: YtdpjmfipgkblfaaGreatDoorTotals.lean).
  GIVEN WITH THE SEED: the statements are not yours to turn. If you find one false, say at which input.
  Laid BY PROGRAM, IN A SANDBOX (cutbox-rows.mjs): the forced cells as the released guide's own fill.sh prints them over the translation 0de805705cfdd190… (all of the seat's roots in one cut). By AI agents, Wed Nov 11 2026. No macro, syntax, notation, axiom, sorry.
-/
import Derived.Test.YtdpjmfipgkblfaaGreatDoorChecked
import GoSem.Claim
import GoSem.ClaimJoined
import GoSem.ClaimMapViews
import Derived.JoinedTies
import Derived.KernelRfl
namespace Go.Proofs.YtdpjmfipgkblfaaGreatDoor
/- THE CELL 'sum', in the pinned program and in every row, IS THE sha256 OF THE DUMP (.gsa) THAT YtdpjmfipgkblfaaGreatDoorProg.lean LOADS. Nothing in Lean hashes anything: it is a label: what it is worth is what the hold of that sum in a sandbox is worth. -/
noncomputable def Tryz.pinned : Pinned := { name := "ytdpjmfipgkblfaagreatdoor", sum := "0de805705cfdd190d97eb73cfaa4876e6f0fd450a7e2500867aa5e6a4f923ded", checked := Tryz.checked }
namespace Rows
def none {H : Type} : Left H := { results := [], args := [] }

/- WHAT THE LISTED PACKAGE-LEVEL VARIABLES READ AS WHEN THE CALL BEGINS. Each datum BY PROGRAM (the guide's laid-datum.mjs) off the statement by which the dump's own 'gosem.cut.vars' lays the variable. In a bare row this is a premise. The card (YtdpjmfipgkblfaaGreatDoorCards.lean) ties it to the program's text. -/
def laid_unicode_White_Space {H : Type} : DataW H := .ptr (.agg [.slice [.agg [.lit (.int .u16 9), .lit (.int .u16 13), .lit (.int .u16 1)], .agg [.lit (.int .u16 32), .lit (.int .u16 133), .lit (.int .u16 101)], .agg [.lit (.int .u16 160), .lit (.int .u16 5760), .lit (.int .u16 5600)], .agg [.lit (.int .u16 8192), .lit (.int .u16 8202), .lit (.int .u16 1)], .agg [.lit (.int .u16 8232), .lit (.int .u16 8233), .lit (.int .u16 1)], .agg [.lit (.int .u16 8239), .lit (.int .u16 8287), .lit (.int .u16 48)], .agg [.lit (.int .u16 12288), .lit (.int .u16 12288), .lit (.int .u16 1)]] [], .nil, .lit (.int .i64 2)])
def laid_strings_asciiSpace {H : Type} : DataW H := .agg [.lit (.int .u8 0), .lit (.int .u8 0), .lit (.int .u8 0), .lit (.int .u8 0), .lit (.int .u8 0), .lit (.int .u8 0), .lit (.int .u8 0), .lit (.int .u8 0), .lit (.int .u8 0), .lit (.int .u8 1), .lit (.int .u8 1), .lit (.int .u8 1), .lit (.int .u8 1), .lit (.int .u8 1), .lit (.int .u8 0), .lit (.int .u8 0), .lit (.int .u8 0), .lit (.int .u8 0), .lit (.int .u8 0), .lit (.int .u8 0), .lit (.int .u8 0), .lit (.int .u8 0), .lit (.int .u8 0), .lit (.int .u8 0), .lit (.int .u8 0), .lit (.int .u8 0), .lit (.int .u8 0), .lit (.int .u8 0), .lit (.int .u8 0), .lit (.int .u8 0), .lit (.int .u8 0), .lit (.int .u8 0), .lit (.int .u8 1), .lit (.int .u8 0), .lit (.int .u8 0), .lit (.int .u8 0), .lit (.int .u8 0), .lit (.int .u8 0), .lit (.int .u8 0), .lit (.int .u8 0), .lit (.int .u8 0), .lit (.int .u8 0), .lit (.int .u8 0), .lit (.int .u8 0), .lit (.int .u8 0), .lit (.int .u8 0), .lit (.int .u8 0), .lit (.int .u8 0), .lit (.int .u8 0), .lit (.int .u8 0), .lit (.int .u8 0), .lit (.int .u8 0), .lit (.int .u8 0), .lit (.int .u8 0), .lit (.int .u8 0), .lit (.int .u8 0), .lit (.int .u8 0), .lit (.int .u8 0), .lit (.int .u8 0), .lit (.int .u8 0), .lit (.int .u8 0), .lit (.int .u8 0), .lit (.int .u8 0), .lit (.int .u8 0), .lit (.int .u8 0), .lit (.int .u8 0), .lit (.int .u8 0), .lit (.int .u8 0), .lit (.int .u8 0), .lit (.int .u8 0), .lit (.int .u8 0), .lit (.int .u8 0), .lit (.int .u8 0), .lit (.int .u8 0), .lit (.int .u8 0), .lit (.int .u8 0), .lit (.int .u8 0), .lit (.int .u8 0), .lit (.int .u8 0), .lit (.int .u8 0), .lit (.int .u8 0), .lit (.int .u8 0), .lit (.int .u8 0), .lit (.int .u8 0), .lit (.int .u8 0), .lit (.int .u8 0), .lit (.int .u8 0), .lit (.int .u8 0), .lit (.int .u8 0), .lit (.int .u8 0), .lit (.int .u8 0), .lit (.int .u8 0), .lit (.int .u8 0), .lit (.int .u8 0), .lit (.int .u8 0), .lit (.int .u8 0), .lit (.int .u8 0), .lit (.int .u8 0), .lit (.int .u8 0), .lit (.int .u8 0), .lit (.int .u8 0), .lit (.int .u8 0), .lit (.int .u8 0), .lit (.int .u8 0), .lit (.int .u8 0), .lit (.int .u8 0), .lit (.int .u8 0), .lit (.int .u8 0), .lit (.int .u8 0), .lit (.int .u8 0), .lit (.int .u8 0), .lit (.int .u8 0), .lit (.int .u8 0), .lit (.int .u8 0), .lit (.int .u8 0), .lit (.int .u8 0), .lit (.int .u8 0), .lit (.int .u8 0), .lit (.int .u8 0), .lit (.int .u8 0), .lit (.int .u8 0), .lit (.int .u8 0), .lit (.int .u8 0), .lit (.int .u8 0), .lit (.int .u8 0), .lit (.int .u8 0), .lit (.int .u8 0), .lit (.int .u8 0), .lit (.int .u8 0), .lit (.int .u8 0), .lit (.int .u8 0), .lit (.int .u8 0), .lit (.int .u8 0), .lit (.int .u8 0), .lit (.int .u8 0), .lit (.int .u8 0), .lit (.int .u8 0), .lit (.int .u8 0), .lit (.int .u8 0), .lit (.int .u8 0), .lit (.int .u8 0), .lit (.int .u8 0), .lit (.int .u8 0), .lit (.int .u8 0), .lit (.int .u8 0), .lit (.int .u8 0), .lit (.int .u8 0), .lit (.int .u8 0), .lit (.int .u8 0), .lit (.int .u8 0), .lit (.int .u8 0), .lit (.int .u8 0), .lit (.int .u8 0), .lit (.int .u8 0), .lit (.int .u8 0), .lit (.int .u8 0), .lit (.int .u8 0), .lit (.int .u8 0), .lit (.int .u8 0), .lit (.int .u8 0), .lit (.int .u8 0), .lit (.int .u8 0), .lit (.int .u8 0), .lit (.int .u8 0), .lit (.int .u8 0), .lit (.int .u8 0), .lit (.int .u8 0), .lit (.int .u8 0), .lit (.int .u8 0), .lit (.int .u8 0), .lit (.int .u8 0), .lit (.int .u8 0), .lit (.int .u8 0), .lit (.int .u8 0), .lit (.int .u8 0), .lit (.int .u8 0), .lit (.int .u8 0), .lit (.int .u8 0), .lit (.int .u8 0), .lit (.int .u8 0), .lit (.int .u8 0), .lit (.int .u8 0), .lit (.int .u8 0), .lit (.int .u8 0), .lit (.int .u8 0), .lit (.int .u8 0), .lit (.int .u8 0), .lit (.int .u8 0), .lit (.int .u8 0), .lit (.int .u8 0), .lit (.int .u8 0), .lit (.int .u8 0), .lit (.int .u8 0), .lit (.int .u8 0), .lit (.int .u8 0), .lit (.int .u8 0), .lit (.int .u8 0), .lit (.int .u8 0), .lit (.int .u8 0), .lit (.int .u8 0), .lit (.int .u8 0), .lit (.int .u8 0), .lit (.int .u8 0), .lit (.int .u8 0), .lit (.int .u8 0), .lit (.int .u8 0), .lit (.int .u8 0), .lit (.int .u8 0), .lit (.int .u8 0), .lit (.int .u8 0), .lit (.int .u8 0), .lit (.int .u8 0), .lit (.int .u8 0), .lit (.int .u8 0), .lit (.int .u8 0), .lit (.int .u8 0), .lit (.int .u8 0), .lit (.int .u8 0), .lit (.int .u8 0), .lit (.int .u8 0), .lit (.int .u8 0), .lit (.int .u8 0), .lit (.int .u8 0), .lit (.int .u8 0), .lit (.int .u8 0), .lit (.int .u8 0), .lit (.int .u8 0), .lit (.int .u8 0), .lit (.int .u8 0), .lit (.int .u8 0), .lit (.int .u8 0), .lit (.int .u8 0), .lit (.int .u8 0), .lit (.int .u8 0), .lit (.int .u8 0), .lit (.int .u8 0), .lit (.int .u8 0), .lit (.int .u8 0), .lit (.int .u8 0), .lit (.int .u8 0), .lit (.int .u8 0), .lit (.int .u8 0), .lit (.int .u8 0), .lit (.int .u8 0), .lit (.int .u8 0), .lit (.int .u8 0), .lit (.int .u8 0), .lit (.int .u8 0), .lit (.int .u8 0), .lit (.int .u8 0), .lit (.int .u8 0), .lit (.int .u8 0), .lit (.int .u8 0), .lit (.int .u8 0), .lit (.int .u8 0), .lit (.int .u8 0)]

/-- 'portierelaw07.TreeFront': WHATEVER THE INPUT: true; the input reads as it did. -/
def treeFrontSpec : ChangeSpec := { name := "treeFront", fn := fun _ => fun
  | [d1, d2] => { results := [.lit (.bool true)], args := [d1, d2] }
  | _ => none }
def treeFrontRow : OpenClaim := { program := "ytdpjmfipgkblfaagreatdoor", sum := "0de805705cfdd190d97eb73cfaa4876e6f0fd450a7e2500867aa5e6a4f923ded", func := "portiere/portierelaw07.TreeFront", spec := "treeFront", inPlace := ["internal/bytealg.IndexByteString", "internal/bytealg.IndexString"], unfollowed := true, recurses := true, named := ["internal/bytealg.MaxLen", "strings.asciiSpace", "unicode.White_Space"], apart := false, laid := [("unicode.White_Space", laid_unicode_White_Space), ("strings.asciiSpace", laid_strings_asciiSpace)] }
def TreeFrontSaid : Prop := treeFrontRow.holds Tryz.pinned (OpenSpec.ofChange treeFrontSpec)

/-- ITS FALSE NEIGHBOUR: 'it returns false'. Refute it at one input. -/
def treeFrontWrong : ChangeSpec := { name := "treeFront", fn := fun _ => fun
  | [d1, d2] => { results := [.lit (.bool false)], args := [d1, d2] }
  | _ => none }
def TreeFrontWrongFalsely : Prop := treeFrontRow.holds Tryz.pinned (OpenSpec.ofChange treeFrontWrong)

/-- 'portierelaw07.TreeLists': WHATEVER THE INPUT: true; the input reads as it did. -/
def treeListsSpec : ChangeSpec := { name := "treeLists", fn := fun _ => fun
  | [d] => { results := [.lit (.bool true)], args := [d] }
  | _ => none }
def treeListsRow : OpenClaim := { program := "ytdpjmfipgkblfaagreatdoor", sum := "0de805705cfdd190d97eb73cfaa4876e6f0fd450a7e2500867aa5e6a4f923ded", func := "portiere/portierelaw07.TreeLists", spec := "treeLists", inPlace := ["internal/bytealg.IndexByteString", "internal/bytealg.IndexString"], unfollowed := true, recurses := true, named := ["internal/bytealg.MaxLen", "strings.asciiSpace", "unicode.White_Space"], apart := false, laid := [("unicode.White_Space", laid_unicode_White_Space), ("strings.asciiSpace", laid_strings_asciiSpace)] }
def TreeListsSaid : Prop := treeListsRow.holds Tryz.pinned (OpenSpec.ofChange treeListsSpec)

/-- ITS FALSE NEIGHBOUR: 'it returns false'. Refute it at one input. -/
def treeListsWrong : ChangeSpec := { name := "treeLists", fn := fun _ => fun
  | [d] => { results := [.lit (.bool false)], args := [d] }
  | _ => none }
def TreeListsWrongFalsely : Prop := treeListsRow.holds Tryz.pinned (OpenSpec.ofChange treeListsWrong)

/-- 'portierelaw07.TreeAttrs': WHATEVER THE INPUT: true; the input reads as it did. -/
def treeAttrsSpec : ChangeSpec := { name := "treeAttrs", fn := fun _ => fun
  | [d] => { results := [.lit (.bool true)], args := [d] }
  | _ => none }
def treeAttrsRow : OpenClaim := { program := "ytdpjmfipgkblfaagreatdoor", sum := "0de805705cfdd190d97eb73cfaa4876e6f0fd450a7e2500867aa5e6a4f923ded", func := "portiere/portierelaw07.TreeAttrs", spec := "treeAttrs", inPlace := ["internal/bytealg.IndexByteString", "internal/bytealg.IndexString"], unfollowed := true, recurses := true, named := ["internal/bytealg.MaxLen", "strings.asciiSpace", "unicode.White_Space"], apart := false, laid := [("unicode.White_Space", laid_unicode_White_Space), ("strings.asciiSpace", laid_strings_asciiSpace)] }
def TreeAttrsSaid : Prop := treeAttrsRow.holds Tryz.pinned (OpenSpec.ofChange treeAttrsSpec)

/-- ITS FALSE NEIGHBOUR: 'it returns false'. Refute it at one input. -/
def treeAttrsWrong : ChangeSpec := { name := "treeAttrs", fn := fun _ => fun
  | [d] => { results := [.lit (.bool false)], args := [d] }
  | _ => none }
def TreeAttrsWrongFalsely : Prop := treeAttrsRow.holds Tryz.pinned (OpenSpec.ofChange treeAttrsWrong)

/-- 'portierelaw07.TreeVoid': WHATEVER THE INPUT: true; the input reads as it did. -/
def treeVoidSpec : ChangeSpec := { name := "treeVoid", fn := fun _ => fun
  | [d1, d2] => { results := [.lit (.bool true)], args := [d1, d2] }
  | _ => none }
def treeVoidRow : OpenClaim := { program := "ytdpjmfipgkblfaagreatdoor", sum := "0de805705cfdd190d97eb73cfaa4876e6f0fd450a7e2500867aa5e6a4f923ded", func := "portiere/portierelaw07.TreeVoid", spec := "treeVoid", inPlace := ["internal/bytealg.IndexByteString", "internal/bytealg.IndexString"], unfollowed := true, recurses := true, named := ["internal/bytealg.MaxLen", "strings.asciiSpace", "unicode.White_Space"], apart := false, laid := [("unicode.White_Space", laid_unicode_White_Space), ("strings.asciiSpace", laid_strings_asciiSpace)] }
def TreeVoidSaid : Prop := treeVoidRow.holds Tryz.pinned (OpenSpec.ofChange treeVoidSpec)

/-- ITS FALSE NEIGHBOUR: 'it returns false'. Refute it at one input. -/
def treeVoidWrong : ChangeSpec := { name := "treeVoid", fn := fun _ => fun
  | [d1, d2] => { results := [.lit (.bool false)], args := [d1, d2] }
  | _ => none }
def TreeVoidWrongFalsely : Prop := treeVoidRow.holds Tryz.pinned (OpenSpec.ofChange treeVoidWrong)

/-- 'portierelaw07.TreeTexts': WHATEVER THE INPUT: true; the input reads as it did. -/
def treeTextsSpec : ChangeSpec := { name := "treeTexts", fn := fun _ => fun
  | [d] => { results := [.lit (.bool true)], args := [d] }
  | _ => none }
def treeTextsRow : OpenClaim := { program := "ytdpjmfipgkblfaagreatdoor", sum := "0de805705cfdd190d97eb73cfaa4876e6f0fd450a7e2500867aa5e6a4f923ded", func := "portiere/portierelaw07.TreeTexts", spec := "treeTexts", inPlace := ["internal/bytealg.IndexByteString", "internal/bytealg.IndexString"], unfollowed := true, recurses := true, named := ["internal/bytealg.MaxLen", "strings.asciiSpace", "unicode.White_Space"], apart := false, laid := [("unicode.White_Space", laid_unicode_White_Space), ("strings.asciiSpace", laid_strings_asciiSpace)] }
def TreeTextsSaid : Prop := treeTextsRow.holds Tryz.pinned (OpenSpec.ofChange treeTextsSpec)

/-- ITS FALSE NEIGHBOUR: 'it returns false'. Refute it at one input. -/
def treeTextsWrong : ChangeSpec := { name := "treeTexts", fn := fun _ => fun
  | [d] => { results := [.lit (.bool false)], args := [d] }
  | _ => none }
def TreeTextsWrongFalsely : Prop := treeTextsRow.holds Tryz.pinned (OpenSpec.ofChange treeTextsWrong)

/-- 'portierelaw07.TreeSounds': WHATEVER THE INPUT: true; the input reads as it did. -/
def treeSoundsSpec : ChangeSpec := { name := "treeSounds", fn := fun _ => fun
  | [d] => { results := [.lit (.bool true)], args := [d] }
  | _ => none }
def treeSoundsRow : OpenClaim := { program := "ytdpjmfipgkblfaagreatdoor", sum := "0de805705cfdd190d97eb73cfaa4876e6f0fd450a7e2500867aa5e6a4f923ded", func := "portiere/portierelaw07.TreeSounds", spec := "treeSounds", inPlace := ["internal/bytealg.IndexByteString", "internal/bytealg.IndexString"], unfollowed := true, recurses := true, named := ["internal/bytealg.MaxLen", "strings.asciiSpace", "unicode.White_Space"], apart := false, laid := [("unicode.White_Space", laid_unicode_White_Space), ("strings.asciiSpace", laid_strings_asciiSpace)] }
def TreeSoundsSaid : Prop := treeSoundsRow.holds Tryz.pinned (OpenSpec.ofChange treeSoundsSpec)

/-- ITS FALSE NEIGHBOUR: 'it returns false'. Refute it at one input. -/
def treeSoundsWrong : ChangeSpec := { name := "treeSounds", fn := fun _ => fun
  | [d] => { results := [.lit (.bool false)], args := [d] }
  | _ => none }
def TreeSoundsWrongFalsely : Prop := treeSoundsRow.holds Tryz.pinned (OpenSpec.ofChange treeSoundsWrong)

/-- 'portierelaw07.TreeDeep': WHATEVER THE INPUT: true; the input reads as it did. -/
def treeDeepSpec : ChangeSpec := { name := "treeDeep", fn := fun _ => fun
  | [d1, d2] => { results := [.lit (.bool true)], args := [d1, d2] }
  | _ => none }
def treeDeepRow : OpenClaim := { program := "ytdpjmfipgkblfaagreatdoor", sum := "0de805705cfdd190d97eb73cfaa4876e6f0fd450a7e2500867aa5e6a4f923ded", func := "portiere/portierelaw07.TreeDeep", spec := "treeDeep", inPlace := ["internal/bytealg.IndexByteString", "internal/bytealg.IndexString"], unfollowed := true, recurses := true, named := ["internal/bytealg.MaxLen", "strings.asciiSpace", "unicode.White_Space"], apart := false, laid := [("unicode.White_Space", laid_unicode_White_Space), ("strings.asciiSpace", laid_strings_asciiSpace)] }
def TreeDeepSaid : Prop := treeDeepRow.holds Tryz.pinned (OpenSpec.ofChange treeDeepSpec)

/-- ITS FALSE NEIGHBOUR: 'it returns false'. Refute it at one input. -/
def treeDeepWrong : ChangeSpec := { name := "treeDeep", fn := fun _ => fun
  | [d1, d2] => { results := [.lit (.bool false)], args := [d1, d2] }
  | _ => none }
def TreeDeepWrongFalsely : Prop := treeDeepRow.holds Tryz.pinned (OpenSpec.ofChange treeDeepWrong)

/-- 'portierelaw07.TreeEnds': WHATEVER THE INPUT: true; the input reads as it did. -/
def treeEndsSpec : ChangeSpec := { name := "treeEnds", fn := fun _ => fun
  | [d1, d2] => { results := [.lit (.bool true)], args := [d1, d2] }
  | _ => none }
def treeEndsRow : OpenClaim := { program := "ytdpjmfipgkblfaagreatdoor", sum := "0de805705cfdd190d97eb73cfaa4876e6f0fd450a7e2500867aa5e6a4f923ded", func := "portiere/portierelaw07.TreeEnds", spec := "treeEnds", inPlace := ["internal/bytealg.IndexByteString", "internal/bytealg.IndexString"], unfollowed := true, recurses := true, named := ["internal/bytealg.MaxLen", "strings.asciiSpace", "unicode.White_Space"], apart := false, laid := [("unicode.White_Space", laid_unicode_White_Space), ("strings.asciiSpace", laid_strings_asciiSpace)] }
def TreeEndsSaid : Prop := treeEndsRow.holds Tryz.pinned (OpenSpec.ofChange treeEndsSpec)

/-- ITS FALSE NEIGHBOUR: 'it returns false'. Refute it at one input. -/
def treeEndsWrong : ChangeSpec := { name := "treeEnds", fn := fun _ => fun
  | [d1, d2] => { results := [.lit (.bool false)], args := [d1, d2] }
  | _ => none }
def TreeEndsWrongFalsely : Prop := treeEndsRow.holds Tryz.pinned (OpenSpec.ofChange treeEndsWrong)

/-- 'portierelaw07.TreeParagraphs': WHATEVER THE INPUT: true; the input reads as it did. -/
def treeParagraphsSpec : ChangeSpec := { name := "treeParagraphs", fn := fun _ => fun
  | [d] => { results := [.lit (.bool true)], args := [d] }
  | _ => none }
def treeParagraphsRow : OpenClaim := { program := "ytdpjmfipgkblfaagreatdoor", sum := "0de805705cfdd190d97eb73cfaa4876e6f0fd450a7e2500867aa5e6a4f923ded", func := "portiere/portierelaw07.TreeParagraphs", spec := "treeParagraphs", inPlace := ["internal/bytealg.IndexByteString", "internal/bytealg.IndexString"], unfollowed := true, recurses := true, named := ["internal/bytealg.MaxLen", "strings.asciiSpace", "unicode.White_Space"], apart := false, laid := [("unicode.White_Space", laid_unicode_White_Space), ("strings.asciiSpace", laid_strings_asciiSpace)] }
def TreeParagraphsSaid : Prop := treeParagraphsRow.holds Tryz.pinned (OpenSpec.ofChange treeParagraphsSpec)

/-- ITS FALSE NEIGHBOUR: 'it returns false'. Refute it at one input. -/
def treeParagraphsWrong : ChangeSpec := { name := "treeParagraphs", fn := fun _ => fun
  | [d] => { results := [.lit (.bool false)], args := [d] }
  | _ => none }
def TreeParagraphsWrongFalsely : Prop := treeParagraphsRow.holds Tryz.pinned (OpenSpec.ofChange treeParagraphsWrong)

/-- 'portierelaw07.TreeHeads': WHATEVER THE INPUT: true; the input reads as it did. -/
def treeHeadsSpec : ChangeSpec := { name := "treeHeads", fn := fun _ => fun
  | [d] => { results := [.lit (.bool true)], args := [d] }
  | _ => none }
def treeHeadsRow : OpenClaim := { program := "ytdpjmfipgkblfaagreatdoor", sum := "0de805705cfdd190d97eb73cfaa4876e6f0fd450a7e2500867aa5e6a4f923ded", func := "portiere/portierelaw07.TreeHeads", spec := "treeHeads", inPlace := ["internal/bytealg.IndexByteString", "internal/bytealg.IndexString"], unfollowed := true, recurses := true, named := ["internal/bytealg.MaxLen", "strings.asciiSpace", "unicode.White_Space"], apart := false, laid := [("unicode.White_Space", laid_unicode_White_Space), ("strings.asciiSpace", laid_strings_asciiSpace)] }
def TreeHeadsSaid : Prop := treeHeadsRow.holds Tryz.pinned (OpenSpec.ofChange treeHeadsSpec)

/-- ITS FALSE NEIGHBOUR: 'it returns false'. Refute it at one input. -/
def treeHeadsWrong : ChangeSpec := { name := "treeHeads", fn := fun _ => fun
  | [d] => { results := [.lit (.bool false)], args := [d] }
  | _ => none }
def TreeHeadsWrongFalsely : Prop := treeHeadsRow.holds Tryz.pinned (OpenSpec.ofChange treeHeadsWrong)

/- THE SECOND FORM. 'bulk': how many values and letters a reading holds, each counted each time it is reached (what is shared counts as often as it is met; a slice's spare places count too). A statement '..UptoSaid' is the law's where the arguments, and the package variables that the reading takes, are together of bulk at most 1048576: NARROWER than '..Said'. Prove '..Said' where nothing that the law and all that it calls make is longer than what came in: it says more and counts as full. Else prove '..UptoSaid'. A law counts once. -/
mutual
def uptoBulk {H : Type} : DataW H → Nat
  | .lit (.string bytes) => bytes.length + 1
  | .lit _ => 1
  | .nil => 1
  | .ptr d => uptoBulk d + 1
  | .slice elems spare => uptoBulkAll elems + uptoBulkAll spare + 1
  | .agg parts => uptoBulkAll parts + 1
  | .iface _ d => uptoBulk d + 1
  | .map entries => uptoBulkEntries entries + 1
  | .held _ => 1
def uptoBulkAll {H : Type} : List (DataW H) → Nat
  | [] => 0
  | d :: r => uptoBulk d + uptoBulkAll r
def uptoBulkEntries {H : Type} : List (Lit × DataW H) → Nat
  | [] => 0
  | x :: r => uptoBulkEntry x + uptoBulkEntries r
def uptoBulkEntry {H : Type} : Lit × DataW H → Nat
  | (.string bytes, d) => bytes.length + uptoBulk d + 1
  | (_, d) => uptoBulk d + 1
 end
def uptoSmall : (H : Type) → List (DataW H) → Bool := fun _ ds => decide (uptoBulkAll ds ≤ 1048576)
def OpenSpec.upto (s : _root_.Go.ChangeSpec) : _root_.Go.OpenSpec := { _root_.Go.OpenSpec.ofChange s with cond := some uptoSmall }

/-- 'portierelaw07.TreeFront', WHERE WHAT IT READS IS OF BULK AT MOST 1048576: true; the input reads as it did. -/
def treeFrontUptoRow : OpenClaim := { program := "ytdpjmfipgkblfaagreatdoor", sum := "0de805705cfdd190d97eb73cfaa4876e6f0fd450a7e2500867aa5e6a4f923ded", func := "portiere/portierelaw07.TreeFront", spec := "treeFront", inPlace := ["internal/bytealg.IndexByteString", "internal/bytealg.IndexString"], unfollowed := true, recurses := true, named := ["internal/bytealg.MaxLen", "strings.asciiSpace", "unicode.White_Space"], apart := false, laid := [("unicode.White_Space", laid_unicode_White_Space), ("strings.asciiSpace", laid_strings_asciiSpace)], narrowed := true }
def TreeFrontUptoSaid : Prop := treeFrontUptoRow.holds Tryz.pinned (OpenSpec.upto treeFrontSpec)

/-- 'portierelaw07.TreeLists', WHERE WHAT IT READS IS OF BULK AT MOST 1048576: true; the input reads as it did. -/
def treeListsUptoRow : OpenClaim := { program := "ytdpjmfipgkblfaagreatdoor", sum := "0de805705cfdd190d97eb73cfaa4876e6f0fd450a7e2500867aa5e6a4f923ded", func := "portiere/portierelaw07.TreeLists", spec := "treeLists", inPlace := ["internal/bytealg.IndexByteString", "internal/bytealg.IndexString"], unfollowed := true, recurses := true, named := ["internal/bytealg.MaxLen", "strings.asciiSpace", "unicode.White_Space"], apart := false, laid := [("unicode.White_Space", laid_unicode_White_Space), ("strings.asciiSpace", laid_strings_asciiSpace)], narrowed := true }
def TreeListsUptoSaid : Prop := treeListsUptoRow.holds Tryz.pinned (OpenSpec.upto treeListsSpec)

/-- 'portierelaw07.TreeAttrs', WHERE WHAT IT READS IS OF BULK AT MOST 1048576: true; the input reads as it did. -/
def treeAttrsUptoRow : OpenClaim := { program := "ytdpjmfipgkblfaagreatdoor", sum := "0de805705cfdd190d97eb73cfaa4876e6f0fd450a7e2500867aa5e6a4f923ded", func := "portiere/portierelaw07.TreeAttrs", spec := "treeAttrs", inPlace := ["internal/bytealg.IndexByteString", "internal/bytealg.IndexString"], unfollowed := true, recurses := true, named := ["internal/bytealg.MaxLen", "strings.asciiSpace", "unicode.White_Space"], apart := false, laid := [("unicode.White_Space", laid_unicode_White_Space), ("strings.asciiSpace", laid_strings_asciiSpace)], narrowed := true }
def TreeAttrsUptoSaid : Prop := treeAttrsUptoRow.holds Tryz.pinned (OpenSpec.upto treeAttrsSpec)

/-- 'portierelaw07.TreeVoid', WHERE WHAT IT READS IS OF BULK AT MOST 1048576: true; the input reads as it did. -/
def treeVoidUptoRow : OpenClaim := { program := "ytdpjmfipgkblfaagreatdoor", sum := "0de805705cfdd190d97eb73cfaa4876e6f0fd450a7e2500867aa5e6a4f923ded", func := "portiere/portierelaw07.TreeVoid", spec := "treeVoid", inPlace := ["internal/bytealg.IndexByteString", "internal/bytealg.IndexString"], unfollowed := true, recurses := true, named := ["internal/bytealg.MaxLen", "strings.asciiSpace", "unicode.White_Space"], apart := false, laid := [("unicode.White_Space", laid_unicode_White_Space), ("strings.asciiSpace", laid_strings_asciiSpace)], narrowed := true }
def TreeVoidUptoSaid : Prop := treeVoidUptoRow.holds Tryz.pinned (OpenSpec.upto treeVoidSpec)

/-- 'portierelaw07.TreeTexts', WHERE WHAT IT READS IS OF BULK AT MOST 1048576: true; the input reads as it did. -/
def treeTextsUptoRow : OpenClaim := { program := "ytdpjmfipgkblfaagreatdoor", sum := "0de805705cfdd190d97eb73cfaa4876e6f0fd450a7e2500867aa5e6a4f923ded", func := "portiere/portierelaw07.TreeTexts", spec := "treeTexts", inPlace := ["internal/bytealg.IndexByteString", "internal/bytealg.IndexString"], unfollowed := true, recurses := true, named := ["internal/bytealg.MaxLen", "strings.asciiSpace", "unicode.White_Space"], apart := false, laid := [("unicode.White_Space", laid_unicode_White_Space), ("strings.asciiSpace", laid_strings_asciiSpace)], narrowed := true }
def TreeTextsUptoSaid : Prop := treeTextsUptoRow.holds Tryz.pinned (OpenSpec.upto treeTextsSpec)

/-- 'portierelaw07.TreeSounds', WHERE WHAT IT READS IS OF BULK AT MOST 1048576: true; the input reads as it did. -/
def treeSoundsUptoRow : OpenClaim := { program := "ytdpjmfipgkblfaagreatdoor", sum := "0de805705cfdd190d97eb73cfaa4876e6f0fd450a7e2500867aa5e6a4f923ded", func := "portiere/portierelaw07.TreeSounds", spec := "treeSounds", inPlace := ["internal/bytealg.IndexByteString", "internal/bytealg.IndexString"], unfollowed := true, recurses := true, named := ["internal/bytealg.MaxLen", "strings.asciiSpace", "unicode.White_Space"], apart := false, laid := [("unicode.White_Space", laid_unicode_White_Space), ("strings.asciiSpace", laid_strings_asciiSpace)], narrowed := true }
def TreeSoundsUptoSaid : Prop := treeSoundsUptoRow.holds Tryz.pinned (OpenSpec.upto treeSoundsSpec)

/-- 'portierelaw07.TreeDeep', WHERE WHAT IT READS IS OF BULK AT MOST 1048576: true; the input reads as it did. -/
def treeDeepUptoRow : OpenClaim := { program := "ytdpjmfipgkblfaagreatdoor", sum := "0de805705cfdd190d97eb73cfaa4876e6f0fd450a7e2500867aa5e6a4f923ded", func := "portiere/portierelaw07.TreeDeep", spec := "treeDeep", inPlace := ["internal/bytealg.IndexByteString", "internal/bytealg.IndexString"], unfollowed := true, recurses := true, named := ["internal/bytealg.MaxLen", "strings.asciiSpace", "unicode.White_Space"], apart := false, laid := [("unicode.White_Space", laid_unicode_White_Space), ("strings.asciiSpace", laid_strings_asciiSpace)], narrowed := true }
def TreeDeepUptoSaid : Prop := treeDeepUptoRow.holds Tryz.pinned (OpenSpec.upto treeDeepSpec)

/-- 'portierelaw07.TreeEnds', WHERE WHAT IT READS IS OF BULK AT MOST 1048576: true; the input reads as it did. -/
def treeEndsUptoRow : OpenClaim := { program := "ytdpjmfipgkblfaagreatdoor", sum := "0de805705cfdd190d97eb73cfaa4876e6f0fd450a7e2500867aa5e6a4f923ded", func := "portiere/portierelaw07.TreeEnds", spec := "treeEnds", inPlace := ["internal/bytealg.IndexByteString", "internal/bytealg.IndexString"], unfollowed := true, recurses := true, named := ["internal/bytealg.MaxLen", "strings.asciiSpace", "unicode.White_Space"], apart := false, laid := [("unicode.White_Space", laid_unicode_White_Space), ("strings.asciiSpace", laid_strings_asciiSpace)], narrowed := true }
def TreeEndsUptoSaid : Prop := treeEndsUptoRow.holds Tryz.pinned (OpenSpec.upto treeEndsSpec)

/-- 'portierelaw07.TreeParagraphs', WHERE WHAT IT READS IS OF BULK AT MOST 1048576: true; the input reads as it did. -/
def treeParagraphsUptoRow : OpenClaim := { program := "ytdpjmfipgkblfaagreatdoor", sum := "0de805705cfdd190d97eb73cfaa4876e6f0fd450a7e2500867aa5e6a4f923ded", func := "portiere/portierelaw07.TreeParagraphs", spec := "treeParagraphs", inPlace := ["internal/bytealg.IndexByteString", "internal/bytealg.IndexString"], unfollowed := true, recurses := true, named := ["internal/bytealg.MaxLen", "strings.asciiSpace", "unicode.White_Space"], apart := false, laid := [("unicode.White_Space", laid_unicode_White_Space), ("strings.asciiSpace", laid_strings_asciiSpace)], narrowed := true }
def TreeParagraphsUptoSaid : Prop := treeParagraphsUptoRow.holds Tryz.pinned (OpenSpec.upto treeParagraphsSpec)

/-- 'portierelaw07.TreeHeads', WHERE WHAT IT READS IS OF BULK AT MOST 1048576: true; the input reads as it did. -/
def treeHeadsUptoRow : OpenClaim := { program := "ytdpjmfipgkblfaagreatdoor", sum := "0de805705cfdd190d97eb73cfaa4876e6f0fd450a7e2500867aa5e6a4f923ded", func := "portiere/portierelaw07.TreeHeads", spec := "treeHeads", inPlace := ["internal/bytealg.IndexByteString", "internal/bytealg.IndexString"], unfollowed := true, recurses := true, named := ["internal/bytealg.MaxLen", "strings.asciiSpace", "unicode.White_Space"], apart := false, laid := [("unicode.White_Space", laid_unicode_White_Space), ("strings.asciiSpace", laid_strings_asciiSpace)], narrowed := true }
def TreeHeadsUptoSaid : Prop := treeHeadsUptoRow.holds Tryz.pinned (OpenSpec.upto treeHeadsSpec)

end Rows
end Go.Proofs.YtdpjmfipgkblfaaGreatDoor
