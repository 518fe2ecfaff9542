/- The rows of layer 7: what a law's contract gives for its row (the two tables of the library are laid). -/
import Derived.Test.YtdpjmfipgkblfaaGreatDoorVArgs
import Derived.Test.YtdpjmfipgkblfaaGreatDoorSevenU
import Derived.Test.YtdpjmfipgkblfaaGreatDoorCards
import Derived.Test.YtdpjmfipgkblfaaGreatDoorTie
set_option linter.unusedSimpArgs false
set_option linter.unusedVariables false
namespace Go.Proofs.YtdpjmfipgkblfaaGreatDoor
open Go Go.V Go.ChangeShapes Go.WideShapes Go.ChangeAt Go.RowKit

theorem own : ownKnob Tryz.prog.godebug = none := by kernel_rfl
theorem laidOut : laidOutB Tryz.prog = true := by kernel_rfl
abbrev laidL : List (String × DataW Unit) := [("unicode.White_Space", Rows.laid_unicode_White_Space), ("strings.asciiSpace", Rows.laid_strings_asciiSpace)]
/-- A world for the witness: the settled one with two blocks more (White_Space's ranges, and its RangeTable), the two variables holding what their initialisers lay. -/
noncomputable def laidWorld (os : Os) : World :=
  let n := (World.settled Tryz.prog os).heap.size
  let w0 := World.holding Tryz.prog os ⟨#[.cells (Lib.whiteT.map fun (z : Nat) => Value.int .u16 (z : Int)).toArray 148, .cells #[.slice (some ⟨n, 0, none⟩) 7 7, .slice none 0 0, .int .i64 2] 146], #[], []⟩
  let put (h : Array Obj) (g : Nat) (cs : Array Value) : Array Obj := h.modify g fun
    | .cells _ t frozen => .cells cs t frozen
    | o => o
  { w0 with heap := put (put w0.heap 0 (Lib.asciiSpaceTab.map fun z => Value.int .u8 z).toArray) 1 #[.pointer (some ⟨n + 1, 0, none⟩)] }
theorem laid_met (os : Os) (args : Array Value) : laidMet Tryz.prog laidL ((laidWorld os).forCall (fun _ _ => 0) ⟨#[], args, []⟩).memory :=
  laidMet_of_run3 10 (by kernel_rfl) (by kernel_rfl) (by kernel_rfl)
theorem ascii_data : (Rows.laid_strings_asciiSpace : DataW Unit) = Lib.tabData .u8 Lib.asciiSpaceTab := by kernel_rfl
theorem gAscii : Tryz.prog.globalNamed "strings.asciiSpace" = some 0 := by kernel_rfl
theorem gAsciiType : (Tryz.prog.globals[0]?).map (·.type) = some 122 := by kernel_rfl
theorem cellsTab : Tryz.prog.cellsOf 122 = 256 := by kernel_rfl
theorem cellsU8 : Tryz.prog.cellsOf 5 = 1 := by kernel_rfl
theorem env_inv {W : World} (h : laidMetH Tryz.prog laidL W) : nE.inv (gh0 W).κ W := by
  have h1 : laidMet Tryz.prog laidL W := h
  have h2 := Lib.laidMet.reads h1 (n := "strings.asciiSpace") (d := Rows.laid_strings_asciiSpace) (by simp)
  rw [ascii_data] at h2
  exact tabEnv_inv gAscii (tabIs_of_reads gAscii gAsciiType Tryz.underlying122 Tryz.underlying5 cellsU8 cellsTab h2)

theorem env_invT {W : World} (h : laidMetH Tryz.prog laidL W) (hsh : W.ShapedOpen Tryz.prog) : tE.inv (gh0 W).κ W := by
  obtain ⟨m, hm⟩ := Tryz.laysM144.s1_3 W hsh
  have hm' : W.cell? ⟨2, 0, none⟩ = some (.int .i64 m) := hm
  refine ⟨env_inv h, gh0_imm ?_, m, hm'⟩
  rcases Nat.lt_or_ge 2 W.heap.size with hl | hl
  · exact hl
  · simp [World.cell?, Array.getElem?_eq_none hl] at hm'
theorem u8_of_wf {n : Int} (h : (Lit.int .u8 n).wf = true) : ∃ k : Nat, n = k ∧ k < 256 := by
  simp [Lit.wf, IntKind.min, IntKind.max, IntKind.bits, IntKind.signed] at h
  exact ⟨n.toNat, by omega, by omega⟩
theorem u16_of_wf {n : Int} (h : (Lit.int .u16 n).wf = true) : ∃ k : Nat, n = k ∧ k < 65536 := by
  simp [Lit.wf, IntKind.min, IntKind.max, IntKind.bits, IntKind.signed] at h
  exact ⟨n.toNat, by omega, by omega⟩
theorem str_is (g : Gh) (w : World) (s : ByteArray) : (AV.d (.str s.data.toList)).Is g w (.string s) := congrArg Value.string (bstr_data s).symm
end Go.Proofs.YtdpjmfipgkblfaaGreatDoor
