/- The types of the seat YtoajalcngklenaaDoor, as a table for V; the program draws its orders. -/
import Derived.Test.YtoajalcngklenaaDoorProg
import Derived.Test.YtoajalcngklenaaDoorV14
namespace Go.Proofs.YtoajalcngklenaaDoor
open Go.V
def T : Nat → TI
  | 1 => ⟨.func, 1, 8, [.nilFunc]⟩
  | 2 => ⟨(.int .i64), 1, 8, [.int .i64 0]⟩
  | 3 => ⟨(.int .i64), 1, 8, [.int .i64 0]⟩
  | 4 => ⟨.bool, 1, 1, [.bool false]⟩
  | 5 => ⟨(.int .u8), 1, 1, [.int .u8 0]⟩
  | 6 => ⟨(.int .u8), 1, 1, [.int .u8 0]⟩
  | 7 => ⟨(.st [(0, 2), (1, 3), (2, 4), (3, 6)]), 4, 24, [.int .i64 0, .int .i64 0, .bool false, .int .u8 0]⟩
  | 8 => ⟨(.st [(0, 2), (1, 3), (2, 4), (3, 6)]), 4, 24, [.int .i64 0, .int .i64 0, .bool false, .int .u8 0]⟩
  | 9 => ⟨.str, 1, 16, [.string ⟨#[]⟩]⟩
  | 10 => ⟨.str, 1, 16, [.string ⟨#[]⟩]⟩
  | 11 => ⟨.str, 1, 16, [.string ⟨#[]⟩]⟩
  | 12 => ⟨(.int .u64), 1, 8, [.int .u64 0]⟩
  | 13 => ⟨(.st [(0, 9), (1, 12)]), 2, 24, [.string ⟨#[]⟩, .int .u64 0]⟩
  | 14 => ⟨(.st [(0, 9), (1, 12)]), 2, 24, [.string ⟨#[]⟩, .int .u64 0]⟩
  | 15 => ⟨(.ptr 69), 1, 8, [.pointer none]⟩
  | 16 => ⟨(.ptr 72), 1, 8, [.pointer none]⟩
  | 17 => ⟨(.ptr 81), 1, 8, [.pointer none]⟩
  | 18 => ⟨(.st [(0, 17)]), 1, 8, [.pointer none]⟩
  | 19 => ⟨(.st [(0, 17)]), 1, 8, [.pointer none]⟩
  | 20 => ⟨.iface, 1, 16, [.nilIface]⟩
  | 21 => ⟨(.int .i32), 1, 4, [.int .i32 0]⟩
  | 22 => ⟨.func, 1, 8, [.nilFunc]⟩
  | 23 => ⟨.func, 1, 8, [.nilFunc]⟩
  | 24 => ⟨(.sl 5), 1, 24, [.slice none 0 0]⟩
  | 25 => ⟨.func, 1, 8, [.nilFunc]⟩
  | 26 => ⟨.func, 1, 8, [.nilFunc]⟩
  | 27 => ⟨.func, 1, 8, [.nilFunc]⟩
  | 28 => ⟨.func, 1, 8, [.nilFunc]⟩
  | 29 => ⟨.func, 1, 8, [.nilFunc]⟩
  | 30 => ⟨.func, 1, 8, [.nilFunc]⟩
  | 31 => ⟨.func, 1, 8, [.nilFunc]⟩
  | 32 => ⟨(.sl 9), 1, 24, [.slice none 0 0]⟩
  | 33 => ⟨.func, 1, 8, [.nilFunc]⟩
  | 34 => ⟨.func, 1, 8, [.nilFunc]⟩
  | 35 => ⟨.func, 1, 8, [.nilFunc]⟩
  | 36 => ⟨.func, 1, 8, [.nilFunc]⟩
  | 37 => ⟨.func, 1, 8, [.nilFunc]⟩
  | 38 => ⟨.func, 1, 8, [.nilFunc]⟩
  | 39 => ⟨.func, 1, 8, [.nilFunc]⟩
  | 41 => ⟨.func, 1, 8, [.nilFunc]⟩
  | 42 => ⟨.func, 1, 8, [.nilFunc]⟩
  | 43 => ⟨(.sl 45), 1, 24, [.slice none 0 0]⟩
  | 44 => ⟨(.st [(0, 3), (1, 3)]), 2, 16, [.int .i64 0, .int .i64 0]⟩
  | 45 => ⟨(.st [(0, 3), (1, 3)]), 2, 16, [.int .i64 0, .int .i64 0]⟩
  | 46 => ⟨(.int .u32), 1, 4, [.int .u32 0]⟩
  | 47 => ⟨.func, 1, 8, [.nilFunc]⟩
  | 48 => ⟨(.ptr 55), 1, 8, [.pointer none]⟩
  | 49 => ⟨.func, 1, 8, [.nilFunc]⟩
  | 50 => ⟨.func, 1, 8, [.nilFunc]⟩
  | 51 => ⟨(.int .u64), 1, 8, [.int .u64 0]⟩
  | 52 => ⟨(.sl 58), 1, 24, [.slice none 0 0]⟩
  | 53 => ⟨(.sl 61), 1, 24, [.slice none 0 0]⟩
  | 54 => ⟨(.st [(0, 52), (1, 53), (2, 3)]), 3, 56, [.slice none 0 0, .slice none 0 0, .int .i64 0]⟩
  | 55 => ⟨(.st [(0, 52), (1, 53), (2, 3)]), 3, 56, [.slice none 0 0, .slice none 0 0, .int .i64 0]⟩
  | 56 => ⟨(.int .u16), 1, 2, [.int .u16 0]⟩
  | 57 => ⟨(.st [(0, 56), (1, 56), (2, 56)]), 3, 6, [.int .u16 0, .int .u16 0, .int .u16 0]⟩
  | 58 => ⟨(.st [(0, 56), (1, 56), (2, 56)]), 3, 6, [.int .u16 0, .int .u16 0, .int .u16 0]⟩
  | 59 => ⟨.func, 1, 8, [.nilFunc]⟩
  | 60 => ⟨(.st [(0, 46), (1, 46), (2, 46)]), 3, 12, [.int .u32 0, .int .u32 0, .int .u32 0]⟩
  | 61 => ⟨(.st [(0, 46), (1, 46), (2, 46)]), 3, 12, [.int .u32 0, .int .u32 0, .int .u32 0]⟩
  | 62 => ⟨.func, 1, 8, [.nilFunc]⟩
  | 64 => ⟨.func, 1, 8, [.nilFunc]⟩
  | 65 => ⟨(.ptr 58), 1, 8, [.pointer none]⟩
  | 66 => ⟨(.ptr 61), 1, 8, [.pointer none]⟩
  | 67 => ⟨.func, 1, 8, [.nilFunc]⟩
  | 68 => ⟨(.st [(0, 17), (1, 17), (2, 17), (3, 9)]), 4, 40, [.pointer none, .pointer none, .pointer none, .string ⟨#[]⟩]⟩
  | 69 => ⟨(.st [(0, 17), (1, 17), (2, 17), (3, 9)]), 4, 40, [.pointer none, .pointer none, .pointer none, .string ⟨#[]⟩]⟩
  | 70 => ⟨(.arr 0 16), 0, 0, []⟩
  | 71 => ⟨(.st [(0, 70)]), 0, 0, []⟩
  | 72 => ⟨(.st [(0, 70)]), 0, 0, []⟩
  | 73 => ⟨.func, 1, 8, [.nilFunc]⟩
  | 74 => ⟨(.int .u8), 1, 1, [.int .u8 0]⟩
  | 75 => ⟨(.int .u8), 1, 1, [.int .u8 0]⟩
  | 76 => ⟨.func, 1, 8, [.nilFunc]⟩
  | 77 => ⟨(.ptr 5), 1, 8, [.pointer none]⟩
  | 78 => ⟨(.int .i32), 1, 4, [.int .i32 0]⟩
  | 79 => ⟨(.int .i32), 1, 4, [.int .i32 0]⟩
  | 80 => ⟨(.st [(0, 12), (1, 12), (2, 46), (3, 74), (4, 5), (5, 5), (6, 75), (7, 76), (8, 77), (9, 78), (10, 79)]), 11, 48, [.int .u64 0, .int .u64 0, .int .u32 0, .int .u8 0, .int .u8 0, .int .u8 0, .int .u8 0, .nilFunc, .pointer none, .int .i32 0, .int .i32 0]⟩
  | 81 => ⟨(.st [(0, 12), (1, 12), (2, 46), (3, 74), (4, 5), (5, 5), (6, 75), (7, 76), (8, 77), (9, 78), (10, 79)]), 11, 48, [.int .u64 0, .int .u64 0, .int .u32 0, .int .u8 0, .int .u8 0, .int .u8 0, .int .u8 0, .nilFunc, .pointer none, .int .i32 0, .int .i32 0]⟩
  | _ => TI.no
theorem tok : TOk Tryd.prog T := by
  intro t
  unfold T
  split <;> first | exact .inl rfl | exact .inr (by kernel_rfl)
theorem mixed : Tryd.prog.follows .mixedOrders = true := by kernel_rfl
end Go.Proofs.YtoajalcngklenaaDoor
