/- The types of the seat YtoajalcngklenaaDoor, as a table for V; the program draws its orders. -/
import Derived.Test.YtoajalcngklenaaDoorProg
import Derived.Test.YtoajalcngklenaaDoorV18
namespace Go.Proofs.YtoajalcngklenaaDoor
open Go.V
def T : Nat → TI
  | 1 => ⟨.func, 1, 8, [.nilFunc], [.raw .nilFunc]⟩
  | 2 => ⟨(.int .i64), 1, 8, [.int .i64 0], [.int .i64 0]⟩
  | 3 => ⟨(.int .i64), 1, 8, [.int .i64 0], [.int .i64 0]⟩
  | 4 => ⟨.bool, 1, 1, [.bool false], [.bool false]⟩
  | 5 => ⟨(.int .u8), 1, 1, [.int .u8 0], [.int .u8 0]⟩
  | 6 => ⟨(.int .u8), 1, 1, [.int .u8 0], [.int .u8 0]⟩
  | 7 => ⟨(.st [(0, 2), (1, 3), (2, 4), (3, 6)]), 4, 24, [.int .i64 0, .int .i64 0, .bool false, .int .u8 0], [.int .i64 0, .int .i64 0, .bool false, .int .u8 0]⟩
  | 8 => ⟨(.st [(0, 2), (1, 3), (2, 4), (3, 6)]), 4, 24, [.int .i64 0, .int .i64 0, .bool false, .int .u8 0], [.int .i64 0, .int .i64 0, .bool false, .int .u8 0]⟩
  | 9 => ⟨.str, 1, 16, [.string ⟨#[]⟩], [.str []]⟩
  | 10 => ⟨.str, 1, 16, [.string ⟨#[]⟩], [.str []]⟩
  | 11 => ⟨.str, 1, 16, [.string ⟨#[]⟩], [.str []]⟩
  | 12 => ⟨(.int .u64), 1, 8, [.int .u64 0], [.int .u64 0]⟩
  | 13 => ⟨(.st [(0, 9), (1, 12)]), 2, 24, [.string ⟨#[]⟩, .int .u64 0], [.str [], .int .u64 0]⟩
  | 14 => ⟨(.st [(0, 9), (1, 12)]), 2, 24, [.string ⟨#[]⟩, .int .u64 0], [.str [], .int .u64 0]⟩
  | 15 => ⟨(.ptr 69), 1, 8, [.pointer none], [.raw (.pointer none)]⟩
  | 16 => ⟨(.ptr 72), 1, 8, [.pointer none], [.raw (.pointer none)]⟩
  | 17 => ⟨(.ptr 81), 1, 8, [.pointer none], [.raw (.pointer none)]⟩
  | 18 => ⟨(.st [(0, 17)]), 1, 8, [.pointer none], [.raw (.pointer none)]⟩
  | 19 => ⟨(.st [(0, 17)]), 1, 8, [.pointer none], [.raw (.pointer none)]⟩
  | 20 => ⟨.iface, 1, 16, [.nilIface], [.raw .nilIface]⟩
  | 21 => ⟨(.int .i32), 1, 4, [.int .i32 0], [.int .i32 0]⟩
  | 22 => ⟨.func, 1, 8, [.nilFunc], [.raw .nilFunc]⟩
  | 23 => ⟨.func, 1, 8, [.nilFunc], [.raw .nilFunc]⟩
  | 24 => ⟨(.sl 5), 1, 24, [.slice none 0 0], [.nil 5 1]⟩
  | 25 => ⟨.func, 1, 8, [.nilFunc], [.raw .nilFunc]⟩
  | 26 => ⟨.func, 1, 8, [.nilFunc], [.raw .nilFunc]⟩
  | 27 => ⟨.func, 1, 8, [.nilFunc], [.raw .nilFunc]⟩
  | 28 => ⟨.func, 1, 8, [.nilFunc], [.raw .nilFunc]⟩
  | 29 => ⟨.func, 1, 8, [.nilFunc], [.raw .nilFunc]⟩
  | 30 => ⟨.func, 1, 8, [.nilFunc], [.raw .nilFunc]⟩
  | 31 => ⟨.func, 1, 8, [.nilFunc], [.raw .nilFunc]⟩
  | 32 => ⟨(.sl 9), 1, 24, [.slice none 0 0], [.nil 9 1]⟩
  | 33 => ⟨.func, 1, 8, [.nilFunc], [.raw .nilFunc]⟩
  | 34 => ⟨.func, 1, 8, [.nilFunc], [.raw .nilFunc]⟩
  | 35 => ⟨.func, 1, 8, [.nilFunc], [.raw .nilFunc]⟩
  | 36 => ⟨.func, 1, 8, [.nilFunc], [.raw .nilFunc]⟩
  | 37 => ⟨.func, 1, 8, [.nilFunc], [.raw .nilFunc]⟩
  | 38 => ⟨.func, 1, 8, [.nilFunc], [.raw .nilFunc]⟩
  | 39 => ⟨.func, 1, 8, [.nilFunc], [.raw .nilFunc]⟩
  | 41 => ⟨.func, 1, 8, [.nilFunc], [.raw .nilFunc]⟩
  | 42 => ⟨.func, 1, 8, [.nilFunc], [.raw .nilFunc]⟩
  | 43 => ⟨(.sl 45), 1, 24, [.slice none 0 0], [.nil 45 2]⟩
  | 44 => ⟨(.st [(0, 3), (1, 3)]), 2, 16, [.int .i64 0, .int .i64 0], [.int .i64 0, .int .i64 0]⟩
  | 45 => ⟨(.st [(0, 3), (1, 3)]), 2, 16, [.int .i64 0, .int .i64 0], [.int .i64 0, .int .i64 0]⟩
  | 46 => ⟨(.int .u32), 1, 4, [.int .u32 0], [.int .u32 0]⟩
  | 47 => ⟨.func, 1, 8, [.nilFunc], [.raw .nilFunc]⟩
  | 48 => ⟨(.ptr 55), 1, 8, [.pointer none], [.raw (.pointer none)]⟩
  | 49 => ⟨.func, 1, 8, [.nilFunc], [.raw .nilFunc]⟩
  | 50 => ⟨.func, 1, 8, [.nilFunc], [.raw .nilFunc]⟩
  | 51 => ⟨(.int .u64), 1, 8, [.int .u64 0], [.int .u64 0]⟩
  | 52 => ⟨(.sl 58), 1, 24, [.slice none 0 0], [.nil 58 3]⟩
  | 53 => ⟨(.sl 61), 1, 24, [.slice none 0 0], [.nil 61 3]⟩
  | 54 => ⟨(.st [(0, 52), (1, 53), (2, 3)]), 3, 56, [.slice none 0 0, .slice none 0 0, .int .i64 0], [.nil 58 3, .nil 61 3, .int .i64 0]⟩
  | 55 => ⟨(.st [(0, 52), (1, 53), (2, 3)]), 3, 56, [.slice none 0 0, .slice none 0 0, .int .i64 0], [.nil 58 3, .nil 61 3, .int .i64 0]⟩
  | 56 => ⟨(.int .u16), 1, 2, [.int .u16 0], [.int .u16 0]⟩
  | 57 => ⟨(.st [(0, 56), (1, 56), (2, 56)]), 3, 6, [.int .u16 0, .int .u16 0, .int .u16 0], [.int .u16 0, .int .u16 0, .int .u16 0]⟩
  | 58 => ⟨(.st [(0, 56), (1, 56), (2, 56)]), 3, 6, [.int .u16 0, .int .u16 0, .int .u16 0], [.int .u16 0, .int .u16 0, .int .u16 0]⟩
  | 59 => ⟨.func, 1, 8, [.nilFunc], [.raw .nilFunc]⟩
  | 60 => ⟨(.st [(0, 46), (1, 46), (2, 46)]), 3, 12, [.int .u32 0, .int .u32 0, .int .u32 0], [.int .u32 0, .int .u32 0, .int .u32 0]⟩
  | 61 => ⟨(.st [(0, 46), (1, 46), (2, 46)]), 3, 12, [.int .u32 0, .int .u32 0, .int .u32 0], [.int .u32 0, .int .u32 0, .int .u32 0]⟩
  | 62 => ⟨.func, 1, 8, [.nilFunc], [.raw .nilFunc]⟩
  | 64 => ⟨.func, 1, 8, [.nilFunc], [.raw .nilFunc]⟩
  | 65 => ⟨(.ptr 58), 1, 8, [.pointer none], [.raw (.pointer none)]⟩
  | 66 => ⟨(.ptr 61), 1, 8, [.pointer none], [.raw (.pointer none)]⟩
  | 67 => ⟨.func, 1, 8, [.nilFunc], [.raw .nilFunc]⟩
  | 68 => ⟨(.st [(0, 17), (1, 17), (2, 17), (3, 9)]), 4, 40, [.pointer none, .pointer none, .pointer none, .string ⟨#[]⟩], [.raw (.pointer none), .raw (.pointer none), .raw (.pointer none), .str []]⟩
  | 69 => ⟨(.st [(0, 17), (1, 17), (2, 17), (3, 9)]), 4, 40, [.pointer none, .pointer none, .pointer none, .string ⟨#[]⟩], [.raw (.pointer none), .raw (.pointer none), .raw (.pointer none), .str []]⟩
  | 70 => ⟨(.arr 0 16), 0, 0, [], []⟩
  | 71 => ⟨(.st [(0, 70)]), 0, 0, [], []⟩
  | 72 => ⟨(.st [(0, 70)]), 0, 0, [], []⟩
  | 73 => ⟨.func, 1, 8, [.nilFunc], [.raw .nilFunc]⟩
  | 74 => ⟨(.int .u8), 1, 1, [.int .u8 0], [.int .u8 0]⟩
  | 75 => ⟨(.int .u8), 1, 1, [.int .u8 0], [.int .u8 0]⟩
  | 76 => ⟨.func, 1, 8, [.nilFunc], [.raw .nilFunc]⟩
  | 77 => ⟨(.ptr 5), 1, 8, [.pointer none], [.raw (.pointer none)]⟩
  | 78 => ⟨(.int .i32), 1, 4, [.int .i32 0], [.int .i32 0]⟩
  | 79 => ⟨(.int .i32), 1, 4, [.int .i32 0], [.int .i32 0]⟩
  | 80 => ⟨(.st [(0, 12), (1, 12), (2, 46), (3, 74), (4, 5), (5, 5), (6, 75), (7, 76), (8, 77), (9, 78), (10, 79)]), 11, 48, [.int .u64 0, .int .u64 0, .int .u32 0, .int .u8 0, .int .u8 0, .int .u8 0, .int .u8 0, .nilFunc, .pointer none, .int .i32 0, .int .i32 0], [.int .u64 0, .int .u64 0, .int .u32 0, .int .u8 0, .int .u8 0, .int .u8 0, .int .u8 0, .raw .nilFunc, .raw (.pointer none), .int .i32 0, .int .i32 0]⟩
  | 81 => ⟨(.st [(0, 12), (1, 12), (2, 46), (3, 74), (4, 5), (5, 5), (6, 75), (7, 76), (8, 77), (9, 78), (10, 79)]), 11, 48, [.int .u64 0, .int .u64 0, .int .u32 0, .int .u8 0, .int .u8 0, .int .u8 0, .int .u8 0, .nilFunc, .pointer none, .int .i32 0, .int .i32 0], [.int .u64 0, .int .u64 0, .int .u32 0, .int .u8 0, .int .u8 0, .int .u8 0, .int .u8 0, .raw .nilFunc, .raw (.pointer none), .int .i32 0, .int .i32 0]⟩
  | _ => TI.no
theorem tok : TOk Tryd.prog T := by
  intro t
  unfold T
  split <;> first | exact .inl rfl | exact .inr ⟨by kernel_rfl, by kernel_rfl⟩
theorem mixed : Tryd.prog.follows .mixedOrders = true := by kernel_rfl
end Go.Proofs.YtoajalcngklenaaDoor
