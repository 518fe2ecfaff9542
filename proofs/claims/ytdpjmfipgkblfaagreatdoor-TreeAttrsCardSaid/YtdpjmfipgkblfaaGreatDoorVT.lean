/- The types of the seat YtdpjmfipgkblfaaGreatDoor, as a table for V; the program draws its orders. -/
import Derived.Test.YtdpjmfipgkblfaaGreatDoorProg
import Derived.Test.YtdpjmfipgkblfaaGreatDoorV19
namespace Go.Proofs.YtdpjmfipgkblfaaGreatDoor
open Go.V
def T : Nat → TI
  | 1 => ⟨.func, 1, 8, [.nilFunc], [.raw .nilFunc], false⟩
  | 2 => ⟨(.int .i64), 1, 8, [.int .i64 0], [.int .i64 0], false⟩
  | 3 => ⟨(.int .i64), 1, 8, [.int .i64 0], [.int .i64 0], false⟩
  | 4 => ⟨.bool, 1, 1, [.bool false], [.bool false], false⟩
  | 5 => ⟨(.int .u8), 1, 1, [.int .u8 0], [.int .u8 0], false⟩
  | 6 => ⟨(.int .u8), 1, 1, [.int .u8 0], [.int .u8 0], false⟩
  | 7 => ⟨(.st [(0, 2), (1, 3), (2, 4), (3, 6)]), 4, 24, [.int .i64 0, .int .i64 0, .bool false, .int .u8 0], [.int .i64 0, .int .i64 0, .bool false, .int .u8 0], true⟩
  | 8 => ⟨(.st [(0, 2), (1, 3), (2, 4), (3, 6)]), 4, 24, [.int .i64 0, .int .i64 0, .bool false, .int .u8 0], [.int .i64 0, .int .i64 0, .bool false, .int .u8 0], true⟩
  | 9 => ⟨.str, 1, 16, [.string ⟨#[]⟩], [.str []], false⟩
  | 10 => ⟨.str, 1, 16, [.string ⟨#[]⟩], [.str []], false⟩
  | 11 => ⟨.str, 1, 16, [.string ⟨#[]⟩], [.str []], false⟩
  | 12 => ⟨(.int .u64), 1, 8, [.int .u64 0], [.int .u64 0], false⟩
  | 13 => ⟨(.st [(0, 9), (1, 12)]), 2, 24, [.string ⟨#[]⟩, .int .u64 0], [.str [], .int .u64 0], false⟩
  | 14 => ⟨(.st [(0, 9), (1, 12)]), 2, 24, [.string ⟨#[]⟩, .int .u64 0], [.str [], .int .u64 0], false⟩
  | 15 => ⟨(.ptr 158), 1, 8, [.pointer none], [.raw (.pointer none)], false⟩
  | 16 => ⟨(.ptr 161), 1, 8, [.pointer none], [.raw (.pointer none)], false⟩
  | 17 => ⟨(.ptr 170), 1, 8, [.pointer none], [.raw (.pointer none)], false⟩
  | 18 => ⟨(.st [(0, 17)]), 1, 8, [.pointer none], [.raw (.pointer none)], false⟩
  | 19 => ⟨(.st [(0, 17)]), 1, 8, [.pointer none], [.raw (.pointer none)], false⟩
  | 20 => ⟨.iface, 1, 16, [.nilIface], [.raw .nilIface], false⟩
  | 21 => ⟨(.int .i32), 1, 4, [.int .i32 0], [.int .i32 0], false⟩
  | 22 => ⟨(.int .u16), 1, 2, [.int .u16 0], [.int .u16 0], false⟩
  | 23 => ⟨.func, 1, 8, [.nilFunc], [.raw .nilFunc], false⟩
  | 24 => ⟨(.sl 43), 1, 24, [.slice none 0 0], [.nil 43 6], false⟩
  | 25 => ⟨(.sl 48), 1, 24, [.slice none 0 0], [.nil 48 2], false⟩
  | 27 => ⟨.func, 1, 8, [.nilFunc], [.raw .nilFunc], false⟩
  | 28 => ⟨(.sl 38), 1, 24, [.slice none 0 0], [.nil 38 5], false⟩
  | 29 => ⟨(.int .u16), 1, 2, [.int .u16 0], [.int .u16 0], false⟩
  | 31 => ⟨.func, 1, 8, [.nilFunc], [.raw .nilFunc], false⟩
  | 32 => ⟨.func, 1, 8, [.nilFunc], [.raw .nilFunc], false⟩
  | 33 => ⟨.func, 1, 8, [.nilFunc], [.raw .nilFunc], false⟩
  | 34 => ⟨.func, 1, 8, [.nilFunc], [.raw .nilFunc], false⟩
  | 35 => ⟨.func, 1, 8, [.nilFunc], [.raw .nilFunc], false⟩
  | 36 => ⟨(.sl 41), 1, 24, [.slice none 0 0], [.nil 41 2], false⟩
  | 37 => ⟨(.st [(0, 3), (1, 5), (2, 9), (3, 9), (4, 36)]), 5, 72, [.int .i64 0, .int .u8 0, .string ⟨#[]⟩, .string ⟨#[]⟩, .slice none 0 0], [.int .i64 0, .int .u8 0, .str [], .str [], .nil 41 2], false⟩
  | 38 => ⟨(.st [(0, 3), (1, 5), (2, 9), (3, 9), (4, 36)]), 5, 72, [.int .i64 0, .int .u8 0, .string ⟨#[]⟩, .string ⟨#[]⟩, .slice none 0 0], [.int .i64 0, .int .u8 0, .str [], .str [], .nil 41 2], false⟩
  | 39 => ⟨.func, 1, 8, [.nilFunc], [.raw .nilFunc], false⟩
  | 40 => ⟨(.st [(0, 9), (1, 9)]), 2, 32, [.string ⟨#[]⟩, .string ⟨#[]⟩], [.str [], .str []], true⟩
  | 41 => ⟨(.st [(0, 9), (1, 9)]), 2, 32, [.string ⟨#[]⟩, .string ⟨#[]⟩], [.str [], .str []], true⟩
  | 42 => ⟨(.st [(0, 5), (1, 9), (2, 36), (3, 4), (4, 9), (5, 3)]), 6, 80, [.int .u8 0, .string ⟨#[]⟩, .slice none 0 0, .bool false, .string ⟨#[]⟩, .int .i64 0], [.int .u8 0, .str [], .nil 41 2, .bool false, .str [], .int .i64 0], false⟩
  | 43 => ⟨(.st [(0, 5), (1, 9), (2, 36), (3, 4), (4, 9), (5, 3)]), 6, 80, [.int .u8 0, .string ⟨#[]⟩, .slice none 0 0, .bool false, .string ⟨#[]⟩, .int .i64 0], [.int .u8 0, .str [], .nil 41 2, .bool false, .str [], .int .i64 0], false⟩
  | 44 => ⟨.func, 1, 8, [.nilFunc], [.raw .nilFunc], false⟩
  | 45 => ⟨.func, 1, 8, [.nilFunc], [.raw .nilFunc], false⟩
  | 46 => ⟨(.sl 9), 1, 24, [.slice none 0 0], [.nil 9 1], false⟩
  | 47 => ⟨(.st [(0, 5), (1, 3)]), 2, 16, [.int .u8 0, .int .i64 0], [.int .u8 0, .int .i64 0], true⟩
  | 48 => ⟨(.st [(0, 5), (1, 3)]), 2, 16, [.int .u8 0, .int .i64 0], [.int .u8 0, .int .i64 0], true⟩
  | 49 => ⟨.func, 1, 8, [.nilFunc], [.raw .nilFunc], false⟩
  | 50 => ⟨.func, 1, 8, [.nilFunc], [.raw .nilFunc], false⟩
  | 51 => ⟨.func, 1, 8, [.nilFunc], [.raw .nilFunc], false⟩
  | 52 => ⟨.func, 1, 8, [.nilFunc], [.raw .nilFunc], false⟩
  | 53 => ⟨(.sl 5), 1, 24, [.slice none 0 0], [.nil 5 1], false⟩
  | 54 => ⟨.func, 1, 8, [.nilFunc], [.raw .nilFunc], false⟩
  | 55 => ⟨.func, 1, 8, [.nilFunc], [.raw .nilFunc], false⟩
  | 56 => ⟨(.ptr 58), 1, 8, [.pointer none], [.raw (.pointer none)], false⟩
  | 57 => ⟨(.st [(0, 9), (1, 3), (2, 24), (3, 25), (4, 53), (5, 3)]), 6, 104, [.string ⟨#[]⟩, .int .i64 0, .slice none 0 0, .slice none 0 0, .slice none 0 0, .int .i64 0], [.str [], .int .i64 0, .nil 43 6, .nil 48 2, .nil 5 1, .int .i64 0], false⟩
  | 58 => ⟨(.st [(0, 9), (1, 3), (2, 24), (3, 25), (4, 53), (5, 3)]), 6, 104, [.string ⟨#[]⟩, .int .i64 0, .slice none 0 0, .slice none 0 0, .slice none 0 0, .int .i64 0], [.str [], .int .i64 0, .nil 43 6, .nil 48 2, .nil 5 1, .int .i64 0], false⟩
  | 59 => ⟨.func, 1, 8, [.nilFunc], [.raw .nilFunc], false⟩
  | 61 => ⟨.func, 1, 8, [.nilFunc], [.raw .nilFunc], false⟩
  | 62 => ⟨.func, 1, 8, [.nilFunc], [.raw .nilFunc], false⟩
  | 63 => ⟨(.ptr 67), 1, 8, [.pointer none], [.raw (.pointer none)], false⟩
  | 64 => ⟨(.st [(0, 46)]), 1, 24, [.slice none 0 0], [.nil 9 1], false⟩
  | 65 => ⟨(.st [(0, 46)]), 1, 24, [.slice none 0 0], [.nil 9 1], false⟩
  | 66 => ⟨(.st [(0, 65), (1, 28), (2, 25), (3, 3)]), 4, 80, [.slice none 0 0, .slice none 0 0, .slice none 0 0, .int .i64 0], [.nil 9 1, .nil 38 5, .nil 48 2, .int .i64 0], false⟩
  | 67 => ⟨(.st [(0, 65), (1, 28), (2, 25), (3, 3)]), 4, 80, [.slice none 0 0, .slice none 0 0, .slice none 0 0, .int .i64 0], [.nil 9 1, .nil 38 5, .nil 48 2, .int .i64 0], false⟩
  | 68 => ⟨.func, 1, 8, [.nilFunc], [.raw .nilFunc], false⟩
  | 69 => ⟨.func, 1, 8, [.nilFunc], [.raw .nilFunc], false⟩
  | 70 => ⟨.func, 1, 8, [.nilFunc], [.raw .nilFunc], false⟩
  | 71 => ⟨.func, 1, 8, [.nilFunc], [.raw .nilFunc], false⟩
  | 72 => ⟨.func, 1, 8, [.nilFunc], [.raw .nilFunc], false⟩
  | 74 => ⟨.func, 1, 8, [.nilFunc], [.raw .nilFunc], false⟩
  | 75 => ⟨.func, 1, 8, [.nilFunc], [.raw .nilFunc], false⟩
  | 76 => ⟨.func, 1, 8, [.nilFunc], [.raw .nilFunc], false⟩
  | 77 => ⟨.func, 1, 8, [.nilFunc], [.raw .nilFunc], false⟩
  | 79 => ⟨.func, 1, 8, [.nilFunc], [.raw .nilFunc], false⟩
  | 80 => ⟨.func, 1, 8, [.nilFunc], [.raw .nilFunc], false⟩
  | 81 => ⟨(.sl 21), 1, 24, [.slice none 0 0], [.nil 21 1], false⟩
  | 82 => ⟨.func, 1, 8, [.nilFunc], [.raw .nilFunc], false⟩
  | 83 => ⟨.func, 1, 8, [.nilFunc], [.raw .nilFunc], false⟩
  | 84 => ⟨.func, 1, 8, [.nilFunc], [.raw .nilFunc], false⟩
  | 85 => ⟨.func, 1, 8, [.nilFunc], [.raw .nilFunc], false⟩
  | 86 => ⟨.func, 1, 8, [.nilFunc], [.raw .nilFunc], false⟩
  | 87 => ⟨.func, 1, 8, [.nilFunc], [.raw .nilFunc], false⟩
  | 88 => ⟨.func, 1, 8, [.nilFunc], [.raw .nilFunc], false⟩
  | 89 => ⟨(.ptr 91), 1, 8, [.pointer none], [.raw (.pointer none)], false⟩
  | 90 => ⟨(.st [(0, 28), (1, 25), (2, 46), (3, 3)]), 4, 80, [.slice none 0 0, .slice none 0 0, .slice none 0 0, .int .i64 0], [.nil 38 5, .nil 48 2, .nil 9 1, .int .i64 0], false⟩
  | 91 => ⟨(.st [(0, 28), (1, 25), (2, 46), (3, 3)]), 4, 80, [.slice none 0 0, .slice none 0 0, .slice none 0 0, .int .i64 0], [.nil 38 5, .nil 48 2, .nil 9 1, .int .i64 0], false⟩
  | 92 => ⟨.func, 1, 8, [.nilFunc], [.raw .nilFunc], false⟩
  | 94 => ⟨.func, 1, 8, [.nilFunc], [.raw .nilFunc], false⟩
  | 95 => ⟨.func, 1, 8, [.nilFunc], [.raw .nilFunc], false⟩
  | 96 => ⟨.func, 1, 8, [.nilFunc], [.raw .nilFunc], false⟩
  | 97 => ⟨.func, 1, 8, [.nilFunc], [.raw .nilFunc], false⟩
  | 98 => ⟨.func, 1, 8, [.nilFunc], [.raw .nilFunc], false⟩
  | 99 => ⟨.func, 1, 8, [.nilFunc], [.raw .nilFunc], false⟩
  | 100 => ⟨.func, 1, 8, [.nilFunc], [.raw .nilFunc], false⟩
  | 101 => ⟨.func, 1, 8, [.nilFunc], [.raw .nilFunc], false⟩
  | 102 => ⟨.func, 1, 8, [.nilFunc], [.raw .nilFunc], false⟩
  | 103 => ⟨.func, 1, 8, [.nilFunc], [.raw .nilFunc], false⟩
  | 104 => ⟨.func, 1, 8, [.nilFunc], [.raw .nilFunc], false⟩
  | 105 => ⟨.func, 1, 8, [.nilFunc], [.raw .nilFunc], false⟩
  | 106 => ⟨.func, 1, 8, [.nilFunc], [.raw .nilFunc], false⟩
  | 107 => ⟨.func, 1, 8, [.nilFunc], [.raw .nilFunc], false⟩
  | 109 => ⟨.func, 1, 8, [.nilFunc], [.raw .nilFunc], false⟩
  | 110 => ⟨.func, 1, 8, [.nilFunc], [.raw .nilFunc], false⟩
  | 111 => ⟨.func, 1, 8, [.nilFunc], [.raw .nilFunc], false⟩
  | 112 => ⟨(.ptr 65), 1, 8, [.pointer none], [.raw (.pointer none)], false⟩
  | 113 => ⟨.func, 1, 8, [.nilFunc], [.raw .nilFunc], false⟩
  | 114 => ⟨.func, 1, 8, [.nilFunc], [.raw .nilFunc], false⟩
  | 115 => ⟨.func, 1, 8, [.nilFunc], [.raw .nilFunc], false⟩
  | 116 => ⟨.func, 1, 8, [.nilFunc], [.raw .nilFunc], false⟩
  | 117 => ⟨.func, 1, 8, [.nilFunc], [.raw .nilFunc], false⟩
  | 118 => ⟨.func, 1, 8, [.nilFunc], [.raw .nilFunc], false⟩
  | 119 => ⟨.func, 1, 8, [.nilFunc], [.raw .nilFunc], false⟩
  | 120 => ⟨.func, 1, 8, [.nilFunc], [.raw .nilFunc], false⟩
  | 121 => ⟨.func, 1, 8, [.nilFunc], [.raw .nilFunc], false⟩
  | 123 => ⟨.func, 1, 8, [.nilFunc], [.raw .nilFunc], false⟩
  | 124 => ⟨.func, 1, 8, [.nilFunc], [.raw .nilFunc], false⟩
  | 125 => ⟨.func, 1, 8, [.nilFunc], [.raw .nilFunc], false⟩
  | 126 => ⟨.func, 1, 8, [.nilFunc], [.raw .nilFunc], false⟩
  | 127 => ⟨.func, 1, 8, [.nilFunc], [.raw .nilFunc], false⟩
  | 128 => ⟨.func, 1, 8, [.nilFunc], [.raw .nilFunc], false⟩
  | 132 => ⟨.func, 1, 8, [.nilFunc], [.raw .nilFunc], false⟩
  | 133 => ⟨(.sl 135), 1, 24, [.slice none 0 0], [.nil 135 2], false⟩
  | 134 => ⟨(.st [(0, 3), (1, 3)]), 2, 16, [.int .i64 0, .int .i64 0], [.int .i64 0, .int .i64 0], true⟩
  | 135 => ⟨(.st [(0, 3), (1, 3)]), 2, 16, [.int .i64 0, .int .i64 0], [.int .i64 0, .int .i64 0], true⟩
  | 136 => ⟨(.int .u32), 1, 4, [.int .u32 0], [.int .u32 0], false⟩
  | 137 => ⟨.func, 1, 8, [.nilFunc], [.raw .nilFunc], false⟩
  | 138 => ⟨(.ptr 146), 1, 8, [.pointer none], [.raw (.pointer none)], false⟩
  | 139 => ⟨.func, 1, 8, [.nilFunc], [.raw .nilFunc], false⟩
  | 140 => ⟨.func, 1, 8, [.nilFunc], [.raw .nilFunc], false⟩
  | 141 => ⟨(.int .u64), 1, 8, [.int .u64 0], [.int .u64 0], false⟩
  | 142 => ⟨(.ptr 130), 1, 8, [.pointer none], [.raw (.pointer none)], false⟩
  | 143 => ⟨(.sl 148), 1, 24, [.slice none 0 0], [.nil 148 3], false⟩
  | 144 => ⟨(.sl 151), 1, 24, [.slice none 0 0], [.nil 151 3], false⟩
  | 145 => ⟨(.st [(0, 143), (1, 144), (2, 3)]), 3, 56, [.slice none 0 0, .slice none 0 0, .int .i64 0], [.nil 148 3, .nil 151 3, .int .i64 0], false⟩
  | 146 => ⟨(.st [(0, 143), (1, 144), (2, 3)]), 3, 56, [.slice none 0 0, .slice none 0 0, .int .i64 0], [.nil 148 3, .nil 151 3, .int .i64 0], false⟩
  | 147 => ⟨(.st [(0, 22), (1, 22), (2, 22)]), 3, 6, [.int .u16 0, .int .u16 0, .int .u16 0], [.int .u16 0, .int .u16 0, .int .u16 0], true⟩
  | 148 => ⟨(.st [(0, 22), (1, 22), (2, 22)]), 3, 6, [.int .u16 0, .int .u16 0, .int .u16 0], [.int .u16 0, .int .u16 0, .int .u16 0], true⟩
  | 149 => ⟨.func, 1, 8, [.nilFunc], [.raw .nilFunc], false⟩
  | 150 => ⟨(.st [(0, 136), (1, 136), (2, 136)]), 3, 12, [.int .u32 0, .int .u32 0, .int .u32 0], [.int .u32 0, .int .u32 0, .int .u32 0], true⟩
  | 151 => ⟨(.st [(0, 136), (1, 136), (2, 136)]), 3, 12, [.int .u32 0, .int .u32 0, .int .u32 0], [.int .u32 0, .int .u32 0, .int .u32 0], true⟩
  | 152 => ⟨.func, 1, 8, [.nilFunc], [.raw .nilFunc], false⟩
  | 153 => ⟨(.ptr 148), 1, 8, [.pointer none], [.raw (.pointer none)], false⟩
  | 154 => ⟨(.ptr 151), 1, 8, [.pointer none], [.raw (.pointer none)], false⟩
  | 156 => ⟨.func, 1, 8, [.nilFunc], [.raw .nilFunc], false⟩
  | 157 => ⟨(.st [(0, 17), (1, 17), (2, 17), (3, 9)]), 4, 40, [.pointer none, .pointer none, .pointer none, .string ⟨#[]⟩], [.raw (.pointer none), .raw (.pointer none), .raw (.pointer none), .str []], false⟩
  | 158 => ⟨(.st [(0, 17), (1, 17), (2, 17), (3, 9)]), 4, 40, [.pointer none, .pointer none, .pointer none, .string ⟨#[]⟩], [.raw (.pointer none), .raw (.pointer none), .raw (.pointer none), .str []], false⟩
  | 159 => ⟨(.arr 0 16), 0, 0, [], [], false⟩
  | 160 => ⟨(.st [(0, 159)]), 0, 0, [], [], false⟩
  | 161 => ⟨(.st [(0, 159)]), 0, 0, [], [], false⟩
  | 162 => ⟨.func, 1, 8, [.nilFunc], [.raw .nilFunc], false⟩
  | 163 => ⟨(.int .u8), 1, 1, [.int .u8 0], [.int .u8 0], false⟩
  | 164 => ⟨(.int .u8), 1, 1, [.int .u8 0], [.int .u8 0], false⟩
  | 165 => ⟨.func, 1, 8, [.nilFunc], [.raw .nilFunc], false⟩
  | 166 => ⟨(.ptr 5), 1, 8, [.pointer none], [.raw (.pointer none)], false⟩
  | 167 => ⟨(.int .i32), 1, 4, [.int .i32 0], [.int .i32 0], false⟩
  | 168 => ⟨(.int .i32), 1, 4, [.int .i32 0], [.int .i32 0], false⟩
  | 169 => ⟨(.st [(0, 12), (1, 12), (2, 136), (3, 163), (4, 5), (5, 5), (6, 164), (7, 165), (8, 166), (9, 167), (10, 168)]), 11, 48, [.int .u64 0, .int .u64 0, .int .u32 0, .int .u8 0, .int .u8 0, .int .u8 0, .int .u8 0, .nilFunc, .pointer none, .int .i32 0, .int .i32 0], [.int .u64 0, .int .u64 0, .int .u32 0, .int .u8 0, .int .u8 0, .int .u8 0, .int .u8 0, .raw .nilFunc, .raw (.pointer none), .int .i32 0, .int .i32 0], false⟩
  | 170 => ⟨(.st [(0, 12), (1, 12), (2, 136), (3, 163), (4, 5), (5, 5), (6, 164), (7, 165), (8, 166), (9, 167), (10, 168)]), 11, 48, [.int .u64 0, .int .u64 0, .int .u32 0, .int .u8 0, .int .u8 0, .int .u8 0, .int .u8 0, .nilFunc, .pointer none, .int .i32 0, .int .i32 0], [.int .u64 0, .int .u64 0, .int .u32 0, .int .u8 0, .int .u8 0, .int .u8 0, .int .u8 0, .raw .nilFunc, .raw (.pointer none), .int .i32 0, .int .i32 0], false⟩
  | _ => TI.no
theorem tok : TOk Tryz.prog T := by
  intro t
  unfold T
  split <;> first | exact .inl rfl | exact .inr ⟨by kernel_rfl, by kernel_rfl, .inl rfl⟩ | exact .inr ⟨by kernel_rfl, by kernel_rfl, .inr (by kernel_rfl)⟩
@[go_sem] theorem T_1 : T 1 = ⟨.func, 1, 8, [.nilFunc], [.raw .nilFunc], false⟩ := by kernel_rfl
@[go_sem] theorem T_2 : T 2 = ⟨(.int .i64), 1, 8, [.int .i64 0], [.int .i64 0], false⟩ := by kernel_rfl
@[go_sem] theorem T_3 : T 3 = ⟨(.int .i64), 1, 8, [.int .i64 0], [.int .i64 0], false⟩ := by kernel_rfl
@[go_sem] theorem T_4 : T 4 = ⟨.bool, 1, 1, [.bool false], [.bool false], false⟩ := by kernel_rfl
@[go_sem] theorem T_5 : T 5 = ⟨(.int .u8), 1, 1, [.int .u8 0], [.int .u8 0], false⟩ := by kernel_rfl
@[go_sem] theorem T_6 : T 6 = ⟨(.int .u8), 1, 1, [.int .u8 0], [.int .u8 0], false⟩ := by kernel_rfl
@[go_sem] theorem T_7 : T 7 = ⟨(.st [(0, 2), (1, 3), (2, 4), (3, 6)]), 4, 24, [.int .i64 0, .int .i64 0, .bool false, .int .u8 0], [.int .i64 0, .int .i64 0, .bool false, .int .u8 0], true⟩ := by kernel_rfl
@[go_sem] theorem T_8 : T 8 = ⟨(.st [(0, 2), (1, 3), (2, 4), (3, 6)]), 4, 24, [.int .i64 0, .int .i64 0, .bool false, .int .u8 0], [.int .i64 0, .int .i64 0, .bool false, .int .u8 0], true⟩ := by kernel_rfl
@[go_sem] theorem T_9 : T 9 = ⟨.str, 1, 16, [.string ⟨#[]⟩], [.str []], false⟩ := by kernel_rfl
@[go_sem] theorem T_10 : T 10 = ⟨.str, 1, 16, [.string ⟨#[]⟩], [.str []], false⟩ := by kernel_rfl
@[go_sem] theorem T_11 : T 11 = ⟨.str, 1, 16, [.string ⟨#[]⟩], [.str []], false⟩ := by kernel_rfl
@[go_sem] theorem T_12 : T 12 = ⟨(.int .u64), 1, 8, [.int .u64 0], [.int .u64 0], false⟩ := by kernel_rfl
@[go_sem] theorem T_13 : T 13 = ⟨(.st [(0, 9), (1, 12)]), 2, 24, [.string ⟨#[]⟩, .int .u64 0], [.str [], .int .u64 0], false⟩ := by kernel_rfl
@[go_sem] theorem T_14 : T 14 = ⟨(.st [(0, 9), (1, 12)]), 2, 24, [.string ⟨#[]⟩, .int .u64 0], [.str [], .int .u64 0], false⟩ := by kernel_rfl
@[go_sem] theorem T_15 : T 15 = ⟨(.ptr 158), 1, 8, [.pointer none], [.raw (.pointer none)], false⟩ := by kernel_rfl
@[go_sem] theorem T_16 : T 16 = ⟨(.ptr 161), 1, 8, [.pointer none], [.raw (.pointer none)], false⟩ := by kernel_rfl
@[go_sem] theorem T_17 : T 17 = ⟨(.ptr 170), 1, 8, [.pointer none], [.raw (.pointer none)], false⟩ := by kernel_rfl
@[go_sem] theorem T_18 : T 18 = ⟨(.st [(0, 17)]), 1, 8, [.pointer none], [.raw (.pointer none)], false⟩ := by kernel_rfl
@[go_sem] theorem T_19 : T 19 = ⟨(.st [(0, 17)]), 1, 8, [.pointer none], [.raw (.pointer none)], false⟩ := by kernel_rfl
@[go_sem] theorem T_20 : T 20 = ⟨.iface, 1, 16, [.nilIface], [.raw .nilIface], false⟩ := by kernel_rfl
@[go_sem] theorem T_21 : T 21 = ⟨(.int .i32), 1, 4, [.int .i32 0], [.int .i32 0], false⟩ := by kernel_rfl
@[go_sem] theorem T_22 : T 22 = ⟨(.int .u16), 1, 2, [.int .u16 0], [.int .u16 0], false⟩ := by kernel_rfl
@[go_sem] theorem T_23 : T 23 = ⟨.func, 1, 8, [.nilFunc], [.raw .nilFunc], false⟩ := by kernel_rfl
@[go_sem] theorem T_24 : T 24 = ⟨(.sl 43), 1, 24, [.slice none 0 0], [.nil 43 6], false⟩ := by kernel_rfl
@[go_sem] theorem T_25 : T 25 = ⟨(.sl 48), 1, 24, [.slice none 0 0], [.nil 48 2], false⟩ := by kernel_rfl
@[go_sem] theorem T_27 : T 27 = ⟨.func, 1, 8, [.nilFunc], [.raw .nilFunc], false⟩ := by kernel_rfl
@[go_sem] theorem T_28 : T 28 = ⟨(.sl 38), 1, 24, [.slice none 0 0], [.nil 38 5], false⟩ := by kernel_rfl
@[go_sem] theorem T_29 : T 29 = ⟨(.int .u16), 1, 2, [.int .u16 0], [.int .u16 0], false⟩ := by kernel_rfl
@[go_sem] theorem T_31 : T 31 = ⟨.func, 1, 8, [.nilFunc], [.raw .nilFunc], false⟩ := by kernel_rfl
@[go_sem] theorem T_32 : T 32 = ⟨.func, 1, 8, [.nilFunc], [.raw .nilFunc], false⟩ := by kernel_rfl
@[go_sem] theorem T_33 : T 33 = ⟨.func, 1, 8, [.nilFunc], [.raw .nilFunc], false⟩ := by kernel_rfl
@[go_sem] theorem T_34 : T 34 = ⟨.func, 1, 8, [.nilFunc], [.raw .nilFunc], false⟩ := by kernel_rfl
@[go_sem] theorem T_35 : T 35 = ⟨.func, 1, 8, [.nilFunc], [.raw .nilFunc], false⟩ := by kernel_rfl
@[go_sem] theorem T_36 : T 36 = ⟨(.sl 41), 1, 24, [.slice none 0 0], [.nil 41 2], false⟩ := by kernel_rfl
@[go_sem] theorem T_37 : T 37 = ⟨(.st [(0, 3), (1, 5), (2, 9), (3, 9), (4, 36)]), 5, 72, [.int .i64 0, .int .u8 0, .string ⟨#[]⟩, .string ⟨#[]⟩, .slice none 0 0], [.int .i64 0, .int .u8 0, .str [], .str [], .nil 41 2], false⟩ := by kernel_rfl
@[go_sem] theorem T_38 : T 38 = ⟨(.st [(0, 3), (1, 5), (2, 9), (3, 9), (4, 36)]), 5, 72, [.int .i64 0, .int .u8 0, .string ⟨#[]⟩, .string ⟨#[]⟩, .slice none 0 0], [.int .i64 0, .int .u8 0, .str [], .str [], .nil 41 2], false⟩ := by kernel_rfl
@[go_sem] theorem T_39 : T 39 = ⟨.func, 1, 8, [.nilFunc], [.raw .nilFunc], false⟩ := by kernel_rfl
@[go_sem] theorem T_40 : T 40 = ⟨(.st [(0, 9), (1, 9)]), 2, 32, [.string ⟨#[]⟩, .string ⟨#[]⟩], [.str [], .str []], true⟩ := by kernel_rfl
@[go_sem] theorem T_41 : T 41 = ⟨(.st [(0, 9), (1, 9)]), 2, 32, [.string ⟨#[]⟩, .string ⟨#[]⟩], [.str [], .str []], true⟩ := by kernel_rfl
@[go_sem] theorem T_42 : T 42 = ⟨(.st [(0, 5), (1, 9), (2, 36), (3, 4), (4, 9), (5, 3)]), 6, 80, [.int .u8 0, .string ⟨#[]⟩, .slice none 0 0, .bool false, .string ⟨#[]⟩, .int .i64 0], [.int .u8 0, .str [], .nil 41 2, .bool false, .str [], .int .i64 0], false⟩ := by kernel_rfl
@[go_sem] theorem T_43 : T 43 = ⟨(.st [(0, 5), (1, 9), (2, 36), (3, 4), (4, 9), (5, 3)]), 6, 80, [.int .u8 0, .string ⟨#[]⟩, .slice none 0 0, .bool false, .string ⟨#[]⟩, .int .i64 0], [.int .u8 0, .str [], .nil 41 2, .bool false, .str [], .int .i64 0], false⟩ := by kernel_rfl
@[go_sem] theorem T_44 : T 44 = ⟨.func, 1, 8, [.nilFunc], [.raw .nilFunc], false⟩ := by kernel_rfl
@[go_sem] theorem T_45 : T 45 = ⟨.func, 1, 8, [.nilFunc], [.raw .nilFunc], false⟩ := by kernel_rfl
@[go_sem] theorem T_46 : T 46 = ⟨(.sl 9), 1, 24, [.slice none 0 0], [.nil 9 1], false⟩ := by kernel_rfl
@[go_sem] theorem T_47 : T 47 = ⟨(.st [(0, 5), (1, 3)]), 2, 16, [.int .u8 0, .int .i64 0], [.int .u8 0, .int .i64 0], true⟩ := by kernel_rfl
@[go_sem] theorem T_48 : T 48 = ⟨(.st [(0, 5), (1, 3)]), 2, 16, [.int .u8 0, .int .i64 0], [.int .u8 0, .int .i64 0], true⟩ := by kernel_rfl
@[go_sem] theorem T_49 : T 49 = ⟨.func, 1, 8, [.nilFunc], [.raw .nilFunc], false⟩ := by kernel_rfl
@[go_sem] theorem T_50 : T 50 = ⟨.func, 1, 8, [.nilFunc], [.raw .nilFunc], false⟩ := by kernel_rfl
@[go_sem] theorem T_51 : T 51 = ⟨.func, 1, 8, [.nilFunc], [.raw .nilFunc], false⟩ := by kernel_rfl
@[go_sem] theorem T_52 : T 52 = ⟨.func, 1, 8, [.nilFunc], [.raw .nilFunc], false⟩ := by kernel_rfl
@[go_sem] theorem T_53 : T 53 = ⟨(.sl 5), 1, 24, [.slice none 0 0], [.nil 5 1], false⟩ := by kernel_rfl
@[go_sem] theorem T_54 : T 54 = ⟨.func, 1, 8, [.nilFunc], [.raw .nilFunc], false⟩ := by kernel_rfl
@[go_sem] theorem T_55 : T 55 = ⟨.func, 1, 8, [.nilFunc], [.raw .nilFunc], false⟩ := by kernel_rfl
@[go_sem] theorem T_56 : T 56 = ⟨(.ptr 58), 1, 8, [.pointer none], [.raw (.pointer none)], false⟩ := by kernel_rfl
@[go_sem] theorem T_57 : T 57 = ⟨(.st [(0, 9), (1, 3), (2, 24), (3, 25), (4, 53), (5, 3)]), 6, 104, [.string ⟨#[]⟩, .int .i64 0, .slice none 0 0, .slice none 0 0, .slice none 0 0, .int .i64 0], [.str [], .int .i64 0, .nil 43 6, .nil 48 2, .nil 5 1, .int .i64 0], false⟩ := by kernel_rfl
@[go_sem] theorem T_58 : T 58 = ⟨(.st [(0, 9), (1, 3), (2, 24), (3, 25), (4, 53), (5, 3)]), 6, 104, [.string ⟨#[]⟩, .int .i64 0, .slice none 0 0, .slice none 0 0, .slice none 0 0, .int .i64 0], [.str [], .int .i64 0, .nil 43 6, .nil 48 2, .nil 5 1, .int .i64 0], false⟩ := by kernel_rfl
@[go_sem] theorem T_59 : T 59 = ⟨.func, 1, 8, [.nilFunc], [.raw .nilFunc], false⟩ := by kernel_rfl
@[go_sem] theorem T_61 : T 61 = ⟨.func, 1, 8, [.nilFunc], [.raw .nilFunc], false⟩ := by kernel_rfl
@[go_sem] theorem T_62 : T 62 = ⟨.func, 1, 8, [.nilFunc], [.raw .nilFunc], false⟩ := by kernel_rfl
@[go_sem] theorem T_63 : T 63 = ⟨(.ptr 67), 1, 8, [.pointer none], [.raw (.pointer none)], false⟩ := by kernel_rfl
@[go_sem] theorem T_64 : T 64 = ⟨(.st [(0, 46)]), 1, 24, [.slice none 0 0], [.nil 9 1], false⟩ := by kernel_rfl
@[go_sem] theorem T_65 : T 65 = ⟨(.st [(0, 46)]), 1, 24, [.slice none 0 0], [.nil 9 1], false⟩ := by kernel_rfl
@[go_sem] theorem T_66 : T 66 = ⟨(.st [(0, 65), (1, 28), (2, 25), (3, 3)]), 4, 80, [.slice none 0 0, .slice none 0 0, .slice none 0 0, .int .i64 0], [.nil 9 1, .nil 38 5, .nil 48 2, .int .i64 0], false⟩ := by kernel_rfl
@[go_sem] theorem T_67 : T 67 = ⟨(.st [(0, 65), (1, 28), (2, 25), (3, 3)]), 4, 80, [.slice none 0 0, .slice none 0 0, .slice none 0 0, .int .i64 0], [.nil 9 1, .nil 38 5, .nil 48 2, .int .i64 0], false⟩ := by kernel_rfl
@[go_sem] theorem T_68 : T 68 = ⟨.func, 1, 8, [.nilFunc], [.raw .nilFunc], false⟩ := by kernel_rfl
@[go_sem] theorem T_69 : T 69 = ⟨.func, 1, 8, [.nilFunc], [.raw .nilFunc], false⟩ := by kernel_rfl
@[go_sem] theorem T_70 : T 70 = ⟨.func, 1, 8, [.nilFunc], [.raw .nilFunc], false⟩ := by kernel_rfl
@[go_sem] theorem T_71 : T 71 = ⟨.func, 1, 8, [.nilFunc], [.raw .nilFunc], false⟩ := by kernel_rfl
@[go_sem] theorem T_72 : T 72 = ⟨.func, 1, 8, [.nilFunc], [.raw .nilFunc], false⟩ := by kernel_rfl
@[go_sem] theorem T_74 : T 74 = ⟨.func, 1, 8, [.nilFunc], [.raw .nilFunc], false⟩ := by kernel_rfl
@[go_sem] theorem T_75 : T 75 = ⟨.func, 1, 8, [.nilFunc], [.raw .nilFunc], false⟩ := by kernel_rfl
@[go_sem] theorem T_76 : T 76 = ⟨.func, 1, 8, [.nilFunc], [.raw .nilFunc], false⟩ := by kernel_rfl
@[go_sem] theorem T_77 : T 77 = ⟨.func, 1, 8, [.nilFunc], [.raw .nilFunc], false⟩ := by kernel_rfl
@[go_sem] theorem T_79 : T 79 = ⟨.func, 1, 8, [.nilFunc], [.raw .nilFunc], false⟩ := by kernel_rfl
@[go_sem] theorem T_80 : T 80 = ⟨.func, 1, 8, [.nilFunc], [.raw .nilFunc], false⟩ := by kernel_rfl
@[go_sem] theorem T_81 : T 81 = ⟨(.sl 21), 1, 24, [.slice none 0 0], [.nil 21 1], false⟩ := by kernel_rfl
@[go_sem] theorem T_82 : T 82 = ⟨.func, 1, 8, [.nilFunc], [.raw .nilFunc], false⟩ := by kernel_rfl
@[go_sem] theorem T_83 : T 83 = ⟨.func, 1, 8, [.nilFunc], [.raw .nilFunc], false⟩ := by kernel_rfl
@[go_sem] theorem T_84 : T 84 = ⟨.func, 1, 8, [.nilFunc], [.raw .nilFunc], false⟩ := by kernel_rfl
@[go_sem] theorem T_85 : T 85 = ⟨.func, 1, 8, [.nilFunc], [.raw .nilFunc], false⟩ := by kernel_rfl
@[go_sem] theorem T_86 : T 86 = ⟨.func, 1, 8, [.nilFunc], [.raw .nilFunc], false⟩ := by kernel_rfl
@[go_sem] theorem T_87 : T 87 = ⟨.func, 1, 8, [.nilFunc], [.raw .nilFunc], false⟩ := by kernel_rfl
@[go_sem] theorem T_88 : T 88 = ⟨.func, 1, 8, [.nilFunc], [.raw .nilFunc], false⟩ := by kernel_rfl
@[go_sem] theorem T_89 : T 89 = ⟨(.ptr 91), 1, 8, [.pointer none], [.raw (.pointer none)], false⟩ := by kernel_rfl
@[go_sem] theorem T_90 : T 90 = ⟨(.st [(0, 28), (1, 25), (2, 46), (3, 3)]), 4, 80, [.slice none 0 0, .slice none 0 0, .slice none 0 0, .int .i64 0], [.nil 38 5, .nil 48 2, .nil 9 1, .int .i64 0], false⟩ := by kernel_rfl
@[go_sem] theorem T_91 : T 91 = ⟨(.st [(0, 28), (1, 25), (2, 46), (3, 3)]), 4, 80, [.slice none 0 0, .slice none 0 0, .slice none 0 0, .int .i64 0], [.nil 38 5, .nil 48 2, .nil 9 1, .int .i64 0], false⟩ := by kernel_rfl
@[go_sem] theorem T_92 : T 92 = ⟨.func, 1, 8, [.nilFunc], [.raw .nilFunc], false⟩ := by kernel_rfl
@[go_sem] theorem T_94 : T 94 = ⟨.func, 1, 8, [.nilFunc], [.raw .nilFunc], false⟩ := by kernel_rfl
@[go_sem] theorem T_95 : T 95 = ⟨.func, 1, 8, [.nilFunc], [.raw .nilFunc], false⟩ := by kernel_rfl
@[go_sem] theorem T_96 : T 96 = ⟨.func, 1, 8, [.nilFunc], [.raw .nilFunc], false⟩ := by kernel_rfl
@[go_sem] theorem T_97 : T 97 = ⟨.func, 1, 8, [.nilFunc], [.raw .nilFunc], false⟩ := by kernel_rfl
@[go_sem] theorem T_98 : T 98 = ⟨.func, 1, 8, [.nilFunc], [.raw .nilFunc], false⟩ := by kernel_rfl
@[go_sem] theorem T_99 : T 99 = ⟨.func, 1, 8, [.nilFunc], [.raw .nilFunc], false⟩ := by kernel_rfl
@[go_sem] theorem T_100 : T 100 = ⟨.func, 1, 8, [.nilFunc], [.raw .nilFunc], false⟩ := by kernel_rfl
@[go_sem] theorem T_101 : T 101 = ⟨.func, 1, 8, [.nilFunc], [.raw .nilFunc], false⟩ := by kernel_rfl
@[go_sem] theorem T_102 : T 102 = ⟨.func, 1, 8, [.nilFunc], [.raw .nilFunc], false⟩ := by kernel_rfl
@[go_sem] theorem T_103 : T 103 = ⟨.func, 1, 8, [.nilFunc], [.raw .nilFunc], false⟩ := by kernel_rfl
@[go_sem] theorem T_104 : T 104 = ⟨.func, 1, 8, [.nilFunc], [.raw .nilFunc], false⟩ := by kernel_rfl
@[go_sem] theorem T_105 : T 105 = ⟨.func, 1, 8, [.nilFunc], [.raw .nilFunc], false⟩ := by kernel_rfl
@[go_sem] theorem T_106 : T 106 = ⟨.func, 1, 8, [.nilFunc], [.raw .nilFunc], false⟩ := by kernel_rfl
@[go_sem] theorem T_107 : T 107 = ⟨.func, 1, 8, [.nilFunc], [.raw .nilFunc], false⟩ := by kernel_rfl
@[go_sem] theorem T_109 : T 109 = ⟨.func, 1, 8, [.nilFunc], [.raw .nilFunc], false⟩ := by kernel_rfl
@[go_sem] theorem T_110 : T 110 = ⟨.func, 1, 8, [.nilFunc], [.raw .nilFunc], false⟩ := by kernel_rfl
@[go_sem] theorem T_111 : T 111 = ⟨.func, 1, 8, [.nilFunc], [.raw .nilFunc], false⟩ := by kernel_rfl
@[go_sem] theorem T_112 : T 112 = ⟨(.ptr 65), 1, 8, [.pointer none], [.raw (.pointer none)], false⟩ := by kernel_rfl
@[go_sem] theorem T_113 : T 113 = ⟨.func, 1, 8, [.nilFunc], [.raw .nilFunc], false⟩ := by kernel_rfl
@[go_sem] theorem T_114 : T 114 = ⟨.func, 1, 8, [.nilFunc], [.raw .nilFunc], false⟩ := by kernel_rfl
@[go_sem] theorem T_115 : T 115 = ⟨.func, 1, 8, [.nilFunc], [.raw .nilFunc], false⟩ := by kernel_rfl
@[go_sem] theorem T_116 : T 116 = ⟨.func, 1, 8, [.nilFunc], [.raw .nilFunc], false⟩ := by kernel_rfl
@[go_sem] theorem T_117 : T 117 = ⟨.func, 1, 8, [.nilFunc], [.raw .nilFunc], false⟩ := by kernel_rfl
@[go_sem] theorem T_118 : T 118 = ⟨.func, 1, 8, [.nilFunc], [.raw .nilFunc], false⟩ := by kernel_rfl
@[go_sem] theorem T_119 : T 119 = ⟨.func, 1, 8, [.nilFunc], [.raw .nilFunc], false⟩ := by kernel_rfl
@[go_sem] theorem T_120 : T 120 = ⟨.func, 1, 8, [.nilFunc], [.raw .nilFunc], false⟩ := by kernel_rfl
@[go_sem] theorem T_121 : T 121 = ⟨.func, 1, 8, [.nilFunc], [.raw .nilFunc], false⟩ := by kernel_rfl
@[go_sem] theorem T_123 : T 123 = ⟨.func, 1, 8, [.nilFunc], [.raw .nilFunc], false⟩ := by kernel_rfl
@[go_sem] theorem T_124 : T 124 = ⟨.func, 1, 8, [.nilFunc], [.raw .nilFunc], false⟩ := by kernel_rfl
@[go_sem] theorem T_125 : T 125 = ⟨.func, 1, 8, [.nilFunc], [.raw .nilFunc], false⟩ := by kernel_rfl
@[go_sem] theorem T_126 : T 126 = ⟨.func, 1, 8, [.nilFunc], [.raw .nilFunc], false⟩ := by kernel_rfl
@[go_sem] theorem T_127 : T 127 = ⟨.func, 1, 8, [.nilFunc], [.raw .nilFunc], false⟩ := by kernel_rfl
@[go_sem] theorem T_128 : T 128 = ⟨.func, 1, 8, [.nilFunc], [.raw .nilFunc], false⟩ := by kernel_rfl
@[go_sem] theorem T_132 : T 132 = ⟨.func, 1, 8, [.nilFunc], [.raw .nilFunc], false⟩ := by kernel_rfl
@[go_sem] theorem T_133 : T 133 = ⟨(.sl 135), 1, 24, [.slice none 0 0], [.nil 135 2], false⟩ := by kernel_rfl
@[go_sem] theorem T_134 : T 134 = ⟨(.st [(0, 3), (1, 3)]), 2, 16, [.int .i64 0, .int .i64 0], [.int .i64 0, .int .i64 0], true⟩ := by kernel_rfl
@[go_sem] theorem T_135 : T 135 = ⟨(.st [(0, 3), (1, 3)]), 2, 16, [.int .i64 0, .int .i64 0], [.int .i64 0, .int .i64 0], true⟩ := by kernel_rfl
@[go_sem] theorem T_136 : T 136 = ⟨(.int .u32), 1, 4, [.int .u32 0], [.int .u32 0], false⟩ := by kernel_rfl
@[go_sem] theorem T_137 : T 137 = ⟨.func, 1, 8, [.nilFunc], [.raw .nilFunc], false⟩ := by kernel_rfl
@[go_sem] theorem T_138 : T 138 = ⟨(.ptr 146), 1, 8, [.pointer none], [.raw (.pointer none)], false⟩ := by kernel_rfl
@[go_sem] theorem T_139 : T 139 = ⟨.func, 1, 8, [.nilFunc], [.raw .nilFunc], false⟩ := by kernel_rfl
@[go_sem] theorem T_140 : T 140 = ⟨.func, 1, 8, [.nilFunc], [.raw .nilFunc], false⟩ := by kernel_rfl
@[go_sem] theorem T_141 : T 141 = ⟨(.int .u64), 1, 8, [.int .u64 0], [.int .u64 0], false⟩ := by kernel_rfl
@[go_sem] theorem T_142 : T 142 = ⟨(.ptr 130), 1, 8, [.pointer none], [.raw (.pointer none)], false⟩ := by kernel_rfl
@[go_sem] theorem T_143 : T 143 = ⟨(.sl 148), 1, 24, [.slice none 0 0], [.nil 148 3], false⟩ := by kernel_rfl
@[go_sem] theorem T_144 : T 144 = ⟨(.sl 151), 1, 24, [.slice none 0 0], [.nil 151 3], false⟩ := by kernel_rfl
@[go_sem] theorem T_145 : T 145 = ⟨(.st [(0, 143), (1, 144), (2, 3)]), 3, 56, [.slice none 0 0, .slice none 0 0, .int .i64 0], [.nil 148 3, .nil 151 3, .int .i64 0], false⟩ := by kernel_rfl
@[go_sem] theorem T_146 : T 146 = ⟨(.st [(0, 143), (1, 144), (2, 3)]), 3, 56, [.slice none 0 0, .slice none 0 0, .int .i64 0], [.nil 148 3, .nil 151 3, .int .i64 0], false⟩ := by kernel_rfl
@[go_sem] theorem T_147 : T 147 = ⟨(.st [(0, 22), (1, 22), (2, 22)]), 3, 6, [.int .u16 0, .int .u16 0, .int .u16 0], [.int .u16 0, .int .u16 0, .int .u16 0], true⟩ := by kernel_rfl
@[go_sem] theorem T_148 : T 148 = ⟨(.st [(0, 22), (1, 22), (2, 22)]), 3, 6, [.int .u16 0, .int .u16 0, .int .u16 0], [.int .u16 0, .int .u16 0, .int .u16 0], true⟩ := by kernel_rfl
@[go_sem] theorem T_149 : T 149 = ⟨.func, 1, 8, [.nilFunc], [.raw .nilFunc], false⟩ := by kernel_rfl
@[go_sem] theorem T_150 : T 150 = ⟨(.st [(0, 136), (1, 136), (2, 136)]), 3, 12, [.int .u32 0, .int .u32 0, .int .u32 0], [.int .u32 0, .int .u32 0, .int .u32 0], true⟩ := by kernel_rfl
@[go_sem] theorem T_151 : T 151 = ⟨(.st [(0, 136), (1, 136), (2, 136)]), 3, 12, [.int .u32 0, .int .u32 0, .int .u32 0], [.int .u32 0, .int .u32 0, .int .u32 0], true⟩ := by kernel_rfl
@[go_sem] theorem T_152 : T 152 = ⟨.func, 1, 8, [.nilFunc], [.raw .nilFunc], false⟩ := by kernel_rfl
@[go_sem] theorem T_153 : T 153 = ⟨(.ptr 148), 1, 8, [.pointer none], [.raw (.pointer none)], false⟩ := by kernel_rfl
@[go_sem] theorem T_154 : T 154 = ⟨(.ptr 151), 1, 8, [.pointer none], [.raw (.pointer none)], false⟩ := by kernel_rfl
@[go_sem] theorem T_156 : T 156 = ⟨.func, 1, 8, [.nilFunc], [.raw .nilFunc], false⟩ := by kernel_rfl
@[go_sem] theorem T_157 : T 157 = ⟨(.st [(0, 17), (1, 17), (2, 17), (3, 9)]), 4, 40, [.pointer none, .pointer none, .pointer none, .string ⟨#[]⟩], [.raw (.pointer none), .raw (.pointer none), .raw (.pointer none), .str []], false⟩ := by kernel_rfl
@[go_sem] theorem T_158 : T 158 = ⟨(.st [(0, 17), (1, 17), (2, 17), (3, 9)]), 4, 40, [.pointer none, .pointer none, .pointer none, .string ⟨#[]⟩], [.raw (.pointer none), .raw (.pointer none), .raw (.pointer none), .str []], false⟩ := by kernel_rfl
@[go_sem] theorem T_159 : T 159 = ⟨(.arr 0 16), 0, 0, [], [], false⟩ := by kernel_rfl
@[go_sem] theorem T_160 : T 160 = ⟨(.st [(0, 159)]), 0, 0, [], [], false⟩ := by kernel_rfl
@[go_sem] theorem T_161 : T 161 = ⟨(.st [(0, 159)]), 0, 0, [], [], false⟩ := by kernel_rfl
@[go_sem] theorem T_162 : T 162 = ⟨.func, 1, 8, [.nilFunc], [.raw .nilFunc], false⟩ := by kernel_rfl
@[go_sem] theorem T_163 : T 163 = ⟨(.int .u8), 1, 1, [.int .u8 0], [.int .u8 0], false⟩ := by kernel_rfl
@[go_sem] theorem T_164 : T 164 = ⟨(.int .u8), 1, 1, [.int .u8 0], [.int .u8 0], false⟩ := by kernel_rfl
@[go_sem] theorem T_165 : T 165 = ⟨.func, 1, 8, [.nilFunc], [.raw .nilFunc], false⟩ := by kernel_rfl
@[go_sem] theorem T_166 : T 166 = ⟨(.ptr 5), 1, 8, [.pointer none], [.raw (.pointer none)], false⟩ := by kernel_rfl
@[go_sem] theorem T_167 : T 167 = ⟨(.int .i32), 1, 4, [.int .i32 0], [.int .i32 0], false⟩ := by kernel_rfl
@[go_sem] theorem T_168 : T 168 = ⟨(.int .i32), 1, 4, [.int .i32 0], [.int .i32 0], false⟩ := by kernel_rfl
@[go_sem] theorem T_169 : T 169 = ⟨(.st [(0, 12), (1, 12), (2, 136), (3, 163), (4, 5), (5, 5), (6, 164), (7, 165), (8, 166), (9, 167), (10, 168)]), 11, 48, [.int .u64 0, .int .u64 0, .int .u32 0, .int .u8 0, .int .u8 0, .int .u8 0, .int .u8 0, .nilFunc, .pointer none, .int .i32 0, .int .i32 0], [.int .u64 0, .int .u64 0, .int .u32 0, .int .u8 0, .int .u8 0, .int .u8 0, .int .u8 0, .raw .nilFunc, .raw (.pointer none), .int .i32 0, .int .i32 0], false⟩ := by kernel_rfl
@[go_sem] theorem T_170 : T 170 = ⟨(.st [(0, 12), (1, 12), (2, 136), (3, 163), (4, 5), (5, 5), (6, 164), (7, 165), (8, 166), (9, 167), (10, 168)]), 11, 48, [.int .u64 0, .int .u64 0, .int .u32 0, .int .u8 0, .int .u8 0, .int .u8 0, .int .u8 0, .nilFunc, .pointer none, .int .i32 0, .int .i32 0], [.int .u64 0, .int .u64 0, .int .u32 0, .int .u8 0, .int .u8 0, .int .u8 0, .int .u8 0, .raw .nilFunc, .raw (.pointer none), .int .i32 0, .int .i32 0], false⟩ := by kernel_rfl
theorem mixed : Tryz.prog.follows .mixedOrders = true := by kernel_rfl
end Go.Proofs.YtdpjmfipgkblfaaGreatDoor
