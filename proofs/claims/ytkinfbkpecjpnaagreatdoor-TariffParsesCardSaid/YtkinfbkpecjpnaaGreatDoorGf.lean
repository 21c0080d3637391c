/-
 This seat's types; contracts of the library's functions.
-/
import Derived.Test.YtkinfbkpecjpnaaGreatDoorFe
import Derived.Test.YtkinfbkpecjpnaaGreatDoorProg
import Derived.Shelf.Strings.Builder1
import Derived.Shelf.Strings.Builder2
import Derived.Shelf.Strings.OnBuilder
import Derived.Shelf.Small.Bits
import Derived.Shelf.Small.Strs
import Derived.Shelf.Utf8.RuneCount
import Derived.Shelf.Strconv.Atoi
import Derived.Shelf.Strconv.Itoa0
import Derived.Shelf.Strconv.Itoa1
import Derived.Shelf.LaysM
import Derived.Shelf.Strconv.Itoa2
import Derived.Shelf.Strconv.Itoa3
import Derived.Shelf.Strconv.AtoiErrFast
import Derived.Shelf.Strconv.ParseIntEmpty
import Derived.Shelf.Strconv.AtoiFail
import Derived.Shelf.Strconv.Clone
import Derived.Shelf.Strconv.SyntaxError
import Derived.Shelf.LaysC
import Derived.Shelf.Strconv.ToError
import Derived.Shelf.Strconv.Lower
import Derived.Shelf.Strconv.ParseUint10
import Derived.Shelf.Strconv.ParseUint10Empty
import Derived.Shelf.Strconv.ParseUint10Any
import Derived.Shelf.Strconv.ParseInt10
import Derived.Shelf.Strconv.AtoiLong
import Derived.Shelf.Strconv.AtoiInnerAll
import Derived.Shelf.Strconv.RangeError
import Derived.Shelf.Strconv.ToErrorRange
import Derived.Shelf.Strconv.AtoiAll
import Derived.Shelf.Strconv.ErrVarAll
import Derived.Shelf.Strings.Search1
import Derived.Shelf.Strings.Search2
import Derived.Shelf.Strings.Search3
import Derived.Shelf.Strings.Count
import Derived.Shelf.Strings.Shaped
import Derived.Shelf.Sort.Plain
import Derived.Shelf.Strings.Prefix
import Derived.Shelf.Strings.Split
import Derived.Shelf.Strings.Replace
import Derived.Shelf.Strings.SplitShaped
import Derived.Shelf.Unicode.Decode
import Derived.Shelf.Strings.RuneCount
import Derived.Shelf.Strings.Explode
import Derived.Shelf.Unicode.DecodeSlow
import Derived.Shelf.Unicode.DecodeAny
import Derived.Shelf.Slices.Turned
import Derived.Ground.Names2Prog
import Derived.Shelf.Slices.CompactI
import Derived.Shelf.Slices.SearchI
import Derived.Shelf.Slices.In.SortNone
import Derived.Shelf.Slices.Empties
import Derived.Lib.SplitLaws
import Derived.Lib.SmallJoins
import Derived.WalkSmall
import Derived.Lib.AppendIntMem
set_option linter.all false
/-
 The context of this seat: its program and its types.
-/
namespace Go.Fx
open Go.Proofs
noncomputable section
@[reducible] def o8 : Option TI := some ⟨.other, 1, 8, [.nilFunc], false⟩
noncomputable def tab : List (Option TI) := [
 none,
 o8,
  some ⟨.int IntKind.i64, 1, 8, [.int .i64 0], false⟩,
  some ⟨.int IntKind.i64, 1, 8, [.int .i64 0], false⟩,
  some ⟨.bool, 1, 1, [.bool false], false⟩,
  some ⟨.int IntKind.u8, 1, 1, [.int .u8 0], false⟩,
  some ⟨.int IntKind.u8, 1, 1, [.int .u8 0], false⟩,
  some ⟨.struct [(0, 2), (1, 3), (2, 4), (3, 6)], 4, 24, [.int .i64 0, .int .i64 0, .bool false, .int .u8 0], true⟩,
  some ⟨.struct [(0, 2), (1, 3), (2, 4), (3, 6)], 4, 24, [.int .i64 0, .int .i64 0, .bool false, .int .u8 0], true⟩,
  some ⟨.string, 1, 16, [.string ⟨#[]⟩], false⟩,
  some ⟨.string, 1, 16, [.string ⟨#[]⟩], false⟩,
  some ⟨.string, 1, 16, [.string ⟨#[]⟩], false⟩,
  some ⟨.int IntKind.u64, 1, 8, [.int .u64 0], false⟩,
  some ⟨.struct [(0, 9), (1, 12)], 2, 24, [.string ⟨#[]⟩, .int .u64 0], false⟩,
  some ⟨.struct [(0, 9), (1, 12)], 2, 24, [.string ⟨#[]⟩, .int .u64 0], false⟩,
  some ⟨.other, 1, 8, [.pointer none], false⟩,
  some ⟨.other, 1, 8, [.pointer none], false⟩,
  some ⟨.other, 1, 8, [.pointer none], false⟩,
  some ⟨.struct [(0, 17)], 1, 8, [.pointer none], false⟩,
  some ⟨.struct [(0, 17)], 1, 8, [.pointer none], false⟩,
  some ⟨.ifc, 1, 16, [.nilIface], false⟩,
  some ⟨.int IntKind.i32, 1, 4, [.int .i32 0], false⟩,
  some ⟨.struct [(0, 3), (1, 3)], 2, 16, [.int .i64 0, .int .i64 0], true⟩,
  some ⟨.struct [(0, 3), (1, 3)], 2, 16, [.int .i64 0, .int .i64 0], true⟩,
  some ⟨.slice 3, 1, 24, [.slice none 0 0], false⟩,
  some ⟨.slice 72, 1, 24, [.slice none 0 0], false⟩,
  some ⟨.struct [(0, 23), (2, 4), (3, 24), (4, 25)], 5, 72, [.int .i64 0, .int .i64 0, .bool false, .slice none 0 0, .slice none 0 0], true⟩,
  some ⟨.struct [(0, 23), (2, 4), (3, 24), (4, 25)], 5, 72, [.int .i64 0, .int .i64 0, .bool false, .slice none 0 0, .slice none 0 0], true⟩,
 o8, o8, o8, o8,
  some ⟨.int IntKind.i64, 1, 8, [.int .i64 0], false⟩,
  none,
 o8,
  none,
 o8, o8, o8,
  some ⟨.slice 9, 1, 24, [.slice none 0 0], false⟩,
  some ⟨.slice 113, 1, 24, [.slice none 0 0], false⟩,
  some ⟨.slice 115, 1, 24, [.slice none 0 0], false⟩,
  some ⟨.slice 117, 1, 24, [.slice none 0 0], false⟩,
  some ⟨.struct [(0, 9), (1, 3), (2, 3), (3, 39), (4, 24), (5, 40), (6, 41), (7, 42)], 8, 152, [.string ⟨#[]⟩, .int .i64 0, .int .i64 0, .slice none 0 0, .slice none 0 0, .slice none 0 0, .slice none 0 0, .slice none 0 0], true⟩,
  some ⟨.struct [(0, 9), (1, 3), (2, 3), (3, 39), (4, 24), (5, 40), (6, 41), (7, 42)], 8, 152, [.string ⟨#[]⟩, .int .i64 0, .int .i64 0, .slice none 0 0, .slice none 0 0, .slice none 0 0, .slice none 0 0, .slice none 0 0], true⟩,
  some ⟨.struct [(0, 3), (1, 3)], 2, 16, [.int .i64 0, .int .i64 0], true⟩,
  some ⟨.struct [(0, 3), (1, 3)], 2, 16, [.int .i64 0, .int .i64 0], true⟩,
  none,
 o8,
  none,
 o8, o8,
  none,
 o8,
  none,
 o8, o8,
  some ⟨.struct [(0, 3), (1, 3), (2, 3), (3, 3)], 4, 32, [.int .i64 0, .int .i64 0, .int .i64 0, .int .i64 0], true⟩,
  some ⟨.struct [(0, 3), (1, 3), (2, 3), (3, 3)], 4, 32, [.int .i64 0, .int .i64 0, .int .i64 0, .int .i64 0], true⟩,
  none,
 o8, o8, o8, o8,
  none,
 o8,
  some ⟨.struct [(0, 3), (1, 23)], 3, 24, [.int .i64 0, .int .i64 0, .int .i64 0], true⟩,
  some ⟨.struct [(0, 3), (1, 23)], 3, 24, [.int .i64 0, .int .i64 0, .int .i64 0], true⟩,
 o8, o8, o8,
  some ⟨.struct [(0, 3), (1, 3), (2, 3)], 3, 24, [.int .i64 0, .int .i64 0, .int .i64 0], true⟩,
  some ⟨.struct [(0, 3), (1, 3), (2, 3)], 3, 24, [.int .i64 0, .int .i64 0, .int .i64 0], true⟩,
 o8, o8, o8,
  none,
 o8, o8, o8,
  none,
 o8, o8, o8,
  some ⟨.array 6 24, 6, 144, [.slice none 0 0, .slice none 0 0, .slice none 0 0, .slice none 0 0, .slice none 0 0, .slice none 0 0], true⟩,
  some ⟨.struct [(0, 44), (8, 84)], 14, 296, [.string ⟨#[]⟩, .int .i64 0, .int .i64 0, .slice none 0 0, .slice none 0 0, .slice none 0 0, .slice none 0 0, .slice none 0 0, .slice none 0 0, .slice none 0 0, .slice none 0 0, .slice none 0 0, .slice none 0 0, .slice none 0 0], true⟩,
  some ⟨.struct [(0, 44), (8, 84)], 14, 296, [.string ⟨#[]⟩, .int .i64 0, .int .i64 0, .slice none 0 0, .slice none 0 0, .slice none 0 0, .slice none 0 0, .slice none 0 0, .slice none 0 0, .slice none 0 0, .slice none 0 0, .slice none 0 0, .slice none 0 0, .slice none 0 0], true⟩,
 o8, o8, o8,
  some ⟨.other, 1, 8, [.pointer none], false⟩,
 o8, o8,
  some ⟨.slice 160, 1, 24, [.slice none 0 0], false⟩,
  some ⟨.struct [(0, 93), (1, 3), (2, 32), (3, 3)], 4, 48, [.slice none 0 0, .int .i64 0, .int .i64 0, .int .i64 0], true⟩,
  some ⟨.struct [(0, 93), (1, 3), (2, 32), (3, 3)], 4, 48, [.slice none 0 0, .int .i64 0, .int .i64 0, .int .i64 0], true⟩,
 o8,
  some ⟨.struct [(0, 3), (1, 3)], 2, 16, [.int .i64 0, .int .i64 0], true⟩,
  some ⟨.struct [(0, 3), (1, 3)], 2, 16, [.int .i64 0, .int .i64 0], true⟩,
  none,
 o8,
  some ⟨.slice 24, 1, 24, [.slice none 0 0], false⟩,
  some ⟨.slice 105, 1, 24, [.slice none 0 0], false⟩,
 o8,
  some ⟨.struct [(0, 9), (1, 3)], 2, 24, [.string ⟨#[]⟩, .int .i64 0], true⟩,
  some ⟨.struct [(0, 9), (1, 3)], 2, 24, [.string ⟨#[]⟩, .int .i64 0], true⟩,
 o8, o8,
  some ⟨.struct [(0, 39), (1, 24), (2, 101)], 3, 72, [.slice none 0 0, .slice none 0 0, .slice none 0 0], true⟩,
  some ⟨.struct [(0, 39), (1, 24), (2, 101)], 3, 72, [.slice none 0 0, .slice none 0 0, .slice none 0 0], true⟩,
  none,
 o8,
  some ⟨.struct [(0, 9), (1, 3), (2, 3), (3, 24), (4, 24), (5, 3), (6, 3), (7, 3), (8, 3), (9, 3)], 10, 120, [.string ⟨#[]⟩, .int .i64 0, .int .i64 0, .slice none 0 0, .slice none 0 0, .int .i64 0, .int .i64 0, .int .i64 0, .int .i64 0, .int .i64 0], true⟩,
  some ⟨.struct [(0, 9), (1, 3), (2, 3), (3, 24), (4, 24), (5, 3), (6, 3), (7, 3), (8, 3), (9, 3)], 10, 120, [.string ⟨#[]⟩, .int .i64 0, .int .i64 0, .slice none 0 0, .slice none 0 0, .int .i64 0, .int .i64 0, .int .i64 0, .int .i64 0, .int .i64 0], true⟩,
  some ⟨.struct [(0, 9), (1, 3)], 2, 24, [.string ⟨#[]⟩, .int .i64 0], true⟩,
  some ⟨.struct [(0, 9), (1, 3)], 2, 24, [.string ⟨#[]⟩, .int .i64 0], true⟩,
  some ⟨.struct [(0, 3), (1, 3), (2, 3)], 3, 24, [.int .i64 0, .int .i64 0, .int .i64 0], true⟩,
  some ⟨.struct [(0, 3), (1, 3), (2, 3)], 3, 24, [.int .i64 0, .int .i64 0, .int .i64 0], true⟩,
  none,
 o8, o8, o8, o8, o8,
  some ⟨.struct [(0, 44)], 8, 152, [.string ⟨#[]⟩, .int .i64 0, .int .i64 0, .slice none 0 0, .slice none 0 0, .slice none 0 0, .slice none 0 0, .slice none 0 0], true⟩,
  some ⟨.struct [(0, 44)], 8, 152, [.string ⟨#[]⟩, .int .i64 0, .int .i64 0, .slice none 0 0, .slice none 0 0, .slice none 0 0, .slice none 0 0, .slice none 0 0], true⟩,
  some ⟨.slice 135, 1, 24, [.slice none 0 0], false⟩,
  some ⟨.struct [(0, 125), (8, 27), (13, 126)], 14, 248, [.string ⟨#[]⟩, .int .i64 0, .int .i64 0, .slice none 0 0, .slice none 0 0, .slice none 0 0, .slice none 0 0, .slice none 0 0, .int .i64 0, .int .i64 0, .bool false, .slice none 0 0, .slice none 0 0, .slice none 0 0], true⟩,
  some ⟨.struct [(0, 125), (8, 27), (13, 126)], 14, 248, [.string ⟨#[]⟩, .int .i64 0, .int .i64 0, .slice none 0 0, .slice none 0 0, .slice none 0 0, .slice none 0 0, .slice none 0 0, .int .i64 0, .int .i64 0, .bool false, .slice none 0 0, .slice none 0 0, .slice none 0 0], true⟩,
  none,
 o8, o8, o8, o8,
  some ⟨.struct [(0, 3), (1, 113), (11, 3), (12, 3)], 13, 144, [.int .i64 0, .string ⟨#[]⟩, .int .i64 0, .int .i64 0, .slice none 0 0, .slice none 0 0, .int .i64 0, .int .i64 0, .int .i64 0, .int .i64 0, .int .i64 0, .int .i64 0, .int .i64 0], true⟩,
  some ⟨.struct [(0, 3), (1, 113), (11, 3), (12, 3)], 13, 144, [.int .i64 0, .string ⟨#[]⟩, .int .i64 0, .int .i64 0, .slice none 0 0, .slice none 0 0, .int .i64 0, .int .i64 0, .int .i64 0, .int .i64 0, .int .i64 0, .int .i64 0, .int .i64 0], true⟩,
  none,
 o8, o8, o8,
  some ⟨.struct [(0, 3), (1, 32)], 2, 16, [.int .i64 0, .int .i64 0], true⟩,
  some ⟨.struct [(0, 3), (1, 32)], 2, 16, [.int .i64 0, .int .i64 0], true⟩,
  none,
 o8, o8, o8,
  some ⟨.other, 1, 8, [.pointer none], false⟩,
  some ⟨.slice 5, 1, 24, [.slice none 0 0], false⟩,
  some ⟨.struct [(0, 146), (1, 147)], 2, 32, [.pointer none, .slice none 0 0], true⟩,
  some ⟨.struct [(0, 146), (1, 147)], 2, 32, [.pointer none, .slice none 0 0], true⟩,
 o8,
  some ⟨.ifc, 1, 16, [.nilIface], false⟩,
  some ⟨.ifc, 1, 16, [.nilIface], false⟩,
  none,
 o8, o8, o8, o8, o8,
  some ⟨.struct [(0, 9), (1, 3)], 2, 24, [.string ⟨#[]⟩, .int .i64 0], true⟩,
  some ⟨.struct [(0, 9), (1, 3)], 2, 24, [.string ⟨#[]⟩, .int .i64 0], true⟩,
  some ⟨.other, 1, 8, [.pointer none], false⟩,
 o8, o8,
  some ⟨.array 5 9, 5, 80, [.string ⟨#[]⟩, .string ⟨#[]⟩, .string ⟨#[]⟩, .string ⟨#[]⟩, .string ⟨#[]⟩], true⟩,
 o8, o8, o8, o8, o8,
  some ⟨.other, 1, 8, [.pointer none], false⟩,
  some ⟨.array 5 170, 5, 40, [.pointer none, .pointer none, .pointer none, .pointer none, .pointer none], true⟩,
 o8, o8, o8,
  some ⟨.struct [(0, 3), (1, 3), (2, 3), (3, 174)], 4, 32, [.int .i64 0, .int .i64 0, .int .i64 0, .nilFunc], true⟩,
  some ⟨.struct [(0, 3), (1, 3), (2, 3), (3, 174)], 4, 32, [.int .i64 0, .int .i64 0, .int .i64 0, .nilFunc], true⟩,
 o8, o8, o8, o8, o8, o8, o8, o8, o8,
  some ⟨.array 5 176, 20, 160, [.int .i64 0, .int .i64 0, .int .i64 0, .nilFunc, .int .i64 0, .int .i64 0, .int .i64 0, .nilFunc, .int .i64 0, .int .i64 0, .int .i64 0, .nilFunc, .int .i64 0, .int .i64 0, .int .i64 0, .nilFunc, .int .i64 0, .int .i64 0, .int .i64 0, .nilFunc], true⟩,
 o8, o8, o8, o8, o8,
  none,
 o8,
  none,
 o8, o8, o8,
  some ⟨.slice 32, 1, 24, [.slice none 0 0], false⟩,
 o8, o8, o8, o8, o8,
  some ⟨.other, 1, 8, [.pointer none], false⟩,
 o8, o8, o8, o8, o8, o8, o8, o8, o8, o8, o8,
  none,
 o8, o8, o8,
  some ⟨.array 24 5, 24, 24, [.int .u8 0, .int .u8 0, .int .u8 0, .int .u8 0, .int .u8 0, .int .u8 0, .int .u8 0, .int .u8 0, .int .u8 0, .int .u8 0, .int .u8 0, .int .u8 0, .int .u8 0, .int .u8 0, .int .u8 0, .int .u8 0, .int .u8 0, .int .u8 0, .int .u8 0, .int .u8 0, .int .u8 0, .int .u8 0, .int .u8 0, .int .u8 0], true⟩,
  some ⟨.int IntKind.u64, 1, 8, [.int .u64 0], false⟩,
 o8, o8,
  none,
 o8,
  some ⟨.other, 1, 8, [.pointer none], false⟩,
 o8, o8, o8,
  some ⟨.int IntKind.i64, 1, 8, [.int .i64 0], false⟩,
  none,
 o8,
  some ⟨.other, 1, 8, [.pointer none], false⟩,
 o8, o8, o8, o8,
  some ⟨.int IntKind.u64, 1, 8, [.int .u64 0], false⟩,
 o8, o8, o8, o8,
  some ⟨.array 20 221, 20, 160, [.int .u64 0, .int .u64 0, .int .u64 0, .int .u64 0, .int .u64 0, .int .u64 0, .int .u64 0, .int .u64 0, .int .u64 0, .int .u64 0, .int .u64 0, .int .u64 0, .int .u64 0, .int .u64 0, .int .u64 0, .int .u64 0, .int .u64 0, .int .u64 0, .int .u64 0, .int .u64 0], true⟩,
  some ⟨.int IntKind.u32, 1, 4, [.int .u32 0], false⟩,
  some ⟨.array 65 5, 65, 65, [.int .u8 0, .int .u8 0, .int .u8 0, .int .u8 0, .int .u8 0, .int .u8 0, .int .u8 0, .int .u8 0, .int .u8 0, .int .u8 0, .int .u8 0, .int .u8 0, .int .u8 0, .int .u8 0, .int .u8 0, .int .u8 0, .int .u8 0, .int .u8 0, .int .u8 0, .int .u8 0, .int .u8 0, .int .u8 0, .int .u8 0, .int .u8 0, .int .u8 0, .int .u8 0, .int .u8 0, .int .u8 0, .int .u8 0, .int .u8 0, .int .u8 0, .int .u8 0, .int .u8 0, .int .u8 0, .int .u8 0, .int .u8 0, .int .u8 0, .int .u8 0, .int .u8 0, .int .u8 0, .int .u8 0, .int .u8 0, .int .u8 0, .int .u8 0, .int .u8 0, .int .u8 0, .int .u8 0, .int .u8 0, .int .u8 0, .int .u8 0, .int .u8 0, .int .u8 0, .int .u8 0, .int .u8 0, .int .u8 0, .int .u8 0, .int .u8 0, .int .u8 0, .int .u8 0, .int .u8 0, .int .u8 0, .int .u8 0, .int .u8 0, .int .u8 0, .int .u8 0], true⟩,
  none,
 o8,
  some ⟨.struct [(0, 9), (1, 9), (2, 152)], 3, 48, [.string ⟨#[]⟩, .string ⟨#[]⟩, .nilIface], false⟩,
  some ⟨.struct [(0, 9), (1, 9), (2, 152)], 3, 48, [.string ⟨#[]⟩, .string ⟨#[]⟩, .nilIface], false⟩,
 o8,
  none,
 o8,
  some ⟨.array 256 5, 256, 256, [.int .u8 0, .int .u8 0, .int .u8 0, .int .u8 0, .int .u8 0, .int .u8 0, .int .u8 0, .int .u8 0, .int .u8 0, .int .u8 0, .int .u8 0, .int .u8 0, .int .u8 0, .int .u8 0, .int .u8 0, .int .u8 0, .int .u8 0, .int .u8 0, .int .u8 0, .int .u8 0, .int .u8 0, .int .u8 0, .int .u8 0, .int .u8 0, .int .u8 0, .int .u8 0, .int .u8 0, .int .u8 0, .int .u8 0, .int .u8 0, .int .u8 0, .int .u8 0, .int .u8 0, .int .u8 0, .int .u8 0, .int .u8 0, .int .u8 0, .int .u8 0, .int .u8 0, .int .u8 0, .int .u8 0, .int .u8 0, .int .u8 0, .int .u8 0, .int .u8 0, .int .u8 0, .int .u8 0, .int .u8 0, .int .u8 0, .int .u8 0, .int .u8 0, .int .u8 0, .int .u8 0, .int .u8 0, .int .u8 0, .int .u8 0, .int .u8 0, .int .u8 0, .int .u8 0, .int .u8 0, .int .u8 0, .int .u8 0, .int .u8 0, .int .u8 0, .int .u8 0, .int .u8 0, .int .u8 0, .int .u8 0, .int .u8 0, .int .u8 0, .int .u8 0, .int .u8 0, .int .u8 0, .int .u8 0, .int .u8 0, .int .u8 0, .int .u8 0, .int .u8 0, .int .u8 0, .int .u8 0, .int .u8 0, .int .u8 0, .int .u8 0, .int .u8 0, .int .u8 0, .int .u8 0, .int .u8 0, .int .u8 0, .int .u8 0, .int .u8 0, .int .u8 0, .int .u8 0, .int .u8 0, .int .u8 0, .int .u8 0, .int .u8 0, .int .u8 0, .int .u8 0, .int .u8 0, .int .u8 0, .int .u8 0, .int .u8 0, .int .u8 0, .int .u8 0, .int .u8 0, .int .u8 0, .int .u8 0, .int .u8 0, .int .u8 0, .int .u8 0, .int .u8 0, .int .u8 0, .int .u8 0, .int .u8 0, .int .u8 0, .int .u8 0, .int .u8 0, .int .u8 0, .int .u8 0, .int .u8 0, .int .u8 0, .int .u8 0, .int .u8 0, .int .u8 0, .int .u8 0, .int .u8 0, .int .u8 0, .int .u8 0, .int .u8 0, .int .u8 0, .int .u8 0, .int .u8 0, .int .u8 0, .int .u8 0, .int .u8 0, .int .u8 0, .int .u8 0, .int .u8 0, .int .u8 0, .int .u8 0, .int .u8 0, .int .u8 0, .int .u8 0, .int .u8 0, .int .u8 0, .int .u8 0, .int .u8 0, .int .u8 0, .int .u8 0, .int .u8 0, .int .u8 0, .int .u8 0, .int .u8 0, .int .u8 0, .int .u8 0, .int .u8 0, .int .u8 0, .int .u8 0, .int .u8 0, .int .u8 0, .int .u8 0, .int .u8 0, .int .u8 0, .int .u8 0, .int .u8 0, .int .u8 0, .int .u8 0, .int .u8 0, .int .u8 0, .int .u8 0, .int .u8 0, .int .u8 0, .int .u8 0, .int .u8 0, .int .u8 0, .int .u8 0, .int .u8 0, .int .u8 0, .int .u8 0, .int .u8 0, .int .u8 0, .int .u8 0, .int .u8 0, .int .u8 0, .int .u8 0, .int .u8 0, .int .u8 0, .int .u8 0, .int .u8 0, .int .u8 0, .int .u8 0, .int .u8 0, .int .u8 0, .int .u8 0, .int .u8 0, .int .u8 0, .int .u8 0, .int .u8 0, .int .u8 0, .int .u8 0, .int .u8 0, .int .u8 0, .int .u8 0, .int .u8 0, .int .u8 0, .int .u8 0, .int .u8 0, .int .u8 0, .int .u8 0, .int .u8 0, .int .u8 0, .int .u8 0, .int .u8 0, .int .u8 0, .int .u8 0, .int .u8 0, .int .u8 0, .int .u8 0, .int .u8 0, .int .u8 0, .int .u8 0, .int .u8 0, .int .u8 0, .int .u8 0, .int .u8 0, .int .u8 0, .int .u8 0, .int .u8 0, .int .u8 0, .int .u8 0, .int .u8 0, .int .u8 0, .int .u8 0, .int .u8 0, .int .u8 0, .int .u8 0, .int .u8 0, .int .u8 0, .int .u8 0, .int .u8 0, .int .u8 0, .int .u8 0, .int .u8 0, .int .u8 0, .int .u8 0, .int .u8 0, .int .u8 0, .int .u8 0, .int .u8 0, .int .u8 0, .int .u8 0, .int .u8 0, .int .u8 0, .int .u8 0, .int .u8 0, .int .u8 0], true⟩,
  some ⟨.struct [(0, 5), (1, 5)], 2, 2, [.int .u8 0, .int .u8 0], true⟩,
  some ⟨.struct [(0, 5), (1, 5)], 2, 2, [.int .u8 0, .int .u8 0], true⟩,
  some ⟨.array 16 255, 32, 32, [.int .u8 0, .int .u8 0, .int .u8 0, .int .u8 0, .int .u8 0, .int .u8 0, .int .u8 0, .int .u8 0, .int .u8 0, .int .u8 0, .int .u8 0, .int .u8 0, .int .u8 0, .int .u8 0, .int .u8 0, .int .u8 0, .int .u8 0, .int .u8 0, .int .u8 0, .int .u8 0, .int .u8 0, .int .u8 0, .int .u8 0, .int .u8 0, .int .u8 0, .int .u8 0, .int .u8 0, .int .u8 0, .int .u8 0, .int .u8 0, .int .u8 0, .int .u8 0], true⟩,
 o8, o8, o8,
  some ⟨.int IntKind.i64, 1, 8, [.int .i64 0], false⟩,
  none,
 o8, o8, o8, o8, o8, o8, o8,
  some ⟨.other, 1, 8, [.pointer none], false⟩,
  some ⟨.struct [(0, 9)], 1, 16, [.string ⟨#[]⟩], true⟩,
  some ⟨.struct [(0, 9)], 1, 16, [.string ⟨#[]⟩], true⟩,
  some ⟨.int IntKind.u64, 1, 8, [.int .u64 0], false⟩,
 o8, o8, o8, o8,
  some ⟨.array 32 5, 32, 32, [.int .u8 0, .int .u8 0, .int .u8 0, .int .u8 0, .int .u8 0, .int .u8 0, .int .u8 0, .int .u8 0, .int .u8 0, .int .u8 0, .int .u8 0, .int .u8 0, .int .u8 0, .int .u8 0, .int .u8 0, .int .u8 0, .int .u8 0, .int .u8 0, .int .u8 0, .int .u8 0, .int .u8 0, .int .u8 0, .int .u8 0, .int .u8 0, .int .u8 0, .int .u8 0, .int .u8 0, .int .u8 0, .int .u8 0, .int .u8 0, .int .u8 0, .int .u8 0], true⟩,
  some ⟨.array 64 5, 64, 64, [.int .u8 0, .int .u8 0, .int .u8 0, .int .u8 0, .int .u8 0, .int .u8 0, .int .u8 0, .int .u8 0, .int .u8 0, .int .u8 0, .int .u8 0, .int .u8 0, .int .u8 0, .int .u8 0, .int .u8 0, .int .u8 0, .int .u8 0, .int .u8 0, .int .u8 0, .int .u8 0, .int .u8 0, .int .u8 0, .int .u8 0, .int .u8 0, .int .u8 0, .int .u8 0, .int .u8 0, .int .u8 0, .int .u8 0, .int .u8 0, .int .u8 0, .int .u8 0, .int .u8 0, .int .u8 0, .int .u8 0, .int .u8 0, .int .u8 0, .int .u8 0, .int .u8 0, .int .u8 0, .int .u8 0, .int .u8 0, .int .u8 0, .int .u8 0, .int .u8 0, .int .u8 0, .int .u8 0, .int .u8 0, .int .u8 0, .int .u8 0, .int .u8 0, .int .u8 0, .int .u8 0, .int .u8 0, .int .u8 0, .int .u8 0, .int .u8 0, .int .u8 0, .int .u8 0, .int .u8 0, .int .u8 0, .int .u8 0, .int .u8 0, .int .u8 0], true⟩,
  some ⟨.other, 1, 8, [.pointer none], false⟩,
  none,
 o8,
  some ⟨.struct [(0, 17), (1, 17), (2, 17), (3, 9)], 4, 40, [.pointer none, .pointer none, .pointer none, .string ⟨#[]⟩], false⟩,
  some ⟨.struct [(0, 17), (1, 17), (2, 17), (3, 9)], 4, 40, [.pointer none, .pointer none, .pointer none, .string ⟨#[]⟩], false⟩,
  some ⟨.array 0 16, 0, 0, [], true⟩,
  some ⟨.struct [(0, 284)], 0, 0, [], false⟩,
  some ⟨.struct [(0, 284)], 0, 0, [], false⟩,
  some ⟨.int IntKind.u8, 1, 1, [.int .u8 0], false⟩,
  some ⟨.int IntKind.u8, 1, 1, [.int .u8 0], false⟩,
 o8,
  some ⟨.int IntKind.i32, 1, 4, [.int .i32 0], false⟩,
  some ⟨.int IntKind.i32, 1, 4, [.int .i32 0], false⟩,
  some ⟨.struct [(0, 12), (1, 12), (2, 244), (3, 287), (4, 5), (5, 5), (6, 288), (7, 289), (8, 204), (9, 290), (10, 291)], 11, 48, [.int .u64 0, .int .u64 0, .int .u32 0, .int .u8 0, .int .u8 0, .int .u8 0, .int .u8 0, .nilFunc, .pointer none, .int .i32 0, .int .i32 0], false⟩,
  some ⟨.struct [(0, 12), (1, 12), (2, 244), (3, 287), (4, 5), (5, 5), (6, 288), (7, 289), (8, 204), (9, 290), (10, 291)], 11, 48, [.int .u64 0, .int .u64 0, .int .u32 0, .int .u8 0, .int .u8 0, .int .u8 0, .int .u8 0, .nilFunc, .pointer none, .int .i32 0, .int .i32 0], false⟩]
theorem tab_ok : tabOK Tryz.prog tab := by
 unfold tabOK
 kernel_rfl
@[reducible] noncomputable def Xc (W0 : World) (G : Nat -> Option AV) : Ctx := ⟨Tryz.prog, fun t => tab.getD t none, W0, G⟩
noncomputable def codeOf (fn : Func) : Code := fn.body.getD .skip
theorem Xc.good {W0 : World} {G : Nat -> Option AV} (hG : ∀ g av, G g = some av -> Reads (fun _ => default) (fun b _ => b < W0.heap.size) W0 av 0 (.pointer (some ⟨g, 0, none⟩))) : (Xc W0 G).Good :=
 ⟨fun t i h => tab_ok.at h, hG, by kernel_rfl⟩
end
end Go.Fx
/-
 Numbers within bounds, quotients.
-/
namespace Go.Fx
open Go.Proofs
inductive Side (p : Prop) : Prop where
 | mk (h : p)
theorem Side.get {p : Prop} : Side p -> p | ⟨h⟩ => h
theorem AllLe.refl : ∀ (l : List AV), AllLe l l
 | [] => trivial
 | a :: l => ⟨.refl a, AllLe.refl l⟩
class Ar (p : Prop) : Prop
theorem Ar.go {p : Prop} [Ar p] (h : p) : p := h
instance {a b} : Ar (AllLe a b) := ⟨⟩
class An (p : Prop) : Prop
theorem An.go {g : Option Prop} {a b c} (h : AllRen a b c) : Sc g (AllRen a b c) := Sc.of h
theorem Lk.go {a b c} (h : LeOks a b c) : LeOks a b c := h
class Stop.{u} (p : Sort u) : Prop
def Stop.go.{u} {p : Sort u} [Stop p] (h : p) : p := h
instance : Stop False := ⟨⟩
instance : Stop Nat := ⟨⟩
instance : Stop (Nat -> Nat -> AV) := ⟨⟩
instance {a b} : Stop (Sc a b) := ⟨⟩
instance {a} : Stop (Side a) := ⟨⟩
instance {α} {f : α -> Prop} : Stop (Exists f) := ⟨⟩
instance {a b c d e f g} : Stop (Ends a b c d e f g) := ⟨⟩
instance {a b} : Stop (Alt a b) := ⟨⟩
instance {a b} : Stop (Le a b) := ⟨⟩
instance {a b c} : Stop (LeAll a b c) := ⟨⟩
class Cl (p : Prop) : Prop
theorem Cl.go {p : Prop} [Cl p] (h : p := by
 first
  | ((with_reducible refine (?_ : AllLe _ _)); first | exact AllLe.refl _ | (repeat' (first | exact trivial | apply Le.aggs | apply Le.tups | apply Le.fns | exact Le.refl _ | refine ⟨?_, ?_⟩)))
  | ((with_reducible refine An.go ?_); (repeat' (first | exact trivial | apply Le.aggs | apply Le.tups | apply Le.fns | exact Le.refl _ | refine ⟨?_, ?_⟩)))
  | ((with_reducible refine (?_ : (List.all _ _) = true)); rfl)
  | ((with_reducible refine (?_ : (and _ _) = true)); rfl)
  | ((with_reducible refine (?_ : List.Nodup _)); exact nodupB_spec rfl)
  | ((with_reducible refine (?_ : @Eq Nat _ _)); rfl)
  | ((with_reducible refine (?_ : @Eq (List (Option HObj)) _ _)); kernel_rfl)
  | ((with_reducible refine (?_ : footOK _ _ = true)); kernel_rfl)
  | ((with_reducible refine (?_ : LeOks _ _ _)); (repeat' first | exact trivial | refine ⟨.refl _, ?_⟩); done)) : p := h
instance {a b} : Cl (AllLe a b) := ⟨⟩
instance {g a b c} : Cl (Sc g (AllRen a b c)) := ⟨⟩
instance {α : Type} {l : List α} {f : α -> Bool} : Cl (List.all l f = true) := ⟨⟩
instance {a b : Bool} : Cl (and a b = true) := ⟨⟩
instance {a b : Nat} : Cl (a = b) := ⟨⟩
instance {l : List Nat} : Cl l.Nodup := ⟨⟩
instance {a b : List (Option HObj)} : Cl (a = b) := ⟨⟩
instance {a b} : Cl (footOK a b = true) := ⟨⟩
instance {a b c} : Cl (LeOks a b c) := ⟨⟩
class Ax (p : Prop) : Prop
theorem Ax.go {p : Prop} [Ax p] (h : p) : p := h
instance {a b} : Ax (Alt a b) := ⟨⟩
theorem nbZ {g : Option Prop} {a b : Nat} (h : Nat.ble a b = true := by exact rfl) : Sc g (a <= b) := .of (Nat.le_of_ble_eq_true h)
theorem fnI {W0 : World} {G : Nat -> Option AV} {k : Nat} (f : Func) (h : FnIs (Xc W0 G) k f (codeOf f) := by refine ⟨?_, ?_, ?_, ?_⟩ <;> kernel_rfl) : FnIs (Xc W0 G) k f (codeOf f) := h
theorem ko {p q : Prop} (h : ¬p) (k : p := by with_unfolding_all assumption) : q := absurd k h
theorem rfZ {p : Prop} (h : p := by repeat' first | exact trivial | refine ⟨.refl _, ?_⟩) : p := h
theorem le_slc2 {f : Nat -> Nat -> AV} {a b : Int} (h0 : f 0 0 = .int .i64 a) (h1 : f 1 0 = .int .i64 b) : Le (.slc 1 2 f) (.slc 1 [a, b].length (fun i _ => .int .i64 ([a, b].getD i 0))) :=
 .slc fun i j hi hj => by
  obtain rfl : j = 0 := by omega
  rcases (show i = 0 \/ i = 1 by omega) with rfl | rfl
  ·rw [h0]; exact .refl _
  ·rw [h1]; exact .refl _
theorem callAlt {X : Ctx} {gd : Option Prop} {f : FuncId} {args bs : List AV} {r : AV} {k : AV -> Prop} {q : Prop} (h : Pure X f bs r) (hl : AllLe args bs) (hf : (bs.all (·.free)) = true) (hk : k r) :
  Alt (∃ as1 r1, Sc gd (Pure X f as1 r1) /\ Sc gd (AllLe args as1) /\ (as1.all (·.free)) = true /\ k r1) q := .one ⟨bs, r, .of h, .of hl, hf, hk⟩
def inB (n lo hi : Int) : Bool := bif decide (lo <= n) then decide (n <= hi) else false
theorem inB_iff {n lo hi : Int} : inB n lo hi = true ↔ lo <= n /\ n <= hi := by
 unfold inB
 by_cases h : lo <= n <;> simp [h]
section
variable {W0 : World} {G : Nat -> Option AV} (hX : (Xc W0 G).Good)
include hX
theorem c103 (n lo hi : Int) : Pure (Xc W0 G) 103 [.int .i64 n, .int .i64 lo, .int .i64 hi] (.bool (inB n lo hi)) := by
 refine mut_of' hX (fnI Tryz.f103) rfl ?_
 repeat' (first
  | (refine Ax.go ?_; first | (with_reducible apply Alt.one))
  | exact Cl.go
  | ((fail_if_success refine Stop.go ?_); first | (with_reducible first | apply And.intro | apply Cut.go | (refine impI ?_; intro _)) | (refine propI ?_; conv => whnf)))
 all_goals exact .mk [] [] _ rfl (.le (.refl _)) trivial rfl
end
end Go.Fx
/-
 Contracts told in other words; calls that turn blocks, or look at them.
-/
namespace Go.Fx
open Go.RowKit
theorem Le.fns {F : FuncId} {n : Nat} {f g : Nat -> AV} (h : LeAll f g n) : Le (.fn F n f) (.fn F n g) := .fn h.out
theorem propI {a : Prop} (h : a) : a := h
theorem impI {a b : Prop} (h : a -> b) : a -> b := h
section
variable {X : Ctx} {f : FuncId}
theorem Mut.freeze {args : List AV} {r r2 : AV} {L : List HObj} (h : Mut X f args [] r L) (F : List Nat) (hr : LeH (only F L) r (ren (numOf []) r2)) (hu : r2.under 0 = true) : Pure X f args r2 := by
 refine ⟨h.1, fun c cargs hok hb hL hsz hargs => (h.2 c cargs hok hb hL hsz hargs).mono fun x w' ⟨v, c', h1, h2, h3, h4, h5⟩ => ?_⟩
 have sat : Sat X 0 c [] L c' { tmps := #[], defers := [] } := ⟨h3, hb.tr h3, h4, fun t => trivial, rfl, [], rfl, List.nodup_nil, by simp⟩
 have h0 : c.H.length = 0 := by rw [hL]; rfl
 obtain ⟨c2, k1, k2, _, k3, k4⟩ := freeze_sound (keep := []) (F := F) (L' := []) sat (by rw [h0]; trivial) rfl (by rw [h0]; rfl)
 rw [h0] at k4
 exact ⟨v, c2, h1, k1.trans h2, k2, k3, k4 h5 hr hu⟩
theorem Mut.vals {av : AV} {L : List HObj} {r : AV} {L' : List HObj} (Pr : Value -> Prop) (he : Enters X.P f) (hp : ∀ (g : Nat -> GO) (I : Nat -> Nat -> Prop) (w : World) (m : Nat) (v : Value), Reads g I w av m v -> Pr v) (h : ∀ v, Pr v -> Mut X f [.val v] L r L') : Mut X f [av] L r L' :=
 ⟨he, fun c cargs hok hb hL hsz hargs => by
  obtain ⟨v, h1, h2⟩ := hargs 0 av rfl
  refine (h v (hp _ _ _ _ _ h2)).2 c cargs hok hb hL hsz fun j b hj => ?_
  cases j with
  | zero => simp at hj; subst hj; exact ⟨v, h1, rfl⟩
  | succ j => simp at hj⟩
theorem callAltH {gd : Option Prop} {G : List HObj} {args bs : List AV} {r : AV} {k : AV -> Prop} {p q : Prop} (h : Pure X f bs r) (hl : AllLeH G args bs) (hf : (bs.all (·.free)) = true) (hr : r.flat = true) (hk : k r) :
  Alt p (Alt (∃ as1 r1, Sc gd (Pure X f as1 r1) /\ Sc gd (AllLeH G args as1) /\ (as1.all (·.free)) = true /\ r1.flat = true /\ k r1) q) := .two (.one ⟨bs, r, .of h, .of hl, hf, hr, hk⟩)
theorem altM {P : List AV -> List Nat -> Nat -> List HObj -> AV -> List HObj -> Prop} {p q s : Prop} {zs : List AV} {ks : List Nat} {m : Nat} {Ls : List HObj} {r : AV} {L' : List HObj} (h : P zs ks m Ls r L') : Alt p (Alt q (Alt (∃ zs ks m Ls r L', P zs ks m Ls r L') s)) := .two (.two (.one ⟨_, _, _, _, _, _, h⟩))
end
end Go.Fx
/-
 The first number that is not 0.
-/
namespace Go.Fx
open Go.Proofs
def firstS : List Int -> Int
 | [] => 0
 | x :: r => bif decide (x = 0) then firstS r else x
theorem firstS_hit : ∀ {l : List Int} {i : Nat}, i < l.length -> (∀ j, j < i -> l.getD j 0 = 0) -> l.getD i 0 ≠ 0 -> firstS l = l.getD i 0
 | x :: r, 0, _, _, h => by
  have h : x ≠ 0 := h
  simp [firstS, h]
 | x :: r, i + 1, hi, h0, h => by
  have hx : x = 0 := h0 0 (by omega)
  simp only [firstS, hx, decide_true, cond_true]
  exact firstS_hit (l := r) (by simpa using hi) (fun j hj => h0 (j + 1) (by omega)) h
theorem firstS_none : ∀ {l : List Int}, (∀ j, j < l.length -> l.getD j 0 = 0) -> firstS l = 0
 | [], _ => rfl
 | x :: r, h => by
  have hx : x = 0 := h 0 (by simp)
  simp only [firstS, hx, decide_true, cond_true]
  exact firstS_none (l := r) fun j hj => h (j + 1) (by simpa using hj)
theorem le_slc3 {f : Nat -> Nat -> AV} {a b c : Int} (h0 : f 0 0 = .int .i64 a) (h1 : f 1 0 = .int .i64 b) (h2 : f 2 0 = .int .i64 c) : Le (.slc 1 3 f) (.slc 1 [a, b, c].length (fun i _ => .int .i64 ([a, b, c].getD i 0))) :=
 .slc fun i j hi hj => by
  obtain rfl : j = 0 := by omega
  rcases (show i = 0 \/ i = 1 \/ i = 2 by omega) with rfl | rfl | rfl
  ·rw [h0]; exact .refl _
  ·rw [h1]; exact .refl _
  ·rw [h2]; exact .refl _
def iRow (l : List Int) : AV := .slc 1 l.length (fun i _ => .int .i64 (l.getD i 0))
def rangesL : List Int := [1, 100000, 1, 3600, 0, 3, 0, 1000000000, 0, 1000000000, 0, 1000000000, 0, 998244352]
theorem Le.boolT {x y : Bool} (h : x = y) : Le (.bool x) (.bool y) := by rw [h]; exact .refl _
theorem Sc.imp {q p : Prop} (h : q -> p) : Sc (some q) p := h
theorem LeH.boolT {H : List HObj} {x y : Bool} (h : x = y) : LeH H (.bool x) (.bool y) := .le (.boolT h)
end Go.Fx
/-
 DERIVED: THE SHELF's CONTRACTS AT THIS DUMP, IN PLAIN WORDS (tools/lay-plain.mjs out of 'TryzShelf.lean', which tools/lay-shelf.mjs wrote): THE SAME DECLARATIONS UNDER THE SAME NAMES: 'import', 'namespace', 'open', 'def', 'theorem' AND NOTHING ELSE: no command of the shelf's: FOR A HAND-IN. Each laying: the table of numbers ('.._ren') and one theorem, a field a fact of the dump's own or the kernel's comparison; each contract: ONE APPLICATION.
-/
namespace Go.Proofs
open Go.Shelf
def Tryz.lays125_ren : Go.Shelf.Ren := ⟨fun | 125 => 180 | 128 => 201 | 129 => 182 | n => n, fun | 46 => 238 | 3 => 3 | 51 => 244 | 53 => 221 | 4 => 4 | 5 => 5 | 9 => 9 | n => n, fun | n => n⟩
theorem Tryz.lays125 : Go.Proofs.Lays.n125 Tryz.prog Tryz.lays125_ren := {
 mixed := by kernel_rfl
 f125 := Tryz.func180.trans (congrArg some (by kernel_rfl))
 f128 := Tryz.func201.trans (congrArg some (by kernel_rfl))
 f129 := Tryz.func182.trans (congrArg some (by kernel_rfl))
 t3 := Tryz.underlying3
 a3 := Tryz.isAgg3
 z3 := Tryz.sizeOf3
 v3 := Tryz.zeroValue3
 t4 := Tryz.underlying4
 a4 := Tryz.isAgg4
 z4 := Tryz.sizeOf4
 v4 := Tryz.zeroValue4
 t5 := Tryz.underlying5
 a5 := Tryz.isAgg5
 z5 := Tryz.sizeOf5
 v5 := Tryz.zeroValue5
 t9 := Tryz.underlying9
 a9 := Tryz.isAgg9
 z9 := Tryz.sizeOf9
 v9 := Tryz.zeroValue9
 t46 := Tryz.underlying238
 a46 := Tryz.isAgg238
 z46 := Tryz.sizeOf238
 v46 := Tryz.zeroValue238
 t51 := Tryz.underlying244
 a51 := Tryz.isAgg244
 z51 := Tryz.sizeOf244
 v51 := Tryz.zeroValue244
 t53 := Tryz.underlying221
 a53 := Tryz.isAgg221
 z53 := Tryz.sizeOf221
 v53 := Tryz.zeroValue221 }
theorem Tryz.bits_Len (x : Int) (w : World) (h0 : 0 <= x) (h1 : x <= 18446744073709551615) :
  Calls Tryz.prog 180 #[.int .u64 x] w fun e w' => e = .returned (.int .i64 (Lib.bitLen x.toNat)) /\ w' = w := Any.bits_Len Tryz.lays125 x w h0 h1
def Tryz.lays137_ren : Go.Shelf.Ren := ⟨fun | 137 => 69 | 217 => 127 | 266 => 170 | n => n, fun | 9 => 9 | 5 => 5 | 3 => 3 | n => n, fun | n => n⟩
theorem Tryz.lays137 : Go.Proofs.Lays.n137 Tryz.prog Tryz.lays137_ren := {
 mixed := by kernel_rfl
 f137 := Tryz.func69.trans (congrArg some (by kernel_rfl))
 f217 := Tryz.func127.trans (congrArg some (by kernel_rfl))
 f266 := Tryz.func170.trans (congrArg some (by kernel_rfl))
 t3 := Tryz.underlying3
 a3 := Tryz.isAgg3
 z3 := Tryz.sizeOf3
 v3 := Tryz.zeroValue3
 t5 := Tryz.underlying5
 a5 := Tryz.isAgg5
 z5 := Tryz.sizeOf5
 v5 := Tryz.zeroValue5
 t9 := Tryz.underlying9
 a9 := Tryz.isAgg9
 z9 := Tryz.sizeOf9
 v9 := Tryz.zeroValue9 }
open Go.RowKit in
theorem Tryz.strings_IndexByte (s : ByteArray) (c : Int) (w : World) :
  Calls Tryz.prog 69 #[.string s, .int .u8 c] w fun e w' => e = .returned (.int .i64 (Lib.indexByte s.data.toList c.toNat.toUInt8)) /\ w' = w := Any.strings_IndexByte Tryz.lays137 s c w
def Tryz.laysM171_ren : Go.Shelf.Ren := ⟨fun | 171 => 24 | 243 => 59 | 246 => 118 | 283 => 155 | 284 => 156 | 285 => 157 | 286 => 158 | 129 => 182 | 317 => 181 | 318 => 183 | 319 => 184 | 320 => 185 | 337 => 202 | 338 => 203 | n => n, fun | 3 => 3 | 9 => 9 | 2 => 2 | 4 => 4 | 171 => 220 | 0 => 0 | 53 => 221 | 37 => 147 | 5 => 5 | 173 => 224 | 212 => 243 | 51 => 244 | 20 => 20 | 213 => 245 | 46 => 238 | 232 => 277 | 233 => 278 | n => n, fun | 17 => 1 | 18 => 6 | 19 => 7 | n => n⟩
theorem Tryz.laysM171 : Go.Proofs.LaysM.n171 Tryz.prog Tryz.laysM171_ren := {
 mixed := by kernel_rfl
 f129 := Tryz.func182.trans (congrArg some (by kernel_rfl))
 f171 := Tryz.func24.trans (congrArg some (by kernel_rfl))
 f243 := Tryz.func59.trans (congrArg some (by kernel_rfl))
 f246 := Tryz.func118.trans (congrArg some (by kernel_rfl))
 f283 := Tryz.func155.trans (congrArg some (by kernel_rfl))
 f284 := Tryz.func156.trans (congrArg some (by kernel_rfl))
 f285 := Tryz.func157.trans (congrArg some (by kernel_rfl))
 f286 := Tryz.func158.trans (congrArg some (by kernel_rfl))
 f317 := Tryz.func181.trans (congrArg some (by kernel_rfl))
 f318 := Tryz.func183.trans (congrArg some (by kernel_rfl))
 f319 := Tryz.func184.trans (congrArg some (by kernel_rfl))
 f320 := Tryz.func185.trans (congrArg some (by kernel_rfl))
 f337 := Tryz.func202.trans (congrArg some (by kernel_rfl))
 f338 := Tryz.func203.trans (congrArg some (by kernel_rfl))
 t0 := Tryz.underlying0
 a0 := Tryz.isAgg0
 z0 := Tryz.sizeOf0
 v0 := Tryz.zeroValue0
 t2 := Tryz.underlying2
 a2 := Tryz.isAgg2
 z2 := Tryz.sizeOf2
 v2 := Tryz.zeroValue2
 t3 := Tryz.underlying3
 a3 := Tryz.isAgg3
 z3 := Tryz.sizeOf3
 v3 := Tryz.zeroValue3
 t4 := Tryz.underlying4
 a4 := Tryz.isAgg4
 z4 := Tryz.sizeOf4
 v4 := Tryz.zeroValue4
 t5 := Tryz.underlying5
 a5 := Tryz.isAgg5
 z5 := Tryz.sizeOf5
 v5 := Tryz.zeroValue5
 t9 := Tryz.underlying9
 a9 := Tryz.isAgg9
 z9 := Tryz.sizeOf9
 v9 := Tryz.zeroValue9
 t20 := Tryz.underlying20
 a20 := Tryz.isAgg20
 z20 := Tryz.sizeOf20
 v20 := Tryz.zeroValue20
 t37 := Tryz.underlying147
 a37 := Tryz.isAgg147
 z37 := Tryz.sizeOf147
 v37 := Tryz.zeroValue147
 t46 := Tryz.underlying238
 a46 := Tryz.isAgg238
 z46 := Tryz.sizeOf238
 v46 := Tryz.zeroValue238
 t51 := Tryz.underlying244
 a51 := Tryz.isAgg244
 z51 := Tryz.sizeOf244
 v51 := Tryz.zeroValue244
 t53 := Tryz.underlying221
 a53 := Tryz.isAgg221
 z53 := Tryz.sizeOf221
 v53 := Tryz.zeroValue221
 t171 := Tryz.underlying220
 a171 := Tryz.isAgg220
 z171 := Tryz.sizeOf220
 v171 := Tryz.zeroValue220
 t173 := Tryz.underlying224
 a173 := Tryz.isAgg224
 z173 := Tryz.sizeOf224
 v173 := Tryz.zeroValue224
 t212 := Tryz.underlying243
 a212 := Tryz.isAgg243
 z212 := Tryz.sizeOf243
 v212 := Tryz.zeroValue243
 t213 := Tryz.underlying245
 a213 := Tryz.isAgg245
 z213 := Tryz.sizeOf245
 t232 := Tryz.underlying277
 a232 := Tryz.isAgg277
 z232 := Tryz.sizeOf277
 v232 := Tryz.zeroValue277
 t233 := Tryz.underlying278
 a233 := Tryz.isAgg278
 z233 := Tryz.sizeOf278
 v233 := Tryz.zeroValue278
 g17 := by kernel_rfl
 g18 := by kernel_rfl
 g19 := by kernel_rfl
 i0 := by kernel_rfl
 i2 := by kernel_rfl
 i3 := by kernel_rfl
 i4 := by kernel_rfl
 i5 := by kernel_rfl
 i9 := by kernel_rfl
 i20 := by kernel_rfl
 i37 := by kernel_rfl
 i46 := by kernel_rfl
 i51 := by kernel_rfl
 i53 := by kernel_rfl
 i171 := by kernel_rfl
 i173 := by kernel_rfl
 i212 := by kernel_rfl
 i232 := by kernel_rfl
 i233 := by kernel_rfl
 m17 := by kernel_rfl
 m18 := by kernel_rfl
 m19 := by kernel_rfl }
open Go.RowKit Go.Sort Go.Lib in
theorem Tryz.strconv_Itoa (n : Int) (h0 : -9223372036854775808 <= n) (h1 : n <= 9223372036854775807) (w : World) (htab : Lib.TabIs Tryz.prog w "internal/strconv.uint64pow10" .u64 Lib.pow10Tab) :
  Calls Tryz.prog 24 #[.int .i64 n] w fun e w' => e = .returned (.string ⟨(Lib.itoa n).toArray⟩) /\ ∃ k os, w' = grow (w.drewN k) os := Any.strconv_Itoa Tryz.laysM171 n h0 h1 w htab
def Tryz.laysC172_ren : Go.Shelf.Ren := ⟨fun | 172 => 65 | 244 => 124 | 245 => 125 | 247 => 164 | 279 => 165 | 280 => 166 | 281 => 167 | 282 => 168 | 287 => 186 | 316 => 187 | 171 => 24 | 205 => 188 | 321 => 204 | 322 => 205 | 243 => 59 | 246 => 118 | 283 => 155 | 284 => 156 | 285 => 157 | 286 => 158 | 129 => 182 | 317 => 181 | 318 => 183 | 319 => 184 | 320 => 185 | 337 => 202 | 338 => 203 | n => n, fun | 9 => 9 | 3 => 3 | 75 => 152 | 76 => 153 | 4 => 4 | 5 => 5 | 167 => 230 | 37 => 147 | 0 => 0 | 85 => 231 | 2 => 2 | 168 => 233 | 53 => 221 | 175 => 246 | 46 => 238 | 210 => 249 | 127 => 204 | 145 => 271 | 143 => 269 | 21 => 21 | 171 => 220 | 173 => 224 | 212 => 243 | 51 => 244 | 20 => 20 | 213 => 245 | 232 => 277 | 233 => 278 | 80 => 63 | n => n, fun | 15 => 2 | 16 => 3 | 17 => 1 | 18 => 6 | 19 => 7 | n => n⟩
theorem Tryz.laysC172 : Go.Proofs.LaysC.n172 Tryz.prog Tryz.laysC172_ren := {
 mixed := by kernel_rfl
 f129 := Tryz.func182.trans (congrArg some (by kernel_rfl))
 f171 := Tryz.func24.trans (congrArg some (by kernel_rfl))
 f172 := Tryz.func65.trans (congrArg some (by kernel_rfl))
 f205 := Tryz.func188.trans (congrArg some (by kernel_rfl))
 f243 := Tryz.func59.trans (congrArg some (by kernel_rfl))
 f244 := Tryz.func124.trans (congrArg some (by kernel_rfl))
 f245 := Tryz.func125.trans (congrArg some (by kernel_rfl))
 f246 := Tryz.func118.trans (congrArg some (by kernel_rfl))
 f247 := Tryz.func164.trans (congrArg some (by kernel_rfl))
 f279 := Tryz.func165.trans (congrArg some (by kernel_rfl))
 f280 := Tryz.func166.trans (congrArg some (by kernel_rfl))
 f281 := Tryz.func167.trans (congrArg some (by kernel_rfl))
 f282 := Tryz.func168.trans (congrArg some (by kernel_rfl))
 f283 := Tryz.func155.trans (congrArg some (by kernel_rfl))
 f284 := Tryz.func156.trans (congrArg some (by kernel_rfl))
 f285 := Tryz.func157.trans (congrArg some (by kernel_rfl))
 f286 := Tryz.func158.trans (congrArg some (by kernel_rfl))
 f287 := Tryz.func186.trans (congrArg some (by kernel_rfl))
 f316 := Tryz.func187.trans (congrArg some (by kernel_rfl))
 f317 := Tryz.func181.trans (congrArg some (by kernel_rfl))
 f318 := Tryz.func183.trans (congrArg some (by kernel_rfl))
 f319 := Tryz.func184.trans (congrArg some (by kernel_rfl))
 f320 := Tryz.func185.trans (congrArg some (by kernel_rfl))
 f321 := Tryz.func204.trans (congrArg some (by kernel_rfl))
 f322 := Tryz.func205.trans (congrArg some (by kernel_rfl))
 f337 := Tryz.func202.trans (congrArg some (by kernel_rfl))
 f338 := Tryz.func203.trans (congrArg some (by kernel_rfl))
 t0 := Tryz.underlying0
 a0 := Tryz.isAgg0
 z0 := Tryz.sizeOf0
 v0 := Tryz.zeroValue0
 t2 := Tryz.underlying2
 a2 := Tryz.isAgg2
 z2 := Tryz.sizeOf2
 v2 := Tryz.zeroValue2
 t3 := Tryz.underlying3
 a3 := Tryz.isAgg3
 z3 := Tryz.sizeOf3
 v3 := Tryz.zeroValue3
 t4 := Tryz.underlying4
 a4 := Tryz.isAgg4
 z4 := Tryz.sizeOf4
 v4 := Tryz.zeroValue4
 t5 := Tryz.underlying5
 a5 := Tryz.isAgg5
 z5 := Tryz.sizeOf5
 v5 := Tryz.zeroValue5
 t9 := Tryz.underlying9
 a9 := Tryz.isAgg9
 z9 := Tryz.sizeOf9
 v9 := Tryz.zeroValue9
 t20 := Tryz.underlying20
 a20 := Tryz.isAgg20
 z20 := Tryz.sizeOf20
 v20 := Tryz.zeroValue20
 t21 := Tryz.underlying21
 a21 := Tryz.isAgg21
 z21 := Tryz.sizeOf21
 v21 := Tryz.zeroValue21
 t37 := Tryz.underlying147
 a37 := Tryz.isAgg147
 z37 := Tryz.sizeOf147
 v37 := Tryz.zeroValue147
 t46 := Tryz.underlying238
 a46 := Tryz.isAgg238
 z46 := Tryz.sizeOf238
 v46 := Tryz.zeroValue238
 t51 := Tryz.underlying244
 a51 := Tryz.isAgg244
 z51 := Tryz.sizeOf244
 v51 := Tryz.zeroValue244
 t53 := Tryz.underlying221
 a53 := Tryz.isAgg221
 z53 := Tryz.sizeOf221
 v53 := Tryz.zeroValue221
 t75 := Tryz.underlying152
 a75 := Tryz.isAgg152
 z75 := Tryz.sizeOf152
 v75 := Tryz.zeroValue152
 t76 := Tryz.underlying153
 a76 := Tryz.isAgg153
 z76 := Tryz.sizeOf153
 v76 := Tryz.zeroValue153
 t85 := Tryz.underlying231
 a85 := Tryz.isAgg231
 z85 := Tryz.sizeOf231
 v85 := Tryz.zeroValue231
 t127 := Tryz.underlying204
 a127 := Tryz.isAgg204
 z127 := Tryz.sizeOf204
 v127 := Tryz.zeroValue204
 t143 := Tryz.underlying269
 a143 := Tryz.isAgg269
 z143 := Tryz.sizeOf269
 v143 := Tryz.zeroValue269
 t145 := Tryz.underlying271
 a145 := Tryz.isAgg271
 z145 := Tryz.sizeOf271
 v145 := Tryz.zeroValue271
 t167 := Tryz.underlying230
 a167 := Tryz.isAgg230
 z167 := Tryz.sizeOf230
 v167 := Tryz.zeroValue230
 t168 := Tryz.underlying233
 a168 := Tryz.isAgg233
 z168 := Tryz.sizeOf233
 v168 := Tryz.zeroValue233
 t171 := Tryz.underlying220
 a171 := Tryz.isAgg220
 z171 := Tryz.sizeOf220
 v171 := Tryz.zeroValue220
 t173 := Tryz.underlying224
 a173 := Tryz.isAgg224
 z173 := Tryz.sizeOf224
 v173 := Tryz.zeroValue224
 t175 := Tryz.underlying246
 a175 := Tryz.isAgg246
 z175 := Tryz.sizeOf246
 v175 := Tryz.zeroValue246
 t210 := Tryz.underlying249
 a210 := Tryz.isAgg249
 z210 := Tryz.sizeOf249
 v210 := Tryz.zeroValue249
 t212 := Tryz.underlying243
 a212 := Tryz.isAgg243
 z212 := Tryz.sizeOf243
 v212 := Tryz.zeroValue243
 t213 := Tryz.underlying245
 a213 := Tryz.isAgg245
 z213 := Tryz.sizeOf245
 t232 := Tryz.underlying277
 a232 := Tryz.isAgg277
 z232 := Tryz.sizeOf277
 v232 := Tryz.zeroValue277
 t233 := Tryz.underlying278
 a233 := Tryz.isAgg278
 z233 := Tryz.sizeOf278
 v233 := Tryz.zeroValue278
 g15 := by kernel_rfl
 g16 := by kernel_rfl
 g17 := by kernel_rfl
 g18 := by kernel_rfl
 g19 := by kernel_rfl
 t80 := Tryz.underlying63
 a80 := Tryz.isAgg63
 z80 := Tryz.sizeOf63
 v80 := Tryz.zeroValue63
 i0 := by kernel_rfl
 i2 := by kernel_rfl
 i3 := by kernel_rfl
 i4 := by kernel_rfl
 i5 := by kernel_rfl
 i9 := by kernel_rfl
 i20 := by kernel_rfl
 i21 := by kernel_rfl
 i37 := by kernel_rfl
 i46 := by kernel_rfl
 i51 := by kernel_rfl
 i53 := by kernel_rfl
 i75 := by kernel_rfl
 i76 := by kernel_rfl
 i80 := by kernel_rfl
 i85 := by kernel_rfl
 i127 := by kernel_rfl
 i143 := by kernel_rfl
 i145 := by kernel_rfl
 i167 := by kernel_rfl
 i168 := by kernel_rfl
 i171 := by kernel_rfl
 i173 := by kernel_rfl
 i175 := by kernel_rfl
 i210 := by kernel_rfl
 i212 := by kernel_rfl
 i232 := by kernel_rfl
 i233 := by kernel_rfl
 m15 := by kernel_rfl
 m16 := by kernel_rfl
 m17 := by kernel_rfl
 m18 := by kernel_rfl
 m19 := by kernel_rfl
 c0 := by kernel_rfl
 c2 := by kernel_rfl
 c3 := by kernel_rfl
 c4 := by kernel_rfl
 c5 := by kernel_rfl
 c9 := by kernel_rfl
 c20 := by kernel_rfl
 c21 := by kernel_rfl
 c37 := by kernel_rfl
 c46 := by kernel_rfl
 c51 := by kernel_rfl
 c53 := by kernel_rfl
 c75 := by kernel_rfl
 c76 := by kernel_rfl
 c80 := by kernel_rfl
 c85 := by kernel_rfl
 c127 := by kernel_rfl
 c143 := by kernel_rfl
 c145 := by kernel_rfl
 c167 := by kernel_rfl
 c168 := by kernel_rfl
 c171 := by kernel_rfl
 c173 := by kernel_rfl
 c175 := by kernel_rfl
 c210 := by kernel_rfl
 c212 := by kernel_rfl
 c213 := by kernel_rfl
 c232 := by kernel_rfl
 c233 := by kernel_rfl }
open Go.RowKit in
theorem Tryz.strconv_Atoi_ok (s : ByteArray) (hmax : s.size <= 9223372036854775806) (v : Int) (h : Lib.atoiAll s.data.toList = .ok v) (w : World) :
  Calls Tryz.prog 65 #[.string s] w fun e w' => e = .returned (.tuple #[.int .i64 v, .nilIface]) /\ (w' = w \/ ∃ t, w' = Lib.bytesWorld w 5 t) := Any.strconv_Atoi_ok Tryz.laysC172 s hmax v h w
open Go.RowKit in
theorem Tryz.strconv_Atoi_range (s : ByteArray) (hlim : s.size <= 281474976710656) (h : Lib.atoiAll s.data.toList = .range) (ev : Value) (w : World) (hv : w.cell? ⟨3, 0, none⟩ = some ev) (hev : ev = .nilIface \/ ∃ te pe, ev = .iface te pe) :
  Calls Tryz.prog 65 #[.string s] w fun e w' => ∃ N, e = .returned (.tuple #[.int .i64 (Lib.atoiSat s.data.toList), .iface 233 (.pointer (some ⟨N, 0, none⟩))]) /\ w.heap.size <= N /\ w'.heap[N]? = some (.cells #[.string ⟨#[65, 116, 111, 105]⟩, .string s, ev] 249 (0, 0)) /\ Below w.heap.size w w' := Any.strconv_Atoi_range Tryz.laysC172 s hlim h ev w hv hev
def Tryz.lays143_ren : Go.Shelf.Ren := ⟨fun | 143 => 108 | 219 => 148 | 217 => 127 | 225 => 173 | 224 => 174 | 267 => 175 | 266 => 170 | 314 => 189 | n => n, fun | 9 => 9 | 3 => 3 | 4 => 4 | 5 => 5 | 46 => 238 | 146 => 251 | 51 => 244 | n => n, fun | 1 => 0 | n => n⟩
theorem Tryz.lays143 : Go.Proofs.Lays.n143 Tryz.prog Tryz.lays143_ren := {
 mixed := by kernel_rfl
 f143 := Tryz.func108.trans (congrArg some (by kernel_rfl))
 f217 := Tryz.func127.trans (congrArg some (by kernel_rfl))
 f219 := Tryz.func148.trans (congrArg some (by kernel_rfl))
 f224 := Tryz.func174.trans (congrArg some (by kernel_rfl))
 f225 := Tryz.func173.trans (congrArg some (by kernel_rfl))
 f266 := Tryz.func170.trans (congrArg some (by kernel_rfl))
 f267 := Tryz.func175.trans (congrArg some (by kernel_rfl))
 f314 := Tryz.func189.trans (congrArg some (by kernel_rfl))
 t3 := Tryz.underlying3
 a3 := Tryz.isAgg3
 z3 := Tryz.sizeOf3
 v3 := Tryz.zeroValue3
 t4 := Tryz.underlying4
 a4 := Tryz.isAgg4
 z4 := Tryz.sizeOf4
 v4 := Tryz.zeroValue4
 t5 := Tryz.underlying5
 a5 := Tryz.isAgg5
 z5 := Tryz.sizeOf5
 v5 := Tryz.zeroValue5
 t9 := Tryz.underlying9
 a9 := Tryz.isAgg9
 z9 := Tryz.sizeOf9
 v9 := Tryz.zeroValue9
 t46 := Tryz.underlying238
 a46 := Tryz.isAgg238
 z46 := Tryz.sizeOf238
 v46 := Tryz.zeroValue238
 t51 := Tryz.underlying244
 a51 := Tryz.isAgg244
 z51 := Tryz.sizeOf244
 v51 := Tryz.zeroValue244
 t146 := Tryz.underlying251
 a146 := Tryz.isAgg251
 z146 := Tryz.sizeOf251
 v146 := Tryz.zeroValue251
 g1 := by kernel_rfl }
open Go.RowKit Go.Lib in
theorem Tryz.strings_Index_one (s : ByteArray) (c : UInt8) (w : World) :
  Calls Tryz.prog 108 #[.string s, .string ⟨#[c]⟩] w fun e w' => e = .returned (.int .i64 (Lib.indexByte s.data.toList c)) /\ w' = w := Any.strings_Index_one Tryz.lays143 s c w
def Tryz.lays144_ren : Go.Shelf.Ren := ⟨fun | 144 => 48 | 143 => 108 | 219 => 148 | 217 => 127 | 225 => 173 | 224 => 174 | 267 => 175 | 266 => 170 | 314 => 189 | n => n, fun | 9 => 9 | 4 => 4 | 3 => 3 | 5 => 5 | 46 => 238 | 146 => 251 | 51 => 244 | n => n, fun | 1 => 0 | n => n⟩
theorem Tryz.lays144 : Go.Proofs.Lays.n144 Tryz.prog Tryz.lays144_ren := {
 mixed := by kernel_rfl
 f143 := Tryz.func108.trans (congrArg some (by kernel_rfl))
 f144 := Tryz.func48.trans (congrArg some (by kernel_rfl))
 f217 := Tryz.func127.trans (congrArg some (by kernel_rfl))
 f219 := Tryz.func148.trans (congrArg some (by kernel_rfl))
 f224 := Tryz.func174.trans (congrArg some (by kernel_rfl))
 f225 := Tryz.func173.trans (congrArg some (by kernel_rfl))
 f266 := Tryz.func170.trans (congrArg some (by kernel_rfl))
 f267 := Tryz.func175.trans (congrArg some (by kernel_rfl))
 f314 := Tryz.func189.trans (congrArg some (by kernel_rfl))
 t3 := Tryz.underlying3
 a3 := Tryz.isAgg3
 z3 := Tryz.sizeOf3
 v3 := Tryz.zeroValue3
 t4 := Tryz.underlying4
 a4 := Tryz.isAgg4
 z4 := Tryz.sizeOf4
 v4 := Tryz.zeroValue4
 t5 := Tryz.underlying5
 a5 := Tryz.isAgg5
 z5 := Tryz.sizeOf5
 v5 := Tryz.zeroValue5
 t9 := Tryz.underlying9
 a9 := Tryz.isAgg9
 z9 := Tryz.sizeOf9
 v9 := Tryz.zeroValue9
 t46 := Tryz.underlying238
 a46 := Tryz.isAgg238
 z46 := Tryz.sizeOf238
 v46 := Tryz.zeroValue238
 t51 := Tryz.underlying244
 a51 := Tryz.isAgg244
 z51 := Tryz.sizeOf244
 v51 := Tryz.zeroValue244
 t146 := Tryz.underlying251
 a146 := Tryz.isAgg251
 z146 := Tryz.sizeOf251
 v146 := Tryz.zeroValue251
 g1 := by kernel_rfl }
open Go.RowKit Go.Lib in
theorem Tryz.strings_Contains_one (s : ByteArray) (c : UInt8) (w : World) :
  Calls Tryz.prog 48 #[.string s, .string ⟨#[c]⟩] w fun e w' => e = .returned (.bool (decide (0 <= Lib.indexByte s.data.toList c))) /\ w' = w := Any.strings_Contains_one Tryz.lays144 s c w
def Tryz.lays189_ren : Go.Shelf.Ren := ⟨fun | 189 => 153 | 125 => 180 | 257 => 179 | 128 => 201 | 129 => 182 | 294 => 192 | 295 => 193 | 296 => 194 | 297 => 195 | 298 => 196 | 299 => 197 | 216 => 198 | 300 => 199 | 301 => 200 | 328 => 207 | 329 => 208 | 330 => 209 | 331 => 210 | 332 => 211 | 215 => 212 | 343 => 213 | n => n, fun | 28 => 24 | 3 => 3 | 46 => 238 | 0 => 0 | 51 => 244 | 53 => 221 | 4 => 4 | 183 => 261 | 182 => 260 | 131 => 80 | 5 => 5 | 9 => 9 | 218 => 272 | 222 => 170 | 228 => 279 | 229 => 280 | n => n, fun | n => n⟩
theorem Tryz.lays189 : Go.Proofs.Lays.n189 Tryz.prog Tryz.lays189_ren := {
 mixed := by kernel_rfl
 f125 := Tryz.func180.trans (congrArg some (by kernel_rfl))
 f128 := Tryz.func201.trans (congrArg some (by kernel_rfl))
 f129 := Tryz.func182.trans (congrArg some (by kernel_rfl))
 f189 := Tryz.func153.trans (congrArg some (by kernel_rfl))
 f215 := Tryz.func212.trans (congrArg some (by kernel_rfl))
 f216 := Tryz.func198.trans (congrArg some (by kernel_rfl))
 f257 := Tryz.func179.trans (congrArg some (by kernel_rfl))
 f294 := Tryz.func192.trans (congrArg some (by kernel_rfl))
 f295 := Tryz.func193.trans (congrArg some (by kernel_rfl))
 f296 := Tryz.func194.trans (congrArg some (by kernel_rfl))
 f297 := Tryz.func195.trans (congrArg some (by kernel_rfl))
 f298 := Tryz.func196.trans (congrArg some (by kernel_rfl))
 f299 := Tryz.func197.trans (congrArg some (by kernel_rfl))
 f300 := Tryz.func199.trans (congrArg some (by kernel_rfl))
 f301 := Tryz.func200.trans (congrArg some (by kernel_rfl))
 f328 := Tryz.func207.trans (congrArg some (by kernel_rfl))
 f329 := Tryz.func208.trans (congrArg some (by kernel_rfl))
 f330 := Tryz.func209.trans (congrArg some (by kernel_rfl))
 f331 := Tryz.func210.trans (congrArg some (by kernel_rfl))
 f332 := Tryz.func211.trans (congrArg some (by kernel_rfl))
 f343 := Tryz.func213.trans (congrArg some (by kernel_rfl))
 t0 := Tryz.underlying0
 a0 := Tryz.isAgg0
 z0 := Tryz.sizeOf0
 v0 := Tryz.zeroValue0
 t3 := Tryz.underlying3
 a3 := Tryz.isAgg3
 z3 := Tryz.sizeOf3
 v3 := Tryz.zeroValue3
 t4 := Tryz.underlying4
 a4 := Tryz.isAgg4
 z4 := Tryz.sizeOf4
 v4 := Tryz.zeroValue4
 t5 := Tryz.underlying5
 a5 := Tryz.isAgg5
 z5 := Tryz.sizeOf5
 v5 := Tryz.zeroValue5
 t9 := Tryz.underlying9
 a9 := Tryz.isAgg9
 z9 := Tryz.sizeOf9
 v9 := Tryz.zeroValue9
 t28 := Tryz.underlying24
 a28 := Tryz.isAgg24
 z28 := Tryz.sizeOf24
 v28 := Tryz.zeroValue24
 t46 := Tryz.underlying238
 a46 := Tryz.isAgg238
 z46 := Tryz.sizeOf238
 v46 := Tryz.zeroValue238
 t51 := Tryz.underlying244
 a51 := Tryz.isAgg244
 z51 := Tryz.sizeOf244
 v51 := Tryz.zeroValue244
 t53 := Tryz.underlying221
 a53 := Tryz.isAgg221
 z53 := Tryz.sizeOf221
 v53 := Tryz.zeroValue221
 t131 := Tryz.underlying80
 a131 := Tryz.isAgg80
 z131 := Tryz.sizeOf80
 v131 := Tryz.zeroValue80
 t182 := Tryz.underlying260
 a182 := Tryz.isAgg260
 z182 := Tryz.sizeOf260
 v182 := Tryz.zeroValue260
 t183 := Tryz.underlying261
 a183 := Tryz.isAgg261
 z183 := Tryz.sizeOf261
 v183 := Tryz.zeroValue261
 t218 := Tryz.underlying272
 a218 := Tryz.isAgg272
 z218 := Tryz.sizeOf272
 v218 := Tryz.zeroValue272
 t222 := Tryz.underlying170
 a222 := Tryz.isAgg170
 z222 := Tryz.sizeOf170
 v222 := Tryz.zeroValue170
 t228 := Tryz.underlying279
 a228 := Tryz.isAgg279
 z228 := Tryz.sizeOf279
 v228 := Tryz.zeroValue279
 t229 := Tryz.underlying280
 a229 := Tryz.isAgg280
 z229 := Tryz.sizeOf280
 v229 := Tryz.zeroValue280 }
open Go.Sort Go.RowKit in
theorem Tryz.slices_Sort_int (blk off cap : Nat) (zs : List Int) (w : World) (hH : Holds (Value.int .i64) w blk off zs.toArray) (hblk : blk < w.heap.size) (hsz : zs.length < 4611686018427387904) :
  Calls Tryz.prog 153 #[.slice (some ⟨blk, off, none⟩) zs.length cap] w fun e w' =>
   e = .returned (.tuple #[]) /\ ∃ n os, w' = grow (putRow (Value.int .i64) (Sort.ahead w n) blk off (zs.mergeSort fun x y => decide (x <= y)).toArray) os := Any.slices_Sort_int Tryz.lays189 blk off cap zs w hH hblk hsz
def Tryz.lays101_ren : Go.Shelf.Ren := ⟨fun | 101 => 66 | 208 => 126 | 206 => 169 | n => n, fun | 9 => 9 | 4 => 4 | 3 => 3 | n => n, fun | n => n⟩
theorem Tryz.lays101 : Go.Proofs.Lays.n101 Tryz.prog Tryz.lays101_ren := {
 mixed := by kernel_rfl
 f101 := Tryz.func66.trans (congrArg some (by kernel_rfl))
 f206 := Tryz.func169.trans (congrArg some (by kernel_rfl))
 f208 := Tryz.func126.trans (congrArg some (by kernel_rfl))
 t3 := Tryz.underlying3
 a3 := Tryz.isAgg3
 z3 := Tryz.sizeOf3
 v3 := Tryz.zeroValue3
 t4 := Tryz.underlying4
 a4 := Tryz.isAgg4
 z4 := Tryz.sizeOf4
 v4 := Tryz.zeroValue4
 t9 := Tryz.underlying9
 a9 := Tryz.isAgg9
 z9 := Tryz.sizeOf9
 v9 := Tryz.zeroValue9 }
open Go.RowKit Go.Lib in
theorem Tryz.strings_TrimPrefix (s p : ByteArray) (w : World) :
  Calls Tryz.prog 66 #[.string s, .string p] w fun e w' => e = .returned (.string ⟨(Lib.trimPrefix s.data.toList p.data.toList).toArray⟩) /\ w' = w := Any.strings_TrimPrefix Tryz.lays101 s p w
def Tryz.lays102_ren : Go.Shelf.Ren := ⟨fun | 102 => 39 | 209 => 70 | 207 => 128 | n => n, fun | 9 => 9 | 4 => 4 | 3 => 3 | n => n, fun | n => n⟩
theorem Tryz.lays102 : Go.Proofs.Lays.n102 Tryz.prog Tryz.lays102_ren := {
 mixed := by kernel_rfl
 f102 := Tryz.func39.trans (congrArg some (by kernel_rfl))
 f207 := Tryz.func128.trans (congrArg some (by kernel_rfl))
 f209 := Tryz.func70.trans (congrArg some (by kernel_rfl))
 t3 := Tryz.underlying3
 a3 := Tryz.isAgg3
 z3 := Tryz.sizeOf3
 v3 := Tryz.zeroValue3
 t4 := Tryz.underlying4
 a4 := Tryz.isAgg4
 z4 := Tryz.sizeOf4
 v4 := Tryz.zeroValue4
 t9 := Tryz.underlying9
 a9 := Tryz.isAgg9
 z9 := Tryz.sizeOf9
 v9 := Tryz.zeroValue9 }
open Go.RowKit Go.Lib in
theorem Tryz.strings_TrimSuffix (s p : ByteArray) (w : World) (hs : s.size <= 9223372036854775807) :
  Calls Tryz.prog 39 #[.string s, .string p] w fun e w' => e = .returned (.string ⟨(Lib.trimSuffix s.data.toList p.data.toList).toArray⟩) /\ w' = w := Any.strings_TrimSuffix Tryz.lays102 s p w hs
def Tryz.lays146_ren : Go.Shelf.Ren := ⟨fun | 146 => 28 | 221 => 63 | 268 => 121 | 138 => 122 | 143 => 108 | 195 => 161 | 197 => 149 | 218 => 162 | 219 => 148 | 260 => 176 | 217 => 127 | 225 => 173 | 224 => 174 | 267 => 175 | 266 => 170 | 314 => 189 | n => n, fun | 9 => 9 | 31 => 39 | 3 => 3 | 4 => 4 | 0 => 0 | 105 => 216 | 21 => 21 | 5 => 5 | 46 => 238 | 119 => 253 | 139 => 256 | 138 => 255 | 146 => 251 | 51 => 244 | n => n, fun | 1 => 0 | 3 => 4 | 4 => 5 | n => n⟩
theorem Tryz.lays146 : Go.Proofs.Lays.n146 Tryz.prog Tryz.lays146_ren := {
 mixed := by kernel_rfl
 f138 := Tryz.func122.trans (congrArg some (by kernel_rfl))
 f143 := Tryz.func108.trans (congrArg some (by kernel_rfl))
 f146 := Tryz.func28.trans (congrArg some (by kernel_rfl))
 f195 := Tryz.func161.trans (congrArg some (by kernel_rfl))
 f197 := Tryz.func149.trans (congrArg some (by kernel_rfl))
 f217 := Tryz.func127.trans (congrArg some (by kernel_rfl))
 f218 := Tryz.func162.trans (congrArg some (by kernel_rfl))
 f219 := Tryz.func148.trans (congrArg some (by kernel_rfl))
 f221 := Tryz.func63.trans (congrArg some (by kernel_rfl))
 f224 := Tryz.func174.trans (congrArg some (by kernel_rfl))
 f225 := Tryz.func173.trans (congrArg some (by kernel_rfl))
 f260 := Tryz.func176.trans (congrArg some (by kernel_rfl))
 f266 := Tryz.func170.trans (congrArg some (by kernel_rfl))
 f267 := Tryz.func175.trans (congrArg some (by kernel_rfl))
 f268 := Tryz.func121.trans (congrArg some (by kernel_rfl))
 f314 := Tryz.func189.trans (congrArg some (by kernel_rfl))
 t0 := Tryz.underlying0
 a0 := Tryz.isAgg0
 z0 := Tryz.sizeOf0
 v0 := Tryz.zeroValue0
 t3 := Tryz.underlying3
 a3 := Tryz.isAgg3
 z3 := Tryz.sizeOf3
 v3 := Tryz.zeroValue3
 t4 := Tryz.underlying4
 a4 := Tryz.isAgg4
 z4 := Tryz.sizeOf4
 v4 := Tryz.zeroValue4
 t5 := Tryz.underlying5
 a5 := Tryz.isAgg5
 z5 := Tryz.sizeOf5
 v5 := Tryz.zeroValue5
 t9 := Tryz.underlying9
 a9 := Tryz.isAgg9
 z9 := Tryz.sizeOf9
 v9 := Tryz.zeroValue9
 t21 := Tryz.underlying21
 a21 := Tryz.isAgg21
 z21 := Tryz.sizeOf21
 v21 := Tryz.zeroValue21
 t31 := Tryz.underlying39
 a31 := Tryz.isAgg39
 z31 := Tryz.sizeOf39
 v31 := Tryz.zeroValue39
 t46 := Tryz.underlying238
 a46 := Tryz.isAgg238
 z46 := Tryz.sizeOf238
 v46 := Tryz.zeroValue238
 t51 := Tryz.underlying244
 a51 := Tryz.isAgg244
 z51 := Tryz.sizeOf244
 v51 := Tryz.zeroValue244
 t105 := Tryz.underlying216
 a105 := Tryz.isAgg216
 z105 := Tryz.sizeOf216
 v105 := Tryz.zeroValue216
 t119 := Tryz.underlying253
 a119 := Tryz.isAgg253
 z119 := Tryz.sizeOf253
 t138 := Tryz.underlying255
 a138 := Tryz.isAgg255
 z138 := Tryz.sizeOf255
 v138 := Tryz.zeroValue255
 t139 := Tryz.underlying256
 a139 := Tryz.isAgg256
 z139 := Tryz.sizeOf256
 v139 := Tryz.zeroValue256
 t146 := Tryz.underlying251
 a146 := Tryz.isAgg251
 z146 := Tryz.sizeOf251
 v146 := Tryz.zeroValue251
 g1 := by kernel_rfl
 g3 := by kernel_rfl
 g4 := by kernel_rfl }
open Go.RowKit Go.Lib in
theorem Tryz.strings_Split (s sep : ByteArray) (m : Int) (w : World) (hs : s.size < 4294967281) (hm : w.cell? ⟨0, 0, none⟩ = some (.int .i64 m)) (h1 : 1 <= sep.size) :
  Calls Tryz.prog 28 #[.string s, .string sep] w fun e w' =>
   e = .returned (.slice (some ⟨w.heap.size, 0, none⟩) (Lib.countB s sep + 1) (Lib.countB s sep + 1)) /\ w' = w.alloc (.cells ((Lib.splitB sep 0 (Lib.countB s sep) s).map Value.string).toArray 9) := Any.strings_Split Tryz.lays146 (by kernel_rfl) s sep m w hs hm h1
def Tryz.lays155_ren : Go.Shelf.Ren := ⟨fun | 155 => 49 | 154 => 109 | 138 => 122 | 165 => 60 | 143 => 108 | 166 => 61 | 197 => 149 | 169 => 62 | 195 => 161 | 218 => 162 | 240 => 119 | 241 => 120 | 219 => 148 | 260 => 176 | 276 => 159 | 277 => 160 | 217 => 127 | 225 => 173 | 224 => 174 | 267 => 175 | 266 => 170 | 314 => 189 | n => n, fun | 9 => 9 | 3 => 3 | 4 => 4 | 72 => 149 | 0 => 0 | 76 => 153 | 105 => 216 | 21 => 21 | 5 => 5 | 70 => 146 | 20 => 20 | 37 => 147 | 75 => 152 | 127 => 204 | 164 => 226 | 46 => 238 | 119 => 253 | 139 => 256 | 138 => 255 | 146 => 251 | 51 => 244 | 80 => 63 | n => n, fun | 1 => 0 | 3 => 4 | 4 => 5 | n => n⟩
theorem Tryz.lays155 : Go.Proofs.Lays.n155 Tryz.prog Tryz.lays155_ren := {
 mixed := by kernel_rfl
 f138 := Tryz.func122.trans (congrArg some (by kernel_rfl))
 f143 := Tryz.func108.trans (congrArg some (by kernel_rfl))
 f154 := Tryz.func109.trans (congrArg some (by kernel_rfl))
 f155 := Tryz.func49.trans (congrArg some (by kernel_rfl))
 f165 := Tryz.func60.trans (congrArg some (by kernel_rfl))
 f166 := Tryz.func61.trans (congrArg some (by kernel_rfl))
 f169 := Tryz.func62.trans (congrArg some (by kernel_rfl))
 f195 := Tryz.func161.trans (congrArg some (by kernel_rfl))
 f197 := Tryz.func149.trans (congrArg some (by kernel_rfl))
 f217 := Tryz.func127.trans (congrArg some (by kernel_rfl))
 f218 := Tryz.func162.trans (congrArg some (by kernel_rfl))
 f219 := Tryz.func148.trans (congrArg some (by kernel_rfl))
 f224 := Tryz.func174.trans (congrArg some (by kernel_rfl))
 f225 := Tryz.func173.trans (congrArg some (by kernel_rfl))
 f240 := Tryz.func119.trans (congrArg some (by kernel_rfl))
 f241 := Tryz.func120.trans (congrArg some (by kernel_rfl))
 f260 := Tryz.func176.trans (congrArg some (by kernel_rfl))
 f266 := Tryz.func170.trans (congrArg some (by kernel_rfl))
 f267 := Tryz.func175.trans (congrArg some (by kernel_rfl))
 f276 := Tryz.func159.trans (congrArg some (by kernel_rfl))
 f277 := Tryz.func160.trans (congrArg some (by kernel_rfl))
 f314 := Tryz.func189.trans (congrArg some (by kernel_rfl))
 t0 := Tryz.underlying0
 a0 := Tryz.isAgg0
 z0 := Tryz.sizeOf0
 v0 := Tryz.zeroValue0
 t3 := Tryz.underlying3
 a3 := Tryz.isAgg3
 z3 := Tryz.sizeOf3
 v3 := Tryz.zeroValue3
 t4 := Tryz.underlying4
 a4 := Tryz.isAgg4
 z4 := Tryz.sizeOf4
 v4 := Tryz.zeroValue4
 t5 := Tryz.underlying5
 a5 := Tryz.isAgg5
 z5 := Tryz.sizeOf5
 v5 := Tryz.zeroValue5
 t9 := Tryz.underlying9
 a9 := Tryz.isAgg9
 z9 := Tryz.sizeOf9
 v9 := Tryz.zeroValue9
 t20 := Tryz.underlying20
 a20 := Tryz.isAgg20
 z20 := Tryz.sizeOf20
 v20 := Tryz.zeroValue20
 t21 := Tryz.underlying21
 a21 := Tryz.isAgg21
 z21 := Tryz.sizeOf21
 v21 := Tryz.zeroValue21
 t37 := Tryz.underlying147
 a37 := Tryz.isAgg147
 z37 := Tryz.sizeOf147
 v37 := Tryz.zeroValue147
 t46 := Tryz.underlying238
 a46 := Tryz.isAgg238
 z46 := Tryz.sizeOf238
 v46 := Tryz.zeroValue238
 t51 := Tryz.underlying244
 a51 := Tryz.isAgg244
 z51 := Tryz.sizeOf244
 v51 := Tryz.zeroValue244
 t70 := Tryz.underlying146
 a70 := Tryz.isAgg146
 z70 := Tryz.sizeOf146
 v70 := Tryz.zeroValue146
 t72 := Tryz.underlying149
 a72 := Tryz.isAgg149
 z72 := Tryz.sizeOf149
 v72 := Tryz.zeroValue149
 t75 := Tryz.underlying152
 a75 := Tryz.isAgg152
 z75 := Tryz.sizeOf152
 v75 := Tryz.zeroValue152
 t76 := Tryz.underlying153
 a76 := Tryz.isAgg153
 z76 := Tryz.sizeOf153
 v76 := Tryz.zeroValue153
 t105 := Tryz.underlying216
 a105 := Tryz.isAgg216
 z105 := Tryz.sizeOf216
 v105 := Tryz.zeroValue216
 t119 := Tryz.underlying253
 a119 := Tryz.isAgg253
 z119 := Tryz.sizeOf253
 t127 := Tryz.underlying204
 a127 := Tryz.isAgg204
 z127 := Tryz.sizeOf204
 v127 := Tryz.zeroValue204
 t138 := Tryz.underlying255
 a138 := Tryz.isAgg255
 z138 := Tryz.sizeOf255
 v138 := Tryz.zeroValue255
 t139 := Tryz.underlying256
 a139 := Tryz.isAgg256
 z139 := Tryz.sizeOf256
 v139 := Tryz.zeroValue256
 t146 := Tryz.underlying251
 a146 := Tryz.isAgg251
 z146 := Tryz.sizeOf251
 v146 := Tryz.zeroValue251
 t164 := Tryz.underlying226
 a164 := Tryz.isAgg226
 z164 := Tryz.sizeOf226
 v164 := Tryz.zeroValue226
 g1 := by kernel_rfl
 g3 := by kernel_rfl
 g4 := by kernel_rfl }
theorem Tryz.Builder_Extra_155 : Builder.Extra Tryz.prog Tryz.lays155_ren := {
 sizeBuilder := by kernel_rfl
 liesBuilder := by kernel_rfl
 t5 := Tryz.underlying5
 a5 := Tryz.isAgg5
 z5 := Tryz.sizeOf5
 v5 := Tryz.zeroValue5
 infoByte := by kernel_rfl
 cellsByte := by kernel_rfl
 sizeByte := by kernel_rfl
 neB5 := by decide }
open Go.RowKit Go.Lib in
theorem Tryz.strings_ReplaceAll (s old new : ByteArray) (m : Int) (w : World) (hs : s.size < 4294967281) (hm : w.cell? ⟨0, 0, none⟩ = some (.int .i64 m)) (h1 : 1 <= old.size) (hlen : s.size + Lib.countB s old * new.size <= 140737488355328) :
  Calls Tryz.prog 49 #[.string s, .string old, .string new] w fun e w' =>
   e = .returned (.string ⟨(Lib.replaceAll s.data.toList old.data.toList new.data.toList).toArray⟩) /\ Below w.heap.size w w' := Any.strings_ReplaceAll Tryz.lays155 Tryz.Builder_Extra_155 s old new m w hs hm h1 hlen
def Tryz.laysM146_ren : Go.Shelf.Ren := ⟨fun | 146 => 28 | 221 => 63 | 268 => 121 | 138 => 122 | 143 => 108 | 195 => 161 | 197 => 149 | 218 => 162 | 219 => 148 | 260 => 176 | 217 => 127 | 225 => 173 | 224 => 174 | 267 => 175 | 266 => 170 | 314 => 189 | n => n, fun | 9 => 9 | 31 => 39 | 3 => 3 | 4 => 4 | 0 => 0 | 105 => 216 | 21 => 21 | 5 => 5 | 46 => 238 | 119 => 253 | 139 => 256 | 138 => 255 | 146 => 251 | 51 => 244 | n => n, fun | 1 => 0 | 3 => 4 | 4 => 5 | n => n⟩
theorem Tryz.laysM146 : Go.Proofs.LaysM.n146 Tryz.prog Tryz.laysM146_ren := {
 mixed := by kernel_rfl
 f138 := Tryz.func122.trans (congrArg some (by kernel_rfl))
 f143 := Tryz.func108.trans (congrArg some (by kernel_rfl))
 f146 := Tryz.func28.trans (congrArg some (by kernel_rfl))
 f195 := Tryz.func161.trans (congrArg some (by kernel_rfl))
 f197 := Tryz.func149.trans (congrArg some (by kernel_rfl))
 f217 := Tryz.func127.trans (congrArg some (by kernel_rfl))
 f218 := Tryz.func162.trans (congrArg some (by kernel_rfl))
 f219 := Tryz.func148.trans (congrArg some (by kernel_rfl))
 f221 := Tryz.func63.trans (congrArg some (by kernel_rfl))
 f224 := Tryz.func174.trans (congrArg some (by kernel_rfl))
 f225 := Tryz.func173.trans (congrArg some (by kernel_rfl))
 f260 := Tryz.func176.trans (congrArg some (by kernel_rfl))
 f266 := Tryz.func170.trans (congrArg some (by kernel_rfl))
 f267 := Tryz.func175.trans (congrArg some (by kernel_rfl))
 f268 := Tryz.func121.trans (congrArg some (by kernel_rfl))
 f314 := Tryz.func189.trans (congrArg some (by kernel_rfl))
 t0 := Tryz.underlying0
 a0 := Tryz.isAgg0
 z0 := Tryz.sizeOf0
 v0 := Tryz.zeroValue0
 t3 := Tryz.underlying3
 a3 := Tryz.isAgg3
 z3 := Tryz.sizeOf3
 v3 := Tryz.zeroValue3
 t4 := Tryz.underlying4
 a4 := Tryz.isAgg4
 z4 := Tryz.sizeOf4
 v4 := Tryz.zeroValue4
 t5 := Tryz.underlying5
 a5 := Tryz.isAgg5
 z5 := Tryz.sizeOf5
 v5 := Tryz.zeroValue5
 t9 := Tryz.underlying9
 a9 := Tryz.isAgg9
 z9 := Tryz.sizeOf9
 v9 := Tryz.zeroValue9
 t21 := Tryz.underlying21
 a21 := Tryz.isAgg21
 z21 := Tryz.sizeOf21
 v21 := Tryz.zeroValue21
 t31 := Tryz.underlying39
 a31 := Tryz.isAgg39
 z31 := Tryz.sizeOf39
 v31 := Tryz.zeroValue39
 t46 := Tryz.underlying238
 a46 := Tryz.isAgg238
 z46 := Tryz.sizeOf238
 v46 := Tryz.zeroValue238
 t51 := Tryz.underlying244
 a51 := Tryz.isAgg244
 z51 := Tryz.sizeOf244
 v51 := Tryz.zeroValue244
 t105 := Tryz.underlying216
 a105 := Tryz.isAgg216
 z105 := Tryz.sizeOf216
 v105 := Tryz.zeroValue216
 t119 := Tryz.underlying253
 a119 := Tryz.isAgg253
 z119 := Tryz.sizeOf253
 t138 := Tryz.underlying255
 a138 := Tryz.isAgg255
 z138 := Tryz.sizeOf255
 v138 := Tryz.zeroValue255
 t139 := Tryz.underlying256
 a139 := Tryz.isAgg256
 z139 := Tryz.sizeOf256
 v139 := Tryz.zeroValue256
 t146 := Tryz.underlying251
 a146 := Tryz.isAgg251
 z146 := Tryz.sizeOf251
 v146 := Tryz.zeroValue251
 g1 := by kernel_rfl
 g3 := by kernel_rfl
 g4 := by kernel_rfl
 i0 := by kernel_rfl
 i3 := by kernel_rfl
 i4 := by kernel_rfl
 i5 := by kernel_rfl
 i9 := by kernel_rfl
 i21 := by kernel_rfl
 i31 := by kernel_rfl
 i46 := by kernel_rfl
 i51 := by kernel_rfl
 i105 := by kernel_rfl
 i138 := by kernel_rfl
 i139 := by kernel_rfl
 i146 := by kernel_rfl
 m1 := by kernel_rfl
 s1_3 := fun w h => Go.Proofs.cell_of_shapedOpen_int (zero := #[.int .i64 0]) (t := 3) h (of_decide_eq_true (by kernel_rfl)) (by kernel_rfl) rfl (by kernel_rfl) (by kernel_rfl) Tryz.underlying3
 m3 := by kernel_rfl
 m4 := by kernel_rfl }
def Tryz.laysNm220_ren : Go.Shelf.Ren := ⟨fun | 20 => 154 | n => n, fun | 22 => 24 | 3 => 3 | 4 => 4 | 0 => 0 | n => n, fun | n => n⟩
theorem Tryz.laysNm220 : Go.Proofs.Lays2.n20 Tryz.prog Tryz.laysNm220_ren := {
 mixed := by kernel_rfl
 f20 := Tryz.func154.trans (congrArg some (by kernel_rfl))
 t0 := Tryz.underlying0
 a0 := Tryz.isAgg0
 z0 := Tryz.sizeOf0
 v0 := Tryz.zeroValue0
 t3 := Tryz.underlying3
 a3 := Tryz.isAgg3
 z3 := Tryz.sizeOf3
 v3 := Tryz.zeroValue3
 t4 := Tryz.underlying4
 a4 := Tryz.isAgg4
 z4 := Tryz.sizeOf4
 v4 := Tryz.zeroValue4
 t22 := Tryz.underlying24
 a22 := Tryz.isAgg24
 z22 := Tryz.sizeOf24
 v22 := Tryz.zeroValue24
 i3 := by kernel_rfl }
open Go.RowKit Go.Lib Go.Sort in
theorem Tryz.slices_Compact_int (blk off cap : Nat) (zs : List Int) (w : World) (hH : Holds (Value.int .i64) w blk off zs.toArray) (hsz : zs.length <= 9223372036854775807) (hcap : zs.length <= cap) :
  Calls Tryz.prog 154 #[.slice (some ⟨blk, off, none⟩) zs.length cap] w fun e w' => e = .returned (.slice (some ⟨blk, off, none⟩) (Lib.compact zs).length cap) /\ ∃ q, w' = putRow (Value.int .i64) (Sort.ahead w q) blk off (Lib.compact zs ++ List.replicate (zs.length - (Lib.compact zs).length) 0).toArray := Any.slices_Compact_int Tryz.laysNm220 blk off cap zs w hH hsz hcap
end Go.Proofs
/-
 What the library's functions give, by their contracts (numbers of seat Tryz).
-/
namespace Go.Fx
open Go.Proofs
def strRowK {A : Type} : List ByteArray -> (List AV -> A) -> A
 | [], K => K []
 | s :: l, K => bytesK s.data.toList fun b => strRowK l fun l => K (.str ⟨⟨b⟩⟩ :: l)
def Gt : Nat -> Option AV := fun _ => none
def numAV (v : AV) (e : AV) : AV := .tup 2 (tbl [v, e])
def libT (f : FuncId) (args : List AV) (L : List HObj) : Option (AV × List HObj) :=
 match L with
 | [] =>
  match f, args with
  | 28, [.str s, .str sep] => bif Nat.blt s.size 4294967281 && Nat.ble 1 sep.size then strRowK (Lib.splitB sep 0 (Lib.countB s sep) s) fun l => some (.slc 1 l.length (fun i j => tbl l (i * 1 + j)), []) else none
  | 65, [.str s] => bif Nat.ble s.size 281474976710656 then (match Lib.atoiAll s.data.toList with | .ok v => some (numAV (.int .i64 v) (.val .nilIface), []) | .range => some (numAV (.int .i64 (Lib.atoiSat s.data.toList)) .ifc, []) | _ => some (numAV (.int .i64 0) .ifc, [])) else none
  | 24, [.int .i64 n] => bif decide (inK .i64 n) then bytesK (Lib.itoa n) fun l => some (.str ⟨⟨l⟩⟩, []) else none
  | 69, [.str s, .int .u8 c] => some (.int .i64 (Lib.indexByte s.data.toList c.toNat.toUInt8), [])
  | 180, [.int .u64 x] => bif decide (0 <= x) && decide (x <= 18446744073709551615) then some (.int .i64 (Lib.bitLen x.toNat), []) else none
  | 66, [.str s, .str p] => bytesK (Lib.trimPrefix s.data.toList p.data.toList) fun l => some (.str ⟨⟨l⟩⟩, [])
  | 108, [.str s, .str p] => bif Nat.ble 1 p.size && Nat.ble p.size 1 then some (.int .i64 (Lib.indexByte s.data.toList (p.data.toList.headD 0)), []) else none
  | _, _ => none
 | _ => none
end Go.Fx
/-
 The library's functions, by their contracts.
-/
namespace Go.Fx
open Go.Proofs Go.RowKit Go.Sort Go.Lib
theorem strRowK_eq {A : Type} : ∀ (l : List ByteArray) (K : List AV -> A), strRowK l K = K (l.map .str)
 | [], _ => rfl
 | s :: l, K => by simp only [strRowK, bytesK_eq, strRowK_eq l, List.map_cons]
def valOf : AV -> Option Value
 | .int k n => some (.int k n)
 | .bool b => some (.bool b)
 | .str s => some (.string s)
 | _ => none
theorem valOf_reads {g : Nat -> GO} {I : Nat -> Nat -> Prop} {w : World} {av : AV} {m : Nat} {c u : Value} (h : valOf av = some u) (hr : Reads g I w av m c) : c = u := by
 cases av <;> simp only [valOf, Option.some.injEq, reduceCtorEq] at h <;> subst h <;> exact hr
structure Laid (W0 : World) : Prop where
 m : ∃ m, W0.cell? ⟨0, 0, none⟩ = some (.int .i64 m)
 e3 : ∃ ev, W0.cell? ⟨2, 0, none⟩ = some ev /\ (ev = .nilIface \/ ∃ te pe, ev = .iface te pe)
 e4 : ∃ ev, W0.cell? ⟨3, 0, none⟩ = some ev /\ (ev = .nilIface \/ ∃ te pe, ev = .iface te pe)
 tab : Lib.TabIs Tryz.prog W0 "internal/strconv.uint64pow10" .u64 Lib.pow10Tab
theorem cell_lt {W : World} {a : Addr} {v : Value} (h : W.cell? a = some v) : a.block < W.heap.size := by
 unfold World.cell? at h
 split at h
 ·rename_i hh; exact (Array.getElem?_eq_some_iff.1 hh).1
 ·cases h
section
variable {X : Ctx}
theorem mut_lib {f : FuncId} {args : List AV} {r : AV} (hent : Enters X.P f) (vals : List Value) (hv : args.map valOf = vals.map some)
  (h : ∀ w, Below X.W0.heap.size X.W0 w -> Calls X.P f vals.toArray w fun e w' => ∃ v, e = .returned v /\ Below w.heap.size w w' /\ ∀ g, Reads g (fun b _ => w.heap.size <= b /\ b < w'.heap.size) w' r 0 v) : Mut X f args [] r [] := by
 refine ⟨hent, fun c cargs hok hb hL hsz hargs => ?_⟩
 have hlen : args.length = vals.length := by simpa using congrArg List.length hv
 have e : cargs = vals.toArray := by
  apply Array.ext (by simp [hsz, hlen])
  intro j h1 h2
  have hj : j < args.length := by omega
  obtain ⟨v, h3, h4⟩ := hargs j args[j] (by simp [hj])
  have h5 : (args.map valOf)[j]? = (vals.map some)[j]? := by rw [hv]
  have h6 : j < vals.length := by omega
  simp only [List.getElem?_map, List.getElem?_eq_getElem hj, List.getElem?_eq_getElem h6, Option.map_some, Option.some.injEq] at h5
  have h7 := valOf_reads h5 h4
  rw [Array.getElem?_eq_getElem h1] at h3
  cases h3
  simpa using h7
 subst e
 refine (h c.w hb.below).mono fun e w' ⟨v, h1, h2, h3⟩ => ?_
 have tr := Tr.imm hok (w' := w') (I' := fun b o => c.I b o \/ (c.w.heap.size <= b /\ b < w'.heap.size)) h2.os h2.tape h2.output h2.size h2.block (fun _ _ h => .inl h) (fun b o h => h)
 refine ⟨v, _, h1, rfl, tr, hL, ?_⟩
 show Reads c.g _ w' r c.H.length v
 rw [hL]
 exact Reads.mono' (M := 0) (fun k hk => absurd hk (by omega)) (fun b o hx => ⟨.inr hx, rfl⟩) r 0 0 v (Nat.le_refl _) (Nat.le_refl _) (h3 c.g)
end
theorem enters_lib {f : FuncId} (h : (match Tryz.prog.funcs[f]? with | some fn => !(fn.name == "runtime.NumGoroutine") && fn.body.isSome | none => false) = true) : Enters Tryz.prog f := by
 split at h
 ·rename_i fn hf
  simp only [Bool.and_eq_true, Bool.not_eq_true'] at h
  exact ⟨fn, hf, h.1, h.2⟩
 ·cases h
theorem below_grow_drewN (w : World) (k : Nat) (os : Array Obj) : Below w.heap.size w (grow (w.drewN k) os) :=
 ⟨rfl, rfl, rfl, by simp [grow, World.drewN], fun b hb => by simp [grow, World.drewN, Array.getElem?_append_left hb]⟩
section
variable {W0 : World} {G : Nat -> Option AV}
theorem lib_split (hl : Laid W0) {s sep : ByteArray} (hs : s.size < 4294967281) (h1 : 1 <= sep.size) :
  Mut (Xc W0 G) 28 [.str s, .str sep] [] (.slc 1 ((Lib.splitB sep 0 (Lib.countB s sep) s).map AV.str).length fun i j => tbl ((Lib.splitB sep 0 (Lib.countB s sep) s).map AV.str) (i * 1 + j)) [] := by
 obtain ⟨m, hm⟩ := hl.m
 refine mut_lib (enters_lib (by kernel_rfl)) [.string s, .string sep] rfl fun w hb => ?_
 have hk : Calls Tryz.prog 28 #[.string s, .string sep] w fun e w' =>
   e = .returned (.slice (some ⟨w.heap.size, 0, none⟩) (Lib.countB s sep + 1) (Lib.countB s sep + 1)) /\ w' = w.alloc (.cells ((Lib.splitB sep 0 (Lib.countB s sep) s).map Value.string).toArray 9) :=
  Any.strings_Split Tryz.lays146 (by kernel_rfl) s sep m w hs ((hb.cell (cell_lt hm)).trans hm) h1
 refine hk.mono fun e w' ⟨he, hw⟩ => ⟨_, he, ?_, fun g => ?_⟩
 ·rw [hw]; exact (Below.refl _ _).alloc (Nat.le_refl _) _
 ·have hlen : ((Lib.splitB sep 0 (Lib.countB s sep) s).map AV.str).length = Lib.countB s sep + 1 := by
   rw [List.length_map]; exact Lib.splitB_all sep h1 0 _ s rfl
  rw [hlen]
  refine ⟨_, _, rfl, Nat.le_refl _, fun _ => ⟨_, _, rfl, fun i j hi hj => ?_⟩⟩
  have hj0 : j = 0 := by omega
  subst hj0
  have hi2 : i < (Lib.splitB sep 0 (Lib.countB s sep) s).length := by rw [List.length_map] at hlen; omega
  have hsz : (w.alloc (.cells ((Lib.splitB sep 0 (Lib.countB s sep) s).map Value.string).toArray 9)).heap.size = w.heap.size + 1 := Array.size_push ..
  refine ⟨by rw [hw, hsz]; exact ⟨Nat.le_refl _, Nat.lt_succ_self _⟩, ?_⟩
  refine ⟨.string (Lib.splitB sep 0 (Lib.countB s sep) s)[i], ?_, rfl, ?_⟩
  ·rw [hw]
   have hh : (w.alloc (.cells ((Lib.splitB sep 0 (Lib.countB s sep) s).map Value.string).toArray 9)).heap[w.heap.size]? = some (.cells ((Lib.splitB sep 0 (Lib.countB s sep) s).map Value.string).toArray 9 (0, 0)) := Array.getElem?_push_size
   simp only [World.cell?, Nat.zero_add, Nat.add_zero, hh]
   simp [hi2]
  ·simp [tbl, Reads, hi2]
theorem lib_itoa (hl : Laid W0) {n : Int} (h : inK .i64 n) : Mut (Xc W0 G) 24 [.int .i64 n] [] (.str ⟨⟨Lib.itoa n⟩⟩) [] :=
 mut_lib (enters_lib (by kernel_rfl)) [.int .i64 n] rfl fun w hb =>
  (Any.strconv_Itoa Tryz.laysM171 n h.1 h.2 w (tabBelow_of_tabIs hl.tab w hb)).mono fun e w' ⟨he, k, os, hw⟩ => ⟨_, he, by rw [hw]; exact below_grow_drewN _ _ _, fun g => rfl⟩
theorem lib_byte {s : ByteArray} {c : Int} : Mut (Xc W0 G) 69 [.str s, .int .u8 c] [] (.int .i64 (Lib.indexByte s.data.toList c.toNat.toUInt8)) [] :=
 mut_lib (enters_lib (by kernel_rfl)) [.string s, .int .u8 c] rfl fun w hb => (Any.strings_IndexByte Tryz.lays137 s c w).mono fun e w' ⟨he, hw⟩ => ⟨_, he, by rw [hw]; exact .refl _ _, fun g => rfl⟩
theorem lib_index {s p : ByteArray} (h1 : 1 <= p.size) (h2 : p.size <= 1) : Mut (Xc W0 G) 108 [.str s, .str p] [] (.int .i64 (Lib.indexByte s.data.toList (p.data.toList.headD 0))) [] := by
 obtain ⟨c, rfl⟩ : ∃ c, p = ⟨#[c]⟩ := by
  cases p with
  | mk d => cases d with
   | mk l => match l with
    | [] => simp [ByteArray.size] at h1
    | [c] => exact ⟨c, rfl⟩
    | _ :: _ :: _ => simp [ByteArray.size] at h2
 exact mut_lib (enters_lib (by kernel_rfl)) [.string s, .string ⟨#[c]⟩] rfl fun w hb => (Tryz.strings_Index_one s c w).mono fun e w' ⟨he, hw⟩ => ⟨_, he, by rw [hw]; exact .refl _ _, fun g => rfl⟩
theorem lib_len {x : Int} (h0 : 0 <= x) (h1 : x <= 18446744073709551615) : Mut (Xc W0 G) 180 [.int .u64 x] [] (.int .i64 (Lib.bitLen x.toNat)) [] :=
 mut_lib (enters_lib (by kernel_rfl)) [.int .u64 x] rfl fun w hb => (Any.bits_Len Tryz.lays125 x w h0 h1).mono fun e w' ⟨he, hw⟩ => ⟨_, he, by rw [hw]; exact .refl _ _, fun g => rfl⟩
theorem lib_trim {s p : ByteArray} : Mut (Xc W0 G) 66 [.str s, .str p] [] (.str ⟨⟨Lib.trimPrefix s.data.toList p.data.toList⟩⟩) [] :=
 mut_lib (enters_lib (by kernel_rfl)) [.string s, .string p] rfl fun w hb => (Any.strings_TrimPrefix Tryz.lays101 s p w).mono fun e w' ⟨he, hw⟩ => ⟨_, he, by rw [hw]; exact .refl _ _, fun g => rfl⟩
theorem numAV_reads {g : Nat -> GO} {I : Nat -> Nat -> Prop} {w : World} {n : Int} {a : AV} {x : Value} (h : Reads g I w a 0 x) : Reads g I w (numAV (.int .i64 n) a) 0 (.tuple #[.int .i64 n, x]) :=
 ⟨_, rfl, rfl, fun j hj => match j, hj with
  | 0, _ => ⟨_, rfl, rfl⟩
  | 1, _ => ⟨_, rfl, h⟩⟩
theorem lib_atoi (hl : Laid W0) {s : ByteArray} (hs : s.size <= 281474976710656) : ∀ {r : AV}, (match Lib.atoiAll s.data.toList with | .ok v => some (numAV (.int .i64 v) (.val .nilIface), ([] : List HObj)) | .range => some (numAV (.int .i64 (Lib.atoiSat s.data.toList)) .ifc, []) | _ => some (numAV (.int .i64 0) .ifc, [])) = some (r, []) ->
  Mut (Xc W0 G) 65 [.str s] [] r [] := by
 intro r h
 obtain ⟨v3, h3, h3'⟩ := hl.e3
 obtain ⟨v4, h4, h4'⟩ := hl.e4
 refine mut_lib (enters_lib (by kernel_rfl)) [.string s] rfl fun w hb => ?_
 cases hv : Lib.atoiAll s.data.toList with
 | ok v =>
  rw [hv] at h
  simp only [Option.some.injEq, Prod.mk.injEq, and_true] at h
  subst h
  refine (Any.strconv_Atoi_ok Tryz.laysC172 s (by omega) _ hv w).mono fun e w' ⟨he, hw⟩ => ⟨_, he, ?_, fun g => numAV_reads rfl⟩
  rcases hw with rfl | ⟨t, rfl⟩
  ·exact .refl _ _
  ·exact Joins.below_bytesWorld _ _ _ _ (Nat.le_refl _)
 | range =>
  rw [hv] at h
  simp only [Option.some.injEq, Prod.mk.injEq, and_true] at h
  subst h
  exact (Any.strconv_Atoi_range Tryz.laysC172 s hs hv v4 w ((hb.cell (cell_lt h4)).trans h4) h4').mono fun e w' ⟨N, he, _, _, hw⟩ => ⟨_, he, hw, fun g => numAV_reads ⟨_, _, rfl⟩⟩
 | _ =>
  rw [hv] at h
  simp only [Option.some.injEq, Prod.mk.injEq, and_true] at h
  subst h
  exact (Any.strconv_Atoi_syntax Tryz.laysC172 s hs hv v3 w ((hb.cell (cell_lt h3)).trans h3) h3').mono fun e w' ⟨N, he, _, _, hw⟩ => ⟨_, he, hw, fun g => numAV_reads ⟨_, _, rfl⟩⟩
theorem libT_ok (hl : Laid W0) {f : FuncId} {args : List AV} {L : List HObj} {r : AV} {L' : List HObj} (h : libT f args L = some (r, L')) : Mut (Xc W0 G) f args L r L' := by
 unfold libT at h
 split at h
 ·split at h
  ·rename_i s sep
   cases hc : (Nat.blt s.size 4294967281 && Nat.ble 1 sep.size) with
   | false => rw [hc] at h; cases h
   | true =>
    rw [hc] at h
    simp only [cond_true, strRowK_eq, Option.some.injEq, Prod.mk.injEq] at h
    simp only [Bool.and_eq_true, Nat.blt_eq, Nat.ble_eq] at hc
    obtain ⟨rfl, rfl⟩ := h
    exact lib_split hl hc.1 hc.2
  ·rename_i s
   cases hc : Nat.ble s.size 281474976710656 with
   | false => rw [hc] at h; cases h
   | true =>
    rw [hc] at h
    simp only [cond_true] at h
    simp only [Nat.ble_eq] at hc
    have e : L' = [] := by
     split at h <;> (simp only [Option.some.injEq, Prod.mk.injEq] at h; exact h.2.symm)
    subst e
    exact lib_atoi hl hc h
  ·rename_i n
   cases hc : decide (inK .i64 n) with
   | false => rw [hc] at h; cases h
   | true =>
    rw [hc] at h
    simp only [cond_true, bytesK_eq, Option.some.injEq, Prod.mk.injEq] at h
    obtain ⟨rfl, rfl⟩ := h
    exact lib_itoa hl (of_decide_eq_true hc)
  ·simp only [Option.some.injEq, Prod.mk.injEq] at h
   obtain ⟨rfl, rfl⟩ := h
   exact lib_byte
  ·rename_i x
   cases hc : (decide (0 <= x) && decide (x <= 18446744073709551615)) with
   | false => rw [hc] at h; cases h
   | true =>
    rw [hc] at h
    simp only [cond_true, Option.some.injEq, Prod.mk.injEq] at h
    simp only [Bool.and_eq_true, decide_eq_true_eq] at hc
    obtain ⟨rfl, rfl⟩ := h
    exact lib_len hc.1 hc.2
  ·simp only [bytesK_eq, Option.some.injEq, Prod.mk.injEq] at h
   obtain ⟨rfl, rfl⟩ := h
   exact lib_trim
  ·rename_i s p
   cases hc : (Nat.ble 1 p.size && Nat.ble p.size 1) with
   | false => rw [hc] at h; cases h
   | true =>
    rw [hc] at h
    simp only [cond_true, Option.some.injEq, Prod.mk.injEq] at h
    simp only [Bool.and_eq_true, Nat.ble_eq] at hc
    obtain ⟨rfl, rfl⟩ := h
    exact lib_index hc.1 hc.2
  ·cases h
 ·cases h
end
end Go.Fx
/-
 Numbers sorted in place, and made compact: the library's contracts told of owned lists.
-/
namespace Go.Fx
open Go.Proofs Go.RowKit
def sortI (l : List Int) : List Int := l.mergeSort fun x y => decide (x <= y)
def compI (l : List Int) : List Int := Lib.compact l
section
variable {X : Ctx}
theorem frozen_no {w : World} {b o : Nat} {cur : Array Value} {e : TypeId} (h : RowAt w b cur e) (ho : o < cur.size) : w.frozen? ⟨b, o, none⟩ = false := by
 obtain ⟨mk, h, fz⟩ := h
 rcases fz with rfl | fz
 ·simp [World.frozen?, h]
 ·simp [World.frozen?, h]; omega
theorem own_row {c : Cfg} {e : TypeId} {l : List Int} {ver : Nat} (hok : c.Ok) (hH : c.H = [.list e 1 l.length (fun i _ => .int .i64 (l.getD i 0)) ver]) (hl : l ≠ []) :
  (c.g 0).ver = ver /\ ∃ b cap cur, (c.g 0).v = .slice (some ⟨b, 0, none⟩) l.length cap /\ RowAt c.w b cur e /\ l.length <= cap /\ cap <= maxLen /\ cur.size = cap /\ 0 < ver /\ Go.Sort.Holds (Value.int .i64) c.w b 0 l.toArray := by
 have h := hok.obj 0 _ (by rw [hH]; rfl)
 obtain ⟨hv, hp, xs, ho, _, hx⟩ := h
 refine ⟨hv, ?_⟩
 have hl0 : l.length ≠ 0 := fun h => hl (List.eq_nil_of_length_eq_zero h)
 rcases ho with ⟨h0, _⟩ | ⟨b, cap, cur, h1, h2, h3, h4, h5, h6, h7⟩
 ·exact absurd h0 hl0
 ·refine ⟨b, cap, cur, h1, h3, h4, h5, by omega, hp, fun j hj => ?_⟩
  have hj' : j < l.length := by simpa using hj
  obtain ⟨x, k1, k2⟩ := hx j 0 hj' Nat.one_pos
  have k2 : x = .int .i64 (l.getD j 0) := k2
  have e1 : cur[j]? = some x := by
   rw [<- h7] at k1
   rw [List.getElem?_take_of_lt (by omega)] at k1
   simpa using k1
  have hjc : j < cur.size := (Array.getElem?_eq_some_iff.1 e1).1
  refine ⟨?_, frozen_no h3 (by omega)⟩
  obtain ⟨mk, h3, _⟩ := h3
  simp only [World.cell?, h3, Nat.zero_add]
  rw [e1, k2]
  simp [List.getD_eq_getElem?_getD, hj']
theorem row_after {w w' : World} {b : Nat} {cur : Array Value} {e : TypeId} {l' : List Int} {n : Nat} {os : Array Obj} (hb : RowAt w b cur e) (hsz : l'.length <= cur.size)
  (hw : w' = Go.Sort.grow (Go.Sort.putRow (Value.int .i64) (Go.Sort.ahead w n) b 0 l'.toArray) os) :
  ∃ cur', RowAt w' b cur' e /\ cur'.size = cur.size /\ (∀ j, j < l'.length -> cur'[j]? = some (.int .i64 (l'.getD j 0))) /\
   w'.os = w.os /\ w'.tape = w.tape /\ w'.output = w.output /\ w.heap.size <= w'.heap.size /\ ∀ k, k < w.heap.size -> b ≠ k -> w'.heap[k]? = w.heap[k]? := by
 subst hw
 obtain ⟨mk, hb, fz⟩ := hb
 have hlt := (Array.getElem?_eq_some_iff.1 hb).1
 have hg : ∀ k, k < w.heap.size -> (Go.Sort.grow (Go.Sort.putRow (Value.int .i64) (Go.Sort.ahead w n) b 0 l'.toArray) os).heap[k]? = (w.heap.modify b (Go.Sort.onCells (Go.Sort.putCells (Value.int .i64) 0 l'.toArray)))[k]? := fun k hk => by
  simp only [Go.Sort.grow, Go.Sort.putRow, Go.Sort.mapBlock, Go.Sort.ahead]
  rw [Array.getElem?_append_left (by simpa using hk)]
 refine ⟨Go.Sort.putCells (Value.int .i64) 0 l'.toArray cur, ⟨mk, ?_, by simpa [Go.Sort.putCells] using fz⟩, by simp [Go.Sort.putCells], fun j hj => ?_, rfl, rfl, rfl, ?_, fun k hk hne => ?_⟩
 ·rw [hg b hlt, Array.getElem?_modify, if_pos rfl, hb]; rfl
 ·simp only [Go.Sort.putCells, Array.getElem?_mapIdx]
  rw [Array.getElem?_eq_getElem (show j < cur.size by omega), Option.map_some, if_pos ⟨Nat.zero_le _, by simpa using hj⟩]
  simp [List.getD_eq_getElem?_getD, hj]
 ·simp [Go.Sort.grow, Go.Sort.putRow, Go.Sort.mapBlock, Go.Sort.ahead]
 ·rw [hg k hk, Array.getElem?_modify, if_neg hne]
theorem row_turned {c : Cfg} {e : TypeId} {l l' : List Int} {ver b cap n : Nat} {cur : Array Value} {os : Array Obj} {w' : World} (hok : c.Ok) (hH : c.H = [.list e 1 l.length (fun i _ => .int .i64 (l.getD i 0)) ver]) (hl : l ≠ []) (hl' : l'.length = l.length)
  (hver : (c.g 0).ver = ver) (hv : (c.g 0).v = .slice (some ⟨b, 0, none⟩) l.length cap) (hb : RowAt c.w b cur e) (h4 : l.length <= cap) (h5 : cap <= maxLen) (h6 : cur.size = cap) (hp : 0 < ver)
  (hw : w' = Go.Sort.grow (Go.Sort.putRow (Value.int .i64) (Go.Sort.ahead c.w n) b 0 l'.toArray) os) :
  Tr c ⟨c.g, c.I, w', [.list e 1 l'.length (fun i _ => .int .i64 (l'.getD i 0)) ver]⟩ := by
 obtain ⟨cur', k1, k2, k3, k4, k5, k6, k7, k8⟩ := row_after (l' := l') hb (by omega) hw
 have hl0 : l.length ≠ 0 := fun h => hl (List.eq_nil_of_length_eq_zero h)
 have hbk : ∀ (m : Nat) (f : Nat -> Nat -> AV) v, blk c.g 0 (.list e 1 m f v) = some b := fun m f v => by
  show vblk (c.g 0).v = some b
  rw [hv]
  obtain ⟨c1, rfl⟩ : ∃ c1, cap = c1 + 1 := ⟨cap - 1, by omega⟩
  rfl
 have hupd : upd c.g 0 (c.g 0) = c.g := by funext i; by_cases h : i = 0 <;> simp [upd, h]
 have t := Tr.alter (w' := w') (x := c.g 0) (o' := .list e 1 l'.length (fun i _ => .int .i64 (l'.getD i 0)) ver) hok (show c.H[0]? = some (.list e 1 l.length (fun i _ => .int .i64 (l.getD i 0)) ver) by rw [hH]; rfl) k4 k5 k6 k7
  (fun k hk hne => k8 k hk fun h => hne (by rw [hbk, h])) (fun _ => rfl) (Nat.le_refl _) (fun _ => rfl)
  (fun k hk => .inr (by rw [hupd, hbk] at hk; rw [hbk]; exact hk)) (by
   rw [hupd]
   refine ⟨hver, hp, l'.map (Value.int .i64), .inr ⟨b, cap, cur', by rw [hv, hl'], by omega, k1, by omega, h5, by omega, ?_⟩, fun x hx => ?_, fun i j hi hj => ?_⟩
   ·apply List.ext_getElem?
    intro i
    rw [List.getElem?_map]
    rcases Nat.lt_or_ge i l'.length with hi | hi
    ·rw [List.getElem?_take_of_lt (by omega), Array.getElem?_toList, k3 i hi]
     simp [List.getD_eq_getElem?_getD, hi]
    ·rw [List.getElem?_take_eq_none (by omega), List.getElem?_eq_none hi]; rfl
   ·obtain ⟨y, _, rfl⟩ := List.mem_map.1 hx; rfl
   ·refine ⟨.int .i64 (l'.getD i 0), ?_, rfl⟩
    obtain rfl : j = 0 := by omega
    simp [List.getD_eq_getElem?_getD, hi])
 rw [hupd] at t
 rw [hH] at t
 exact t
theorem mut_sort {f : FuncId} {e : TypeId} {l : List Int} {ver : Nat} {g : Nat -> AV} (hent : Enters X.P f) (hl : l ≠ []) (hsz : l.length <= 1000)
  (h : ∀ (b cap : Nat) (w : World), Go.Sort.Holds (Value.int .i64) w b 0 l.toArray -> b < w.heap.size -> Calls X.P f #[.slice (some ⟨b, 0, none⟩) l.length cap] w fun e w' =>
   e = .returned (.tuple #[]) /\ ∃ n os, w' = Go.Sort.grow (Go.Sort.putRow (Value.int .i64) (Go.Sort.ahead w n) b 0 (sortI l).toArray) os) :
  Mut X f [.own 0 ver] [.list e 1 l.length (fun i _ => .int .i64 (l.getD i 0)) ver] (.tup 0 g) [.list e 1 (sortI l).length (fun i _ => .int .i64 ((sortI l).getD i 0)) ver] := by
 refine ⟨hent, fun c cargs hok hb hL hcs hargs => ?_⟩
 obtain ⟨hver, b, cap, cur, hv, hbk, h4, h5, h6, hp, hh⟩ := own_row hok hL hl
 obtain ⟨v, a1, a2⟩ := hargs 0 _ rfl
 have a3 : v = (c.g 0).v := a2.2.2.2 hver
 have ea : cargs = #[.slice (some ⟨b, 0, none⟩) l.length cap] := by
  apply Array.ext (by simpa using hcs)
  intro j h1 h2
  obtain rfl : j = 0 := by simp at h2; omega
  rw [Array.getElem?_eq_getElem h1] at a1
  cases a1
  simpa [hv] using a3
 subst ea
 refine (h b cap c.w hh (let ⟨_, q, _⟩ := hbk; (Array.getElem?_eq_some_iff.1 q).1)).mono fun x w' ⟨hx, n, os, hw⟩ => ?_
 have hlen : (sortI l).length = l.length := by simp [sortI, List.length_mergeSort]
 exact ⟨.tuple #[], _, hx, rfl, row_turned hok hL hl hlen hver hv hbk h4 h5 h6 hp hw, rfl, #[], rfl, rfl, fun j hj => absurd hj (Nat.not_lt_zero _)⟩
theorem comp_len (l : List Int) : (compI l).length <= l.length := by
 unfold compI Lib.compact Lib.compactUpTo
 rw [List.length_map]
 exact Nat.le_trans (List.length_filter_le _ _) (by simp)
theorem mut_comp {f : FuncId} {e : TypeId} {l : List Int} {ver : Nat} (hent : Enters X.P f) (hl : l ≠ []) (hsz : l.length <= 1000)
  (h : ∀ (b cap : Nat) (w : World), Go.Sort.Holds (Value.int .i64) w b 0 l.toArray -> l.length <= cap -> Calls X.P f #[.slice (some ⟨b, 0, none⟩) l.length cap] w fun e w' =>
   e = .returned (.slice (some ⟨b, 0, none⟩) (Lib.compact l).length cap) /\ ∃ q, w' = Go.Sort.putRow (Value.int .i64) (Go.Sort.ahead w q) b 0 (Lib.compact l ++ List.replicate (l.length - (Lib.compact l).length) 0).toArray) :
  Mut X f [.own 0 ver] [.list e 1 l.length (fun i _ => .int .i64 (l.getD i 0)) ver] (.slc 1 (compI l).length (fun i _ => .int .i64 ((compI l).getD i 0))) [.dead] := by
 refine ⟨hent, fun c cargs hok hb hL hcs hargs => ?_⟩
 obtain ⟨hver, b, cap, cur, hv, hbk, h4, h5, h6, hp, hh⟩ := own_row hok hL hl
 obtain ⟨v, a1, a2⟩ := hargs 0 _ rfl
 have a3 : v = (c.g 0).v := a2.2.2.2 hver
 have ea : cargs = #[.slice (some ⟨b, 0, none⟩) l.length cap] := by
  apply Array.ext (by simpa using hcs)
  intro j h1 h2
  obtain rfl : j = 0 := by simp at h2; omega
  rw [Array.getElem?_eq_getElem h1] at a1
  cases a1
  simpa [hv] using a3
 subst ea
 refine (h b cap c.w hh h4).mono fun x w' ⟨hx, n, hw⟩ => ?_
 have hcl := comp_len l
 have hcl' : (Lib.compact l).length <= l.length := hcl
 have hlen : (compI l ++ List.replicate (l.length - (compI l).length) 0).length = l.length := by simp; omega
 have hw2 : w' = Go.Sort.grow (Go.Sort.putRow (Value.int .i64) (Go.Sort.ahead c.w n) b 0 (compI l ++ List.replicate (l.length - (compI l).length) 0).toArray) #[] := by rw [hw, Go.Sort.grow_empty]; rfl
 have t1 := row_turned hok hL hl hlen hver hv hbk h4 h5 h6 hp hw2
 have t2 := Tr.freeze t1.ok (k := 0) rfl
 obtain ⟨cur', k1, k2, k3, _⟩ := row_after (l' := compI l ++ List.replicate (l.length - (compI l).length) 0) hbk (by omega) hw2
 refine ⟨_, _, hx, rfl, t1.trans t2, rfl, some ⟨b, 0, none⟩, cap, rfl, by show (Lib.compact l).length <= cap; omega, fun _ => ⟨b, 0, rfl, fun i j hi hj => ?_⟩⟩
 obtain rfl : j = 0 := by omega
 have hl0 : l.length ≠ 0 := fun h => hl (List.eq_nil_of_length_eq_zero h)
 refine ⟨.inr ?_, .int .i64 ((compI l).getD i 0), ?_, rfl, rfl⟩
 ·show vblk (c.g 0).v = some b
  rw [hv]
  obtain ⟨c1, rfl⟩ : ∃ c1, cap = c1 + 1 := ⟨cap - 1, by omega⟩
  rfl
 ·show World.cell? w' _ = _
  obtain ⟨mk, k1, _⟩ := k1
  simp only [World.cell?, Nat.zero_add, Nat.mul_one, Nat.add_zero, k1]
  rw [k3 i (by simp; omega)]
  congr 2
  simp only [List.getD_eq_getElem?_getD]
  rw [List.getElem?_append_left hi]
  rfl
end
end Go.Fx
