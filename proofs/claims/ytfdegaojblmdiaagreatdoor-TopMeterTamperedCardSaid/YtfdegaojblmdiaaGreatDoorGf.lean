/-
 This seat's types; contracts of the library's functions.
-/
import Derived.Test.YtfdegaojblmdiaaGreatDoorFe
import Derived.Test.YtfdegaojblmdiaaGreatDoorProg
import Derived.Shelf.Small.Bits
import Derived.Shelf.Small.Strs
import Derived.Shelf.Utf8.RuneCount
import Derived.Shelf.Strconv.Atoi
import Derived.Shelf.Strconv.Itoa0
import Derived.Shelf.Strconv.Itoa1
import Derived.Shelf.LaysM
import Derived.Shelf.Strconv.Itoa2
import Derived.Shelf.Strconv.Itoa3
import Derived.Shelf.Strconv.AtoiErrFast
import Derived.Shelf.Strconv.ParseIntEmpty
import Derived.Shelf.Strconv.AtoiFail
import Derived.Shelf.Strconv.Clone
import Derived.Shelf.Strconv.SyntaxError
import Derived.Shelf.LaysC
import Derived.Shelf.Strconv.ToError
import Derived.Shelf.Strconv.Lower
import Derived.Shelf.Strconv.ParseUint10
import Derived.Shelf.Strconv.ParseUint10Empty
import Derived.Shelf.Strconv.ParseUint10Any
import Derived.Shelf.Strconv.ParseInt10
import Derived.Shelf.Strconv.AtoiLong
import Derived.Shelf.Strconv.AtoiInnerAll
import Derived.Shelf.Strconv.RangeError
import Derived.Shelf.Strconv.ToErrorRange
import Derived.Shelf.Strconv.AtoiAll
import Derived.Shelf.Strconv.ErrVarAll
import Derived.Shelf.Strings.Search1
import Derived.Shelf.Strings.Search2
import Derived.Shelf.Strings.Search3
import Derived.Shelf.Strings.Count
import Derived.Shelf.Strings.Shaped
import Derived.Shelf.Sort.Plain
import Derived.Shelf.Strings.Prefix
import Derived.Shelf.Strings.Split
import Derived.Shelf.Strings.SplitShaped
import Derived.Shelf.Unicode.Decode
import Derived.Shelf.Strings.RuneCount
import Derived.Shelf.Strings.Explode
import Derived.Shelf.Unicode.DecodeSlow
import Derived.Shelf.Unicode.DecodeAny
import Derived.Shelf.Slices.Turned
import Derived.Ground.Names2Prog
import Derived.Shelf.Slices.Clone
import Derived.Shelf.Slices.SearchI
import Derived.Shelf.Slices.In.SortNone
import Derived.Shelf.Slices.Empties
import Derived.Ground.SlgnProg
import Derived.Shelf.SlicesE.Clone
import Derived.Lib.SplitLaws
import Derived.Lib.SmallJoins
import Derived.WalkSmall
import Derived.Lib.AppendIntMem
import Derived.Shelf.Slices.CompactI
set_option linter.all false
namespace Go.Fx
open Go.Proofs
noncomputable section
@[reducible] def o8 : Option TI := some ⟨.other, 1, 8, [.nilFunc], false⟩
noncomputable def tab : List (Option TI) := [
 none,
 o8,
  some ⟨.int IntKind.i64, 1, 8, [.int .i64 0], false⟩,
  some ⟨.int IntKind.i64, 1, 8, [.int .i64 0], false⟩,
  some ⟨.bool, 1, 1, [.bool false], false⟩,
  some ⟨.int IntKind.u8, 1, 1, [.int .u8 0], false⟩,
  some ⟨.int IntKind.u8, 1, 1, [.int .u8 0], false⟩,
  some ⟨.struct [(0, 2), (1, 3), (2, 4), (3, 6)], 4, 24, [.int .i64 0, .int .i64 0, .bool false, .int .u8 0], true⟩,
  some ⟨.struct [(0, 2), (1, 3), (2, 4), (3, 6)], 4, 24, [.int .i64 0, .int .i64 0, .bool false, .int .u8 0], true⟩,
  some ⟨.string, 1, 16, [.string ⟨#[]⟩], false⟩,
  some ⟨.string, 1, 16, [.string ⟨#[]⟩], false⟩,
  some ⟨.string, 1, 16, [.string ⟨#[]⟩], false⟩,
  some ⟨.int IntKind.u64, 1, 8, [.int .u64 0], false⟩,
  some ⟨.struct [(0, 9), (1, 12)], 2, 24, [.string ⟨#[]⟩, .int .u64 0], false⟩,
  some ⟨.struct [(0, 9), (1, 12)], 2, 24, [.string ⟨#[]⟩, .int .u64 0], false⟩,
  some ⟨.other, 1, 8, [.pointer none], false⟩,
  some ⟨.other, 1, 8, [.pointer none], false⟩,
  some ⟨.other, 1, 8, [.pointer none], false⟩,
  some ⟨.struct [(0, 17)], 1, 8, [.pointer none], false⟩,
  some ⟨.struct [(0, 17)], 1, 8, [.pointer none], false⟩,
  some ⟨.ifc, 1, 16, [.nilIface], false⟩,
  some ⟨.int IntKind.i32, 1, 4, [.int .i32 0], false⟩,
  some ⟨.slice 9, 1, 24, [.slice none 0 0], false⟩,
  some ⟨.slice 3, 1, 24, [.slice none 0 0], false⟩,
  some ⟨.slice 110, 1, 24, [.slice none 0 0], false⟩,
  some ⟨.slice 69, 1, 24, [.slice none 0 0], false⟩,
  some ⟨.slice 172, 1, 24, [.slice none 0 0], false⟩,
  some ⟨.struct [(0, 9), (1, 3), (2, 3), (3, 22), (4, 23), (5, 24), (6, 25), (7, 26)], 8, 152, [.string ⟨#[]⟩, .int .i64 0, .int .i64 0, .slice none 0 0, .slice none 0 0, .slice none 0 0, .slice none 0 0, .slice none 0 0], true⟩,
  some ⟨.struct [(0, 9), (1, 3), (2, 3), (3, 22), (4, 23), (5, 24), (6, 25), (7, 26)], 8, 152, [.string ⟨#[]⟩, .int .i64 0, .int .i64 0, .slice none 0 0, .slice none 0 0, .slice none 0 0, .slice none 0 0, .slice none 0 0], true⟩,
  some ⟨.struct [(0, 3), (1, 3)], 2, 16, [.int .i64 0, .int .i64 0], true⟩,
  some ⟨.struct [(0, 3), (1, 3)], 2, 16, [.int .i64 0, .int .i64 0], true⟩,
  some ⟨.slice 41, 1, 24, [.slice none 0 0], false⟩,
  some ⟨.struct [(0, 3), (1, 30), (3, 31)], 4, 48, [.int .i64 0, .int .i64 0, .int .i64 0, .slice none 0 0], true⟩,
  some ⟨.struct [(0, 3), (1, 30), (3, 31)], 4, 48, [.int .i64 0, .int .i64 0, .int .i64 0, .slice none 0 0], true⟩,
  some ⟨.array 2 3, 2, 16, [.int .i64 0, .int .i64 0], true⟩,
 o8, o8, o8, o8, o8,
  some ⟨.struct [(0, 3), (1, 3)], 2, 16, [.int .i64 0, .int .i64 0], true⟩,
  some ⟨.struct [(0, 3), (1, 3)], 2, 16, [.int .i64 0, .int .i64 0], true⟩,
  some ⟨.struct [(0, 3), (1, 3), (2, 3), (3, 3), (4, 3), (5, 3), (6, 23), (7, 3)], 8, 80, [.int .i64 0, .int .i64 0, .int .i64 0, .int .i64 0, .int .i64 0, .int .i64 0, .slice none 0 0, .int .i64 0], true⟩,
  some ⟨.struct [(0, 3), (1, 3), (2, 3), (3, 3), (4, 3), (5, 3), (6, 23), (7, 3)], 8, 80, [.int .i64 0, .int .i64 0, .int .i64 0, .int .i64 0, .int .i64 0, .int .i64 0, .slice none 0 0, .int .i64 0], true⟩,
  some ⟨.int IntKind.i64, 1, 8, [.int .i64 0], false⟩,
  none,
 o8, o8, o8,
  some ⟨.struct [(0, 3), (1, 3), (2, 3)], 3, 24, [.int .i64 0, .int .i64 0, .int .i64 0], true⟩,
  some ⟨.struct [(0, 3), (1, 3), (2, 3)], 3, 24, [.int .i64 0, .int .i64 0, .int .i64 0], true⟩,
  none,
 o8, o8,
  none,
 o8,
  none,
 o8, o8,
  some ⟨.slice 67, 1, 24, [.slice none 0 0], false⟩,
  none,
 o8,
  some ⟨.slice 108, 1, 24, [.slice none 0 0], false⟩,
  none,
 o8, o8,
  some ⟨.struct [(0, 3), (1, 3), (2, 30), (4, 3), (5, 3), (6, 23), (7, 3)], 8, 80, [.int .i64 0, .int .i64 0, .int .i64 0, .int .i64 0, .int .i64 0, .int .i64 0, .slice none 0 0, .int .i64 0], true⟩,
  some ⟨.struct [(0, 3), (1, 3), (2, 30), (4, 3), (5, 3), (6, 23), (7, 3)], 8, 80, [.int .i64 0, .int .i64 0, .int .i64 0, .int .i64 0, .int .i64 0, .int .i64 0, .slice none 0 0, .int .i64 0], true⟩,
  some ⟨.struct [(0, 9), (1, 3)], 2, 24, [.string ⟨#[]⟩, .int .i64 0], true⟩,
  some ⟨.struct [(0, 9), (1, 3)], 2, 24, [.string ⟨#[]⟩, .int .i64 0], true⟩,
 o8, o8,
  none,
 o8, o8, o8, o8,
  some ⟨.slice 93, 1, 24, [.slice none 0 0], false⟩,
  some ⟨.struct [(0, 30), (2, 4), (3, 23), (4, 77)], 5, 72, [.int .i64 0, .int .i64 0, .bool false, .slice none 0 0, .slice none 0 0], true⟩,
  some ⟨.struct [(0, 30), (2, 4), (3, 23), (4, 77)], 5, 72, [.int .i64 0, .int .i64 0, .bool false, .slice none 0 0, .slice none 0 0], true⟩,
  none,
 o8,
  some ⟨.struct [(0, 3), (1, 3), (2, 3), (3, 3)], 4, 32, [.int .i64 0, .int .i64 0, .int .i64 0, .int .i64 0], true⟩,
  some ⟨.struct [(0, 3), (1, 3), (2, 3), (3, 3)], 4, 32, [.int .i64 0, .int .i64 0, .int .i64 0, .int .i64 0], true⟩,
  none,
 o8, o8,
  some ⟨.array 3 3, 3, 24, [.int .i64 0, .int .i64 0, .int .i64 0], true⟩,
 o8, o8,
  some ⟨.struct [(0, 30), (2, 23)], 3, 40, [.int .i64 0, .int .i64 0, .slice none 0 0], true⟩,
  some ⟨.struct [(0, 30), (2, 23)], 3, 40, [.int .i64 0, .int .i64 0, .slice none 0 0], true⟩,
  some ⟨.struct [(0, 3), (1, 3), (2, 3)], 3, 24, [.int .i64 0, .int .i64 0, .int .i64 0], true⟩,
  some ⟨.struct [(0, 3), (1, 3), (2, 3)], 3, 24, [.int .i64 0, .int .i64 0, .int .i64 0], true⟩,
 o8,
  none,
 o8,
  some ⟨.struct [(0, 3), (1, 3)], 2, 16, [.int .i64 0, .int .i64 0], true⟩,
  some ⟨.struct [(0, 3), (1, 3)], 2, 16, [.int .i64 0, .int .i64 0], true⟩,
  none,
 o8, o8, o8, o8, o8, o8, o8,
  some ⟨.struct [(0, 3), (1, 3), (2, 3)], 3, 24, [.int .i64 0, .int .i64 0, .int .i64 0], true⟩,
  some ⟨.struct [(0, 3), (1, 3), (2, 3)], 3, 24, [.int .i64 0, .int .i64 0, .int .i64 0], true⟩,
  some ⟨.struct [(0, 9), (1, 3), (2, 3), (3, 23), (4, 23), (5, 3), (6, 3), (7, 3), (8, 3), (9, 3)], 10, 120, [.string ⟨#[]⟩, .int .i64 0, .int .i64 0, .slice none 0 0, .slice none 0 0, .int .i64 0, .int .i64 0, .int .i64 0, .int .i64 0, .int .i64 0], true⟩,
  some ⟨.struct [(0, 9), (1, 3), (2, 3), (3, 23), (4, 23), (5, 3), (6, 3), (7, 3), (8, 3), (9, 3)], 10, 120, [.string ⟨#[]⟩, .int .i64 0, .int .i64 0, .slice none 0 0, .slice none 0 0, .int .i64 0, .int .i64 0, .int .i64 0, .int .i64 0, .int .i64 0], true⟩,
  some ⟨.other, 1, 8, [.pointer none], false⟩,
  none,
 o8, o8, o8, o8, o8, o8, o8, o8, o8, o8, o8, o8,
  some ⟨.slice 183, 1, 24, [.slice none 0 0], false⟩,
  none,
 o8, o8, o8, o8,
  none,
 o8,
  some ⟨.slice 140, 1, 24, [.slice none 0 0], false⟩,
  some ⟨.struct [(0, 28), (8, 33), (12, 23), (13, 3), (14, 3), (15, 3), (16, 3), (17, 3), (18, 3), (19, 3), (20, 23), (21, 3), (22, 3), (23, 30), (25, 59), (26, 23), (27, 133)], 28, 408, [.string ⟨#[]⟩, .int .i64 0, .int .i64 0, .slice none 0 0, .slice none 0 0, .slice none 0 0, .slice none 0 0, .slice none 0 0, .int .i64 0, .int .i64 0, .int .i64 0, .slice none 0 0, .slice none 0 0, .int .i64 0, .int .i64 0, .int .i64 0, .int .i64 0, .int .i64 0, .int .i64 0, .int .i64 0, .slice none 0 0, .int .i64 0, .int .i64 0, .int .i64 0, .int .i64 0, .slice none 0 0, .slice none 0 0, .slice none 0 0], true⟩,
  some ⟨.struct [(0, 28), (8, 33), (12, 23), (13, 3), (14, 3), (15, 3), (16, 3), (17, 3), (18, 3), (19, 3), (20, 23), (21, 3), (22, 3), (23, 30), (25, 59), (26, 23), (27, 133)], 28, 408, [.string ⟨#[]⟩, .int .i64 0, .int .i64 0, .slice none 0 0, .slice none 0 0, .slice none 0 0, .slice none 0 0, .slice none 0 0, .int .i64 0, .int .i64 0, .int .i64 0, .slice none 0 0, .slice none 0 0, .int .i64 0, .int .i64 0, .int .i64 0, .int .i64 0, .int .i64 0, .int .i64 0, .int .i64 0, .slice none 0 0, .int .i64 0, .int .i64 0, .int .i64 0, .int .i64 0, .slice none 0 0, .slice none 0 0, .slice none 0 0], true⟩,
 o8, o8, o8,
  some ⟨.struct [(0, 3), (1, 3), (2, 3), (3, 3), (4, 3), (5, 3), (6, 4)], 7, 56, [.int .i64 0, .int .i64 0, .int .i64 0, .int .i64 0, .int .i64 0, .int .i64 0, .bool false], true⟩,
  some ⟨.struct [(0, 3), (1, 3), (2, 3), (3, 3), (4, 3), (5, 3), (6, 4)], 7, 56, [.int .i64 0, .int .i64 0, .int .i64 0, .int .i64 0, .int .i64 0, .int .i64 0, .bool false], true⟩,
 o8,
  some ⟨.other, 1, 8, [.pointer none], false⟩,
  some ⟨.struct [(0, 3), (1, 3)], 2, 16, [.int .i64 0, .int .i64 0], true⟩,
  some ⟨.struct [(0, 3), (1, 3)], 2, 16, [.int .i64 0, .int .i64 0], true⟩,
  none,
 o8, o8,
  some ⟨.array 7 34, 14, 112, [.int .i64 0, .int .i64 0, .int .i64 0, .int .i64 0, .int .i64 0, .int .i64 0, .int .i64 0, .int .i64 0, .int .i64 0, .int .i64 0, .int .i64 0, .int .i64 0, .int .i64 0, .int .i64 0], true⟩,
 o8, o8,
  some ⟨.struct [(0, 28)], 8, 152, [.string ⟨#[]⟩, .int .i64 0, .int .i64 0, .slice none 0 0, .slice none 0 0, .slice none 0 0, .slice none 0 0, .slice none 0 0], true⟩,
  some ⟨.struct [(0, 28)], 8, 152, [.string ⟨#[]⟩, .int .i64 0, .int .i64 0, .slice none 0 0, .slice none 0 0, .slice none 0 0, .slice none 0 0, .slice none 0 0], true⟩,
  some ⟨.slice 161, 1, 24, [.slice none 0 0], false⟩,
  some ⟨.struct [(0, 152), (8, 79), (13, 153)], 14, 248, [.string ⟨#[]⟩, .int .i64 0, .int .i64 0, .slice none 0 0, .slice none 0 0, .slice none 0 0, .slice none 0 0, .slice none 0 0, .int .i64 0, .int .i64 0, .bool false, .slice none 0 0, .slice none 0 0, .slice none 0 0], true⟩,
  some ⟨.struct [(0, 152), (8, 79), (13, 153)], 14, 248, [.string ⟨#[]⟩, .int .i64 0, .int .i64 0, .slice none 0 0, .slice none 0 0, .slice none 0 0, .slice none 0 0, .slice none 0 0, .int .i64 0, .int .i64 0, .bool false, .slice none 0 0, .slice none 0 0, .slice none 0 0], true⟩,
  none,
 o8, o8, o8,
  some ⟨.struct [(0, 3), (1, 110), (11, 3), (12, 3)], 13, 144, [.int .i64 0, .string ⟨#[]⟩, .int .i64 0, .int .i64 0, .slice none 0 0, .slice none 0 0, .int .i64 0, .int .i64 0, .int .i64 0, .int .i64 0, .int .i64 0, .int .i64 0, .int .i64 0], true⟩,
  some ⟨.struct [(0, 3), (1, 110), (11, 3), (12, 3)], 13, 144, [.int .i64 0, .string ⟨#[]⟩, .int .i64 0, .int .i64 0, .slice none 0 0, .slice none 0 0, .int .i64 0, .int .i64 0, .int .i64 0, .int .i64 0, .int .i64 0, .int .i64 0, .int .i64 0], true⟩,
 o8, o8, o8,
  some ⟨.other, 1, 8, [.pointer none], false⟩,
  some ⟨.array 3 165, 3, 24, [.pointer none, .pointer none, .pointer none], true⟩,
 o8,
  none,
 o8, o8,
  some ⟨.struct [(0, 3), (1, 3), (2, 3)], 3, 24, [.int .i64 0, .int .i64 0, .int .i64 0], true⟩,
  some ⟨.struct [(0, 3), (1, 3), (2, 3)], 3, 24, [.int .i64 0, .int .i64 0, .int .i64 0], true⟩,
 o8,
  some ⟨.slice 44, 1, 24, [.slice none 0 0], false⟩,
 o8, o8, o8, o8,
  none,
 o8,
  some ⟨.slice 268, 1, 24, [.slice none 0 0], false⟩,
  some ⟨.struct [(0, 43), (8, 3), (9, 3), (10, 3), (11, 3), (12, 3), (13, 30), (15, 181)], 16, 160, [.int .i64 0, .int .i64 0, .int .i64 0, .int .i64 0, .int .i64 0, .int .i64 0, .slice none 0 0, .int .i64 0, .int .i64 0, .int .i64 0, .int .i64 0, .int .i64 0, .int .i64 0, .int .i64 0, .int .i64 0, .slice none 0 0], true⟩,
  some ⟨.struct [(0, 43), (8, 3), (9, 3), (10, 3), (11, 3), (12, 3), (13, 30), (15, 181)], 16, 160, [.int .i64 0, .int .i64 0, .int .i64 0, .int .i64 0, .int .i64 0, .int .i64 0, .slice none 0 0, .int .i64 0, .int .i64 0, .int .i64 0, .int .i64 0, .int .i64 0, .int .i64 0, .int .i64 0, .int .i64 0, .slice none 0 0], true⟩,
  none,
 o8, o8, o8,
  some ⟨.struct [(0, 3), (1, 3), (2, 3), (3, 117)], 4, 32, [.int .i64 0, .int .i64 0, .int .i64 0, .nilFunc], true⟩,
  some ⟨.struct [(0, 3), (1, 3), (2, 3), (3, 117)], 4, 32, [.int .i64 0, .int .i64 0, .int .i64 0, .nilFunc], true⟩,
 o8, o8, o8, o8, o8, o8, o8, o8, o8,
  some ⟨.array 5 189, 20, 160, [.int .i64 0, .int .i64 0, .int .i64 0, .nilFunc, .int .i64 0, .int .i64 0, .int .i64 0, .nilFunc, .int .i64 0, .int .i64 0, .int .i64 0, .nilFunc, .int .i64 0, .int .i64 0, .int .i64 0, .nilFunc, .int .i64 0, .int .i64 0, .int .i64 0, .nilFunc], true⟩,
 o8, o8, o8,
  none,
 o8, o8, o8, o8,
  some ⟨.ifc, 1, 16, [.nilIface], false⟩,
  some ⟨.ifc, 1, 16, [.nilIface], false⟩,
  none,
 o8, o8, o8, o8, o8, o8, o8,
  some ⟨.int IntKind.u64, 1, 8, [.int .u64 0], false⟩,
 o8, o8,
  some ⟨.array 4 23, 4, 96, [.slice none 0 0, .slice none 0 0, .slice none 0 0, .slice none 0 0], true⟩,
  none,
 o8,
  none,
 o8, o8, o8, o8, o8, o8, o8,
  none,
 o8, o8, o8, o8, o8, o8, o8,
  none,
 o8, o8,
  some ⟨.struct [(0, 3), (1, 44)], 2, 16, [.int .i64 0, .int .i64 0], true⟩,
  some ⟨.struct [(0, 3), (1, 44)], 2, 16, [.int .i64 0, .int .i64 0], true⟩,
  none,
 o8,
  some ⟨.struct [(0, 3), (1, 30)], 3, 24, [.int .i64 0, .int .i64 0, .int .i64 0], true⟩,
  some ⟨.struct [(0, 3), (1, 30)], 3, 24, [.int .i64 0, .int .i64 0, .int .i64 0], true⟩,
 o8, o8, o8, o8,
  some ⟨.int IntKind.i64, 1, 8, [.int .i64 0], false⟩,
  none,
 o8, o8, o8, o8, o8,
  some ⟨.int IntKind.u32, 1, 4, [.int .u32 0], false⟩,
 o8,
  some ⟨.int IntKind.u64, 1, 8, [.int .u64 0], false⟩,
 o8, o8, o8, o8,
  some ⟨.struct [(0, 3), (1, 3), (2, 3), (3, 3), (4, 3), (5, 4), (6, 4)], 7, 48, [.int .i64 0, .int .i64 0, .int .i64 0, .int .i64 0, .int .i64 0, .bool false, .bool false], true⟩,
  some ⟨.struct [(0, 3), (1, 3), (2, 3), (3, 3), (4, 3), (5, 4), (6, 4)], 7, 48, [.int .i64 0, .int .i64 0, .int .i64 0, .int .i64 0, .int .i64 0, .bool false, .bool false], true⟩,
 o8,
  some ⟨.slice 5, 1, 24, [.slice none 0 0], false⟩,
 o8, o8, o8, o8, o8,
  none,
 o8,
  some ⟨.int IntKind.i64, 1, 8, [.int .i64 0], false⟩,
  none,
 o8,
  some ⟨.other, 1, 8, [.pointer none], false⟩,
 o8, o8, o8, o8,
  some ⟨.int IntKind.u64, 1, 8, [.int .u64 0], false⟩,
 o8, o8, o8, o8, o8, o8, o8,
  none,
 o8, o8,
  some ⟨.struct [(0, 9), (1, 9), (2, 209)], 3, 48, [.string ⟨#[]⟩, .string ⟨#[]⟩, .nilIface], false⟩,
  some ⟨.struct [(0, 9), (1, 9), (2, 209)], 3, 48, [.string ⟨#[]⟩, .string ⟨#[]⟩, .nilIface], false⟩,
 o8,
  some ⟨.array 24 5, 24, 24, [.int .u8 0, .int .u8 0, .int .u8 0, .int .u8 0, .int .u8 0, .int .u8 0, .int .u8 0, .int .u8 0, .int .u8 0, .int .u8 0, .int .u8 0, .int .u8 0, .int .u8 0, .int .u8 0, .int .u8 0, .int .u8 0, .int .u8 0, .int .u8 0, .int .u8 0, .int .u8 0, .int .u8 0, .int .u8 0, .int .u8 0, .int .u8 0], true⟩,
 o8,
  none,
 o8,
  some ⟨.other, 1, 8, [.pointer none], false⟩]
theorem tab_ok : tabOK Tryz.prog tab := by
 unfold tabOK
 kernel_rfl
@[reducible] noncomputable def Xc (W0 : World) (G : Nat -> Option AV) : Ctx := ⟨Tryz.prog, fun t => tab.getD t none, W0, G⟩
noncomputable def codeOf (fn : Func) : Code := fn.body.getD .skip
theorem Xc.good {W0 : World} {G : Nat -> Option AV} (hG : ∀ g av, G g = some av -> Reads (fun _ => default) (fun b _ => b < W0.heap.size) W0 av 0 (.pointer (some ⟨g, 0, none⟩))) : (Xc W0 G).Good :=
 ⟨fun t i h => tab_ok.at h, hG, by kernel_rfl⟩
end
open Go.Proofs
inductive Side (p : Prop) : Prop where
 | mk (h : p)
class Ar (p : Prop) : Prop
theorem Ar.go {p : Prop} [Ar p] (h : p) : p := h
instance {a b} : Ar (AllLe a b) := ⟨⟩
instance {a b c} : Ar (AllRen a b c) := ⟨⟩
theorem Ac.go {g : Option Prop} {a b c} (h : AllRen a b c) : Sc g (AllRen a b c) := Sc.of h
class Rf (p : Prop) : Prop
theorem Rf.go {p : Prop} [Rf p] (h : p) : p := h
instance {α : Type} {l : List α} {f : α -> Bool} : Rf (List.all l f = true) := ⟨⟩
instance {a b : Bool} : Rf (and a b = true) := ⟨⟩
instance {a b : Nat} : Rf (a = b) := ⟨⟩
instance {l : List Nat} : Rf (nodupB l = true) := ⟨⟩
class Kf (p : Prop) : Prop
theorem Kf.go {p : Prop} [Kf p] (h : p) : p := h
instance {a b : List (Option HObj)} : Kf (a = b) := ⟨⟩
instance {a b} : Kf (footOK a b = true) := ⟨⟩
theorem Lo.go {a b c} (h : LeOks a b c) : LeOks a b c := h
class Stop.{u} (p : Sort u) : Prop
def Stop.go.{u} {p : Sort u} [Stop p] (h : p) : p := h
instance : Stop False := ⟨⟩
instance : Stop Nat := ⟨⟩
instance : Stop (Nat -> Nat -> AV) := ⟨⟩
instance {a b} : Stop (Sc a b) := ⟨⟩
instance {a} : Stop (Side a) := ⟨⟩
instance {α} {f : α -> Prop} : Stop (Exists f) := ⟨⟩
instance {a b c d e f g} : Stop (Ends a b c d e f g) := ⟨⟩
instance {a b} : Stop (Alt a b) := ⟨⟩
instance {a b} : Stop (Le a b) := ⟨⟩
instance {a b c} : Stop (LeAll a b c) := ⟨⟩
class Cl (p : Prop) : Prop
theorem Cl.go {p : Prop} [Cl p] (h : p := by
 first
  | ((with_reducible refine Ar.go ?_); first | exact AllLe.refl _ | (repeat' (first | exact trivial | apply Le.aggs | apply Le.tups | apply Le.fns | exact Le.refl _ | refine ⟨?_, ?_⟩)))
  | ((with_reducible refine Ac.go ?_); (repeat' (first | exact trivial | apply Le.aggs | apply Le.tups | apply Le.fns | exact Le.refl _ | refine ⟨?_, ?_⟩)))
  | ((with_reducible refine Rf.go ?_); rfl)
  | ((with_reducible refine nodupB_spec ?_); rfl)
  | ((with_reducible refine Kf.go ?_); kernel_rfl)) : p := h
instance {a b} : Cl (AllLe a b) := ⟨⟩
instance {a b c} : Cl (AllRen a b c) := ⟨⟩
instance {g a b c} : Cl (Sc g (AllRen a b c)) := ⟨⟩
instance {α : Type} {l : List α} {f : α -> Bool} : Cl (List.all l f = true) := ⟨⟩
instance {a b : Bool} : Cl (and a b = true) := ⟨⟩
instance {a b : Nat} : Cl (a = b) := ⟨⟩
instance {l : List Nat} : Cl l.Nodup := ⟨⟩
instance {a b : List (Option HObj)} : Cl (a = b) := ⟨⟩
instance {a b} : Cl (footOK a b = true) := ⟨⟩
class Ck (p : Prop) : Prop
instance {a b c} : Ck (LeOks a b c) := ⟨⟩
theorem Ck.go {p : Prop} [Ck p] (h : p := by first | ((repeat' first | exact trivial | refine ⟨.refl _, ?_⟩); done) | exact LeOks.ofEq (by kernel_rfl)) : p := h
theorem Ce.go {p : Prop} [Ck p] (h : p := by first | exact LeOks.ofEq (by kernel_rfl) | (repeat' first | exact trivial | refine ⟨.refl _, ?_⟩)) : p := h
class Cz (p : Prop) : Prop
instance {p : Prop} [Cl p] : Cz p := ⟨⟩
instance {a b c} : Cz (LeOks a b c) := ⟨⟩
theorem Cz.go {p : Prop} [Cz p] (h : p := by first | exact Ck.go | exact Cl.go) : p := h
class Ax (p : Prop) : Prop
theorem Ax.go {p : Prop} [Ax p] (h : p) : p := h
instance {a b} : Ax (Alt a b) := ⟨⟩
theorem fnI {W0 : World} {G : Nat -> Option AV} {k : Nat} (f : Func) (h : FnIs (Xc W0 G) k f (codeOf f) := by refine ⟨?_, ?_, ?_, ?_⟩ <;> kernel_rfl) : FnIs (Xc W0 G) k f (codeOf f) := h
theorem nbZ {g : Option Prop} {a b : Nat} (h : Nat.ble a b = true := by exact rfl) : Sc g (a <= b) := .of (Nat.le_of_ble_eq_true h)
theorem owZ {g : Option Prop} {p q : Prop} (h : p := by omega) (k : q := by omega) : Sc g (p /\ q) := .of ⟨h, k⟩
theorem Side.get {p : Prop} : Side p -> p | ⟨h⟩ => h
theorem AllLe.refl : ∀ (l : List AV), AllLe l l
 | [] => trivial
 | a :: l => ⟨.refl a, AllLe.refl l⟩
theorem le_slc2 {f : Nat -> Nat -> AV} {a b : Int} (h0 : f 0 0 = .int .i64 a) (h1 : f 1 0 = .int .i64 b) : Le (.slc 1 2 f) (.slc 1 [a, b].length (fun i _ => .int .i64 ([a, b].getD i 0))) :=
 .slc fun i j hi hj => by
  obtain rfl : j = 0 := by omega
  rcases (show i = 0 \/ i = 1 by omega) with rfl | rfl
  ·rw [h0]; exact .refl _
  ·rw [h1]; exact .refl _
theorem callAlt {X : Ctx} {gd : Option Prop} {f : FuncId} {args bs : List AV} {r : AV} {k : AV -> Prop} {q : Prop} (h : Pure X f bs r) (hl : AllLe args bs) (hf : (bs.all (·.free)) = true) (hk : k r) :
  Alt (∃ as1 r1, Sc gd (Pure X f as1 r1) /\ Sc gd (AllLe args as1) /\ (as1.all (·.free)) = true /\ k r1) q := .one ⟨bs, r, .of h, .of hl, hf, hk⟩
def inB (n lo hi : Int) : Bool := bif decide (lo <= n) then decide (n <= hi) else false
theorem inB_iff {n lo hi : Int} : inB n lo hi = true ↔ lo <= n /\ n <= hi := by
 unfold inB
 by_cases h : lo <= n <;> simp [h]
section
variable {W0 : World} {G : Nat -> Option AV} (hX : (Xc W0 G).Good)
include hX
theorem c15 (n lo hi : Int) : Pure (Xc W0 G) 15 [.int .i64 n, .int .i64 lo, .int .i64 hi] (.bool (inB n lo hi)) := by
 refine mut_of' hX (fnI Tryz.f15) rfl ?_
 repeat' (first
  | (refine Ax.go ?_; apply Alt.one)
  | exact Cz.go
  | ((fail_if_success refine Stop.go ?_); first | (with_reducible first | apply And.intro | apply Cut.go | (refine impI ?_; intro _)) | (refine propI ?_; conv => whnf)))
 all_goals exact .mk [] [] _ rfl (.le (.refl _)) trivial rfl
end
open Go.RowKit
theorem Le.fns {F : FuncId} {n : Nat} {f g : Nat -> AV} (h : LeAll f g n) : Le (.fn F n f) (.fn F n g) := .fn h.out
theorem propI {a : Prop} (h : a) : a := h
theorem impI {a b : Prop} (h : a -> b) : a -> b := h
section
variable {X : Ctx} {f : FuncId}
theorem Mut.slc0_own {args : List AV} {e es : Nat} {g : Nat -> Nat -> AV} (h : Pure X f args .slc0) : Mut X f args [] (.own 0 1) [.list e es 0 g 1] := by
 refine ⟨h.1, fun c cargs hok hb hL hsz hargs => (h.2 c cargs hok hb hL hsz hargs).mono fun x w' ⟨v, c', h1, h2, h3, h4, h5⟩ => ?_⟩
 obtain ⟨a, rfl⟩ := h5
 have t2 := Tr.add (w' := c'.w) (x := ⟨0, .slice a 0 0, 1⟩) (o' := .list e es 0 g 1) h3.ok rfl rfl rfl (Nat.le_refl _) (fun b _ => rfl)
  (fun b hb => by simp [blk, upd_same, vblk] at hb)
  ⟨by rw [upd_same], Nat.one_pos, [], .inl ⟨rfl, rfl, a, by rw [upd_same]⟩, by simp, fun i j hi => by omega⟩
 have hl : c'.H.length = 0 := by rw [h4]; rfl
 refine ⟨_, ⟨upd c'.g c'.H.length ⟨0, .slice a 0 0, 1⟩, c'.I, c'.w, c'.H ++ [.list e es 0 g 1]⟩, h1, h2, h3.trans t2, by simp [h4], by simp, ?_, rfl, fun _ => ?_⟩
 ·show 1 <= (upd c'.g c'.H.length _ 0).ver; rw [hl, upd_same]; exact Nat.le_refl _
 ·show _ = (upd c'.g c'.H.length _ 0).v; rw [hl, upd_same]
theorem Mut.freeze {args : List AV} {r r2 : AV} {L : List HObj} (h : Mut X f args [] r L) (F : List Nat) (hr : LeH (only F L) r (ren (numOf []) r2)) (hu : r2.under 0 = true) : Pure X f args r2 := by
 refine ⟨h.1, fun c cargs hok hb hL hsz hargs => (h.2 c cargs hok hb hL hsz hargs).mono fun x w' ⟨v, c', h1, h2, h3, h4, h5⟩ => ?_⟩
 have sat : Sat X 0 c [] L c' { tmps := #[], defers := [] } := ⟨h3, hb.tr h3, h4, fun t => trivial, rfl, [], rfl, List.nodup_nil, by simp⟩
 have h0 : c.H.length = 0 := by rw [hL]; rfl
 obtain ⟨c2, k1, k2, _, k3, k4⟩ := freeze_sound (keep := []) (F := F) (L' := []) sat (by rw [h0]; trivial) rfl (by rw [h0]; rfl)
 rw [h0] at k4
 exact ⟨v, c2, h1, k1.trans h2, k2, k3, k4 h5 hr hu⟩
theorem Mut.vals {av : AV} {L : List HObj} {r : AV} {L' : List HObj} (Pr : Value -> Prop) (he : Enters X.P f) (hp : ∀ (g : Nat -> GO) (I : Nat -> Nat -> Prop) (w : World) (m : Nat) (v : Value), Reads g I w av m v -> Pr v) (h : ∀ v, Pr v -> Mut X f [.val v] L r L') : Mut X f [av] L r L' :=
 ⟨he, fun c cargs hok hb hL hsz hargs => by
  obtain ⟨v, h1, h2⟩ := hargs 0 av rfl
  refine (h v (hp _ _ _ _ _ h2)).2 c cargs hok hb hL hsz fun j b hj => ?_
  cases j with
  | zero => simp at hj; subst hj; exact ⟨v, h1, rfl⟩
  | succ j => simp at hj⟩
theorem callAltS {gd : Option Prop} {args bs : List AV} {r : AV} {k : AV -> Prop} {q : Prop} (h : Sc gd (Pure X f bs r)) (hl : AllLe args bs) (hf : (bs.all (·.free)) = true) (hk : k r) :
  Alt (∃ as1 r1, Sc gd (Pure X f as1 r1) /\ Sc gd (AllLe args as1) /\ (as1.all (·.free)) = true /\ k r1) q := .one ⟨bs, r, h, .of hl, hf, hk⟩
theorem callAltH {gd : Option Prop} {G : List HObj} {args bs : List AV} {r : AV} {k : AV -> Prop} {p q : Prop} (h : Pure X f bs r) (hl : AllLeH G args bs) (hf : (bs.all (·.free)) = true) (hr : r.flat = true) (hk : k r) :
  Alt p (Alt (∃ as1 r1, Sc gd (Pure X f as1 r1) /\ Sc gd (AllLeH G args as1) /\ (as1.all (·.free)) = true /\ r1.flat = true /\ k r1) q) := .two (.one ⟨bs, r, .of h, .of hl, hf, hr, hk⟩)
theorem altM {P : List AV -> List Nat -> Nat -> List HObj -> AV -> List HObj -> Prop} {p q s : Prop} {zs : List AV} {ks : List Nat} {m : Nat} {Ls : List HObj} {r : AV} {L' : List HObj} (h : P zs ks m Ls r L') : Alt p (Alt q (Alt (∃ zs ks m Ls r L', P zs ks m Ls r L') s)) := .two (.two (.one ⟨_, _, _, _, _, _, h⟩))
theorem altK {P : List AV -> List Nat -> List HObj -> AV -> Prop} {p q s : Prop} {zs : List AV} {ks : List Nat} {Ls : List HObj} {r : AV} (h : P zs ks Ls r) : Alt p (Alt q (Alt s (∃ zs ks Ls r, P zs ks Ls r))) := .two (.two (.two ⟨_, _, _, _, h⟩))
end
open Go.Proofs
def firstS : List Int -> Int
 | [] => 0
 | x :: r => bif decide (x = 0) then firstS r else x
theorem firstS_hit : ∀ {l : List Int} {i : Nat}, i < l.length -> (∀ j, j < i -> l.getD j 0 = 0) -> l.getD i 0 ≠ 0 -> firstS l = l.getD i 0
 | x :: r, 0, _, _, h => by
  have h : x ≠ 0 := h
  simp [firstS, h]
 | x :: r, i + 1, hi, h0, h => by
  have hx : x = 0 := h0 0 (by omega)
  simp only [firstS, hx, decide_true, cond_true]
  exact firstS_hit (l := r) (by simpa using hi) (fun j hj => h0 (j + 1) (by omega)) h
theorem firstS_none : ∀ {l : List Int}, (∀ j, j < l.length -> l.getD j 0 = 0) -> firstS l = 0
 | [], _ => rfl
 | x :: r, h => by
  have hx : x = 0 := h 0 (by simp)
  simp only [firstS, hx, decide_true, cond_true]
  exact firstS_none (l := r) fun j hj => h (j + 1) (by simpa using hj)
theorem mul_bd {a b A B : Int} (h0 : 0 <= a) (h1 : a <= A) (h2 : 0 <= b) (h3 : b <= B) : 0 <= a * b /\ a * b <= A * B :=
 ⟨Int.mul_nonneg h0 h2, Int.mul_le_mul h1 h3 h2 (Int.le_trans h0 h1)⟩
theorem le_slc3 {f : Nat -> Nat -> AV} {a b c : Int} (h0 : f 0 0 = .int .i64 a) (h1 : f 1 0 = .int .i64 b) (h2 : f 2 0 = .int .i64 c) : Le (.slc 1 3 f) (.slc 1 [a, b, c].length (fun i _ => .int .i64 ([a, b, c].getD i 0))) :=
 .slc fun i j hi hj => by
  obtain rfl : j = 0 := by omega
  rcases (show i = 0 \/ i = 1 \/ i = 2 by omega) with rfl | rfl | rfl
  ·rw [h0]; exact .refl _
  ·rw [h1]; exact .refl _
  ·rw [h2]; exact .refl _
def iRow (l : List Int) : AV := .slc 1 l.length (fun i _ => .int .i64 (l.getD i 0))
def rangesL : List Int := [1, 100000, 1, 3600, 0, 3, 0, 1000000000, 0, 1000000000, 0, 1000000000, 0, 998244352]
theorem Le.boolT {x y : Bool} (h : x = y) : Le (.bool x) (.bool y) := by rw [h]; exact .refl _
theorem Sc.imp {q p : Prop} (h : q -> p) : Sc (some q) p := h
theorem LeH.boolT {H : List HObj} {x y : Bool} (h : x = y) : LeH H (.bool x) (.bool y) := .le (.boolT h)
theorem firstS_two {x y : Int} (h : firstS [x, y] = 0) : x = 0 /\ y = 0 := by
 simp only [firstS] at h
 by_cases hx : x = 0 <;> by_cases hy : y = 0 <;> simp_all
def sortI (l : List Int) : List Int := l.mergeSort fun x y => decide (x <= y)
open Go.Proofs
def gRanges : AV := .ip 14 (fun j => .int .i64 (rangesL.getD j 0)) 0
def gNext : AV := .ip 4 (fun j => [iRow [1], iRow [2, 3], iRow [1, 3], iRow [1, 0]].getD j .any) 0
def Gt : Nat -> Option AV
 | 0 => some gRanges
 | 1 => some gNext
 | _ => none
open Go.RowKit
theorem Mut.conv {X : Ctx} {f : FuncId} {args : List AV} {L L' L2 : List HObj} {r r2 : AV} (h : Mut X f args L r L')
  (hc : ∀ (c c' : Cfg) (v : Value), c.H = L -> Tr c c' -> c'.H = L' -> c'.Reads r v -> ∃ c2 : Cfg, c2.w = c'.w /\ Tr c c2 /\ c2.H = L2 /\ c2.Reads r2 v) : Mut X f args L r2 L2 :=
 ⟨h.1, fun c cargs hok hb hL hsz hargs => (h.2 c cargs hok hb hL hsz hargs).mono fun x w' ⟨v, c', h1, h2, h3, h4, h5⟩ => by
  obtain ⟨c2, k1, k2, k3, k4⟩ := hc c c' v hL h3 h4 h5
  exact ⟨v, c2, h1, k1.trans h2, k2, k3, k4⟩⟩
theorem Mut.born {X : Ctx} {f : FuncId} {args : List AV} {L L' : List HObj} {r : AV} {j i : Nat} {cells : List AV} {e es : Nat} {F : Nat -> Nat -> AV} (h : Mut X f args L r L')
  (hj : L'[j]? = some (.box cells)) (hi : cells[i]? = some .slc0) : Mut X f args L r (L'.set j (.box (cells.set i (.own L'.length 1))) ++ [.list e es 0 F 1]) := by
 refine h.conv fun c c' v hL ht hH hr => ?_
 have hok := ht.ok
 obtain ⟨h0, cs, T, g1, g2, g3⟩ := hok.obj j _ (by rw [hH]; exact hj)
 obtain ⟨x, x1, x2, a, rfl⟩ := g3 i _ hi
 have t1 := Tr.add (w' := c'.w) (x := ⟨0, .slice a 0 0, 1⟩) (o' := .list e es 0 F 1) hok rfl rfl rfl (Nat.le_refl _) (fun b _ => rfl)
  (fun b hb => by simp [blk, upd_same, vblk] at hb)
  ⟨by rw [upd_same], Nat.one_pos, [], .inl ⟨rfl, rfl, a, by rw [upd_same]⟩, by simp, fun i j hi => by omega⟩
 have hjl : j < L'.length := (List.getElem?_eq_some_iff.1 hj).1
 have hil : i < cells.length := (List.getElem?_eq_some_iff.1 hi).1
 have hcH : c'.H.length = L'.length := by rw [hH]
 have t2 := Tr.relax t1.ok (H' := L'.set j (.box (cells.set i (.own L'.length 1))) ++ [.list e es 0 F 1]) (by simp [hH]) fun k o o' ho ho' => by
  have hob := t1.ok.obj k o ho
  have ho : (c'.H ++ [HObj.list e es 0 F 1])[k]? = some o := ho
  rw [hH] at ho
  by_cases hk : k = j
  ·subst hk
   rw [List.getElem?_append_left hjl, hj] at ho
   cases ho
   rw [List.getElem?_append_left (by simpa using hjl), List.getElem?_set_self hjl] at ho'
   cases ho'
   refine ⟨?_, .inl rfl⟩
   obtain ⟨k0, cs', T', k1, k2, k3⟩ := hob
   refine ⟨k0, cs', T', k1, by simp [k2], fun q av hq => ?_⟩
   by_cases hqi : q = i
   ·subst hqi
    rw [List.getElem?_set_self hil] at hq
    cases hq
    obtain ⟨y, y1, y2, y3⟩ := k3 q _ hi
    refine ⟨y, y1, y2, ?_⟩
    have e1 : cs' = cs := by
     have : (upd c'.g c'.H.length ⟨0, .slice a 0 0, 1⟩ k).b = (c'.g k).b := by rw [upd_other (by omega)]
     have k1 : c'.w.heap[(upd c'.g c'.H.length ⟨0, .slice a 0 0, 1⟩ k).b]? = some (.cells cs' T' (0, 0)) := k1
     rw [this, g1] at k1
     cases k1; rfl
    rw [e1, x1] at y1
    cases y1
    refine ⟨?_, ?_, x2, fun _ => ?_⟩
    ·show L'.length < (c'.H ++ [HObj.list e es 0 F 1]).length
     simp [hH]
    ·show 1 <= (upd c'.g c'.H.length _ L'.length).ver
     rw [<- hcH, upd_same]; exact Nat.le_refl _
    ·show _ = (upd c'.g c'.H.length _ L'.length).v
     rw [<- hcH, upd_same]
   ·rw [List.getElem?_set_ne (fun e => hqi e.symm)] at hq
    exact k3 q av hq
  ·have : o = o' := by
    rcases Nat.lt_or_ge k L'.length with hk2 | hk2
    ·rw [List.getElem?_append_left hk2] at ho
     rw [List.getElem?_append_left (by simpa using hk2), List.getElem?_set_ne (fun e => hk e.symm)] at ho'
     rw [ho] at ho'; exact Option.some.inj ho'
    ·rw [List.getElem?_append_right hk2] at ho
     rw [List.getElem?_append_right (by simpa using hk2)] at ho'
     simp only [List.length_set] at ho'
     rw [ho] at ho'; exact Option.some.inj ho'
   subst this
   exact ⟨hob, .inl rfl⟩
 exact ⟨_, by rfl, (ht.trans t1).trans t2, rfl, t2.reads (t1.reads hr)⟩
theorem StTo.bornL {n0 : Nat} {en en' : Env} {H H' : List HObj} (j i : Nat) {e0 es ver e1 es1 : Nat} {f F : Nat -> Nat -> AV} {cells : List AV} (hj : H[j]? = some (.list e0 es 1 f ver)) (hl : cells.length = es) (hi : i < es) (h0 : f 0 i = .slc0)
  (hc : ∀ q y, q ≠ i -> cells[q]? = some y -> Le (f 0 q) y) (hi2 : cells[i]? = some (.own H.length 1)) (h : StLe n0 en (H.set j (.last e0 es 1 cells ver) ++ [.list e1 es1 0 F 1]) en' H') : StTo n0 en H en' H' := by
 refine .gen fun {X} => ?_
 intro N c0 c' ac hn sat
 have hok := sat.tr.ok
 have hH := sat.own
 obtain ⟨v1, v0, xs, w1, w2, w3⟩ := hok.obj j _ (by rw [hH]; exact hj)
 obtain ⟨x, x1, x2⟩ := w3 0 i (by omega) hi
 rw [h0] at x2
 obtain ⟨a, rfl⟩ := x2
 have t1 := Tr.add (w' := c'.w) (x := ⟨0, .slice a 0 0, 1⟩) (o' := .list e1 es1 0 F 1) hok rfl rfl rfl (Nat.le_refl _) (fun b _ => rfl)
  (fun b hb => by simp [blk, upd_same, vblk] at hb)
  ⟨by rw [upd_same], Nat.one_pos, [], .inl ⟨rfl, rfl, a, by rw [upd_same]⟩, by simp, fun i j hi => by omega⟩
 have hjl : j < H.length := (List.getElem?_eq_some_iff.1 hj).1
 have hcH : c'.H.length = H.length := by rw [hH]
 have t2 := Tr.relax t1.ok (H' := H.set j (.last e0 es 1 cells ver) ++ [.list e1 es1 0 F 1]) (by simp [hH]) fun k o o' ho ho' => by
  have hob := t1.ok.obj k o ho
  have ho : (c'.H ++ [HObj.list e1 es1 0 F 1])[k]? = some o := ho
  rw [hH] at ho
  by_cases hk : k = j
  ·subst hk
   rw [List.getElem?_append_left hjl, hj] at ho
   cases ho
   rw [List.getElem?_append_left (by simpa using hjl), List.getElem?_set_self hjl] at ho'
   cases ho'
   refine ⟨?_, .inl rfl⟩
   obtain ⟨k1, k0, ys, k2, k3, k4⟩ := hob
   refine ⟨k1, k0, ys, k2, k3, Nat.one_pos, hl, fun q av hq => ?_⟩
   have hqs : q < es := by rw [<- hl]; exact (List.getElem?_eq_some_iff.1 hq).1
   have e0' : (1 - 1) * es + q = 0 * es + q := by simp
   rw [e0']
   by_cases hqi : q = i
   ·subst hqi
    rw [hi2] at hq
    cases hq
    obtain ⟨y, y1, y2⟩ := k4 0 q (by omega) hqs
    refine ⟨y, y1, ?_⟩
    have eys : ys = xs := by
     have hv : upd c'.g c'.H.length ⟨0, .slice a 0 0, 1⟩ k = c'.g k := upd_other (by omega)
     have k2 : OwnsL c'.w e0 es (upd c'.g c'.H.length ⟨0, .slice a 0 0, 1⟩ k).v 1 ys := k2
     rw [hv] at k2
     rcases k2 with ⟨q1, _⟩ | ⟨b, cap, cur, q1, q2, q3, q4, q5, q6, q7⟩
     ·omega
     ·rcases w1 with ⟨p1, _⟩ | ⟨b', cap', cur', p1, p2, p3, p4, p5, p6, p7⟩
      ·omega
      ·rw [q1] at p1
       cases p1
       rw [q3] at p3
       cases p3
       rw [<- q7, <- p7]
    rw [eys, x1] at y1
    cases y1
    refine ⟨?_, ?_, rfl, fun _ => ?_⟩
    ·show H.length < (c'.H ++ [HObj.list e1 es1 0 F 1]).length
     simp [hH]
    ·show 1 <= (upd c'.g c'.H.length _ H.length).ver
     rw [<- hcH, upd_same]; exact Nat.le_refl _
    ·show _ = (upd c'.g c'.H.length _ H.length).v
     rw [<- hcH, upd_same]
   ·obtain ⟨y, y1, y2⟩ := k4 0 q (by omega) hqs
    exact ⟨y, y1, Reads.zero ((hc q av hqi hq).reads y2)⟩
  ·have : o = o' := by
    rcases Nat.lt_or_ge k H.length with hk2 | hk2
    ·rw [List.getElem?_append_left hk2] at ho
     rw [List.getElem?_append_left (by simpa using hk2), List.getElem?_set_ne (fun e => hk e.symm)] at ho'
     rw [ho] at ho'; exact Option.some.inj ho'
    ·rw [List.getElem?_append_right hk2] at ho
     rw [List.getElem?_append_right (by simpa using hk2)] at ho'
     simp only [List.length_set] at ho'
     rw [ho] at ho'; exact Option.some.inj ho'
   subst this
   exact ⟨hob, .inl rfl⟩
 have tt := t1.trans t2
 have w := h.wk (X := X) (N := N) (c0 := c0) (a := ac) hn (c := ⟨_, _, c'.w, H.set j (.last e0 es 1 cells ver) ++ [.list e1 es1 0 F 1]⟩) ⟨sat.tr.trans tt, sat.base.tr tt, rfl, fun t => tt.reads (sat.env t), sat.size, sat.marks.tr hok tt⟩
 exact w
theorem LeOHs.ofEq {G H' : List HObj} {σ : Nat -> Nat} : ∀ {ks : List Nat} {Ls : List HObj}, ks.map (fun k => H'[k]?) = Ls.map (fun L => some (renO σ L)) -> LeOHs G H' σ ks Ls
 | [], [], _ => trivial
 | k :: ks, L :: Ls, h => by
  simp only [List.map_cons, List.cons.injEq] at h
  refine ⟨?_, LeOHs.ofEq h.2⟩
  rw [h.1]
  exact .le (.refl _)
 | [], _ :: _, h => by simp at h
 | _ :: _, [], h => by simp at h
theorem LeOks.ofEq {H : List HObj} : ∀ {ks : List Nat} {Ls : List HObj}, ks.map (fun k => H[k]?) = Ls.map some -> LeOks H ks Ls
 | [], [], _ => trivial
 | k :: ks, L :: Ls, h => by
  simp only [List.map_cons, List.cons.injEq] at h
  refine ⟨?_, LeOks.ofEq h.2⟩
  rw [h.1]
  exact .refl _
 | [], _ :: _, h => by simp at h
 | _ :: _, [], h => by simp at h
theorem LeOs.ofEq {a b : List HObj} (h : a = b) : LeOs a b := h ▸ .refl _
theorem HLe.ofEq : ∀ {H G : List HObj}, H.take G.length = G -> HLe H G
 | _, [], _ => by unfold HLe; trivial
 | a :: r, b :: s, h => by
  simp only [List.length_cons, List.take_succ_cons, List.cons.injEq] at h
  obtain ⟨rfl, h⟩ := h
  exact ⟨.refl _, HLe.ofEq h⟩
 | [], _ :: _, h => by simp at h
theorem Mut.leO' {X : Ctx} {f : FuncId} {xs : List AV} {L0 L' L : List HObj} {r' r : AV} (h : Mut X f xs L0 r' L') (hr : Le r' r) (hL : LeOs L' L) : Mut X f xs L0 r L :=
 h.conv fun c c' v h0 ht hH hv => by
  have t := Tr.weaken ht.ok (H' := L) (by rw [hH]; exact hL.len) (fun k o o' ho ho' => hL.at k o o' (by rw [<- hH]; exact ho) ho')
  exact ⟨{ c' with H := L }, rfl, ht.trans t, rfl, t.reads (hr.reads hv)⟩
theorem Mut.ghost {X : Ctx} {f : FuncId} {args : List AV} {L L' : List HObj} {r : AV} {e es : Nat} {F : Nat -> Nat -> AV} (h : Mut X f args L r L') : Mut X f args L r (L' ++ [.list e es 0 F 1]) := by
 refine h.conv fun c c' v hL ht hH hr => ?_
 have t1 := Tr.add (w' := c'.w) (x := ⟨0, .slice none 0 0, 1⟩) (o' := .list e es 0 F 1) ht.ok rfl rfl rfl (Nat.le_refl _) (fun b _ => rfl)
  (fun b hb => by simp [blk, upd_same, vblk] at hb)
  ⟨by rw [upd_same], Nat.one_pos, [], .inl ⟨rfl, rfl, none, by rw [upd_same]⟩, by simp, fun i j hi => by omega⟩
 exact ⟨_, by rfl, ht.trans t1, by rw [<- hH], t1.reads hr⟩
theorem Mut.stale {X : Ctx} {f : FuncId} {args : List AV} {L L' : List HObj} {r : AV} {j i k ver v0 : Nat} {cells : List AV} {e es n : Nat} {F : Nat -> Nat -> AV} {av : AV} (h : Mut X f args L r L')
  (hj : L'[j]? = some (.box cells)) (hi : cells[i]? = some av) (hk : L'[k]? = some (.list e es n F ver)) (hv : v0 < ver) : Mut X f args L r (L'.set j (.box (cells.set i (.own k v0)))) := by
 refine h.conv fun c c' v hL ht hH hr => ?_
 have hjl : j < L'.length := (List.getElem?_eq_some_iff.1 hj).1
 have hil : i < cells.length := (List.getElem?_eq_some_iff.1 hi).1
 have hkl : k < L'.length := (List.getElem?_eq_some_iff.1 hk).1
 have hkv : (c'.g k).ver = ver := (show Holds c'.g c'.I c'.w c'.H.length k (.list e es n F ver) from ht.ok.obj k _ (by rw [hH]; exact hk)).1
 have t2 := Tr.relax ht.ok (H' := L'.set j (.box (cells.set i (.own k v0)))) (by simp [hH]) fun q o o' ho ho' => by
  have hob := ht.ok.obj q o ho
  rw [hH] at ho
  by_cases hq : q = j
  ·subst hq
   rw [hj] at ho
   cases ho
   rw [List.getElem?_set_self hjl] at ho'
   cases ho'
   refine ⟨?_, .inl rfl⟩
   obtain ⟨k0, cs', T', k1, k2, k3⟩ := hob
   refine ⟨k0, cs', T', k1, by simp [k2], fun p bv hp => ?_⟩
   by_cases hpi : p = i
   ·subst hpi
    rw [List.getElem?_set_self hil] at hp
    cases hp
    obtain ⟨y, y1, y2, y3⟩ := k3 p _ hi
    exact ⟨y, y1, y2, by rw [hH]; exact hkl, by rw [hkv]; omega, y2, fun e => by rw [hkv] at e; omega⟩
   ·rw [List.getElem?_set_ne (fun e => hpi e.symm)] at hp
    exact k3 p bv hp
  ·rw [List.getElem?_set_ne (fun e => hq e.symm), ho] at ho'
   cases ho'
   exact ⟨hob, .inl rfl⟩
 exact ⟨_, by rfl, ht.trans t2, rfl, t2.reads hr⟩
theorem Mut.swap {X : Ctx} {f : FuncId} {args : List AV} {L A : List HObj} {r : AV} {j i k v0 v1 : Nat} {cells : List AV} {e es e0 es0 n : Nat} {F F0 : Nat -> Nat -> AV} (h : Mut X f args L r (A ++ [.list e es n F v1])) (hLA : L.length <= A.length)
  (hj : A[j]? = some (.box cells)) (hi : cells[i]? = some (.own A.length v1)) (hk : A[k]? = some (.list e0 es0 0 F0 v0)) (hjk : j ≠ k)
  (hu0 : ((cells.set i .any).all (·.under A.length)) = true) (ho : ∀ q o, A[q]? = some o -> q ≠ j -> ∃ e es n F v, o = .list e es n F v) (hr : r.under A.length = true) :
  Mut X f args L r ((A.set j (.box (cells.set i (.own k (v0 + 1))))).set k (.list e es n F (v0 + 1))) := by
 have hu : ∀ q av, cells[q]? = some av -> q ≠ i -> av.under A.length = true := fun q av hq hne => by
  have e : (cells.set i .any)[q]? = some av := by rw [List.getElem?_set_ne (fun e => hne e.symm)]; exact hq
  exact List.all_eq_true.1 hu0 av (List.mem_of_getElem? e)
 refine h.conv fun c c' v hL ht hH hrd => ?_
 have hok := ht.ok
 have hjl : j < A.length := (List.getElem?_eq_some_iff.1 hj).1
 have hil : i < cells.length := (List.getElem?_eq_some_iff.1 hi).1
 have hkl : k < A.length := (List.getElem?_eq_some_iff.1 hk).1
 have hl : c'.H.length = A.length + 1 := by rw [hH]; simp
 have at1 : ∀ q, q < A.length -> c'.H[q]? = A[q]? := fun q hq => by rw [hH, List.getElem?_append_left hq]
 have atm : c'.H[A.length]? = some (.list e es n F v1) := by rw [hH, List.getElem?_append_right (Nat.le_refl _)]; simp
 obtain ⟨p1, p2, p3⟩ := hok.obj A.length _ atm
 obtain ⟨q1, q2, _⟩ := hok.obj k _ (by rw [at1 k hkl]; exact hk)
 let g2 := upd c'.g k ⟨(c'.g k).b, (c'.g A.length).v, v0 + 1⟩
 have hgk : g2 k = ⟨(c'.g k).b, (c'.g A.length).v, v0 + 1⟩ := upd_same _ _ _
 have hgo : ∀ q, q ≠ k -> g2 q = c'.g q := fun q hq => upd_other hq
 have hpl : ∀ q, q < A.length + 1 -> (0 < (c'.g q).ver -> (g2 q).b = (c'.g q).b) /\ (c'.g q).ver <= (g2 q).ver /\ ((g2 q).ver = (c'.g q).ver -> (g2 q).v = (c'.g q).v) := by
  intro q _
  by_cases e : q = k
  ·subst e
   rw [hgk]
   exact ⟨fun _ => rfl, by show (c'.g q).ver <= v0 + 1; omega, fun h => by have h : v0 + 1 = (c'.g q).ver := h; omega⟩
  ·rw [hgo q e]; exact ⟨fun _ => rfl, Nat.le_refl _, fun _ => rfl⟩
 let H2 := (A.set j (.box (cells.set i (.own k (v0 + 1))))).set k (.list e es n F (v0 + 1))
 have hl2 : H2.length = A.length := by simp [H2]
 have look : ∀ q o, H2[q]? = some o -> (q = k /\ o = .list e es n F (v0 + 1)) \/ (q ≠ k /\ q = j /\ o = .box (cells.set i (.own k (v0 + 1)))) \/ (q ≠ k /\ q ≠ j /\ A[q]? = some o) := by
  intro q o hq
  by_cases e1 : q = k
  ·subst e1
   have hq : ((A.set j (.box (cells.set i (.own q (v0 + 1))))).set q (.list e es n F (v0 + 1)))[q]? = some o := hq
   rw [List.getElem?_set_self (by simpa using hkl)] at hq
   exact .inl ⟨rfl, (Option.some.inj hq).symm⟩
  ·have hq : ((A.set j (.box (cells.set i (.own k (v0 + 1))))).set k (.list e es n F (v0 + 1)))[q]? = some o := hq
   rw [List.getElem?_set_ne (fun e => e1 e.symm)] at hq
   by_cases e2 : q = j
   ·subst e2
    rw [List.getElem?_set_self hjl] at hq
    exact .inr (.inl ⟨e1, rfl, (Option.some.inj hq).symm⟩)
   ·rw [List.getElem?_set_ne (fun e => e2 e.symm)] at hq
    exact .inr (.inr ⟨e1, e2, hq⟩)
 -- the blocks: each is that of an object of the old configuration
 let old : Nat -> Nat := fun q => if q = k then A.length else q
 have oldI : ∀ q q', q < A.length -> q' < A.length -> q ≠ q' -> old q ≠ old q' := by
  intro q q' hq hq' hne
  simp only [old]
  by_cases e1 : q = k <;> by_cases e2 : q' = k
  ·omega
  ·rw [if_pos e1, if_neg e2]; omega
  ·rw [if_neg e1, if_pos e2]; omega
  ·rw [if_neg e1, if_neg e2]; exact hne
 have bb : ∀ q o b, H2[q]? = some o -> blk g2 q o = some b -> ∃ o', c'.H[old q]? = some o' /\ blk c'.g (old q) o' = some b := by
  intro q o b hq hb
  rcases look q o hq with ⟨rfl, rfl⟩ | ⟨h1, rfl, rfl⟩ | ⟨h1, h2, h3⟩
  ·refine ⟨_, by simp only [old, if_true]; exact atm, ?_⟩
   simp only [old, if_true]
   have hb : vblk (g2 q).v = some b := hb
   rw [hgk] at hb
   exact hb
  ·refine ⟨.box cells, by simp only [old, if_neg h1]; rw [at1 _ hjl]; exact hj, ?_⟩
   simp only [old, if_neg h1]
   have hb : some (g2 q).b = some b := hb
   rw [hgo _ h1] at hb
   exact hb
  ·refine ⟨o, by simp only [old, if_neg h1]; rw [at1 _ (List.getElem?_eq_some_iff.1 h3).1]; exact h3, ?_⟩
   simp only [old, if_neg h1]
   rwa [blk_congr (hgo q h1)] at hb
 have lt2 : ∀ q o, H2[q]? = some o -> q < A.length := fun q o hq => by rw [<- hl2]; exact (List.getElem?_eq_some_iff.1 hq).1
 have hok2 : (⟨g2, c'.I, c'.w, H2⟩ : Cfg).Ok := by
  refine ⟨fun q o hq => ?_, fun q q' o o' b hq hq' hne hb hb' => ?_, fun q o b hq hb => ?_, hok.imm, fun b p q o hI hq hb => ?_⟩
  ·show Holds g2 c'.I c'.w H2.length q o
   rw [hl2]
   rcases look q o hq with ⟨rfl, rfl⟩ | ⟨h1, rfl, rfl⟩ | ⟨h1, h2, h3⟩
   ·obtain ⟨xs, x1, x2, x3⟩ := p3
    refine ⟨by rw [hgk], Nat.succ_pos _, xs, by rw [hgk]; exact x1, x2, fun a b ha hb => ?_⟩
    obtain ⟨y, y1, y2⟩ := x3 a b ha hb
    exact ⟨y, y1, Reads.mono' (M := 0) (fun _ hk => absurd hk (Nat.not_lt_zero _)) (fun b o h => ⟨h, rfl⟩) _ 0 0 y (Nat.le_refl _) (Nat.le_refl _) y2⟩
   ·obtain ⟨k0, cs, T, k1, k2, k3⟩ := hok.obj q _ (by rw [at1 q hjl]; exact hj)
    refine ⟨by rw [hgo q h1]; exact k0, cs, T, by rw [hgo q h1]; exact k1, by simp [k2], fun a av ha => ?_⟩
    by_cases e1 : a = i
    ·subst e1
     rw [List.getElem?_set_self hil] at ha
     cases ha
     obtain ⟨y, y1, y2, y3, y4, y5, y6⟩ := k3 a _ hi
     exact ⟨y, y1, y2, hkl, by rw [hgk]; exact Nat.le_refl _, y2, fun _ => by rw [hgk]; exact y6 p1⟩
    ·rw [List.getElem?_set_ne (fun e => e1 e.symm)] at ha
     obtain ⟨y, y1, y2, y3⟩ := k3 a _ ha
     rw [hl] at y3
     exact ⟨y, y1, y2, AV.under_reads _ _ _ (hu a av ha e1) (Reads.mono' (M := A.length + 1) hpl (fun b o h => ⟨h, rfl⟩) _ _ _ y (Nat.le_refl _) (Nat.le_refl _) y3)⟩
   ·obtain ⟨e', es', n', F', v', rfl⟩ := ho q o h3 h2
    obtain ⟨k1, k2, xs, x1, x2, x3⟩ := hok.obj q _ (by rw [at1 q (lt2 _ _ hq)]; exact h3)
    refine ⟨by rw [hgo q h1]; exact k1, k2, xs, by rw [hgo q h1]; exact x1, x2, fun a b ha hb => ?_⟩
    obtain ⟨y, y1, y2⟩ := x3 a b ha hb
    exact ⟨y, y1, Reads.mono' (M := 0) (fun _ hk => absurd hk (Nat.not_lt_zero _)) (fun b o h => ⟨h, rfl⟩) _ 0 0 y (Nat.le_refl _) (Nat.le_refl _) y2⟩
  ·obtain ⟨o1, a1, a2⟩ := bb q o b hq hb
   obtain ⟨o2, b1, b2⟩ := bb q' o' b hq' hb'
   exact hok.apart _ _ o1 o2 b a1 b1 (oldI q q' (lt2 _ _ hq) (lt2 _ _ hq') hne) a2 b2
  ·obtain ⟨o1, a1, a2⟩ := bb q o b hq hb
   exact hok.old _ o1 b a1 a2
  ·obtain ⟨o1, a1, a2⟩ := bb q o b hq hb
   exact hok.immApart b p _ o1 hI a1 a2
 have hcl : c.H.length <= A.length := by rw [hL]; exact hLA
 refine ⟨⟨g2, c'.I, c'.w, H2⟩, rfl, ⟨hok2, by show c.H.length <= H2.length; rw [hl2]; exact hcl, fun q hq => ?_, ht.keep, ht.new, fun b ⟨q, o, hq, hb⟩ => ?_, ht.os, ht.tape, ht.output, ht.size, ht.block⟩, rfl, ?_⟩
 ·obtain ⟨a1, a2, a3⟩ := ht.places q hq
  obtain ⟨b1, b2, b3⟩ := hpl q (by omega)
  refine ⟨fun h0 => ?_, by show _ <= (g2 q).ver; omega, fun e => ?_⟩
  ·show (g2 q).b = _
   rw [b1 (by omega), a1 h0]
  ·have e : (g2 q).ver = (c.g q).ver := e
   show (g2 q).v = _
   rw [b3 (by omega), a3 (by omega)]
 ·obtain ⟨o1, a1, a2⟩ := bb q o b hq hb
  exact ht.own b ⟨_, o1, a1, a2⟩
 ·show Reads g2 c'.I c'.w r H2.length v
  rw [hl2]
  have hrd : Reads c'.g c'.I c'.w r c'.H.length v := hrd
  rw [hl] at hrd
  exact AV.under_reads _ _ _ hr (Reads.mono' (M := A.length + 1) hpl (fun b o h => ⟨h, rfl⟩) _ _ _ v (Nat.le_refl _) (Nat.le_refl _) hrd)
theorem Mut.giveB {X : Ctx} {f : FuncId} {args : List AV} {L L' : List HObj} {r : AV} {j i k ver : Nat} {cells : List AV} {e es n e0 es0 : Nat} {F F0 : Nat -> Nat -> AV}
  (hj : L[j]? = some (.box cells)) (hi : cells[i]? = some (.own k ver)) (hk : L[k]? = some (.list e es n F ver)) (hjk : j ≠ k)
  (h : Mut X f args ((L.set k (.list e0 es0 0 F0 (ver + 1))).set j (.box (cells.set i (.slc es n F)))) r L') : Mut X f args L r L' := by
 refine ⟨h.1, fun c cargs hok hb hL hsz hargs => ?_⟩
 have hjl : j < L.length := (List.getElem?_eq_some_iff.1 hj).1
 have hil : i < cells.length := (List.getElem?_eq_some_iff.1 hi).1
 have hkl : k < L.length := (List.getElem?_eq_some_iff.1 hk).1
 have hkc : c.H[k]? = some (.list e es n F ver) := by rw [hL]; exact hk
 have hkv : (c.g k).ver = ver := (show Holds c.g c.I c.w c.H.length k (.list e es n F ver) from hok.obj k _ hkc).1
 have t1 := Tr.freeze hok hkc
 have t2 := Tr.relax t1.ok (H' := (L.set k .dead).set j (.box (cells.set i (.slc es n F)))) (by simp [hL]) fun q o o' ho ho' => by
  have hob := t1.ok.obj q o ho
  have ho : (c.H.set k .dead)[q]? = some o := ho
  rw [hL] at ho
  by_cases hq : q = j
  ·subst hq
   rw [List.getElem?_set_ne (fun e => hjk e.symm), hj] at ho
   cases ho
   rw [List.getElem?_set_self (by simpa using hjl)] at ho'
   cases ho'
   refine ⟨?_, .inl rfl⟩
   obtain ⟨k0, cs', T', k1, k2, k3⟩ := hob
   refine ⟨k0, cs', T', k1, by simp [k2], fun p bv hp => ?_⟩
   by_cases hpi : p = i
   ·subst hpi
    rw [List.getElem?_set_self hil] at hp
    cases hp
    obtain ⟨z0, zs, T2, z1, z2, z3⟩ := hok.obj q _ (by rw [hL]; exact hj)
    obtain ⟨y, y1, y2, y3⟩ := z3 p _ hi
    have z1 : c.w.heap[(c.g q).b]? = some (.cells zs T2 (0, 0)) := z1
    have k1 : c.w.heap[(c.g q).b]? = some (.cells cs' T' (0, 0)) := k1
    rw [z1] at k1
    cases k1
    exact ⟨y, y1, y2, own_slc hok (fun b o h => .inl h) (fun b hb o => .inr hb) hkc y3⟩
   ·rw [List.getElem?_set_ne (fun e => hpi e.symm)] at hp
    exact k3 p bv hp
  ·rw [List.getElem?_set_ne (fun e => hq e.symm), ho] at ho'
   cases ho'
   exact ⟨hob, .inl rfl⟩
 have t3 := Tr.alter (w' := c.w) (k := k) (x := ⟨(c.g k).b, .slice none 0 0, ver + 1⟩) (o := .dead) (o' := .list e0 es0 0 F0 (ver + 1)) t2.ok
  (by show ((L.set k HObj.dead).set j _)[k]? = _; rw [List.getElem?_set_ne hjk, List.getElem?_set_self hkl]) rfl rfl rfl (Nat.le_refl _) (fun b _ _ => rfl) (fun _ => rfl)
  (by show (c.g k).ver <= ver + 1; omega) (fun h => by have h : ver + 1 = (c.g k).ver := h; omega) (fun b hb => by simp [blk, upd_same, vblk] at hb)
  ⟨by rw [upd_same], Nat.succ_pos _, [], .inl ⟨rfl, rfl, none, by rw [upd_same]⟩, by simp, fun i j hi => by omega⟩
 have t := (t1.trans t2).trans t3
 have hH3 : ((L.set k HObj.dead).set j (.box (cells.set i (.slc es n F)))).set k (.list e0 es0 0 F0 (ver + 1)) = (L.set k (.list e0 es0 0 F0 (ver + 1))).set j (.box (cells.set i (.slc es n F))) := by
  rw [List.set_comm _ _ hjk, List.set_set]
 refine (h.2 _ cargs t.ok (hb.tr t) hH3 hsz fun q av hq => ?_).mono ?_
 ·obtain ⟨v, v1, v2⟩ := hargs q av hq
  exact ⟨v, v1, t.reads v2⟩
 ·rintro x w' ⟨v, c2, h1, h2, h3, h4, h5⟩
  exact ⟨v, c2, h1, h2, t.trans h3, h4, h5⟩
theorem Mut.frame {X : Ctx} {f : FuncId} {args bs : List AV} {L : List HObj} {r : AV} (h : Pure X f bs r) (hr : r.free = true) (hfree : (bs.all (·.free)) = true) (hlen : bs.length = args.length)
  (hl : ∀ (c : Cfg), c.Ok -> c.H = L -> ∀ (j : Nat) a b v, args[j]? = some a -> bs[j]? = some b -> c.Reads a v -> c.Reads b v) : Mut X f args L r L := by
 refine ⟨h.1, fun c cargs hok hb hL hsz hargs => ?_⟩
 let cc : Cfg := ⟨c.g, c.I, c.w, []⟩
 have hccok : cc.Ok := ⟨fun k o h => by simp [cc] at h, fun i j oi oj b h => by simp [cc] at h, fun k o b h => by simp [cc] at h, fun b o h => hok.imm b o h, fun b o k ob _ h => by simp [cc] at h⟩
 have hccb : Base X cc := ⟨hb.below, fun b o h => hb.imm b o h, fun b ⟨k, o, h, _⟩ => by simp [cc] at h⟩
 have hown : ∀ b, ¬ cc.Owns b := fun b ⟨k, o, h, _⟩ => by simp [cc] at h
 refine (h.2 cc cargs hccok hccb rfl (by omega) fun j av hj => ?_).mono ?_
 ·have hlt : j < args.length := by rw [<- hlen]; exact (List.getElem?_eq_some_iff.1 hj).1
  obtain ⟨v, k1, k2⟩ := hargs j args[j] (List.getElem?_eq_getElem hlt)
  exact ⟨v, k1, AV.free_reads (g' := c.g) _ _ _ _ (List.all_eq_true.1 hfree _ (List.mem_of_getElem? hj)) (hl c hok hL j _ av v (List.getElem?_eq_getElem hlt) hj k2)⟩
 ·rintro x w' ⟨v, cc', rfl, rfl, htr, hH', hread⟩
  have hI : ∀ b o, cc'.I b o -> c.I b o \/ c.w.heap.size <= b := fun b o hi => by
   rcases htr.new b o hi with q | q | q
   ·exact .inl q
   ·exact .inr q
   ·exact absurd q (hown b)
  have hbl : ∀ b, b < c.w.heap.size -> cc'.w.heap[b]? = c.w.heap[b]? := fun b hb => htr.block b hb (hown b)
  have hkeep : ∀ b o, c.I b o -> cc'.I b o /\ cc'.w.cell? ⟨b, o, none⟩ = c.w.cell? ⟨b, o, none⟩ := fun b o hi => htr.keep b o hi
  refine ⟨v, ⟨c.g, cc'.I, cc'.w, c.H⟩, rfl, rfl, ?_, hL, ?_⟩
  ·refine ⟨⟨fun k o hk => Holds.mono (fun k _ => ⟨fun _ => rfl, Nat.le_refl _, fun _ => rfl⟩) hkeep (Nat.le_refl _) rfl (fun b hb => hbl b (hok.old k o b hk hb)) (hok.obj k o hk), hok.apart, fun k o b hk hb => Nat.lt_of_lt_of_le (hok.old k o b hk hb) htr.size, htr.ok.imm, fun b o k ob hi hk hb => ?_⟩, Nat.le_refl _, fun k _ => ⟨fun _ => rfl, Nat.le_refl _, fun _ => rfl⟩, hkeep, fun b o hi => ?_, fun b h => .inr h, htr.os, htr.tape, htr.output, htr.size, fun b hb _ => hbl b hb⟩
   ·rcases hI b o hi with q | q
    ·exact hok.immApart b o k ob q hk hb
    ·have := hok.old k ob b hk hb; omega
   ·rcases hI b o hi with q | q
    ·exact .inl q
    ·exact .inr (.inl q)
  ·exact Reads.mono' (M := 0) (g := cc'.g) (I := cc'.I) (w := cc'.w) (fun k hk => absurd hk (Nat.not_lt_zero k)) (fun b o h => ⟨h, rfl⟩) r 0 _ v (Nat.le_refl _) (Nat.zero_le _) (AV.free_reads (g' := c.g) r _ 0 v hr hread)
theorem Mut.ver {X : Ctx} {f : FuncId} {r : AV} {e es n v : Nat} {F : Nat -> Nat -> AV} (h : Mut X f [.own 0 1] [.list e es n F 1] r [.list e es n F 1]) (hr : r.free = true) : Mut X f [.own 0 v] [.list e es n F v] r [.list e es n F v] := by
 refine ⟨h.1, fun c cargs hok hb hL hsz hargs => ?_⟩
 have hl : c.H.length = 1 := by rw [hL]; rfl
 have hh : Holds c.g c.I c.w c.H.length 0 (.list e es n F v) := hok.obj 0 _ (by rw [hL]; rfl)
 obtain ⟨h1, h2, xs, h3, h4, h5⟩ := hh
 let g1 := upd c.g 0 ⟨(c.g 0).b, (c.g 0).v, 1⟩
 have g10 : g1 0 = ⟨(c.g 0).b, (c.g 0).v, 1⟩ := upd_same _ _ _
 have one : ∀ {α : HObj} {a : HObj} {k : Nat} {o : HObj}, ([a] : List HObj)[k]? = some o -> k = 0 /\ o = a := fun {α a k o} h => by
  cases k with
  | zero => exact ⟨rfl, (Option.some.inj h).symm⟩
  | succ k => simp at h
 let c1 : Cfg := ⟨g1, c.I, c.w, [.list e es n F 1]⟩
 have vb : ∀ b, blk c.g 0 (.list e es n F v) = some b ↔ blk g1 0 (.list e es n F 1) = some b := fun b => by simp [blk, g10]
 have hok1 : c1.Ok := by
  refine ⟨fun k o hk => ?_, fun i j oi oj b hi hj hne _ => ?_, fun k o b hk hbk => ?_, hok.imm, fun b o k ob hi hk hbk => ?_⟩
  ·obtain ⟨rfl, rfl⟩ := one (α := .dead) hk
   refine ⟨by show (g1 0).ver = 1; rw [g10], Nat.one_pos, xs, by show OwnsL _ _ _ (g1 0).v _ _; rw [g10]; exact h3, h4, fun i j hi hj => ?_⟩
   obtain ⟨x, x1, x2⟩ := h5 i j hi hj
   exact ⟨x, x1, Reads.mono' (M := 0) (fun k hk => absurd hk (Nat.not_lt_zero k)) (fun b o h => ⟨h, rfl⟩) _ 0 0 x (Nat.le_refl _) (Nat.le_refl _) x2⟩
  ·have a := one (α := .dead) hi
   have b := one (α := .dead) hj
   exact absurd (a.1.trans b.1.symm) hne
  ·obtain ⟨rfl, rfl⟩ := one (α := .dead) hk
   exact hok.old 0 _ b (by rw [hL]; rfl) ((vb b).2 hbk)
  ·obtain ⟨rfl, rfl⟩ := one (α := .dead) hk
   exact hok.immApart b o 0 _ hi (by rw [hL]; rfl) ((vb b).2 hbk)
 have hb1 : Base X c1 := ⟨hb.below, hb.imm, fun b ⟨k, o, hk, hbk⟩ => by
  obtain ⟨rfl, rfl⟩ := one (α := .dead) hk
  exact hb.own b ⟨0, _, by rw [hL]; rfl, (vb b).2 hbk⟩⟩
 refine (h.2 c1 cargs hok1 hb1 rfl hsz fun j av hj => ?_).mono ?_
 ·cases j with
  | zero =>
   cases hj
   obtain ⟨x, x1, x2⟩ := hargs 0 _ rfl
   obtain ⟨y1, y2, y3, y4⟩ := x2
   exact ⟨x, x1, by show 0 < 1; decide, by show 1 <= (g1 0).ver; rw [g10]; exact Nat.le_refl _, y3, fun _ => by show x = (g1 0).v; rw [g10]; exact y4 h1⟩
  | succ j => simp at hj
 ·rintro x w' ⟨y, c', rfl, rfl, ht, hH', hrd⟩
  have hh' : Holds c'.g c'.I c'.w c'.H.length 0 (.list e es n F 1) := ht.ok.obj 0 _ (by rw [hH']; rfl)
  obtain ⟨k1, k2, ys, k3, k4, k5⟩ := hh'
  let g2 := upd c'.g 0 ⟨(c.g 0).b, (c'.g 0).v, v⟩
  have g20 : g2 0 = ⟨(c.g 0).b, (c'.g 0).v, v⟩ := upd_same _ _ _
  have hp := ht.places 0 (by show 0 < 1; decide)
  have hv : (c'.g 0).v = (c.g 0).v := by rw [hp.2.2 (by rw [k1]; show 1 = (g1 0).ver; rw [g10])]; show (g1 0).v = _; rw [g10]
  have vb' : ∀ b, blk g2 0 (.list e es n F v) = some b ↔ blk c'.g 0 (.list e es n F 1) = some b := fun b => by simp [blk, g20]
  refine ⟨y, ⟨g2, c'.I, c'.w, [.list e es n F v]⟩, rfl, rfl, ⟨⟨fun k o hk => ?_, fun i j oi oj b hi hj hne _ => ?_, fun k o b hk hbk => ?_, ht.ok.imm, fun b o k ob hi hk hbk => ?_⟩, by show c.H.length <= 1; omega, fun k hk => ?_, ht.keep, fun b o hi => ?_, fun b ⟨k, o, hk, hbk⟩ => ?_, ht.os, ht.tape, ht.output, ht.size, fun b hb ho => ?_⟩, rfl, ?_⟩
  ·obtain ⟨rfl, rfl⟩ := one (α := .dead) hk
   refine ⟨by show (g2 0).ver = v; rw [g20], h2, ys, by show OwnsL _ _ _ (g2 0).v _ _; rw [g20]; exact k3, k4, fun i j hi hj => ?_⟩
   obtain ⟨x, x1, x2⟩ := k5 i j hi hj
   exact ⟨x, x1, Reads.mono' (M := 0) (fun k hk => absurd hk (Nat.not_lt_zero k)) (fun b o h => ⟨h, rfl⟩) _ 0 0 x (Nat.le_refl _) (Nat.le_refl _) x2⟩
  ·have a := one (α := .dead) hi
   have b := one (α := .dead) hj
   exact absurd (a.1.trans b.1.symm) hne
  ·obtain ⟨rfl, rfl⟩ := one (α := .dead) hk
   exact ht.ok.old 0 _ b (by rw [hH']; rfl) ((vb' b).1 hbk)
  ·obtain ⟨rfl, rfl⟩ := one (α := .dead) hk
   exact ht.ok.immApart b o 0 _ hi (by rw [hH']; rfl) ((vb' b).1 hbk)
  ·obtain rfl : k = 0 := by omega
   refine ⟨fun _ => by show (g2 0).b = _; rw [g20], by show _ <= (g2 0).ver; rw [g20, h1]; exact Nat.le_refl _, fun _ => by show (g2 0).v = _; rw [g20]; exact hv⟩
  ·rcases ht.new b o hi with q | q | ⟨k, ob, hk, hbk⟩
   ·exact .inl q
   ·exact .inr (.inl q)
   ·obtain ⟨rfl, rfl⟩ := one (α := .dead) hk
    exact .inr (.inr ⟨0, _, by rw [hL]; rfl, (vb b).2 hbk⟩)
  ·obtain ⟨rfl, rfl⟩ := one (α := .dead) hk
   rcases ht.own b ⟨0, _, by rw [hH']; rfl, (vb' b).1 hbk⟩ with q | ⟨k, ob, hk, hbk⟩
   ·exact .inl q
   ·obtain ⟨rfl, rfl⟩ := one (α := .dead) hk
    exact .inr ⟨0, _, by rw [hL]; rfl, (vb b).2 hbk⟩
  ·exact ht.block b hb fun ⟨k, ob, hk, hbk⟩ => by
    obtain ⟨rfl, rfl⟩ := one (α := .dead) hk
    exact ho ⟨0, _, by rw [hL]; rfl, (vb b).2 hbk⟩
  ·exact Reads.mono' (M := 0) (g := c'.g) (I := c'.I) (w := c'.w) (fun k hk => absurd hk (Nat.not_lt_zero k)) (fun b o h => ⟨h, rfl⟩) r 0 _ y (Nat.le_refl _) (Nat.zero_le _) (AV.free_reads (g' := c.g) r _ 0 y hr hrd)
end Go.Fx
namespace Go.Proofs
open Go.Shelf
def Tryz.lays125_ren : Go.Shelf.Ren := ⟨fun | 125 => 130 | 128 => 177 | 129 => 178 | n => n, fun | 46 => 218 | 3 => 3 | 51 => 260 | 53 => 262 | 4 => 4 | 5 => 5 | 9 => 9 | n => n, fun | n => n⟩
theorem Tryz.lays125 : Go.Proofs.Lays.n125 Tryz.prog Tryz.lays125_ren := {
 mixed := by kernel_rfl
 f125 := Tryz.func130.trans (congrArg some (by kernel_rfl))
 f128 := Tryz.func177.trans (congrArg some (by kernel_rfl))
 f129 := Tryz.func178.trans (congrArg some (by kernel_rfl))
 t3 := Tryz.underlying3
 a3 := Tryz.isAgg3
 z3 := Tryz.sizeOf3
 v3 := Tryz.zeroValue3
 t4 := Tryz.underlying4
 a4 := Tryz.isAgg4
 z4 := Tryz.sizeOf4
 v4 := Tryz.zeroValue4
 t5 := Tryz.underlying5
 a5 := Tryz.isAgg5
 z5 := Tryz.sizeOf5
 v5 := Tryz.zeroValue5
 t9 := Tryz.underlying9
 a9 := Tryz.isAgg9
 z9 := Tryz.sizeOf9
 v9 := Tryz.zeroValue9
 t46 := Tryz.underlying218
 a46 := Tryz.isAgg218
 z46 := Tryz.sizeOf218
 v46 := Tryz.zeroValue218
 t51 := Tryz.underlying260
 a51 := Tryz.isAgg260
 z51 := Tryz.sizeOf260
 v51 := Tryz.zeroValue260
 t53 := Tryz.underlying262
 a53 := Tryz.isAgg262
 z53 := Tryz.sizeOf262
 v53 := Tryz.zeroValue262 }
theorem Tryz.bits_Len (x : Int) (w : World) (h0 : 0 <= x) (h1 : x <= 18446744073709551615) :
  Calls Tryz.prog 130 #[.int .u64 x] w fun e w' => e = .returned (.int .i64 (Lib.bitLen x.toNat)) /\ w' = w := Any.bits_Len Tryz.lays125 x w h0 h1
def Tryz.lays189_ren : Go.Shelf.Ren := ⟨fun | 189 => 85 | 125 => 130 | 257 => 129 | 128 => 177 | 129 => 178 | 294 => 168 | 295 => 169 | 296 => 170 | 297 => 171 | 298 => 172 | 299 => 173 | 216 => 174 | 300 => 175 | 301 => 176 | 328 => 201 | 329 => 202 | 330 => 203 | 331 => 204 | 332 => 205 | 215 => 206 | 343 => 222 | n => n, fun | 28 => 23 | 3 => 3 | 46 => 218 | 0 => 0 | 51 => 260 | 53 => 262 | 4 => 4 | 183 => 254 | 182 => 253 | 131 => 168 | 5 => 5 | 9 => 9 | 218 => 286 | 222 => 165 | 228 => 304 | 229 => 179 | n => n, fun | n => n⟩
theorem Tryz.lays189 : Go.Proofs.Lays.n189 Tryz.prog Tryz.lays189_ren := {
 mixed := by kernel_rfl
 f125 := Tryz.func130.trans (congrArg some (by kernel_rfl))
 f128 := Tryz.func177.trans (congrArg some (by kernel_rfl))
 f129 := Tryz.func178.trans (congrArg some (by kernel_rfl))
 f189 := Tryz.func85.trans (congrArg some (by kernel_rfl))
 f215 := Tryz.func206.trans (congrArg some (by kernel_rfl))
 f216 := Tryz.func174.trans (congrArg some (by kernel_rfl))
 f257 := Tryz.func129.trans (congrArg some (by kernel_rfl))
 f294 := Tryz.func168.trans (congrArg some (by kernel_rfl))
 f295 := Tryz.func169.trans (congrArg some (by kernel_rfl))
 f296 := Tryz.func170.trans (congrArg some (by kernel_rfl))
 f297 := Tryz.func171.trans (congrArg some (by kernel_rfl))
 f298 := Tryz.func172.trans (congrArg some (by kernel_rfl))
 f299 := Tryz.func173.trans (congrArg some (by kernel_rfl))
 f300 := Tryz.func175.trans (congrArg some (by kernel_rfl))
 f301 := Tryz.func176.trans (congrArg some (by kernel_rfl))
 f328 := Tryz.func201.trans (congrArg some (by kernel_rfl))
 f329 := Tryz.func202.trans (congrArg some (by kernel_rfl))
 f330 := Tryz.func203.trans (congrArg some (by kernel_rfl))
 f331 := Tryz.func204.trans (congrArg some (by kernel_rfl))
 f332 := Tryz.func205.trans (congrArg some (by kernel_rfl))
 f343 := Tryz.func222.trans (congrArg some (by kernel_rfl))
 t0 := Tryz.underlying0
 a0 := Tryz.isAgg0
 z0 := Tryz.sizeOf0
 v0 := Tryz.zeroValue0
 t3 := Tryz.underlying3
 a3 := Tryz.isAgg3
 z3 := Tryz.sizeOf3
 v3 := Tryz.zeroValue3
 t4 := Tryz.underlying4
 a4 := Tryz.isAgg4
 z4 := Tryz.sizeOf4
 v4 := Tryz.zeroValue4
 t5 := Tryz.underlying5
 a5 := Tryz.isAgg5
 z5 := Tryz.sizeOf5
 v5 := Tryz.zeroValue5
 t9 := Tryz.underlying9
 a9 := Tryz.isAgg9
 z9 := Tryz.sizeOf9
 v9 := Tryz.zeroValue9
 t28 := Tryz.underlying23
 a28 := Tryz.isAgg23
 z28 := Tryz.sizeOf23
 v28 := Tryz.zeroValue23
 t46 := Tryz.underlying218
 a46 := Tryz.isAgg218
 z46 := Tryz.sizeOf218
 v46 := Tryz.zeroValue218
 t51 := Tryz.underlying260
 a51 := Tryz.isAgg260
 z51 := Tryz.sizeOf260
 v51 := Tryz.zeroValue260
 t53 := Tryz.underlying262
 a53 := Tryz.isAgg262
 z53 := Tryz.sizeOf262
 v53 := Tryz.zeroValue262
 t131 := Tryz.underlying168
 a131 := Tryz.isAgg168
 z131 := Tryz.sizeOf168
 v131 := Tryz.zeroValue168
 t182 := Tryz.underlying253
 a182 := Tryz.isAgg253
 z182 := Tryz.sizeOf253
 v182 := Tryz.zeroValue253
 t183 := Tryz.underlying254
 a183 := Tryz.isAgg254
 z183 := Tryz.sizeOf254
 v183 := Tryz.zeroValue254
 t218 := Tryz.underlying286
 a218 := Tryz.isAgg286
 z218 := Tryz.sizeOf286
 v218 := Tryz.zeroValue286
 t222 := Tryz.underlying165
 a222 := Tryz.isAgg165
 z222 := Tryz.sizeOf165
 v222 := Tryz.zeroValue165
 t228 := Tryz.underlying304
 a228 := Tryz.isAgg304
 z228 := Tryz.sizeOf304
 v228 := Tryz.zeroValue304
 t229 := Tryz.underlying179
 a229 := Tryz.isAgg179
 z229 := Tryz.sizeOf179
 v229 := Tryz.zeroValue179 }
open Go.Sort Go.RowKit in
theorem Tryz.slices_Sort_int (blk off cap : Nat) (zs : List Int) (w : World) (hH : Holds (Value.int .i64) w blk off zs.toArray) (hblk : blk < w.heap.size) (hsz : zs.length < 4611686018427387904) :
  Calls Tryz.prog 85 #[.slice (some ⟨blk, off, none⟩) zs.length cap] w fun e w' =>
   e = .returned (.tuple #[]) /\ ∃ n os, w' = grow (putRow (Value.int .i64) (Sort.ahead w n) blk off (zs.mergeSort fun x y => decide (x <= y)).toArray) os := Any.slices_Sort_int Tryz.lays189 blk off cap zs w hH hblk hsz
end Go.Proofs
namespace Go.Fx
open Go.Proofs
def strRowK {A : Type} : List ByteArray -> (List AV -> A) -> A
 | [], K => K []
 | s :: l, K => bytesK s.data.toList fun b => strRowK l fun l => K (.str ⟨⟨b⟩⟩ :: l)
def numAV (v : AV) (e : AV) : AV := .tup 2 (tbl [v, e])
def libT (f : FuncId) (args : List AV) (L : List HObj) : Option (AV × List HObj) :=
 match L with
 | [] =>
  match f, args with
  | 81, [.str s, .str sep] => bif Nat.blt s.size 4294967281 && Nat.ble 1 sep.size then strRowK (Lib.splitB sep 0 (Lib.countB s sep) s) fun l => some (.slc 1 l.length (fun i j => tbl l (i * 1 + j)), []) else none
  | 123, [.str s] => bif Nat.ble s.size 281474976710656 then (match Lib.atoiAll s.data.toList with | .ok v => some (numAV (.int .i64 v) (.val .nilIface), []) | .range => some (numAV (.int .i64 (Lib.atoiSat s.data.toList)) .ifc, []) | _ => some (numAV (.int .i64 0) .ifc, [])) else none
  | 124, [.int .i64 n] => bif decide (inK .i64 n) then bytesK (Lib.itoa n) fun l => some (.str ⟨⟨l⟩⟩, []) else none
  | 83, [.str s, .int .u8 c] => some (.int .i64 (Lib.indexByte s.data.toList c.toNat.toUInt8), [])
  | 130, [.int .u64 x] => bif decide (0 <= x) && decide (x <= 18446744073709551615) then some (.int .i64 (Lib.bitLen x.toNat), []) else none
  | 125, [.str s, .str p] => bytesK (Lib.trimPrefix s.data.toList p.data.toList) fun l => some (.str ⟨⟨l⟩⟩, [])
  | _, _ => none
 | _ => none
open Go.Proofs Go.RowKit Go.Sort Go.Lib
def valOf : AV -> Option Value
 | .int k n => some (.int k n)
 | .bool b => some (.bool b)
 | .str s => some (.string s)
 | _ => none
theorem valOf_reads {g : Nat -> GO} {I : Nat -> Nat -> Prop} {w : World} {av : AV} {m : Nat} {c u : Value} (h : valOf av = some u) (hr : Reads g I w av m c) : c = u := by
 cases av <;> simp only [valOf, Option.some.injEq, reduceCtorEq] at h <;> subst h <;> exact hr
structure Laid (W0 : World) : Prop where
 m : ∃ m, W0.cell? ⟨2, 0, none⟩ = some (.int .i64 m)
 e3 : ∃ ev, W0.cell? ⟨3, 0, none⟩ = some ev /\ (ev = .nilIface \/ ∃ te pe, ev = .iface te pe)
 e4 : ∃ ev, W0.cell? ⟨4, 0, none⟩ = some ev /\ (ev = .nilIface \/ ∃ te pe, ev = .iface te pe)
 tab : Lib.TabIs Tryz.prog W0 "internal/strconv.uint64pow10" .u64 Lib.pow10Tab
theorem cell_lt {W : World} {a : Addr} {v : Value} (h : W.cell? a = some v) : a.block < W.heap.size := by
 unfold World.cell? at h
 split at h
 ·rename_i hh; exact (Array.getElem?_eq_some_iff.1 hh).1
 ·cases h
section
variable {X : Ctx}
theorem mut_lib {f : FuncId} {args : List AV} {r : AV} (hent : Enters X.P f) (vals : List Value) (hv : args.map valOf = vals.map some)
  (h : ∀ w, Below X.W0.heap.size X.W0 w -> Calls X.P f vals.toArray w fun e w' => ∃ v, e = .returned v /\ Below w.heap.size w w' /\ ∀ g, Reads g (fun b _ => w.heap.size <= b /\ b < w'.heap.size) w' r 0 v) : Mut X f args [] r [] := by
 refine ⟨hent, fun c cargs hok hb hL hsz hargs => ?_⟩
 have hlen : args.length = vals.length := by simpa using congrArg List.length hv
 have e : cargs = vals.toArray := by
  apply Array.ext (by simp [hsz, hlen])
  intro j h1 h2
  have hj : j < args.length := by omega
  obtain ⟨v, h3, h4⟩ := hargs j args[j] (by simp [hj])
  have h5 : (args.map valOf)[j]? = (vals.map some)[j]? := by rw [hv]
  have h6 : j < vals.length := by omega
  simp only [List.getElem?_map, List.getElem?_eq_getElem hj, List.getElem?_eq_getElem h6, Option.map_some, Option.some.injEq] at h5
  have h7 := valOf_reads h5 h4
  rw [Array.getElem?_eq_getElem h1] at h3
  cases h3
  simpa using h7
 subst e
 refine (h c.w hb.below).mono fun e w' ⟨v, h1, h2, h3⟩ => ?_
 have tr := Tr.imm hok (w' := w') (I' := fun b o => c.I b o \/ (c.w.heap.size <= b /\ b < w'.heap.size)) h2.os h2.tape h2.output h2.size h2.block (fun _ _ h => .inl h) (fun b o h => h)
 refine ⟨v, _, h1, rfl, tr, hL, ?_⟩
 show Reads c.g _ w' r c.H.length v
 rw [hL]
 exact Reads.mono' (M := 0) (fun k hk => absurd hk (by omega)) (fun b o hx => ⟨.inr hx, rfl⟩) r 0 0 v (Nat.le_refl _) (Nat.le_refl _) (h3 c.g)
end
theorem enters_lib {f : FuncId} (h : (match Tryz.prog.funcs[f]? with | some fn => !(fn.name == "runtime.NumGoroutine") && fn.body.isSome | none => false) = true) : Enters Tryz.prog f := by
 split at h
 ·rename_i fn hf
  simp only [Bool.and_eq_true, Bool.not_eq_true'] at h
  exact ⟨fn, hf, h.1, h.2⟩
 ·cases h
section
variable {W0 : World} {G : Nat -> Option AV}
theorem lib_len {x : Int} (h0 : 0 <= x) (h1 : x <= 18446744073709551615) : Mut (Xc W0 G) 130 [.int .u64 x] [] (.int .i64 (Lib.bitLen x.toNat)) [] :=
 mut_lib (enters_lib (by kernel_rfl)) [.int .u64 x] rfl fun w hb => (Any.bits_Len Tryz.lays125 x w h0 h1).mono fun e w' ⟨he, hw⟩ => ⟨_, he, by rw [hw]; exact .refl _ _, fun g => rfl⟩
end
open Go.Proofs Go.RowKit
def compI (l : List Int) : List Int := Lib.compact l
section
variable {X : Ctx}
theorem frozen_no {w : World} {b o : Nat} {cur : Array Value} {e : TypeId} (h : w.heap[b]? = some (.cells cur e (0, 0))) (ho : o < cur.size) : w.frozen? ⟨b, o, none⟩ = false := by
 simp [World.frozen?, h]
theorem own_row {c : Cfg} {e : TypeId} {l : List Int} {ver : Nat} (hok : c.Ok) (hH : c.H = [.list e 1 l.length (fun i _ => .int .i64 (l.getD i 0)) ver]) (hl : l ≠ []) :
  (c.g 0).ver = ver /\ ∃ b cap cur, (c.g 0).v = .slice (some ⟨b, 0, none⟩) l.length cap /\ c.w.heap[b]? = some (.cells cur e (0, 0)) /\ l.length <= cap /\ cap <= maxLen /\ cur.size = cap /\ 0 < ver /\ Go.Sort.Holds (Value.int .i64) c.w b 0 l.toArray := by
 have h := hok.obj 0 _ (by rw [hH]; rfl)
 obtain ⟨hv, hp, xs, ho, _, hx⟩ := h
 refine ⟨hv, ?_⟩
 have hl0 : l.length ≠ 0 := fun h => hl (List.eq_nil_of_length_eq_zero h)
 rcases ho with ⟨h0, _⟩ | ⟨b, cap, cur, h1, h2, h3, h4, h5, h6, h7⟩
 ·exact absurd h0 hl0
 ·refine ⟨b, cap, cur, h1, h3, h4, h5, by omega, hp, fun j hj => ?_⟩
  have hj' : j < l.length := by simpa using hj
  obtain ⟨x, k1, k2⟩ := hx j 0 hj' Nat.one_pos
  have k2 : x = .int .i64 (l.getD j 0) := k2
  have e1 : cur[j]? = some x := by
   rw [<- h7] at k1
   rw [List.getElem?_take_of_lt (by omega)] at k1
   simpa using k1
  have hjc : j < cur.size := (Array.getElem?_eq_some_iff.1 e1).1
  refine ⟨?_, frozen_no h3 (by omega)⟩
  simp only [World.cell?, h3, Nat.zero_add]
  rw [e1, k2]
  simp [List.getD_eq_getElem?_getD, hj']
theorem row_after {w w' : World} {b : Nat} {cur : Array Value} {e : TypeId} {l' : List Int} {n : Nat} {os : Array Obj} (hb : w.heap[b]? = some (.cells cur e (0, 0))) (hsz : l'.length <= cur.size)
  (hw : w' = Go.Sort.grow (Go.Sort.putRow (Value.int .i64) (Go.Sort.ahead w n) b 0 l'.toArray) os) :
  ∃ cur', w'.heap[b]? = some (.cells cur' e (0, 0)) /\ cur'.size = cur.size /\ (∀ j, j < l'.length -> cur'[j]? = some (.int .i64 (l'.getD j 0))) /\
   w'.os = w.os /\ w'.tape = w.tape /\ w'.output = w.output /\ w.heap.size <= w'.heap.size /\ ∀ k, k < w.heap.size -> b ≠ k -> w'.heap[k]? = w.heap[k]? := by
 subst hw
 have hlt := (Array.getElem?_eq_some_iff.1 hb).1
 have hg : ∀ k, k < w.heap.size -> (Go.Sort.grow (Go.Sort.putRow (Value.int .i64) (Go.Sort.ahead w n) b 0 l'.toArray) os).heap[k]? = (w.heap.modify b (Go.Sort.onCells (Go.Sort.putCells (Value.int .i64) 0 l'.toArray)))[k]? := fun k hk => by
  simp only [Go.Sort.grow, Go.Sort.putRow, Go.Sort.mapBlock, Go.Sort.ahead]
  rw [Array.getElem?_append_left (by simpa using hk)]
 refine ⟨Go.Sort.putCells (Value.int .i64) 0 l'.toArray cur, ?_, by simp [Go.Sort.putCells], fun j hj => ?_, rfl, rfl, rfl, ?_, fun k hk hne => ?_⟩
 ·rw [hg b hlt, Array.getElem?_modify, if_pos rfl, hb]; rfl
 ·simp only [Go.Sort.putCells, Array.getElem?_mapIdx]
  rw [Array.getElem?_eq_getElem (show j < cur.size by omega), Option.map_some, if_pos ⟨Nat.zero_le _, by simpa using hj⟩]
  simp [List.getD_eq_getElem?_getD, hj]
 ·simp [Go.Sort.grow, Go.Sort.putRow, Go.Sort.mapBlock, Go.Sort.ahead]
 ·rw [hg k hk, Array.getElem?_modify, if_neg hne]
theorem row_turned {c : Cfg} {e : TypeId} {l l' : List Int} {ver b cap n : Nat} {cur : Array Value} {os : Array Obj} {w' : World} (hok : c.Ok) (hH : c.H = [.list e 1 l.length (fun i _ => .int .i64 (l.getD i 0)) ver]) (hl : l ≠ []) (hl' : l'.length = l.length)
  (hver : (c.g 0).ver = ver) (hv : (c.g 0).v = .slice (some ⟨b, 0, none⟩) l.length cap) (hb : c.w.heap[b]? = some (.cells cur e (0, 0))) (h4 : l.length <= cap) (h5 : cap <= maxLen) (h6 : cur.size = cap) (hp : 0 < ver)
  (hw : w' = Go.Sort.grow (Go.Sort.putRow (Value.int .i64) (Go.Sort.ahead c.w n) b 0 l'.toArray) os) :
  Tr c ⟨c.g, c.I, w', [.list e 1 l'.length (fun i _ => .int .i64 (l'.getD i 0)) ver]⟩ := by
 obtain ⟨cur', k1, k2, k3, k4, k5, k6, k7, k8⟩ := row_after (l' := l') hb (by omega) hw
 have hl0 : l.length ≠ 0 := fun h => hl (List.eq_nil_of_length_eq_zero h)
 have hbk : ∀ (m : Nat) (f : Nat -> Nat -> AV) v, blk c.g 0 (.list e 1 m f v) = some b := fun m f v => by
  show vblk (c.g 0).v = some b
  rw [hv]
  obtain ⟨c1, rfl⟩ : ∃ c1, cap = c1 + 1 := ⟨cap - 1, by omega⟩
  rfl
 have hupd : upd c.g 0 (c.g 0) = c.g := by funext i; by_cases h : i = 0 <;> simp [upd, h]
 have t := Tr.alter (w' := w') (x := c.g 0) (o' := .list e 1 l'.length (fun i _ => .int .i64 (l'.getD i 0)) ver) hok (show c.H[0]? = some (.list e 1 l.length (fun i _ => .int .i64 (l.getD i 0)) ver) by rw [hH]; rfl) k4 k5 k6 k7
  (fun k hk hne => k8 k hk fun h => hne (by rw [hbk, h])) (fun _ => rfl) (Nat.le_refl _) (fun _ => rfl)
  (fun k hk => .inr (by rw [hupd, hbk] at hk; rw [hbk]; exact hk)) (by
   rw [hupd]
   refine ⟨hver, hp, l'.map (Value.int .i64), .inr ⟨b, cap, cur', by rw [hv, hl'], by omega, k1, by omega, h5, by omega, ?_⟩, fun x hx => ?_, fun i j hi hj => ?_⟩
   ·apply List.ext_getElem?
    intro i
    rw [List.getElem?_map]
    rcases Nat.lt_or_ge i l'.length with hi | hi
    ·rw [List.getElem?_take_of_lt (by omega), Array.getElem?_toList, k3 i hi]
     simp [List.getD_eq_getElem?_getD, hi]
    ·rw [List.getElem?_take_eq_none (by omega), List.getElem?_eq_none hi]; rfl
   ·obtain ⟨y, _, rfl⟩ := List.mem_map.1 hx; rfl
   ·refine ⟨.int .i64 (l'.getD i 0), ?_, rfl⟩
    obtain rfl : j = 0 := by omega
    simp [List.getD_eq_getElem?_getD, hi])
 rw [hupd] at t
 rw [hH] at t
 exact t
theorem mut_sort {f : FuncId} {e : TypeId} {l : List Int} {ver : Nat} {g : Nat -> AV} (hent : Enters X.P f) (hl : l ≠ []) (hsz : l.length <= 1000)
  (h : ∀ (b cap : Nat) (w : World), Go.Sort.Holds (Value.int .i64) w b 0 l.toArray -> b < w.heap.size -> Calls X.P f #[.slice (some ⟨b, 0, none⟩) l.length cap] w fun e w' =>
   e = .returned (.tuple #[]) /\ ∃ n os, w' = Go.Sort.grow (Go.Sort.putRow (Value.int .i64) (Go.Sort.ahead w n) b 0 (sortI l).toArray) os) :
  Mut X f [.own 0 ver] [.list e 1 l.length (fun i _ => .int .i64 (l.getD i 0)) ver] (.tup 0 g) [.list e 1 (sortI l).length (fun i _ => .int .i64 ((sortI l).getD i 0)) ver] := by
 refine ⟨hent, fun c cargs hok hb hL hcs hargs => ?_⟩
 obtain ⟨hver, b, cap, cur, hv, hbk, h4, h5, h6, hp, hh⟩ := own_row hok hL hl
 obtain ⟨v, a1, a2⟩ := hargs 0 _ rfl
 have a3 : v = (c.g 0).v := a2.2.2.2 hver
 have ea : cargs = #[.slice (some ⟨b, 0, none⟩) l.length cap] := by
  apply Array.ext (by simpa using hcs)
  intro j h1 h2
  obtain rfl : j = 0 := by simp at h2; omega
  rw [Array.getElem?_eq_getElem h1] at a1
  cases a1
  simpa [hv] using a3
 subst ea
 refine (h b cap c.w hh (Array.getElem?_eq_some_iff.1 hbk).1).mono fun x w' ⟨hx, n, os, hw⟩ => ?_
 have hlen : (sortI l).length = l.length := by simp [sortI, List.length_mergeSort]
 exact ⟨.tuple #[], _, hx, rfl, row_turned hok hL hl hlen hver hv hbk h4 h5 h6 hp hw, rfl, #[], rfl, rfl, fun j hj => absurd hj (Nat.not_lt_zero _)⟩
end
end Go.Fx
