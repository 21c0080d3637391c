/-
  This seat's types; contracts of the library's functions.
-/
import Derived.Test.YtgegeclgiiengaaGreatDoorFe
import Derived.Test.YtgegeclgiiengaaGreatDoorProg
import Derived.Shelf.Small.Bits
import Derived.Shelf.Small.Strs
import Derived.Shelf.Utf8.RuneCount
import Derived.Shelf.Strconv.Atoi
import Derived.Shelf.Strconv.Itoa0
import Derived.Shelf.Strconv.Itoa1
import Derived.Shelf.LaysM
import Derived.Shelf.Strconv.Itoa2
import Derived.Shelf.Strconv.Itoa3
import Derived.Shelf.Strconv.AtoiErrFast
import Derived.Shelf.Strconv.ParseIntEmpty
import Derived.Shelf.Strconv.AtoiFail
import Derived.Shelf.Strconv.Clone
import Derived.Shelf.Strconv.SyntaxError
import Derived.Shelf.LaysC
import Derived.Shelf.Strconv.ToError
import Derived.Shelf.Strconv.Lower
import Derived.Shelf.Strconv.ParseUint10
import Derived.Shelf.Strconv.ParseUint10Empty
import Derived.Shelf.Strconv.ParseUint10Any
import Derived.Shelf.Strconv.ParseInt10
import Derived.Shelf.Strconv.AtoiLong
import Derived.Shelf.Strconv.AtoiInnerAll
import Derived.Shelf.Strconv.RangeError
import Derived.Shelf.Strconv.ToErrorRange
import Derived.Shelf.Strconv.AtoiAll
import Derived.Shelf.Strconv.ErrVarAll
import Derived.Shelf.Strings.Search1
import Derived.Shelf.Strings.Search2
import Derived.Shelf.Strings.Search3
import Derived.Shelf.Strings.Count
import Derived.Shelf.Strings.Shaped
import Derived.Shelf.Sort.Plain
import Derived.Shelf.Strings.Prefix
import Derived.Shelf.Strings.Split
import Derived.Shelf.Strings.SplitShaped
import Derived.Shelf.Unicode.Decode
import Derived.Shelf.Strings.RuneCount
import Derived.Shelf.Strings.Explode
import Derived.Shelf.Unicode.DecodeSlow
import Derived.Shelf.Unicode.DecodeAny
import Derived.Shelf.Slices.Turned
import Derived.Ground.Names2Prog
import Derived.Shelf.Slices.Clone
import Derived.Shelf.Slices.SearchI
import Derived.Shelf.Slices.In.SortNone
import Derived.Shelf.Slices.Empties
import Derived.Ground.SlgnProg
import Derived.Shelf.SlicesE.Clone
import Derived.Lib.SplitLaws
import Derived.Lib.SmallJoins
import Derived.WalkSmall
import Derived.Lib.AppendIntMem

set_option linter.all false

/-
  The context of this seat: its program and its types.
-/
namespace Go.Fx
open Go.Proofs

noncomputable section
noncomputable def tab : List (Option TI) := [
  none,
  some ⟨.other, 1, 8, [.nilFunc], false⟩,
  some ⟨.int IntKind.i64, 1, 8, [.int .i64 0], false⟩,
  some ⟨.int IntKind.i64, 1, 8, [.int .i64 0], false⟩,
  some ⟨.bool, 1, 1, [.bool false], false⟩,
  some ⟨.int IntKind.u8, 1, 1, [.int .u8 0], false⟩,
  some ⟨.int IntKind.u8, 1, 1, [.int .u8 0], false⟩,
  some ⟨.struct [(0, 2), (1, 3), (2, 4), (3, 6)], 4, 24, [.int .i64 0, .int .i64 0, .bool false, .int .u8 0], true⟩,
  some ⟨.struct [(0, 2), (1, 3), (2, 4), (3, 6)], 4, 24, [.int .i64 0, .int .i64 0, .bool false, .int .u8 0], true⟩,
  some ⟨.string, 1, 16, [.string ⟨#[]⟩], false⟩,
  some ⟨.string, 1, 16, [.string ⟨#[]⟩], false⟩,
  some ⟨.string, 1, 16, [.string ⟨#[]⟩], false⟩,
  some ⟨.int IntKind.u64, 1, 8, [.int .u64 0], false⟩,
  some ⟨.struct [(0, 9), (1, 12)], 2, 24, [.string ⟨#[]⟩, .int .u64 0], false⟩,
  some ⟨.struct [(0, 9), (1, 12)], 2, 24, [.string ⟨#[]⟩, .int .u64 0], false⟩,
  some ⟨.other, 1, 8, [.pointer none], false⟩,
  some ⟨.other, 1, 8, [.pointer none], false⟩,
  some ⟨.other, 1, 8, [.pointer none], false⟩,
  some ⟨.struct [(0, 17)], 1, 8, [.pointer none], false⟩,
  some ⟨.struct [(0, 17)], 1, 8, [.pointer none], false⟩,
  some ⟨.ifc, 1, 16, [.nilIface], false⟩,
  some ⟨.int IntKind.i32, 1, 4, [.int .i32 0], false⟩,
  some ⟨.slice 9, 1, 24, [.slice none 0 0], false⟩,
  some ⟨.slice 3, 1, 24, [.slice none 0 0], false⟩,
  some ⟨.slice 106, 1, 24, [.slice none 0 0], false⟩,
  some ⟨.slice 87, 1, 24, [.slice none 0 0], false⟩,
  some ⟨.slice 158, 1, 24, [.slice none 0 0], false⟩,
  some ⟨.struct [(0, 9), (1, 3), (2, 3), (3, 22), (4, 23), (5, 24), (6, 25), (7, 26)], 8, 152, [.string ⟨#[]⟩, .int .i64 0, .int .i64 0, .slice none 0 0, .slice none 0 0, .slice none 0 0, .slice none 0 0, .slice none 0 0], true⟩,
  some ⟨.struct [(0, 9), (1, 3), (2, 3), (3, 22), (4, 23), (5, 24), (6, 25), (7, 26)], 8, 152, [.string ⟨#[]⟩, .int .i64 0, .int .i64 0, .slice none 0 0, .slice none 0 0, .slice none 0 0, .slice none 0 0, .slice none 0 0], true⟩,
  some ⟨.struct [(0, 3), (1, 3)], 2, 16, [.int .i64 0, .int .i64 0], true⟩,
  some ⟨.struct [(0, 3), (1, 3)], 2, 16, [.int .i64 0, .int .i64 0], true⟩,
  some ⟨.slice 41, 1, 24, [.slice none 0 0], false⟩,
  some ⟨.struct [(0, 3), (1, 30), (3, 31)], 4, 48, [.int .i64 0, .int .i64 0, .int .i64 0, .slice none 0 0], true⟩,
  some ⟨.struct [(0, 3), (1, 30), (3, 31)], 4, 48, [.int .i64 0, .int .i64 0, .int .i64 0, .slice none 0 0], true⟩,
  some ⟨.array 2 3, 2, 16, [.int .i64 0, .int .i64 0], false⟩,
  some ⟨.other, 1, 8, [.nilFunc], false⟩,
  some ⟨.other, 1, 8, [.nilFunc], false⟩,
  some ⟨.other, 1, 8, [.nilFunc], false⟩,
  some ⟨.other, 1, 8, [.nilFunc], false⟩,
  some ⟨.other, 1, 8, [.nilFunc], false⟩,
  some ⟨.struct [(0, 3), (1, 3)], 2, 16, [.int .i64 0, .int .i64 0], true⟩,
  some ⟨.struct [(0, 3), (1, 3)], 2, 16, [.int .i64 0, .int .i64 0], true⟩,
  some ⟨.struct [(0, 3), (1, 3), (2, 3), (3, 3), (4, 3), (5, 3), (6, 23), (7, 3)], 8, 80, [.int .i64 0, .int .i64 0, .int .i64 0, .int .i64 0, .int .i64 0, .int .i64 0, .slice none 0 0, .int .i64 0], true⟩,
  some ⟨.struct [(0, 3), (1, 3), (2, 3), (3, 3), (4, 3), (5, 3), (6, 23), (7, 3)], 8, 80, [.int .i64 0, .int .i64 0, .int .i64 0, .int .i64 0, .int .i64 0, .int .i64 0, .slice none 0 0, .int .i64 0], true⟩,
  some ⟨.int IntKind.i64, 1, 8, [.int .i64 0], false⟩,
  none,
  some ⟨.other, 1, 8, [.nilFunc], false⟩,
  some ⟨.other, 1, 8, [.nilFunc], false⟩,
  some ⟨.other, 1, 8, [.nilFunc], false⟩,
  none,
  some ⟨.other, 1, 8, [.nilFunc], false⟩,
  none,
  some ⟨.other, 1, 8, [.nilFunc], false⟩,
  none,
  some ⟨.other, 1, 8, [.nilFunc], false⟩,
  none,
  some ⟨.other, 1, 8, [.nilFunc], false⟩,
  some ⟨.other, 1, 8, [.nilFunc], false⟩,
  some ⟨.other, 1, 8, [.nilFunc], false⟩,
  some ⟨.struct [(0, 3), (1, 3), (2, 3)], 3, 24, [.int .i64 0, .int .i64 0, .int .i64 0], true⟩,
  some ⟨.struct [(0, 3), (1, 3), (2, 3)], 3, 24, [.int .i64 0, .int .i64 0, .int .i64 0], true⟩,
  none,
  some ⟨.other, 1, 8, [.nilFunc], false⟩,
  some ⟨.other, 1, 8, [.nilFunc], false⟩,
  some ⟨.other, 1, 8, [.nilFunc], false⟩,
  some ⟨.slice 104, 1, 24, [.slice none 0 0], false⟩,
  some ⟨.other, 1, 8, [.nilFunc], false⟩,
  some ⟨.other, 1, 8, [.nilFunc], false⟩,
  some ⟨.other, 1, 8, [.nilFunc], false⟩,
  some ⟨.other, 1, 8, [.nilFunc], false⟩,
  some ⟨.struct [(0, 3), (1, 3)], 2, 16, [.int .i64 0, .int .i64 0], true⟩,
  some ⟨.struct [(0, 3), (1, 3)], 2, 16, [.int .i64 0, .int .i64 0], true⟩,
  none,
  some ⟨.other, 1, 8, [.nilFunc], false⟩,
  some ⟨.other, 1, 8, [.nilFunc], false⟩,
  none,
  some ⟨.other, 1, 8, [.nilFunc], false⟩,
  some ⟨.other, 1, 8, [.nilFunc], false⟩,
  some ⟨.other, 1, 8, [.nilFunc], false⟩,
  some ⟨.slice 85, 1, 24, [.slice none 0 0], false⟩,
  none,
  some ⟨.other, 1, 8, [.nilFunc], false⟩,
  none,
  some ⟨.other, 1, 8, [.nilFunc], false⟩,
  some ⟨.struct [(0, 3), (1, 3), (2, 30), (4, 3), (5, 3), (6, 23), (7, 3)], 8, 80, [.int .i64 0, .int .i64 0, .int .i64 0, .int .i64 0, .int .i64 0, .int .i64 0, .slice none 0 0, .int .i64 0], true⟩,
  some ⟨.struct [(0, 3), (1, 3), (2, 30), (4, 3), (5, 3), (6, 23), (7, 3)], 8, 80, [.int .i64 0, .int .i64 0, .int .i64 0, .int .i64 0, .int .i64 0, .int .i64 0, .slice none 0 0, .int .i64 0], true⟩,
  some ⟨.struct [(0, 9), (1, 3)], 2, 24, [.string ⟨#[]⟩, .int .i64 0], true⟩,
  some ⟨.struct [(0, 9), (1, 3)], 2, 24, [.string ⟨#[]⟩, .int .i64 0], true⟩,
  some ⟨.other, 1, 8, [.nilFunc], false⟩,
  some ⟨.struct [(0, 71), (2, 3), (3, 3)], 4, 32, [.int .i64 0, .int .i64 0, .int .i64 0, .int .i64 0], true⟩,
  some ⟨.struct [(0, 71), (2, 3), (3, 3)], 4, 32, [.int .i64 0, .int .i64 0, .int .i64 0, .int .i64 0], true⟩,
  some ⟨.other, 1, 8, [.nilFunc], false⟩,
  some ⟨.other, 1, 8, [.nilFunc], false⟩,
  some ⟨.other, 1, 8, [.nilFunc], false⟩,
  some ⟨.other, 1, 8, [.nilFunc], false⟩,
  some ⟨.other, 1, 8, [.nilFunc], false⟩,
  some ⟨.other, 1, 8, [.nilFunc], false⟩,
  some ⟨.other, 1, 8, [.nilFunc], false⟩,
  some ⟨.other, 1, 8, [.nilFunc], false⟩,
  some ⟨.other, 1, 8, [.nilFunc], false⟩,
  some ⟨.other, 1, 8, [.nilFunc], false⟩,
  some ⟨.other, 1, 8, [.nilFunc], false⟩,
  some ⟨.other, 1, 8, [.nilFunc], false⟩,
  some ⟨.struct [(0, 3), (1, 3), (2, 3)], 3, 24, [.int .i64 0, .int .i64 0, .int .i64 0], true⟩,
  some ⟨.struct [(0, 3), (1, 3), (2, 3)], 3, 24, [.int .i64 0, .int .i64 0, .int .i64 0], true⟩,
  some ⟨.struct [(0, 9), (1, 3), (2, 3), (3, 23), (4, 23), (5, 3), (6, 3), (7, 3), (8, 3), (9, 3)], 10, 120, [.string ⟨#[]⟩, .int .i64 0, .int .i64 0, .slice none 0 0, .slice none 0 0, .int .i64 0, .int .i64 0, .int .i64 0, .int .i64 0, .int .i64 0], true⟩,
  some ⟨.struct [(0, 9), (1, 3), (2, 3), (3, 23), (4, 23), (5, 3), (6, 3), (7, 3), (8, 3), (9, 3)], 10, 120, [.string ⟨#[]⟩, .int .i64 0, .int .i64 0, .slice none 0 0, .slice none 0 0, .int .i64 0, .int .i64 0, .int .i64 0, .int .i64 0, .int .i64 0], true⟩,
  some ⟨.other, 1, 8, [.pointer none], false⟩,
  none,
  some ⟨.other, 1, 8, [.nilFunc], false⟩,
  some ⟨.other, 1, 8, [.nilFunc], false⟩,
  some ⟨.other, 1, 8, [.nilFunc], false⟩,
  some ⟨.other, 1, 8, [.nilFunc], false⟩,
  some ⟨.other, 1, 8, [.nilFunc], false⟩,
  some ⟨.other, 1, 8, [.nilFunc], false⟩,
  some ⟨.other, 1, 8, [.nilFunc], false⟩,
  some ⟨.other, 1, 8, [.nilFunc], false⟩,
  some ⟨.other, 1, 8, [.nilFunc], false⟩,
  some ⟨.other, 1, 8, [.nilFunc], false⟩,
  some ⟨.other, 1, 8, [.nilFunc], false⟩,
  some ⟨.other, 1, 8, [.nilFunc], false⟩,
  some ⟨.other, 1, 8, [.nilFunc], false⟩,
  some ⟨.other, 1, 8, [.nilFunc], false⟩,
  some ⟨.other, 1, 8, [.nilFunc], false⟩,
  some ⟨.other, 1, 8, [.nilFunc], false⟩,
  some ⟨.other, 1, 8, [.nilFunc], false⟩,
  some ⟨.slice 168, 1, 24, [.slice none 0 0], false⟩,
  none,
  some ⟨.other, 1, 8, [.nilFunc], false⟩,
  none,
  some ⟨.other, 1, 8, [.nilFunc], false⟩,
  some ⟨.struct [(0, 3), (1, 3)], 2, 16, [.int .i64 0, .int .i64 0], true⟩,
  some ⟨.struct [(0, 3), (1, 3)], 2, 16, [.int .i64 0, .int .i64 0], true⟩,
  none,
  some ⟨.other, 1, 8, [.nilFunc], false⟩,
  some ⟨.other, 1, 8, [.nilFunc], false⟩,
  some ⟨.other, 1, 8, [.nilFunc], false⟩,
  some ⟨.other, 1, 8, [.nilFunc], false⟩,
  some ⟨.other, 1, 8, [.nilFunc], false⟩,
  some ⟨.other, 1, 8, [.nilFunc], false⟩,
  some ⟨.slice 147, 1, 24, [.slice none 0 0], false⟩,
  some ⟨.struct [(0, 28), (8, 33), (12, 23), (13, 3), (14, 3), (15, 3), (16, 3), (17, 3), (18, 3), (19, 3), (20, 23), (21, 3), (22, 3), (23, 30), (25, 79), (26, 23), (27, 140)], 28, 408, [.string ⟨#[]⟩, .int .i64 0, .int .i64 0, .slice none 0 0, .slice none 0 0, .slice none 0 0, .slice none 0 0, .slice none 0 0, .int .i64 0, .int .i64 0, .int .i64 0, .slice none 0 0, .slice none 0 0, .int .i64 0, .int .i64 0, .int .i64 0, .int .i64 0, .int .i64 0, .int .i64 0, .int .i64 0, .slice none 0 0, .int .i64 0, .int .i64 0, .int .i64 0, .int .i64 0, .slice none 0 0, .slice none 0 0, .slice none 0 0], true⟩,
  some ⟨.struct [(0, 28), (8, 33), (12, 23), (13, 3), (14, 3), (15, 3), (16, 3), (17, 3), (18, 3), (19, 3), (20, 23), (21, 3), (22, 3), (23, 30), (25, 79), (26, 23), (27, 140)], 28, 408, [.string ⟨#[]⟩, .int .i64 0, .int .i64 0, .slice none 0 0, .slice none 0 0, .slice none 0 0, .slice none 0 0, .slice none 0 0, .int .i64 0, .int .i64 0, .int .i64 0, .slice none 0 0, .slice none 0 0, .int .i64 0, .int .i64 0, .int .i64 0, .int .i64 0, .int .i64 0, .int .i64 0, .int .i64 0, .slice none 0 0, .int .i64 0, .int .i64 0, .int .i64 0, .int .i64 0, .slice none 0 0, .slice none 0 0, .slice none 0 0], true⟩,
  some ⟨.other, 1, 8, [.nilFunc], false⟩,
  some ⟨.other, 1, 8, [.nilFunc], false⟩,
  some ⟨.other, 1, 8, [.nilFunc], false⟩,
  some ⟨.struct [(0, 3), (1, 3), (2, 3), (3, 3), (4, 3), (5, 3), (6, 4)], 7, 56, [.int .i64 0, .int .i64 0, .int .i64 0, .int .i64 0, .int .i64 0, .int .i64 0, .bool false], true⟩,
  some ⟨.struct [(0, 3), (1, 3), (2, 3), (3, 3), (4, 3), (5, 3), (6, 4)], 7, 56, [.int .i64 0, .int .i64 0, .int .i64 0, .int .i64 0, .int .i64 0, .int .i64 0, .bool false], true⟩,
  some ⟨.other, 1, 8, [.nilFunc], false⟩,
  some ⟨.other, 1, 8, [.pointer none], false⟩,
  some ⟨.other, 1, 8, [.nilFunc], false⟩,
  some ⟨.other, 1, 8, [.pointer none], false⟩,
  some ⟨.array 3 151, 3, 24, [.pointer none, .pointer none, .pointer none], false⟩,
  some ⟨.other, 1, 8, [.nilFunc], false⟩,
  none,
  some ⟨.other, 1, 8, [.nilFunc], false⟩,
  some ⟨.other, 1, 8, [.nilFunc], false⟩,
  some ⟨.struct [(0, 3), (1, 3), (2, 3)], 3, 24, [.int .i64 0, .int .i64 0, .int .i64 0], true⟩,
  some ⟨.struct [(0, 3), (1, 3), (2, 3)], 3, 24, [.int .i64 0, .int .i64 0, .int .i64 0], true⟩,
  some ⟨.other, 1, 8, [.nilFunc], false⟩,
  some ⟨.slice 44, 1, 24, [.slice none 0 0], false⟩,
  some ⟨.other, 1, 8, [.nilFunc], false⟩,
  some ⟨.other, 1, 8, [.nilFunc], false⟩,
  some ⟨.other, 1, 8, [.nilFunc], false⟩,
  some ⟨.array 7 34, 14, 112, [.int .i64 0, .int .i64 0, .int .i64 0, .int .i64 0, .int .i64 0, .int .i64 0, .int .i64 0, .int .i64 0, .int .i64 0, .int .i64 0, .int .i64 0, .int .i64 0, .int .i64 0, .int .i64 0], false⟩,
  some ⟨.other, 1, 8, [.nilFunc], false⟩,
  some ⟨.slice 240, 1, 24, [.slice none 0 0], false⟩,
  some ⟨.struct [(0, 43), (8, 3), (9, 3), (10, 3), (11, 3), (12, 3), (13, 30), (15, 166)], 16, 160, [.int .i64 0, .int .i64 0, .int .i64 0, .int .i64 0, .int .i64 0, .int .i64 0, .slice none 0 0, .int .i64 0, .int .i64 0, .int .i64 0, .int .i64 0, .int .i64 0, .int .i64 0, .int .i64 0, .int .i64 0, .slice none 0 0], true⟩,
  some ⟨.struct [(0, 43), (8, 3), (9, 3), (10, 3), (11, 3), (12, 3), (13, 30), (15, 166)], 16, 160, [.int .i64 0, .int .i64 0, .int .i64 0, .int .i64 0, .int .i64 0, .int .i64 0, .slice none 0 0, .int .i64 0, .int .i64 0, .int .i64 0, .int .i64 0, .int .i64 0, .int .i64 0, .int .i64 0, .int .i64 0, .slice none 0 0], true⟩,
  none,
  some ⟨.other, 1, 8, [.nilFunc], false⟩,
  some ⟨.other, 1, 8, [.nilFunc], false⟩,
  some ⟨.struct [(0, 3), (1, 3), (2, 3), (3, 113)], 4, 32, [.int .i64 0, .int .i64 0, .int .i64 0, .nilFunc], true⟩,
  some ⟨.struct [(0, 3), (1, 3), (2, 3), (3, 113)], 4, 32, [.int .i64 0, .int .i64 0, .int .i64 0, .nilFunc], true⟩,
  some ⟨.other, 1, 8, [.nilFunc], false⟩,
  some ⟨.other, 1, 8, [.nilFunc], false⟩,
  some ⟨.other, 1, 8, [.nilFunc], false⟩,
  some ⟨.other, 1, 8, [.nilFunc], false⟩,
  some ⟨.other, 1, 8, [.nilFunc], false⟩,
  some ⟨.other, 1, 8, [.nilFunc], false⟩,
  some ⟨.other, 1, 8, [.nilFunc], false⟩,
  some ⟨.other, 1, 8, [.nilFunc], false⟩,
  some ⟨.other, 1, 8, [.nilFunc], false⟩,
  some ⟨.array 5 173, 20, 160, [.int .i64 0, .int .i64 0, .int .i64 0, .nilFunc, .int .i64 0, .int .i64 0, .int .i64 0, .nilFunc, .int .i64 0, .int .i64 0, .int .i64 0, .nilFunc, .int .i64 0, .int .i64 0, .int .i64 0, .nilFunc, .int .i64 0, .int .i64 0, .int .i64 0, .nilFunc], false⟩,
  none,
  some ⟨.other, 1, 8, [.nilFunc], false⟩,
  some ⟨.other, 1, 8, [.nilFunc], false⟩,
  some ⟨.other, 1, 8, [.nilFunc], false⟩,
  some ⟨.ifc, 1, 16, [.nilIface], false⟩,
  some ⟨.ifc, 1, 16, [.nilIface], false⟩,
  none,
  some ⟨.other, 1, 8, [.nilFunc], false⟩,
  some ⟨.other, 1, 8, [.nilFunc], false⟩,
  some ⟨.other, 1, 8, [.nilFunc], false⟩,
  some ⟨.other, 1, 8, [.nilFunc], false⟩,
  some ⟨.array 3 3, 3, 24, [.int .i64 0, .int .i64 0, .int .i64 0], false⟩,
  some ⟨.other, 1, 8, [.nilFunc], false⟩,
  some ⟨.other, 1, 8, [.nilFunc], false⟩,
  some ⟨.other, 1, 8, [.nilFunc], false⟩,
  some ⟨.int IntKind.u64, 1, 8, [.int .u64 0], false⟩,
  some ⟨.other, 1, 8, [.nilFunc], false⟩,
  some ⟨.other, 1, 8, [.nilFunc], false⟩,
  some ⟨.other, 1, 8, [.nilFunc], false⟩,
  some ⟨.array 4 23, 4, 96, [.slice none 0 0, .slice none 0 0, .slice none 0 0, .slice none 0 0], false⟩,
  none,
  some ⟨.other, 1, 8, [.nilFunc], false⟩,
  some ⟨.other, 1, 8, [.nilFunc], false⟩,
  some ⟨.other, 1, 8, [.nilFunc], false⟩,
  some ⟨.other, 1, 8, [.nilFunc], false⟩,
  some ⟨.other, 1, 8, [.nilFunc], false⟩,
  some ⟨.other, 1, 8, [.nilFunc], false⟩,
  none,
  some ⟨.other, 1, 8, [.nilFunc], false⟩,
  some ⟨.other, 1, 8, [.nilFunc], false⟩,
  some ⟨.other, 1, 8, [.nilFunc], false⟩,
  some ⟨.other, 1, 8, [.nilFunc], false⟩,
  some ⟨.other, 1, 8, [.nilFunc], false⟩,
  some ⟨.other, 1, 8, [.nilFunc], false⟩,
  some ⟨.other, 1, 8, [.nilFunc], false⟩,
  some ⟨.other, 1, 8, [.nilFunc], false⟩,
  some ⟨.other, 1, 8, [.nilFunc], false⟩,
  some ⟨.other, 1, 8, [.nilFunc], false⟩,
  some ⟨.other, 1, 8, [.nilFunc], false⟩,
  some ⟨.other, 1, 8, [.nilFunc], false⟩,
  some ⟨.other, 1, 8, [.nilFunc], false⟩,
  some ⟨.int IntKind.i64, 1, 8, [.int .i64 0], false⟩,
  none,
  some ⟨.other, 1, 8, [.nilFunc], false⟩,
  some ⟨.other, 1, 8, [.nilFunc], false⟩,
  some ⟨.other, 1, 8, [.nilFunc], false⟩,
  some ⟨.other, 1, 8, [.nilFunc], false⟩,
  some ⟨.other, 1, 8, [.nilFunc], false⟩,
  some ⟨.int IntKind.u32, 1, 4, [.int .u32 0], false⟩,
  some ⟨.other, 1, 8, [.nilFunc], false⟩,
  some ⟨.int IntKind.u64, 1, 8, [.int .u64 0], false⟩,
  some ⟨.other, 1, 8, [.nilFunc], false⟩,
  some ⟨.struct [(0, 3), (1, 30)], 3, 24, [.int .i64 0, .int .i64 0, .int .i64 0], true⟩,
  some ⟨.struct [(0, 3), (1, 30)], 3, 24, [.int .i64 0, .int .i64 0, .int .i64 0], true⟩,
  some ⟨.other, 1, 8, [.nilFunc], false⟩,
  some ⟨.struct [(0, 3), (1, 3), (2, 3), (3, 3), (4, 3), (5, 4), (6, 4)], 7, 48, [.int .i64 0, .int .i64 0, .int .i64 0, .int .i64 0, .int .i64 0, .bool false, .bool false], true⟩,
  some ⟨.struct [(0, 3), (1, 3), (2, 3), (3, 3), (4, 3), (5, 4), (6, 4)], 7, 48, [.int .i64 0, .int .i64 0, .int .i64 0, .int .i64 0, .int .i64 0, .bool false, .bool false], true⟩,
  some ⟨.other, 1, 8, [.nilFunc], false⟩,
  some ⟨.slice 5, 1, 24, [.slice none 0 0], false⟩,
  some ⟨.other, 1, 8, [.nilFunc], false⟩,
  some ⟨.other, 1, 8, [.nilFunc], false⟩,
  none,
  some ⟨.other, 1, 8, [.nilFunc], false⟩,
  some ⟨.int IntKind.i64, 1, 8, [.int .i64 0], false⟩,
  none,
  some ⟨.other, 1, 8, [.nilFunc], false⟩,
  some ⟨.other, 1, 8, [.pointer none], false⟩,
  some ⟨.other, 1, 8, [.nilFunc], false⟩,
  some ⟨.other, 1, 8, [.nilFunc], false⟩,
  some ⟨.other, 1, 8, [.nilFunc], false⟩,
  some ⟨.other, 1, 8, [.nilFunc], false⟩,
  some ⟨.int IntKind.u64, 1, 8, [.int .u64 0], false⟩,
  some ⟨.other, 1, 8, [.nilFunc], false⟩,
  some ⟨.other, 1, 8, [.nilFunc], false⟩,
  some ⟨.other, 1, 8, [.nilFunc], false⟩,
  some ⟨.other, 1, 8, [.nilFunc], false⟩,
  some ⟨.struct [(0, 28)], 8, 152, [.string ⟨#[]⟩, .int .i64 0, .int .i64 0, .slice none 0 0, .slice none 0 0, .slice none 0 0, .slice none 0 0, .slice none 0 0], true⟩,
  some ⟨.struct [(0, 28)], 8, 152, [.string ⟨#[]⟩, .int .i64 0, .int .i64 0, .slice none 0 0, .slice none 0 0, .slice none 0 0, .slice none 0 0, .slice none 0 0], true⟩,
  none,
  some ⟨.other, 1, 8, [.nilFunc], false⟩,
  some ⟨.other, 1, 8, [.nilFunc], false⟩,
  some ⟨.struct [(0, 3), (1, 44)], 2, 16, [.int .i64 0, .int .i64 0], true⟩,
  some ⟨.struct [(0, 3), (1, 44)], 2, 16, [.int .i64 0, .int .i64 0], true⟩,
  none,
  some ⟨.other, 1, 8, [.nilFunc], false⟩,
  some ⟨.other, 1, 8, [.nilFunc], false⟩]

theorem tab_ok : tabOK Tryz.prog tab := by
  unfold tabOK
  kernel_rfl

/-- The program, its types, the first world W0, and what the package-level variables G say there. -/
@[reducible] noncomputable def Xc (W0 : World) (G : Nat → Option AV) : Ctx := ⟨Tryz.prog, fun t => tab.getD t none, W0, G⟩

noncomputable def codeOf (fn : Func) : Code := fn.body.getD .skip

theorem Xc.good {W0 : World} {G : Nat → Option AV} (hG : ∀ g av, G g = some av → Reads (fun _ => default) (fun b _ => b < W0.heap.size) W0 av 0 (.pointer (some ⟨g, 0, none⟩))) : (Xc W0 G).Good :=
  ⟨fun t i h => tab_ok.at h, hG, by kernel_rfl⟩

end
end Go.Fx

/-
  The bodies of the library's functions are those of the shelf, number for number (written by the kit's lay-plain.mjs).
-/
namespace Go.Proofs
open Go.Shelf
def Tryz.lays146_ren : Go.Shelf.Ren := ⟨fun | 146 => 80 | 221 => 115 | 268 => 151 | 138 => 152 | 143 => 153 | 195 => 174 | 197 => 175 | 218 => 176 | 219 => 177 | 260 => 195 | 217 => 119 | 225 => 196 | 224 => 197 | 267 => 198 | 266 => 158 | 314 => 210 | n => n, fun | 9 => 9 | 31 => 22 | 3 => 3 | 4 => 4 | 0 => 0 | 105 => 245 | 21 => 21 | 5 => 5 | 46 => 199 | 119 => 286 | 139 => 289 | 138 => 288 | 146 => 290 | 51 => 232 | n => n, fun | 1 => 2 | 3 => 5 | 4 => 6 | n => n⟩
theorem Tryz.lays146 : Go.Proofs.Lays.n146 Tryz.prog Tryz.lays146_ren := {
  mixed := by kernel_rfl
  f138 := Tryz.func152.trans (congrArg some (by kernel_rfl))
  f143 := Tryz.func153.trans (congrArg some (by kernel_rfl))
  f146 := Tryz.func80.trans (congrArg some (by kernel_rfl))
  f195 := Tryz.func174.trans (congrArg some (by kernel_rfl))
  f197 := Tryz.func175.trans (congrArg some (by kernel_rfl))
  f217 := Tryz.func119.trans (congrArg some (by kernel_rfl))
  f218 := Tryz.func176.trans (congrArg some (by kernel_rfl))
  f219 := Tryz.func177.trans (congrArg some (by kernel_rfl))
  f221 := Tryz.func115.trans (congrArg some (by kernel_rfl))
  f224 := Tryz.func197.trans (congrArg some (by kernel_rfl))
  f225 := Tryz.func196.trans (congrArg some (by kernel_rfl))
  f260 := Tryz.func195.trans (congrArg some (by kernel_rfl))
  f266 := Tryz.func158.trans (congrArg some (by kernel_rfl))
  f267 := Tryz.func198.trans (congrArg some (by kernel_rfl))
  f268 := Tryz.func151.trans (congrArg some (by kernel_rfl))
  f314 := Tryz.func210.trans (congrArg some (by kernel_rfl))
  t0 := Tryz.underlying0
  a0 := Tryz.isAgg0
  z0 := Tryz.sizeOf0
  v0 := Tryz.zeroValue0
  t3 := Tryz.underlying3
  a3 := Tryz.isAgg3
  z3 := Tryz.sizeOf3
  v3 := Tryz.zeroValue3
  t4 := Tryz.underlying4
  a4 := Tryz.isAgg4
  z4 := Tryz.sizeOf4
  v4 := Tryz.zeroValue4
  t5 := Tryz.underlying5
  a5 := Tryz.isAgg5
  z5 := Tryz.sizeOf5
  v5 := Tryz.zeroValue5
  t9 := Tryz.underlying9
  a9 := Tryz.isAgg9
  z9 := Tryz.sizeOf9
  v9 := Tryz.zeroValue9
  t21 := Tryz.underlying21
  a21 := Tryz.isAgg21
  z21 := Tryz.sizeOf21
  v21 := Tryz.zeroValue21
  t31 := Tryz.underlying22
  a31 := Tryz.isAgg22
  z31 := Tryz.sizeOf22
  v31 := Tryz.zeroValue22
  t46 := Tryz.underlying199
  a46 := Tryz.isAgg199
  z46 := Tryz.sizeOf199
  v46 := Tryz.zeroValue199
  t51 := Tryz.underlying232
  a51 := Tryz.isAgg232
  z51 := Tryz.sizeOf232
  v51 := Tryz.zeroValue232
  t105 := Tryz.underlying245
  a105 := Tryz.isAgg245
  z105 := Tryz.sizeOf245
  v105 := Tryz.zeroValue245
  t119 := Tryz.underlying286
  a119 := Tryz.isAgg286
  z119 := Tryz.sizeOf286
  t138 := Tryz.underlying288
  a138 := Tryz.isAgg288
  z138 := Tryz.sizeOf288
  v138 := Tryz.zeroValue288
  t139 := Tryz.underlying289
  a139 := Tryz.isAgg289
  z139 := Tryz.sizeOf289
  v139 := Tryz.zeroValue289
  t146 := Tryz.underlying290
  a146 := Tryz.isAgg290
  z146 := Tryz.sizeOf290
  v146 := Tryz.zeroValue290
  g1 := by kernel_rfl
  g3 := by kernel_rfl
  g4 := by kernel_rfl }
def Tryz.laysM146_ren : Go.Shelf.Ren := ⟨fun | 146 => 80 | 221 => 115 | 268 => 151 | 138 => 152 | 143 => 153 | 195 => 174 | 197 => 175 | 218 => 176 | 219 => 177 | 260 => 195 | 217 => 119 | 225 => 196 | 224 => 197 | 267 => 198 | 266 => 158 | 314 => 210 | n => n, fun | 9 => 9 | 31 => 22 | 3 => 3 | 4 => 4 | 0 => 0 | 105 => 245 | 21 => 21 | 5 => 5 | 46 => 199 | 119 => 286 | 139 => 289 | 138 => 288 | 146 => 290 | 51 => 232 | n => n, fun | 1 => 2 | 3 => 5 | 4 => 6 | n => n⟩
theorem Tryz.laysM146 : Go.Proofs.LaysM.n146 Tryz.prog Tryz.laysM146_ren := {
  mixed := by kernel_rfl
  f138 := Tryz.func152.trans (congrArg some (by kernel_rfl))
  f143 := Tryz.func153.trans (congrArg some (by kernel_rfl))
  f146 := Tryz.func80.trans (congrArg some (by kernel_rfl))
  f195 := Tryz.func174.trans (congrArg some (by kernel_rfl))
  f197 := Tryz.func175.trans (congrArg some (by kernel_rfl))
  f217 := Tryz.func119.trans (congrArg some (by kernel_rfl))
  f218 := Tryz.func176.trans (congrArg some (by kernel_rfl))
  f219 := Tryz.func177.trans (congrArg some (by kernel_rfl))
  f221 := Tryz.func115.trans (congrArg some (by kernel_rfl))
  f224 := Tryz.func197.trans (congrArg some (by kernel_rfl))
  f225 := Tryz.func196.trans (congrArg some (by kernel_rfl))
  f260 := Tryz.func195.trans (congrArg some (by kernel_rfl))
  f266 := Tryz.func158.trans (congrArg some (by kernel_rfl))
  f267 := Tryz.func198.trans (congrArg some (by kernel_rfl))
  f268 := Tryz.func151.trans (congrArg some (by kernel_rfl))
  f314 := Tryz.func210.trans (congrArg some (by kernel_rfl))
  t0 := Tryz.underlying0
  a0 := Tryz.isAgg0
  z0 := Tryz.sizeOf0
  v0 := Tryz.zeroValue0
  t3 := Tryz.underlying3
  a3 := Tryz.isAgg3
  z3 := Tryz.sizeOf3
  v3 := Tryz.zeroValue3
  t4 := Tryz.underlying4
  a4 := Tryz.isAgg4
  z4 := Tryz.sizeOf4
  v4 := Tryz.zeroValue4
  t5 := Tryz.underlying5
  a5 := Tryz.isAgg5
  z5 := Tryz.sizeOf5
  v5 := Tryz.zeroValue5
  t9 := Tryz.underlying9
  a9 := Tryz.isAgg9
  z9 := Tryz.sizeOf9
  v9 := Tryz.zeroValue9
  t21 := Tryz.underlying21
  a21 := Tryz.isAgg21
  z21 := Tryz.sizeOf21
  v21 := Tryz.zeroValue21
  t31 := Tryz.underlying22
  a31 := Tryz.isAgg22
  z31 := Tryz.sizeOf22
  v31 := Tryz.zeroValue22
  t46 := Tryz.underlying199
  a46 := Tryz.isAgg199
  z46 := Tryz.sizeOf199
  v46 := Tryz.zeroValue199
  t51 := Tryz.underlying232
  a51 := Tryz.isAgg232
  z51 := Tryz.sizeOf232
  v51 := Tryz.zeroValue232
  t105 := Tryz.underlying245
  a105 := Tryz.isAgg245
  z105 := Tryz.sizeOf245
  v105 := Tryz.zeroValue245
  t119 := Tryz.underlying286
  a119 := Tryz.isAgg286
  z119 := Tryz.sizeOf286
  t138 := Tryz.underlying288
  a138 := Tryz.isAgg288
  z138 := Tryz.sizeOf288
  v138 := Tryz.zeroValue288
  t139 := Tryz.underlying289
  a139 := Tryz.isAgg289
  z139 := Tryz.sizeOf289
  v139 := Tryz.zeroValue289
  t146 := Tryz.underlying290
  a146 := Tryz.isAgg290
  z146 := Tryz.sizeOf290
  v146 := Tryz.zeroValue290
  g1 := by kernel_rfl
  g3 := by kernel_rfl
  g4 := by kernel_rfl
  i0 := by kernel_rfl
  i3 := by kernel_rfl
  i4 := by kernel_rfl
  i5 := by kernel_rfl
  i9 := by kernel_rfl
  i21 := by kernel_rfl
  i31 := by kernel_rfl
  i46 := by kernel_rfl
  i51 := by kernel_rfl
  i105 := by kernel_rfl
  i138 := by kernel_rfl
  i139 := by kernel_rfl
  i146 := by kernel_rfl
  m1 := by kernel_rfl
  s1_3 := fun w h => Go.Proofs.cell_of_shapedOpen_int (zero := #[.int .i64 0]) (t := 3) h (of_decide_eq_true (by kernel_rfl)) (by kernel_rfl) rfl (by kernel_rfl) (by kernel_rfl) Tryz.underlying3
  m3 := by kernel_rfl
  m4 := by kernel_rfl }
def Tryz.laysM171_ren : Go.Shelf.Ren := ⟨fun | 171 => 117 | 243 => 156 | 246 => 183 | 283 => 202 | 284 => 203 | 285 => 204 | 286 => 205 | 129 => 169 | 317 => 213 | 318 => 214 | 319 => 215 | 320 => 216 | 337 => 221 | 338 => 222 | n => n, fun | 3 => 3 | 9 => 9 | 2 => 2 | 4 => 4 | 171 => 276 | 0 => 0 | 53 => 234 | 37 => 242 | 5 => 5 | 173 => 278 | 212 => 298 | 51 => 232 | 20 => 20 | 213 => 299 | 46 => 199 | 232 => 302 | 233 => 303 | n => n, fun | 17 => 7 | 18 => 8 | 19 => 9 | n => n⟩
theorem Tryz.laysM171 : Go.Proofs.LaysM.n171 Tryz.prog Tryz.laysM171_ren := {
  mixed := by kernel_rfl
  f129 := Tryz.func169.trans (congrArg some (by kernel_rfl))
  f171 := Tryz.func117.trans (congrArg some (by kernel_rfl))
  f243 := Tryz.func156.trans (congrArg some (by kernel_rfl))
  f246 := Tryz.func183.trans (congrArg some (by kernel_rfl))
  f283 := Tryz.func202.trans (congrArg some (by kernel_rfl))
  f284 := Tryz.func203.trans (congrArg some (by kernel_rfl))
  f285 := Tryz.func204.trans (congrArg some (by kernel_rfl))
  f286 := Tryz.func205.trans (congrArg some (by kernel_rfl))
  f317 := Tryz.func213.trans (congrArg some (by kernel_rfl))
  f318 := Tryz.func214.trans (congrArg some (by kernel_rfl))
  f319 := Tryz.func215.trans (congrArg some (by kernel_rfl))
  f320 := Tryz.func216.trans (congrArg some (by kernel_rfl))
  f337 := Tryz.func221.trans (congrArg some (by kernel_rfl))
  f338 := Tryz.func222.trans (congrArg some (by kernel_rfl))
  t0 := Tryz.underlying0
  a0 := Tryz.isAgg0
  z0 := Tryz.sizeOf0
  v0 := Tryz.zeroValue0
  t2 := Tryz.underlying2
  a2 := Tryz.isAgg2
  z2 := Tryz.sizeOf2
  v2 := Tryz.zeroValue2
  t3 := Tryz.underlying3
  a3 := Tryz.isAgg3
  z3 := Tryz.sizeOf3
  v3 := Tryz.zeroValue3
  t4 := Tryz.underlying4
  a4 := Tryz.isAgg4
  z4 := Tryz.sizeOf4
  v4 := Tryz.zeroValue4
  t5 := Tryz.underlying5
  a5 := Tryz.isAgg5
  z5 := Tryz.sizeOf5
  v5 := Tryz.zeroValue5
  t9 := Tryz.underlying9
  a9 := Tryz.isAgg9
  z9 := Tryz.sizeOf9
  v9 := Tryz.zeroValue9
  t20 := Tryz.underlying20
  a20 := Tryz.isAgg20
  z20 := Tryz.sizeOf20
  v20 := Tryz.zeroValue20
  t37 := Tryz.underlying242
  a37 := Tryz.isAgg242
  z37 := Tryz.sizeOf242
  v37 := Tryz.zeroValue242
  t46 := Tryz.underlying199
  a46 := Tryz.isAgg199
  z46 := Tryz.sizeOf199
  v46 := Tryz.zeroValue199
  t51 := Tryz.underlying232
  a51 := Tryz.isAgg232
  z51 := Tryz.sizeOf232
  v51 := Tryz.zeroValue232
  t53 := Tryz.underlying234
  a53 := Tryz.isAgg234
  z53 := Tryz.sizeOf234
  v53 := Tryz.zeroValue234
  t171 := Tryz.underlying276
  a171 := Tryz.isAgg276
  z171 := Tryz.sizeOf276
  v171 := Tryz.zeroValue276
  t173 := Tryz.underlying278
  a173 := Tryz.isAgg278
  z173 := Tryz.sizeOf278
  v173 := Tryz.zeroValue278
  t212 := Tryz.underlying298
  a212 := Tryz.isAgg298
  z212 := Tryz.sizeOf298
  v212 := Tryz.zeroValue298
  t213 := Tryz.underlying299
  a213 := Tryz.isAgg299
  z213 := Tryz.sizeOf299
  t232 := Tryz.underlying302
  a232 := Tryz.isAgg302
  z232 := Tryz.sizeOf302
  v232 := Tryz.zeroValue302
  t233 := Tryz.underlying303
  a233 := Tryz.isAgg303
  z233 := Tryz.sizeOf303
  v233 := Tryz.zeroValue303
  g17 := by kernel_rfl
  g18 := by kernel_rfl
  g19 := by kernel_rfl
  i0 := by kernel_rfl
  i2 := by kernel_rfl
  i3 := by kernel_rfl
  i4 := by kernel_rfl
  i5 := by kernel_rfl
  i9 := by kernel_rfl
  i20 := by kernel_rfl
  i37 := by kernel_rfl
  i46 := by kernel_rfl
  i51 := by kernel_rfl
  i53 := by kernel_rfl
  i171 := by kernel_rfl
  i173 := by kernel_rfl
  i212 := by kernel_rfl
  i232 := by kernel_rfl
  i233 := by kernel_rfl
  m17 := by kernel_rfl
  m18 := by kernel_rfl
  m19 := by kernel_rfl }
def Tryz.lays137_ren : Go.Shelf.Ren := ⟨fun | 137 => 82 | 217 => 119 | 266 => 158 | n => n, fun | 9 => 9 | 5 => 5 | 3 => 3 | n => n, fun | n => n⟩
theorem Tryz.lays137 : Go.Proofs.Lays.n137 Tryz.prog Tryz.lays137_ren := {
  mixed := by kernel_rfl
  f137 := Tryz.func82.trans (congrArg some (by kernel_rfl))
  f217 := Tryz.func119.trans (congrArg some (by kernel_rfl))
  f266 := Tryz.func158.trans (congrArg some (by kernel_rfl))
  t3 := Tryz.underlying3
  a3 := Tryz.isAgg3
  z3 := Tryz.sizeOf3
  v3 := Tryz.zeroValue3
  t5 := Tryz.underlying5
  a5 := Tryz.isAgg5
  z5 := Tryz.sizeOf5
  v5 := Tryz.zeroValue5
  t9 := Tryz.underlying9
  a9 := Tryz.isAgg9
  z9 := Tryz.sizeOf9
  v9 := Tryz.zeroValue9 }
def Tryz.lays125_ren : Go.Shelf.Ren := ⟨fun | 125 => 123 | 128 => 168 | 129 => 169 | n => n, fun | 46 => 199 | 3 => 3 | 51 => 232 | 53 => 234 | 4 => 4 | 5 => 5 | 9 => 9 | n => n, fun | n => n⟩
theorem Tryz.lays125 : Go.Proofs.Lays.n125 Tryz.prog Tryz.lays125_ren := {
  mixed := by kernel_rfl
  f125 := Tryz.func123.trans (congrArg some (by kernel_rfl))
  f128 := Tryz.func168.trans (congrArg some (by kernel_rfl))
  f129 := Tryz.func169.trans (congrArg some (by kernel_rfl))
  t3 := Tryz.underlying3
  a3 := Tryz.isAgg3
  z3 := Tryz.sizeOf3
  v3 := Tryz.zeroValue3
  t4 := Tryz.underlying4
  a4 := Tryz.isAgg4
  z4 := Tryz.sizeOf4
  v4 := Tryz.zeroValue4
  t5 := Tryz.underlying5
  a5 := Tryz.isAgg5
  z5 := Tryz.sizeOf5
  v5 := Tryz.zeroValue5
  t9 := Tryz.underlying9
  a9 := Tryz.isAgg9
  z9 := Tryz.sizeOf9
  v9 := Tryz.zeroValue9
  t46 := Tryz.underlying199
  a46 := Tryz.isAgg199
  z46 := Tryz.sizeOf199
  v46 := Tryz.zeroValue199
  t51 := Tryz.underlying232
  a51 := Tryz.isAgg232
  z51 := Tryz.sizeOf232
  v51 := Tryz.zeroValue232
  t53 := Tryz.underlying234
  a53 := Tryz.isAgg234
  z53 := Tryz.sizeOf234
  v53 := Tryz.zeroValue234 }
def Tryz.laysC172_ren : Go.Shelf.Ren := ⟨fun | 172 => 116 | 244 => 154 | 245 => 155 | 247 => 178 | 279 => 179 | 280 => 180 | 281 => 181 | 282 => 182 | 287 => 199 | 316 => 200 | 171 => 117 | 205 => 201 | 321 => 211 | 322 => 212 | 243 => 156 | 246 => 183 | 283 => 202 | 284 => 203 | 285 => 204 | 286 => 205 | 129 => 169 | 317 => 213 | 318 => 214 | 319 => 215 | 320 => 216 | 337 => 221 | 338 => 222 | n => n, fun | 9 => 9 | 3 => 3 | 75 => 189 | 76 => 190 | 4 => 4 | 5 => 5 | 167 => 247 | 37 => 242 | 0 => 0 | 85 => 248 | 2 => 2 | 168 => 250 | 53 => 234 | 175 => 270 | 46 => 199 | 210 => 274 | 127 => 293 | 145 => 296 | 143 => 294 | 21 => 21 | 171 => 276 | 173 => 278 | 212 => 298 | 51 => 232 | 20 => 20 | 213 => 299 | 232 => 302 | 233 => 303 | 80 => 99 | n => n, fun | 15 => 3 | 16 => 4 | 17 => 7 | 18 => 8 | 19 => 9 | n => n⟩
theorem Tryz.laysC172 : Go.Proofs.LaysC.n172 Tryz.prog Tryz.laysC172_ren := {
  mixed := by kernel_rfl
  f129 := Tryz.func169.trans (congrArg some (by kernel_rfl))
  f171 := Tryz.func117.trans (congrArg some (by kernel_rfl))
  f172 := Tryz.func116.trans (congrArg some (by kernel_rfl))
  f205 := Tryz.func201.trans (congrArg some (by kernel_rfl))
  f243 := Tryz.func156.trans (congrArg some (by kernel_rfl))
  f244 := Tryz.func154.trans (congrArg some (by kernel_rfl))
  f245 := Tryz.func155.trans (congrArg some (by kernel_rfl))
  f246 := Tryz.func183.trans (congrArg some (by kernel_rfl))
  f247 := Tryz.func178.trans (congrArg some (by kernel_rfl))
  f279 := Tryz.func179.trans (congrArg some (by kernel_rfl))
  f280 := Tryz.func180.trans (congrArg some (by kernel_rfl))
  f281 := Tryz.func181.trans (congrArg some (by kernel_rfl))
  f282 := Tryz.func182.trans (congrArg some (by kernel_rfl))
  f283 := Tryz.func202.trans (congrArg some (by kernel_rfl))
  f284 := Tryz.func203.trans (congrArg some (by kernel_rfl))
  f285 := Tryz.func204.trans (congrArg some (by kernel_rfl))
  f286 := Tryz.func205.trans (congrArg some (by kernel_rfl))
  f287 := Tryz.func199.trans (congrArg some (by kernel_rfl))
  f316 := Tryz.func200.trans (congrArg some (by kernel_rfl))
  f317 := Tryz.func213.trans (congrArg some (by kernel_rfl))
  f318 := Tryz.func214.trans (congrArg some (by kernel_rfl))
  f319 := Tryz.func215.trans (congrArg some (by kernel_rfl))
  f320 := Tryz.func216.trans (congrArg some (by kernel_rfl))
  f321 := Tryz.func211.trans (congrArg some (by kernel_rfl))
  f322 := Tryz.func212.trans (congrArg some (by kernel_rfl))
  f337 := Tryz.func221.trans (congrArg some (by kernel_rfl))
  f338 := Tryz.func222.trans (congrArg some (by kernel_rfl))
  t0 := Tryz.underlying0
  a0 := Tryz.isAgg0
  z0 := Tryz.sizeOf0
  v0 := Tryz.zeroValue0
  t2 := Tryz.underlying2
  a2 := Tryz.isAgg2
  z2 := Tryz.sizeOf2
  v2 := Tryz.zeroValue2
  t3 := Tryz.underlying3
  a3 := Tryz.isAgg3
  z3 := Tryz.sizeOf3
  v3 := Tryz.zeroValue3
  t4 := Tryz.underlying4
  a4 := Tryz.isAgg4
  z4 := Tryz.sizeOf4
  v4 := Tryz.zeroValue4
  t5 := Tryz.underlying5
  a5 := Tryz.isAgg5
  z5 := Tryz.sizeOf5
  v5 := Tryz.zeroValue5
  t9 := Tryz.underlying9
  a9 := Tryz.isAgg9
  z9 := Tryz.sizeOf9
  v9 := Tryz.zeroValue9
  t20 := Tryz.underlying20
  a20 := Tryz.isAgg20
  z20 := Tryz.sizeOf20
  v20 := Tryz.zeroValue20
  t21 := Tryz.underlying21
  a21 := Tryz.isAgg21
  z21 := Tryz.sizeOf21
  v21 := Tryz.zeroValue21
  t37 := Tryz.underlying242
  a37 := Tryz.isAgg242
  z37 := Tryz.sizeOf242
  v37 := Tryz.zeroValue242
  t46 := Tryz.underlying199
  a46 := Tryz.isAgg199
  z46 := Tryz.sizeOf199
  v46 := Tryz.zeroValue199
  t51 := Tryz.underlying232
  a51 := Tryz.isAgg232
  z51 := Tryz.sizeOf232
  v51 := Tryz.zeroValue232
  t53 := Tryz.underlying234
  a53 := Tryz.isAgg234
  z53 := Tryz.sizeOf234
  v53 := Tryz.zeroValue234
  t75 := Tryz.underlying189
  a75 := Tryz.isAgg189
  z75 := Tryz.sizeOf189
  v75 := Tryz.zeroValue189
  t76 := Tryz.underlying190
  a76 := Tryz.isAgg190
  z76 := Tryz.sizeOf190
  v76 := Tryz.zeroValue190
  t85 := Tryz.underlying248
  a85 := Tryz.isAgg248
  z85 := Tryz.sizeOf248
  v85 := Tryz.zeroValue248
  t127 := Tryz.underlying293
  a127 := Tryz.isAgg293
  z127 := Tryz.sizeOf293
  v127 := Tryz.zeroValue293
  t143 := Tryz.underlying294
  a143 := Tryz.isAgg294
  z143 := Tryz.sizeOf294
  v143 := Tryz.zeroValue294
  t145 := Tryz.underlying296
  a145 := Tryz.isAgg296
  z145 := Tryz.sizeOf296
  v145 := Tryz.zeroValue296
  t167 := Tryz.underlying247
  a167 := Tryz.isAgg247
  z167 := Tryz.sizeOf247
  v167 := Tryz.zeroValue247
  t168 := Tryz.underlying250
  a168 := Tryz.isAgg250
  z168 := Tryz.sizeOf250
  v168 := Tryz.zeroValue250
  t171 := Tryz.underlying276
  a171 := Tryz.isAgg276
  z171 := Tryz.sizeOf276
  v171 := Tryz.zeroValue276
  t173 := Tryz.underlying278
  a173 := Tryz.isAgg278
  z173 := Tryz.sizeOf278
  v173 := Tryz.zeroValue278
  t175 := Tryz.underlying270
  a175 := Tryz.isAgg270
  z175 := Tryz.sizeOf270
  v175 := Tryz.zeroValue270
  t210 := Tryz.underlying274
  a210 := Tryz.isAgg274
  z210 := Tryz.sizeOf274
  v210 := Tryz.zeroValue274
  t212 := Tryz.underlying298
  a212 := Tryz.isAgg298
  z212 := Tryz.sizeOf298
  v212 := Tryz.zeroValue298
  t213 := Tryz.underlying299
  a213 := Tryz.isAgg299
  z213 := Tryz.sizeOf299
  t232 := Tryz.underlying302
  a232 := Tryz.isAgg302
  z232 := Tryz.sizeOf302
  v232 := Tryz.zeroValue302
  t233 := Tryz.underlying303
  a233 := Tryz.isAgg303
  z233 := Tryz.sizeOf303
  v233 := Tryz.zeroValue303
  g15 := by kernel_rfl
  g16 := by kernel_rfl
  g17 := by kernel_rfl
  g18 := by kernel_rfl
  g19 := by kernel_rfl
  t80 := Tryz.underlying99
  a80 := Tryz.isAgg99
  z80 := Tryz.sizeOf99
  v80 := Tryz.zeroValue99
  i0 := by kernel_rfl
  i2 := by kernel_rfl
  i3 := by kernel_rfl
  i4 := by kernel_rfl
  i5 := by kernel_rfl
  i9 := by kernel_rfl
  i20 := by kernel_rfl
  i21 := by kernel_rfl
  i37 := by kernel_rfl
  i46 := by kernel_rfl
  i51 := by kernel_rfl
  i53 := by kernel_rfl
  i75 := by kernel_rfl
  i76 := by kernel_rfl
  i80 := by kernel_rfl
  i85 := by kernel_rfl
  i127 := by kernel_rfl
  i143 := by kernel_rfl
  i145 := by kernel_rfl
  i167 := by kernel_rfl
  i168 := by kernel_rfl
  i171 := by kernel_rfl
  i173 := by kernel_rfl
  i175 := by kernel_rfl
  i210 := by kernel_rfl
  i212 := by kernel_rfl
  i232 := by kernel_rfl
  i233 := by kernel_rfl
  m15 := by kernel_rfl
  m16 := by kernel_rfl
  m17 := by kernel_rfl
  m18 := by kernel_rfl
  m19 := by kernel_rfl
  c0 := by kernel_rfl
  c2 := by kernel_rfl
  c3 := by kernel_rfl
  c4 := by kernel_rfl
  c5 := by kernel_rfl
  c9 := by kernel_rfl
  c20 := by kernel_rfl
  c21 := by kernel_rfl
  c37 := by kernel_rfl
  c46 := by kernel_rfl
  c51 := by kernel_rfl
  c53 := by kernel_rfl
  c75 := by kernel_rfl
  c76 := by kernel_rfl
  c80 := by kernel_rfl
  c85 := by kernel_rfl
  c127 := by kernel_rfl
  c143 := by kernel_rfl
  c145 := by kernel_rfl
  c167 := by kernel_rfl
  c168 := by kernel_rfl
  c171 := by kernel_rfl
  c173 := by kernel_rfl
  c175 := by kernel_rfl
  c210 := by kernel_rfl
  c212 := by kernel_rfl
  c213 := by kernel_rfl
  c232 := by kernel_rfl
  c233 := by kernel_rfl }
def Tryz.lays101_ren : Go.Shelf.Ren := ⟨fun | 101 => 118 | 208 => 157 | 206 => 184 | n => n, fun | 9 => 9 | 4 => 4 | 3 => 3 | n => n, fun | n => n⟩
theorem Tryz.lays101 : Go.Proofs.Lays.n101 Tryz.prog Tryz.lays101_ren := {
  mixed := by kernel_rfl
  f101 := Tryz.func118.trans (congrArg some (by kernel_rfl))
  f206 := Tryz.func184.trans (congrArg some (by kernel_rfl))
  f208 := Tryz.func157.trans (congrArg some (by kernel_rfl))
  t3 := Tryz.underlying3
  a3 := Tryz.isAgg3
  z3 := Tryz.sizeOf3
  v3 := Tryz.zeroValue3
  t4 := Tryz.underlying4
  a4 := Tryz.isAgg4
  z4 := Tryz.sizeOf4
  v4 := Tryz.zeroValue4
  t9 := Tryz.underlying9
  a9 := Tryz.isAgg9
  z9 := Tryz.sizeOf9
  v9 := Tryz.zeroValue9 }
end Go.Proofs

/-
  What the library's functions give, by their contracts (numbers of seat Tryz).
-/
namespace Go.Fx
open Go.Proofs

def strRowK {A : Type} : List ByteArray → (List AV → A) → A
  | [], K => K []
  | s :: l, K => bytesK s.data.toList fun b => strRowK l fun l => K (.str ⟨⟨b⟩⟩ :: l)

def iRow (l : List Int) : AV := .slc 1 l.length (fun i _ => .int .i64 (l.getD i 0))
def rangesL : List Int := [1, 100000, 1, 3600, 0, 3, 0, 1000000000, 0, 1000000000, 0, 1000000000, 0, 998244352]
def gRanges : AV := .ip 14 (fun j => .int .i64 (rangesL.getD j 0)) 0
def gNext : AV := .ip 4 (fun j => [iRow [1], iRow [2, 3], iRow [1, 3], iRow [1, 0]].getD j .any) 0
def Gt : Nat → Option AV
  | 0 => some gRanges
  | 1 => some gNext
  | _ => none

def numAV (v : AV) (e : AV) : AV := .tup 2 (tbl [v, e])

def libT (f : FuncId) (args : List AV) (L : List HObj) : Option (AV × List HObj) :=
  match L with
  | [] =>
    match f, args with
    | 80, [.str s, .str sep] => bif Nat.blt s.size 4294967281 && Nat.ble 1 sep.size then strRowK (Lib.splitB sep 0 (Lib.countB s sep) s) fun l => some (.slc 1 l.length (fun i j => tbl l (i * 1 + j)), []) else none
    | 116, [.str s] => bif Nat.ble s.size 281474976710656 then (match Lib.atoiAll s.data.toList with | .ok v => some (numAV (.int .i64 v) (.val .nilIface), []) | .range => some (numAV (.int .i64 (Lib.atoiSat s.data.toList)) .ifc, []) | _ => some (numAV (.int .i64 0) .ifc, [])) else none
    | 117, [.int .i64 n] => bif decide (inK .i64 n) then bytesK (Lib.itoa n) fun l => some (.str ⟨⟨l⟩⟩, []) else none
    | 82, [.str s, .int .u8 c] => some (.int .i64 (Lib.indexByte s.data.toList c.toNat.toUInt8), [])
    | 123, [.int .u64 x] => bif decide (0 ≤ x) && decide (x ≤ 18446744073709551615) then some (.int .i64 (Lib.bitLen x.toNat), []) else none
    | 118, [.str s, .str p] => bytesK (Lib.trimPrefix s.data.toList p.data.toList) fun l => some (.str ⟨⟨l⟩⟩, [])
    | _, _ => none
  | _ => none
end Go.Fx

/-
  The library's functions, by their contracts.
-/
namespace Go.Fx
open Go.Proofs Go.RowKit Go.Sort Go.Lib

theorem strRowK_eq {A : Type} : ∀ (l : List ByteArray) (K : List AV → A), strRowK l K = K (l.map .str)
  | [], _ => rfl
  | s :: l, K => by simp only [strRowK, bytesK_eq, strRowK_eq l, List.map_cons]

/-- Numbers, truth values and strings: their value. -/
def valOf : AV → Option Value
  | .int k n => some (.int k n)
  | .bool b => some (.bool b)
  | .str s => some (.string s)
  | _ => none

theorem valOf_reads {g : Nat → GO} {I : Nat → Nat → Prop} {w : World} {av : AV} {m : Nat} {c u : Value} (h : valOf av = some u) (hr : Reads g I w av m c) : c = u := by
  cases av <;> simp only [valOf, Option.some.injEq, reduceCtorEq] at h <;> subst h <;> exact hr

/-- What the library's functions need of the first world. -/
structure Laid (W0 : World) : Prop where
  m : ∃ m, W0.cell? ⟨2, 0, none⟩ = some (.int .i64 m)
  e3 : ∃ ev, W0.cell? ⟨3, 0, none⟩ = some ev ∧ (ev = .nilIface ∨ ∃ te pe, ev = .iface te pe)
  e4 : ∃ ev, W0.cell? ⟨4, 0, none⟩ = some ev ∧ (ev = .nilIface ∨ ∃ te pe, ev = .iface te pe)
  tab : Lib.TabIs Tryz.prog W0 "internal/strconv.uint64pow10" .u64 Lib.pow10Tab

theorem cell_lt {W : World} {a : Addr} {v : Value} (h : W.cell? a = some v) : a.block < W.heap.size := by
  unfold World.cell? at h
  split at h
  · rename_i hh; exact (Array.getElem?_eq_some_iff.1 hh).1
  · cases h

section
variable {X : Ctx}

/-- A contract of a function that touches no owned block, off a contract of its values. -/
theorem mut_lib {f : FuncId} {args : List AV} {r : AV} (hent : Enters X.P f) (vals : List Value) (hv : args.map valOf = vals.map some)
    (h : ∀ w, Below X.W0.heap.size X.W0 w → Calls X.P f vals.toArray w fun e w' => ∃ v, e = .returned v ∧ Below w.heap.size w w' ∧ ∀ g, Reads g (fun b _ => w.heap.size ≤ b ∧ b < w'.heap.size) w' r 0 v) : Mut X f args [] r [] := by
  refine ⟨hent, fun c cargs hok hb hL hsz hargs => ?_⟩
  have hlen : args.length = vals.length := by simpa using congrArg List.length hv
  have e : cargs = vals.toArray := by
    apply Array.ext (by simp [hsz, hlen])
    intro j h1 h2
    have hj : j < args.length := by omega
    obtain ⟨v, h3, h4⟩ := hargs j args[j] (by simp [hj])
    have h5 : (args.map valOf)[j]? = (vals.map some)[j]? := by rw [hv]
    have h6 : j < vals.length := by omega
    simp only [List.getElem?_map, List.getElem?_eq_getElem hj, List.getElem?_eq_getElem h6, Option.map_some, Option.some.injEq] at h5
    have h7 := valOf_reads h5 h4
    rw [Array.getElem?_eq_getElem h1] at h3
    cases h3
    simpa using h7
  subst e
  refine (h c.w hb.below).mono fun e w' ⟨v, h1, h2, h3⟩ => ?_
  have tr := Tr.imm hok (w' := w') (I' := fun b o => c.I b o ∨ (c.w.heap.size ≤ b ∧ b < w'.heap.size)) h2.os h2.tape h2.output h2.size h2.block (fun _ _ h => .inl h) (fun b o h => h)
  refine ⟨v, _, h1, rfl, tr, hL, ?_⟩
  show Reads c.g _ w' r c.H.length v
  rw [hL]
  exact Reads.mono' (M := 0) (fun k hk => absurd hk (by omega)) (fun b o hx => ⟨.inr hx, rfl⟩) r 0 0 v (Nat.le_refl _) (Nat.le_refl _) (h3 c.g)
end

theorem enters_lib {f : FuncId} (h : (match Tryz.prog.funcs[f]? with | some fn => !(fn.name == "runtime.NumGoroutine") && fn.body.isSome | none => false) = true) : Enters Tryz.prog f := by
  split at h
  · rename_i fn hf
    simp only [Bool.and_eq_true, Bool.not_eq_true'] at h
    exact ⟨fn, hf, h.1, h.2⟩
  · cases h

theorem below_grow_drewN (w : World) (k : Nat) (os : Array Obj) : Below w.heap.size w (grow (w.drewN k) os) :=
  ⟨rfl, rfl, rfl, by simp [grow, World.drewN], fun b hb => by simp [grow, World.drewN, Array.getElem?_append_left hb]⟩

section
variable {W0 : World} {G : Nat → Option AV}

theorem lib_split (hl : Laid W0) {s sep : ByteArray} (hs : s.size < 4294967281) (h1 : 1 ≤ sep.size) :
    Mut (Xc W0 G) 80 [.str s, .str sep] [] (.slc 1 ((Lib.splitB sep 0 (Lib.countB s sep) s).map AV.str).length fun i j => tbl ((Lib.splitB sep 0 (Lib.countB s sep) s).map AV.str) (i * 1 + j)) [] := by
  obtain ⟨m, hm⟩ := hl.m
  refine mut_lib (enters_lib (by kernel_rfl)) [.string s, .string sep] rfl fun w hb => ?_
  have hk : Calls Tryz.prog 80 #[.string s, .string sep] w fun e w' =>
      e = .returned (.slice (some ⟨w.heap.size, 0, none⟩) (Lib.countB s sep + 1) (Lib.countB s sep + 1)) ∧ w' = w.alloc (.cells ((Lib.splitB sep 0 (Lib.countB s sep) s).map Value.string).toArray 9) :=
    Any.strings_Split Tryz.lays146 (by kernel_rfl) s sep m w hs ((hb.cell (cell_lt hm)).trans hm) h1
  refine hk.mono fun e w' ⟨he, hw⟩ => ⟨_, he, ?_, fun g => ?_⟩
  · rw [hw]; exact (Below.refl _ _).alloc (Nat.le_refl _) _
  · have hlen : ((Lib.splitB sep 0 (Lib.countB s sep) s).map AV.str).length = Lib.countB s sep + 1 := by
      rw [List.length_map]; exact Lib.splitB_all sep h1 0 _ s rfl
    rw [hlen]
    refine ⟨_, _, rfl, Nat.le_refl _, fun _ => ⟨_, _, rfl, fun i j hi hj => ?_⟩⟩
    have hj0 : j = 0 := by omega
    subst hj0
    have hi2 : i < (Lib.splitB sep 0 (Lib.countB s sep) s).length := by rw [List.length_map] at hlen; omega
    have hsz : (w.alloc (.cells ((Lib.splitB sep 0 (Lib.countB s sep) s).map Value.string).toArray 9)).heap.size = w.heap.size + 1 := Array.size_push ..
    refine ⟨by rw [hw, hsz]; exact ⟨Nat.le_refl _, Nat.lt_succ_self _⟩, ?_⟩
    refine ⟨.string (Lib.splitB sep 0 (Lib.countB s sep) s)[i], ?_, rfl, ?_⟩
    · rw [hw]
      have hh : (w.alloc (.cells ((Lib.splitB sep 0 (Lib.countB s sep) s).map Value.string).toArray 9)).heap[w.heap.size]? = some (.cells ((Lib.splitB sep 0 (Lib.countB s sep) s).map Value.string).toArray 9 (0, 0)) := Array.getElem?_push_size
      simp only [World.cell?, Nat.zero_add, Nat.add_zero, hh]
      simp [hi2]
    · simp [tbl, Reads, hi2]

theorem lib_itoa (hl : Laid W0) {n : Int} (h : inK .i64 n) : Mut (Xc W0 G) 117 [.int .i64 n] [] (.str ⟨⟨Lib.itoa n⟩⟩) [] :=
  mut_lib (enters_lib (by kernel_rfl)) [.int .i64 n] rfl fun w hb =>
    (Any.strconv_Itoa Tryz.laysM171 n h.1 h.2 w (tabBelow_of_tabIs hl.tab w hb)).mono fun e w' ⟨he, k, os, hw⟩ => ⟨_, he, by rw [hw]; exact below_grow_drewN _ _ _, fun g => rfl⟩

theorem lib_byte {s : ByteArray} {c : Int} : Mut (Xc W0 G) 82 [.str s, .int .u8 c] [] (.int .i64 (Lib.indexByte s.data.toList c.toNat.toUInt8)) [] :=
  mut_lib (enters_lib (by kernel_rfl)) [.string s, .int .u8 c] rfl fun w hb => (Any.strings_IndexByte Tryz.lays137 s c w).mono fun e w' ⟨he, hw⟩ => ⟨_, he, by rw [hw]; exact .refl _ _, fun g => rfl⟩

theorem lib_len {x : Int} (h0 : 0 ≤ x) (h1 : x ≤ 18446744073709551615) : Mut (Xc W0 G) 123 [.int .u64 x] [] (.int .i64 (Lib.bitLen x.toNat)) [] :=
  mut_lib (enters_lib (by kernel_rfl)) [.int .u64 x] rfl fun w hb => (Any.bits_Len Tryz.lays125 x w h0 h1).mono fun e w' ⟨he, hw⟩ => ⟨_, he, by rw [hw]; exact .refl _ _, fun g => rfl⟩

theorem lib_trim {s p : ByteArray} : Mut (Xc W0 G) 118 [.str s, .str p] [] (.str ⟨⟨Lib.trimPrefix s.data.toList p.data.toList⟩⟩) [] :=
  mut_lib (enters_lib (by kernel_rfl)) [.string s, .string p] rfl fun w hb => (Any.strings_TrimPrefix Tryz.lays101 s p w).mono fun e w' ⟨he, hw⟩ => ⟨_, he, by rw [hw]; exact .refl _ _, fun g => rfl⟩

theorem numAV_reads {g : Nat → GO} {I : Nat → Nat → Prop} {w : World} {n : Int} {a : AV} {x : Value} (h : Reads g I w a 0 x) : Reads g I w (numAV (.int .i64 n) a) 0 (.tuple #[.int .i64 n, x]) :=
  ⟨_, rfl, rfl, fun j hj => match j, hj with
    | 0, _ => ⟨_, rfl, rfl⟩
    | 1, _ => ⟨_, rfl, h⟩⟩

theorem lib_atoi (hl : Laid W0) {s : ByteArray} (hs : s.size ≤ 281474976710656) : ∀ {r : AV}, (match Lib.atoiAll s.data.toList with | .ok v => some (numAV (.int .i64 v) (.val .nilIface), ([] : List HObj)) | .range => some (numAV (.int .i64 (Lib.atoiSat s.data.toList)) .ifc, []) | _ => some (numAV (.int .i64 0) .ifc, [])) = some (r, []) →
    Mut (Xc W0 G) 116 [.str s] [] r [] := by
  intro r h
  obtain ⟨v3, h3, h3'⟩ := hl.e3
  obtain ⟨v4, h4, h4'⟩ := hl.e4
  refine mut_lib (enters_lib (by kernel_rfl)) [.string s] rfl fun w hb => ?_
  cases hv : Lib.atoiAll s.data.toList with
  | ok v =>
    rw [hv] at h
    simp only [Option.some.injEq, Prod.mk.injEq, and_true] at h
    subst h
    refine (Any.strconv_Atoi_ok Tryz.laysC172 s (by omega) _ hv w).mono fun e w' ⟨he, hw⟩ => ⟨_, he, ?_, fun g => numAV_reads rfl⟩
    rcases hw with rfl | ⟨t, rfl⟩
    · exact .refl _ _
    · exact Joins.below_bytesWorld _ _ _ _ (Nat.le_refl _)
  | range =>
    rw [hv] at h
    simp only [Option.some.injEq, Prod.mk.injEq, and_true] at h
    subst h
    exact (Any.strconv_Atoi_range Tryz.laysC172 s hs hv v4 w ((hb.cell (cell_lt h4)).trans h4) h4').mono fun e w' ⟨N, he, _, _, hw⟩ => ⟨_, he, hw, fun g => numAV_reads ⟨_, _, rfl⟩⟩
  | _ =>
    rw [hv] at h
    simp only [Option.some.injEq, Prod.mk.injEq, and_true] at h
    subst h
    exact (Any.strconv_Atoi_syntax Tryz.laysC172 s hs hv v3 w ((hb.cell (cell_lt h3)).trans h3) h3').mono fun e w' ⟨N, he, _, _, hw⟩ => ⟨_, he, hw, fun g => numAV_reads ⟨_, _, rfl⟩⟩

theorem libT_ok (hl : Laid W0) {f : FuncId} {args : List AV} {L : List HObj} {r : AV} {L' : List HObj} (h : libT f args L = some (r, L')) : Mut (Xc W0 G) f args L r L' := by
  unfold libT at h
  split at h
  · split at h
    · rename_i s sep
      cases hc : (Nat.blt s.size 4294967281 && Nat.ble 1 sep.size) with
      | false => rw [hc] at h; cases h
      | true =>
        rw [hc] at h
        simp only [cond_true, strRowK_eq, Option.some.injEq, Prod.mk.injEq] at h
        simp only [Bool.and_eq_true, Nat.blt_eq, Nat.ble_eq] at hc
        obtain ⟨rfl, rfl⟩ := h
        exact lib_split hl hc.1 hc.2
    · rename_i s
      cases hc : Nat.ble s.size 281474976710656 with
      | false => rw [hc] at h; cases h
      | true =>
        rw [hc] at h
        simp only [cond_true] at h
        simp only [Nat.ble_eq] at hc
        have e : L' = [] := by
          split at h <;> (simp only [Option.some.injEq, Prod.mk.injEq] at h; exact h.2.symm)
        subst e
        exact lib_atoi hl hc h
    · rename_i n
      cases hc : decide (inK .i64 n) with
      | false => rw [hc] at h; cases h
      | true =>
        rw [hc] at h
        simp only [cond_true, bytesK_eq, Option.some.injEq, Prod.mk.injEq] at h
        obtain ⟨rfl, rfl⟩ := h
        exact lib_itoa hl (of_decide_eq_true hc)
    · simp only [Option.some.injEq, Prod.mk.injEq] at h
      obtain ⟨rfl, rfl⟩ := h
      exact lib_byte
    · rename_i x
      cases hc : (decide (0 ≤ x) && decide (x ≤ 18446744073709551615)) with
      | false => rw [hc] at h; cases h
      | true =>
        rw [hc] at h
        simp only [cond_true, Option.some.injEq, Prod.mk.injEq] at h
        simp only [Bool.and_eq_true, decide_eq_true_eq] at hc
        obtain ⟨rfl, rfl⟩ := h
        exact lib_len hc.1 hc.2
    · simp only [bytesK_eq, Option.some.injEq, Prod.mk.injEq] at h
      obtain ⟨rfl, rfl⟩ := h
      exact lib_trim
    · cases h
  · cases h
end
end Go.Fx
