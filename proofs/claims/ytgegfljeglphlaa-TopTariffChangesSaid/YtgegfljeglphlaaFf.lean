/-
  This seat's types; small functions.
-/
import Derived.Test.YtgegfljeglphlaaFe
import Derived.Test.YtgegfljeglphlaaProg

set_option linter.all false

/-
  The context of this seat: its program and its types.
-/
namespace Go.Fx
open Go.Proofs

noncomputable section
noncomputable def tab : List (Option TI) := [
  none,
  some ⟨.other, 1, 8, [.nilFunc], false⟩,
  some ⟨.int IntKind.i64, 1, 8, [.int .i64 0], false⟩,
  some ⟨.int IntKind.i64, 1, 8, [.int .i64 0], false⟩,
  some ⟨.bool, 1, 1, [.bool false], false⟩,
  some ⟨.int IntKind.u8, 1, 1, [.int .u8 0], false⟩,
  some ⟨.int IntKind.u8, 1, 1, [.int .u8 0], false⟩,
  some ⟨.struct [(0, 2), (1, 3), (2, 4), (3, 6)], 4, 24, [.int .i64 0, .int .i64 0, .bool false, .int .u8 0], true⟩,
  some ⟨.struct [(0, 2), (1, 3), (2, 4), (3, 6)], 4, 24, [.int .i64 0, .int .i64 0, .bool false, .int .u8 0], true⟩,
  some ⟨.string, 1, 16, [.string ⟨#[]⟩], false⟩,
  some ⟨.string, 1, 16, [.string ⟨#[]⟩], false⟩,
  some ⟨.string, 1, 16, [.string ⟨#[]⟩], false⟩,
  some ⟨.int IntKind.u64, 1, 8, [.int .u64 0], false⟩,
  some ⟨.struct [(0, 9), (1, 12)], 2, 24, [.string ⟨#[]⟩, .int .u64 0], false⟩,
  some ⟨.struct [(0, 9), (1, 12)], 2, 24, [.string ⟨#[]⟩, .int .u64 0], false⟩,
  some ⟨.other, 1, 8, [.pointer none], false⟩,
  some ⟨.other, 1, 8, [.pointer none], false⟩,
  some ⟨.other, 1, 8, [.pointer none], false⟩,
  some ⟨.struct [(0, 17)], 1, 8, [.pointer none], false⟩,
  some ⟨.struct [(0, 17)], 1, 8, [.pointer none], false⟩,
  some ⟨.ifc, 1, 16, [.nilIface], false⟩,
  some ⟨.int IntKind.i32, 1, 4, [.int .i32 0], false⟩,
  some ⟨.slice 9, 1, 24, [.slice none 0 0], false⟩,
  some ⟨.slice 3, 1, 24, [.slice none 0 0], false⟩,
  some ⟨.slice 63, 1, 24, [.slice none 0 0], false⟩,
  some ⟨.slice 65, 1, 24, [.slice none 0 0], false⟩,
  some ⟨.slice 95, 1, 24, [.slice none 0 0], false⟩,
  some ⟨.struct [(0, 9), (1, 3), (2, 3), (3, 22), (4, 23), (5, 24), (6, 25), (7, 26)], 8, 152, [.string ⟨#[]⟩, .int .i64 0, .int .i64 0, .slice none 0 0, .slice none 0 0, .slice none 0 0, .slice none 0 0, .slice none 0 0], true⟩,
  some ⟨.struct [(0, 9), (1, 3), (2, 3), (3, 22), (4, 23), (5, 24), (6, 25), (7, 26)], 8, 152, [.string ⟨#[]⟩, .int .i64 0, .int .i64 0, .slice none 0 0, .slice none 0 0, .slice none 0 0, .slice none 0 0, .slice none 0 0], true⟩,
  some ⟨.struct [(0, 3), (1, 3)], 2, 16, [.int .i64 0, .int .i64 0], true⟩,
  some ⟨.struct [(0, 3), (1, 3)], 2, 16, [.int .i64 0, .int .i64 0], true⟩,
  some ⟨.slice 40, 1, 24, [.slice none 0 0], false⟩,
  some ⟨.struct [(0, 30), (2, 4), (3, 23), (4, 31)], 5, 72, [.int .i64 0, .int .i64 0, .bool false, .slice none 0 0, .slice none 0 0], true⟩,
  some ⟨.struct [(0, 30), (2, 4), (3, 23), (4, 31)], 5, 72, [.int .i64 0, .int .i64 0, .bool false, .slice none 0 0, .slice none 0 0], true⟩,
  some ⟨.other, 1, 8, [.nilFunc], false⟩,
  some ⟨.other, 1, 8, [.nilFunc], false⟩,
  some ⟨.other, 1, 8, [.nilFunc], false⟩,
  some ⟨.other, 1, 8, [.nilFunc], false⟩,
  some ⟨.other, 1, 8, [.nilFunc], false⟩,
  some ⟨.struct [(0, 3), (1, 3), (2, 3)], 3, 24, [.int .i64 0, .int .i64 0, .int .i64 0], true⟩,
  some ⟨.struct [(0, 3), (1, 3), (2, 3)], 3, 24, [.int .i64 0, .int .i64 0, .int .i64 0], true⟩,
  some ⟨.struct [(0, 3), (1, 3), (2, 3), (3, 3)], 4, 32, [.int .i64 0, .int .i64 0, .int .i64 0, .int .i64 0], true⟩,
  some ⟨.struct [(0, 3), (1, 3), (2, 3), (3, 3)], 4, 32, [.int .i64 0, .int .i64 0, .int .i64 0, .int .i64 0], true⟩,
  some ⟨.int IntKind.i64, 1, 8, [.int .i64 0], false⟩,
  none,
  some ⟨.other, 1, 8, [.nilFunc], false⟩,
  some ⟨.other, 1, 8, [.nilFunc], false⟩,
  some ⟨.struct [(0, 3), (1, 3)], 2, 16, [.int .i64 0, .int .i64 0], true⟩,
  some ⟨.struct [(0, 3), (1, 3)], 2, 16, [.int .i64 0, .int .i64 0], true⟩,
  none,
  some ⟨.other, 1, 8, [.nilFunc], false⟩,
  some ⟨.other, 1, 8, [.nilFunc], false⟩,
  some ⟨.struct [(0, 3), (1, 30)], 3, 24, [.int .i64 0, .int .i64 0, .int .i64 0], true⟩,
  some ⟨.struct [(0, 3), (1, 30)], 3, 24, [.int .i64 0, .int .i64 0, .int .i64 0], true⟩,
  none,
  some ⟨.other, 1, 8, [.nilFunc], false⟩,
  none,
  some ⟨.other, 1, 8, [.nilFunc], false⟩,
  some ⟨.other, 1, 8, [.nilFunc], false⟩,
  some ⟨.other, 1, 8, [.nilFunc], false⟩,
  some ⟨.other, 1, 8, [.nilFunc], false⟩,
  some ⟨.other, 1, 8, [.nilFunc], false⟩,
  some ⟨.struct [(0, 9), (1, 3), (2, 3), (3, 23), (4, 23), (5, 3), (6, 3), (7, 3), (8, 3), (9, 3)], 10, 120, [.string ⟨#[]⟩, .int .i64 0, .int .i64 0, .slice none 0 0, .slice none 0 0, .int .i64 0, .int .i64 0, .int .i64 0, .int .i64 0, .int .i64 0], true⟩,
  some ⟨.struct [(0, 9), (1, 3), (2, 3), (3, 23), (4, 23), (5, 3), (6, 3), (7, 3), (8, 3), (9, 3)], 10, 120, [.string ⟨#[]⟩, .int .i64 0, .int .i64 0, .slice none 0 0, .slice none 0 0, .int .i64 0, .int .i64 0, .int .i64 0, .int .i64 0, .int .i64 0], true⟩,
  some ⟨.struct [(0, 9), (1, 3)], 2, 24, [.string ⟨#[]⟩, .int .i64 0], true⟩,
  some ⟨.struct [(0, 9), (1, 3)], 2, 24, [.string ⟨#[]⟩, .int .i64 0], true⟩,
  some ⟨.other, 1, 8, [.nilFunc], false⟩,
  some ⟨.struct [(0, 28)], 8, 152, [.string ⟨#[]⟩, .int .i64 0, .int .i64 0, .slice none 0 0, .slice none 0 0, .slice none 0 0, .slice none 0 0, .slice none 0 0], true⟩,
  some ⟨.struct [(0, 28)], 8, 152, [.string ⟨#[]⟩, .int .i64 0, .int .i64 0, .slice none 0 0, .slice none 0 0, .slice none 0 0, .slice none 0 0, .slice none 0 0], true⟩,
  some ⟨.slice 78, 1, 24, [.slice none 0 0], false⟩,
  some ⟨.struct [(0, 68), (8, 33), (13, 69)], 14, 248, [.string ⟨#[]⟩, .int .i64 0, .int .i64 0, .slice none 0 0, .slice none 0 0, .slice none 0 0, .slice none 0 0, .slice none 0 0, .int .i64 0, .int .i64 0, .bool false, .slice none 0 0, .slice none 0 0, .slice none 0 0], true⟩,
  some ⟨.struct [(0, 68), (8, 33), (13, 69)], 14, 248, [.string ⟨#[]⟩, .int .i64 0, .int .i64 0, .slice none 0 0, .slice none 0 0, .slice none 0 0, .slice none 0 0, .slice none 0 0, .int .i64 0, .int .i64 0, .bool false, .slice none 0 0, .slice none 0 0, .slice none 0 0], true⟩,
  none,
  some ⟨.other, 1, 8, [.nilFunc], false⟩,
  some ⟨.other, 1, 8, [.nilFunc], false⟩,
  some ⟨.other, 1, 8, [.nilFunc], false⟩,
  some ⟨.other, 1, 8, [.nilFunc], false⟩,
  some ⟨.struct [(0, 3), (1, 63), (11, 3), (12, 3)], 13, 144, [.int .i64 0, .string ⟨#[]⟩, .int .i64 0, .int .i64 0, .slice none 0 0, .slice none 0 0, .int .i64 0, .int .i64 0, .int .i64 0, .int .i64 0, .int .i64 0, .int .i64 0, .int .i64 0], true⟩,
  some ⟨.struct [(0, 3), (1, 63), (11, 3), (12, 3)], 13, 144, [.int .i64 0, .string ⟨#[]⟩, .int .i64 0, .int .i64 0, .slice none 0 0, .slice none 0 0, .int .i64 0, .int .i64 0, .int .i64 0, .int .i64 0, .int .i64 0, .int .i64 0, .int .i64 0], true⟩,
  some ⟨.other, 1, 8, [.nilFunc], false⟩,
  some ⟨.other, 1, 8, [.nilFunc], false⟩,
  none,
  some ⟨.other, 1, 8, [.nilFunc], false⟩,
  some ⟨.other, 1, 8, [.nilFunc], false⟩,
  some ⟨.other, 1, 8, [.nilFunc], false⟩,
  some ⟨.struct [(0, 3), (1, 43)], 2, 16, [.int .i64 0, .int .i64 0], true⟩,
  some ⟨.struct [(0, 3), (1, 43)], 2, 16, [.int .i64 0, .int .i64 0], true⟩,
  none,
  some ⟨.other, 1, 8, [.nilFunc], false⟩,
  some ⟨.other, 1, 8, [.nilFunc], false⟩,
  some ⟨.other, 1, 8, [.nilFunc], false⟩,
  some ⟨.other, 1, 8, [.nilFunc], false⟩,
  some ⟨.other, 1, 8, [.nilFunc], false⟩,
  some ⟨.other, 1, 8, [.nilFunc], false⟩,
  some ⟨.struct [(0, 3), (1, 3), (2, 3)], 3, 24, [.int .i64 0, .int .i64 0, .int .i64 0], true⟩,
  some ⟨.struct [(0, 3), (1, 3), (2, 3)], 3, 24, [.int .i64 0, .int .i64 0, .int .i64 0], true⟩,
  some ⟨.other, 1, 8, [.nilFunc], false⟩,
  none,
  some ⟨.other, 1, 8, [.nilFunc], false⟩,
  some ⟨.other, 1, 8, [.nilFunc], false⟩,
  some ⟨.struct [(0, 3), (1, 3)], 2, 16, [.int .i64 0, .int .i64 0], true⟩,
  some ⟨.struct [(0, 3), (1, 3)], 2, 16, [.int .i64 0, .int .i64 0], true⟩,
  none,
  some ⟨.other, 1, 8, [.nilFunc], false⟩,
  some ⟨.slice 43, 1, 24, [.slice none 0 0], false⟩,
  some ⟨.other, 1, 8, [.nilFunc], false⟩,
  some ⟨.other, 1, 8, [.nilFunc], false⟩,
  some ⟨.other, 1, 8, [.nilFunc], false⟩,
  some ⟨.other, 1, 8, [.nilFunc], false⟩,
  some ⟨.other, 1, 8, [.nilFunc], false⟩,
  some ⟨.other, 1, 8, [.nilFunc], false⟩,
  some ⟨.other, 1, 8, [.nilFunc], false⟩,
  some ⟨.other, 1, 8, [.nilFunc], false⟩,
  some ⟨.other, 1, 8, [.nilFunc], false⟩,
  some ⟨.other, 1, 8, [.nilFunc], false⟩,
  some ⟨.struct [(0, 3), (1, 3), (2, 3), (3, 114)], 4, 32, [.int .i64 0, .int .i64 0, .int .i64 0, .nilFunc], true⟩,
  some ⟨.struct [(0, 3), (1, 3), (2, 3), (3, 114)], 4, 32, [.int .i64 0, .int .i64 0, .int .i64 0, .nilFunc], true⟩,
  some ⟨.other, 1, 8, [.nilFunc], false⟩,
  some ⟨.other, 1, 8, [.nilFunc], false⟩,
  some ⟨.other, 1, 8, [.nilFunc], false⟩,
  some ⟨.other, 1, 8, [.nilFunc], false⟩,
  some ⟨.other, 1, 8, [.nilFunc], false⟩,
  some ⟨.other, 1, 8, [.nilFunc], false⟩,
  some ⟨.other, 1, 8, [.nilFunc], false⟩,
  some ⟨.array 5 116, 20, 160, [.int .i64 0, .int .i64 0, .int .i64 0, .nilFunc, .int .i64 0, .int .i64 0, .int .i64 0, .nilFunc, .int .i64 0, .int .i64 0, .int .i64 0, .nilFunc, .int .i64 0, .int .i64 0, .int .i64 0, .nilFunc, .int .i64 0, .int .i64 0, .int .i64 0, .nilFunc], true⟩,
  some ⟨.other, 1, 8, [.nilFunc], false⟩,
  some ⟨.other, 1, 8, [.nilFunc], false⟩,
  some ⟨.other, 1, 8, [.nilFunc], false⟩,
  some ⟨.other, 1, 8, [.nilFunc], false⟩,
  some ⟨.other, 1, 8, [.nilFunc], false⟩,
  some ⟨.other, 1, 8, [.nilFunc], false⟩,
  some ⟨.other, 1, 8, [.nilFunc], false⟩,
  some ⟨.other, 1, 8, [.nilFunc], false⟩,
  some ⟨.other, 1, 8, [.nilFunc], false⟩,
  some ⟨.other, 1, 8, [.nilFunc], false⟩,
  some ⟨.int IntKind.u64, 1, 8, [.int .u64 0], false⟩,
  some ⟨.slice 5, 1, 24, [.slice none 0 0], false⟩,
  some ⟨.other, 1, 8, [.nilFunc], false⟩,
  some ⟨.other, 1, 8, [.nilFunc], false⟩,
  none,
  some ⟨.other, 1, 8, [.nilFunc], false⟩,
  some ⟨.other, 1, 8, [.nilFunc], false⟩,
  some ⟨.int IntKind.i64, 1, 8, [.int .i64 0], false⟩,
  none,
  some ⟨.other, 1, 8, [.nilFunc], false⟩,
  some ⟨.other, 1, 8, [.nilFunc], false⟩,
  some ⟨.other, 1, 8, [.nilFunc], false⟩,
  some ⟨.other, 1, 8, [.nilFunc], false⟩,
  some ⟨.other, 1, 8, [.nilFunc], false⟩,
  some ⟨.other, 1, 8, [.nilFunc], false⟩,
  some ⟨.int IntKind.u32, 1, 4, [.int .u32 0], false⟩,
  some ⟨.other, 1, 8, [.nilFunc], false⟩,
  some ⟨.int IntKind.u64, 1, 8, [.int .u64 0], false⟩,
  some ⟨.int IntKind.u64, 1, 8, [.int .u64 0], false⟩,
  some ⟨.other, 1, 8, [.nilFunc], false⟩,
  some ⟨.other, 1, 8, [.nilFunc], false⟩,
  some ⟨.other, 1, 8, [.nilFunc], false⟩,
  some ⟨.other, 1, 8, [.pointer none], false⟩,
  some ⟨.other, 1, 8, [.nilFunc], false⟩,
  some ⟨.other, 1, 8, [.pointer none], false⟩,
  none,
  some ⟨.other, 1, 8, [.nilFunc], false⟩,
  some ⟨.other, 1, 8, [.nilFunc], false⟩,
  some ⟨.struct [(0, 17), (1, 17), (2, 17), (3, 9)], 4, 40, [.pointer none, .pointer none, .pointer none, .string ⟨#[]⟩], false⟩,
  some ⟨.struct [(0, 17), (1, 17), (2, 17), (3, 9)], 4, 40, [.pointer none, .pointer none, .pointer none, .string ⟨#[]⟩], false⟩,
  some ⟨.array 0 16, 0, 0, [], true⟩,
  some ⟨.struct [(0, 165)], 0, 0, [], false⟩,
  some ⟨.struct [(0, 165)], 0, 0, [], false⟩,
  some ⟨.int IntKind.u8, 1, 1, [.int .u8 0], false⟩,
  some ⟨.int IntKind.u8, 1, 1, [.int .u8 0], false⟩,
  some ⟨.other, 1, 8, [.nilFunc], false⟩,
  some ⟨.other, 1, 8, [.pointer none], false⟩,
  some ⟨.int IntKind.i32, 1, 4, [.int .i32 0], false⟩,
  some ⟨.int IntKind.i32, 1, 4, [.int .i32 0], false⟩,
  some ⟨.struct [(0, 12), (1, 12), (2, 150), (3, 168), (4, 5), (5, 5), (6, 169), (7, 170), (8, 171), (9, 172), (10, 173)], 11, 48, [.int .u64 0, .int .u64 0, .int .u32 0, .int .u8 0, .int .u8 0, .int .u8 0, .int .u8 0, .nilFunc, .pointer none, .int .i32 0, .int .i32 0], false⟩,
  some ⟨.struct [(0, 12), (1, 12), (2, 150), (3, 168), (4, 5), (5, 5), (6, 169), (7, 170), (8, 171), (9, 172), (10, 173)], 11, 48, [.int .u64 0, .int .u64 0, .int .u32 0, .int .u8 0, .int .u8 0, .int .u8 0, .int .u8 0, .nilFunc, .pointer none, .int .i32 0, .int .i32 0], false⟩,
  some ⟨.other, 1, 8, [.pointer none], false⟩]

theorem tab_ok : tabOK Try.prog tab := by
  unfold tabOK
  kernel_rfl

/-- The program, its types, the first world W0, and what the package-level variables G say there. -/
@[reducible] noncomputable def Xc (W0 : World) (G : Nat → Option AV) : Ctx := ⟨Try.prog, fun t => tab.getD t none, W0, G⟩

noncomputable def codeOf (fn : Func) : Code := fn.body.getD .skip

theorem Xc.good {W0 : World} {G : Nat → Option AV} (hG : ∀ g av, G g = some av → Reads (fun _ => default) (fun b _ => b < W0.heap.size) W0 av 0 (.pointer (some ⟨g, 0, none⟩))) : (Xc W0 G).Good :=
  ⟨fun t i h => tab_ok.at h, hG, by kernel_rfl⟩

end
end Go.Fx

/-
  Numbers within bounds, quotients.
-/
namespace Go.Fx
open Go.Proofs

/-- A side condition that is left for later. -/
inductive Side (p : Prop) : Prop where
  | mk (h : p)
/-- Goals that a walk leaves alone. -/
class Stop.{u} (p : Sort u) : Prop
def Stop.go.{u} {p : Sort u} [Stop p] (h : p) : p := h
instance : Stop False := ⟨⟩
instance : Stop Nat := ⟨⟩
instance : Stop (Nat → Nat → AV) := ⟨⟩
instance {a b} : Stop (Sc a b) := ⟨⟩
instance {a} : Stop (Side a) := ⟨⟩
instance {α} {f : α → Prop} : Stop (Exists f) := ⟨⟩
instance {a b c d e f g} : Stop (Ends a b c d e f g) := ⟨⟩
instance {a b} : Stop (Alt a b) := ⟨⟩
instance {a b} : Stop (Le a b) := ⟨⟩
instance {a b c} : Stop (LeAll a b c) := ⟨⟩
theorem Side.get {p : Prop} : Side p → p | ⟨h⟩ => h

theorem AllLe.refl : ∀ (l : List AV), AllLe l l
  | [] => trivial
  | a :: l => ⟨.refl a, AllLe.refl l⟩
theorem le_slc2 {f : Nat → Nat → AV} {a b : Int} (h0 : f 0 0 = .int .i64 a) (h1 : f 1 0 = .int .i64 b) : Le (.slc 1 2 f) (.slc 1 [a, b].length (fun i _ => .int .i64 ([a, b].getD i 0))) :=
  .slc fun i j hi hj => by
    obtain rfl : j = 0 := by omega
    rcases (show i = 0 ∨ i = 1 by omega) with rfl | rfl
    · rw [h0]; exact .refl _
    · rw [h1]; exact .refl _
theorem callAlt {X : Ctx} {gd : Option Prop} {f : FuncId} {args bs : List AV} {r : AV} {k : AV → Prop} {q : Prop} (h : Pure X f bs r) (hl : AllLe args bs) (hf : (bs.all (·.free)) = true) (hk : k r) :
    Alt (∃ as1 r1, Sc gd (Pure X f as1 r1) ∧ Sc gd (AllLe args as1) ∧ (as1.all (·.free)) = true ∧ k r1) q := .one ⟨bs, r, .of h, .of hl, hf, hk⟩

def inB (n lo hi : Int) : Bool := bif decide (lo ≤ n) then decide (n ≤ hi) else false
theorem inB_iff {n lo hi : Int} : inB n lo hi = true ↔ lo ≤ n ∧ n ≤ hi := by
  unfold inB
  by_cases h : lo ≤ n <;> simp [h]

section
variable {W0 : World} {G : Nat → Option AV} (hX : (Xc W0 G).Good)
include hX
theorem c9 (n lo hi : Int) : Pure (Xc W0 G) 9 [.int .i64 n, .int .i64 lo, .int .i64 hi] (.bool (inB n lo hi)) := by
  refine mut_of' hX (show FnIs (Xc W0 G) 9 Try.f9 (codeOf Try.f9) from ⟨by kernel_rfl, by kernel_rfl, by kernel_rfl, by kernel_rfl⟩) rfl ?_
  repeat' (first
    | ((with_reducible refine (?_ : Alt _ _)); first | fail | (with_reducible refine Alt.one ?_))
    | ((with_reducible refine (?_ : AllLe _ _)); first | (first | exact AllLe.refl _ | (repeat' (first | exact trivial | apply Le.aggs | apply Le.tups | apply Le.fns | exact Le.refl _ | refine ⟨?_, ?_⟩))))
    | ((with_reducible refine (?_ : Sc _ (AllRen _ _ _))); refine Sc.of ?_; first | (repeat' (first | exact trivial | apply Le.aggs | apply Le.tups | apply Le.fns | exact Le.refl _ | refine ⟨?_, ?_⟩)))
    | ((with_reducible refine (?_ : (List.all _ _) = true)); rfl)
    | ((with_reducible refine (?_ : (and _ _) = true)); rfl)
    | ((with_reducible refine (?_ : List.Nodup _)); exact nodupB_spec rfl)
    | ((with_reducible refine (?_ : @Eq Nat _ _)); rfl)
    | ((with_reducible refine (?_ : LeOks _ _ _)); first | exact trivial | exact ⟨.refl _, trivial⟩ | exact ⟨.refl _, .refl _, trivial⟩)
    | ((fail_if_success with_reducible refine Stop.go ?_); (first | with_reducible refine And.intro ?_ ?_ | with_reducible refine Cut.go ?_ | (with_reducible (refine impI ?_; intro _)) | (with_reducible refine (?_ : footOK _ _ = true); kernel_rfl) | ((with_reducible refine propI ?_); conv => whnf))))
  all_goals exact .mk [] [] _ rfl (.le (.refl _)) trivial rfl
end
end Go.Fx

/-
  Contracts told in other words; calls that turn blocks, or look at them.
-/
namespace Go.Fx
open Go.RowKit

theorem Le.fns {F : FuncId} {n : Nat} {f g : Nat → AV} (h : LeAll f g n) : Le (.fn F n f) (.fn F n g) := .fn h.out
theorem propI {a : Prop} (h : a) : a := h
theorem impI {a b : Prop} (h : a → b) : a → b := h

section
variable {X : Ctx} {f : FuncId}

/-- What a call leaves, frozen. -/
theorem Mut.freeze {args : List AV} {r r2 : AV} {L : List HObj} (h : Mut X f args [] r L) (F : List Nat) (hr : LeH (only F L) r (ren (numOf []) r2)) (hu : r2.under 0 = true) : Pure X f args r2 := by
  refine ⟨h.1, fun c cargs hok hb hL hsz hargs => (h.2 c cargs hok hb hL hsz hargs).mono fun x w' ⟨v, c', h1, h2, h3, h4, h5⟩ => ?_⟩
  have sat : Sat X 0 c [] L c' { tmps := #[], defers := [] } := ⟨h3, hb.tr h3, h4, fun t => trivial, rfl, [], rfl, List.nodup_nil, by simp⟩
  have h0 : c.H.length = 0 := by rw [hL]; rfl
  obtain ⟨c2, k1, k2, _, k3, k4⟩ := freeze_sound (keep := []) (F := F) (L' := []) sat (by rw [h0]; trivial) rfl (by rw [h0]; rfl)
  rw [h0] at k4
  exact ⟨v, c2, h1, k1.trans h2, k2, k3, k4 h5 hr hu⟩

theorem altM {P : List AV → List Nat → Nat → List HObj → AV → List HObj → Prop} {p q : Prop} {zs : List AV} {ks : List Nat} {m : Nat} {Ls : List HObj} {r : AV} {L' : List HObj} (h : P zs ks m Ls r L') : Alt p (Alt q (∃ zs ks m Ls r L', P zs ks m Ls r L')) := .two (.two ⟨_, _, _, _, _, _, h⟩)
end
end Go.Fx

/-
  The first number that is not 0.
-/
namespace Go.Fx
open Go.Proofs
/-- The first number that is not 0. -/
def firstS : List Int → Int
  | [] => 0
  | x :: r => bif decide (x = 0) then firstS r else x
theorem firstS_hit : ∀ {l : List Int} {i : Nat}, i < l.length → (∀ j, j < i → l.getD j 0 = 0) → l.getD i 0 ≠ 0 → firstS l = l.getD i 0
  | x :: r, 0, _, _, h => by
    have h : x ≠ 0 := h
    simp [firstS, h]
  | x :: r, i + 1, hi, h0, h => by
    have hx : x = 0 := h0 0 (by omega)
    simp only [firstS, hx, decide_true, cond_true]
    exact firstS_hit (l := r) (by simpa using hi) (fun j hj => h0 (j + 1) (by omega)) h
theorem firstS_none : ∀ {l : List Int}, (∀ j, j < l.length → l.getD j 0 = 0) → firstS l = 0
  | [], _ => rfl
  | x :: r, h => by
    have hx : x = 0 := h 0 (by simp)
    simp only [firstS, hx, decide_true, cond_true]
    exact firstS_none (l := r) fun j hj => h (j + 1) (by simpa using hj)
theorem mul_bd {a b A B : Int} (h0 : 0 ≤ a) (h1 : a ≤ A) (h2 : 0 ≤ b) (h3 : b ≤ B) : 0 ≤ a * b ∧ a * b ≤ A * B :=
  ⟨Int.mul_nonneg h0 h2, Int.mul_le_mul h1 h3 h2 (Int.le_trans h0 h1)⟩
theorem le_slc3 {f : Nat → Nat → AV} {a b c : Int} (h0 : f 0 0 = .int .i64 a) (h1 : f 1 0 = .int .i64 b) (h2 : f 2 0 = .int .i64 c) : Le (.slc 1 3 f) (.slc 1 [a, b, c].length (fun i _ => .int .i64 ([a, b, c].getD i 0))) :=
  .slc fun i j hi hj => by
    obtain rfl : j = 0 := by omega
    rcases (show i = 0 ∨ i = 1 ∨ i = 2 by omega) with rfl | rfl | rfl
    · rw [h0]; exact .refl _
    · rw [h1]; exact .refl _
    · rw [h2]; exact .refl _
def iRow (l : List Int) : AV := .slc 1 l.length (fun i _ => .int .i64 (l.getD i 0))
def rangesL : List Int := [1, 100000, 1, 3600, 0, 3, 0, 1000000000, 0, 1000000000, 0, 1000000000, 0, 998244352]
theorem Le.boolT {x y : Bool} (h : x = y) : Le (.bool x) (.bool y) := by rw [h]; exact .refl _
theorem Sc.imp {q p : Prop} (h : q → p) : Sc (some q) p := h
theorem LeH.boolT {H : List HObj} {x y : Bool} (h : x = y) : LeH H (.bool x) (.bool y) := .le (.boolT h)
end Go.Fx
