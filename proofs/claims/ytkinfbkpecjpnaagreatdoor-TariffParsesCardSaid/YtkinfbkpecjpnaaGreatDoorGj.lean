/-
 The program reads numbers.
-/
import Derived.Test.YtkinfbkpecjpnaaGreatDoorGi
set_option linter.all false
/-
 The program's texts of trips.
-/
namespace Go.Fx
open Go.Proofs Go.RowKit
section
variable {W0 : World} {G : Nat -> Option AV} (hX : (Xc W0 G).Good) (hl : Laid W0)
include hX hl
end
end Go.Fx
/-
 Numbers with commas between, as the program reads them.
-/
namespace Go.Fx
open Go.Proofs Go.RowKit
theorem atoN_in (w : ByteArray) : inK .i64 (atoN w) := by
 show -9223372036854775808 <= atoN w /\ atoN w <= 9223372036854775807
 unfold atoN Lib.atoiSat
 split
 ·split <;> exact ⟨by decide, by decide⟩
 ·exact ⟨by decide, by decide⟩
theorem atoi_two (w : ByteArray) : (∃ v, Lib.atoiAll w.data.toList = .ok v) \/ ∀ v, Lib.atoiAll w.data.toList ≠ .ok v := by
 by_cases h : ∃ v, Lib.atoiAll w.data.toList = .ok v
 ·exact .inl h
 ·exact .inr fun v hv => h ⟨v, hv⟩
section
variable {W0 : World} {G : Nat -> Option AV} (hX : (Xc W0 G).Good) (hl : Laid W0)
include hX hl
end
end Go.Fx
