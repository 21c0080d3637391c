/-
 The library on texts.
-/
import Derived.Test.YtkinfbkpecjpnaaGreatDoorGy
import Derived.Test.YtkinfbkpecjpnaaGreatDoorGg
set_option linter.all false
/-
 The library's functions on texts.
-/
namespace Go.Fx
open Go.Proofs Go.RowKit
section
variable {X : Ctx}
end
section
variable {W0 : World} {G : Nat -> Option AV} (hl : Laid W0)
include hl
theorem c24 (n : Int) (hs : Side (inK .i64 n)) : Pure (Xc W0 G) 24 [.int .i64 n] (.str (toS (Lib.itoa n))) := lib_itoa hl hs.get
theorem c65o (s : ByteArray) (v : Int) (hs : Side (s.size <= 1000000)) (h : Lib.atoiAll s.data.toList = .ok v) : Pure (Xc W0 G) 65 [.str s] (.tup 2 (tbl [.int .i64 v, .val .nilIface])) :=
 lib_atoi hl (by have := hs.get; omega) (by rw [h]; rfl)
end
def atoN (s : ByteArray) : Int := match Lib.atoiAll s.data.toList with | .range => Lib.atoiSat s.data.toList | _ => 0
section
variable {W0 : World} {G : Nat -> Option AV} (hl : Laid W0)
include hl
theorem c65e (s : ByteArray) (hs : Side (s.size <= 1000000)) (h : ∀ v, Lib.atoiAll s.data.toList ≠ .ok v) : Pure (Xc W0 G) 65 [.str s] (.tup 2 (tbl [.int .i64 (atoN s), .ifc])) := by
 refine lib_atoi hl (by have := hs.get; omega) ?_
 unfold atoN
 cases hv : Lib.atoiAll s.data.toList with
 | ok v => exact absurd hv (h v)
 | _ => rfl
end
theorem atoi_in {s : Tx} {v : Int} (h : Lib.atoiAll s = .ok v) : inK .i64 v := by
 unfold Lib.atoiAll at h
 cases s with
 | nil => cases h
 | cons c r =>
  simp only at h
  split at h
  ·cases h
  ·cases h
  ·rename_i u _
   split at h
   ·cases h
   ·split at h
    ·cases h
    ·rename_i h1 h2
     have h := Lib.NumEnd.ok.inj h
     show -9223372036854775808 <= v /\ v <= 9223372036854775807
     split at h <;> omega
end Go.Fx
/-
 The library's functions on the texts of tariffs.
-/
namespace Go.Fx
open Go.Proofs Go.RowKit
section
variable {W0 : World} {G : Nat -> Option AV} (hl : Laid W0)
theorem c39 (s p : ByteArray) (hs : Side (s.size <= 1000000)) : Pure (Xc W0 G) 39 [.str s, .str p] (.str (toS (Lib.trimSuffix s.data.toList p.data.toList))) :=
 mut_lib (enters_lib (by kernel_rfl)) [.string s, .string p] rfl fun w hb => (Tryz.strings_TrimSuffix s p w (by have := hs.get; omega)).mono fun e w' ⟨he, hw⟩ => ⟨_, he, by rw [hw]; exact .refl _ _, fun g => rfl⟩
theorem c48 (s : ByteArray) (c : UInt8) : Pure (Xc W0 G) 48 [.str s, .str (toS [c])] (.bool (decide (0 <= Lib.indexByte s.data.toList c))) :=
 mut_lib (enters_lib (by kernel_rfl)) [.string s, .string (toS [c])] rfl fun w hb => (Tryz.strings_Contains_one s c w).mono fun e w' ⟨he, hw⟩ => ⟨_, he, by rw [hw]; exact .refl _ _, fun g => rfl⟩
theorem c69 (s : ByteArray) : Pure (Xc W0 G) 69 [.str s, .int .u8 10] (.int .i64 (Lib.indexByte s.data.toList 10)) := lib_byte
include hl
theorem c49 (s : ByteArray) (a b : UInt8) (hs : Side (s.size <= 1000000)) : Pure (Xc W0 G) 49 [.str s, .str (toS [a]), .str (toS [b])] (.str (toS (Lib.replaceAll s.data.toList [a] [b]))) := by
 obtain ⟨m, hm⟩ := hl.m
 have hz := hs.get
 have hc : Lib.countB s (toS [a]) <= s.size := by
  rw [show Lib.countB s (toS [a]) = s.data.toList.count a from by rw [<- Lib.count_one]; rfl, size_len]
  exact List.count_le_length
 refine mut_lib (enters_lib (by kernel_rfl)) [.string s, .string (toS [a]), .string (toS [b])] rfl fun w hb => ?_
 refine (Tryz.strings_ReplaceAll s (toS [a]) (toS [b]) m w (by omega) ((hb.cell (cell_lt hm)).trans hm) (Nat.le_refl 1) (by show s.size + Lib.countB s (toS [a]) * 1 <= _; omega)).mono fun e w' ⟨he, hw⟩ => ⟨_, he, hw, fun g => rfl⟩
end
end Go.Fx
