/-
 The arguments, read off the row's data.
-/
import Derived.Test.YtkinfbkpecjpnaaGreatDoorGs
import Derived.Test.YtkinfbkpecjpnaaGreatDoorGn
set_option linter.all false
/-
 Data, read off the row's data.
-/
namespace Go.Fx
open Go.Proofs
section
variable {H : Type}
theorem AllLe.get {l m : List AV} (h : AllLe l m) (j : Nat) : Le (l.getD j .any) (m.getD j .any) := by
 rcases Nat.lt_or_ge j l.length with hj | hj
 ·have hj2 : j < m.length := by rw [h.len]; exact hj
  rw [List.getD_eq_getElem?_getD, List.getD_eq_getElem?_getD, List.getElem?_eq_getElem hj, List.getElem?_eq_getElem hj2]
  exact h.at j _ _ (List.getElem?_eq_getElem hj) (List.getElem?_eq_getElem hj2)
 ·have hj2 : m.length <= j := by rw [h.len]; exact hj
  rw [List.getD_eq_getElem?_getD, List.getD_eq_getElem?_getD, List.getElem?_eq_none hj, List.getElem?_eq_none hj2]
  exact .refl _
end
end Go.Fx
/-
 Tariffs, trips, moments and places, read off the row's data.
-/
namespace Go.Fx
open Go.Proofs
section
variable {H : Type}
end
end Go.Fx
