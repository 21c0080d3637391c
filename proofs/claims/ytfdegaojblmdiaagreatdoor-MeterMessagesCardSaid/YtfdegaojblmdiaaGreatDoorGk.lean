/-
  The arguments, read off the row's data.
-/
import Derived.Test.YtfdegaojblmdiaaGreatDoorGs
import Derived.Test.YtfdegaojblmdiaaGreatDoorGn

set_option linter.all false

/-
  Data, read off the row's data.
-/
namespace Go.Fx
open Go.Proofs

section
variable {H : Type}
theorem getD_map {α β : Type} (g : α → β) (l : List α) (i : Nat) (a : α) (b : β) (h : i < l.length) : (l.map g).getD i b = g (l.getD i a) := by
  simp [List.getD_eq_getElem?_getD, List.getElem?_eq_getElem h]
theorem AllLe.get {l m : List AV} (h : AllLe l m) (j : Nat) : Le (l.getD j .any) (m.getD j .any) := by
  rcases Nat.lt_or_ge j l.length with hj | hj
  · have hj2 : j < m.length := by rw [h.len]; exact hj
    rw [List.getD_eq_getElem?_getD, List.getD_eq_getElem?_getD, List.getElem?_eq_getElem hj, List.getElem?_eq_getElem hj2]
    exact h.at j _ _ (List.getElem?_eq_getElem hj) (List.getElem?_eq_getElem hj2)
  · have hj2 : m.length ≤ j := by rw [h.len]; exact hj
    rw [List.getD_eq_getElem?_getD, List.getD_eq_getElem?_getD, List.getElem?_eq_none hj, List.getElem?_eq_none hj2]
    exact .refl _
/-- A slice of data, row by row. -/
theorem le_rows {α : Type} (g : DataW H → α) (enc : α → List AV) (es : Nat) (z : α) (C : DataW H → List AV) (l : List (DataW H)) (h : ∀ y, AllLe (C y) (enc (g y))) :
    Le (.slc es l.length (fun i j => (C (l.getD i .nil)).getD j .any)) (.slc es (l.map g).length (fun i j => tbl (enc ((l.map g).getD i z)) j)) :=
  .slcN (by simp) fun i j hi hj => by
    rw [getD_map g l i .nil z hi]
    exact (h _).get j

end
end Go.Fx

/-
  Tariffs, trips, moments and places, read off the row's data.
-/
namespace Go.Fx
open Go.Proofs

section
variable {H : Type}
/-- Logs. -/
def evOf (d : DataW H) : Ev := ⟨dI (dN d 0), dI (dN d 1)⟩
theorem ev_cells (y : DataW H) : cellsD Tt 4 41 y = evC (evOf y) := by kernel_rfl
def logOf (d : DataW H) : Log := ⟨dI (dN d 0), dI (dN (dN d 1) 0), dI (dN (dN d 1) 1), (dE (dN d 2)).map evOf⟩
theorem log_arg (d : DataW H) : Le (argAV Tt 6 33 d) (lgA (logOf d)) := by
  have e : argAV Tt 6 33 d = .agg 4 (tbl (logC (logOf d) (.slc 2 (dE (dN d 2)).length (fun i j => (cellsD Tt 4 41 ((dE (dN d 2)).getD i .nil)).getD j .any)))) := by kernel_rfl
  rw [e]
  exact .aggs ⟨⟨⟨⟨trivial, .refl _⟩, .refl _⟩, .refl _⟩, le_rows evOf evC 2 ev0 _ _ fun y => by rw [ev_cells]; exact .refl _⟩
theorem int_arg (d : DataW H) : argAV Tt 6 3 d = .int .i64 (dI d) := by kernel_rfl
end
end Go.Fx
