/-
  The arguments, read off the row's data.
-/
import Derived.Test.YtkinfbkpecjpnaaGreatDoorGs
import Derived.Test.YtkinfbkpecjpnaaGreatDoorGn

set_option linter.all false

/-
  Data, read off the row's data.
-/
namespace Go.Fx
open Go.Proofs

section
variable {H : Type}
theorem getD_map {α β : Type} (g : α → β) (l : List α) (i : Nat) (a : α) (b : β) (h : i < l.length) : (l.map g).getD i b = g (l.getD i a) := by
  simp [List.getD_eq_getElem?_getD, List.getElem?_eq_getElem h]
theorem AllLe.get {l m : List AV} (h : AllLe l m) (j : Nat) : Le (l.getD j .any) (m.getD j .any) := by
  rcases Nat.lt_or_ge j l.length with hj | hj
  · have hj2 : j < m.length := by rw [h.len]; exact hj
    rw [List.getD_eq_getElem?_getD, List.getD_eq_getElem?_getD, List.getElem?_eq_getElem hj, List.getElem?_eq_getElem hj2]
    exact h.at j _ _ (List.getElem?_eq_getElem hj) (List.getElem?_eq_getElem hj2)
  · have hj2 : m.length ≤ j := by rw [h.len]; exact hj
    rw [List.getD_eq_getElem?_getD, List.getD_eq_getElem?_getD, List.getElem?_eq_none hj, List.getElem?_eq_none hj2]
    exact .refl _
/-- A slice of data, row by row. -/
theorem le_rows {α : Type} (g : DataW H → α) (enc : α → List AV) (es : Nat) (z : α) (C : DataW H → List AV) (l : List (DataW H)) (h : ∀ y, AllLe (C y) (enc (g y))) :
    Le (.slc es l.length (fun i j => (C (l.getD i .nil)).getD j .any)) (.slc es (l.map g).length (fun i j => tbl (enc ((l.map g).getD i z)) j)) :=
  .slcN (by simp) fun i j hi hj => by
    rw [getD_map g l i .nil z hi]
    exact (h _).get j

end
end Go.Fx

/-
  Tariffs, trips, moments and places, read off the row's data.
-/
namespace Go.Fx
open Go.Proofs

section
variable {H : Type}
/-- A slice of one-cell elements. -/
theorem le_row1 {α : Type} (g : DataW H → α) (mk : α → AV) (z : α) (C : DataW H → List AV) (l : List (DataW H)) (h : ∀ y, C y = [mk (g y)]) :
    Le (.slc 1 l.length (fun i j => (C (l.getD i .nil)).getD j .any)) (.slc 1 (l.map g).length (fun i _ => mk ((l.map g).getD i z))) :=
  .slcN (by simp) fun i j hi hj => by
    obtain rfl : j = 0 := by omega
    rw [getD_map g l i .nil z hi, h]
    exact .refl _
theorem int_cells (y : DataW H) : cellsD Tt 4 3 y = [.int .i64 (dI y)] := by kernel_rfl
def momOf (d : DataW H) : Mom := ⟨dI (dN d 0), dI (dN d 1)⟩
def segOf (d : DataW H) : Seg := ⟨dI (dN d 0), dI (dN d 1), dI (dN d 2)⟩
def trpOf (d : DataW H) : Trp := ⟨momOf (dN d 0), dB (dN d 1), (dE (dN d 2)).map dI, (dE (dN d 3)).map segOf⟩
theorem seg_cells (y : DataW H) : cellsD Tt 4 72 y = segC (segOf y) := by kernel_rfl
def trpP (x : Trp) (a b : AV) : List AV := [.int .i64 x.m.d, .int .i64 x.m.s, .bool x.fx, a, b]
theorem trp_arg (d : DataW H) : Le (argAV Tt 6 27 d) (trpA (trpOf d)) := by
  have e : argAV Tt 6 27 d = .agg 5 (tbl (trpP (trpOf d) (.slc 1 (dE (dN d 2)).length (fun i j => (cellsD Tt 4 3 ((dE (dN d 2)).getD i .nil)).getD j .any)) (.slc 3 (dE (dN d 3)).length (fun i j => (cellsD Tt 4 72 ((dE (dN d 3)).getD i .nil)).getD j .any)))) := by kernel_rfl
  rw [e]
  exact .aggs ⟨⟨⟨⟨⟨trivial, .refl _⟩, .refl _⟩, .refl _⟩, le_row1 dI (.int .i64) 0 _ _ int_cells⟩, le_rows segOf segC 3 seg0 _ _ fun y => by rw [seg_cells]; exact AllLe.refl _⟩
end
end Go.Fx
