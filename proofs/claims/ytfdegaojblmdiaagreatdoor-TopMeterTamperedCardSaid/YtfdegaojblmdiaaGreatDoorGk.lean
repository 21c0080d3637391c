/-
 The arguments, read off the row's data.
-/
import Derived.Test.YtfdegaojblmdiaaGreatDoorGs
import Derived.Test.YtfdegaojblmdiaaGreatDoorGn
set_option linter.all false
namespace Go.Fx
open Go.Proofs
section
variable {H : Type}
theorem getD_map {α β : Type} (g : α -> β) (l : List α) (i : Nat) (a : α) (b : β) (h : i < l.length) : (l.map g).getD i b = g (l.getD i a) := by
 simp [List.getD_eq_getElem?_getD, List.getElem?_eq_getElem h]
theorem AllLe.get {l m : List AV} (h : AllLe l m) (j : Nat) : Le (l.getD j .any) (m.getD j .any) := by
 rcases Nat.lt_or_ge j l.length with hj | hj
 ·have hj2 : j < m.length := by rw [h.len]; exact hj
  rw [List.getD_eq_getElem?_getD, List.getD_eq_getElem?_getD, List.getElem?_eq_getElem hj, List.getElem?_eq_getElem hj2]
  exact h.at j _ _ (List.getElem?_eq_getElem hj) (List.getElem?_eq_getElem hj2)
 ·have hj2 : m.length <= j := by rw [h.len]; exact hj
  rw [List.getD_eq_getElem?_getD, List.getD_eq_getElem?_getD, List.getElem?_eq_none hj, List.getElem?_eq_none hj2]
  exact .refl _
theorem le_rows {α : Type} (g : DataW H -> α) (enc : α -> List AV) (es : Nat) (z : α) (C : DataW H -> List AV) (l : List (DataW H)) (h : ∀ y, AllLe (C y) (enc (g y))) :
  Le (.slc es l.length (fun i j => (C (l.getD i .nil)).getD j .any)) (.slc es (l.map g).length (fun i j => tbl (enc ((l.map g).getD i z)) j)) :=
 .slcN (by simp) fun i j hi hj => by
  rw [getD_map g l i .nil z hi]
  exact (h _).get j
end
open Go.Proofs
section
variable {H : Type}
theorem le_row1 {α : Type} (g : DataW H -> α) (mk : α -> AV) (z : α) (C : DataW H -> List AV) (l : List (DataW H)) (h : ∀ y, C y = [mk (g y)]) :
  Le (.slc 1 l.length (fun i j => (C (l.getD i .nil)).getD j .any)) (.slc 1 (l.map g).length (fun i _ => mk ((l.map g).getD i z))) :=
 .slcN (by simp) fun i j hi hj => by
  obtain rfl : j = 0 := by omega
  rw [getD_map g l i .nil z hi, h]
  exact .refl _
def rulOf (d : DataW H) : Rul := ⟨dS (dN d 0), dI (dN d 1), dI (dN d 2), (dE (dN d 3)).map dI, (dE (dN d 4)).map dI, dI (dN d 5), dI (dN d 6), dI (dN d 7), dI (dN d 8), dI (dN d 9)⟩
def extOf (d : DataW H) : Ext := ⟨dS (dN d 0), dI (dN d 1)⟩
def fxdOf (d : DataW H) : Fxd := ⟨dI (dN d 0), dI (dN d 1), dI (dN d 2)⟩
def trfOf (d : DataW H) : Trf := ⟨dS (dN d 0), dI (dN d 1), dI (dN d 2), (dE (dN d 3)).map dS, (dE (dN d 4)).map dI, (dE (dN d 5)).map rulOf, (dE (dN d 6)).map extOf, (dE (dN d 7)).map fxdOf⟩
theorem str_cells (y : DataW H) : cellsD Tt 4 9 y = [.str (dS y)] := by kernel_rfl
theorem int_cells (y : DataW H) : cellsD Tt 4 3 y = [.int .i64 (dI y)] := by kernel_rfl
theorem int_cells2 (y : DataW H) : cellsD Tt 2 3 y = [.int .i64 (dI y)] := by kernel_rfl
theorem ext_cells (y : DataW H) : cellsD Tt 4 69 y = extC (extOf y) := by kernel_rfl
theorem fxd_cells (y : DataW H) : cellsD Tt 4 172 y = fxdC (fxdOf y) := by kernel_rfl
def rulP (r : Rul) (z d : AV) : List AV := [.str r.name, .int .i64 r.fr, .int .i64 r.tt, z, d, .int .i64 r.bg, .int .i64 r.en, .int .i64 r.st, .int .i64 r.me, .int .i64 r.se]
theorem rul_cells (y : DataW H) : AllLe (cellsD Tt 4 110 y) (rulC (rulOf y)) := by
 have e : cellsD Tt 4 110 y = rulP (rulOf y) (.slc 1 (dE (dN y 3)).length (fun i j => (cellsD Tt 2 3 ((dE (dN y 3)).getD i .nil)).getD j .any)) (.slc 1 (dE (dN y 4)).length (fun i j => (cellsD Tt 2 3 ((dE (dN y 4)).getD i .nil)).getD j .any)) := by kernel_rfl
 rw [e]
 exact ⟨.refl _, .refl _, .refl _, le_row1 dI (.int .i64) 0 _ _ int_cells2, le_row1 dI (.int .i64) 0 _ _ int_cells2, .refl _, .refl _, .refl _, .refl _, .refl _, trivial⟩
def trfP (t : Trf) (a b c d e : AV) : List AV := [.str t.name, .int .i64 t.unit, .int .i64 t.step, a, b, c, d, e]
theorem trf_arg (d : DataW H) : Le (argAV Tt 6 28 d) (trfA (trfOf d)) := by
 have e : argAV Tt 6 28 d = .agg 8 (tbl (trfP (trfOf d) (.slc 1 (dE (dN d 3)).length (fun i j => (cellsD Tt 4 9 ((dE (dN d 3)).getD i .nil)).getD j .any)) (.slc 1 (dE (dN d 4)).length (fun i j => (cellsD Tt 4 3 ((dE (dN d 4)).getD i .nil)).getD j .any)) (.slc 10 (dE (dN d 5)).length (fun i j => (cellsD Tt 4 110 ((dE (dN d 5)).getD i .nil)).getD j .any)) (.slc 2 (dE (dN d 6)).length (fun i j => (cellsD Tt 4 69 ((dE (dN d 6)).getD i .nil)).getD j .any)) (.slc 3 (dE (dN d 7)).length (fun i j => (cellsD Tt 4 172 ((dE (dN d 7)).getD i .nil)).getD j .any)))) := by kernel_rfl
 rw [e]
 exact .aggs ⟨⟨⟨⟨⟨⟨⟨⟨trivial, .refl _⟩, .refl _⟩, .refl _⟩, le_row1 dS .str bs0 _ _ str_cells⟩, le_row1 dI (.int .i64) 0 _ _ int_cells⟩, le_rows rulOf rulC 10 rul0 _ _ rul_cells⟩, le_rows extOf extC 2 ext0 _ _ fun y => by rw [ext_cells]; exact AllLe.refl _⟩, le_rows fxdOf fxdC 3 fxd0 _ _ fun y => by rw [fxd_cells]; exact AllLe.refl _⟩
def evOf (d : DataW H) : Ev := ⟨dI (dN d 0), dI (dN d 1)⟩
theorem ev_cells (y : DataW H) : cellsD Tt 4 41 y = evC (evOf y) := by kernel_rfl
def logOf (d : DataW H) : Log := ⟨dI (dN d 0), dI (dN (dN d 1) 0), dI (dN (dN d 1) 1), (dE (dN d 2)).map evOf⟩
theorem log_arg (d : DataW H) : Le (argAV Tt 6 33 d) (lgA (logOf d)) := by
 have e : argAV Tt 6 33 d = .agg 4 (tbl (logC (logOf d) (.slc 2 (dE (dN d 2)).length (fun i j => (cellsD Tt 4 41 ((dE (dN d 2)).getD i .nil)).getD j .any)))) := by kernel_rfl
 rw [e]
 exact .aggs ⟨⟨⟨⟨trivial, .refl _⟩, .refl _⟩, .refl _⟩, le_rows evOf evC 2 ev0 _ _ fun y => by rw [ev_cells]; exact .refl _⟩
theorem triple_arg (d : DataW H) : argAV Tt 6 87 d = .agg 3 (tbl [.int .i64 (dI (dN d 0)), .int .i64 (dI (dN d 1)), .int .i64 (dI (dN d 2))]) := by kernel_rfl
end
end Go.Fx
