/-
 The program's draft of a tariff: a line read.
-/
import Derived.Test.YtkinfbkpecjpnaaGreatDoorHb
set_option linter.all false
/-
 The draft of a tariff: its lines.
-/
namespace Go.Fx
open Go.Proofs Go.RowKit
structure Dft where
 t : Trf
 l0 : List Int
 l1 : List Int
 l2 : List Int
 l3 : List Int
 l4 : List Int
 l5 : List Int
def drO (d : Dft) : List HObj := [.box [.str d.t.name, .int .i64 d.t.unit, .int .i64 d.t.step, .own 1 (d.t.zones.length + 1), .own 2 (d.t.hol.length + 1), .own 3 (d.t.rules.length + 1), .own 4 (d.t.extras.length + 1), .own 5 (d.t.fixed.length + 1), .own 6 (d.l0.length + 1), .own 7 (d.l1.length + 1), .own 8 (d.l2.length + 1), .own 9 (d.l3.length + 1), .own 10 (d.l4.length + 1), .own 11 (d.l5.length + 1)], .list 9 1 d.t.zones.length (fun a _ => .str (d.t.zones.getD a bs0)) (d.t.zones.length + 1), .list 3 1 d.t.hol.length (fun a _ => .int .i64 (d.t.hol.getD a 0)) (d.t.hol.length + 1), .list 113 10 d.t.rules.length (fun a j => tbl (rulC (d.t.rules.getD a rul0)) j) (d.t.rules.length + 1), .list 115 2 d.t.extras.length (fun a j => tbl (extC (d.t.extras.getD a ext0)) j) (d.t.extras.length + 1), .list 117 3 d.t.fixed.length (fun a j => tbl (fxdC (d.t.fixed.getD a fxd0)) j) (d.t.fixed.length + 1), .list 3 1 d.l0.length (fun a _ => .int .i64 (d.l0.getD a 0)) (d.l0.length + 1), .list 3 1 d.l1.length (fun a _ => .int .i64 (d.l1.getD a 0)) (d.l1.length + 1), .list 3 1 d.l2.length (fun a _ => .int .i64 (d.l2.getD a 0)) (d.l2.length + 1), .list 3 1 d.l3.length (fun a _ => .int .i64 (d.l3.getD a 0)) (d.l3.length + 1), .list 3 1 d.l4.length (fun a _ => .int .i64 (d.l4.getD a 0)) (d.l4.length + 1), .list 3 1 d.l5.length (fun a _ => .int .i64 (d.l5.getD a 0)) (d.l5.length + 1)]
theorem push_iw {Q : List Int} {x : Int} {a : Nat} {g : Nat -> Nat -> AV} (hg : g 0 0 = .int .i64 x) (ha : a < Q.length + 1) : joinF Q.length (fun a _ => AV.int .i64 (Q.getD a 0)) g a 0 = AV.int .i64 ((Q ++ [x]).getD a 0) := by
 unfold joinF
 by_cases h : a < Q.length
 ·rw [if_pos h]; simp only [List.getD_eq_getElem?_getD, List.getElem?_append_left h]
 ·obtain rfl : a = Q.length := by omega
  rw [if_neg h, Nat.sub_self, hg]
  simp [List.getD_eq_getElem?_getD]
structure LOk (d : Dft) : Prop where
 l0 : d.l0.length <= 1000
 l1 : d.l1.length <= 1000
 l2 : d.l2.length <= 1000
 l3 : d.l3.length <= 1000
 l4 : d.l4.length <= 1000
 l5 : d.l5.length <= 1000
section
variable {W0 : World} {G : Nat -> Option AV} (hX : (Xc W0 G).Good) (hl : Laid W0)
include hX hl
omit hX hl in
theorem drO_l0 (d : Dft) (x : Int) : drO { d with l0 := d.l0 ++ [x] } = [.box [.str d.t.name, .int .i64 d.t.unit, .int .i64 d.t.step, .own 1 (d.t.zones.length + 1), .own 2 (d.t.hol.length + 1), .own 3 (d.t.rules.length + 1), .own 4 (d.t.extras.length + 1), .own 5 (d.t.fixed.length + 1), .own 6 (d.l0.length + 1 + 1), .own 7 (d.l1.length + 1), .own 8 (d.l2.length + 1), .own 9 (d.l3.length + 1), .own 10 (d.l4.length + 1), .own 11 (d.l5.length + 1)], .list 9 1 (d.t.zones.length) (fun a _ => .str (d.t.zones.getD a bs0)) (d.t.zones.length + 1), .list 3 1 (d.t.hol.length) (fun a _ => .int .i64 (d.t.hol.getD a 0)) (d.t.hol.length + 1), .list 113 10 (d.t.rules.length) (fun a j => tbl (rulC (d.t.rules.getD a rul0)) j) (d.t.rules.length + 1), .list 115 2 (d.t.extras.length) (fun a j => tbl (extC (d.t.extras.getD a ext0)) j) (d.t.extras.length + 1), .list 117 3 (d.t.fixed.length) (fun a j => tbl (fxdC (d.t.fixed.getD a fxd0)) j) (d.t.fixed.length + 1), .list 3 1 (d.l0.length + 1) (fun a _ => .int .i64 ((d.l0 ++ [x]).getD a 0)) (d.l0.length + 1 + 1), .list 3 1 (d.l1.length) (fun a _ => .int .i64 (d.l1.getD a 0)) (d.l1.length + 1), .list 3 1 (d.l2.length) (fun a _ => .int .i64 (d.l2.getD a 0)) (d.l2.length + 1), .list 3 1 (d.l3.length) (fun a _ => .int .i64 (d.l3.getD a 0)) (d.l3.length + 1), .list 3 1 (d.l4.length) (fun a _ => .int .i64 (d.l4.getD a 0)) (d.l4.length + 1), .list 3 1 (d.l5.length) (fun a _ => .int .i64 (d.l5.getD a 0)) (d.l5.length + 1)] := by
 unfold drO
 have e : (d.l0 ++ [x]).length = d.l0.length + 1 := by simp
 dsimp only
 rw [e]
theorem c75_0 (d : Dft) (n : Int) (hs : Side (LOk d)) : Mut (Xc W0 G) 75 [.ptr 0 0, .int .i64 0, .int .i64 n] (drO d) (tupAV []) (drO { d with l0 := d.l0 ++ [n] }) := by
 refine mut_of' hX (fnI Tryz.f75) rfl ?_
 repeat' (first
  | (refine Ax.go ?_; first | (with_reducible apply Alt.one))
  | exact Cl.go
  | ((fail_if_success refine Stop.go ?_); first | rw [beqvv (d.l0.length + 1)] | (with_reducible first | apply And.intro | apply Cut.go | (refine impI ?_; intro _)) | (refine propI ?_; conv => whnf)))
 all_goals try exact nbZ
 all_goals try (exact Sc.of ⟨by decide, by decide⟩)
 all_goals try (have h6 := hs.get.l0; exact Sc.of ⟨show (d.l0.length + (0 + 1)) * 8 <= 140737488355328 by omega, show d.l0.length + (0 + 1) <= 9223372036854775807 by omega⟩)
 rw [drO_l0]
 exact .mk [] [] _ rfl (.le (.refl _)) ⟨.le (.refl _), .le (.refl _), .le (.refl _), .le (.refl _), .le (.refl _), .le (.refl _), .le (.list fun a j ha hj => by replace hj : j < 1 := hj; (obtain rfl : j = 0 := (by omega)); exact Le.ofEq (push_iw rfl ha)), .le (.refl _), .le (.refl _), .le (.refl _), .le (.refl _), .le (.refl _), trivial⟩ rfl
omit hX hl in
theorem drO_l1 (d : Dft) (x : Int) : drO { d with l1 := d.l1 ++ [x] } = [.box [.str d.t.name, .int .i64 d.t.unit, .int .i64 d.t.step, .own 1 (d.t.zones.length + 1), .own 2 (d.t.hol.length + 1), .own 3 (d.t.rules.length + 1), .own 4 (d.t.extras.length + 1), .own 5 (d.t.fixed.length + 1), .own 6 (d.l0.length + 1), .own 7 (d.l1.length + 1 + 1), .own 8 (d.l2.length + 1), .own 9 (d.l3.length + 1), .own 10 (d.l4.length + 1), .own 11 (d.l5.length + 1)], .list 9 1 (d.t.zones.length) (fun a _ => .str (d.t.zones.getD a bs0)) (d.t.zones.length + 1), .list 3 1 (d.t.hol.length) (fun a _ => .int .i64 (d.t.hol.getD a 0)) (d.t.hol.length + 1), .list 113 10 (d.t.rules.length) (fun a j => tbl (rulC (d.t.rules.getD a rul0)) j) (d.t.rules.length + 1), .list 115 2 (d.t.extras.length) (fun a j => tbl (extC (d.t.extras.getD a ext0)) j) (d.t.extras.length + 1), .list 117 3 (d.t.fixed.length) (fun a j => tbl (fxdC (d.t.fixed.getD a fxd0)) j) (d.t.fixed.length + 1), .list 3 1 (d.l0.length) (fun a _ => .int .i64 (d.l0.getD a 0)) (d.l0.length + 1), .list 3 1 (d.l1.length + 1) (fun a _ => .int .i64 ((d.l1 ++ [x]).getD a 0)) (d.l1.length + 1 + 1), .list 3 1 (d.l2.length) (fun a _ => .int .i64 (d.l2.getD a 0)) (d.l2.length + 1), .list 3 1 (d.l3.length) (fun a _ => .int .i64 (d.l3.getD a 0)) (d.l3.length + 1), .list 3 1 (d.l4.length) (fun a _ => .int .i64 (d.l4.getD a 0)) (d.l4.length + 1), .list 3 1 (d.l5.length) (fun a _ => .int .i64 (d.l5.getD a 0)) (d.l5.length + 1)] := by
 unfold drO
 have e : (d.l1 ++ [x]).length = d.l1.length + 1 := by simp
 dsimp only
 rw [e]
theorem c75_1 (d : Dft) (n : Int) (hs : Side (LOk d)) : Mut (Xc W0 G) 75 [.ptr 0 0, .int .i64 1, .int .i64 n] (drO d) (tupAV []) (drO { d with l1 := d.l1 ++ [n] }) := by
 refine mut_of' hX (fnI Tryz.f75) rfl ?_
 repeat' (first
  | (refine Ax.go ?_; first | (with_reducible apply Alt.one))
  | exact Cl.go
  | ((fail_if_success refine Stop.go ?_); first | rw [beqvv (d.l1.length + 1)] | (with_reducible first | apply And.intro | apply Cut.go | (refine impI ?_; intro _)) | (refine propI ?_; conv => whnf)))
 all_goals try exact nbZ
 all_goals try (exact Sc.of ⟨by decide, by decide⟩)
 all_goals try (have h6 := hs.get.l1; exact Sc.of ⟨show (d.l1.length + (0 + 1)) * 8 <= 140737488355328 by omega, show d.l1.length + (0 + 1) <= 9223372036854775807 by omega⟩)
 rw [drO_l1]
 exact .mk [] [] _ rfl (.le (.refl _)) ⟨.le (.refl _), .le (.refl _), .le (.refl _), .le (.refl _), .le (.refl _), .le (.refl _), .le (.refl _), .le (.list fun a j ha hj => by replace hj : j < 1 := hj; (obtain rfl : j = 0 := (by omega)); exact Le.ofEq (push_iw rfl ha)), .le (.refl _), .le (.refl _), .le (.refl _), .le (.refl _), trivial⟩ rfl
omit hX hl in
theorem drO_l2 (d : Dft) (x : Int) : drO { d with l2 := d.l2 ++ [x] } = [.box [.str d.t.name, .int .i64 d.t.unit, .int .i64 d.t.step, .own 1 (d.t.zones.length + 1), .own 2 (d.t.hol.length + 1), .own 3 (d.t.rules.length + 1), .own 4 (d.t.extras.length + 1), .own 5 (d.t.fixed.length + 1), .own 6 (d.l0.length + 1), .own 7 (d.l1.length + 1), .own 8 (d.l2.length + 1 + 1), .own 9 (d.l3.length + 1), .own 10 (d.l4.length + 1), .own 11 (d.l5.length + 1)], .list 9 1 (d.t.zones.length) (fun a _ => .str (d.t.zones.getD a bs0)) (d.t.zones.length + 1), .list 3 1 (d.t.hol.length) (fun a _ => .int .i64 (d.t.hol.getD a 0)) (d.t.hol.length + 1), .list 113 10 (d.t.rules.length) (fun a j => tbl (rulC (d.t.rules.getD a rul0)) j) (d.t.rules.length + 1), .list 115 2 (d.t.extras.length) (fun a j => tbl (extC (d.t.extras.getD a ext0)) j) (d.t.extras.length + 1), .list 117 3 (d.t.fixed.length) (fun a j => tbl (fxdC (d.t.fixed.getD a fxd0)) j) (d.t.fixed.length + 1), .list 3 1 (d.l0.length) (fun a _ => .int .i64 (d.l0.getD a 0)) (d.l0.length + 1), .list 3 1 (d.l1.length) (fun a _ => .int .i64 (d.l1.getD a 0)) (d.l1.length + 1), .list 3 1 (d.l2.length + 1) (fun a _ => .int .i64 ((d.l2 ++ [x]).getD a 0)) (d.l2.length + 1 + 1), .list 3 1 (d.l3.length) (fun a _ => .int .i64 (d.l3.getD a 0)) (d.l3.length + 1), .list 3 1 (d.l4.length) (fun a _ => .int .i64 (d.l4.getD a 0)) (d.l4.length + 1), .list 3 1 (d.l5.length) (fun a _ => .int .i64 (d.l5.getD a 0)) (d.l5.length + 1)] := by
 unfold drO
 have e : (d.l2 ++ [x]).length = d.l2.length + 1 := by simp
 dsimp only
 rw [e]
theorem c75_2 (d : Dft) (n : Int) (hs : Side (LOk d)) : Mut (Xc W0 G) 75 [.ptr 0 0, .int .i64 2, .int .i64 n] (drO d) (tupAV []) (drO { d with l2 := d.l2 ++ [n] }) := by
 refine mut_of' hX (fnI Tryz.f75) rfl ?_
 repeat' (first
  | (refine Ax.go ?_; first | (with_reducible apply Alt.one))
  | exact Cl.go
  | ((fail_if_success refine Stop.go ?_); first | rw [beqvv (d.l2.length + 1)] | (with_reducible first | apply And.intro | apply Cut.go | (refine impI ?_; intro _)) | (refine propI ?_; conv => whnf)))
 all_goals try exact nbZ
 all_goals try (exact Sc.of ⟨by decide, by decide⟩)
 all_goals try (have h6 := hs.get.l2; exact Sc.of ⟨show (d.l2.length + (0 + 1)) * 8 <= 140737488355328 by omega, show d.l2.length + (0 + 1) <= 9223372036854775807 by omega⟩)
 rw [drO_l2]
 exact .mk [] [] _ rfl (.le (.refl _)) ⟨.le (.refl _), .le (.refl _), .le (.refl _), .le (.refl _), .le (.refl _), .le (.refl _), .le (.refl _), .le (.refl _), .le (.list fun a j ha hj => by replace hj : j < 1 := hj; (obtain rfl : j = 0 := (by omega)); exact Le.ofEq (push_iw rfl ha)), .le (.refl _), .le (.refl _), .le (.refl _), trivial⟩ rfl
omit hX hl in
theorem drO_l3 (d : Dft) (x : Int) : drO { d with l3 := d.l3 ++ [x] } = [.box [.str d.t.name, .int .i64 d.t.unit, .int .i64 d.t.step, .own 1 (d.t.zones.length + 1), .own 2 (d.t.hol.length + 1), .own 3 (d.t.rules.length + 1), .own 4 (d.t.extras.length + 1), .own 5 (d.t.fixed.length + 1), .own 6 (d.l0.length + 1), .own 7 (d.l1.length + 1), .own 8 (d.l2.length + 1), .own 9 (d.l3.length + 1 + 1), .own 10 (d.l4.length + 1), .own 11 (d.l5.length + 1)], .list 9 1 (d.t.zones.length) (fun a _ => .str (d.t.zones.getD a bs0)) (d.t.zones.length + 1), .list 3 1 (d.t.hol.length) (fun a _ => .int .i64 (d.t.hol.getD a 0)) (d.t.hol.length + 1), .list 113 10 (d.t.rules.length) (fun a j => tbl (rulC (d.t.rules.getD a rul0)) j) (d.t.rules.length + 1), .list 115 2 (d.t.extras.length) (fun a j => tbl (extC (d.t.extras.getD a ext0)) j) (d.t.extras.length + 1), .list 117 3 (d.t.fixed.length) (fun a j => tbl (fxdC (d.t.fixed.getD a fxd0)) j) (d.t.fixed.length + 1), .list 3 1 (d.l0.length) (fun a _ => .int .i64 (d.l0.getD a 0)) (d.l0.length + 1), .list 3 1 (d.l1.length) (fun a _ => .int .i64 (d.l1.getD a 0)) (d.l1.length + 1), .list 3 1 (d.l2.length) (fun a _ => .int .i64 (d.l2.getD a 0)) (d.l2.length + 1), .list 3 1 (d.l3.length + 1) (fun a _ => .int .i64 ((d.l3 ++ [x]).getD a 0)) (d.l3.length + 1 + 1), .list 3 1 (d.l4.length) (fun a _ => .int .i64 (d.l4.getD a 0)) (d.l4.length + 1), .list 3 1 (d.l5.length) (fun a _ => .int .i64 (d.l5.getD a 0)) (d.l5.length + 1)] := by
 unfold drO
 have e : (d.l3 ++ [x]).length = d.l3.length + 1 := by simp
 dsimp only
 rw [e]
theorem c75_3 (d : Dft) (n : Int) (hs : Side (LOk d)) : Mut (Xc W0 G) 75 [.ptr 0 0, .int .i64 3, .int .i64 n] (drO d) (tupAV []) (drO { d with l3 := d.l3 ++ [n] }) := by
 refine mut_of' hX (fnI Tryz.f75) rfl ?_
 repeat' (first
  | (refine Ax.go ?_; first | (with_reducible apply Alt.one))
  | exact Cl.go
  | ((fail_if_success refine Stop.go ?_); first | rw [beqvv (d.l3.length + 1)] | (with_reducible first | apply And.intro | apply Cut.go | (refine impI ?_; intro _)) | (refine propI ?_; conv => whnf)))
 all_goals try exact nbZ
 all_goals try (exact Sc.of ⟨by decide, by decide⟩)
 all_goals try (have h6 := hs.get.l3; exact Sc.of ⟨show (d.l3.length + (0 + 1)) * 8 <= 140737488355328 by omega, show d.l3.length + (0 + 1) <= 9223372036854775807 by omega⟩)
 rw [drO_l3]
 exact .mk [] [] _ rfl (.le (.refl _)) ⟨.le (.refl _), .le (.refl _), .le (.refl _), .le (.refl _), .le (.refl _), .le (.refl _), .le (.refl _), .le (.refl _), .le (.refl _), .le (.list fun a j ha hj => by replace hj : j < 1 := hj; (obtain rfl : j = 0 := (by omega)); exact Le.ofEq (push_iw rfl ha)), .le (.refl _), .le (.refl _), trivial⟩ rfl
omit hX hl in
theorem drO_l4 (d : Dft) (x : Int) : drO { d with l4 := d.l4 ++ [x] } = [.box [.str d.t.name, .int .i64 d.t.unit, .int .i64 d.t.step, .own 1 (d.t.zones.length + 1), .own 2 (d.t.hol.length + 1), .own 3 (d.t.rules.length + 1), .own 4 (d.t.extras.length + 1), .own 5 (d.t.fixed.length + 1), .own 6 (d.l0.length + 1), .own 7 (d.l1.length + 1), .own 8 (d.l2.length + 1), .own 9 (d.l3.length + 1), .own 10 (d.l4.length + 1 + 1), .own 11 (d.l5.length + 1)], .list 9 1 (d.t.zones.length) (fun a _ => .str (d.t.zones.getD a bs0)) (d.t.zones.length + 1), .list 3 1 (d.t.hol.length) (fun a _ => .int .i64 (d.t.hol.getD a 0)) (d.t.hol.length + 1), .list 113 10 (d.t.rules.length) (fun a j => tbl (rulC (d.t.rules.getD a rul0)) j) (d.t.rules.length + 1), .list 115 2 (d.t.extras.length) (fun a j => tbl (extC (d.t.extras.getD a ext0)) j) (d.t.extras.length + 1), .list 117 3 (d.t.fixed.length) (fun a j => tbl (fxdC (d.t.fixed.getD a fxd0)) j) (d.t.fixed.length + 1), .list 3 1 (d.l0.length) (fun a _ => .int .i64 (d.l0.getD a 0)) (d.l0.length + 1), .list 3 1 (d.l1.length) (fun a _ => .int .i64 (d.l1.getD a 0)) (d.l1.length + 1), .list 3 1 (d.l2.length) (fun a _ => .int .i64 (d.l2.getD a 0)) (d.l2.length + 1), .list 3 1 (d.l3.length) (fun a _ => .int .i64 (d.l3.getD a 0)) (d.l3.length + 1), .list 3 1 (d.l4.length + 1) (fun a _ => .int .i64 ((d.l4 ++ [x]).getD a 0)) (d.l4.length + 1 + 1), .list 3 1 (d.l5.length) (fun a _ => .int .i64 (d.l5.getD a 0)) (d.l5.length + 1)] := by
 unfold drO
 have e : (d.l4 ++ [x]).length = d.l4.length + 1 := by simp
 dsimp only
 rw [e]
theorem c75_4 (d : Dft) (n : Int) (hs : Side (LOk d)) : Mut (Xc W0 G) 75 [.ptr 0 0, .int .i64 4, .int .i64 n] (drO d) (tupAV []) (drO { d with l4 := d.l4 ++ [n] }) := by
 refine mut_of' hX (fnI Tryz.f75) rfl ?_
 repeat' (first
  | (refine Ax.go ?_; first | (with_reducible apply Alt.one))
  | exact Cl.go
  | ((fail_if_success refine Stop.go ?_); first | rw [beqvv (d.l4.length + 1)] | (with_reducible first | apply And.intro | apply Cut.go | (refine impI ?_; intro _)) | (refine propI ?_; conv => whnf)))
 all_goals try exact nbZ
 all_goals try (exact Sc.of ⟨by decide, by decide⟩)
 all_goals try (have h6 := hs.get.l4; exact Sc.of ⟨show (d.l4.length + (0 + 1)) * 8 <= 140737488355328 by omega, show d.l4.length + (0 + 1) <= 9223372036854775807 by omega⟩)
 rw [drO_l4]
 exact .mk [] [] _ rfl (.le (.refl _)) ⟨.le (.refl _), .le (.refl _), .le (.refl _), .le (.refl _), .le (.refl _), .le (.refl _), .le (.refl _), .le (.refl _), .le (.refl _), .le (.refl _), .le (.list fun a j ha hj => by replace hj : j < 1 := hj; (obtain rfl : j = 0 := (by omega)); exact Le.ofEq (push_iw rfl ha)), .le (.refl _), trivial⟩ rfl
omit hX hl in
theorem drO_l5 (d : Dft) (x : Int) : drO { d with l5 := d.l5 ++ [x] } = [.box [.str d.t.name, .int .i64 d.t.unit, .int .i64 d.t.step, .own 1 (d.t.zones.length + 1), .own 2 (d.t.hol.length + 1), .own 3 (d.t.rules.length + 1), .own 4 (d.t.extras.length + 1), .own 5 (d.t.fixed.length + 1), .own 6 (d.l0.length + 1), .own 7 (d.l1.length + 1), .own 8 (d.l2.length + 1), .own 9 (d.l3.length + 1), .own 10 (d.l4.length + 1), .own 11 (d.l5.length + 1 + 1)], .list 9 1 (d.t.zones.length) (fun a _ => .str (d.t.zones.getD a bs0)) (d.t.zones.length + 1), .list 3 1 (d.t.hol.length) (fun a _ => .int .i64 (d.t.hol.getD a 0)) (d.t.hol.length + 1), .list 113 10 (d.t.rules.length) (fun a j => tbl (rulC (d.t.rules.getD a rul0)) j) (d.t.rules.length + 1), .list 115 2 (d.t.extras.length) (fun a j => tbl (extC (d.t.extras.getD a ext0)) j) (d.t.extras.length + 1), .list 117 3 (d.t.fixed.length) (fun a j => tbl (fxdC (d.t.fixed.getD a fxd0)) j) (d.t.fixed.length + 1), .list 3 1 (d.l0.length) (fun a _ => .int .i64 (d.l0.getD a 0)) (d.l0.length + 1), .list 3 1 (d.l1.length) (fun a _ => .int .i64 (d.l1.getD a 0)) (d.l1.length + 1), .list 3 1 (d.l2.length) (fun a _ => .int .i64 (d.l2.getD a 0)) (d.l2.length + 1), .list 3 1 (d.l3.length) (fun a _ => .int .i64 (d.l3.getD a 0)) (d.l3.length + 1), .list 3 1 (d.l4.length) (fun a _ => .int .i64 (d.l4.getD a 0)) (d.l4.length + 1), .list 3 1 (d.l5.length + 1) (fun a _ => .int .i64 ((d.l5 ++ [x]).getD a 0)) (d.l5.length + 1 + 1)] := by
 unfold drO
 have e : (d.l5 ++ [x]).length = d.l5.length + 1 := by simp
 dsimp only
 rw [e]
theorem c75_5 (d : Dft) (n : Int) (hs : Side (LOk d)) : Mut (Xc W0 G) 75 [.ptr 0 0, .int .i64 5, .int .i64 n] (drO d) (tupAV []) (drO { d with l5 := d.l5 ++ [n] }) := by
 refine mut_of' hX (fnI Tryz.f75) rfl ?_
 repeat' (first
  | (refine Ax.go ?_; first | (with_reducible apply Alt.one))
  | exact Cl.go
  | ((fail_if_success refine Stop.go ?_); first | rw [beqvv (d.l5.length + 1)] | (with_reducible first | apply And.intro | apply Cut.go | (refine impI ?_; intro _)) | (refine propI ?_; conv => whnf)))
 all_goals try exact nbZ
 all_goals try (exact Sc.of ⟨by decide, by decide⟩)
 all_goals try (have h6 := hs.get.l5; exact Sc.of ⟨show (d.l5.length + (0 + 1)) * 8 <= 140737488355328 by omega, show d.l5.length + (0 + 1) <= 9223372036854775807 by omega⟩)
 rw [drO_l5]
 exact .mk [] [] _ rfl (.le (.refl _)) ⟨.le (.refl _), .le (.refl _), .le (.refl _), .le (.refl _), .le (.refl _), .le (.refl _), .le (.refl _), .le (.refl _), .le (.refl _), .le (.refl _), .le (.refl _), .le (.list fun a j ha hj => by replace hj : j < 1 := hj; (obtain rfl : j = 0 := (by omega)); exact Le.ofEq (push_iw rfl ha)), trivial⟩ rfl
def kinds5 : List ByteArray := [toS [122, 111, 110, 101], toS [104, 111, 108, 105, 100, 97, 121], toS [114, 117, 108, 101], toS [101, 120, 116, 114, 97], toS [102, 105, 120, 101, 100]]
def tarS : ByteArray := toS [116, 97, 114, 105, 102, 102]
def kndC (b : Bool) (s : ByteArray) : Int := bif !b then isOk (decide (s = tarS)) 7 else isOk (hasB kinds5 kinds5.length s) 7
theorem c72 (b : Bool) (s : ByteArray) : Mut (Xc W0 G) 72 [.str s, .ptr 0 0] [.box [.bool b]] (.int .i64 (kndC b s)) [.box [.bool b]] := by
 refine mut_of' hX (fnI Tryz.f72) rfl ?_
 repeat' (first
  | (refine Ax.go ?_; first | (with_reducible apply callAlt (c74 hX kinds5 s (Side.mk (by decide)))) | (with_reducible apply callAlt (c73 hX _ _)) | (with_reducible apply Alt.one))
  | ((with_reducible refine Ar.go ?_); first | exact ⟨.slcN rfl (fun i j hi hj => by replace hi : i < 5 := hi; replace hj : j < 1 := hj; (obtain rfl : j = 0 := (by omega)); rcases (show i = 0 \/ i = 1 \/ i = 2 \/ i = 3 \/ i = 4 by omega) with rfl | rfl | rfl | rfl | rfl <;> exact .refl _), .refl _, trivial⟩)
  | exact Cl.go
  | ((fail_if_success refine Stop.go ?_); first | (with_reducible first | apply And.intro | apply Cut.go | (refine impI ?_; intro _)) | (refine propI ?_; conv => whnf)))
 all_goals try exact nbZ
 all_goals (rename_i h; unfold kndC; rw [h]; exact .mk [] [] _ rfl (.le (.refl _)) ⟨.le (.refl _), trivial⟩ rfl)
theorem c71k0 (en : Nat) (e c : Int) (b : Bool) : Mut (Xc W0 G) 71 [.ptr 0 0, .fn 72 1 (tbl [.ptr 1 0])] [lnO (⟨[], en, e, c⟩), .box [.bool b]] (.str (toS [])) [lnO (failL ⟨[], en, e, c⟩ 6 (en : Nat)), .box [.bool b]] := by
 refine mut_of' hX (fnI Tryz.f71) rfl ?_
 repeat' (first
  | (refine Ax.go ?_; first | (with_reducible (apply altM (ks := [0]) (m := 0); apply And.intro; apply Sc.of; apply (c129 hX ⟨[], en, e, c⟩ 6 (en : Nat)))) | (with_reducible apply Alt.one))
  | exact Cl.go
  | ((fail_if_success refine Stop.go ?_); first | (with_reducible first | apply And.intro | apply Cut.go | (refine impI ?_; intro _)) | (refine propI ?_; conv => whnf)))
 all_goals try exact nbZ
 all_goals try (rename_i h; exact Bool.noConfusion (show true = false from h))
 all_goals ((with_reducible refine (?_ : Ends _ _ _ _ _ _ _)); exact .mk [] [] _ rfl (.le (.refl _)) ⟨.le (.refl _), .le (.refl _), trivial⟩ rfl)
theorem c71k1 (w : Wd) (r : List Wd) (en : Nat) (e c : Int) (b : Bool) (hw : Side (w.t.length <= 600)) : Mut (Xc W0 G) 71 [.ptr 0 0, .fn 72 1 (tbl [.ptr 1 0])] [lnO (⟨w :: r, en, e, c⟩), .box [.bool b]] (.str (toS w.t)) [lnO (nextL (fun t => kndC b (toS t)) ⟨w :: r, en, e, c⟩), .box [.bool b]] := by
 have hzz : ¬ (((((⟨w :: r, en, e, c⟩ : Ln).ws.length : Nat) : Int) == 0) = true) := fun h => by have h : ((r.length + 1 : Nat) : Int) = 0 := eq_of_beq h; omega
 refine mut_of' hX (fnI Tryz.f71) rfl ?_
 repeat' (first
  | (refine Ax.go ?_; first | (with_reducible (apply altM (ks := [0]) (m := 0); apply And.intro; apply Sc.of; apply (c129 hX ⟨r, en, e, c⟩ ((fun t => kndC b (toS t)) w.t) w.c))) | (with_reducible (apply altM (ks := [1]) (m := 0); apply And.intro; apply Sc.of; apply (c72 hX hl b (toS w.t)))) | (with_reducible apply Alt.one))
  | ((with_reducible refine Lk.go ?_); exact ⟨.boxes ⟨le_tail w r, .refl _, .refl _, .refl _, trivial⟩, trivial⟩)
  | exact Cl.go
  | ((fail_if_success refine Stop.go ?_); first | (with_reducible first | apply And.intro | apply Cut.go | (refine impI ?_; intro _; try (first | exact ko hzz))) | (refine propI ?_; conv => whnf)))
 all_goals try exact nbZ
 all_goals try ((with_reducible refine (?_ : Sc _ _)); exact .of ⟨by decide, by show (0 : Int) < ((r.length + 1 : Nat) : Int); omega⟩)
 all_goals try ((with_reducible refine (?_ : Sc _ _)); exact .of ⟨by decide, by show (1 : Int) <= ((r.length + 1 : Nat) : Int); omega, by omega⟩)
 ·rename_i h; rw [nextL_1 (g := (fun t => kndC b (toS t))) h]; (with_reducible refine (?_ : Ends _ _ _ _ _ _ _)); exact .mk [] [] _ rfl (.le (.refl _)) ⟨.le (.refl _), .le (.refl _), trivial⟩ rfl
 ·rename_i h; rw [nextL_0 (g := (fun t => kndC b (toS t))) h]; (with_reducible refine (?_ : Ends _ _ _ _ _ _ _)); exact .mk [] [] _ rfl (.le (.refl _)) ⟨.le (.boxes ⟨le_tail w r, .refl _, .refl _, .refl _, trivial⟩), .le (.refl _), trivial⟩ rfl
theorem c71k (l : Ln) (b : Bool) (hok : Side (LnOk l)) : Mut (Xc W0 G) 71 [.ptr 0 0, .fn 72 1 (tbl [.ptr 1 0])] [lnO (l), .box [.bool b]] (.str (toS (nextW l))) [lnO (nextL (fun t => kndC b (toS t)) l), .box [.bool b]] := by
 rcases l with ⟨_ | ⟨w, r⟩, en, e, c⟩
 ·exact c71k0 hX hl en e c b
 ·exact c71k1 hX hl w r en e c b (Side.mk (hok.get.t w (List.mem_cons_self ..)))
end
end Go.Fx
/-
 The draft of a tariff: a line read.
-/
namespace Go.Fx
open Go.Proofs Go.RowKit
structure DOk (d : Dft) : Prop where
 z : d.t.zones.length <= 900
 h : d.t.hol.length <= 900
 r : d.t.rules.length <= 900
 e : d.t.extras.length <= 900
 f : d.t.fixed.length <= 900
 l : LOk d
abbrev Dft.nt1 (d : Dft) (x : Int) : Dft := { d with l1 := d.l1 ++ [x] }
abbrev Dft.nt2 (d : Dft) (x : Int) : Dft := { d with l2 := d.l2 ++ [x] }
abbrev Dft.nt3 (d : Dft) (x : Int) : Dft := { d with l3 := d.l3 ++ [x] }
abbrev Dft.nt4 (d : Dft) (x : Int) : Dft := { d with l4 := d.l4 ++ [x] }
abbrev Dft.nt5 (d : Dft) (x : Int) : Dft := { d with l5 := d.l5 ++ [x] }
abbrev Dft.adZ (d : Dft) (x : ByteArray) : Dft := { d with t := { d.t with zones := d.t.zones ++ [x] } }
theorem drO_adZ (d : Dft) (x : ByteArray) : drO (d.adZ x) = [.box [.str d.t.name, .int .i64 d.t.unit, .int .i64 d.t.step, .own 1 (d.t.zones.length + 1 + 1), .own 2 (d.t.hol.length + 1), .own 3 (d.t.rules.length + 1), .own 4 (d.t.extras.length + 1), .own 5 (d.t.fixed.length + 1), .own 6 (d.l0.length + 1), .own 7 (d.l1.length + 1), .own 8 (d.l2.length + 1), .own 9 (d.l3.length + 1), .own 10 (d.l4.length + 1), .own 11 (d.l5.length + 1)], .list 9 1 (d.t.zones.length + 1) (fun a _ => .str ((d.t.zones ++ [x]).getD a bs0)) (d.t.zones.length + 1 + 1), .list 3 1 (d.t.hol.length) (fun a _ => .int .i64 (d.t.hol.getD a 0)) (d.t.hol.length + 1), .list 113 10 (d.t.rules.length) (fun a j => tbl (rulC (d.t.rules.getD a rul0)) j) (d.t.rules.length + 1), .list 115 2 (d.t.extras.length) (fun a j => tbl (extC (d.t.extras.getD a ext0)) j) (d.t.extras.length + 1), .list 117 3 (d.t.fixed.length) (fun a j => tbl (fxdC (d.t.fixed.getD a fxd0)) j) (d.t.fixed.length + 1), .list 3 1 (d.l0.length) (fun a _ => .int .i64 (d.l0.getD a 0)) (d.l0.length + 1), .list 3 1 (d.l1.length) (fun a _ => .int .i64 (d.l1.getD a 0)) (d.l1.length + 1), .list 3 1 (d.l2.length) (fun a _ => .int .i64 (d.l2.getD a 0)) (d.l2.length + 1), .list 3 1 (d.l3.length) (fun a _ => .int .i64 (d.l3.getD a 0)) (d.l3.length + 1), .list 3 1 (d.l4.length) (fun a _ => .int .i64 (d.l4.getD a 0)) (d.l4.length + 1), .list 3 1 (d.l5.length) (fun a _ => .int .i64 (d.l5.getD a 0)) (d.l5.length + 1)] := by
 unfold drO
 have e : (d.t.zones ++ [x]).length = d.t.zones.length + 1 := by simp
 dsimp only [Dft.adZ]
 rw [e]
abbrev Dft.adH (d : Dft) (x : Int) : Dft := { d with t := { d.t with hol := d.t.hol ++ [x] } }
theorem drO_adH (d : Dft) (x : Int) : drO (d.adH x) = [.box [.str d.t.name, .int .i64 d.t.unit, .int .i64 d.t.step, .own 1 (d.t.zones.length + 1), .own 2 (d.t.hol.length + 1 + 1), .own 3 (d.t.rules.length + 1), .own 4 (d.t.extras.length + 1), .own 5 (d.t.fixed.length + 1), .own 6 (d.l0.length + 1), .own 7 (d.l1.length + 1), .own 8 (d.l2.length + 1), .own 9 (d.l3.length + 1), .own 10 (d.l4.length + 1), .own 11 (d.l5.length + 1)], .list 9 1 (d.t.zones.length) (fun a _ => .str (d.t.zones.getD a bs0)) (d.t.zones.length + 1), .list 3 1 (d.t.hol.length + 1) (fun a _ => .int .i64 ((d.t.hol ++ [x]).getD a 0)) (d.t.hol.length + 1 + 1), .list 113 10 (d.t.rules.length) (fun a j => tbl (rulC (d.t.rules.getD a rul0)) j) (d.t.rules.length + 1), .list 115 2 (d.t.extras.length) (fun a j => tbl (extC (d.t.extras.getD a ext0)) j) (d.t.extras.length + 1), .list 117 3 (d.t.fixed.length) (fun a j => tbl (fxdC (d.t.fixed.getD a fxd0)) j) (d.t.fixed.length + 1), .list 3 1 (d.l0.length) (fun a _ => .int .i64 (d.l0.getD a 0)) (d.l0.length + 1), .list 3 1 (d.l1.length) (fun a _ => .int .i64 (d.l1.getD a 0)) (d.l1.length + 1), .list 3 1 (d.l2.length) (fun a _ => .int .i64 (d.l2.getD a 0)) (d.l2.length + 1), .list 3 1 (d.l3.length) (fun a _ => .int .i64 (d.l3.getD a 0)) (d.l3.length + 1), .list 3 1 (d.l4.length) (fun a _ => .int .i64 (d.l4.getD a 0)) (d.l4.length + 1), .list 3 1 (d.l5.length) (fun a _ => .int .i64 (d.l5.getD a 0)) (d.l5.length + 1)] := by
 unfold drO
 have e : (d.t.hol ++ [x]).length = d.t.hol.length + 1 := by simp
 dsimp only [Dft.adH]
 rw [e]
abbrev Dft.adR (d : Dft) (x : Rul) : Dft := { d with t := { d.t with rules := d.t.rules ++ [x] } }
theorem drO_adR (d : Dft) (x : Rul) : drO (d.adR x) = [.box [.str d.t.name, .int .i64 d.t.unit, .int .i64 d.t.step, .own 1 (d.t.zones.length + 1), .own 2 (d.t.hol.length + 1), .own 3 (d.t.rules.length + 1 + 1), .own 4 (d.t.extras.length + 1), .own 5 (d.t.fixed.length + 1), .own 6 (d.l0.length + 1), .own 7 (d.l1.length + 1), .own 8 (d.l2.length + 1), .own 9 (d.l3.length + 1), .own 10 (d.l4.length + 1), .own 11 (d.l5.length + 1)], .list 9 1 (d.t.zones.length) (fun a _ => .str (d.t.zones.getD a bs0)) (d.t.zones.length + 1), .list 3 1 (d.t.hol.length) (fun a _ => .int .i64 (d.t.hol.getD a 0)) (d.t.hol.length + 1), .list 113 10 (d.t.rules.length + 1) (fun a j => tbl (rulC ((d.t.rules ++ [x]).getD a rul0)) j) (d.t.rules.length + 1 + 1), .list 115 2 (d.t.extras.length) (fun a j => tbl (extC (d.t.extras.getD a ext0)) j) (d.t.extras.length + 1), .list 117 3 (d.t.fixed.length) (fun a j => tbl (fxdC (d.t.fixed.getD a fxd0)) j) (d.t.fixed.length + 1), .list 3 1 (d.l0.length) (fun a _ => .int .i64 (d.l0.getD a 0)) (d.l0.length + 1), .list 3 1 (d.l1.length) (fun a _ => .int .i64 (d.l1.getD a 0)) (d.l1.length + 1), .list 3 1 (d.l2.length) (fun a _ => .int .i64 (d.l2.getD a 0)) (d.l2.length + 1), .list 3 1 (d.l3.length) (fun a _ => .int .i64 (d.l3.getD a 0)) (d.l3.length + 1), .list 3 1 (d.l4.length) (fun a _ => .int .i64 (d.l4.getD a 0)) (d.l4.length + 1), .list 3 1 (d.l5.length) (fun a _ => .int .i64 (d.l5.getD a 0)) (d.l5.length + 1)] := by
 unfold drO
 have e : (d.t.rules ++ [x]).length = d.t.rules.length + 1 := by simp
 dsimp only [Dft.adR]
 rw [e]
abbrev Dft.adE (d : Dft) (x : Ext) : Dft := { d with t := { d.t with extras := d.t.extras ++ [x] } }
theorem drO_adE (d : Dft) (x : Ext) : drO (d.adE x) = [.box [.str d.t.name, .int .i64 d.t.unit, .int .i64 d.t.step, .own 1 (d.t.zones.length + 1), .own 2 (d.t.hol.length + 1), .own 3 (d.t.rules.length + 1), .own 4 (d.t.extras.length + 1 + 1), .own 5 (d.t.fixed.length + 1), .own 6 (d.l0.length + 1), .own 7 (d.l1.length + 1), .own 8 (d.l2.length + 1), .own 9 (d.l3.length + 1), .own 10 (d.l4.length + 1), .own 11 (d.l5.length + 1)], .list 9 1 (d.t.zones.length) (fun a _ => .str (d.t.zones.getD a bs0)) (d.t.zones.length + 1), .list 3 1 (d.t.hol.length) (fun a _ => .int .i64 (d.t.hol.getD a 0)) (d.t.hol.length + 1), .list 113 10 (d.t.rules.length) (fun a j => tbl (rulC (d.t.rules.getD a rul0)) j) (d.t.rules.length + 1), .list 115 2 (d.t.extras.length + 1) (fun a j => tbl (extC ((d.t.extras ++ [x]).getD a ext0)) j) (d.t.extras.length + 1 + 1), .list 117 3 (d.t.fixed.length) (fun a j => tbl (fxdC (d.t.fixed.getD a fxd0)) j) (d.t.fixed.length + 1), .list 3 1 (d.l0.length) (fun a _ => .int .i64 (d.l0.getD a 0)) (d.l0.length + 1), .list 3 1 (d.l1.length) (fun a _ => .int .i64 (d.l1.getD a 0)) (d.l1.length + 1), .list 3 1 (d.l2.length) (fun a _ => .int .i64 (d.l2.getD a 0)) (d.l2.length + 1), .list 3 1 (d.l3.length) (fun a _ => .int .i64 (d.l3.getD a 0)) (d.l3.length + 1), .list 3 1 (d.l4.length) (fun a _ => .int .i64 (d.l4.getD a 0)) (d.l4.length + 1), .list 3 1 (d.l5.length) (fun a _ => .int .i64 (d.l5.getD a 0)) (d.l5.length + 1)] := by
 unfold drO
 have e : (d.t.extras ++ [x]).length = d.t.extras.length + 1 := by simp
 dsimp only [Dft.adE]
 rw [e]
abbrev Dft.adF (d : Dft) (x : Fxd) : Dft := { d with t := { d.t with fixed := d.t.fixed ++ [x] } }
theorem drO_adF (d : Dft) (x : Fxd) : drO (d.adF x) = [.box [.str d.t.name, .int .i64 d.t.unit, .int .i64 d.t.step, .own 1 (d.t.zones.length + 1), .own 2 (d.t.hol.length + 1), .own 3 (d.t.rules.length + 1), .own 4 (d.t.extras.length + 1), .own 5 (d.t.fixed.length + 1 + 1), .own 6 (d.l0.length + 1), .own 7 (d.l1.length + 1), .own 8 (d.l2.length + 1), .own 9 (d.l3.length + 1), .own 10 (d.l4.length + 1), .own 11 (d.l5.length + 1)], .list 9 1 (d.t.zones.length) (fun a _ => .str (d.t.zones.getD a bs0)) (d.t.zones.length + 1), .list 3 1 (d.t.hol.length) (fun a _ => .int .i64 (d.t.hol.getD a 0)) (d.t.hol.length + 1), .list 113 10 (d.t.rules.length) (fun a j => tbl (rulC (d.t.rules.getD a rul0)) j) (d.t.rules.length + 1), .list 115 2 (d.t.extras.length) (fun a j => tbl (extC (d.t.extras.getD a ext0)) j) (d.t.extras.length + 1), .list 117 3 (d.t.fixed.length + 1) (fun a j => tbl (fxdC ((d.t.fixed ++ [x]).getD a fxd0)) j) (d.t.fixed.length + 1 + 1), .list 3 1 (d.l0.length) (fun a _ => .int .i64 (d.l0.getD a 0)) (d.l0.length + 1), .list 3 1 (d.l1.length) (fun a _ => .int .i64 (d.l1.getD a 0)) (d.l1.length + 1), .list 3 1 (d.l2.length) (fun a _ => .int .i64 (d.l2.getD a 0)) (d.l2.length + 1), .list 3 1 (d.l3.length) (fun a _ => .int .i64 (d.l3.getD a 0)) (d.l3.length + 1), .list 3 1 (d.l4.length) (fun a _ => .int .i64 (d.l4.getD a 0)) (d.l4.length + 1), .list 3 1 (d.l5.length) (fun a _ => .int .i64 (d.l5.getD a 0)) (d.l5.length + 1)] := by
 unfold drO
 have e : (d.t.fixed ++ [x]).length = d.t.fixed.length + 1 := by simp
 dsimp only [Dft.adF]
 rw [e]
theorem push_eD {Q : List Ext} {x : Ext} {a j : Nat} {g : Nat -> Nat -> AV} (hg : ∀ j, j < 2 -> Le (g 0 j) (tbl (extC x) j)) (hj : j < 2) (ha : a < Q.length + 1) : Le (joinF Q.length (fun a j => tbl (extC (Q.getD a ext0)) j) g a j) (tbl (extC ((Q ++ [x]).getD a ext0)) j) := by
 unfold joinF
 by_cases h : a < Q.length
 ·rw [if_pos h]; simp only [List.getD_eq_getElem?_getD, List.getElem?_append_left h]; exact .refl _
 ·obtain rfl : a = Q.length := by omega
  rw [if_neg h, Nat.sub_self]
  simpa [List.getD_eq_getElem?_getD] using hg j hj
attribute [local irreducible] nextL nextW vT zonL dayL closeL failL kndC
section
variable {W0 : World} {G : Nat -> Option AV} (hX : (Xc W0 G).Good) (hl : Laid W0)
include hX hl
set_option maxHeartbeats 200000 in
theorem c40_e (d : Dft) (l : Ln) (number : Int) (hd : Side (DOk d)) (hs : Side (LnOk l)) (he0 : Side ((nextL (fun t => kndC (decide (0 < (d.l0.length : Int))) (toS t)) l).e ≠ 0)) : Mut (Xc W0 G) 40 [.ptr 0 0, .ptr 12 0, .int .i64 number] (drO d ++ [lnO l]) (tupAV []) (drO d ++ [lnO (nextL (fun t => kndC (decide (0 < (d.l0.length : Int))) (toS t)) l)]) := by
 have he : ¬ ((nextL (fun t => kndC (decide (0 < (d.l0.length : Int))) (toS t)) l).e != 0) = false := fun h => he0.get (by revert h; generalize ((nextL (fun t => kndC (decide (0 < (d.l0.length : Int))) (toS t)) l).e) = q; intro h; by_cases e : q = 0; exact e; rw [show (q != 0) = true from by simpa using e] at h; cases h)
 refine mut_of' hX (fnI Tryz.f40) rfl ?_
 repeat' (first
  | (refine Ax.go ?_; first | (with_reducible (apply altM (ks := [12, 13]) (m := 0); apply And.intro; apply Sc.of; apply (c71k hX hl l (decide (0 < (d.l0.length : Int))) hs))) | (with_reducible apply Alt.one))
  | exact Cl.go
  | ((fail_if_success refine Stop.go ?_); first | rw [beqvv (d.l0.length + 1)] | (with_reducible first | apply And.intro | apply Cut.go | (refine impI ?_; intro _; try (first | exact ko he))) | (refine propI ?_; conv => whnf)))
 all_goals try exact nbZ
 all_goals try (exact Sc.of ⟨by decide, by decide⟩)
 all_goals (exact .mk [] [] _ rfl (.le (.refl _)) ⟨.le (.refl _), .le (.refl _), .le (.refl _), .le (.refl _), .le (.refl _), .le (.refl _), .le (.refl _), .le (.refl _), .le (.refl _), .le (.refl _), .le (.refl _), .le (.refl _), .le (.refl _), trivial⟩ rfl)
set_option maxHeartbeats 400000 in
theorem c40_tar (d : Dft) (l : Ln) (number : Int) (hd : Side (DOk d)) (hs : Side (LnOk l)) (hk : Side (toS (nextW l) = ({ data := #[116, 97, 114, 105, 102, 102] } : ByteArray))) (he0 : Side ((nextL (fun t => kndC (decide (0 < (d.l0.length : Int))) (toS t)) l).e = 0)) : Mut (Xc W0 G) 40 [.ptr 0 0, .ptr 12 0, .int .i64 number] (drO d ++ [lnO l]) (tupAV []) (drO ({ d with t := { d.t with name := toS (nextW (nextL (fun t => kndC (decide (0 < (d.l0.length : Int))) (toS t)) l)), unit := vT (nextW (nextL (fun t => isOk (nameB (toS t)) 4) (nextL (fun t => kndC (decide (0 < (d.l0.length : Int))) (toS t)) l))), step := vT (nextW (nextL (fun t => isOk (dT t) 7) (nextL (fun t => isOk (nameB (toS t)) 4) (nextL (fun t => kndC (decide (0 < (d.l0.length : Int))) (toS t)) l)))) }, l0 := d.l0 ++ [number] }) ++ [lnO (closeL (nextL (fun t => isOk (dT t) 7) (nextL (fun t => isOk (dT t) 7) (nextL (fun t => isOk (nameB (toS t)) 4) (nextL (fun t => kndC (decide (0 < (d.l0.length : Int))) (toS t)) l)))))]) := by
 have he : ¬ ((nextL (fun t => kndC (decide (0 < (d.l0.length : Int))) (toS t)) l).e != 0) = true := fun h => by rw [he0.get] at h; exact absurd h (by decide)
 have h_tar : ¬ decide (toS (nextW l) = ({ data := #[116, 97, 114, 105, 102, 102] } : ByteArray)) = false := fun h => (of_decide_eq_false h) hk.get
 refine mut_of' hX (fnI Tryz.f40) rfl ?_
 repeat' (first
  | (refine Ax.go ?_; first | (with_reducible (apply altM (ks := [12, 13]) (m := 0); apply And.intro; apply Sc.of; apply (c71k hX hl l (decide (0 < (d.l0.length : Int))) hs))) | (with_reducible (apply altM (ks := [0, 1, 2, 3, 4, 5, 6, 7, 8, 9, 10, 11]) (m := 0); apply And.intro; apply Sc.of; apply (c75_0 hX hl d number (Side.mk hd.get.l)))) | ((with_reducible (apply altM (ks := [12]) (m := 0); apply And.intro; apply Sc.of; apply (c76 hX hl (nextL (fun t => kndC (decide (0 < (d.l0.length : Int))) (toS t)) l) (Side.mk (hs.get.next _))))); case' right => (refine And.intro ?_ (And.intro ?_ (And.intro ?_ (And.intro ?lo ?_))); case lo => (first | exact ⟨.refl _, trivial⟩ | exact ⟨.refl _, .refl _, trivial⟩))) | ((with_reducible (apply altM (ks := [12]) (m := 0); apply And.intro; apply Sc.of; apply (c77 hX hl (nextL (fun t => isOk (nameB (toS t)) 4) (nextL (fun t => kndC (decide (0 < (d.l0.length : Int))) (toS t)) l)) (Side.mk ((hs.get.next _).next _))))); case' right => (refine And.intro ?_ (And.intro ?_ (And.intro ?_ (And.intro ?lo ?_))); case lo => (first | exact ⟨.refl _, trivial⟩ | exact ⟨.refl _, .refl _, trivial⟩))) | ((with_reducible (apply altM (ks := [12]) (m := 0); apply And.intro; apply Sc.of; apply (c77 hX hl (nextL (fun t => isOk (dT t) 7) (nextL (fun t => isOk (nameB (toS t)) 4) (nextL (fun t => kndC (decide (0 < (d.l0.length : Int))) (toS t)) l))) (Side.mk (((hs.get.next _).next _).next _))))); case' right => (refine And.intro ?_ (And.intro ?_ (And.intro ?_ (And.intro ?lo ?_))); case lo => (first | exact ⟨.refl _, trivial⟩ | exact ⟨.refl _, .refl _, trivial⟩))) | ((with_reducible (apply altM (ks := [12]) (m := 0); apply And.intro; apply Sc.of; apply (c82 hX hl (nextL (fun t => isOk (dT t) 7) (nextL (fun t => isOk (dT t) 7) (nextL (fun t => isOk (nameB (toS t)) 4) (nextL (fun t => kndC (decide (0 < (d.l0.length : Int))) (toS t)) l))))))); case' right => (refine And.intro ?_ (And.intro ?_ (And.intro ?_ (And.intro ?lo ?_))); case lo => (first | exact ⟨.refl _, trivial⟩ | exact ⟨.refl _, .refl _, trivial⟩))) | (with_reducible apply Alt.one))
  | exact Cl.go
  | ((fail_if_success refine Stop.go ?_); first | rw [beqvv (d.l0.length + 1)] | (with_reducible first | apply And.intro | apply Cut.go | (refine impI ?_; intro _; try (first | exact ko he | exact ko h_tar))) | (refine propI ?_; conv => whnf)))
 all_goals try exact nbZ
 all_goals try (exact Sc.of ⟨by decide, by decide⟩)
 all_goals (exact .mk [] [] _ rfl (.le (.refl _)) ⟨.le (.refl _), .le (.refl _), .le (.refl _), .le (.refl _), .le (.refl _), .le (.refl _), .le (.refl _), .le (.refl _), .le (.refl _), .le (.refl _), .le (.refl _), .le (.refl _), .le (.refl _), trivial⟩ rfl)
set_option maxHeartbeats 400000 in
theorem c40_hol (d : Dft) (l : Ln) (number : Int) (hd : Side (DOk d)) (hs : Side (LnOk l)) (hk : Side (toS (nextW l) = ({ data := #[104, 111, 108, 105, 100, 97, 121] } : ByteArray))) (he0 : Side ((nextL (fun t => kndC (decide (0 < (d.l0.length : Int))) (toS t)) l).e = 0)) : Mut (Xc W0 G) 40 [.ptr 0 0, .ptr 12 0, .int .i64 number] (drO d ++ [lnO l]) (tupAV []) (drO ((d.nt2 number).adH (vT (nextW (nextL (fun t => kndC (decide (0 < (d.l0.length : Int))) (toS t)) l)))) ++ [lnO (closeL (nextL (fun t => isOk (dT t) 7) (nextL (fun t => kndC (decide (0 < (d.l0.length : Int))) (toS t)) l)))]) := by
 have he : ¬ ((nextL (fun t => kndC (decide (0 < (d.l0.length : Int))) (toS t)) l).e != 0) = true := fun h => by rw [he0.get] at h; exact absurd h (by decide)
 have h_tar : ¬ decide (toS (nextW l) = ({ data := #[116, 97, 114, 105, 102, 102] } : ByteArray)) = true := fun h => absurd ((of_decide_eq_true h).symm.trans hk.get) (by decide)
 have h_zon : ¬ decide (toS (nextW l) = ({ data := #[122, 111, 110, 101] } : ByteArray)) = true := fun h => absurd ((of_decide_eq_true h).symm.trans hk.get) (by decide)
 have h_hol : ¬ decide (toS (nextW l) = ({ data := #[104, 111, 108, 105, 100, 97, 121] } : ByteArray)) = false := fun h => (of_decide_eq_false h) hk.get
 refine mut_of' hX (fnI Tryz.f40) rfl ?_
 repeat' (first
  | (refine Ax.go ?_; first | (with_reducible (apply altM (ks := [12, 13]) (m := 0); apply And.intro; apply Sc.of; apply (c71k hX hl l (decide (0 < (d.l0.length : Int))) hs))) | (with_reducible (apply altM (ks := [0, 1, 2, 3, 4, 5, 6, 7, 8, 9, 10, 11]) (m := 0); apply And.intro; apply Sc.of; apply (c75_2 hX hl d number (Side.mk hd.get.l)))) | ((with_reducible (apply altM (ks := [12]) (m := 0); apply And.intro; apply Sc.of; apply (c77 hX hl (nextL (fun t => kndC (decide (0 < (d.l0.length : Int))) (toS t)) l) (Side.mk (hs.get.next _))))); case' right => (refine And.intro ?_ (And.intro ?_ (And.intro ?_ (And.intro ?lo ?_))); case lo => (first | exact ⟨.refl _, trivial⟩ | exact ⟨.refl _, .refl _, trivial⟩))) | ((with_reducible (apply altM (ks := [12]) (m := 0); apply And.intro; apply Sc.of; apply (c82 hX hl (nextL (fun t => isOk (dT t) 7) (nextL (fun t => kndC (decide (0 < (d.l0.length : Int))) (toS t)) l))))); case' right => (refine And.intro ?_ (And.intro ?_ (And.intro ?_ (And.intro ?lo ?_))); case lo => (first | exact ⟨.refl _, trivial⟩ | exact ⟨.refl _, .refl _, trivial⟩))) | (with_reducible apply Alt.one))
  | exact Cl.go
  | ((fail_if_success refine Stop.go ?_); first | rw [beqvv (d.l0.length + 1)] | rw [beqvv (d.t.hol.length + 1)] | (with_reducible first | apply And.intro | apply Cut.go | (refine impI ?_; intro _; try (first | exact ko he | exact ko h_tar | exact ko h_zon | exact ko h_hol))) | (refine propI ?_; conv => whnf)))
 all_goals try (have h6 := hd.get.h; exact Sc.of ⟨show (d.t.hol.length + (0 + 1)) * 8 <= 140737488355328 by omega, show d.t.hol.length + (0 + 1) <= 9223372036854775807 by omega⟩)
 all_goals try exact nbZ
 all_goals try (exact Sc.of ⟨by decide, by decide⟩)
 rw [drO_adH]
 all_goals (exact .mk [] [] _ rfl (.le (.refl _)) ⟨.le (.refl _), .le (.refl _), .le (.list fun a j ha hj => by replace hj : j < 1 := hj; (obtain rfl : j = 0 := (by omega)); exact Le.ofEq (push_iw rfl ha)), .le (.refl _), .le (.refl _), .le (.refl _), .le (.refl _), .le (.refl _), .le (.refl _), .le (.refl _), .le (.refl _), .le (.refl _), .le (.refl _), trivial⟩ rfl)
set_option maxHeartbeats 400000 in
theorem c40_ext (d : Dft) (l : Ln) (number : Int) (hd : Side (DOk d)) (hs : Side (LnOk l)) (hk : Side (toS (nextW l) = ({ data := #[101, 120, 116, 114, 97] } : ByteArray))) (he0 : Side ((nextL (fun t => kndC (decide (0 < (d.l0.length : Int))) (toS t)) l).e = 0)) : Mut (Xc W0 G) 40 [.ptr 0 0, .ptr 12 0, .int .i64 number] (drO d ++ [lnO l]) (tupAV []) (drO ((d.nt4 number).adE ⟨toS (nextW (nextL (fun t => kndC (decide (0 < (d.l0.length : Int))) (toS t)) l)), vT (nextW (nextL (fun t => isOk (nameB (toS t)) 4) (nextL (fun t => kndC (decide (0 < (d.l0.length : Int))) (toS t)) l)))⟩) ++ [lnO (closeL (nextL (fun t => isOk (dT t) 7) (nextL (fun t => isOk (nameB (toS t)) 4) (nextL (fun t => kndC (decide (0 < (d.l0.length : Int))) (toS t)) l))))]) := by
 have he : ¬ ((nextL (fun t => kndC (decide (0 < (d.l0.length : Int))) (toS t)) l).e != 0) = true := fun h => by rw [he0.get] at h; exact absurd h (by decide)
 have h_tar : ¬ decide (toS (nextW l) = ({ data := #[116, 97, 114, 105, 102, 102] } : ByteArray)) = true := fun h => absurd ((of_decide_eq_true h).symm.trans hk.get) (by decide)
 have h_zon : ¬ decide (toS (nextW l) = ({ data := #[122, 111, 110, 101] } : ByteArray)) = true := fun h => absurd ((of_decide_eq_true h).symm.trans hk.get) (by decide)
 have h_hol : ¬ decide (toS (nextW l) = ({ data := #[104, 111, 108, 105, 100, 97, 121] } : ByteArray)) = true := fun h => absurd ((of_decide_eq_true h).symm.trans hk.get) (by decide)
 have h_rul : ¬ decide (toS (nextW l) = ({ data := #[114, 117, 108, 101] } : ByteArray)) = true := fun h => absurd ((of_decide_eq_true h).symm.trans hk.get) (by decide)
 have h_ext : ¬ decide (toS (nextW l) = ({ data := #[101, 120, 116, 114, 97] } : ByteArray)) = false := fun h => (of_decide_eq_false h) hk.get
 refine mut_of' hX (fnI Tryz.f40) rfl ?_
 repeat' (first
  | (refine Ax.go ?_; first | (with_reducible (apply altM (ks := [12, 13]) (m := 0); apply And.intro; apply Sc.of; apply (c71k hX hl l (decide (0 < (d.l0.length : Int))) hs))) | (with_reducible (apply altM (ks := [0, 1, 2, 3, 4, 5, 6, 7, 8, 9, 10, 11]) (m := 0); apply And.intro; apply Sc.of; apply (c75_4 hX hl d number (Side.mk hd.get.l)))) | ((with_reducible (apply altM (ks := [12]) (m := 0); apply And.intro; apply Sc.of; apply (c76 hX hl (nextL (fun t => kndC (decide (0 < (d.l0.length : Int))) (toS t)) l) (Side.mk (hs.get.next _))))); case' right => (refine And.intro ?_ (And.intro ?_ (And.intro ?_ (And.intro ?lo ?_))); case lo => (first | exact ⟨.refl _, trivial⟩ | exact ⟨.refl _, .refl _, trivial⟩))) | ((with_reducible (apply altM (ks := [12]) (m := 0); apply And.intro; apply Sc.of; apply (c77 hX hl (nextL (fun t => isOk (nameB (toS t)) 4) (nextL (fun t => kndC (decide (0 < (d.l0.length : Int))) (toS t)) l)) (Side.mk ((hs.get.next _).next _))))); case' right => (refine And.intro ?_ (And.intro ?_ (And.intro ?_ (And.intro ?lo ?_))); case lo => (first | exact ⟨.refl _, trivial⟩ | exact ⟨.refl _, .refl _, trivial⟩))) | ((with_reducible (apply altM (ks := [12]) (m := 0); apply And.intro; apply Sc.of; apply (c82 hX hl (nextL (fun t => isOk (dT t) 7) (nextL (fun t => isOk (nameB (toS t)) 4) (nextL (fun t => kndC (decide (0 < (d.l0.length : Int))) (toS t)) l)))))); case' right => (refine And.intro ?_ (And.intro ?_ (And.intro ?_ (And.intro ?lo ?_))); case lo => (first | exact ⟨.refl _, trivial⟩ | exact ⟨.refl _, .refl _, trivial⟩))) | (with_reducible apply Alt.one))
  | exact Cl.go
  | ((fail_if_success refine Stop.go ?_); first | rw [beqvv (d.l0.length + 1)] | rw [beqvv (d.t.extras.length + 1)] | (with_reducible first | apply And.intro | apply Cut.go | (refine impI ?_; intro _; try (first | exact ko he | exact ko h_tar | exact ko h_zon | exact ko h_hol | exact ko h_rul | exact ko h_ext))) | (refine propI ?_; conv => whnf)))
 all_goals try (have h6 := hd.get.e; exact Sc.of ⟨show (d.t.extras.length + (0 + 1)) * 24 <= 140737488355328 by omega, show d.t.extras.length + (0 + 1) <= 9223372036854775807 by omega⟩)
 all_goals try exact nbZ
 all_goals try (exact Sc.of ⟨by decide, by decide⟩)
 rw [drO_adE]
 all_goals (exact .mk [] [] _ rfl (.le (.refl _)) ⟨.le (.refl _), .le (.refl _), .le (.refl _), .le (.refl _), .le (.list fun a j ha hj => push_eD (fun j hj => by rcases (show j = 0 \/ j = 1 by omega) with rfl | rfl <;> exact .refl _) hj ha), .le (.refl _), .le (.refl _), .le (.refl _), .le (.refl _), .le (.refl _), .le (.refl _), .le (.refl _), .le (.refl _), trivial⟩ rfl)
end
end Go.Fx
/-
 The draft of a tariff: a line with a zone read.
-/
namespace Go.Fx
open Go.Proofs Go.RowKit
theorem push_zD {Q : List ByteArray} {x : ByteArray} {a p : Nat} {v : AV} {g : Nat -> Nat -> AV} (hp : p = Q.length) (hv : v = .str x) (ha : a < Q.length + 1) : Le (putF p 0 [v] (joinF Q.length (fun a _ => .str (Q.getD a bs0)) g) a 0) (.str ((Q ++ [x]).getD a bs0)) := by
 subst hp hv
 unfold putF joinF
 by_cases h : a < Q.length
 ·rw [if_neg (by omega), if_pos h]; simp only [List.getD_eq_getElem?_getD, List.getElem?_append_left h]; exact .refl _
 ·obtain rfl : a = Q.length := by omega
  rw [if_pos ⟨rfl, Nat.le_refl _, Nat.zero_lt_succ _⟩]
  simp [List.getD_eq_getElem?_getD]; exact .refl _
attribute [local irreducible] nextL nextW vT zonL dayL closeL failL kndC
section
variable {W0 : World} {G : Nat -> Option AV} (hX : (Xc W0 G).Good) (hl : Laid W0)
include hX hl
set_option maxHeartbeats 400000 in
theorem c40_zon (d : Dft) (l : Ln) (number : Int) (hd : Side (DOk d)) (hs : Side (LnOk l)) (hk : Side (toS (nextW l) = ({ data := #[122, 111, 110, 101] } : ByteArray))) (he0 : Side ((nextL (fun t => kndC (decide (0 < (d.l0.length : Int))) (toS t)) l).e = 0)) : Mut (Xc W0 G) 40 [.ptr 0 0, .ptr 12 0, .int .i64 number] (drO d ++ [lnO l]) (tupAV []) (drO ((d.nt1 number).adZ (toS (nextW (nextL (fun t => kndC (decide (0 < (d.l0.length : Int))) (toS t)) l)))) ++ [lnO (closeL (nextL (fun t => isOk (nameB (toS t)) 4) (nextL (fun t => kndC (decide (0 < (d.l0.length : Int))) (toS t)) l)))]) := by
 have he : ¬ ((nextL (fun t => kndC (decide (0 < (d.l0.length : Int))) (toS t)) l).e != 0) = true := fun h => by rw [he0.get] at h; exact absurd h (by decide)
 have h_tar : ¬ decide (toS (nextW l) = ({ data := #[116, 97, 114, 105, 102, 102] } : ByteArray)) = true := fun h => absurd ((of_decide_eq_true h).symm.trans hk.get) (by decide)
 have h_zon : ¬ decide (toS (nextW l) = ({ data := #[122, 111, 110, 101] } : ByteArray)) = false := fun h => (of_decide_eq_false h) hk.get
 refine mut_of' hX (fnI Tryz.f40) rfl ?_
 repeat' (first
  | (refine Ax.go ?_; first | (with_reducible (apply altM (ks := [12, 13]) (m := 0); apply And.intro; apply Sc.of; apply (c71k hX hl l (decide (0 < (d.l0.length : Int))) hs))) | (with_reducible (apply altM (ks := [0, 1, 2, 3, 4, 5, 6, 7, 8, 9, 10, 11]) (m := 0); apply And.intro; apply Sc.of; apply (c75_1 hX hl d number (Side.mk hd.get.l)))) | ((with_reducible (apply altM (ks := [12]) (m := 0); apply And.intro; apply Sc.of; apply (c76 hX hl (nextL (fun t => kndC (decide (0 < (d.l0.length : Int))) (toS t)) l) (Side.mk (hs.get.next _))))); case' right => (refine And.intro ?_ (And.intro ?_ (And.intro ?_ (And.intro ?lo ?_))); case lo => (first | exact ⟨.refl _, trivial⟩ | exact ⟨.refl _, .refl _, trivial⟩))) | ((with_reducible (apply altM (ks := [12]) (m := 0); apply And.intro; apply Sc.of; apply (c82 hX hl (nextL (fun t => isOk (nameB (toS t)) 4) (nextL (fun t => kndC (decide (0 < (d.l0.length : Int))) (toS t)) l))))); case' right => (refine And.intro ?_ (And.intro ?_ (And.intro ?_ (And.intro ?lo ?_))); case lo => (first | exact ⟨.refl _, trivial⟩ | exact ⟨.refl _, .refl _, trivial⟩))) | (with_reducible apply Alt.one))
  | exact Cl.go
  | ((fail_if_success refine Stop.go ?_); first | rw [beqvv (d.l0.length + 1)] | rw [beqvv (d.t.zones.length + 1)] | rw [beqvv (d.t.zones.length + 1 + 1)] | (with_reducible first | apply And.intro | apply Cut.go | (refine impI ?_; intro _; try (first | exact ko he | exact ko h_tar | exact ko h_zon))) | (refine propI ?_; conv => whnf)))
 all_goals try ((with_reducible refine (?_ : Sc _ _)); have h6 := hd.get.z; first | (exact Sc.of ⟨show (d.t.zones.length + (0 + 1)) * 16 <= 140737488355328 by omega, show d.t.zones.length + (0 + 1) <= 9223372036854775807 by omega⟩) | (exact Sc.of ⟨show (-9223372036854775808 : Int) <= ((d.t.zones.length + 1 : Nat) : Int) - 1 by omega, show ((d.t.zones.length + 1 : Nat) : Int) - 1 <= 9223372036854775807 by omega⟩) | (exact Sc.of ⟨show (0 : Int) <= ((d.t.zones.length + 1 : Nat) : Int) - 1 by omega, show ((d.t.zones.length + 1 : Nat) : Int) - 1 < ((d.t.zones.length + 1 : Nat) : Int) by omega⟩) | (exact Sc.of (show (((d.t.zones.length + 1 : Nat) : Int) - 1).toNat < d.t.zones.length + 1 by omega)))
 all_goals try exact nbZ
 all_goals try (exact Sc.of ⟨by decide, by decide⟩)
 rw [drO_adZ]
 all_goals (exact .mk [] [] _ rfl (.le (.refl _)) ⟨.le (.refl _), .le (.list fun a j ha hj => by replace hj : j < 1 := hj; (obtain rfl : j = 0 := (by omega)); exact push_zD (show (((d.t.zones.length + 1 : Nat) : Int) - 1).toNat = d.t.zones.length by omega) rfl ha), .le (.refl _), .le (.refl _), .le (.refl _), .le (.refl _), .le (.refl _), .le (.refl _), .le (.refl _), .le (.refl _), .le (.refl _), .le (.refl _), .le (.refl _), trivial⟩ rfl)
end
end Go.Fx
/-
 The draft of a tariff: a line with a fixed fare read.
-/
namespace Go.Fx
open Go.Proofs Go.RowKit
theorem push_fD {Q : List Fxd} {x : Fxd} {a j : Nat} {g : Nat -> Nat -> AV} (hg : ∀ j, j < 3 -> Le (g 0 j) (tbl (fxdC x) j)) (hj : j < 3) (ha : a < Q.length + 1) : Le (joinF Q.length (fun a j => tbl (fxdC (Q.getD a fxd0)) j) g a j) (tbl (fxdC ((Q ++ [x]).getD a fxd0)) j) := by
 unfold joinF
 by_cases h : a < Q.length
 ·rw [if_pos h]; simp only [List.getD_eq_getElem?_getD, List.getElem?_append_left h]; exact .refl _
 ·obtain rfl : a = Q.length := by omega
  rw [if_neg h, Nat.sub_self]
  simpa [List.getD_eq_getElem?_getD] using hg j hj
theorem zonL_len (zs l : List ByteArray) : (zonL zs l).length = l.length := by unfold zonL; exact List.length_map _
attribute [local irreducible] nextL nextW vT zonL dayL closeL failL kndC
section
variable {W0 : World} {G : Nat -> Option AV} (hX : (Xc W0 G).Good) (hl : Laid W0)
include hX hl
set_option maxHeartbeats 400000 in
theorem c40_fix (d : Dft) (l : Ln) (number : Int) (hd : Side (DOk d)) (hs : Side (LnOk l)) (hk : Side (toS (nextW l) = ({ data := #[102, 105, 120, 101, 100] } : ByteArray))) (he0 : Side ((nextL (fun t => kndC (decide (0 < (d.l0.length : Int))) (toS t)) l).e = 0)) : Mut (Xc W0 G) 40 [.ptr 0 0, .ptr 12 0, .int .i64 number] (drO d ++ [lnO l]) (tupAV []) (drO ((d.nt5 number).adF ⟨((zonL d.t.zones (oneP (toS (nextW (nextL (fun t => kndC (decide (0 < (d.l0.length : Int))) (toS t)) l))))).getD 0 0), ((zonL d.t.zones (oneP (toS (nextW (nextL (fun t => zonC d.t.zones oneP (toS t)) (nextL (fun t => kndC (decide (0 < (d.l0.length : Int))) (toS t)) l)))))).getD 0 0), vT (nextW (nextL (fun t => zonC d.t.zones oneP (toS t)) (nextL (fun t => zonC d.t.zones oneP (toS t)) (nextL (fun t => kndC (decide (0 < (d.l0.length : Int))) (toS t)) l))))⟩) ++ [lnO (closeL (nextL (fun t => isOk (dT t) 7) (nextL (fun t => zonC d.t.zones oneP (toS t)) (nextL (fun t => zonC d.t.zones oneP (toS t)) (nextL (fun t => kndC (decide (0 < (d.l0.length : Int))) (toS t)) l)))))]) := by
 have he : ¬ ((nextL (fun t => kndC (decide (0 < (d.l0.length : Int))) (toS t)) l).e != 0) = true := fun h => by rw [he0.get] at h; exact absurd h (by decide)
 have h_tar : ¬ decide (toS (nextW l) = ({ data := #[116, 97, 114, 105, 102, 102] } : ByteArray)) = true := fun h => absurd ((of_decide_eq_true h).symm.trans hk.get) (by decide)
 have h_zon : ¬ decide (toS (nextW l) = ({ data := #[122, 111, 110, 101] } : ByteArray)) = true := fun h => absurd ((of_decide_eq_true h).symm.trans hk.get) (by decide)
 have h_hol : ¬ decide (toS (nextW l) = ({ data := #[104, 111, 108, 105, 100, 97, 121] } : ByteArray)) = true := fun h => absurd ((of_decide_eq_true h).symm.trans hk.get) (by decide)
 have h_rul : ¬ decide (toS (nextW l) = ({ data := #[114, 117, 108, 101] } : ByteArray)) = true := fun h => absurd ((of_decide_eq_true h).symm.trans hk.get) (by decide)
 have h_ext : ¬ decide (toS (nextW l) = ({ data := #[101, 120, 116, 114, 97] } : ByteArray)) = true := fun h => absurd ((of_decide_eq_true h).symm.trans hk.get) (by decide)
 have h_fix : ¬ decide (toS (nextW l) = ({ data := #[102, 105, 120, 101, 100] } : ByteArray)) = false := fun h => (of_decide_eq_false h) hk.get
 refine mut_of' hX (fnI Tryz.f40) rfl ?_
 repeat' (first
  | (refine Ax.go ?_; first | (with_reducible (apply altM (ks := [12, 13]) (m := 0); apply And.intro; apply Sc.of; apply (c71k hX hl l (decide (0 < (d.l0.length : Int))) hs))) | (with_reducible (apply altM (ks := [0, 1, 2, 3, 4, 5, 6, 7, 8, 9, 10, 11]) (m := 0); apply And.intro; apply Sc.of; apply (c75_5 hX hl d number (Side.mk hd.get.l)))) | ((with_reducible (apply altM (ks := [12, 1]) (m := 0); apply And.intro; apply Sc.of; apply (c78o hX hl (nextL (fun t => kndC (decide (0 < (d.l0.length : Int))) (toS t)) l) (Side.mk (hs.get.next _)) d.t.zones (d.t.zones.length + 1) (Side.mk (Nat.le_trans hd.get.z (by decide)))))); case' right => (refine And.intro ?_ (And.intro ?_ (And.intro ?_ (And.intro ?lo ?_))); case lo => (first | exact ⟨.refl _, trivial⟩ | exact ⟨.refl _, .refl _, trivial⟩))) | ((with_reducible (apply altM (ks := [12, 1]) (m := 0); apply And.intro; apply Sc.of; apply (c78o hX hl (nextL (fun t => zonC d.t.zones oneP (toS t)) (nextL (fun t => kndC (decide (0 < (d.l0.length : Int))) (toS t)) l)) (Side.mk ((hs.get.next _).next _)) d.t.zones (d.t.zones.length + 1) (Side.mk (Nat.le_trans hd.get.z (by decide)))))); case' right => (refine And.intro ?_ (And.intro ?_ (And.intro ?_ (And.intro ?lo ?_))); case lo => (first | exact ⟨.refl _, trivial⟩ | exact ⟨.refl _, .refl _, trivial⟩))) | ((with_reducible (apply altM (ks := [12]) (m := 0); apply And.intro; apply Sc.of; apply (c77 hX hl (nextL (fun t => zonC d.t.zones oneP (toS t)) (nextL (fun t => zonC d.t.zones oneP (toS t)) (nextL (fun t => kndC (decide (0 < (d.l0.length : Int))) (toS t)) l))) (Side.mk (((hs.get.next _).next _).next _))))); case' right => (refine And.intro ?_ (And.intro ?_ (And.intro ?_ (And.intro ?lo ?_))); case lo => (first | exact ⟨.refl _, trivial⟩ | exact ⟨.refl _, .refl _, trivial⟩))) | ((with_reducible (apply altM (ks := [12]) (m := 0); apply And.intro; apply Sc.of; apply (c82 hX hl (nextL (fun t => isOk (dT t) 7) (nextL (fun t => zonC d.t.zones oneP (toS t)) (nextL (fun t => zonC d.t.zones oneP (toS t)) (nextL (fun t => kndC (decide (0 < (d.l0.length : Int))) (toS t)) l))))))); case' right => (refine And.intro ?_ (And.intro ?_ (And.intro ?_ (And.intro ?lo ?_))); case lo => (first | exact ⟨.refl _, trivial⟩ | exact ⟨.refl _, .refl _, trivial⟩))) | (with_reducible apply Alt.one))
  | exact Cl.go
  | ((fail_if_success refine Stop.go ?_); first | rw [beqvv (d.l0.length + 1)] | rw [beqvv (d.t.fixed.length + 1)] | rw [beqvv (d.t.zones.length + 1)] | (with_reducible first | apply And.intro | apply Cut.go | (refine impI ?_; intro _; try (first | exact ko he | exact ko h_tar | exact ko h_zon | exact ko h_hol | exact ko h_rul | exact ko h_ext | exact ko h_fix))) | (refine propI ?_; conv => whnf)))
 all_goals try ((with_reducible refine (?_ : Sc _ _)); exact .of ⟨by decide, by rw [zonL_len]; show (0 : Int) < ((1 : Nat) : Int); decide⟩)
 all_goals try (have h6 := hd.get.f; exact Sc.of ⟨show (d.t.fixed.length + (0 + 1)) * 24 <= 140737488355328 by omega, show d.t.fixed.length + (0 + 1) <= 9223372036854775807 by omega⟩)
 all_goals try exact nbZ
 all_goals try (exact Sc.of ⟨by decide, by decide⟩)
 rw [drO_adF]
 all_goals (exact .mk [] [] _ rfl (.le (.refl _)) ⟨.le (.refl _), .le (.refl _), .le (.refl _), .le (.refl _), .le (.refl _), .le (.list fun a j ha hj => push_fD (fun j hj => by rcases (show j = 0 \/ j = 1 \/ j = 2 by omega) with rfl | rfl | rfl <;> exact .refl _) hj ha), .le (.refl _), .le (.refl _), .le (.refl _), .le (.refl _), .le (.refl _), .le (.refl _), .le (.refl _), trivial⟩ rfl)
end
end Go.Fx
/-
 The draft of a tariff: a line with a rule read.
-/
namespace Go.Fx
open Go.Proofs Go.RowKit
theorem push_rD {Q : List Rul} {x : Rul} {a j : Nat} {g : Nat -> Nat -> AV} (hg : ∀ j, j < 10 -> Le (g 0 j) (tbl (rulC x) j)) (hj : j < 10) (ha : a < Q.length + 1) : Le (joinF Q.length (fun a j => tbl (rulC (Q.getD a rul0)) j) g a j) (tbl (rulC ((Q ++ [x]).getD a rul0)) j) := by
 unfold joinF
 by_cases h : a < Q.length
 ·rw [if_pos h]; simp only [List.getD_eq_getElem?_getD, List.getElem?_append_left h]; exact .refl _
 ·obtain rfl : a = Q.length := by omega
  rw [if_neg h, Nat.sub_self]
  simpa [List.getD_eq_getElem?_getD] using hg j hj
def li5 (l : Ln) : Nat -> Ln
 | 0 => l
 | i + 1 => nextL (fun t => isOk (dT t) 7) (li5 l i)
theorem li5_ok {l : Ln} (h : LnOk l) : ∀ i, LnOk (li5 l i)
 | 0 => h
 | i + 1 => (li5_ok h i).next _
def r5 (l : Ln) (i j : Nat) : Int := bif Nat.blt j i then vT (nextW (li5 l j)) else 0
attribute [local irreducible] nextL nextW vT zonL dayL closeL failL kndC
section
variable {W0 : World} {G : Nat -> Option AV} (hX : (Xc W0 G).Good) (hl : Laid W0)
include hX hl
set_option maxHeartbeats 2000000 in
theorem c40_rul (d : Dft) (l : Ln) (number : Int) (hd : Side (DOk d)) (hs : Side (LnOk l)) (hk : Side (toS (nextW l) = ({ data := #[114, 117, 108, 101] } : ByteArray))) (he0 : Side ((nextL (fun t => kndC (decide (0 < (d.l0.length : Int))) (toS t)) l).e = 0)) : Mut (Xc W0 G) 40 [.ptr 0 0, .ptr 12 0, .int .i64 number] (drO d ++ [lnO l]) (tupAV []) (drO ((d.nt3 number).adR ⟨(toS (nextW (nextL (fun t => kndC (decide (0 < (d.l0.length : Int))) (toS t)) l))), (vT (nextW (nextL (fun t => isOk (nameB (toS t)) 4) (nextL (fun t => kndC (decide (0 < (d.l0.length : Int))) (toS t)) l)))), (vT (nextW (nextL (fun t => isOk (dT t) 7) (nextL (fun t => isOk (nameB (toS t)) 4) (nextL (fun t => kndC (decide (0 < (d.l0.length : Int))) (toS t)) l))))), (zonL d.t.zones (cutS 44 (toS (nextW (nextL (fun t => isOk (dT t) 7) (nextL (fun t => isOk (dT t) 7) (nextL (fun t => isOk (nameB (toS t)) 4) (nextL (fun t => kndC (decide (0 < (d.l0.length : Int))) (toS t)) l)))))))), (dayL (toS (nextW (nextL (fun t => zonC d.t.zones (cutS 44) (toS t)) (nextL (fun t => isOk (dT t) 7) (nextL (fun t => isOk (dT t) 7) (nextL (fun t => isOk (nameB (toS t)) 4) (nextL (fun t => kndC (decide (0 < (d.l0.length : Int))) (toS t)) l)))))))), r5 (nextL dayC (nextL (fun t => zonC d.t.zones (cutS 44) (toS t)) (nextL (fun t => isOk (dT t) 7) (nextL (fun t => isOk (dT t) 7) (nextL (fun t => isOk (nameB (toS t)) 4) (nextL (fun t => kndC (decide (0 < (d.l0.length : Int))) (toS t)) l)))))) 5 0, r5 (nextL dayC (nextL (fun t => zonC d.t.zones (cutS 44) (toS t)) (nextL (fun t => isOk (dT t) 7) (nextL (fun t => isOk (dT t) 7) (nextL (fun t => isOk (nameB (toS t)) 4) (nextL (fun t => kndC (decide (0 < (d.l0.length : Int))) (toS t)) l)))))) 5 1, r5 (nextL dayC (nextL (fun t => zonC d.t.zones (cutS 44) (toS t)) (nextL (fun t => isOk (dT t) 7) (nextL (fun t => isOk (dT t) 7) (nextL (fun t => isOk (nameB (toS t)) 4) (nextL (fun t => kndC (decide (0 < (d.l0.length : Int))) (toS t)) l)))))) 5 2, r5 (nextL dayC (nextL (fun t => zonC d.t.zones (cutS 44) (toS t)) (nextL (fun t => isOk (dT t) 7) (nextL (fun t => isOk (dT t) 7) (nextL (fun t => isOk (nameB (toS t)) 4) (nextL (fun t => kndC (decide (0 < (d.l0.length : Int))) (toS t)) l)))))) 5 3, r5 (nextL dayC (nextL (fun t => zonC d.t.zones (cutS 44) (toS t)) (nextL (fun t => isOk (dT t) 7) (nextL (fun t => isOk (dT t) 7) (nextL (fun t => isOk (nameB (toS t)) 4) (nextL (fun t => kndC (decide (0 < (d.l0.length : Int))) (toS t)) l)))))) 5 4⟩) ++ [lnO (closeL (li5 (nextL dayC (nextL (fun t => zonC d.t.zones (cutS 44) (toS t)) (nextL (fun t => isOk (dT t) 7) (nextL (fun t => isOk (dT t) 7) (nextL (fun t => isOk (nameB (toS t)) 4) (nextL (fun t => kndC (decide (0 < (d.l0.length : Int))) (toS t)) l)))))) 5))]) := by
 have he : ¬ ((nextL (fun t => kndC (decide (0 < (d.l0.length : Int))) (toS t)) l).e != 0) = true := fun h => by rw [he0.get] at h; exact absurd h (by decide)
 have h_tar : ¬ decide (toS (nextW l) = ({ data := #[116, 97, 114, 105, 102, 102] } : ByteArray)) = true := fun h => absurd ((of_decide_eq_true h).symm.trans hk.get) (by decide)
 have h_zon : ¬ decide (toS (nextW l) = ({ data := #[122, 111, 110, 101] } : ByteArray)) = true := fun h => absurd ((of_decide_eq_true h).symm.trans hk.get) (by decide)
 have h_hol : ¬ decide (toS (nextW l) = ({ data := #[104, 111, 108, 105, 100, 97, 121] } : ByteArray)) = true := fun h => absurd ((of_decide_eq_true h).symm.trans hk.get) (by decide)
 have h_rul : ¬ decide (toS (nextW l) = ({ data := #[114, 117, 108, 101] } : ByteArray)) = false := fun h => (of_decide_eq_false h) hk.get
 refine mut_of' hX (fnI Tryz.f40) rfl ?_
 repeat' (first
  | (refine Ax.go ?_; first | (with_reducible (apply altM (ks := [12, 13]) (m := 0); apply And.intro; apply Sc.of; apply (c71k hX hl l (decide (0 < (d.l0.length : Int))) hs))) | (with_reducible (apply altM (ks := [0, 1, 2, 3, 4, 5, 6, 7, 8, 9, 10, 11]) (m := 0); apply And.intro; apply Sc.of; apply (c75_3 hX hl d number (Side.mk hd.get.l)))) | ((with_reducible (apply altM (ks := [12]) (m := 0); apply And.intro; apply Sc.of; apply (c76 hX hl (nextL (fun t => kndC (decide (0 < (d.l0.length : Int))) (toS t)) l) (Side.mk (hs.get.next _))))); case' right => (refine And.intro ?_ (And.intro ?_ (And.intro ?_ (And.intro ?lo ?_))); case lo => (first | exact ⟨.refl _, trivial⟩ | exact ⟨.refl _, .refl _, trivial⟩))) | ((with_reducible (apply altM (ks := [12]) (m := 0); apply And.intro; apply Sc.of; apply (c77 hX hl (nextL (fun t => isOk (nameB (toS t)) 4) (nextL (fun t => kndC (decide (0 < (d.l0.length : Int))) (toS t)) l)) (Side.mk ((hs.get.next _).next _))))); case' right => (refine And.intro ?_ (And.intro ?_ (And.intro ?_ (And.intro ?lo ?_))); case lo => (first | exact ⟨.refl _, trivial⟩ | exact ⟨.refl _, .refl _, trivial⟩))) | ((with_reducible (apply altM (ks := [12]) (m := 0); apply And.intro; apply Sc.of; apply (c77 hX hl (nextL (fun t => isOk (dT t) 7) (nextL (fun t => isOk (nameB (toS t)) 4) (nextL (fun t => kndC (decide (0 < (d.l0.length : Int))) (toS t)) l))) (Side.mk (((hs.get.next _).next _).next _))))); case' right => (refine And.intro ?_ (And.intro ?_ (And.intro ?_ (And.intro ?lo ?_))); case lo => (first | exact ⟨.refl _, trivial⟩ | exact ⟨.refl _, .refl _, trivial⟩))) | ((with_reducible (apply altM (ks := [12, 1]) (m := 0); apply And.intro; apply Sc.of; apply (c78m hX hl (nextL (fun t => isOk (dT t) 7) (nextL (fun t => isOk (dT t) 7) (nextL (fun t => isOk (nameB (toS t)) 4) (nextL (fun t => kndC (decide (0 < (d.l0.length : Int))) (toS t)) l)))) (Side.mk ((((hs.get.next _).next _).next _).next _)) d.t.zones (d.t.zones.length + 1) (Side.mk (Nat.le_trans hd.get.z (by decide)))))); case' right => (refine And.intro ?_ (And.intro ?_ (And.intro ?_ (And.intro ?lo ?_))); case lo => (first | exact ⟨.refl _, trivial⟩ | exact ⟨.refl _, .refl _, trivial⟩))) | ((with_reducible (apply altM (ks := [12]) (m := 0); apply And.intro; apply Sc.of; apply (c80 hX hl (nextL (fun t => zonC d.t.zones (cutS 44) (toS t)) (nextL (fun t => isOk (dT t) 7) (nextL (fun t => isOk (dT t) 7) (nextL (fun t => isOk (nameB (toS t)) 4) (nextL (fun t => kndC (decide (0 < (d.l0.length : Int))) (toS t)) l))))) (Side.mk (((((hs.get.next _).next _).next _).next _).next _))))); case' right => (refine And.intro ?_ (And.intro ?_ (And.intro ?_ (And.intro ?lo ?_))); case lo => (first | exact ⟨.refl _, trivial⟩ | exact ⟨.refl _, .refl _, trivial⟩))) | (with_reducible apply Alt.one))
  | exact Cl.go
  | ((fail_if_success refine Stop.go ?_); first | rw [beqvv (d.l0.length + 1)] | rw [beqvv (d.t.zones.length + 1)] | rw [beqvv (d.t.rules.length + 1)] | (with_reducible first | apply And.intro | apply Cut.go | (refine impI ?_; intro _; try (first | exact ko he | exact ko h_tar | exact ko h_zon | exact ko h_hol | exact ko h_rul))) | (refine propI ?_; conv => whnf)))
 all_goals try exact nbZ
 all_goals try (exact Sc.of ⟨by decide, by decide⟩)
 have ok5 : LnOk (nextL dayC (nextL (fun t => zonC d.t.zones (cutS 44) (toS t)) (nextL (fun t => isOk (dT t) 7) (nextL (fun t => isOk (dT t) 7) (nextL (fun t => isOk (nameB (toS t)) 4) (nextL (fun t => kndC (decide (0 < (d.l0.length : Int))) (toS t)) l)))))) := (Side.mk ((((((hs.get.next _).next _).next _).next _).next _).next _)).get
 obtain ⟨L5, hL5⟩ : ∃ L5, L5 = (nextL dayC (nextL (fun t => zonC d.t.zones (cutS 44) (toS t)) (nextL (fun t => isOk (dT t) 7) (nextL (fun t => isOk (dT t) 7) (nextL (fun t => isOk (nameB (toS t)) 4) (nextL (fun t => kndC (decide (0 < (d.l0.length : Int))) (toS t)) l)))))) := ⟨_, rfl⟩
 rw [<- hL5] at ok5
 refine ⟨Nat, fun i => ([(0, .ptr 0 0), (1, .ptr 12 0), (9, .ptr 14 0), (133, .agg 5 (tbl [.ptr 14 5, .ptr 14 6, .ptr 14 7, .ptr 14 8, .ptr 14 9])), (134, .int .i64 (i : Nat))], drO (d.nt3 number) ++ [lnO (li5 L5 i), .box [.bool (decide (0 < (d.l0.length : Int)))], .box [.str (toS (nextW (nextL (fun t => kndC (decide (0 < (d.l0.length : Int))) (toS t)) l))), .int .i64 (vT (nextW (nextL (fun t => isOk (nameB (toS t)) 4) (nextL (fun t => kndC (decide (0 < (d.l0.length : Int))) (toS t)) l)))), .int .i64 (vT (nextW (nextL (fun t => isOk (dT t) 7) (nextL (fun t => isOk (nameB (toS t)) 4) (nextL (fun t => kndC (decide (0 < (d.l0.length : Int))) (toS t)) l))))), iRow (zonL d.t.zones (cutS 44 (toS (nextW (nextL (fun t => isOk (dT t) 7) (nextL (fun t => isOk (dT t) 7) (nextL (fun t => isOk (nameB (toS t)) 4) (nextL (fun t => kndC (decide (0 < (d.l0.length : Int))) (toS t)) l)))))))), iRow (dayL (toS (nextW (nextL (fun t => zonC d.t.zones (cutS 44) (toS t)) (nextL (fun t => isOk (dT t) 7) (nextL (fun t => isOk (dT t) 7) (nextL (fun t => isOk (nameB (toS t)) 4) (nextL (fun t => kndC (decide (0 < (d.l0.length : Int))) (toS t)) l)))))))), .int .i64 (r5 L5 i 0), .int .i64 (r5 L5 i 1), .int .i64 (r5 L5 i 2), .int .i64 (r5 L5 i 3), .int .i64 (r5 L5 i 4)]]), fun i => i <= 5, fun i => 5 - i, ⟨0, by decide, .le ⟨rfl, ⟨.refl _, .refl _, .refl _, .refl _, .refl _, .refl _, .refl _, .refl _, .refl _, .refl _, .refl _, .refl _, ?_, .refl _, .boxes rfZ, trivial⟩, ⟨.refl _, .refl _, .refl _, .aggs (n := 5) ⟨⟨⟨⟨⟨trivial, .refl _⟩, .refl _⟩, .refl _⟩, .refl _⟩, .refl _⟩, .refl _, trivial⟩⟩⟩, fun i hi => ?_⟩
 ·rw [hL5]; exact .refl _
 rcases i with _ | _ | _ | _ | _ | _ | i
 ·skip
  repeat' (first
   | (refine Ax.go ?_; first | ((with_reducible (apply altM (ks := [12]) (m := 0); apply And.intro; apply Sc.of; apply (c77 hX hl (li5 L5 (0)) (Side.mk (li5_ok ok5 _))))); case' right => (refine And.intro ?_ (And.intro ?_ (And.intro ?_ (And.intro ?lo ?_))); case lo => (first | exact ⟨.refl _, trivial⟩ | exact ⟨.refl _, .refl _, trivial⟩))) | ((with_reducible (apply altM (ks := [12]) (m := 0); apply And.intro; apply Sc.of; apply (c82 hX hl (li5 L5 (0))))); case' right => (refine And.intro ?_ (And.intro ?_ (And.intro ?_ (And.intro ?lo ?_))); case lo => (first | exact ⟨.refl _, trivial⟩ | exact ⟨.refl _, .refl _, trivial⟩))) | (with_reducible apply Alt.one))
   | exact Cl.go
   | ((fail_if_success refine Stop.go ?_); first | rw [beqvv (d.l0.length + 1)] | rw [beqvv (d.t.zones.length + 1)] | rw [beqvv (d.t.rules.length + 1)] | (with_reducible first | apply And.intro | apply Cut.go | (refine impI ?_; intro _; try (first | (exfalso; rename_i hh; revert hh; decide)))) | (refine propI ?_; conv => whnf)))
  all_goals try exact nbZ
  all_goals try (exact Sc.of ⟨by decide, by decide⟩)
  all_goals try (exfalso; rename_i hh; revert hh; decide)
  exact ⟨0 + 1, by show 0 + 1 <= 5; omega, by show 5 - (0 + 1) < 5 - (0); omega, .le ⟨rfl, ⟨.refl _, .refl _, .refl _, .refl _, .refl _, .refl _, .refl _, .refl _, .refl _, .refl _, .refl _, .refl _, .refl _, .refl _, .boxes rfZ, trivial⟩, rfZ⟩⟩
 ·skip
  repeat' (first
   | (refine Ax.go ?_; first | ((with_reducible (apply altM (ks := [12]) (m := 0); apply And.intro; apply Sc.of; apply (c77 hX hl (li5 L5 (0 + 1)) (Side.mk (li5_ok ok5 _))))); case' right => (refine And.intro ?_ (And.intro ?_ (And.intro ?_ (And.intro ?lo ?_))); case lo => (first | exact ⟨.refl _, trivial⟩ | exact ⟨.refl _, .refl _, trivial⟩))) | ((with_reducible (apply altM (ks := [12]) (m := 0); apply And.intro; apply Sc.of; apply (c82 hX hl (li5 L5 (0 + 1))))); case' right => (refine And.intro ?_ (And.intro ?_ (And.intro ?_ (And.intro ?lo ?_))); case lo => (first | exact ⟨.refl _, trivial⟩ | exact ⟨.refl _, .refl _, trivial⟩))) | (with_reducible apply Alt.one))
   | exact Cl.go
   | ((fail_if_success refine Stop.go ?_); first | rw [beqvv (d.l0.length + 1)] | rw [beqvv (d.t.zones.length + 1)] | rw [beqvv (d.t.rules.length + 1)] | (with_reducible first | apply And.intro | apply Cut.go | (refine impI ?_; intro _; try (first | (exfalso; rename_i hh; revert hh; decide)))) | (refine propI ?_; conv => whnf)))
  all_goals try exact nbZ
  all_goals try (exact Sc.of ⟨by decide, by decide⟩)
  all_goals try (exfalso; rename_i hh; revert hh; decide)
  exact ⟨0 + 1 + 1, by show 0 + 1 + 1 <= 5; omega, by show 5 - (0 + 1 + 1) < 5 - (0 + 1); omega, .le ⟨rfl, ⟨.refl _, .refl _, .refl _, .refl _, .refl _, .refl _, .refl _, .refl _, .refl _, .refl _, .refl _, .refl _, .refl _, .refl _, .boxes rfZ, trivial⟩, rfZ⟩⟩
 ·skip
  repeat' (first
   | (refine Ax.go ?_; first | ((with_reducible (apply altM (ks := [12]) (m := 0); apply And.intro; apply Sc.of; apply (c77 hX hl (li5 L5 (0 + 1 + 1)) (Side.mk (li5_ok ok5 _))))); case' right => (refine And.intro ?_ (And.intro ?_ (And.intro ?_ (And.intro ?lo ?_))); case lo => (first | exact ⟨.refl _, trivial⟩ | exact ⟨.refl _, .refl _, trivial⟩))) | ((with_reducible (apply altM (ks := [12]) (m := 0); apply And.intro; apply Sc.of; apply (c82 hX hl (li5 L5 (0 + 1 + 1))))); case' right => (refine And.intro ?_ (And.intro ?_ (And.intro ?_ (And.intro ?lo ?_))); case lo => (first | exact ⟨.refl _, trivial⟩ | exact ⟨.refl _, .refl _, trivial⟩))) | (with_reducible apply Alt.one))
   | exact Cl.go
   | ((fail_if_success refine Stop.go ?_); first | rw [beqvv (d.l0.length + 1)] | rw [beqvv (d.t.zones.length + 1)] | rw [beqvv (d.t.rules.length + 1)] | (with_reducible first | apply And.intro | apply Cut.go | (refine impI ?_; intro _; try (first | (exfalso; rename_i hh; revert hh; decide)))) | (refine propI ?_; conv => whnf)))
  all_goals try exact nbZ
  all_goals try (exact Sc.of ⟨by decide, by decide⟩)
  all_goals try (exfalso; rename_i hh; revert hh; decide)
  exact ⟨0 + 1 + 1 + 1, by show 0 + 1 + 1 + 1 <= 5; omega, by show 5 - (0 + 1 + 1 + 1) < 5 - (0 + 1 + 1); omega, .le ⟨rfl, ⟨.refl _, .refl _, .refl _, .refl _, .refl _, .refl _, .refl _, .refl _, .refl _, .refl _, .refl _, .refl _, .refl _, .refl _, .boxes rfZ, trivial⟩, rfZ⟩⟩
 ·skip
  repeat' (first
   | (refine Ax.go ?_; first | ((with_reducible (apply altM (ks := [12]) (m := 0); apply And.intro; apply Sc.of; apply (c77 hX hl (li5 L5 (0 + 1 + 1 + 1)) (Side.mk (li5_ok ok5 _))))); case' right => (refine And.intro ?_ (And.intro ?_ (And.intro ?_ (And.intro ?lo ?_))); case lo => (first | exact ⟨.refl _, trivial⟩ | exact ⟨.refl _, .refl _, trivial⟩))) | ((with_reducible (apply altM (ks := [12]) (m := 0); apply And.intro; apply Sc.of; apply (c82 hX hl (li5 L5 (0 + 1 + 1 + 1))))); case' right => (refine And.intro ?_ (And.intro ?_ (And.intro ?_ (And.intro ?lo ?_))); case lo => (first | exact ⟨.refl _, trivial⟩ | exact ⟨.refl _, .refl _, trivial⟩))) | (with_reducible apply Alt.one))
   | exact Cl.go
   | ((fail_if_success refine Stop.go ?_); first | rw [beqvv (d.l0.length + 1)] | rw [beqvv (d.t.zones.length + 1)] | rw [beqvv (d.t.rules.length + 1)] | (with_reducible first | apply And.intro | apply Cut.go | (refine impI ?_; intro _; try (first | (exfalso; rename_i hh; revert hh; decide)))) | (refine propI ?_; conv => whnf)))
  all_goals try exact nbZ
  all_goals try (exact Sc.of ⟨by decide, by decide⟩)
  all_goals try (exfalso; rename_i hh; revert hh; decide)
  exact ⟨0 + 1 + 1 + 1 + 1, by show 0 + 1 + 1 + 1 + 1 <= 5; omega, by show 5 - (0 + 1 + 1 + 1 + 1) < 5 - (0 + 1 + 1 + 1); omega, .le ⟨rfl, ⟨.refl _, .refl _, .refl _, .refl _, .refl _, .refl _, .refl _, .refl _, .refl _, .refl _, .refl _, .refl _, .refl _, .refl _, .boxes rfZ, trivial⟩, rfZ⟩⟩
 ·skip
  repeat' (first
   | (refine Ax.go ?_; first | ((with_reducible (apply altM (ks := [12]) (m := 0); apply And.intro; apply Sc.of; apply (c77 hX hl (li5 L5 (0 + 1 + 1 + 1 + 1)) (Side.mk (li5_ok ok5 _))))); case' right => (refine And.intro ?_ (And.intro ?_ (And.intro ?_ (And.intro ?lo ?_))); case lo => (first | exact ⟨.refl _, trivial⟩ | exact ⟨.refl _, .refl _, trivial⟩))) | ((with_reducible (apply altM (ks := [12]) (m := 0); apply And.intro; apply Sc.of; apply (c82 hX hl (li5 L5 (0 + 1 + 1 + 1 + 1))))); case' right => (refine And.intro ?_ (And.intro ?_ (And.intro ?_ (And.intro ?lo ?_))); case lo => (first | exact ⟨.refl _, trivial⟩ | exact ⟨.refl _, .refl _, trivial⟩))) | (with_reducible apply Alt.one))
   | exact Cl.go
   | ((fail_if_success refine Stop.go ?_); first | rw [beqvv (d.l0.length + 1)] | rw [beqvv (d.t.zones.length + 1)] | rw [beqvv (d.t.rules.length + 1)] | (with_reducible first | apply And.intro | apply Cut.go | (refine impI ?_; intro _; try (first | (exfalso; rename_i hh; revert hh; decide)))) | (refine propI ?_; conv => whnf)))
  all_goals try exact nbZ
  all_goals try (exact Sc.of ⟨by decide, by decide⟩)
  all_goals try (exfalso; rename_i hh; revert hh; decide)
  exact ⟨0 + 1 + 1 + 1 + 1 + 1, by show 0 + 1 + 1 + 1 + 1 + 1 <= 5; omega, by show 5 - (0 + 1 + 1 + 1 + 1 + 1) < 5 - (0 + 1 + 1 + 1 + 1); omega, .le ⟨rfl, ⟨.refl _, .refl _, .refl _, .refl _, .refl _, .refl _, .refl _, .refl _, .refl _, .refl _, .refl _, .refl _, .refl _, .refl _, .boxes rfZ, trivial⟩, rfZ⟩⟩
 ·skip
  repeat' (first
   | (refine Ax.go ?_; first | ((with_reducible (apply altM (ks := [12]) (m := 0); apply And.intro; apply Sc.of; apply (c77 hX hl (li5 L5 (0 + 1 + 1 + 1 + 1 + 1)) (Side.mk (li5_ok ok5 _))))); case' right => (refine And.intro ?_ (And.intro ?_ (And.intro ?_ (And.intro ?lo ?_))); case lo => (first | exact ⟨.refl _, trivial⟩ | exact ⟨.refl _, .refl _, trivial⟩))) | ((with_reducible (apply altM (ks := [12]) (m := 0); apply And.intro; apply Sc.of; apply (c82 hX hl (li5 L5 (0 + 1 + 1 + 1 + 1 + 1))))); case' right => (refine And.intro ?_ (And.intro ?_ (And.intro ?_ (And.intro ?lo ?_))); case lo => (first | exact ⟨.refl _, trivial⟩ | exact ⟨.refl _, .refl _, trivial⟩))) | (with_reducible apply Alt.one))
   | exact Cl.go
   | ((fail_if_success refine Stop.go ?_); first | rw [beqvv (d.l0.length + 1)] | rw [beqvv (d.t.zones.length + 1)] | rw [beqvv (d.t.rules.length + 1)] | (with_reducible first | apply And.intro | apply Cut.go | (refine impI ?_; intro _; try (first | (exfalso; rename_i hh; revert hh; decide)))) | (refine propI ?_; conv => whnf)))
  all_goals try exact nbZ
  all_goals try (exact Sc.of ⟨by decide, by decide⟩)
  all_goals try (exfalso; rename_i hh; revert hh; decide)
  all_goals try (have h6 := hd.get.r; exact Sc.of ⟨show (d.t.rules.length + (0 + 1)) * 120 <= 140737488355328 by omega, show d.t.rules.length + (0 + 1) <= 9223372036854775807 by omega⟩)
  rw [<- hL5]
  rw [drO_adR]
  exact .mk [] [] _ rfl (.le (.refl _)) ⟨.le (.refl _), .le (.refl _), .le (.refl _), .le (.list fun a j ha hj => push_rD (fun j hj => by rcases (show j = 0 \/ j = 1 \/ j = 2 \/ j = 3 \/ j = 4 \/ j = 5 \/ j = 6 \/ j = 7 \/ j = 8 \/ j = 9 by omega) with rfl | rfl | rfl | rfl | rfl | rfl | rfl | rfl | rfl | rfl <;> exact .refl _) hj ha), .le (.refl _), .le (.refl _), .le (.refl _), .le (.refl _), .le (.refl _), .le (.refl _), .le (.refl _), .le (.refl _), .le (.refl _), trivial⟩ rfl
 ·exact absurd (show i + 1 + 1 + 1 + 1 + 1 + 1 <= 5 from hi) (by omega)
end
end Go.Fx
/-
 The draft of a tariff: a line read.
-/
namespace Go.Fx
open Go.Proofs Go.RowKit
def readP (d : Dft) (l : Ln) (number : Int) : Dft × Ln :=
 if (nextL (fun t => kndC (decide (0 < (d.l0.length : Int))) (toS t)) l).e ≠ 0 then (d, (nextL (fun t => kndC (decide (0 < (d.l0.length : Int))) (toS t)) l))
 else if toS (nextW l) = ({ data := #[116, 97, 114, 105, 102, 102] } : ByteArray) then ({ d with t := { d.t with name := toS (nextW (nextL (fun t => kndC (decide (0 < (d.l0.length : Int))) (toS t)) l)), unit := vT (nextW (nextL (fun t => isOk (nameB (toS t)) 4) (nextL (fun t => kndC (decide (0 < (d.l0.length : Int))) (toS t)) l))), step := vT (nextW (nextL (fun t => isOk (dT t) 7) (nextL (fun t => isOk (nameB (toS t)) 4) (nextL (fun t => kndC (decide (0 < (d.l0.length : Int))) (toS t)) l)))) }, l0 := d.l0 ++ [number] }, closeL (nextL (fun t => isOk (dT t) 7) (nextL (fun t => isOk (dT t) 7) (nextL (fun t => isOk (nameB (toS t)) 4) (nextL (fun t => kndC (decide (0 < (d.l0.length : Int))) (toS t)) l)))))
 else if toS (nextW l) = ({ data := #[122, 111, 110, 101] } : ByteArray) then ((d.nt1 number).adZ (toS (nextW (nextL (fun t => kndC (decide (0 < (d.l0.length : Int))) (toS t)) l))), closeL (nextL (fun t => isOk (nameB (toS t)) 4) (nextL (fun t => kndC (decide (0 < (d.l0.length : Int))) (toS t)) l)))
 else if toS (nextW l) = ({ data := #[104, 111, 108, 105, 100, 97, 121] } : ByteArray) then ((d.nt2 number).adH (vT (nextW (nextL (fun t => kndC (decide (0 < (d.l0.length : Int))) (toS t)) l))), closeL (nextL (fun t => isOk (dT t) 7) (nextL (fun t => kndC (decide (0 < (d.l0.length : Int))) (toS t)) l)))
 else if toS (nextW l) = ({ data := #[114, 117, 108, 101] } : ByteArray) then ((d.nt3 number).adR ⟨(toS (nextW (nextL (fun t => kndC (decide (0 < (d.l0.length : Int))) (toS t)) l))), (vT (nextW (nextL (fun t => isOk (nameB (toS t)) 4) (nextL (fun t => kndC (decide (0 < (d.l0.length : Int))) (toS t)) l)))), (vT (nextW (nextL (fun t => isOk (dT t) 7) (nextL (fun t => isOk (nameB (toS t)) 4) (nextL (fun t => kndC (decide (0 < (d.l0.length : Int))) (toS t)) l))))), (zonL d.t.zones (cutS 44 (toS (nextW (nextL (fun t => isOk (dT t) 7) (nextL (fun t => isOk (dT t) 7) (nextL (fun t => isOk (nameB (toS t)) 4) (nextL (fun t => kndC (decide (0 < (d.l0.length : Int))) (toS t)) l)))))))), (dayL (toS (nextW (nextL (fun t => zonC d.t.zones (cutS 44) (toS t)) (nextL (fun t => isOk (dT t) 7) (nextL (fun t => isOk (dT t) 7) (nextL (fun t => isOk (nameB (toS t)) 4) (nextL (fun t => kndC (decide (0 < (d.l0.length : Int))) (toS t)) l)))))))), r5 (nextL dayC (nextL (fun t => zonC d.t.zones (cutS 44) (toS t)) (nextL (fun t => isOk (dT t) 7) (nextL (fun t => isOk (dT t) 7) (nextL (fun t => isOk (nameB (toS t)) 4) (nextL (fun t => kndC (decide (0 < (d.l0.length : Int))) (toS t)) l)))))) 5 0, r5 (nextL dayC (nextL (fun t => zonC d.t.zones (cutS 44) (toS t)) (nextL (fun t => isOk (dT t) 7) (nextL (fun t => isOk (dT t) 7) (nextL (fun t => isOk (nameB (toS t)) 4) (nextL (fun t => kndC (decide (0 < (d.l0.length : Int))) (toS t)) l)))))) 5 1, r5 (nextL dayC (nextL (fun t => zonC d.t.zones (cutS 44) (toS t)) (nextL (fun t => isOk (dT t) 7) (nextL (fun t => isOk (dT t) 7) (nextL (fun t => isOk (nameB (toS t)) 4) (nextL (fun t => kndC (decide (0 < (d.l0.length : Int))) (toS t)) l)))))) 5 2, r5 (nextL dayC (nextL (fun t => zonC d.t.zones (cutS 44) (toS t)) (nextL (fun t => isOk (dT t) 7) (nextL (fun t => isOk (dT t) 7) (nextL (fun t => isOk (nameB (toS t)) 4) (nextL (fun t => kndC (decide (0 < (d.l0.length : Int))) (toS t)) l)))))) 5 3, r5 (nextL dayC (nextL (fun t => zonC d.t.zones (cutS 44) (toS t)) (nextL (fun t => isOk (dT t) 7) (nextL (fun t => isOk (dT t) 7) (nextL (fun t => isOk (nameB (toS t)) 4) (nextL (fun t => kndC (decide (0 < (d.l0.length : Int))) (toS t)) l)))))) 5 4⟩, closeL (li5 (nextL dayC (nextL (fun t => zonC d.t.zones (cutS 44) (toS t)) (nextL (fun t => isOk (dT t) 7) (nextL (fun t => isOk (dT t) 7) (nextL (fun t => isOk (nameB (toS t)) 4) (nextL (fun t => kndC (decide (0 < (d.l0.length : Int))) (toS t)) l)))))) 5))
 else if toS (nextW l) = ({ data := #[101, 120, 116, 114, 97] } : ByteArray) then ((d.nt4 number).adE ⟨toS (nextW (nextL (fun t => kndC (decide (0 < (d.l0.length : Int))) (toS t)) l)), vT (nextW (nextL (fun t => isOk (nameB (toS t)) 4) (nextL (fun t => kndC (decide (0 < (d.l0.length : Int))) (toS t)) l)))⟩, closeL (nextL (fun t => isOk (dT t) 7) (nextL (fun t => isOk (nameB (toS t)) 4) (nextL (fun t => kndC (decide (0 < (d.l0.length : Int))) (toS t)) l))))
 else ((d.nt5 number).adF ⟨((zonL d.t.zones (oneP (toS (nextW (nextL (fun t => kndC (decide (0 < (d.l0.length : Int))) (toS t)) l))))).getD 0 0), ((zonL d.t.zones (oneP (toS (nextW (nextL (fun t => zonC d.t.zones oneP (toS t)) (nextL (fun t => kndC (decide (0 < (d.l0.length : Int))) (toS t)) l)))))).getD 0 0), vT (nextW (nextL (fun t => zonC d.t.zones oneP (toS t)) (nextL (fun t => zonC d.t.zones oneP (toS t)) (nextL (fun t => kndC (decide (0 < (d.l0.length : Int))) (toS t)) l))))⟩, closeL (nextL (fun t => isOk (dT t) 7) (nextL (fun t => zonC d.t.zones oneP (toS t)) (nextL (fun t => zonC d.t.zones oneP (toS t)) (nextL (fun t => kndC (decide (0 < (d.l0.length : Int))) (toS t)) l)))))
theorem isOk_tr {b : Bool} {e : Int} (he : e ≠ 0) (h : isOk b e = 0) : b = true := by
 cases b with
 | true => rfl
 | false => exact absurd h he
theorem fail_e {l : Ln} {e c : Int} (h : (failL l e c).e = 0) : e = 0 := by
 unfold failL at h
 cases q : l.e == 0 with
 | true => rw [q] at h; exact h
 | false => rw [q] at h; rw [show l.e = 0 from h] at q; cases q
theorem next_e {g : Tx -> Int} {l : Ln} (h : (nextL g l).e = 0) : ∃ w r, l.ws = w :: r /\ g w.t = 0 /\ l.e = 0 /\ nextL g l = { l with ws := r } := by
 rcases l with ⟨_ | ⟨w, r⟩, en, e, c⟩
 ·exact absurd (fail_e (l := ⟨[], en, e, c⟩) (e := 6) h) (by decide)
 ·cases q : (g w.t != 0) with
  | true =>
   rw [nextL_1 q] at h
   rw [fail_e h] at q; cases q
  | false =>
   have e0 := nextL_0 (g := g) (r := r) (en := en) (e := e) (c := c) q
   rw [e0] at h
   exact ⟨w, r, rfl, by simpa using q, h, e0⟩
theorem kind6 {d : Dft} {l : Ln} (h : (nextL (fun t => kndC (decide (0 < (d.l0.length : Int))) (toS t)) l).e = 0) : toS (nextW l) = ({ data := #[116, 97, 114, 105, 102, 102] } : ByteArray) \/ toS (nextW l) = ({ data := #[122, 111, 110, 101] } : ByteArray) \/ toS (nextW l) = ({ data := #[104, 111, 108, 105, 100, 97, 121] } : ByteArray) \/ toS (nextW l) = ({ data := #[114, 117, 108, 101] } : ByteArray) \/ toS (nextW l) = ({ data := #[101, 120, 116, 114, 97] } : ByteArray) \/ toS (nextW l) = ({ data := #[102, 105, 120, 101, 100] } : ByteArray) := by
 obtain ⟨w, r, h1, h2, h3, h4⟩ := next_e h
 have e : nextW l = w.t := by unfold nextW; rw [h1]
 rw [e]
 unfold kndC at h2
 cases q : (!decide (0 < (d.l0.length : Int))) with
 | true =>
  rw [q] at h2
  exact .inl (of_decide_eq_true (isOk_tr (e := 7) (by decide) h2))
 | false =>
  rw [q] at h2
  have h2 := isOk_tr (e := 7) (by decide) h2
  unfold hasB at h2
  obtain ⟨i, hi, hp⟩ := List.any_eq_true.1 h2
  have hi : i < 5 := List.mem_range.1 hi
  have hp := (of_decide_eq_true hp).symm
  right
  rcases (show i = 0 \/ i = 1 \/ i = 2 \/ i = 3 \/ i = 4 by omega) with rfl | rfl | rfl | rfl | rfl
  ·exact .inl hp
  ·exact .inr (.inl hp)
  ·exact .inr (.inr (.inl hp))
  ·exact .inr (.inr (.inr (.inl hp)))
  ·exact .inr (.inr (.inr (.inr hp)))
section
variable {W0 : World} {G : Nat -> Option AV} (hX : (Xc W0 G).Good) (hl : Laid W0)
include hX hl
theorem c40 (d : Dft) (l : Ln) (number : Int) (hd : Side (DOk d)) (hs : Side (LnOk l)) : Mut (Xc W0 G) 40 [.ptr 0 0, .ptr 12 0, .int .i64 number] (drO d ++ [lnO l]) (tupAV []) (drO (readP d l number).1 ++ [lnO (readP d l number).2]) := by
 unfold readP
 by_cases he : (nextL (fun t => kndC (decide (0 < (d.l0.length : Int))) (toS t)) l).e = 0
 ·rw [if_neg (fun h => h he)]
  by_cases h_tar : toS (nextW l) = ({ data := #[116, 97, 114, 105, 102, 102] } : ByteArray)
  ·rw [if_pos h_tar]; exact c40_tar hX hl d l number hd hs (Side.mk h_tar) (Side.mk he)
  rw [if_neg h_tar]
  by_cases h_zon : toS (nextW l) = ({ data := #[122, 111, 110, 101] } : ByteArray)
  ·rw [if_pos h_zon]; exact c40_zon hX hl d l number hd hs (Side.mk h_zon) (Side.mk he)
  rw [if_neg h_zon]
  by_cases h_hol : toS (nextW l) = ({ data := #[104, 111, 108, 105, 100, 97, 121] } : ByteArray)
  ·rw [if_pos h_hol]; exact c40_hol hX hl d l number hd hs (Side.mk h_hol) (Side.mk he)
  rw [if_neg h_hol]
  by_cases h_rul : toS (nextW l) = ({ data := #[114, 117, 108, 101] } : ByteArray)
  ·rw [if_pos h_rul]; exact c40_rul hX hl d l number hd hs (Side.mk h_rul) (Side.mk he)
  rw [if_neg h_rul]
  by_cases h_ext : toS (nextW l) = ({ data := #[101, 120, 116, 114, 97] } : ByteArray)
  ·rw [if_pos h_ext]; exact c40_ext hX hl d l number hd hs (Side.mk h_ext) (Side.mk he)
  rw [if_neg h_ext]
  have h_fix : toS (nextW l) = ({ data := #[102, 105, 120, 101, 100] } : ByteArray) := by
   rcases kind6 he with h | h | h | h | h | h
   ·exact absurd h h_tar
   ·exact absurd h h_zon
   ·exact absurd h h_hol
   ·exact absurd h h_rul
   ·exact absurd h h_ext
   ·exact h
  exact c40_fix hX hl d l number hd hs (Side.mk h_fix) (Side.mk he)
 ·rw [if_pos he]; exact c40_e hX hl d l number hd hs (Side.mk he)
end
end Go.Fx
