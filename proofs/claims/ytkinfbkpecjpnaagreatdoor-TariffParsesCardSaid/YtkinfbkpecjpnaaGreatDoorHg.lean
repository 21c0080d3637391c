/-
 The program reads a tariff.
-/
import Derived.Test.YtkinfbkpecjpnaaGreatDoorHf
set_option linter.all false
/-
 The program reads a tariff.
-/
namespace Go.Fx
open Go.Proofs Go.RowKit
theorem idx10 (r : ByteArray) : Lib.indexByte r.data.toList 10 = -1 \/ ∃ i : Nat, Lib.indexByte r.data.toList 10 = i := by
 have := Lib.indexByte_ge r.data.toList 10
 by_cases h : Lib.indexByte r.data.toList 10 = -1
 ·exact .inl h
 ·exact .inr ⟨(Lib.indexByte r.data.toList 10).toNat, by omega⟩
theorem DInv.ok {d : Dft} {n : Nat} (h : DInv d n) (hn : n <= 900) : DOk d :=
 ⟨Nat.le_trans h.z hn, Nat.le_trans h.h hn, Nat.le_trans h.r hn, Nat.le_trans h.e hn, Nat.le_trans h.f hn, ⟨Nat.le_trans h.l0 (by omega), Nat.le_trans h.l1 (by omega), Nat.le_trans h.l2 (by omega), Nat.le_trans h.l3 (by omega), Nat.le_trans h.l4 (by omega), Nat.le_trans h.l5 (by omega)⟩⟩
section
variable {W0 : World} {G : Nat -> Option AV} (hX : (Xc W0 G).Good) (hl : Laid W0)
include hX hl
theorem c37 (s : ByteArray) : Mut (Xc W0 G) 37 [.str s] [] (.fn 68 1 (tbl [.ptr 0 0])) [.box [.str s]] := by
 refine mut_of' hX (fnI Tryz.f37) rfl ?_
 repeat' (first
  | (refine Ax.go ?_; first | (with_reducible apply Alt.one))
  | exact Cl.go
  | ((fail_if_success refine Stop.go ?_); first | (with_reducible first | apply And.intro | apply Cut.go | (refine impI ?_; intro _)) | (refine propI ?_; conv => whnf)))
 all_goals try exact nbZ
 all_goals exact .mk [0] [] _ rfl (.le (.fns ⟨trivial, .refl _⟩)) ⟨.le (.refl _), trivial⟩ rfl
theorem c13_8 (s : ByteArray) (hs : Side (60000 < s.size)) : Pure (Xc W0 G) 13 [.str s] (resP ⟨trf0, 0, 0, 8⟩) := by
 have hz : ¬ decide ((60000 : Int) < ((s.size : Nat) : Int)) = false := by have := hs.get; rw [decide_eq_true (by omega)]; decide
 refine mut_of' hX (fnI Tryz.f13) rfl ?_
 repeat' (first
  | (refine Ax.go ?_; first | (with_reducible apply Alt.one))
  | exact Cl.go
  | ((fail_if_success refine Stop.go ?_); first | (with_reducible first | apply And.intro | apply Cut.go | (refine impI ?_; intro _; try (first | exact ko hz))) | (refine propI ?_; conv => whnf)))
 all_goals try exact nbZ
 all_goals exact .mk [] [] _ rfl (.le (.tups ⟨⟨⟨trivial, .aggs (n := 8) (z8 rfl)⟩, .aggs (n := 2) ⟨⟨trivial, .refl _⟩, .refl _⟩⟩, .refl _⟩)) trivial rfl
set_option maxRecDepth 20000 in
set_option maxHeartbeats 30000000 in
theorem c13_p (s : ByteArray) (hs : Side (s.size <= 500)) : Pure (Xc W0 G) 13 [.str s] (resP (fromP (linT s.data.toList) dft0 0)) := by
 have hz : ¬ decide ((60000 : Int) < ((s.size : Nat) : Int)) = true := by have := hs.get; rw [decide_eq_false (by omega)]; decide
 refine mut_of' hX (fnI Tryz.f13) rfl ?_
 repeat' (first
  | (refine Ax.go ?_; first | (with_reducible (apply altM (ks := []) (m := 1); apply And.intro; apply Sc.of; apply (c37 hX hl s))) | (with_reducible apply Alt.one))
  | exact Cl.go
  | ((fail_if_success refine Stop.go ?_); first | (with_reducible first | apply And.intro | apply Cut.go | (refine impI ?_; intro _; try (first | exact ko hz))) | (refine propI ?_; conv => whnf)))
 all_goals try exact nbZ
 refine ⟨_, _, (fnI Tryz.f68), rfl, ?_⟩
 repeat' (first
  | (refine Ax.go ?_; first | (with_reducible apply Alt.one))
  | exact Cl.go
  | ((fail_if_success refine Stop.go ?_); first | (with_reducible first | apply And.intro | apply Cut.go | (refine impI ?_; intro _)) | (refine propI ?_; conv => whnf)))
 all_goals try exact nbZ
 generalize hL : HObj.lrec _ _ _ _ _ _ _ = L
 refine ⟨ByteArray × Dft × Nat, fun (r, d, k) => ([(0, .yld 6), (1, .ptr 5 0)], [.box [.str bs0, .int .i64 0, .int .i64 0, .slc0, .slc0, .slc0, .slc0, .slc0], .box [.int .i64 0, .int .i64 0], .box [.int .i64 0], .box [.str d.t.name, .int .i64 d.t.unit, .int .i64 d.t.step, .own 7 (d.t.zones.length + 1), .own 8 (d.t.hol.length + 1), .own 9 (d.t.rules.length + 1), .own 10 (d.t.extras.length + 1), .own 11 (d.t.fixed.length + 1), .own 12 (d.l0.length + 1), .own 13 (d.l1.length + 1), .own 14 (d.l2.length + 1), .own 15 (d.l3.length + 1), .own 16 (d.l4.length + 1), .own 17 (d.l5.length + 1)], .box [.int .i64 (k : Nat)], .box [.str r], L, .list 9 1 d.t.zones.length (fun a _ => .str (d.t.zones.getD a bs0)) (d.t.zones.length + 1), .list 3 1 d.t.hol.length (fun a _ => .int .i64 (d.t.hol.getD a 0)) (d.t.hol.length + 1), .list 113 10 d.t.rules.length (fun a j => tbl (rulC (d.t.rules.getD a rul0)) j) (d.t.rules.length + 1), .list 115 2 d.t.extras.length (fun a j => tbl (extC (d.t.extras.getD a ext0)) j) (d.t.extras.length + 1), .list 117 3 d.t.fixed.length (fun a j => tbl (fxdC (d.t.fixed.getD a fxd0)) j) (d.t.fixed.length + 1), .list 3 1 d.l0.length (fun a _ => .int .i64 (d.l0.getD a 0)) (d.l0.length + 1), .list 3 1 d.l1.length (fun a _ => .int .i64 (d.l1.getD a 0)) (d.l1.length + 1), .list 3 1 d.l2.length (fun a _ => .int .i64 (d.l2.getD a 0)) (d.l2.length + 1), .list 3 1 d.l3.length (fun a _ => .int .i64 (d.l3.getD a 0)) (d.l3.length + 1), .list 3 1 d.l4.length (fun a _ => .int .i64 (d.l4.getD a 0)) (d.l4.length + 1), .list 3 1 d.l5.length (fun a _ => .int .i64 (d.l5.getD a 0)) (d.l5.length + 1)]), fun (r, d, k) => fromP (linT s.data.toList) dft0 0 = fromP (linT r.data.toList) d k /\ k + r.size <= s.size /\ DInv d k, fun (r, d, k) => r.size, ⟨(s, dft0, 0), ⟨rfl, by omega, dft0_inv⟩, ?_⟩, fun y hy => ?_⟩
 ·skip
  refine .bornE [.box [.str bs0, .int .i64 0, .int .i64 0, .slc0, .slc0, .slc0, .slc0, .slc0], .box [.int .i64 0, .int .i64 0], .box [.int .i64 0], .box [.str bs0, .int .i64 0, .int .i64 0, .own 7 1, .slc0, .slc0, .slc0, .slc0, .slc0, .slc0, .slc0, .slc0, .slc0, .slc0], .box [.int .i64 0], .box [.str s], L, .list 9 1 0 (fun a _ => .str (dft0.t.zones.getD a bs0)) 1] 3 3 9 1 (fun a _ => .str (dft0.t.zones.getD a bs0)) rfl rfl rfl ?_
  refine .bornE [.box [.str bs0, .int .i64 0, .int .i64 0, .slc0, .slc0, .slc0, .slc0, .slc0], .box [.int .i64 0, .int .i64 0], .box [.int .i64 0], .box [.str bs0, .int .i64 0, .int .i64 0, .own 7 1, .own 8 1, .slc0, .slc0, .slc0, .slc0, .slc0, .slc0, .slc0, .slc0, .slc0], .box [.int .i64 0], .box [.str s], L, .list 9 1 0 (fun a _ => .str (dft0.t.zones.getD a bs0)) 1, .list 3 1 0 (fun a _ => .int .i64 (dft0.t.hol.getD a 0)) 1] 3 4 3 1 (fun a _ => .int .i64 (dft0.t.hol.getD a 0)) rfl rfl rfl ?_
  refine .bornE [.box [.str bs0, .int .i64 0, .int .i64 0, .slc0, .slc0, .slc0, .slc0, .slc0], .box [.int .i64 0, .int .i64 0], .box [.int .i64 0], .box [.str bs0, .int .i64 0, .int .i64 0, .own 7 1, .own 8 1, .own 9 1, .slc0, .slc0, .slc0, .slc0, .slc0, .slc0, .slc0, .slc0], .box [.int .i64 0], .box [.str s], L, .list 9 1 0 (fun a _ => .str (dft0.t.zones.getD a bs0)) 1, .list 3 1 0 (fun a _ => .int .i64 (dft0.t.hol.getD a 0)) 1, .list 113 10 0 (fun a j => tbl (rulC (dft0.t.rules.getD a rul0)) j) 1] 3 5 113 10 (fun a j => tbl (rulC (dft0.t.rules.getD a rul0)) j) rfl rfl rfl ?_
  refine .bornE [.box [.str bs0, .int .i64 0, .int .i64 0, .slc0, .slc0, .slc0, .slc0, .slc0], .box [.int .i64 0, .int .i64 0], .box [.int .i64 0], .box [.str bs0, .int .i64 0, .int .i64 0, .own 7 1, .own 8 1, .own 9 1, .own 10 1, .slc0, .slc0, .slc0, .slc0, .slc0, .slc0, .slc0], .box [.int .i64 0], .box [.str s], L, .list 9 1 0 (fun a _ => .str (dft0.t.zones.getD a bs0)) 1, .list 3 1 0 (fun a _ => .int .i64 (dft0.t.hol.getD a 0)) 1, .list 113 10 0 (fun a j => tbl (rulC (dft0.t.rules.getD a rul0)) j) 1, .list 115 2 0 (fun a j => tbl (extC (dft0.t.extras.getD a ext0)) j) 1] 3 6 115 2 (fun a j => tbl (extC (dft0.t.extras.getD a ext0)) j) rfl rfl rfl ?_
  refine .bornE [.box [.str bs0, .int .i64 0, .int .i64 0, .slc0, .slc0, .slc0, .slc0, .slc0], .box [.int .i64 0, .int .i64 0], .box [.int .i64 0], .box [.str bs0, .int .i64 0, .int .i64 0, .own 7 1, .own 8 1, .own 9 1, .own 10 1, .own 11 1, .slc0, .slc0, .slc0, .slc0, .slc0, .slc0], .box [.int .i64 0], .box [.str s], L, .list 9 1 0 (fun a _ => .str (dft0.t.zones.getD a bs0)) 1, .list 3 1 0 (fun a _ => .int .i64 (dft0.t.hol.getD a 0)) 1, .list 113 10 0 (fun a j => tbl (rulC (dft0.t.rules.getD a rul0)) j) 1, .list 115 2 0 (fun a j => tbl (extC (dft0.t.extras.getD a ext0)) j) 1, .list 117 3 0 (fun a j => tbl (fxdC (dft0.t.fixed.getD a fxd0)) j) 1] 3 7 117 3 (fun a j => tbl (fxdC (dft0.t.fixed.getD a fxd0)) j) rfl rfl rfl ?_
  refine .bornE [.box [.str bs0, .int .i64 0, .int .i64 0, .slc0, .slc0, .slc0, .slc0, .slc0], .box [.int .i64 0, .int .i64 0], .box [.int .i64 0], .box [.str bs0, .int .i64 0, .int .i64 0, .own 7 1, .own 8 1, .own 9 1, .own 10 1, .own 11 1, .own 12 1, .slc0, .slc0, .slc0, .slc0, .slc0], .box [.int .i64 0], .box [.str s], L, .list 9 1 0 (fun a _ => .str (dft0.t.zones.getD a bs0)) 1, .list 3 1 0 (fun a _ => .int .i64 (dft0.t.hol.getD a 0)) 1, .list 113 10 0 (fun a j => tbl (rulC (dft0.t.rules.getD a rul0)) j) 1, .list 115 2 0 (fun a j => tbl (extC (dft0.t.extras.getD a ext0)) j) 1, .list 117 3 0 (fun a j => tbl (fxdC (dft0.t.fixed.getD a fxd0)) j) 1, .list 3 1 0 (fun a _ => .int .i64 (dft0.l0.getD a 0)) 1] 3 8 3 1 (fun a _ => .int .i64 (dft0.l0.getD a 0)) rfl rfl rfl ?_
  refine .bornE [.box [.str bs0, .int .i64 0, .int .i64 0, .slc0, .slc0, .slc0, .slc0, .slc0], .box [.int .i64 0, .int .i64 0], .box [.int .i64 0], .box [.str bs0, .int .i64 0, .int .i64 0, .own 7 1, .own 8 1, .own 9 1, .own 10 1, .own 11 1, .own 12 1, .own 13 1, .slc0, .slc0, .slc0, .slc0], .box [.int .i64 0], .box [.str s], L, .list 9 1 0 (fun a _ => .str (dft0.t.zones.getD a bs0)) 1, .list 3 1 0 (fun a _ => .int .i64 (dft0.t.hol.getD a 0)) 1, .list 113 10 0 (fun a j => tbl (rulC (dft0.t.rules.getD a rul0)) j) 1, .list 115 2 0 (fun a j => tbl (extC (dft0.t.extras.getD a ext0)) j) 1, .list 117 3 0 (fun a j => tbl (fxdC (dft0.t.fixed.getD a fxd0)) j) 1, .list 3 1 0 (fun a _ => .int .i64 (dft0.l0.getD a 0)) 1, .list 3 1 0 (fun a _ => .int .i64 (dft0.l1.getD a 0)) 1] 3 9 3 1 (fun a _ => .int .i64 (dft0.l1.getD a 0)) rfl rfl rfl ?_
  refine .bornE [.box [.str bs0, .int .i64 0, .int .i64 0, .slc0, .slc0, .slc0, .slc0, .slc0], .box [.int .i64 0, .int .i64 0], .box [.int .i64 0], .box [.str bs0, .int .i64 0, .int .i64 0, .own 7 1, .own 8 1, .own 9 1, .own 10 1, .own 11 1, .own 12 1, .own 13 1, .own 14 1, .slc0, .slc0, .slc0], .box [.int .i64 0], .box [.str s], L, .list 9 1 0 (fun a _ => .str (dft0.t.zones.getD a bs0)) 1, .list 3 1 0 (fun a _ => .int .i64 (dft0.t.hol.getD a 0)) 1, .list 113 10 0 (fun a j => tbl (rulC (dft0.t.rules.getD a rul0)) j) 1, .list 115 2 0 (fun a j => tbl (extC (dft0.t.extras.getD a ext0)) j) 1, .list 117 3 0 (fun a j => tbl (fxdC (dft0.t.fixed.getD a fxd0)) j) 1, .list 3 1 0 (fun a _ => .int .i64 (dft0.l0.getD a 0)) 1, .list 3 1 0 (fun a _ => .int .i64 (dft0.l1.getD a 0)) 1, .list 3 1 0 (fun a _ => .int .i64 (dft0.l2.getD a 0)) 1] 3 10 3 1 (fun a _ => .int .i64 (dft0.l2.getD a 0)) rfl rfl rfl ?_
  refine .bornE [.box [.str bs0, .int .i64 0, .int .i64 0, .slc0, .slc0, .slc0, .slc0, .slc0], .box [.int .i64 0, .int .i64 0], .box [.int .i64 0], .box [.str bs0, .int .i64 0, .int .i64 0, .own 7 1, .own 8 1, .own 9 1, .own 10 1, .own 11 1, .own 12 1, .own 13 1, .own 14 1, .own 15 1, .slc0, .slc0], .box [.int .i64 0], .box [.str s], L, .list 9 1 0 (fun a _ => .str (dft0.t.zones.getD a bs0)) 1, .list 3 1 0 (fun a _ => .int .i64 (dft0.t.hol.getD a 0)) 1, .list 113 10 0 (fun a j => tbl (rulC (dft0.t.rules.getD a rul0)) j) 1, .list 115 2 0 (fun a j => tbl (extC (dft0.t.extras.getD a ext0)) j) 1, .list 117 3 0 (fun a j => tbl (fxdC (dft0.t.fixed.getD a fxd0)) j) 1, .list 3 1 0 (fun a _ => .int .i64 (dft0.l0.getD a 0)) 1, .list 3 1 0 (fun a _ => .int .i64 (dft0.l1.getD a 0)) 1, .list 3 1 0 (fun a _ => .int .i64 (dft0.l2.getD a 0)) 1, .list 3 1 0 (fun a _ => .int .i64 (dft0.l3.getD a 0)) 1] 3 11 3 1 (fun a _ => .int .i64 (dft0.l3.getD a 0)) rfl rfl rfl ?_
  refine .bornE [.box [.str bs0, .int .i64 0, .int .i64 0, .slc0, .slc0, .slc0, .slc0, .slc0], .box [.int .i64 0, .int .i64 0], .box [.int .i64 0], .box [.str bs0, .int .i64 0, .int .i64 0, .own 7 1, .own 8 1, .own 9 1, .own 10 1, .own 11 1, .own 12 1, .own 13 1, .own 14 1, .own 15 1, .own 16 1, .slc0], .box [.int .i64 0], .box [.str s], L, .list 9 1 0 (fun a _ => .str (dft0.t.zones.getD a bs0)) 1, .list 3 1 0 (fun a _ => .int .i64 (dft0.t.hol.getD a 0)) 1, .list 113 10 0 (fun a j => tbl (rulC (dft0.t.rules.getD a rul0)) j) 1, .list 115 2 0 (fun a j => tbl (extC (dft0.t.extras.getD a ext0)) j) 1, .list 117 3 0 (fun a j => tbl (fxdC (dft0.t.fixed.getD a fxd0)) j) 1, .list 3 1 0 (fun a _ => .int .i64 (dft0.l0.getD a 0)) 1, .list 3 1 0 (fun a _ => .int .i64 (dft0.l1.getD a 0)) 1, .list 3 1 0 (fun a _ => .int .i64 (dft0.l2.getD a 0)) 1, .list 3 1 0 (fun a _ => .int .i64 (dft0.l3.getD a 0)) 1, .list 3 1 0 (fun a _ => .int .i64 (dft0.l4.getD a 0)) 1] 3 12 3 1 (fun a _ => .int .i64 (dft0.l4.getD a 0)) rfl rfl rfl ?_
  refine .bornE [.box [.str bs0, .int .i64 0, .int .i64 0, .slc0, .slc0, .slc0, .slc0, .slc0], .box [.int .i64 0, .int .i64 0], .box [.int .i64 0], .box [.str bs0, .int .i64 0, .int .i64 0, .own 7 1, .own 8 1, .own 9 1, .own 10 1, .own 11 1, .own 12 1, .own 13 1, .own 14 1, .own 15 1, .own 16 1, .own 17 1], .box [.int .i64 0], .box [.str s], L, .list 9 1 0 (fun a _ => .str (dft0.t.zones.getD a bs0)) 1, .list 3 1 0 (fun a _ => .int .i64 (dft0.t.hol.getD a 0)) 1, .list 113 10 0 (fun a j => tbl (rulC (dft0.t.rules.getD a rul0)) j) 1, .list 115 2 0 (fun a j => tbl (extC (dft0.t.extras.getD a ext0)) j) 1, .list 117 3 0 (fun a j => tbl (fxdC (dft0.t.fixed.getD a fxd0)) j) 1, .list 3 1 0 (fun a _ => .int .i64 (dft0.l0.getD a 0)) 1, .list 3 1 0 (fun a _ => .int .i64 (dft0.l1.getD a 0)) 1, .list 3 1 0 (fun a _ => .int .i64 (dft0.l2.getD a 0)) 1, .list 3 1 0 (fun a _ => .int .i64 (dft0.l3.getD a 0)) 1, .list 3 1 0 (fun a _ => .int .i64 (dft0.l4.getD a 0)) 1, .list 3 1 0 (fun a _ => .int .i64 (dft0.l5.getD a 0)) 1] 3 13 3 1 (fun a _ => .int .i64 (dft0.l5.getD a 0)) rfl rfl rfl ?_
  subst hL; exact .le ⟨rfl, rfZ, ⟨.refl _, .refl _, trivial⟩⟩
 subst hL
 obtain ⟨r, d, k⟩ := y
 obtain ⟨h1, h2, h3⟩ := hy
 rcases idx10 r with hi | ⟨i, hi⟩
 ·by_cases hr : r.size = 0
  ·have hz3 : ¬ decide ((0 : Int) < ((r.size : Nat) : Int)) = true := by rw [decide_eq_false (by omega)]; decide
   have hE : fromP (linT s.data.toList) dft0 0 = endP d k := by
    rw [h1, show r.data.toList = [] from List.eq_nil_of_length_eq_zero (by have := size_len r; omega)]; rfl
   have hk6 := hs.get
   have tok : Side (TOk d.t) := Side.mk (h3.tok (by omega))
   have cck0 := c41 hX d.t tok
   by_cases h0 : d.l0 = []
   ·have hz6 : ¬ ((d.l0.length : Int) == 0) = false := by rw [h0]; decide
    repeat' (first
     | (refine Ax.go ?_; first | (with_reducible apply Alt.one))
     | exact Cl.go
     | ((fail_if_success refine Stop.go ?_); first | (with_reducible first | apply And.intro | apply Cut.go | (refine impI ?_; intro _; try (first | exact ko hz3 | exact ko hz6))) | rw [beqvv (d.l0.length + 1)] | (refine propI ?_; conv => whnf)))
    all_goals try exact nbZ
    ·exact .of ⟨by decide, by decide⟩
    ·exact .of ⟨by show (-9223372036854775808 : Int) <= (k : Int) + 1; omega, by show (k : Int) + 1 <= 9223372036854775807; omega⟩
    ·rw [hE, show endP d k = ⟨trf0, (k : Int) + 1, 1, 6⟩ from if_pos h0]
     exact .mk [] [] _ rfl (.le (.tups ⟨⟨⟨trivial, .aggs (n := 8) (z8 rfl)⟩, .aggs (n := 2) ⟨⟨trivial, .refl _⟩, .refl _⟩⟩, .refl _⟩)) trivial rfl
   ·have hz6 : ¬ ((d.l0.length : Int) == 0) = true := fun h => h0 (List.eq_nil_of_length_eq_zero (by have h : (d.l0.length : Int) = 0 := eq_of_beq h; omega))
    by_cases e0 : trfE d.t = 0
    ·have cck : Pure (Xc W0 G) 41 [trfA d.t] (.tup 2 (tbl [.agg 2 (tbl [.int .i64 (trfL d.t), .int .i64 (trfN d.t)]), .int .i64 0])) := by have c := cck0; unfold trfR at c; rw [e0] at c; exact c
     repeat' (first
      | (refine Ax.go ?_; first | ((with_reducible apply callAltH cck); (case hl => exact ⟨.aggs (n := 8) trfH, trivial⟩); (case hr => rfl)) | (with_reducible apply Alt.one))
      | exact Cl.go
      | ((fail_if_success refine Stop.go ?_); first | (with_reducible first | apply And.intro | apply Cut.go | (refine impI ?_; intro _; try (first | exact ko hz3 | exact ko hz6 | (exfalso; rename_i hh; revert hh; decide)))) | rw [beqvv (d.l0.length + 1)] | (refine propI ?_; conv => whnf)))
     all_goals try exact nbZ
     ·exact .of ⟨by decide, by decide⟩
     ·rw [hE, show endP d k = ⟨d.t, 0, 0, 0⟩ from by unfold endP; rw [if_neg h0, if_neg (fun h => h e0)]]
      exact .mk [] [7, 8, 9, 10, 11] _ rfl (.tups ⟨⟨⟨trivial, .aggs (n := 8) trfH⟩, .le (.aggs (n := 2) ⟨⟨trivial, .refl _⟩, .refl _⟩)⟩, .le (.refl _)⟩) trivial rfl
    ·have hz7 : ¬ (trfE d.t != 0) = false := fun h => e0 (by simpa using h)
     rcases mark_ok e0 with ⟨hL, hN⟩ | ⟨p, m, hp, hL, hN, hmm⟩
     ·skip
      have hL : trfL d.t = 0 := hL
      have hN : trfN d.t = 0 := hN
      have cck : Pure (Xc W0 G) 41 [trfA d.t] (.tup 2 (tbl [.agg 2 (tbl [.int .i64 0, .int .i64 0]), .int .i64 (trfE d.t)])) := by have c := cck0; unfold trfR at c; rw [hL, hN] at c; exact c
      repeat' (first
       | (refine Ax.go ?_; first | ((with_reducible apply callAltH cck); (case hl => exact ⟨.aggs (n := 8) trfH, trivial⟩); (case hr => rfl)) | (with_reducible apply Alt.one))
       | exact Cl.go
       | ((fail_if_success refine Stop.go ?_); first | (with_reducible first | apply And.intro | apply Cut.go | (refine impI ?_; intro _; try (first | exact ko hz3 | exact ko hz6 | exact ko hz7))) | rw [beqvv (d.l0.length + 1)] | (refine propI ?_; conv => whnf)))
      all_goals try exact nbZ
      all_goals try ((with_reducible refine (?_ : Sc none (((_ : Int) <= _) /\ _))); exact Sc.of ⟨of_decide_eq_true rfl, of_decide_eq_true rfl⟩)
      all_goals try (have q := List.length_pos_iff.2 h0; first | exact Sc.of ⟨by omega, by omega⟩ | exact Sc.of (show 0 < d.l0.length by omega))
      rw [hE, show endP d k = ⟨trf0, d.l0.getD 0 0, 1, trfE d.t⟩ from by unfold endP; rw [if_neg h0, if_pos e0, hL, hN]; rfl]
      exact .mk [] [] _ rfl (.le (.tups ⟨⟨⟨trivial, .aggs (n := 8) (z8 rfl)⟩, .aggs (n := 2) ⟨⟨trivial, .refl _⟩, .refl _⟩⟩, .refl _⟩)) trivial rfl
     ·rcases (show p = 0 \/ p = 1 \/ p = 2 \/ p = 3 \/ p = 4 by omega) with rfl | rfl | rfl | rfl | rfl
      ·skip
       have hL : trfL d.t = 1 := hL
       have hN : trfN d.t = ((m : Nat) : Int) := hN
       have cck : Pure (Xc W0 G) 41 [trfA d.t] (.tup 2 (tbl [.agg 2 (tbl [.int .i64 1, .int .i64 ((m : Nat) : Int)]), .int .i64 (trfE d.t)])) := by have c := cck0; unfold trfR at c; rw [hL, hN] at c; exact c
       repeat' (first
        | (refine Ax.go ?_; first | ((with_reducible apply callAltH cck); (case hl => exact ⟨.aggs (n := 8) trfH, trivial⟩); (case hr => rfl)) | (with_reducible apply Alt.one))
        | exact Cl.go
        | ((fail_if_success refine Stop.go ?_); first | (with_reducible first | apply And.intro | apply Cut.go | (refine impI ?_; intro _; try (first | exact ko hz3 | exact ko hz6 | exact ko hz7))) | rw [beqvv (d.l0.length + 1)] | rw [beqvv (d.l1.length + 1)] | (refine propI ?_; conv => whnf)))
       all_goals try exact nbZ
       all_goals try ((with_reducible refine (?_ : Sc none (((_ : Int) <= _) /\ _))); exact Sc.of ⟨of_decide_eq_true rfl, of_decide_eq_true rfl⟩)
       all_goals try (have q := h3.q1; have hmm : m < d.t.zones.length := hmm; first | exact Sc.of ⟨by omega, by omega⟩ | exact Sc.of (show m < d.l1.length by omega))
       rw [hE, show endP d k = ⟨trf0, d.l1.getD m 0, 1, trfE d.t⟩ from by unfold endP; rw [if_neg h0, if_pos e0, hL, hN]; rfl]
       exact .mk [] [] _ rfl (.le (.tups ⟨⟨⟨trivial, .aggs (n := 8) (z8 rfl)⟩, .aggs (n := 2) ⟨⟨trivial, .refl _⟩, .refl _⟩⟩, .refl _⟩)) trivial rfl
      ·skip
       have hL : trfL d.t = 2 := hL
       have hN : trfN d.t = ((m : Nat) : Int) := hN
       have cck : Pure (Xc W0 G) 41 [trfA d.t] (.tup 2 (tbl [.agg 2 (tbl [.int .i64 2, .int .i64 ((m : Nat) : Int)]), .int .i64 (trfE d.t)])) := by have c := cck0; unfold trfR at c; rw [hL, hN] at c; exact c
       repeat' (first
        | (refine Ax.go ?_; first | ((with_reducible apply callAltH cck); (case hl => exact ⟨.aggs (n := 8) trfH, trivial⟩); (case hr => rfl)) | (with_reducible apply Alt.one))
        | exact Cl.go
        | ((fail_if_success refine Stop.go ?_); first | (with_reducible first | apply And.intro | apply Cut.go | (refine impI ?_; intro _; try (first | exact ko hz3 | exact ko hz6 | exact ko hz7))) | rw [beqvv (d.l0.length + 1)] | rw [beqvv (d.l2.length + 1)] | (refine propI ?_; conv => whnf)))
       all_goals try exact nbZ
       all_goals try ((with_reducible refine (?_ : Sc none (((_ : Int) <= _) /\ _))); exact Sc.of ⟨of_decide_eq_true rfl, of_decide_eq_true rfl⟩)
       all_goals try (have q := h3.q2; have hmm : m < d.t.hol.length := hmm; first | exact Sc.of ⟨by omega, by omega⟩ | exact Sc.of (show m < d.l2.length by omega))
       rw [hE, show endP d k = ⟨trf0, d.l2.getD m 0, 1, trfE d.t⟩ from by unfold endP; rw [if_neg h0, if_pos e0, hL, hN]; rfl]
       exact .mk [] [] _ rfl (.le (.tups ⟨⟨⟨trivial, .aggs (n := 8) (z8 rfl)⟩, .aggs (n := 2) ⟨⟨trivial, .refl _⟩, .refl _⟩⟩, .refl _⟩)) trivial rfl
      ·skip
       have hL : trfL d.t = 3 := hL
       have hN : trfN d.t = ((m : Nat) : Int) := hN
       have cck : Pure (Xc W0 G) 41 [trfA d.t] (.tup 2 (tbl [.agg 2 (tbl [.int .i64 3, .int .i64 ((m : Nat) : Int)]), .int .i64 (trfE d.t)])) := by have c := cck0; unfold trfR at c; rw [hL, hN] at c; exact c
       repeat' (first
        | (refine Ax.go ?_; first | ((with_reducible apply callAltH cck); (case hl => exact ⟨.aggs (n := 8) trfH, trivial⟩); (case hr => rfl)) | (with_reducible apply Alt.one))
        | exact Cl.go
        | ((fail_if_success refine Stop.go ?_); first | (with_reducible first | apply And.intro | apply Cut.go | (refine impI ?_; intro _; try (first | exact ko hz3 | exact ko hz6 | exact ko hz7))) | rw [beqvv (d.l0.length + 1)] | rw [beqvv (d.l3.length + 1)] | (refine propI ?_; conv => whnf)))
       all_goals try exact nbZ
       all_goals try ((with_reducible refine (?_ : Sc none (((_ : Int) <= _) /\ _))); exact Sc.of ⟨of_decide_eq_true rfl, of_decide_eq_true rfl⟩)
       all_goals try (have q := h3.q3; have hmm : m < d.t.rules.length := hmm; first | exact Sc.of ⟨by omega, by omega⟩ | exact Sc.of (show m < d.l3.length by omega))
       rw [hE, show endP d k = ⟨trf0, d.l3.getD m 0, 1, trfE d.t⟩ from by unfold endP; rw [if_neg h0, if_pos e0, hL, hN]; rfl]
       exact .mk [] [] _ rfl (.le (.tups ⟨⟨⟨trivial, .aggs (n := 8) (z8 rfl)⟩, .aggs (n := 2) ⟨⟨trivial, .refl _⟩, .refl _⟩⟩, .refl _⟩)) trivial rfl
      ·skip
       have hL : trfL d.t = 4 := hL
       have hN : trfN d.t = ((m : Nat) : Int) := hN
       have cck : Pure (Xc W0 G) 41 [trfA d.t] (.tup 2 (tbl [.agg 2 (tbl [.int .i64 4, .int .i64 ((m : Nat) : Int)]), .int .i64 (trfE d.t)])) := by have c := cck0; unfold trfR at c; rw [hL, hN] at c; exact c
       repeat' (first
        | (refine Ax.go ?_; first | ((with_reducible apply callAltH cck); (case hl => exact ⟨.aggs (n := 8) trfH, trivial⟩); (case hr => rfl)) | (with_reducible apply Alt.one))
        | exact Cl.go
        | ((fail_if_success refine Stop.go ?_); first | (with_reducible first | apply And.intro | apply Cut.go | (refine impI ?_; intro _; try (first | exact ko hz3 | exact ko hz6 | exact ko hz7))) | rw [beqvv (d.l0.length + 1)] | rw [beqvv (d.l4.length + 1)] | (refine propI ?_; conv => whnf)))
       all_goals try exact nbZ
       all_goals try ((with_reducible refine (?_ : Sc none (((_ : Int) <= _) /\ _))); exact Sc.of ⟨of_decide_eq_true rfl, of_decide_eq_true rfl⟩)
       all_goals try (have q := h3.q4; have hmm : m < d.t.extras.length := hmm; first | exact Sc.of ⟨by omega, by omega⟩ | exact Sc.of (show m < d.l4.length by omega))
       rw [hE, show endP d k = ⟨trf0, d.l4.getD m 0, 1, trfE d.t⟩ from by unfold endP; rw [if_neg h0, if_pos e0, hL, hN]; rfl]
       exact .mk [] [] _ rfl (.le (.tups ⟨⟨⟨trivial, .aggs (n := 8) (z8 rfl)⟩, .aggs (n := 2) ⟨⟨trivial, .refl _⟩, .refl _⟩⟩, .refl _⟩)) trivial rfl
      ·skip
       have hL : trfL d.t = 5 := hL
       have hN : trfN d.t = ((m : Nat) : Int) := hN
       have cck : Pure (Xc W0 G) 41 [trfA d.t] (.tup 2 (tbl [.agg 2 (tbl [.int .i64 5, .int .i64 ((m : Nat) : Int)]), .int .i64 (trfE d.t)])) := by have c := cck0; unfold trfR at c; rw [hL, hN] at c; exact c
       repeat' (first
        | (refine Ax.go ?_; first | ((with_reducible apply callAltH cck); (case hl => exact ⟨.aggs (n := 8) trfH, trivial⟩); (case hr => rfl)) | (with_reducible apply Alt.one))
        | exact Cl.go
        | ((fail_if_success refine Stop.go ?_); first | (with_reducible first | apply And.intro | apply Cut.go | (refine impI ?_; intro _; try (first | exact ko hz3 | exact ko hz6 | exact ko hz7))) | rw [beqvv (d.l0.length + 1)] | rw [beqvv (d.l5.length + 1)] | (refine propI ?_; conv => whnf)))
       all_goals try exact nbZ
       all_goals try ((with_reducible refine (?_ : Sc none (((_ : Int) <= _) /\ _))); exact Sc.of ⟨of_decide_eq_true rfl, of_decide_eq_true rfl⟩)
       all_goals try (have q := h3.q5; have hmm : m < d.t.fixed.length := hmm; first | exact Sc.of ⟨by omega, by omega⟩ | exact Sc.of (show m < d.l5.length by omega))
       rw [hE, show endP d k = ⟨trf0, d.l5.getD m 0, 1, trfE d.t⟩ from by unfold endP; rw [if_neg h0, if_pos e0, hL, hN]; rfl]
       exact .mk [] [] _ rfl (.le (.tups ⟨⟨⟨trivial, .aggs (n := 8) (z8 rfl)⟩, .aggs (n := 2) ⟨⟨trivial, .refl _⟩, .refl _⟩⟩, .refl _⟩)) trivial rfl
  ·have hz3 : ¬ decide ((0 : Int) < ((r.size : Nat) : Int)) = false := by rw [decide_eq_true (by omega)]; decide
   have ht : Lib.trimSuffix r.data.toList [10] = r.data.toList := trim_nl _ (fun hm => by obtain ⟨q, hq⟩ := List.getElem?_of_mem hm; exact Lib.indexByte_none hi q hq)
   repeat' (first
    | (refine Ax.go ?_; first | (with_reducible apply callAlt ((show Pure (Xc W0 G) 69 [.str r, .int .u8 10] (.int .i64 (-1)) from hi ▸ c69 r))) | (with_reducible apply callAlt ((show Pure (Xc W0 G) 39 [.str r, .str (toS [10])] (.str (toS r.data.toList)) from ht ▸ c39 r (toS [10]) (Side.mk (by have := hs.get; omega))))) | (with_reducible (apply altM (ks := []) (m := 1); apply And.intro; apply Sc.of; apply (c38 hX (toS r.data.toList) (Side.mk (by rw [toS_size]; have := size_len r; have := hs.get; omega))))) | (with_reducible (apply altM (ks := [3, 7, 8, 9, 10, 11, 12, 13, 14, 15, 16, 17, 18]) (m := 0); apply And.intro; apply Sc.of; apply (c40 hX hl d (lnOf r.data.toList) ((k : Nat) + 1 : Int) ?_ ?_))) | (with_reducible apply Alt.one))
    | exact Cl.go
    | ((fail_if_success refine Stop.go ?_); first | rw [beqvv (d.l0.length + 1)] | (with_reducible first | apply And.intro | apply Cut.go | (refine impI ?_; intro _; try (first | exact ko hz3 | (exfalso; rename_i hh; revert hh; decide)))) | (refine propI ?_; conv => whnf)))
   all_goals try exact nbZ
   all_goals try ((with_reducible refine (?_ : Sc _ _)); exact Sc.of ⟨by omega, by omega⟩)
   all_goals try ((with_reducible refine (?_ : Side (DOk _))); exact Side.mk (h3.ok (by have := hs.get; omega)))
   all_goals try ((with_reducible refine (?_ : Side (LnOk _))); exact Side.mk (lnOf_ok (by have := size_len r; have := hs.get; omega)))
   all_goals try ((with_reducible refine (?_ : Sc _ _)); have hk5 := hs.get; exact Sc.of ⟨show (-9223372036854775808 : Int) <= (k : Int) + 1 by omega, show (k : Int) + 1 <= 9223372036854775807 by omega⟩)
   all_goals have hne : r.data.toList ≠ [] := fun h => by have z := size_len r; rw [h] at z; exact hr z
   ·rename_i q _
    have hw : (lnOf r.data.toList).ws = [] := List.eq_nil_of_length_eq_zero (by have q : (((lnOf r.data.toList).ws.length : Nat) : Int) = 0 := eq_of_beq q; omega)
    exact ⟨(bs0, d, k + 1), ⟨by rw [h1, linT_miss hi hne]; exact fromP_ok (step_e hw), by show k + 1 + 0 <= s.size; omega, h3.mono (Nat.le_succ k)⟩, by show 0 < r.size; omega, .le ⟨rfl, rfZ, ⟨.refl _, .refl _, trivial⟩⟩⟩
   ·rename_i q q2 _
    have hw : (lnOf r.data.toList).ws ≠ [] := fun h => by have q : ((((lnOf r.data.toList).ws.length : Nat) : Int) == 0) = false := q; rw [h] at q; cases q
    have he : (readP d (lnOf r.data.toList) ((k + 1 : Nat) : Int)).2.e ≠ 0 := fun h => by have q2 : ((readP d (lnOf r.data.toList) ((k + 1 : Nat) : Int)).2.e != 0) = true := q2; rw [h] at q2; cases q2
    rw [h1, linT_miss hi hne, fromP_bad (step_bad hw he)]
    exact .mk [] [] _ rfl (.le (.tups ⟨⟨⟨trivial, .aggs (n := 8) (z8 rfl)⟩, .aggs (n := 2) ⟨⟨trivial, .refl _⟩, .refl _⟩⟩, .refl _⟩)) trivial rfl
   ·rename_i q q2 _
    have hw : (lnOf r.data.toList).ws ≠ [] := fun h => by have q : ((((lnOf r.data.toList).ws.length : Nat) : Int) == 0) = false := q; rw [h] at q; cases q
    have he : ¬ (readP d (lnOf r.data.toList) ((k + 1 : Nat) : Int)).2.e ≠ 0 := fun h => h (by have q2 : ((readP d (lnOf r.data.toList) ((k + 1 : Nat) : Int)).2.e != 0) = false := q2; simpa using q2)
    exact ⟨(bs0, (readP d (lnOf r.data.toList) ((k + 1 : Nat) : Int)).1, k + 1), ⟨by rw [h1, linT_miss hi hne]; exact fromP_ok (step_ok hw he), by show k + 1 + 0 <= s.size; omega, readP_inv _ h3 (lnOf_ok (by have := size_len r; have := hs.get; omega))⟩, by show 0 < r.size; omega, .le ⟨rfl, rfZ, ⟨.refl _, .refl _, trivial⟩⟩⟩
 ·have hbs := byte_split hi
  have hk6 := hs.get
  have hzr := size_len r
  have hil := hbs.2.2
  have hz3 : ¬ decide ((0 : Int) < ((r.size : Nat) : Int)) = false := by rw [decide_eq_true (by omega)]; decide
  have hz4 : ¬ decide ((0 : Int) <= ((i : Nat) : Int)) = false := by rw [decide_eq_true (by omega)]; decide
  have e1 : (r.extract (Int.toNat 0) (((i : Nat) : Int) + 1).toNat).data.toList = (r.data.toList.take i) ++ [10] := by
   rw [Lib.extract_data]
   show (r.data.toList.drop 0).take (i + 1 - 0) = _
   rw [List.drop_zero, Nat.sub_zero, List.take_add_one, (Lib.indexByte_some hi).1]; rfl
  have e2 : (r.extract (((i : Nat) : Int) + 1).toNat ((r.size : Nat) : Int).toNat).data.toList = r.data.toList.drop (i + 1) := by
   rw [Lib.extract_data]
   show (r.data.toList.drop (i + 1)).take (r.size - (i + 1)) = _
   exact List.take_of_length_le (by rw [List.length_drop]; omega)
  have e3 : (r.extract (((i : Nat) : Int) + 1).toNat ((r.size : Nat) : Int).toNat).size = r.size - (i + 1) := by rw [size_len (r.extract (((i : Nat) : Int) + 1).toNat ((r.size : Nat) : Int).toNat), e2, List.length_drop]; omega
  have cts : Pure (Xc W0 G) 39 [.str (r.extract (Int.toNat 0) (((i : Nat) : Int) + 1).toNat), .str (toS [10])] (.str (toS (r.data.toList.take i))) := by
   have c := c39 (W0 := W0) (G := G) (r.extract (Int.toNat 0) (((i : Nat) : Int) + 1).toNat) (toS [10]) (Side.mk (by rw [size_len (r.extract (Int.toNat 0) (((i : Nat) : Int) + 1).toNat), e1]; simp; omega))
   rw [e1, show (toS [10]).data.toList = [10] from rfl, trim_nl2] at c
   exact c
  have hlen : (r.data.toList.take i).length <= 600 := by rw [List.length_take]; omega
  repeat' (first
   | (refine Ax.go ?_; first | (with_reducible apply callAlt ((show Pure (Xc W0 G) 69 [.str r, .int .u8 10] (.int .i64 ((i : Nat) : Int)) from hi ▸ c69 r))) | (with_reducible apply callAlt (cts)) | (with_reducible (apply altM (ks := []) (m := 1); apply And.intro; apply Sc.of; apply (c38 hX (toS (r.data.toList.take i)) (Side.mk (by rw [toS_size]; omega))))) | (with_reducible (apply altM (ks := [3, 7, 8, 9, 10, 11, 12, 13, 14, 15, 16, 17, 18]) (m := 0); apply And.intro; apply Sc.of; apply (c40 hX hl d (lnOf (r.data.toList.take i)) ((k : Nat) + 1 : Int) ?_ ?_))) | (with_reducible apply Alt.one))
   | exact Cl.go
   | ((fail_if_success refine Stop.go ?_); first | (with_reducible first | apply And.intro | apply Cut.go | (refine impI ?_; intro _; try (first | exact ko hz3 | exact ko hz4 | (exfalso; rename_i hh; revert hh; decide)))) | rw [beqvv (d.l0.length + 1)] | (refine propI ?_; conv => whnf)))
  all_goals try exact nbZ
  all_goals try ((with_reducible refine (?_ : Sc _ _)); first | exact Sc.of ⟨by omega, by omega, by omega⟩ | exact Sc.of ⟨show (-9223372036854775808 : Int) <= (k : Int) + 1 by omega, show (k : Int) + 1 <= 9223372036854775807 by omega⟩ | exact Sc.of ⟨show (-9223372036854775808 : Int) <= (i : Int) + 1 by omega, show (i : Int) + 1 <= 9223372036854775807 by omega⟩)
  all_goals try ((with_reducible refine (?_ : Side (DOk _))); exact Side.mk (h3.ok (by omega)))
  all_goals try ((with_reducible refine (?_ : Side (LnOk _))); exact Side.mk (lnOf_ok hlen))
  ·rename_i q _
   have hw : (lnOf (r.data.toList.take i)).ws = [] := List.eq_nil_of_length_eq_zero (by have q : (((lnOf (r.data.toList.take i)).ws.length : Nat) : Int) = 0 := eq_of_beq q; omega)
   exact ⟨((r.extract (((i : Nat) : Int) + 1).toNat ((r.size : Nat) : Int).toNat), d, k + 1), ⟨by rw [h1, linT_hit hi, e2]; exact fromP_ok (step_e hw), by rw [e3]; omega, h3.mono (Nat.le_succ k)⟩, by show (r.extract (((i : Nat) : Int) + 1).toNat ((r.size : Nat) : Int).toNat).size < r.size; rw [e3]; omega, .le ⟨rfl, rfZ, ⟨.refl _, .refl _, trivial⟩⟩⟩
  ·rename_i q q2 _
   have hw : (lnOf (r.data.toList.take i)).ws ≠ [] := fun h => by have q : ((((lnOf (r.data.toList.take i)).ws.length : Nat) : Int) == 0) = false := q; rw [h] at q; cases q
   have he : (readP d (lnOf (r.data.toList.take i)) ((k + 1 : Nat) : Int)).2.e ≠ 0 := fun h => by have q2 : ((readP d (lnOf (r.data.toList.take i)) ((k + 1 : Nat) : Int)).2.e != 0) = true := q2; rw [h] at q2; cases q2
   rw [h1, linT_hit hi, fromP_bad (step_bad hw he)]
   exact .mk [] [] _ rfl (.le (.tups ⟨⟨⟨trivial, .aggs (n := 8) (z8 rfl)⟩, .aggs (n := 2) ⟨⟨trivial, .refl _⟩, .refl _⟩⟩, .refl _⟩)) trivial rfl
  ·rename_i q q2 _
   have hw : (lnOf (r.data.toList.take i)).ws ≠ [] := fun h => by have q : ((((lnOf (r.data.toList.take i)).ws.length : Nat) : Int) == 0) = false := q; rw [h] at q; cases q
   have he : ¬ (readP d (lnOf (r.data.toList.take i)) ((k + 1 : Nat) : Int)).2.e ≠ 0 := fun h => h (by have q2 : ((readP d (lnOf (r.data.toList.take i)) ((k + 1 : Nat) : Int)).2.e != 0) = false := q2; simpa using q2)
   exact ⟨((r.extract (((i : Nat) : Int) + 1).toNat ((r.size : Nat) : Int).toNat), (readP d (lnOf (r.data.toList.take i)) ((k + 1 : Nat) : Int)).1, k + 1), ⟨by rw [h1, linT_hit hi, e2]; exact fromP_ok (step_ok hw he), by rw [e3]; omega, readP_inv _ h3 (lnOf_ok hlen)⟩, by show (r.extract (((i : Nat) : Int) + 1).toNat ((r.size : Nat) : Int).toNat).size < r.size; rw [e3]; omega, .le ⟨rfl, rfZ, ⟨.refl _, .refl _, trivial⟩⟩⟩
end
end Go.Fx
