/-
 The body of MeterFound.
-/
import Derived.Test.YtfdegaojblmdiaaGreatDoorGb
import Derived.Test.YtfdegaojblmdiaaGreatDoorGd
import Derived.Test.YtfdegaojblmdiaaGreatDoorGg
set_option linter.all false
namespace Go.Fx
open Go.Proofs Go.RowKit
theorem two_g {t : Trf} {l : Log} (h : (bif !fewB t then true else !briefB l) = false) : TOk t /\ l.ev.length <= 202 := by
 cases hf : fewB t
 ·rw [hf] at h; cases h
 cases hx : briefB l
 ·rw [hf, hx] at h; cases h
 ·exact ⟨(few_ok hf).1, brief_len hx⟩
theorem bifT {a b : Bool} (h : (bif a then true else b) = true) : a = true \/ b = true := by cases a <;> simp_all
theorem or_f {a b : Bool} (h : (bif a then true else b) = false) : a = false /\ b = false := by cases a <;> simp_all
theorem ne_t {a b : Int} (h : (a != b) = true) : a ≠ b := bne_iff_ne.1 h
section
variable {W0 : World} (hX : (Xc W0 Gt).Good) (haw : Pure (Xc W0 Gt) 12 [] (.bool true))
include hX haw
set_option maxHeartbeats 2000000 in
theorem c4e (t : Trf) (l : Log) (x y : Int) (hr : ¬ (ffE t l = 12 /\ leE t l = 0)) : Pure (Xc W0 Gt) 4 [trfA t, lgA l, .agg 2 (tbl [.int .i64 x, .int .i64 y])] (.bool true) := by
 have hx0 : (bif ffE t l != 12 then true else leE t l != 0) = false -> False := fun q => by have w := or_f q; exact hr ⟨bne_eq_false_iff_eq.1 w.1, bne_eq_false_iff_eq.1 w.2⟩
 refine mut_of' hX (fnI Tryz.f4) rfl ?_
 repeat' (first
  | (refine Ax.go ?_; first | (with_reducible apply callAlt (haw)) | (with_reducible apply callAlt (c13 hX t)) | (with_reducible apply callAlt (c18 hX t ?_)) | ((with_reducible apply callAlt (c14 hX l)); case hl => (first | exact AllLe.refl _ | ((repeat' (first | exact trivial | apply Le.aggs | apply Le.tups | apply Le.fns | exact Le.refl _ | refine ⟨?_, ?_⟩)); done))) | ((with_reducible apply callAlt (c16 hX l ?_)); case hl => (first | exact AllLe.refl _ | ((repeat' (first | exact trivial | apply Le.aggs | apply Le.tups | apply Le.fns | exact Le.refl _ | refine ⟨?_, ?_⟩)); done))) | ((with_reducible apply callAlt (c15 hX _ _ _)); case hl => (first | exact AllLe.refl _ | ((repeat' (first | exact trivial | apply Le.aggs | apply Le.tups | apply Le.fns | exact Le.refl _ | refine ⟨?_, ?_⟩)); done))) | ((with_reducible apply callAlt (c19 hX t l ?_)); case hl => (first | exact AllLe.refl _ | ((repeat' (first | exact trivial | apply Le.aggs | apply Le.tups | apply Le.fns | exact Le.refl _ | refine ⟨?_, ?_⟩)); done))) | ((with_reducible apply callAlt (c20 hX t l ?_)); case hl => (first | exact AllLe.refl _ | ((repeat' (first | exact trivial | apply Le.aggs | apply Le.tups | apply Le.fns | exact Le.refl _ | refine ⟨?_, ?_⟩)); done))) | ((with_reducible apply callAlt (c21 hX l)); case hl => (first | exact AllLe.refl _ | ((repeat' (first | exact trivial | apply Le.aggs | apply Le.tups | apply Le.fns | exact Le.refl _ | refine ⟨?_, ?_⟩)); done))) | apply Alt.one)
  | exact Cz.go
  | ((fail_if_success refine Stop.go ?_); (first | exact (hx0 ‹_›).elim | (with_reducible first | apply And.intro | apply Cut.go | (refine impI ?_; intro _)) | (refine propI ?_; conv => whnf))))
 all_goals try exact nbZ
 all_goals try (rename_i h; first | exact absurd h (by decide) | (cases h; done))
 all_goals try (exact .of (by decide))
 all_goals try (exact .mk [] [] _ rfl (.le (.refl _)) trivial rfl)
 all_goals have gg := two_g ‹(bif !fewB t then true else !briefB l) = false›
 all_goals have el := gg.2
 all_goals try (exact Side.mk gg.1)
 all_goals try (exact Side.mk (by omega))
 all_goals try (exact owZ)
set_option maxHeartbeats 2000000 in
theorem c4s (t : Trf) (l : Log) (x y : Int) (hf : ffE t l = 12) (hl : leE t l = 0) (hs : sealE l ≠ 0) : Pure (Xc W0 Gt) 4 [trfA t, lgA l, .agg 2 (tbl [.int .i64 x, .int .i64 y])] (.bool true) := by
 have hx0 : (bif ffE t l != 12 then true else leE t l != 0) = true -> False := fun q => by rcases bifT q with q | q; exact ne_t q hf; exact ne_t q hl
 have hx1 : (sealE l != 0) = false -> False := fun q => hs (bne_eq_false_iff_eq.1 q)
 refine mut_of' hX (fnI Tryz.f4) rfl ?_
 repeat' (first
  | (refine Ax.go ?_; first | (with_reducible apply callAlt (haw)) | (with_reducible apply callAlt (c13 hX t)) | (with_reducible apply callAlt (c18 hX t ?_)) | ((with_reducible apply callAlt (c14 hX l)); case hl => (first | exact AllLe.refl _ | ((repeat' (first | exact trivial | apply Le.aggs | apply Le.tups | apply Le.fns | exact Le.refl _ | refine ⟨?_, ?_⟩)); done))) | ((with_reducible apply callAlt (c16 hX l ?_)); case hl => (first | exact AllLe.refl _ | ((repeat' (first | exact trivial | apply Le.aggs | apply Le.tups | apply Le.fns | exact Le.refl _ | refine ⟨?_, ?_⟩)); done))) | ((with_reducible apply callAlt (c15 hX _ _ _)); case hl => (first | exact AllLe.refl _ | ((repeat' (first | exact trivial | apply Le.aggs | apply Le.tups | apply Le.fns | exact Le.refl _ | refine ⟨?_, ?_⟩)); done))) | ((with_reducible apply callAlt (c19 hX t l ?_)); case hl => (first | exact AllLe.refl _ | ((repeat' (first | exact trivial | apply Le.aggs | apply Le.tups | apply Le.fns | exact Le.refl _ | refine ⟨?_, ?_⟩)); done))) | ((with_reducible apply callAlt (c20 hX t l ?_)); case hl => (first | exact AllLe.refl _ | ((repeat' (first | exact trivial | apply Le.aggs | apply Le.tups | apply Le.fns | exact Le.refl _ | refine ⟨?_, ?_⟩)); done))) | ((with_reducible apply callAlt (c21 hX l)); case hl => (first | exact AllLe.refl _ | ((repeat' (first | exact trivial | apply Le.aggs | apply Le.tups | apply Le.fns | exact Le.refl _ | refine ⟨?_, ?_⟩)); done))) | apply Alt.one)
  | exact Cz.go
  | ((fail_if_success refine Stop.go ?_); (first | exact (hx0 ‹_›).elim | exact (hx1 ‹_›).elim | (with_reducible first | apply And.intro | apply Cut.go | (refine impI ?_; intro _)) | (refine propI ?_; conv => whnf))))
 all_goals try exact nbZ
 all_goals try (rename_i h; first | exact absurd h (by decide) | (cases h; done))
 all_goals try (exact .of (by decide))
 all_goals try (exact .mk [] [] _ rfl (.le (.refl _)) trivial rfl)
 all_goals have gg := two_g ‹(bif !fewB t then true else !briefB l) = false›
 all_goals have el := gg.2
 all_goals try (exact Side.mk gg.1)
 all_goals try (exact Side.mk (by omega))
 all_goals try (exact owZ)
 all_goals (exact .mk [] [] _ rfl (.le (.boolT (by rw [seal_16 gg.1 (le_rn gg.1 hl) hs]; rfl))) trivial rfl)
set_option maxHeartbeats 2000000 in
theorem c4i (t : Trf) (l : Log) (x y : Int) (hf : ffE t l = 12) (hl : leE t l = 0) (hs : sealE l = 0) (hg : (bif !inB x 0 ((l.ev.length : Int) - 1) then true else y == ((sealL l).ev.getD x.toNat ev0).n) = true) : Pure (Xc W0 Gt) 4 [trfA t, lgA l, .agg 2 (tbl [.int .i64 x, .int .i64 y])] (.bool true) := by
 have hx0 : (bif ffE t l != 12 then true else leE t l != 0) = true -> False := fun q => by rcases bifT q with q | q; exact ne_t q hf; exact ne_t q hl
 have hx1 : (sealE l != 0) = true -> False := fun q => ne_t q hs
 have hx2 : TOk t -> (bif ffE t (sealL l) != 12 then true else ((sealL l).ev.length : Int) != (l.ev.length : Int) + 1) = true -> False := fun k q => by
  have w := found_seal k (le_rn k hl) hf hs
  rcases bifT q with q | q
  ·exact ne_t q w.2.1
  ·refine ne_t q ?_; rw [w.2.2]; omega
 have sl : (sealL l).ev.length = l.ev.length + 1 := (seal_at hs).len
 have hx3 : (bif !inB x 0 ((l.ev.length : Int) - 1) then true else y == ((sealL l).ev.getD x.toNat ev0).n) = false -> False := fun q => by rw [hg] at q; cases q
 refine mut_of' hX (fnI Tryz.f4) rfl ?_
 repeat' (first
  | (refine Ax.go ?_; first | (with_reducible apply callAlt (haw)) | (with_reducible apply callAlt (c13 hX t)) | (with_reducible apply callAlt (c18 hX t ?_)) | ((with_reducible apply callAlt (c14 hX l)); case hl => (first | exact AllLe.refl _ | ((repeat' (first | exact trivial | apply Le.aggs | apply Le.tups | apply Le.fns | exact Le.refl _ | refine ⟨?_, ?_⟩)); done))) | ((with_reducible apply callAlt (c16 hX l ?_)); case hl => (first | exact AllLe.refl _ | ((repeat' (first | exact trivial | apply Le.aggs | apply Le.tups | apply Le.fns | exact Le.refl _ | refine ⟨?_, ?_⟩)); done))) | ((with_reducible apply callAlt (c15 hX _ _ _)); case hl => (first | exact AllLe.refl _ | ((repeat' (first | exact trivial | apply Le.aggs | apply Le.tups | apply Le.fns | exact Le.refl _ | refine ⟨?_, ?_⟩)); done))) | ((with_reducible apply callAlt (c19 hX t l ?_)); case hl => (first | exact AllLe.refl _ | ((repeat' (first | exact trivial | apply Le.aggs | apply Le.tups | apply Le.fns | exact Le.refl _ | refine ⟨?_, ?_⟩)); done))) | ((with_reducible apply callAlt (c20 hX t l ?_)); case hl => (first | exact AllLe.refl _ | ((repeat' (first | exact trivial | apply Le.aggs | apply Le.tups | apply Le.fns | exact Le.refl _ | refine ⟨?_, ?_⟩)); done))) | ((with_reducible apply callAlt (c21 hX l)); case hl => (first | exact AllLe.refl _ | ((repeat' (first | exact trivial | apply Le.aggs | apply Le.tups | apply Le.fns | exact Le.refl _ | refine ⟨?_, ?_⟩)); done))) | ((with_reducible apply callAlt (c16 hX (sealL l) ?_)); case hl => (first | exact AllLe.refl _ | ((repeat' (first | exact trivial | apply Le.aggs | apply Le.tups | apply Le.fns | exact Le.refl _ | refine ⟨?_, ?_⟩)); done))) | ((with_reducible apply callAlt (c19 hX t (sealL l) ?_)); case hl => (first | exact AllLe.refl _ | ((repeat' (first | exact trivial | apply Le.aggs | apply Le.tups | apply Le.fns | exact Le.refl _ | refine ⟨?_, ?_⟩)); done))) | apply Alt.one)
  | exact Cz.go
  | ((fail_if_success refine Stop.go ?_); (first | exact (hx0 ‹_›).elim | exact (hx1 ‹_›).elim | exact (hx2 (two_g ‹(bif !fewB t then true else !briefB l) = false›).1 ‹_›).elim | exact (hx3 ‹_›).elim | (with_reducible first | apply And.intro | apply Cut.go | (refine impI ?_; intro _)) | (refine propI ?_; conv => whnf))))
 all_goals try exact nbZ
 all_goals try (rename_i h; first | exact absurd h (by decide) | (cases h; done))
 all_goals try (exact .of (by decide))
 all_goals try (exact .mk [] [] _ rfl (.le (.refl _)) trivial rfl)
 all_goals have gg := two_g ‹(bif !fewB t then true else !briefB l) = false›
 all_goals have el := gg.2
 all_goals try (exact Side.mk gg.1)
 all_goals try (exact Side.mk (by omega))
 all_goals try (exact owZ)
 all_goals try (have b := inB_iff.1 ‹inB x 0 ((l.ev.length : Int) - 1) = true›; exact owZ)
 all_goals try (exact Sc.imp fun v => (by have b := inB_iff.1 (show inB x 0 ((l.ev.length : Int) - 1) = true from by cases q : inB x 0 ((l.ev.length : Int) - 1); (rw [q] at v; cases v); rfl); exact ⟨by omega, by omega⟩))
 all_goals try (exact Sc.imp fun v => (by have b := inB_iff.1 v; exact ⟨by omega, by omega⟩))
set_option maxHeartbeats 2000000 in
theorem c4k (t : Trf) (l : Log) (x y : Int) (hf : ffE t l = 12) (hl : leE t l = 0) (hs : sealE l = 0) (hin : inB x 0 ((l.ev.length : Int) - 1) = true) (hne : (y == ((sealL l).ev.getD x.toNat ev0).n) = false) : Pure (Xc W0 Gt) 4 [trfA t, lgA l, .agg 2 (tbl [.int .i64 x, .int .i64 y])] (.bool true) := by
 have hx0 : (bif ffE t l != 12 then true else leE t l != 0) = true -> False := fun q => by rcases bifT q with q | q; exact ne_t q hf; exact ne_t q hl
 have hx1 : (sealE l != 0) = true -> False := fun q => ne_t q hs
 have hx2 : TOk t -> (bif ffE t (sealL l) != 12 then true else ((sealL l).ev.length : Int) != (l.ev.length : Int) + 1) = true -> False := fun k q => by
  have w := found_seal k (le_rn k hl) hf hs
  rcases bifT q with q | q
  ·exact ne_t q w.2.1
  ·refine ne_t q ?_; rw [w.2.2]; omega
 have sl : (sealL l).ev.length = l.ev.length + 1 := (seal_at hs).len
 have hx3 : (bif !inB x 0 ((l.ev.length : Int) - 1) then true else y == ((sealL l).ev.getD x.toNat ev0).n) = true -> False := fun q => by
  rcases bifT q with q | q
  ·rw [hin] at q; cases q
  ·rw [hne] at q; cases q
 have xb := inB_iff.1 hin
 have hP : evIs (chgL' (sealL l) x.toNat y) (sealL l).ev.length (putF x.toNat 1 [.int .i64 y] (fun i j => tbl (evC ((sealL l).ev.getD i ev0)) j)) := chg_put (by omega)
 have yl : (chgL' (sealL l) x.toNat y).ev.length = l.ev.length + 1 := by rw [chg_len, sl]
 refine mut_of' hX (fnI Tryz.f4) rfl ?_
 repeat' (first
  | (refine Ax.go ?_; first | (with_reducible apply callAlt (haw)) | (with_reducible apply callAlt (c13 hX t)) | (with_reducible apply callAlt (c18 hX t ?_)) | ((with_reducible apply callAlt (c14 hX l)); case hl => (first | exact AllLe.refl _ | ((repeat' (first | exact trivial | apply Le.aggs | apply Le.tups | apply Le.fns | exact Le.refl _ | refine ⟨?_, ?_⟩)); done))) | ((with_reducible apply callAlt (c16 hX l ?_)); case hl => (first | exact AllLe.refl _ | ((repeat' (first | exact trivial | apply Le.aggs | apply Le.tups | apply Le.fns | exact Le.refl _ | refine ⟨?_, ?_⟩)); done))) | ((with_reducible apply callAlt (c15 hX _ _ _)); case hl => (first | exact AllLe.refl _ | ((repeat' (first | exact trivial | apply Le.aggs | apply Le.tups | apply Le.fns | exact Le.refl _ | refine ⟨?_, ?_⟩)); done))) | ((with_reducible apply callAlt (c19 hX t l ?_)); case hl => (first | exact AllLe.refl _ | ((repeat' (first | exact trivial | apply Le.aggs | apply Le.tups | apply Le.fns | exact Le.refl _ | refine ⟨?_, ?_⟩)); done))) | ((with_reducible apply callAlt (c20 hX t l ?_)); case hl => (first | exact AllLe.refl _ | ((repeat' (first | exact trivial | apply Le.aggs | apply Le.tups | apply Le.fns | exact Le.refl _ | refine ⟨?_, ?_⟩)); done))) | ((with_reducible apply callAlt (c21 hX l)); case hl => (first | exact AllLe.refl _ | ((repeat' (first | exact trivial | apply Le.aggs | apply Le.tups | apply Le.fns | exact Le.refl _ | refine ⟨?_, ?_⟩)); done))) | ((fail_if_success (have _ := ‹(!briefB (chgL' (sealL l) x.toNat y)) = false›)); (have _ := ‹(bif !inB x 0 ((l.ev.length : Int) - 1) then true else y == ((sealL l).ev.getD x.toNat ev0).n) = false›); (with_reducible (apply altM (ks := []) (m := 1); apply And.intro; apply Sc.of; apply (c16o hX (sealL l) ?_)))) | ((with_reducible apply callAlt (c16 hX (sealL l) ?_)); case hl => (first | exact AllLe.refl _ | ((repeat' (first | exact trivial | apply Le.aggs | apply Le.tups | apply Le.fns | exact Le.refl _ | refine ⟨?_, ?_⟩)); done))) | ((with_reducible apply callAlt (c19 hX t (sealL l) ?_)); case hl => (first | exact AllLe.refl _ | ((repeat' (first | exact trivial | apply Le.aggs | apply Le.tups | apply Le.fns | exact Le.refl _ | refine ⟨?_, ?_⟩)); done))) | ((with_reducible apply callAltH (c14 hX (chgL' (sealL l) x.toNat y))); (case hl => exact ⟨.aggs ⟨⟨⟨⟨trivial, .le (.refl _)⟩, .le (.refl _)⟩, .le (.refl _)⟩, evIs_own hP rfl⟩, trivial⟩); (case hr => rfl)) | ((with_reducible apply callAltH (c20 hX t (chgL' (sealL l) x.toNat y) ?_)); (case hl => exact ⟨.le (.aggs ⟨⟨⟨⟨⟨⟨⟨⟨trivial, .refl _⟩, .refl _⟩, .refl _⟩, .refl _⟩, .refl _⟩, .refl _⟩, .refl _⟩, .refl _⟩), .aggs ⟨⟨⟨⟨trivial, .le (.refl _)⟩, .le (.refl _)⟩, .le (.refl _)⟩, evIs_own hP rfl⟩, trivial⟩); (case hr => rfl)) | (with_reducible (apply altK (ks := [6]); apply And.intro; apply Sc.of; apply (c16w hX (chgL' (sealL l) x.toNat y) _ _ (Side.mk hP) ?_))) | ((with_reducible apply callAlt (c22 hX t (chgL' (sealL l) x.toNat y) ?_)); case hl => (first | exact AllLe.refl _ | ((repeat' (first | exact trivial | apply Le.aggs | apply Le.tups | apply Le.fns | exact Le.refl _ | refine ⟨?_, ?_⟩)); done))) | ((with_reducible apply callAlt (c23 hX (sealL l) l.ev.length)); case hl => (first | exact AllLe.refl _ | ((repeat' (first | exact trivial | apply Le.aggs | apply Le.tups | apply Le.fns | exact Le.refl _ | refine ⟨?_, ?_⟩)); done))) | ((with_reducible apply callAlt (c23 hX (chgL' (sealL l) x.toNat y) l.ev.length)); case hl => (first | exact AllLe.refl _ | ((repeat' (first | exact trivial | apply Le.aggs | apply Le.tups | apply Le.fns | exact Le.refl _ | refine ⟨?_, ?_⟩)); done))) | ((with_reducible apply callAltH (c19 hX t (chgL' (sealL l) x.toNat y) ?_)); (case hl => exact ⟨.le (.aggs ⟨⟨⟨⟨⟨⟨⟨⟨trivial, .refl _⟩, .refl _⟩, .refl _⟩, .refl _⟩, .refl _⟩, .refl _⟩, .refl _⟩, .refl _⟩), .aggs ⟨⟨⟨⟨trivial, .le (.refl _)⟩, .le (.refl _)⟩, .le (.refl _)⟩, evIs_own hP rfl⟩, trivial⟩); (case hr => rfl)) | apply Alt.one)
  | exact Cz.go
  | ((fail_if_success refine Stop.go ?_); (first | exact (hx0 ‹_›).elim | exact (hx1 ‹_›).elim | exact (hx2 (two_g ‹(bif !fewB t then true else !briefB l) = false›).1 ‹_›).elim | exact (hx3 ‹_›).elim | rw [beqvv 1] | (with_reducible first | apply And.intro | apply Cut.go | (refine impI ?_; intro _)) | (refine propI ?_; conv => whnf))))
 all_goals try exact nbZ
 all_goals try (rename_i h; first | exact absurd h (by decide) | (cases h; done))
 all_goals try (exact .of (by decide))
 all_goals try (exact .mk [] [] _ rfl (.le (.refl _)) trivial rfl)
 all_goals have gg := two_g ‹(bif !fewB t then true else !briefB l) = false›
 all_goals have el := gg.2
 all_goals try (exact Side.mk gg.1)
 all_goals try (exact Side.mk (by omega))
 all_goals try (exact owZ)
 all_goals try (have b := inB_iff.1 ‹inB x 0 ((l.ev.length : Int) - 1) = true›; exact owZ)
 all_goals try (exact Sc.imp fun v => (by have b := inB_iff.1 (show inB x 0 ((l.ev.length : Int) - 1) = true from by cases q : inB x 0 ((l.ev.length : Int) - 1); (rw [q] at v; cases v); rfl); exact ⟨by omega, by omega⟩))
 all_goals try (exact Sc.imp fun v => (by have b := inB_iff.1 v; exact ⟨by omega, by omega⟩))
 all_goals try (exact .of (by omega))
 all_goals have rn := le_rn gg.1 hl
 all_goals try (have b := rnN_bd t (chgL' (sealL l) x.toNat y); rw [yl] at b; exact .mk [] [] _ rfl (.le (.boolT (inB_iff.2 ⟨b.1, by omega⟩))) trivial rfl)
 all_goals (have ry := le_rn gg.1 (bne_eq_false_iff_eq.1 ‹(leE t (chgL' (sealL l) x.toNat y) != 0) = false›); have w := found_seal gg.1 rn hf hs; have s1 := (rn_al0 gg.1 w.1 (show l.ev.length <= (sealL l).ev.length by omega)).1; have s2 := (rn_al0 gg.1 ry (show l.ev.length <= (chgL' (sealL l) x.toNat y).ev.length by omega)).1)
 ·exfalso
  have q := ‹(bif sumE (sealL l) (l.ev.length : Int) != 0 then true else sumE (chgL' (sealL l) x.toNat y) (l.ev.length : Int) != 0) = true›
  rw [s1, s2] at q; cases q
 ·have fl := found_law (n := y) gg.1 rn hf hs (show x.toNat < l.ev.length by omega) ry
  refine .mk [] [] _ rfl (.le (.boolT ?_)) trivial rfl
  rcases fl with ⟨e1, e2, e3⟩ | e
  ·have z : ffZ t (chgL' (sealL l) x.toNat y) (ffI t (chgL' (sealL l) x.toNat y)) = ffI t (chgL' (sealL l) x.toNat y) := by unfold ffZ; rw [e1]; rfl
   rw [e1, z, inB_iff.2 ⟨e2, e3⟩]; rfl
  ·rw [e, beq_self_eq_true]; cases (bif ffE t (chgL' (sealL l) x.toNat y) == 0 then inB (ffZ t (chgL' (sealL l) x.toNat y) (ffI t (chgL' (sealL l) x.toNat y))) 0 (l.ev.length : Int) else false) <;> rfl
theorem c4 (t : Trf) (l : Log) (x y : Int) : Pure (Xc W0 Gt) 4 [trfA t, lgA l, .agg 2 (tbl [.int .i64 x, .int .i64 y])] (.bool true) := by
 by_cases hr : ffE t l = 12 /\ leE t l = 0
 ·by_cases hs : sealE l = 0
  ·cases hg : (bif !inB x 0 ((l.ev.length : Int) - 1) then true else y == ((sealL l).ev.getD x.toNat ev0).n)
   ·have w := or_f hg
    have hin : inB x 0 ((l.ev.length : Int) - 1) = true := by
     cases q : inB x 0 ((l.ev.length : Int) - 1) with
     | true => rfl
     | false => rw [q] at w; cases w.1
    exact c4k hX haw t l x y hr.1 hr.2 hs hin w.2
   ·exact c4i hX haw t l x y hr.1 hr.2 hs hg
  ·exact c4s hX haw t l x y hr.1 hr.2 hs
 ·exact c4e hX haw t l x y hr
end
end Go.Fx
