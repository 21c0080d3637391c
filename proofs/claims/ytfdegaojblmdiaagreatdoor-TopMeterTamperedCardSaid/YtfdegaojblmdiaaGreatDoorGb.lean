/-
 The specification's meter: events, logs.
-/
import Derived.Test.YtfdegaojblmdiaaGreatDoorGa
set_option linter.all false
namespace Go.Fx
open Go.Proofs Go.RowKit
section
variable {W0 : World} (hX : (Xc W0 Gt).Good)
include hX
set_option maxHeartbeats 1000000 in
theorem c93_0 (t : Trf) (l : Log) (r : Rm) (i : Nat) (hs : Side (Sx t l r i)) (n v : Nat) (hn : Side (n <= 1000000)) (hv : Side ((l.ev.getD i ev0).k = 0)) : Mut (Xc W0 Gt) 93 [trfA t, lgA l, .agg 16 (tbl (rmC r (iRow r.ex) (.own 0 v))), .int .i64 (i : Int)] [cnO n v] (.tup 2 (tbl [.agg 16 (tbl (rmC { r with pu := r.pu + (l.ev.getD i ev0).n, si := r.si + (l.ev.getD i ev0).n } (iRow r.ex) (.own 0 v))), .int .i64 0])) [cnO n v] := by
 have sx := hs.get
 have k := sx.rk
 have hn := hn.get
 have gh := gd_head k.g.al
 have ee := ev_ok (gh.2.2.2.2 i sx.hi)
 have el := gh.2.2.2.1
 have k1 := k.pu; have k2 := k.si; have k3 := k.tk; have lt := sx.hi
 have hv := hv.get
 have nb := ee.2.1 hv
 have hx0 : ((l.ev.getD i ev0).k == 0) = false -> False := fun q => by rw [hv] at q; cases q
 refine mut_of' hX (fnI Tryz.f93) rfl ?_
 repeat' (first
  | (refine Ax.go ?_; apply Alt.one)
  | exact Cl.go
  | ((with_reducible refine (?_ : LeOks _ _ _)); first | exact ⟨.list fun _ _ _ _ => .any _, trivial⟩ | exact ⟨ex_new rfl rfl (fun _ => rfl), trivial⟩ | exact ⟨.list fun _ _ _ _ => .any _, ex_put lx, trivial⟩ | exact trivial | exact ⟨.refl _, trivial⟩ | exact ⟨.refl _, .refl _, trivial⟩)
  | ((fail_if_success refine Stop.go ?_); (first | exact (hx0 ‹_›).elim | rw [beqvv v] | (with_reducible first | apply And.intro | apply Cut.go | (refine impI ?_; intro _)) | (refine propI ?_; conv => whnf))))
 all_goals try exact nbZ
 all_goals try ((with_reducible refine (?_ : Sc _ _)); (try simp only [Int.toNat_natCast]); first | exact Sc.of ⟨by omega, by omega⟩ | exact Sc.of (by omega))
 all_goals (exact .mk [] [] _ rfl (.le (.tups ⟨⟨trivial, ag16⟩, .refl _⟩)) ⟨.le (.refl _), trivial⟩ rfl)
set_option maxHeartbeats 1000000 in
theorem c93_5 (t : Trf) (l : Log) (r : Rm) (i : Nat) (hs : Side (Sx t l r i)) (n v : Nat) (hn : Side (n <= 1000000)) (hv : Side ((l.ev.getD i ev0).k ≠ 0 /\ (l.ev.getD i ev0).k ≠ 1 /\ (l.ev.getD i ev0).k ≠ 2 /\ (l.ev.getD i ev0).k ≠ 3 /\ (l.ev.getD i ev0).k ≠ 4)) : Mut (Xc W0 Gt) 93 [trfA t, lgA l, .agg 16 (tbl (rmC r (iRow r.ex) (.own 0 v))), .int .i64 (i : Int)] [cnO n v] (.tup 2 (tbl [.agg 16 (tbl (rmC r (iRow r.ex) (.own 0 v))), .int .i64 0])) [cnO n v] := by
 have sx := hs.get
 have k := sx.rk
 have hn := hn.get
 have gh := gd_head k.g.al
 have ee := ev_ok (gh.2.2.2.2 i sx.hi)
 have el := gh.2.2.2.1
 have k1 := k.pu; have k2 := k.si; have k3 := k.tk; have lt := sx.hi
 have hv := hv.get
 have hx0 : ((l.ev.getD i ev0).k == 0) = true -> False := fun q => absurd (eq_of_beq q) (by omega)
 have hx1 : ((l.ev.getD i ev0).k == 1) = true -> False := fun q => absurd (eq_of_beq q) (by omega)
 have hx2 : ((l.ev.getD i ev0).k == 2) = true -> False := fun q => absurd (eq_of_beq q) (by omega)
 have hx3 : ((l.ev.getD i ev0).k == 3) = true -> False := fun q => absurd (eq_of_beq q) (by omega)
 have hx4 : ((l.ev.getD i ev0).k == 4) = true -> False := fun q => absurd (eq_of_beq q) (by omega)
 refine mut_of' hX (fnI Tryz.f93) rfl ?_
 repeat' (first
  | (refine Ax.go ?_; apply Alt.one)
  | exact Cl.go
  | ((with_reducible refine (?_ : LeOks _ _ _)); first | exact ⟨.list fun _ _ _ _ => .any _, trivial⟩ | exact ⟨ex_new rfl rfl (fun _ => rfl), trivial⟩ | exact ⟨.list fun _ _ _ _ => .any _, ex_put lx, trivial⟩ | exact trivial | exact ⟨.refl _, trivial⟩ | exact ⟨.refl _, .refl _, trivial⟩)
  | ((fail_if_success refine Stop.go ?_); (first | exact (hx0 ‹_›).elim | exact (hx1 ‹_›).elim | exact (hx2 ‹_›).elim | exact (hx3 ‹_›).elim | exact (hx4 ‹_›).elim | rw [beqvv v] | (with_reducible first | apply And.intro | apply Cut.go | (refine impI ?_; intro _)) | (refine propI ?_; conv => whnf))))
 all_goals try exact nbZ
 all_goals try ((with_reducible refine (?_ : Sc _ _)); (try simp only [Int.toNat_natCast]); first | exact Sc.of ⟨by omega, by omega⟩ | exact Sc.of (by omega))
 all_goals (exact .mk [] [] _ rfl (.le (.tups ⟨⟨trivial, ag16⟩, .refl _⟩)) ⟨.le (.refl _), trivial⟩ rfl)
set_option maxHeartbeats 1000000 in
theorem c93_1 (t : Trf) (l : Log) (r : Rm) (i : Nat) (hs : Side (Sx t l r i)) (n v : Nat) (hn : Side (n <= 1000000)) (hv : Side ((l.ev.getD i ev0).k = 1)) (he : Side (scanE (fun j => rcE t l (rtN t l r j) true) (List.range (l.ev.getD i ev0).n.toNat) = 0)) : Mut (Xc W0 Gt) 93 [trfA t, lgA l, .agg 16 (tbl (rmC r (iRow r.ex) (.own 0 v))), .int .i64 (i : Int)] [cnO n v] (.tup 2 (tbl [.agg 16 (tbl (rmC (rtN t l r (l.ev.getD i ev0).n.toNat) (iRow (rtN t l r (l.ev.getD i ev0).n.toNat).ex) (.own 0 (v + kN t l r (l.ev.getD i ev0).n.toNat)))), .int .i64 0])) [cnO (n + kN t l r (l.ev.getD i ev0).n.toNat) (v + kN t l r (l.ev.getD i ev0).n.toNat)] := by
 have sx := hs.get
 have k := sx.rk
 have hn := hn.get
 have gh := gd_head k.g.al
 have ee := ev_ok (gh.2.2.2.2 i sx.hi)
 have el := gh.2.2.2.1
 have k1 := k.pu; have k2 := k.si; have k3 := k.tk; have lt := sx.hi
 have hv := hv.get
 have he := he.get
 have nb := ee.2.2.1 hv
 have hx0 : ((l.ev.getD i ev0).k == 0) = true -> False := fun q => by rw [hv] at q; cases q
 have hx1 : ((l.ev.getD i ev0).k == 1) = false -> False := fun q => by rw [hv] at q; cases q
 refine mut_of' hX (fnI Tryz.f93) rfl ?_
 repeat' (first
  | (refine Ax.go ?_; apply Alt.one)
  | exact Cl.go
  | ((with_reducible refine (?_ : LeOks _ _ _)); first | exact ⟨.list fun _ _ _ _ => .any _, trivial⟩ | exact ⟨ex_new rfl rfl (fun _ => rfl), trivial⟩ | exact ⟨.list fun _ _ _ _ => .any _, ex_put lx, trivial⟩ | exact trivial | exact ⟨.refl _, trivial⟩ | exact ⟨.refl _, .refl _, trivial⟩)
  | ((fail_if_success refine Stop.go ?_); (first | exact (hx0 ‹_›).elim | exact (hx1 ‹_›).elim | rw [beqvv v] | (with_reducible first | apply And.intro | apply Cut.go | (refine impI ?_; intro _)) | (refine propI ?_; conv => whnf))))
 all_goals try exact nbZ
 all_goals try ((with_reducible refine (?_ : Sc _ _)); (try simp only [Int.toNat_natCast]); first | exact Sc.of ⟨by omega, by omega⟩ | exact Sc.of (by omega))
 refine ⟨Nat, fun j => ([(4, .ptr 1 0), (5, .ptr 2 0), (6, .ptr 3 0), (8, .ptr 4 0), (10, .ptr 5 0), (11, .int .i64 (((j) : Nat)))], [cnO (n + kN t l r (j)) (v + kN t l r (j)), .box (trfC t), .box (logC l (evS l.ev)), .box (rmC (rtN t l r (j)) (iRow (rtN t l r (j)).ex) (.own 0 (v + kN t l r (j)))), .box [.int .i64 0, .int .i64 0, .int .i64 0, .int .i64 0, .int .i64 0, .int .i64 0, .slc0, .int .i64 0, .int .i64 0, .int .i64 0, .int .i64 0, .int .i64 0, .int .i64 0, .int .i64 0, .int .i64 0, .slc0], .box (evC (l.ev.getD i ev0))]), fun j => j <= (l.ev.getD i ev0).n.toNat /\ ∀ a, a < j -> rcE t l (rtN t l r a) true = 0, fun j => (l.ev.getD i ev0).n.toNat - j, ⟨0, ⟨Nat.zero_le _, fun a h => absurd h (Nat.not_lt_zero a)⟩, .le ⟨by kernel_rfl, ⟨.refl _, .refl _, .refl _, .boxes ⟨.refl _, .refl _, .refl _, .refl _, .refl _, .refl _, .refl _, .refl _, .refl _, .refl _, .refl _, .refl _, .refl _, .refl _, .refl _, .refl _, trivial⟩, .refl _, .refl _, trivial⟩, ⟨.refl _, .refl _, .refl _, .refl _, .refl _, .refl _, trivial⟩⟩⟩, fun j hy => ?_⟩
 have hj : j <= (l.ev.getD i ev0).n.toNat := hy.1
 have h0 : ∀ a, a < j -> rcE t l (rtN t l r a) true = 0 := hy.2
 clear hy
 have kn := kN_le (t := t) (l := l) (r := r) j
 by_cases hjN : j < (l.ev.getD i ev0).n.toNat
 ·have tj := sx.ti hv j hjN h0
  have hlt : decide ((j : Int) < (l.ev.getD i ev0).n) = false -> False := fun q => by have q := of_decide_eq_false q; omega
  by_cases e : rcE t l (rtN t l r j) true = 0
  ·have hc := c141t_ok hX t l (rtN t l r j) (Side.mk tj.1) (Side.mk tj.2) (n + kN t l r j) (v + kN t l r j) (Side.mk (by omega)) e
   rw [show n + kN t l r j + kB (rtN t l r j) true = n + kN t l r (j + 1) by simp only [kN]; omega, show v + kN t l r j + kB (rtN t l r j) true = v + kN t l r (j + 1) by simp only [kN]; omega] at hc
   have hq0 : ((0 : Int) != 0) = true -> False := fun q => by cases q
   repeat' (first
    | (refine Ax.go ?_; with_reducible first | (apply altM (ks := [0]) (m := 0); apply And.intro; apply Sc.of; apply (hc)) | apply Alt.one)
    | exact Cl.go
    | ((with_reducible refine (?_ : LeOks _ _ _)); first | exact ⟨.list fun _ _ _ _ => .any _, trivial⟩ | exact ⟨ex_new rfl rfl (fun _ => rfl), trivial⟩ | exact ⟨.list fun _ _ _ _ => .any _, ex_put lx, trivial⟩ | exact trivial | exact ⟨.refl _, trivial⟩ | exact ⟨.refl _, .refl _, trivial⟩)
    | ((fail_if_success refine Stop.go ?_); (first | exact (hlt ‹_›).elim | exact (hq0 ‹_›).elim | rw [beqvv (v + kN t l r j)] | rw [beqvv (v + kN t l r (j + 1))] | (with_reducible first | apply And.intro | apply Cut.go | (refine impI ?_; intro _)) | (refine propI ?_; conv => whnf))))
   all_goals try exact nbZ
   all_goals try ((with_reducible refine (?_ : Sc _ _)); (try simp only [Int.toNat_natCast]); first | exact Sc.of ⟨by omega, by omega⟩ | exact Sc.of (by omega))
   all_goals (exact ⟨j + 1, ⟨hjN, all_lt h0 e⟩, by show (l.ev.getD i ev0).n.toNat - (j + 1) < (l.ev.getD i ev0).n.toNat - j; omega, .le ⟨by kernel_rfl, ⟨.refl _, .refl _, .refl _, .boxes ⟨.refl _, .refl _, .refl _, .refl _, .refl _, .refl _, .refl _, .refl _, .refl _, .refl _, .refl _, .refl _, .refl _, .refl _, .refl _, .refl _, trivial⟩, .refl _, .refl _, trivial⟩, ⟨.refl _, .refl _, .refl _, .refl _, .refl _, .intI (by show (j : Int) + 1 = ((j + 1 : Nat) : Int); omega), trivial⟩⟩⟩)
  ·exact absurd (rscan_zero (g := fun j => rcE t l (rtN t l r j) true) he hjN) e
 ·have hge : decide ((j : Int) < (l.ev.getD i ev0).n) = true -> False := fun q => by have q := of_decide_eq_true q; omega
  obtain rfl : j = (l.ev.getD i ev0).n.toNat := by omega
  repeat' (first
   | (refine Ax.go ?_; apply Alt.one)
   | exact Cl.go
   | ((with_reducible refine (?_ : LeOks _ _ _)); first | exact ⟨.list fun _ _ _ _ => .any _, trivial⟩ | exact ⟨ex_new rfl rfl (fun _ => rfl), trivial⟩ | exact ⟨.list fun _ _ _ _ => .any _, ex_put lx, trivial⟩ | exact trivial | exact ⟨.refl _, trivial⟩ | exact ⟨.refl _, .refl _, trivial⟩)
   | ((fail_if_success refine Stop.go ?_); (first | exact (hge ‹_›).elim | rw [beqvv (v + kN t l r (l.ev.getD i ev0).n.toNat)] | (with_reducible first | apply And.intro | apply Cut.go | (refine impI ?_; intro _)) | (refine propI ?_; conv => whnf))))
  all_goals try exact nbZ
  all_goals try ((with_reducible refine (?_ : Sc _ _)); (try simp only [Int.toNat_natCast]); first | exact Sc.of ⟨by omega, by omega⟩ | exact Sc.of (by omega))
  all_goals (exact .mk [] [] _ rfl (.le (.tups ⟨⟨trivial, ag16⟩, .refl _⟩)) ⟨.le (.refl _), trivial⟩ rfl)
set_option maxHeartbeats 1000000 in
theorem c93_1e (t : Trf) (l : Log) (r : Rm) (i : Nat) (hs : Side (Sx t l r i)) (n v : Nat) (hn : Side (n <= 1000000)) (hv : Side ((l.ev.getD i ev0).k = 1)) (he : Side (scanE (fun j => rcE t l (rtN t l r j) true) (List.range (l.ev.getD i ev0).n.toNat) ≠ 0)) : Mut (Xc W0 Gt) 93 [trfA t, lgA l, .agg 16 (tbl (rmC r (iRow r.ex) (.own 0 v))), .int .i64 (i : Int)] [cnO n v] (.tup 2 (tbl [.agg 16 (fun _ => .any), .int .i64 (scanE (fun j => rcE t l (rtN t l r j) true) (List.range (l.ev.getD i ev0).n.toNat))])) [.dead] := by
 have sx := hs.get
 have k := sx.rk
 have hn := hn.get
 have gh := gd_head k.g.al
 have ee := ev_ok (gh.2.2.2.2 i sx.hi)
 have el := gh.2.2.2.1
 have k1 := k.pu; have k2 := k.si; have k3 := k.tk; have lt := sx.hi
 have hv := hv.get
 have he := he.get
 have nb := ee.2.2.1 hv
 have hx0 : ((l.ev.getD i ev0).k == 0) = true -> False := fun q => by rw [hv] at q; cases q
 have hx1 : ((l.ev.getD i ev0).k == 1) = false -> False := fun q => by rw [hv] at q; cases q
 refine mut_of' hX (fnI Tryz.f93) rfl ?_
 repeat' (first
  | (refine Ax.go ?_; apply Alt.one)
  | exact Cl.go
  | ((with_reducible refine (?_ : LeOks _ _ _)); first | exact ⟨.list fun _ _ _ _ => .any _, trivial⟩ | exact ⟨ex_new rfl rfl (fun _ => rfl), trivial⟩ | exact ⟨.list fun _ _ _ _ => .any _, ex_put lx, trivial⟩ | exact trivial | exact ⟨.refl _, trivial⟩ | exact ⟨.refl _, .refl _, trivial⟩)
  | ((fail_if_success refine Stop.go ?_); (first | exact (hx0 ‹_›).elim | exact (hx1 ‹_›).elim | rw [beqvv v] | (with_reducible first | apply And.intro | apply Cut.go | (refine impI ?_; intro _)) | (refine propI ?_; conv => whnf))))
 all_goals try exact nbZ
 all_goals try ((with_reducible refine (?_ : Sc _ _)); (try simp only [Int.toNat_natCast]); first | exact Sc.of ⟨by omega, by omega⟩ | exact Sc.of (by omega))
 refine ⟨Nat, fun j => ([(4, .ptr 1 0), (5, .ptr 2 0), (6, .ptr 3 0), (8, .ptr 4 0), (10, .ptr 5 0), (11, .int .i64 (((j) : Nat)))], [cnO (n + kN t l r (j)) (v + kN t l r (j)), .box (trfC t), .box (logC l (evS l.ev)), .box (rmC (rtN t l r (j)) (iRow (rtN t l r (j)).ex) (.own 0 (v + kN t l r (j)))), .box [.int .i64 0, .int .i64 0, .int .i64 0, .int .i64 0, .int .i64 0, .int .i64 0, .slc0, .int .i64 0, .int .i64 0, .int .i64 0, .int .i64 0, .int .i64 0, .int .i64 0, .int .i64 0, .int .i64 0, .slc0], .box (evC (l.ev.getD i ev0))]), fun j => j <= (l.ev.getD i ev0).n.toNat /\ ∀ a, a < j -> rcE t l (rtN t l r a) true = 0, fun j => (l.ev.getD i ev0).n.toNat - j, ⟨0, ⟨Nat.zero_le _, fun a h => absurd h (Nat.not_lt_zero a)⟩, .le ⟨by kernel_rfl, ⟨.refl _, .refl _, .refl _, .boxes ⟨.refl _, .refl _, .refl _, .refl _, .refl _, .refl _, .refl _, .refl _, .refl _, .refl _, .refl _, .refl _, .refl _, .refl _, .refl _, .refl _, trivial⟩, .refl _, .refl _, trivial⟩, ⟨.refl _, .refl _, .refl _, .refl _, .refl _, .refl _, trivial⟩⟩⟩, fun j hy => ?_⟩
 have hj : j <= (l.ev.getD i ev0).n.toNat := hy.1
 have h0 : ∀ a, a < j -> rcE t l (rtN t l r a) true = 0 := hy.2
 clear hy
 have kn := kN_le (t := t) (l := l) (r := r) j
 by_cases hjN : j < (l.ev.getD i ev0).n.toNat
 ·have tj := sx.ti hv j hjN h0
  have hlt : decide ((j : Int) < (l.ev.getD i ev0).n) = false -> False := fun q => by have q := of_decide_eq_false q; omega
  by_cases e : rcE t l (rtN t l r j) true = 0
  ·have hc := c141t_ok hX t l (rtN t l r j) (Side.mk tj.1) (Side.mk tj.2) (n + kN t l r j) (v + kN t l r j) (Side.mk (by omega)) e
   rw [show n + kN t l r j + kB (rtN t l r j) true = n + kN t l r (j + 1) by simp only [kN]; omega, show v + kN t l r j + kB (rtN t l r j) true = v + kN t l r (j + 1) by simp only [kN]; omega] at hc
   have hq0 : ((0 : Int) != 0) = true -> False := fun q => by cases q
   repeat' (first
    | (refine Ax.go ?_; with_reducible first | (apply altM (ks := [0]) (m := 0); apply And.intro; apply Sc.of; apply (hc)) | apply Alt.one)
    | exact Cl.go
    | ((with_reducible refine (?_ : LeOks _ _ _)); first | exact ⟨.list fun _ _ _ _ => .any _, trivial⟩ | exact ⟨ex_new rfl rfl (fun _ => rfl), trivial⟩ | exact ⟨.list fun _ _ _ _ => .any _, ex_put lx, trivial⟩ | exact trivial | exact ⟨.refl _, trivial⟩ | exact ⟨.refl _, .refl _, trivial⟩)
    | ((fail_if_success refine Stop.go ?_); (first | exact (hlt ‹_›).elim | exact (hq0 ‹_›).elim | rw [beqvv (v + kN t l r j)] | rw [beqvv (v + kN t l r (j + 1))] | (with_reducible first | apply And.intro | apply Cut.go | (refine impI ?_; intro _)) | (refine propI ?_; conv => whnf))))
   all_goals try exact nbZ
   all_goals try ((with_reducible refine (?_ : Sc _ _)); (try simp only [Int.toNat_natCast]); first | exact Sc.of ⟨by omega, by omega⟩ | exact Sc.of (by omega))
   all_goals (exact ⟨j + 1, ⟨hjN, all_lt h0 e⟩, by show (l.ev.getD i ev0).n.toNat - (j + 1) < (l.ev.getD i ev0).n.toNat - j; omega, .le ⟨by kernel_rfl, ⟨.refl _, .refl _, .refl _, .boxes ⟨.refl _, .refl _, .refl _, .refl _, .refl _, .refl _, .refl _, .refl _, .refl _, .refl _, .refl _, .refl _, .refl _, .refl _, .refl _, .refl _, trivial⟩, .refl _, .refl _, trivial⟩, ⟨.refl _, .refl _, .refl _, .refl _, .refl _, .intI (by show (j : Int) + 1 = ((j + 1 : Nat) : Int); omega), trivial⟩⟩⟩)
  ·have hc := c141t_er hX t l (rtN t l r j) (Side.mk tj.1) (Side.mk tj.2) (n + kN t l r j) (v + kN t l r j) (Side.mk (by omega)) e
   have hq0 : (rcE t l (rtN t l r j) true != 0) = false -> False := fun q => e (bne_eq_false_iff_eq.1 q)
   have sc := (rscan_hit (g := fun j => rcE t l (rtN t l r j) true) hjN h0 rfl e).1
   rw [sc]
   repeat' (first
    | (refine Ax.go ?_; with_reducible first | (apply altM (ks := [0]) (m := 0); apply And.intro; apply Sc.of; apply (hc)) | apply Alt.one)
    | exact Cl.go
    | ((with_reducible refine (?_ : LeOks _ _ _)); first | exact ⟨.list fun _ _ _ _ => .any _, trivial⟩ | exact ⟨ex_new rfl rfl (fun _ => rfl), trivial⟩ | exact ⟨.list fun _ _ _ _ => .any _, ex_put lx, trivial⟩ | exact trivial | exact ⟨.refl _, trivial⟩ | exact ⟨.refl _, .refl _, trivial⟩)
    | ((fail_if_success refine Stop.go ?_); (first | exact (hlt ‹_›).elim | exact (hq0 ‹_›).elim | rw [beqvv (v + kN t l r j)] | rw [beqvv (v + kN t l r (j + 1))] | (with_reducible first | apply And.intro | apply Cut.go | (refine impI ?_; intro _)) | (refine propI ?_; conv => whnf))))
   all_goals try exact nbZ
   all_goals try ((with_reducible refine (?_ : Sc _ _)); (try simp only [Int.toNat_natCast]); first | exact Sc.of ⟨by omega, by omega⟩ | exact Sc.of (by omega))
   all_goals (exact .mk [] [] _ rfl (.le (.tups ⟨⟨trivial, .agg fun _ _ => .any _⟩, .refl _⟩)) ⟨.le (.dead _), trivial⟩ rfl)
 ·have hge : decide ((j : Int) < (l.ev.getD i ev0).n) = true -> False := fun q => by have q := of_decide_eq_true q; omega
  obtain rfl : j = (l.ev.getD i ev0).n.toNat := by omega
  exact absurd (rscan_none h0).1 he
end
open Go.Proofs Go.RowKit
theorem rk_ps {t : Trf} {l : Log} {r : Rm} (k : Rk t l r) (h : r.ps ≠ 0) {p : Int} (hp : 0 <= p /\ p <= 3) : Rk t l { r with ps := p } := ⟨k.g, k.tk, k.si, k.pu, k.pa, hp, k.st, fun _ => k.exl h, k.ex⟩
theorem rk_rb {t : Trf} {l : Log} {r : Rm} (k : Rk t l r) (h : rrE t l r = 0) {i p : Int} (hp : 0 <= p /\ p <= 3) : Rk t l (rbR t l r i p) := by
 have rn := rrN_ok k.g h
 have hR := trf_rule k.g.trf (k := (rrN t l r).toNat) (by omega)
 exact ⟨k.g, k.tk, k.si, k.pu, by show (0 : Int) <= 0 /\ (0 : Int) <= _; decide, hp, hR.st, fun _ => List.length_replicate, fun j => by show 0 <= (List.replicate _ (0 : Int)).getD j 0 /\ (List.replicate _ (0 : Int)).getD j 0 <= 20; rw [rep_at0]; decide⟩
theorem rk_ex {t : Trf} {l : Log} {r : Rm} (k : Rk t l r) {n : Nat} (h : ¬ 20 <= r.ex.getD n 0) : Rk t l { r with ex := r.ex.set n (r.ex.getD n 0 + 1) } := by
 have e := k.ex n
 refine ⟨k.g, k.tk, k.si, k.pu, k.pa, k.ps, k.st, fun p => by show (r.ex.set _ _).length = _; rw [List.length_set]; exact k.exl p, fun j => ?_⟩
 show 0 <= (r.ex.set _ _).getD j 0 /\ (r.ex.set _ _).getD j 0 <= 20
 rw [getD_set]
 split
 ·omega
 ·exact k.ex j
theorem rc_ps0 {t : Trf} {l : Log} {r : Rm} (h : (rcR t l r false).ps = 0) : r.ps = 0 := by
 rw [rcR_eq] at h
 by_cases p : (rcT t l r false).ps = 0
 ·exact p
 ·rw [rpR_1 p] at h; exact h
section
variable {W0 : World} (hX : (Xc W0 Gt).Good)
include hX
set_option maxHeartbeats 1000000 in
theorem c93_3n (t : Trf) (l : Log) (r : Rm) (i : Nat) (hs : Side (Sx t l r i)) (n v : Nat) (hn : Side (n <= 1000000)) (hv : Side ((l.ev.getD i ev0).k = 3)) (hz : Side (zoneIn t (l.ev.getD i ev0).n = false)) : Mut (Xc W0 Gt) 93 [trfA t, lgA l, .agg 16 (tbl (rmC r (iRow r.ex) (.own 0 v))), .int .i64 (i : Int)] [cnO n v] (.tup 2 (tbl [.agg 16 (fun _ => .any), .int .i64 (6)])) [.dead] := by
 have sx := hs.get
 have k := sx.rk
 have hn := hn.get
 have gh := gd_head k.g.al
 have ee := ev_ok (gh.2.2.2.2 i sx.hi)
 have el := gh.2.2.2.1
 have k1 := k.pu; have k2 := k.si; have k3 := k.tk; have lt := sx.hi
 have hv := hv.get
 have hx0 : ((l.ev.getD i ev0).k == 0) = true -> False := fun q => by rw [hv] at q; cases q
 have hx1 : ((l.ev.getD i ev0).k == 1) = true -> False := fun q => by rw [hv] at q; cases q
 have hx2 : ((l.ev.getD i ev0).k == 2) = true -> False := fun q => by rw [hv] at q; cases q
 have hx3 : ((l.ev.getD i ev0).k == 3) = false -> False := fun q => by rw [hv] at q; cases q
 have hz0 : (!zoneIn t (l.ev.getD i ev0).n) = false -> False := fun q => by rw [hz.get] at q; cases q
 refine mut_of' hX (fnI Tryz.f93) rfl ?_
 repeat' (first
  | (refine Ax.go ?_; with_reducible first | apply callAlt (c146 hX t _ (Side.mk k.g.ok.zones)) | apply Alt.one)
  | exact Cl.go
  | ((with_reducible refine (?_ : LeOks _ _ _)); first | exact ⟨.list fun _ _ _ _ => .any _, trivial⟩ | exact ⟨ex_new rfl rfl (fun _ => rfl), trivial⟩ | exact ⟨.list fun _ _ _ _ => .any _, ex_put lx, trivial⟩ | exact trivial | exact ⟨.refl _, trivial⟩ | exact ⟨.refl _, .refl _, trivial⟩)
  | ((fail_if_success refine Stop.go ?_); (first | exact (hx0 ‹_›).elim | exact (hx1 ‹_›).elim | exact (hx2 ‹_›).elim | exact (hx3 ‹_›).elim | rw [beqvv v] | exact (hz0 ‹_›).elim | rw [beqvv (v + kB r false)] | (with_reducible first | apply And.intro | apply Cut.go | (refine impI ?_; intro _)) | (refine propI ?_; conv => whnf))))
 all_goals try exact nbZ
 all_goals try ((with_reducible refine (?_ : Sc _ _)); (try simp only [Int.toNat_natCast]); first | exact Sc.of ⟨by omega, by omega⟩ | exact Sc.of (by omega))
 all_goals (exact .mk [] [] _ rfl (.le (.tups ⟨⟨trivial, .agg fun _ _ => .any _⟩, .refl _⟩)) ⟨.le (.dead _), trivial⟩ rfl)
set_option maxHeartbeats 1000000 in
theorem c93_3e (t : Trf) (l : Log) (r : Rm) (i : Nat) (hs : Side (Sx t l r i)) (n v : Nat) (hn : Side (n <= 1000000)) (hv : Side ((l.ev.getD i ev0).k = 3)) (hz : Side (zoneIn t (l.ev.getD i ev0).n = true)) (he : Side (rcE t l r false ≠ 0)) : Mut (Xc W0 Gt) 93 [trfA t, lgA l, .agg 16 (tbl (rmC r (iRow r.ex) (.own 0 v))), .int .i64 (i : Int)] [cnO n v] (.tup 2 (tbl [.agg 16 (fun _ => .any), .int .i64 (rcE t l r false)])) [.dead] := by
 have sx := hs.get
 have k := sx.rk
 have hn := hn.get
 have gh := gd_head k.g.al
 have ee := ev_ok (gh.2.2.2.2 i sx.hi)
 have el := gh.2.2.2.1
 have k1 := k.pu; have k2 := k.si; have k3 := k.tk; have lt := sx.hi
 have hv := hv.get
 have hx0 : ((l.ev.getD i ev0).k == 0) = true -> False := fun q => by rw [hv] at q; cases q
 have hx1 : ((l.ev.getD i ev0).k == 1) = true -> False := fun q => by rw [hv] at q; cases q
 have hx2 : ((l.ev.getD i ev0).k == 2) = true -> False := fun q => by rw [hv] at q; cases q
 have hx3 : ((l.ev.getD i ev0).k == 3) = false -> False := fun q => by rw [hv] at q; cases q
 have hz0 : (!zoneIn t (l.ev.getD i ev0).n) = true -> False := fun q => by rw [hz.get] at q; cases q
 have he := he.get
 have hc := c141f_er hX t l r (Side.mk k) (Side.mk sx.ch) n v (Side.mk (by omega)) he
 have hq0 : (rcE t l r false != 0) = false -> False := fun q => he (bne_eq_false_iff_eq.1 q)
 refine mut_of' hX (fnI Tryz.f93) rfl ?_
 repeat' (first
  | (refine Ax.go ?_; with_reducible first | apply callAlt (c146 hX t _ (Side.mk k.g.ok.zones)) | (apply altM (ks := [0]) (m := 0); apply And.intro; apply Sc.of; apply (hc)) | apply Alt.one)
  | exact Cl.go
  | ((with_reducible refine (?_ : LeOks _ _ _)); first | exact ⟨.list fun _ _ _ _ => .any _, trivial⟩ | exact ⟨ex_new rfl rfl (fun _ => rfl), trivial⟩ | exact ⟨.list fun _ _ _ _ => .any _, ex_put lx, trivial⟩ | exact trivial | exact ⟨.refl _, trivial⟩ | exact ⟨.refl _, .refl _, trivial⟩)
  | ((fail_if_success refine Stop.go ?_); (first | exact (hx0 ‹_›).elim | exact (hx1 ‹_›).elim | exact (hx2 ‹_›).elim | exact (hx3 ‹_›).elim | rw [beqvv v] | exact (hz0 ‹_›).elim | exact (hq0 ‹_›).elim | rw [beqvv (v + kB r false)] | (with_reducible first | apply And.intro | apply Cut.go | (refine impI ?_; intro _)) | (refine propI ?_; conv => whnf))))
 all_goals try exact nbZ
 all_goals try ((with_reducible refine (?_ : Sc _ _)); (try simp only [Int.toNat_natCast]); first | exact Sc.of ⟨by omega, by omega⟩ | exact Sc.of (by omega))
 all_goals (exact .mk [] [] _ rfl (.le (.tups ⟨⟨trivial, .agg fun _ _ => .any _⟩, .refl _⟩)) ⟨.le (.dead _), trivial⟩ rfl)
set_option maxHeartbeats 1000000 in
theorem c93_3 (t : Trf) (l : Log) (r : Rm) (i : Nat) (hs : Side (Sx t l r i)) (n v : Nat) (hn : Side (n <= 1000000)) (hv : Side ((l.ev.getD i ev0).k = 3)) (hz : Side (zoneIn t (l.ev.getD i ev0).n = true)) (he : Side (rcE t l r false = 0)) : Mut (Xc W0 Gt) 93 [trfA t, lgA l, .agg 16 (tbl (rmC r (iRow r.ex) (.own 0 v))), .int .i64 (i : Int)] [cnO n v] (.tup 2 (tbl [.agg 16 (tbl (rmC { (rcR t l r false) with zn := (l.ev.getD i ev0).n } (iRow (rcR t l r false).ex) (.own 0 (v + kB r false)))), .int .i64 0])) [cnO (n + kB r false) (v + kB r false)] := by
 have sx := hs.get
 have k := sx.rk
 have hn := hn.get
 have gh := gd_head k.g.al
 have ee := ev_ok (gh.2.2.2.2 i sx.hi)
 have el := gh.2.2.2.1
 have k1 := k.pu; have k2 := k.si; have k3 := k.tk; have lt := sx.hi
 have hv := hv.get
 have hx0 : ((l.ev.getD i ev0).k == 0) = true -> False := fun q => by rw [hv] at q; cases q
 have hx1 : ((l.ev.getD i ev0).k == 1) = true -> False := fun q => by rw [hv] at q; cases q
 have hx2 : ((l.ev.getD i ev0).k == 2) = true -> False := fun q => by rw [hv] at q; cases q
 have hx3 : ((l.ev.getD i ev0).k == 3) = false -> False := fun q => by rw [hv] at q; cases q
 have hz0 : (!zoneIn t (l.ev.getD i ev0).n) = true -> False := fun q => by rw [hz.get] at q; cases q
 have hce := he.get
 have hc := c141f_ok hX t l r (Side.mk k) (Side.mk sx.ch) n v (Side.mk (by omega)) hce
 have hq0 : ((0 : Int) != 0) = true -> False := fun q => by cases q
 refine mut_of' hX (fnI Tryz.f93) rfl ?_
 repeat' (first
  | (refine Ax.go ?_; with_reducible first | apply callAlt (c146 hX t _ (Side.mk k.g.ok.zones)) | (apply altM (ks := [0]) (m := 0); apply And.intro; apply Sc.of; apply (hc)) | apply Alt.one)
  | exact Cl.go
  | ((with_reducible refine (?_ : LeOks _ _ _)); first | exact ⟨.list fun _ _ _ _ => .any _, trivial⟩ | exact ⟨ex_new rfl rfl (fun _ => rfl), trivial⟩ | exact ⟨.list fun _ _ _ _ => .any _, ex_put lx, trivial⟩ | exact trivial | exact ⟨.refl _, trivial⟩ | exact ⟨.refl _, .refl _, trivial⟩)
  | ((fail_if_success refine Stop.go ?_); (first | exact (hx0 ‹_›).elim | exact (hx1 ‹_›).elim | exact (hx2 ‹_›).elim | exact (hx3 ‹_›).elim | rw [beqvv v] | exact (hz0 ‹_›).elim | exact (hq0 ‹_›).elim | rw [beqvv (v + kB r false)] | (with_reducible first | apply And.intro | apply Cut.go | (refine impI ?_; intro _)) | (refine propI ?_; conv => whnf))))
 all_goals try exact nbZ
 all_goals try ((with_reducible refine (?_ : Sc _ _)); (try simp only [Int.toNat_natCast]); first | exact Sc.of ⟨by omega, by omega⟩ | exact Sc.of (by omega))
 all_goals (exact .mk [] [] _ rfl (.le (.tups ⟨⟨trivial, ag16⟩, .refl _⟩)) ⟨.le (.refl _), trivial⟩ rfl)
set_option maxHeartbeats 1000000 in
theorem c93_2n (t : Trf) (l : Log) (r : Rm) (i : Nat) (hs : Side (Sx t l r i)) (n v : Nat) (hn : Side (n <= 1000000)) (hv : Side ((l.ev.getD i ev0).k = 2)) (hg : Side (goB r.ps (l.ev.getD i ev0).n = false)) : Mut (Xc W0 Gt) 93 [trfA t, lgA l, .agg 16 (tbl (rmC r (iRow r.ex) (.own 0 v))), .int .i64 (i : Int)] [cnO n v] (.tup 2 (tbl [.agg 16 (fun _ => .any), .int .i64 (22)])) [.dead] := by
 have sx := hs.get
 have k := sx.rk
 have hn := hn.get
 have gh := gd_head k.g.al
 have ee := ev_ok (gh.2.2.2.2 i sx.hi)
 have el := gh.2.2.2.1
 have k1 := k.pu; have k2 := k.si; have k3 := k.tk; have lt := sx.hi
 have hv := hv.get
 have hx0 : ((l.ev.getD i ev0).k == 0) = true -> False := fun q => by rw [hv] at q; cases q
 have hx1 : ((l.ev.getD i ev0).k == 1) = true -> False := fun q => by rw [hv] at q; cases q
 have hx2 : ((l.ev.getD i ev0).k == 2) = false -> False := fun q => by rw [hv] at q; cases q
 have hg0 : (!goB r.ps (l.ev.getD i ev0).n) = false -> False := fun q => by rw [hg.get] at q; cases q
 refine mut_of' hX (fnI Tryz.f93) rfl ?_
 repeat' (first
  | (refine Ax.go ?_; with_reducible first | apply callAlt (c142 hX _ _) | apply Alt.one)
  | exact Cl.go
  | ((with_reducible refine (?_ : LeOks _ _ _)); first | exact ⟨.list fun _ _ _ _ => .any _, trivial⟩ | exact ⟨ex_new rfl rfl (fun _ => rfl), trivial⟩ | exact ⟨.list fun _ _ _ _ => .any _, ex_put lx, trivial⟩ | exact trivial | exact ⟨.refl _, trivial⟩ | exact ⟨.refl _, .refl _, trivial⟩)
  | ((fail_if_success refine Stop.go ?_); (first | exact (hx0 ‹_›).elim | exact (hx1 ‹_›).elim | exact (hx2 ‹_›).elim | rw [beqvv v] | exact (hg0 ‹_›).elim | rw [beqvv (v + kB r false)] | (with_reducible first | apply And.intro | apply Cut.go | (refine impI ?_; intro _)) | (refine propI ?_; conv => whnf))))
 all_goals try exact nbZ
 all_goals try ((with_reducible refine (?_ : Sc _ _)); (try simp only [Int.toNat_natCast]); first | exact Sc.of ⟨by omega, by omega⟩ | exact Sc.of (by omega))
 all_goals (exact .mk [] [] _ rfl (.le (.tups ⟨⟨trivial, .agg fun _ _ => .any _⟩, .refl _⟩)) ⟨.le (.dead _), trivial⟩ rfl)
set_option maxHeartbeats 1000000 in
theorem c93_2e (t : Trf) (l : Log) (r : Rm) (i : Nat) (hs : Side (Sx t l r i)) (n v : Nat) (hn : Side (n <= 1000000)) (hv : Side ((l.ev.getD i ev0).k = 2)) (hg : Side (goB r.ps (l.ev.getD i ev0).n = true)) (he : Side (rcE t l r false ≠ 0)) : Mut (Xc W0 Gt) 93 [trfA t, lgA l, .agg 16 (tbl (rmC r (iRow r.ex) (.own 0 v))), .int .i64 (i : Int)] [cnO n v] (.tup 2 (tbl [.agg 16 (fun _ => .any), .int .i64 (rcE t l r false)])) [.dead] := by
 have sx := hs.get
 have k := sx.rk
 have hn := hn.get
 have gh := gd_head k.g.al
 have ee := ev_ok (gh.2.2.2.2 i sx.hi)
 have el := gh.2.2.2.1
 have k1 := k.pu; have k2 := k.si; have k3 := k.tk; have lt := sx.hi
 have hv := hv.get
 have hx0 : ((l.ev.getD i ev0).k == 0) = true -> False := fun q => by rw [hv] at q; cases q
 have hx1 : ((l.ev.getD i ev0).k == 1) = true -> False := fun q => by rw [hv] at q; cases q
 have hx2 : ((l.ev.getD i ev0).k == 2) = false -> False := fun q => by rw [hv] at q; cases q
 have hg0 : (!goB r.ps (l.ev.getD i ev0).n) = true -> False := fun q => by rw [hg.get] at q; cases q
 have he := he.get
 have hc := c141f_er hX t l r (Side.mk k) (Side.mk sx.ch) n v (Side.mk (by omega)) he
 have hq0 : (rcE t l r false != 0) = false -> False := fun q => he (bne_eq_false_iff_eq.1 q)
 refine mut_of' hX (fnI Tryz.f93) rfl ?_
 repeat' (first
  | (refine Ax.go ?_; with_reducible first | apply callAlt (c142 hX _ _) | (apply altM (ks := [0]) (m := 0); apply And.intro; apply Sc.of; apply (hc)) | apply Alt.one)
  | exact Cl.go
  | ((with_reducible refine (?_ : LeOks _ _ _)); first | exact ⟨.list fun _ _ _ _ => .any _, trivial⟩ | exact ⟨ex_new rfl rfl (fun _ => rfl), trivial⟩ | exact ⟨.list fun _ _ _ _ => .any _, ex_put lx, trivial⟩ | exact trivial | exact ⟨.refl _, trivial⟩ | exact ⟨.refl _, .refl _, trivial⟩)
  | ((fail_if_success refine Stop.go ?_); (first | exact (hx0 ‹_›).elim | exact (hx1 ‹_›).elim | exact (hx2 ‹_›).elim | rw [beqvv v] | exact (hg0 ‹_›).elim | exact (hq0 ‹_›).elim | rw [beqvv (v + kB r false)] | (with_reducible first | apply And.intro | apply Cut.go | (refine impI ?_; intro _)) | (refine propI ?_; conv => whnf))))
 all_goals try exact nbZ
 all_goals try ((with_reducible refine (?_ : Sc _ _)); (try simp only [Int.toNat_natCast]); first | exact Sc.of ⟨by omega, by omega⟩ | exact Sc.of (by omega))
 all_goals (exact .mk [] [] _ rfl (.le (.tups ⟨⟨trivial, .agg fun _ _ => .any _⟩, .refl _⟩)) ⟨.le (.dead _), trivial⟩ rfl)
set_option maxHeartbeats 1000000 in
theorem c93_2r (t : Trf) (l : Log) (r : Rm) (i : Nat) (hs : Side (Sx t l r i)) (n v : Nat) (hn : Side (n <= 1000000)) (hv : Side ((l.ev.getD i ev0).k = 2)) (hg : Side (goB r.ps (l.ev.getD i ev0).n = true)) (hce : Side (rcE t l r false = 0)) (hq : Side ((rcR t l r false).ps = 0)) (he : Side (rrE t l (rcR t l r false) ≠ 0)) : Mut (Xc W0 Gt) 93 [trfA t, lgA l, .agg 16 (tbl (rmC r (iRow r.ex) (.own 0 v))), .int .i64 (i : Int)] [cnO n v] (.tup 2 (tbl [.agg 16 (fun _ => .any), .int .i64 (rrE t l (rcR t l r false))])) [.dead] := by
 have sx := hs.get
 have k := sx.rk
 have hn := hn.get
 have gh := gd_head k.g.al
 have ee := ev_ok (gh.2.2.2.2 i sx.hi)
 have el := gh.2.2.2.1
 have k1 := k.pu; have k2 := k.si; have k3 := k.tk; have lt := sx.hi
 have hv := hv.get
 have hx0 : ((l.ev.getD i ev0).k == 0) = true -> False := fun q => by rw [hv] at q; cases q
 have hx1 : ((l.ev.getD i ev0).k == 1) = true -> False := fun q => by rw [hv] at q; cases q
 have hx2 : ((l.ev.getD i ev0).k == 2) = false -> False := fun q => by rw [hv] at q; cases q
 have hg0 : (!goB r.ps (l.ev.getD i ev0).n) = true -> False := fun q => by rw [hg.get] at q; cases q
 have hce := hce.get
 have hc := c141f_ok hX t l r (Side.mk k) (Side.mk sx.ch) n v (Side.mk (by omega)) hce
 have hq0 : ((0 : Int) != 0) = true -> False := fun q => by cases q
 have hq := hq.get
 have rk := sx.c1 hce
 have hp0 : ((rcR t l r false).ps == 0) = false -> False := fun q => by rw [hq] at q; cases q
 have hr0 : (rrE t l (rcR t l r false) != 0) = false -> False := fun q => he.get (bne_eq_false_iff_eq.1 q)
 refine mut_of' hX (fnI Tryz.f93) rfl ?_
 repeat' (first
  | (refine Ax.go ?_; first | (with_reducible apply callAlt (c142 hX _ _)) | (with_reducible (apply altM (ks := [0]) (m := 0); apply And.intro; apply Sc.of; apply (hc))) | ((with_reducible apply callAlt (c143 hX t l (rcR t l r false) (Side.mk rk))); case hl => ((repeat' (first | exact trivial | apply Le.aggs | exact Le.refl _ | exact Le.any _ | refine ⟨?_, ?_⟩)); done)) | apply Alt.one)
  | exact Cl.go
  | ((with_reducible refine (?_ : LeOks _ _ _)); first | exact ⟨.list fun _ _ _ _ => .any _, trivial⟩ | exact ⟨ex_new rfl rfl (fun _ => rfl), trivial⟩ | exact ⟨.list fun _ _ _ _ => .any _, ex_put lx, trivial⟩ | exact trivial | exact ⟨.refl _, trivial⟩ | exact ⟨.refl _, .refl _, trivial⟩)
  | ((fail_if_success refine Stop.go ?_); (first | exact (hx0 ‹_›).elim | exact (hx1 ‹_›).elim | exact (hx2 ‹_›).elim | rw [beqvv v] | exact (hg0 ‹_›).elim | exact (hq0 ‹_›).elim | exact (hp0 ‹_›).elim | exact (hr0 ‹_›).elim | rw [beqvv (v + kB r false)] | (with_reducible first | apply And.intro | apply Cut.go | (refine impI ?_; intro _)) | (refine propI ?_; conv => whnf))))
 all_goals try exact nbZ
 all_goals try ((with_reducible refine (?_ : Sc _ _)); (try simp only [Int.toNat_natCast]); first | exact Sc.of ⟨by omega, by omega⟩ | exact Sc.of (by omega))
 all_goals (exact .mk [] [] _ rfl (.le (.tups ⟨⟨trivial, .agg fun _ _ => .any _⟩, .refl _⟩)) ⟨.le (.dead _), trivial⟩ rfl)
set_option maxHeartbeats 1000000 in
theorem c93_2be (t : Trf) (l : Log) (r : Rm) (i : Nat) (hs : Side (Sx t l r i)) (n v : Nat) (hn : Side (n <= 1000000)) (hv : Side ((l.ev.getD i ev0).k = 2)) (hg : Side (goB r.ps (l.ev.getD i ev0).n = true)) (hce : Side (rcE t l r false = 0)) (hq : Side ((rcR t l r false).ps = 0)) (hr : Side (rrE t l (rcR t l r false) = 0)) (he : Side (rpE t l (rbR t l (rcR t l r false) i (l.ev.getD i ev0).n) ≠ 0)) : Mut (Xc W0 Gt) 93 [trfA t, lgA l, .agg 16 (tbl (rmC r (iRow r.ex) (.own 0 v))), .int .i64 (i : Int)] [cnO n v] (.tup 2 (tbl [.agg 16 (fun _ => .any), .int .i64 (rpE t l (rbR t l (rcR t l r false) i (l.ev.getD i ev0).n))])) [.dead] := by
 have sx := hs.get
 have k := sx.rk
 have hn := hn.get
 have gh := gd_head k.g.al
 have ee := ev_ok (gh.2.2.2.2 i sx.hi)
 have el := gh.2.2.2.1
 have k1 := k.pu; have k2 := k.si; have k3 := k.tk; have lt := sx.hi
 have hv := hv.get
 have hx0 : ((l.ev.getD i ev0).k == 0) = true -> False := fun q => by rw [hv] at q; cases q
 have hx1 : ((l.ev.getD i ev0).k == 1) = true -> False := fun q => by rw [hv] at q; cases q
 have hx2 : ((l.ev.getD i ev0).k == 2) = false -> False := fun q => by rw [hv] at q; cases q
 have hg0 : (!goB r.ps (l.ev.getD i ev0).n) = true -> False := fun q => by rw [hg.get] at q; cases q
 have hce := hce.get
 have hc := c141f_ok hX t l r (Side.mk k) (Side.mk sx.ch) n v (Side.mk (by omega)) hce
 have hq0 : ((0 : Int) != 0) = true -> False := fun q => by cases q
 have hq := hq.get
 have rk := sx.c1 hce
 have hp0 : ((rcR t l r false).ps == 0) = false -> False := fun q => by rw [hq] at q; cases q
 have hr := hr.get
 have he := he.get
 have nb := ee.2.2.2.1 hv
 have rk2 := rk_rb rk hr (i := i) nb
 have rn := rrN_ok k.g hr
 have hr0 : (rrE t l (rcR t l r false) != 0) = true -> False := fun q => bne_iff_ne.1 q hr
 have xk := k.g.ok.extras
 have rl := rules_len k.g.trf
 have h1 : (l.ev.getD i ev0).n ≠ 0 := (by have g := hg.get; have q0 : r.ps = 0 := rc_ps0 hq; unfold goB at g; rw [q0] at g; have := eq_of_beq (show ((l.ev.getD i ev0).n == 1) = true from g); omega)
 have hp1 : Side ((rbR t l (rcR t l r false) i (l.ev.getD i ev0).n).ps ≠ 0) := Side.mk h1
 refine mut_of' hX (fnI Tryz.f93) rfl ?_
 repeat' (first
  | (refine Ax.go ?_; first | (with_reducible apply callAlt (c142 hX _ _)) | (with_reducible (apply altM (ks := [0]) (m := 0); apply And.intro; apply Sc.of; apply (hc))) | ((with_reducible apply callAlt (c143 hX t l (rcR t l r false) (Side.mk rk))); case hl => ((repeat' (first | exact trivial | apply Le.aggs | exact Le.refl _ | exact Le.any _ | refine ⟨?_, ?_⟩)); done)) | ((with_reducible apply callAlt (c144 hX (mX l) (rcR t l r false).tk)); case hl => (first | exact AllLe.refl _ | ((repeat' (first | exact trivial | apply Le.aggs | apply Le.tups | apply Le.fns | exact Le.refl _ | refine ⟨?_, ?_⟩)); done))) | (with_reducible (apply altM (ks := [7]) (m := 0); apply And.intro; apply Sc.of; apply (c145be hX t l (rbR t l (rcR t l r false) i (l.ev.getD i ev0).n) (Side.mk rk2) 1 hp1 (Side.mk he)))) | apply Alt.one)
  | exact Cl.go
  | ((with_reducible refine (?_ : LeOks _ _ _)); first | exact ⟨.list fun _ _ _ _ => .any _, trivial⟩ | exact ⟨ex_new rfl rfl (fun _ => rfl), trivial⟩ | exact ⟨.list fun _ _ _ _ => .any _, ex_put lx, trivial⟩ | exact trivial | exact ⟨.refl _, trivial⟩ | exact ⟨.refl _, .refl _, trivial⟩)
  | ((fail_if_success refine Stop.go ?_); (first | exact (hx0 ‹_›).elim | exact (hx1 ‹_›).elim | exact (hx2 ‹_›).elim | rw [beqvv v] | exact (hg0 ‹_›).elim | exact (hq0 ‹_›).elim | exact (hp0 ‹_›).elim | exact (hr0 ‹_›).elim | rw [beqvv (v + kB r false)] | (with_reducible first | apply And.intro | apply Cut.go | (refine impI ?_; intro _)) | (refine propI ?_; conv => whnf))))
 all_goals try exact nbZ
 all_goals try ((with_reducible refine (?_ : Sc _ _)); (try simp only [Int.toNat_natCast]); first | exact Sc.of ⟨by omega, by omega⟩ | exact Sc.of (by omega))
 all_goals try (refine Sc.of ⟨?_, ?_, ?_, ?_⟩ <;> first | rfl | omega | (show t.extras.length * 8 <= _; omega))
 all_goals (exact .mk [] [] _ rfl (.le (.tups ⟨⟨trivial, .agg fun _ _ => .any _⟩, .refl _⟩)) ⟨.le (.dead _), trivial⟩ rfl)
set_option maxHeartbeats 1000000 in
theorem c93_2b0 (t : Trf) (l : Log) (r : Rm) (i : Nat) (hs : Side (Sx t l r i)) (n v : Nat) (hn : Side (n <= 1000000)) (hv : Side ((l.ev.getD i ev0).k = 2)) (hg : Side (goB r.ps (l.ev.getD i ev0).n = true)) (hce : Side (rcE t l r false = 0)) (hq : Side ((rcR t l r false).ps = 0)) (hr : Side (rrE t l (rcR t l r false) = 0)) (he : Side (rpE t l (rbR t l (rcR t l r false) i (l.ev.getD i ev0).n) = 0)) : Mut (Xc W0 Gt) 93 [trfA t, lgA l, .agg 16 (tbl (rmC r (iRow r.ex) (.own 0 v))), .int .i64 (i : Int)] [cnO n v] (.tup 2 (tbl [.agg 16 (tbl (rmC (rpR t l (rbR t l (rcR t l r false) i (l.ev.getD i ev0).n)) (iRow (rpR t l (rbR t l (rcR t l r false) i (l.ev.getD i ev0).n)).ex) (.slc0))), .int .i64 0])) [cnO (n + kB r false) (v + kB r false)] := by
 have sx := hs.get
 have k := sx.rk
 have hn := hn.get
 have gh := gd_head k.g.al
 have ee := ev_ok (gh.2.2.2.2 i sx.hi)
 have el := gh.2.2.2.1
 have k1 := k.pu; have k2 := k.si; have k3 := k.tk; have lt := sx.hi
 have hv := hv.get
 have hx0 : ((l.ev.getD i ev0).k == 0) = true -> False := fun q => by rw [hv] at q; cases q
 have hx1 : ((l.ev.getD i ev0).k == 1) = true -> False := fun q => by rw [hv] at q; cases q
 have hx2 : ((l.ev.getD i ev0).k == 2) = false -> False := fun q => by rw [hv] at q; cases q
 have hg0 : (!goB r.ps (l.ev.getD i ev0).n) = true -> False := fun q => by rw [hg.get] at q; cases q
 have hce := hce.get
 have hc := c141f_ok hX t l r (Side.mk k) (Side.mk sx.ch) n v (Side.mk (by omega)) hce
 have hq0 : ((0 : Int) != 0) = true -> False := fun q => by cases q
 have hq := hq.get
 have rk := sx.c1 hce
 have hp0 : ((rcR t l r false).ps == 0) = false -> False := fun q => by rw [hq] at q; cases q
 have hr := hr.get
 have he := he.get
 have nb := ee.2.2.2.1 hv
 have rk2 := rk_rb rk hr (i := i) nb
 have rn := rrN_ok k.g hr
 have hr0 : (rrE t l (rcR t l r false) != 0) = true -> False := fun q => bne_iff_ne.1 q hr
 have xk := k.g.ok.extras
 have rl := rules_len k.g.trf
 have h1 : (l.ev.getD i ev0).n ≠ 0 := (by have g := hg.get; have q0 : r.ps = 0 := rc_ps0 hq; unfold goB at g; rw [q0] at g; have := eq_of_beq (show ((l.ev.getD i ev0).n == 1) = true from g); omega)
 have hp1 : Side ((rbR t l (rcR t l r false) i (l.ev.getD i ev0).n).ps ≠ 0) := Side.mk h1
 refine mut_of' hX (fnI Tryz.f93) rfl ?_
 repeat' (first
  | (refine Ax.go ?_; first | (with_reducible apply callAlt (c142 hX _ _)) | (with_reducible (apply altM (ks := [0]) (m := 0); apply And.intro; apply Sc.of; apply (hc))) | ((with_reducible apply callAlt (c143 hX t l (rcR t l r false) (Side.mk rk))); case hl => ((repeat' (first | exact trivial | apply Le.aggs | exact Le.refl _ | exact Le.any _ | refine ⟨?_, ?_⟩)); done)) | ((with_reducible apply callAlt (c144 hX (mX l) (rcR t l r false).tk)); case hl => (first | exact AllLe.refl _ | ((repeat' (first | exact trivial | apply Le.aggs | apply Le.tups | apply Le.fns | exact Le.refl _ | refine ⟨?_, ?_⟩)); done))) | (with_reducible (apply altM (ks := [7]) (m := 0); apply And.intro; apply Sc.of; apply (c145bk hX t l (rbR t l (rcR t l r false) i (l.ev.getD i ev0).n) (Side.mk rk2) 1 hp1 (Side.mk he)))) | apply Alt.one)
  | exact Cl.go
  | ((with_reducible refine (?_ : LeOks _ _ _)); first | exact ⟨.list fun _ _ _ _ => .any _, trivial⟩ | exact ⟨ex_new rfl rfl (fun _ => rfl), trivial⟩ | exact ⟨.list fun _ _ _ _ => .any _, ex_put lx, trivial⟩ | exact trivial | exact ⟨.refl _, trivial⟩ | exact ⟨.refl _, .refl _, trivial⟩)
  | ((fail_if_success refine Stop.go ?_); (first | exact (hx0 ‹_›).elim | exact (hx1 ‹_›).elim | exact (hx2 ‹_›).elim | rw [beqvv v] | exact (hg0 ‹_›).elim | exact (hq0 ‹_›).elim | exact (hp0 ‹_›).elim | exact (hr0 ‹_›).elim | rw [beqvv (v + kB r false)] | (with_reducible first | apply And.intro | apply Cut.go | (refine impI ?_; intro _)) | (refine propI ?_; conv => whnf))))
 all_goals try exact nbZ
 all_goals try ((with_reducible refine (?_ : Sc _ _)); (try simp only [Int.toNat_natCast]); first | exact Sc.of ⟨by omega, by omega⟩ | exact Sc.of (by omega))
 all_goals try (refine Sc.of ⟨?_, ?_, ?_, ?_⟩ <;> first | rfl | omega | (show t.extras.length * 8 <= _; omega))
 all_goals (rw [rpR_1 (t := t) (l := l) (r := (rbR t l (rcR t l r false) i (l.ev.getD i ev0).n)) h1]; exact .mk [] [7] _ rfl (.tups ⟨⟨trivial, .aggs ⟨⟨⟨⟨⟨⟨⟨⟨⟨⟨⟨⟨⟨⟨⟨⟨trivial, .le (.refl _)⟩, .le (.refl _)⟩, .le (.refl _)⟩, .le (.refl _)⟩, .le (.refl _)⟩, .le (.refl _)⟩, .ownN rfl rfl (fun _ _ _ _ => .refl _)⟩, .le (.refl _)⟩, .le (.refl _)⟩, .le (.refl _)⟩, .le (.refl _)⟩, .le (.refl _)⟩, .le (.refl _)⟩, .le (.refl _)⟩, .le (.refl _)⟩, .le (.refl _)⟩⟩, .le (.refl _)⟩) ⟨.le (.refl _), trivial⟩ rfl)
set_option maxHeartbeats 1000000 in
theorem c93_2ke (t : Trf) (l : Log) (r : Rm) (i : Nat) (hs : Side (Sx t l r i)) (n v : Nat) (hn : Side (n <= 1000000)) (hv : Side ((l.ev.getD i ev0).k = 2)) (hg : Side (goB r.ps (l.ev.getD i ev0).n = true)) (hce : Side (rcE t l r false = 0)) (hq : Side ((rcR t l r false).ps ≠ 0)) (he : Side (rpE t l { (rcR t l r false) with ps := (l.ev.getD i ev0).n } ≠ 0)) : Mut (Xc W0 Gt) 93 [trfA t, lgA l, .agg 16 (tbl (rmC r (iRow r.ex) (.own 0 v))), .int .i64 (i : Int)] [cnO n v] (.tup 2 (tbl [.agg 16 (fun _ => .any), .int .i64 (rpE t l { (rcR t l r false) with ps := (l.ev.getD i ev0).n })])) [.dead] := by
 have sx := hs.get
 have k := sx.rk
 have hn := hn.get
 have gh := gd_head k.g.al
 have ee := ev_ok (gh.2.2.2.2 i sx.hi)
 have el := gh.2.2.2.1
 have k1 := k.pu; have k2 := k.si; have k3 := k.tk; have lt := sx.hi
 have hv := hv.get
 have hx0 : ((l.ev.getD i ev0).k == 0) = true -> False := fun q => by rw [hv] at q; cases q
 have hx1 : ((l.ev.getD i ev0).k == 1) = true -> False := fun q => by rw [hv] at q; cases q
 have hx2 : ((l.ev.getD i ev0).k == 2) = false -> False := fun q => by rw [hv] at q; cases q
 have hg0 : (!goB r.ps (l.ev.getD i ev0).n) = true -> False := fun q => by rw [hg.get] at q; cases q
 have hce := hce.get
 have hc := c141f_ok hX t l r (Side.mk k) (Side.mk sx.ch) n v (Side.mk (by omega)) hce
 have hq0 : ((0 : Int) != 0) = true -> False := fun q => by cases q
 have hq := hq.get
 have rk := sx.c1 hce
 have hp0 : ((rcR t l r false).ps == 0) = true -> False := fun q => hq (eq_of_beq q)
 have nb := ee.2.2.2.1 hv
 have rk2 := rk_ps rk hq nb
 have h1 : (l.ev.getD i ev0).n ≠ 0 := fun q => he.get (rpR_0 (t := t) (l := l) (r := { (rcR t l r false) with ps := (l.ev.getD i ev0).n }) q).2
 refine mut_of' hX (fnI Tryz.f93) rfl ?_
 repeat' (first
  | (refine Ax.go ?_; with_reducible first | apply callAlt (c142 hX _ _) | (apply altM (ks := [0]) (m := 0); apply And.intro; apply Sc.of; apply (hc)) | (apply altM (ks := [0]) (m := 0); apply And.intro; apply Sc.of; apply (c145pe hX t l { (rcR t l r false) with ps := (l.ev.getD i ev0).n } (Side.mk rk2) (n + kB r false) (v + kB r false) (Side.mk h1) he)) | apply Alt.one)
  | exact Cl.go
  | ((with_reducible refine (?_ : LeOks _ _ _)); first | exact ⟨.list fun _ _ _ _ => .any _, trivial⟩ | exact ⟨ex_new rfl rfl (fun _ => rfl), trivial⟩ | exact ⟨.list fun _ _ _ _ => .any _, ex_put lx, trivial⟩ | exact trivial | exact ⟨.refl _, trivial⟩ | exact ⟨.refl _, .refl _, trivial⟩)
  | ((fail_if_success refine Stop.go ?_); (first | exact (hx0 ‹_›).elim | exact (hx1 ‹_›).elim | exact (hx2 ‹_›).elim | rw [beqvv v] | exact (hg0 ‹_›).elim | exact (hq0 ‹_›).elim | exact (hp0 ‹_›).elim | rw [beqvv (v + kB r false)] | (with_reducible first | apply And.intro | apply Cut.go | (refine impI ?_; intro _)) | (refine propI ?_; conv => whnf))))
 all_goals try exact nbZ
 all_goals try ((with_reducible refine (?_ : Sc _ _)); (try simp only [Int.toNat_natCast]); first | exact Sc.of ⟨by omega, by omega⟩ | exact Sc.of (by omega))
 all_goals (exact .mk [] [] _ rfl (.le (.tups ⟨⟨trivial, .agg fun _ _ => .any _⟩, .refl _⟩)) ⟨.le (.dead _), trivial⟩ rfl)
set_option maxHeartbeats 1000000 in
theorem c93_2k (t : Trf) (l : Log) (r : Rm) (i : Nat) (hs : Side (Sx t l r i)) (n v : Nat) (hn : Side (n <= 1000000)) (hv : Side ((l.ev.getD i ev0).k = 2)) (hg : Side (goB r.ps (l.ev.getD i ev0).n = true)) (hce : Side (rcE t l r false = 0)) (hq : Side ((rcR t l r false).ps ≠ 0)) (h1 : Side ((l.ev.getD i ev0).n ≠ 0)) (he : Side (rpE t l { (rcR t l r false) with ps := (l.ev.getD i ev0).n } = 0)) : Mut (Xc W0 Gt) 93 [trfA t, lgA l, .agg 16 (tbl (rmC r (iRow r.ex) (.own 0 v))), .int .i64 (i : Int)] [cnO n v] (.tup 2 (tbl [.agg 16 (tbl (rmC (rpR t l { (rcR t l r false) with ps := (l.ev.getD i ev0).n }) (iRow (rpR t l { (rcR t l r false) with ps := (l.ev.getD i ev0).n }).ex) (.own 0 (v + kB r false)))), .int .i64 0])) [cnO (n + kB r false) (v + kB r false)] := by
 have sx := hs.get
 have k := sx.rk
 have hn := hn.get
 have gh := gd_head k.g.al
 have ee := ev_ok (gh.2.2.2.2 i sx.hi)
 have el := gh.2.2.2.1
 have k1 := k.pu; have k2 := k.si; have k3 := k.tk; have lt := sx.hi
 have hv := hv.get
 have hx0 : ((l.ev.getD i ev0).k == 0) = true -> False := fun q => by rw [hv] at q; cases q
 have hx1 : ((l.ev.getD i ev0).k == 1) = true -> False := fun q => by rw [hv] at q; cases q
 have hx2 : ((l.ev.getD i ev0).k == 2) = false -> False := fun q => by rw [hv] at q; cases q
 have hg0 : (!goB r.ps (l.ev.getD i ev0).n) = true -> False := fun q => by rw [hg.get] at q; cases q
 have hce := hce.get
 have hc := c141f_ok hX t l r (Side.mk k) (Side.mk sx.ch) n v (Side.mk (by omega)) hce
 have hq0 : ((0 : Int) != 0) = true -> False := fun q => by cases q
 have hq := hq.get
 have rk := sx.c1 hce
 have hp0 : ((rcR t l r false).ps == 0) = true -> False := fun q => hq (eq_of_beq q)
 have nb := ee.2.2.2.1 hv
 have rk2 := rk_ps rk hq nb
 refine mut_of' hX (fnI Tryz.f93) rfl ?_
 repeat' (first
  | (refine Ax.go ?_; with_reducible first | apply callAlt (c142 hX _ _) | (apply altM (ks := [0]) (m := 0); apply And.intro; apply Sc.of; apply (hc)) | (apply altM (ks := [0]) (m := 0); apply And.intro; apply Sc.of; apply (c145pk hX t l { (rcR t l r false) with ps := (l.ev.getD i ev0).n } (Side.mk rk2) (n + kB r false) (v + kB r false) h1 he)) | apply Alt.one)
  | exact Cl.go
  | ((with_reducible refine (?_ : LeOks _ _ _)); first | exact ⟨.list fun _ _ _ _ => .any _, trivial⟩ | exact ⟨ex_new rfl rfl (fun _ => rfl), trivial⟩ | exact ⟨.list fun _ _ _ _ => .any _, ex_put lx, trivial⟩ | exact trivial | exact ⟨.refl _, trivial⟩ | exact ⟨.refl _, .refl _, trivial⟩)
  | ((fail_if_success refine Stop.go ?_); (first | exact (hx0 ‹_›).elim | exact (hx1 ‹_›).elim | exact (hx2 ‹_›).elim | rw [beqvv v] | exact (hg0 ‹_›).elim | exact (hq0 ‹_›).elim | exact (hp0 ‹_›).elim | rw [beqvv (v + kB r false)] | (with_reducible first | apply And.intro | apply Cut.go | (refine impI ?_; intro _)) | (refine propI ?_; conv => whnf))))
 all_goals try exact nbZ
 all_goals try ((with_reducible refine (?_ : Sc _ _)); (try simp only [Int.toNat_natCast]); first | exact Sc.of ⟨by omega, by omega⟩ | exact Sc.of (by omega))
 all_goals (rw [rpR_1 (t := t) (l := l) (r := { (rcR t l r false) with ps := (l.ev.getD i ev0).n }) h1.get]; exact .mk [] [] _ rfl (.le (.tups ⟨⟨trivial, ag16⟩, .refl _⟩)) ⟨.le (.refl _), trivial⟩ rfl)
set_option maxHeartbeats 1000000 in
theorem c93_2z (t : Trf) (l : Log) (r : Rm) (i : Nat) (hs : Side (Sx t l r i)) (n v : Nat) (hn : Side (n <= 1000000)) (hv : Side ((l.ev.getD i ev0).k = 2)) (hg : Side (goB r.ps (l.ev.getD i ev0).n = true)) (hce : Side (rcE t l r false = 0)) (hq : Side ((rcR t l r false).ps ≠ 0)) (h1 : Side ((l.ev.getD i ev0).n = 0)) : Mut (Xc W0 Gt) 93 [trfA t, lgA l, .agg 16 (tbl (rmC r (iRow r.ex) (.own 0 v))), .int .i64 (i : Int)] [cnO n v] (.tup 2 (tbl [.agg 16 (tbl (rmC (rpR t l { (rcR t l r false) with ps := (l.ev.getD i ev0).n }) (iRow (rpR t l { (rcR t l r false) with ps := (l.ev.getD i ev0).n }).ex) (.own 0 (v + kB r false)))), .int .i64 0])) [cnO (n + kB r false) (v + kB r false)] := by
 have sx := hs.get
 have k := sx.rk
 have hn := hn.get
 have gh := gd_head k.g.al
 have ee := ev_ok (gh.2.2.2.2 i sx.hi)
 have el := gh.2.2.2.1
 have k1 := k.pu; have k2 := k.si; have k3 := k.tk; have lt := sx.hi
 have hv := hv.get
 have hx0 : ((l.ev.getD i ev0).k == 0) = true -> False := fun q => by rw [hv] at q; cases q
 have hx1 : ((l.ev.getD i ev0).k == 1) = true -> False := fun q => by rw [hv] at q; cases q
 have hx2 : ((l.ev.getD i ev0).k == 2) = false -> False := fun q => by rw [hv] at q; cases q
 have hg0 : (!goB r.ps (l.ev.getD i ev0).n) = true -> False := fun q => by rw [hg.get] at q; cases q
 have hce := hce.get
 have hc := c141f_ok hX t l r (Side.mk k) (Side.mk sx.ch) n v (Side.mk (by omega)) hce
 have hq0 : ((0 : Int) != 0) = true -> False := fun q => by cases q
 have hq := hq.get
 have rk := sx.c1 hce
 have hp0 : ((rcR t l r false).ps == 0) = true -> False := fun q => hq (eq_of_beq q)
 have nb := ee.2.2.2.1 hv
 have rk2 := rk_ps rk hq nb
 refine mut_of' hX (fnI Tryz.f93) rfl ?_
 repeat' (first
  | (refine Ax.go ?_; with_reducible first | apply callAlt (c142 hX _ _) | (apply altM (ks := [0]) (m := 0); apply And.intro; apply Sc.of; apply (hc)) | (apply altM (ks := [0]) (m := 0); apply And.intro; apply Sc.of; apply (c145pz hX t l { (rcR t l r false) with ps := (l.ev.getD i ev0).n } (Side.mk rk2) (n + kB r false) (v + kB r false) h1)) | apply Alt.one)
  | exact Cl.go
  | ((with_reducible refine (?_ : LeOks _ _ _)); first | exact ⟨.list fun _ _ _ _ => .any _, trivial⟩ | exact ⟨ex_new rfl rfl (fun _ => rfl), trivial⟩ | exact ⟨.list fun _ _ _ _ => .any _, ex_put lx, trivial⟩ | exact trivial | exact ⟨.refl _, trivial⟩ | exact ⟨.refl _, .refl _, trivial⟩)
  | ((fail_if_success refine Stop.go ?_); (first | exact (hx0 ‹_›).elim | exact (hx1 ‹_›).elim | exact (hx2 ‹_›).elim | rw [beqvv v] | exact (hg0 ‹_›).elim | exact (hq0 ‹_›).elim | exact (hp0 ‹_›).elim | rw [beqvv (v + kB r false)] | (with_reducible first | apply And.intro | apply Cut.go | (refine impI ?_; intro _)) | (refine propI ?_; conv => whnf))))
 all_goals try exact nbZ
 all_goals try ((with_reducible refine (?_ : Sc _ _)); (try simp only [Int.toNat_natCast]); first | exact Sc.of ⟨by omega, by omega⟩ | exact Sc.of (by omega))
 all_goals (rw [(rpR_0 (t := t) (l := l) (r := { (rcR t l r false) with ps := (l.ev.getD i ev0).n }) h1.get).1]; exact .mk [] [] _ rfl (.le (.tups ⟨⟨trivial, (ag16 (h6 := .slc0 _ _))⟩, .refl _⟩)) ⟨.le (.refl _), trivial⟩ rfl)
set_option maxHeartbeats 1000000 in
theorem c93_4a (t : Trf) (l : Log) (r : Rm) (i : Nat) (hs : Side (Sx t l r i)) (n v : Nat) (hn : Side (n <= 1000000)) (hv : Side ((l.ev.getD i ev0).k = 4)) (ha : Side ((t.extras.length : Int) <= (l.ev.getD i ev0).n)) : Mut (Xc W0 Gt) 93 [trfA t, lgA l, .agg 16 (tbl (rmC r (iRow r.ex) (.own 0 v))), .int .i64 (i : Int)] [cnO n v] (.tup 2 (tbl [.agg 16 (fun _ => .any), .int .i64 (6)])) [.dead] := by
 have sx := hs.get
 have k := sx.rk
 have hn := hn.get
 have gh := gd_head k.g.al
 have ee := ev_ok (gh.2.2.2.2 i sx.hi)
 have el := gh.2.2.2.1
 have k1 := k.pu; have k2 := k.si; have k3 := k.tk; have lt := sx.hi
 have hv := hv.get
 have hx0 : ((l.ev.getD i ev0).k == 0) = true -> False := fun q => by rw [hv] at q; cases q
 have hx1 : ((l.ev.getD i ev0).k == 1) = true -> False := fun q => by rw [hv] at q; cases q
 have hx2 : ((l.ev.getD i ev0).k == 2) = true -> False := fun q => by rw [hv] at q; cases q
 have hx3 : ((l.ev.getD i ev0).k == 3) = true -> False := fun q => by rw [hv] at q; cases q
 have hx4 : ((l.ev.getD i ev0).k == 4) = false -> False := fun q => by rw [hv] at q; cases q
 have ha0 : decide ((t.extras.length : Int) <= (l.ev.getD i ev0).n) = false -> False := fun q => by have q := of_decide_eq_false q; have := ha.get; omega
 refine mut_of' hX (fnI Tryz.f93) rfl ?_
 repeat' (first
  | (refine Ax.go ?_; apply Alt.one)
  | exact Cl.go
  | ((with_reducible refine (?_ : LeOks _ _ _)); first | exact ⟨.list fun _ _ _ _ => .any _, trivial⟩ | exact ⟨ex_new rfl rfl (fun _ => rfl), trivial⟩ | exact ⟨.list fun _ _ _ _ => .any _, ex_put lx, trivial⟩ | exact trivial | exact ⟨.refl _, trivial⟩ | exact ⟨.refl _, .refl _, trivial⟩)
  | ((fail_if_success refine Stop.go ?_); (first | exact (hx0 ‹_›).elim | exact (hx1 ‹_›).elim | exact (hx2 ‹_›).elim | exact (hx3 ‹_›).elim | exact (hx4 ‹_›).elim | rw [beqvv v] | exact (ha0 ‹_›).elim | rw [beqvv (v + kB r false)] | (with_reducible first | apply And.intro | apply Cut.go | (refine impI ?_; intro _)) | (refine propI ?_; conv => whnf))))
 all_goals try exact nbZ
 all_goals try ((with_reducible refine (?_ : Sc _ _)); (try simp only [Int.toNat_natCast]); first | exact Sc.of ⟨by omega, by omega⟩ | exact Sc.of (by omega))
 all_goals (exact .mk [] [] _ rfl (.le (.tups ⟨⟨trivial, .agg fun _ _ => .any _⟩, .refl _⟩)) ⟨.le (.dead _), trivial⟩ rfl)
set_option maxHeartbeats 1000000 in
theorem c93_4b (t : Trf) (l : Log) (r : Rm) (i : Nat) (hs : Side (Sx t l r i)) (n v : Nat) (hn : Side (n <= 1000000)) (hv : Side ((l.ev.getD i ev0).k = 4)) (ha : Side (¬ (t.extras.length : Int) <= (l.ev.getD i ev0).n)) (hp : Side (r.ps = 0)) : Mut (Xc W0 Gt) 93 [trfA t, lgA l, .agg 16 (tbl (rmC r (iRow r.ex) (.own 0 v))), .int .i64 (i : Int)] [cnO n v] (.tup 2 (tbl [.agg 16 (fun _ => .any), .int .i64 (22)])) [.dead] := by
 have sx := hs.get
 have k := sx.rk
 have hn := hn.get
 have gh := gd_head k.g.al
 have ee := ev_ok (gh.2.2.2.2 i sx.hi)
 have el := gh.2.2.2.1
 have k1 := k.pu; have k2 := k.si; have k3 := k.tk; have lt := sx.hi
 have hv := hv.get
 have hx0 : ((l.ev.getD i ev0).k == 0) = true -> False := fun q => by rw [hv] at q; cases q
 have hx1 : ((l.ev.getD i ev0).k == 1) = true -> False := fun q => by rw [hv] at q; cases q
 have hx2 : ((l.ev.getD i ev0).k == 2) = true -> False := fun q => by rw [hv] at q; cases q
 have hx3 : ((l.ev.getD i ev0).k == 3) = true -> False := fun q => by rw [hv] at q; cases q
 have hx4 : ((l.ev.getD i ev0).k == 4) = false -> False := fun q => by rw [hv] at q; cases q
 have ha0 : decide ((t.extras.length : Int) <= (l.ev.getD i ev0).n) = true -> False := fun q => by have q := of_decide_eq_true q; have := ha.get; omega
 have hp0 : (r.ps == 0) = false -> False := fun q => by rw [hp.get] at q; cases q
 refine mut_of' hX (fnI Tryz.f93) rfl ?_
 repeat' (first
  | (refine Ax.go ?_; apply Alt.one)
  | exact Cl.go
  | ((with_reducible refine (?_ : LeOks _ _ _)); first | exact ⟨.list fun _ _ _ _ => .any _, trivial⟩ | exact ⟨ex_new rfl rfl (fun _ => rfl), trivial⟩ | exact ⟨.list fun _ _ _ _ => .any _, ex_put lx, trivial⟩ | exact trivial | exact ⟨.refl _, trivial⟩ | exact ⟨.refl _, .refl _, trivial⟩)
  | ((fail_if_success refine Stop.go ?_); (first | exact (hx0 ‹_›).elim | exact (hx1 ‹_›).elim | exact (hx2 ‹_›).elim | exact (hx3 ‹_›).elim | exact (hx4 ‹_›).elim | rw [beqvv v] | exact (ha0 ‹_›).elim | exact (hp0 ‹_›).elim | rw [beqvv (v + kB r false)] | (with_reducible first | apply And.intro | apply Cut.go | (refine impI ?_; intro _)) | (refine propI ?_; conv => whnf))))
 all_goals try exact nbZ
 all_goals try ((with_reducible refine (?_ : Sc _ _)); (try simp only [Int.toNat_natCast]); first | exact Sc.of ⟨by omega, by omega⟩ | exact Sc.of (by omega))
 all_goals (exact .mk [] [] _ rfl (.le (.tups ⟨⟨trivial, .agg fun _ _ => .any _⟩, .refl _⟩)) ⟨.le (.dead _), trivial⟩ rfl)
set_option maxHeartbeats 1000000 in
theorem c93_4c (t : Trf) (l : Log) (r : Rm) (i : Nat) (hs : Side (Sx t l r i)) (n v : Nat) (hn : Side (n <= 1000000)) (hv : Side ((l.ev.getD i ev0).k = 4)) (ha : Side (¬ (t.extras.length : Int) <= (l.ev.getD i ev0).n)) (hp : Side (r.ps ≠ 0)) (hb : Side (20 <= (r.ex.getD (l.ev.getD i ev0).n.toNat 0))) : Mut (Xc W0 Gt) 93 [trfA t, lgA l, .agg 16 (tbl (rmC r (iRow r.ex) (.own 0 v))), .int .i64 (i : Int)] [cnO n v] (.tup 2 (tbl [.agg 16 (fun _ => .any), .int .i64 (16)])) [.dead] := by
 have sx := hs.get
 have k := sx.rk
 have hn := hn.get
 have gh := gd_head k.g.al
 have ee := ev_ok (gh.2.2.2.2 i sx.hi)
 have el := gh.2.2.2.1
 have k1 := k.pu; have k2 := k.si; have k3 := k.tk; have lt := sx.hi
 have hv := hv.get
 have hx0 : ((l.ev.getD i ev0).k == 0) = true -> False := fun q => by rw [hv] at q; cases q
 have hx1 : ((l.ev.getD i ev0).k == 1) = true -> False := fun q => by rw [hv] at q; cases q
 have hx2 : ((l.ev.getD i ev0).k == 2) = true -> False := fun q => by rw [hv] at q; cases q
 have hx3 : ((l.ev.getD i ev0).k == 3) = true -> False := fun q => by rw [hv] at q; cases q
 have hx4 : ((l.ev.getD i ev0).k == 4) = false -> False := fun q => by rw [hv] at q; cases q
 have ha0 : decide ((t.extras.length : Int) <= (l.ev.getD i ev0).n) = true -> False := fun q => by have q := of_decide_eq_true q; have := ha.get; omega
 have hp0 : (r.ps == 0) = true -> False := fun q => hp.get (eq_of_beq q)
 have xl := k.exl hp.get
 have ha1 := ha.get
 have nb := ee.2.2.2.2.1
 have lx : (l.ev.getD i ev0).n.toNat < r.ex.length := by omega
 have xk := k.g.ok.extras
 have xb := k.ex (l.ev.getD i ev0).n.toNat
 have hb0 : decide (20 <= (r.ex.getD (l.ev.getD i ev0).n.toNat 0)) = false -> False := fun q => by have q := of_decide_eq_false q; exact q hb.get
 refine mut_of' hX (fnI Tryz.f93) rfl ?_
 repeat' (first
  | (refine Ax.go ?_; apply Alt.one)
  | exact Cl.go
  | ((with_reducible refine (?_ : LeOks _ _ _)); first | exact ⟨.list fun _ _ _ _ => .any _, trivial⟩ | exact ⟨ex_new rfl rfl (fun _ => rfl), trivial⟩ | exact ⟨.list fun _ _ _ _ => .any _, ex_put lx, trivial⟩ | exact trivial | exact ⟨.refl _, trivial⟩ | exact ⟨.refl _, .refl _, trivial⟩)
  | ((fail_if_success refine Stop.go ?_); (first | exact (hx0 ‹_›).elim | exact (hx1 ‹_›).elim | exact (hx2 ‹_›).elim | exact (hx3 ‹_›).elim | exact (hx4 ‹_›).elim | rw [beqvv v] | exact (ha0 ‹_›).elim | exact (hp0 ‹_›).elim | exact (hb0 ‹_›).elim | rw [beqvv (v + kB r false)] | (with_reducible first | apply And.intro | apply Cut.go | (refine impI ?_; intro _)) | (refine propI ?_; conv => whnf))))
 all_goals try exact nbZ
 all_goals try ((with_reducible refine (?_ : Sc _ _)); (try simp only [Int.toNat_natCast]); first | exact Sc.of ⟨by omega, by omega⟩ | exact Sc.of (by omega))
 all_goals (exact .mk [] [] _ rfl (.le (.tups ⟨⟨trivial, .agg fun _ _ => .any _⟩, .refl _⟩)) ⟨.le (.dead _), trivial⟩ rfl)
set_option maxHeartbeats 1000000 in
theorem c93_4e (t : Trf) (l : Log) (r : Rm) (i : Nat) (hs : Side (Sx t l r i)) (n v : Nat) (hn : Side (n <= 1000000)) (hv : Side ((l.ev.getD i ev0).k = 4)) (ha : Side (¬ (t.extras.length : Int) <= (l.ev.getD i ev0).n)) (hp : Side (r.ps ≠ 0)) (hb : Side (¬ 20 <= (r.ex.getD (l.ev.getD i ev0).n.toNat 0))) (he : Side (rpE t l { r with ex := r.ex.set (l.ev.getD i ev0).n.toNat ((r.ex.getD (l.ev.getD i ev0).n.toNat 0) + 1) } ≠ 0)) : Mut (Xc W0 Gt) 93 [trfA t, lgA l, .agg 16 (tbl (rmC r (iRow r.ex) (.own 0 v))), .int .i64 (i : Int)] [cnO n v] (.tup 2 (tbl [.agg 16 (fun _ => .any), .int .i64 (rpE t l { r with ex := r.ex.set (l.ev.getD i ev0).n.toNat ((r.ex.getD (l.ev.getD i ev0).n.toNat 0) + 1) })])) [.dead] := by
 have sx := hs.get
 have k := sx.rk
 have hn := hn.get
 have gh := gd_head k.g.al
 have ee := ev_ok (gh.2.2.2.2 i sx.hi)
 have el := gh.2.2.2.1
 have k1 := k.pu; have k2 := k.si; have k3 := k.tk; have lt := sx.hi
 have hv := hv.get
 have hx0 : ((l.ev.getD i ev0).k == 0) = true -> False := fun q => by rw [hv] at q; cases q
 have hx1 : ((l.ev.getD i ev0).k == 1) = true -> False := fun q => by rw [hv] at q; cases q
 have hx2 : ((l.ev.getD i ev0).k == 2) = true -> False := fun q => by rw [hv] at q; cases q
 have hx3 : ((l.ev.getD i ev0).k == 3) = true -> False := fun q => by rw [hv] at q; cases q
 have hx4 : ((l.ev.getD i ev0).k == 4) = false -> False := fun q => by rw [hv] at q; cases q
 have ha0 : decide ((t.extras.length : Int) <= (l.ev.getD i ev0).n) = true -> False := fun q => by have q := of_decide_eq_true q; have := ha.get; omega
 have hp0 : (r.ps == 0) = true -> False := fun q => hp.get (eq_of_beq q)
 have xl := k.exl hp.get
 have ha1 := ha.get
 have nb := ee.2.2.2.2.1
 have lx : (l.ev.getD i ev0).n.toNat < r.ex.length := by omega
 have xk := k.g.ok.extras
 have xb := k.ex (l.ev.getD i ev0).n.toNat
 have hb0 : decide (20 <= (r.ex.getD (l.ev.getD i ev0).n.toNat 0)) = true -> False := fun q => by have q := of_decide_eq_true q; exact hb.get q
 have rk2 := rk_ex k hb.get
 refine mut_of' hX (fnI Tryz.f93) rfl ?_
 repeat' (first
  | (refine Ax.go ?_; with_reducible first | (apply altM (ks := []) (m := 1); apply And.intro; apply Sc.of; apply (c55o hX r.ex (Side.mk (by omega)))) | (apply altM (ks := [0, 6]) (m := 0); apply And.intro; apply Sc.of; apply (c145xe hX t l { r with ex := r.ex.set (l.ev.getD i ev0).n.toNat ((r.ex.getD (l.ev.getD i ev0).n.toNat 0) + 1) } (Side.mk rk2) n v 1 hp he)) | apply Alt.one)
  | exact Cl.go
  | ((with_reducible refine (?_ : LeOks _ _ _)); first | exact ⟨.list fun _ _ _ _ => .any _, trivial⟩ | exact ⟨ex_new rfl rfl (fun _ => rfl), trivial⟩ | exact ⟨.list fun _ _ _ _ => .any _, ex_put lx, trivial⟩ | exact trivial | exact ⟨.refl _, trivial⟩ | exact ⟨.refl _, .refl _, trivial⟩)
  | ((fail_if_success refine Stop.go ?_); (first | exact (hx0 ‹_›).elim | exact (hx1 ‹_›).elim | exact (hx2 ‹_›).elim | exact (hx3 ‹_›).elim | exact (hx4 ‹_›).elim | rw [beqvv v] | exact (ha0 ‹_›).elim | exact (hp0 ‹_›).elim | exact (hb0 ‹_›).elim | rw [beqvv (v + kB r false)] | (with_reducible first | apply And.intro | apply Cut.go | (refine impI ?_; intro _)) | (refine propI ?_; conv => whnf))))
 all_goals try exact nbZ
 all_goals try ((with_reducible refine (?_ : Sc _ _)); (try simp only [Int.toNat_natCast]); first | exact Sc.of ⟨by omega, by omega⟩ | exact Sc.of (by omega))
 all_goals (exact .mk [] [] _ rfl (.le (.tups ⟨⟨trivial, .agg fun _ _ => .any _⟩, .refl _⟩)) ⟨.le (.dead _), trivial⟩ rfl)
set_option maxHeartbeats 1000000 in
theorem c93_4 (t : Trf) (l : Log) (r : Rm) (i : Nat) (hs : Side (Sx t l r i)) (n v : Nat) (hn : Side (n <= 1000000)) (hv : Side ((l.ev.getD i ev0).k = 4)) (ha : Side (¬ (t.extras.length : Int) <= (l.ev.getD i ev0).n)) (hp : Side (r.ps ≠ 0)) (hb : Side (¬ 20 <= (r.ex.getD (l.ev.getD i ev0).n.toNat 0))) (he : Side (rpE t l { r with ex := r.ex.set (l.ev.getD i ev0).n.toNat ((r.ex.getD (l.ev.getD i ev0).n.toNat 0) + 1) } = 0)) : Mut (Xc W0 Gt) 93 [trfA t, lgA l, .agg 16 (tbl (rmC r (iRow r.ex) (.own 0 v))), .int .i64 (i : Int)] [cnO n v] (.tup 2 (tbl [.agg 16 (tbl (rmC (rpR t l { r with ex := r.ex.set (l.ev.getD i ev0).n.toNat ((r.ex.getD (l.ev.getD i ev0).n.toNat 0) + 1) }) (iRow (rpR t l { r with ex := r.ex.set (l.ev.getD i ev0).n.toNat ((r.ex.getD (l.ev.getD i ev0).n.toNat 0) + 1) }).ex) (.own 0 v))), .int .i64 0])) [cnO n v] := by
 have sx := hs.get
 have k := sx.rk
 have hn := hn.get
 have gh := gd_head k.g.al
 have ee := ev_ok (gh.2.2.2.2 i sx.hi)
 have el := gh.2.2.2.1
 have k1 := k.pu; have k2 := k.si; have k3 := k.tk; have lt := sx.hi
 have hv := hv.get
 have hx0 : ((l.ev.getD i ev0).k == 0) = true -> False := fun q => by rw [hv] at q; cases q
 have hx1 : ((l.ev.getD i ev0).k == 1) = true -> False := fun q => by rw [hv] at q; cases q
 have hx2 : ((l.ev.getD i ev0).k == 2) = true -> False := fun q => by rw [hv] at q; cases q
 have hx3 : ((l.ev.getD i ev0).k == 3) = true -> False := fun q => by rw [hv] at q; cases q
 have hx4 : ((l.ev.getD i ev0).k == 4) = false -> False := fun q => by rw [hv] at q; cases q
 have ha0 : decide ((t.extras.length : Int) <= (l.ev.getD i ev0).n) = true -> False := fun q => by have q := of_decide_eq_true q; have := ha.get; omega
 have hp0 : (r.ps == 0) = true -> False := fun q => hp.get (eq_of_beq q)
 have xl := k.exl hp.get
 have ha1 := ha.get
 have nb := ee.2.2.2.2.1
 have lx : (l.ev.getD i ev0).n.toNat < r.ex.length := by omega
 have xk := k.g.ok.extras
 have xb := k.ex (l.ev.getD i ev0).n.toNat
 have hb0 : decide (20 <= (r.ex.getD (l.ev.getD i ev0).n.toNat 0)) = true -> False := fun q => by have q := of_decide_eq_true q; exact hb.get q
 have rk2 := rk_ex k hb.get
 refine mut_of' hX (fnI Tryz.f93) rfl ?_
 repeat' (first
  | (refine Ax.go ?_; with_reducible first | (apply altM (ks := []) (m := 1); apply And.intro; apply Sc.of; apply (c55o hX r.ex (Side.mk (by omega)))) | (apply altM (ks := [0, 6]) (m := 0); apply And.intro; apply Sc.of; apply (c145xk hX t l { r with ex := r.ex.set (l.ev.getD i ev0).n.toNat ((r.ex.getD (l.ev.getD i ev0).n.toNat 0) + 1) } (Side.mk rk2) n v 1 hp he)) | apply Alt.one)
  | exact Cl.go
  | ((with_reducible refine (?_ : LeOks _ _ _)); first | exact ⟨.list fun _ _ _ _ => .any _, trivial⟩ | exact ⟨ex_new rfl rfl (fun _ => rfl), trivial⟩ | exact ⟨.list fun _ _ _ _ => .any _, ex_put lx, trivial⟩ | exact trivial | exact ⟨.refl _, trivial⟩ | exact ⟨.refl _, .refl _, trivial⟩)
  | ((fail_if_success refine Stop.go ?_); (first | exact (hx0 ‹_›).elim | exact (hx1 ‹_›).elim | exact (hx2 ‹_›).elim | exact (hx3 ‹_›).elim | exact (hx4 ‹_›).elim | rw [beqvv v] | exact (ha0 ‹_›).elim | exact (hp0 ‹_›).elim | exact (hb0 ‹_›).elim | rw [beqvv (v + kB r false)] | (with_reducible first | apply And.intro | apply Cut.go | (refine impI ?_; intro _)) | (refine propI ?_; conv => whnf))))
 all_goals try exact nbZ
 all_goals try ((with_reducible refine (?_ : Sc _ _)); (try simp only [Int.toNat_natCast]); first | exact Sc.of ⟨by omega, by omega⟩ | exact Sc.of (by omega))
 all_goals (rw [rpR_1 (t := t) (l := l) (r := { r with ex := r.ex.set (l.ev.getD i ev0).n.toNat ((r.ex.getD (l.ev.getD i ev0).n.toNat 0) + 1) }) hp.get]; exact .mk [] [6] _ rfl (.tups ⟨⟨trivial, .aggs ⟨⟨⟨⟨⟨⟨⟨⟨⟨⟨⟨⟨⟨⟨⟨⟨trivial, .le (.refl _)⟩, .le (.refl _)⟩, .le (.refl _)⟩, .le (.refl _)⟩, .le (.refl _)⟩, .le (.refl _)⟩, .ownN rfl rfl (fun _ _ _ _ => .refl _)⟩, .le (.refl _)⟩, .le (.refl _)⟩, .le (.refl _)⟩, .le (.refl _)⟩, .le (.refl _)⟩, .le (.refl _)⟩, .le (.refl _)⟩, .le (.refl _)⟩, .le (.refl _)⟩⟩, .le (.refl _)⟩) ⟨.le (.refl _), trivial⟩ rfl)
end
open Go.Proofs Go.RowKit
theorem LeO.lasts {e es n ver : Nat} {a b : List AV} (h : AllLe a b) : LeO (.last e es n a ver) (.last e es n b ver) := .last h.len.symm fun j x y hx hy => h.at j x y hx hy
theorem own_eq' (k v : Nat) : AV.own k v = AV.own k v := rfl
section
variable {W0 : World} (hX : (Xc W0 Gt).Good)
include hX
theorem c93_2b (t : Trf) (l : Log) (r : Rm) (i : Nat) (hs : Side (Sx t l r i)) (n v : Nat) (hn : Side (n <= 1000000)) (hv : Side ((l.ev.getD i ev0).k = 2)) (hg : Side (goB r.ps (l.ev.getD i ev0).n = true)) (hce : Side (rcE t l r false = 0)) (hq : Side ((rcR t l r false).ps = 0)) (hr : Side (rrE t l (rcR t l r false) = 0)) (he : Side (rpE t l (rbR t l (rcR t l r false) i (l.ev.getD i ev0).n) = 0)) :
  Mut (Xc W0 Gt) 93 [trfA t, lgA l, .agg 16 (tbl (rmC r (iRow r.ex) (.own 0 v))), .int .i64 (i : Int)] [cnO n v] (.tup 2 (tbl [.agg 16 (tbl (rmC (rpR t l (rbR t l (rcR t l r false) i (l.ev.getD i ev0).n)) (iRow (rpR t l (rbR t l (rcR t l r false) i (l.ev.getD i ev0).n)).ex) (.own 0 (v + kB r false + 1)))), .int .i64 0])) [cnO 0 (v + kB r false + 1)] := by
 have w := c93_2b0 hX t l r i hs n v hn hv hg hce hq hr he
 refine Mut.renew w rfl rfl fun j hj => ?_
 rcases (show j = 0 \/ j = 1 \/ j = 2 \/ j = 3 \/ j = 4 \/ j = 5 \/ j = 6 \/ j = 7 \/ j = 8 \/ j = 9 \/ j = 10 \/ j = 11 \/ j = 12 \/ j = 13 \/ j = 14 by omega) with q | q | q | q | q | q | q | q | q | q | q | q | q | q | q <;> subst q <;> rfl
theorem c93_ok (t : Trf) (l : Log) (r : Rm) (i : Nat) (hs : Side (Sx t l r i)) (n v : Nat) (hn : Side (n <= 1000000)) (he : nqE t l r i = 0) : ∃ n' v', n' <= n + 3600 /\ Mut (Xc W0 Gt) 93 [trfA t, lgA l, .agg 16 (tbl (rmC r (iRow r.ex) (.own 0 v))), .int .i64 (i : Int)] [cnO n v] (.tup 2 (tbl [.agg 16 (tbl (rmC (nqR t l r i) (iRow (nqR t l r i).ex) (.own 0 v'))), .int .i64 0])) [cnO n' v'] := by
 have sx := hs.get
 have gh := gd_head sx.rk.g.al
 have ee := ev_ok (gh.2.2.2.2 i sx.hi)
 have kb := kB_le r false
 unfold nqE at he
 unfold nqR
 by_cases q0 : (l.ev.getD i ev0).k = 0
 ·have eG : nqG t l r i (l.ev.getD i ev0) = { r with pu := r.pu + (l.ev.getD i ev0).n, si := r.si + (l.ev.getD i ev0).n } := by unfold nqG; rw [q0]; rfl
  rw [eG]
  exact ⟨n, v, Nat.le_add_right _ _, c93_0 hX t l r i hs n v hn (Side.mk q0)⟩
 by_cases q1 : (l.ev.getD i ev0).k = 1
 ·have eG : nqG t l r i (l.ev.getD i ev0) = rtN t l r (l.ev.getD i ev0).n.toNat := by unfold nqG; rw [q1]; rfl
  have e1 : scanE (fun j => rcE t l (rtN t l r j) true) (List.range (l.ev.getD i ev0).n.toNat) = 0 := by unfold nqH at he; rw [q1] at he; exact he
  rw [eG]
  have kn := kN_le (t := t) (l := l) (r := r) (l.ev.getD i ev0).n.toNat
  have nb := ee.2.2.1 q1
  exact ⟨n + kN t l r (l.ev.getD i ev0).n.toNat, v + kN t l r (l.ev.getD i ev0).n.toNat, by omega, c93_1 hX t l r i hs n v hn (Side.mk q1) (Side.mk e1)⟩
 by_cases q2 : (l.ev.getD i ev0).k = 2
 ·have eG : nqG t l r i (l.ev.getD i ev0) = bif (rcR t l r false).ps == 0 then rpR t l (rbR t l (rcR t l r false) i (l.ev.getD i ev0).n) else rpR t l { rcR t l r false with ps := (l.ev.getD i ev0).n } := by unfold nqG; rw [q2]; rfl
  have e1 : nqP t l r i (l.ev.getD i ev0) = 0 := by unfold nqH at he; rw [q2] at he; exact he
  rw [eG]
  unfold nqP at e1
  cases c : goB r.ps (l.ev.getD i ev0).n with
  | false => rw [c] at e1; cases e1
  | true =>
   rw [c] at e1
   by_cases ec : rcE t l r false = 0
   ·rw [decide_eq_true ec] at e1
    by_cases h0 : (rcR t l r false).ps = 0
    ·have z : ((rcR t l r false).ps == 0) = true := by simp [h0]
     rw [z] at e1 ⊢
     have e1 : (bif decide (rrE t l (rcR t l r false) = 0) then rpE t l (rbR t l (rcR t l r false) i (l.ev.getD i ev0).n) else rrE t l (rcR t l r false)) = 0 := e1
     by_cases er : rrE t l (rcR t l r false) = 0
     ·rw [decide_eq_true er] at e1
      exact ⟨0, v + kB r false + 1, Nat.zero_le _, c93_2b hX t l r i hs n v hn (Side.mk q2) (Side.mk c) (Side.mk ec) (Side.mk h0) (Side.mk er) (Side.mk e1)⟩
     ·rw [decide_eq_false er] at e1; exact absurd e1 er
    ·rw [beq_false_of_ne h0] at e1 ⊢
     have e1 : rpE t l { rcR t l r false with ps := (l.ev.getD i ev0).n } = 0 := e1
     by_cases p0 : (l.ev.getD i ev0).n = 0
     ·exact ⟨n + kB r false, v + kB r false, by omega, c93_2z hX t l r i hs n v hn (Side.mk q2) (Side.mk c) (Side.mk ec) (Side.mk h0) (Side.mk p0)⟩
     ·exact ⟨n + kB r false, v + kB r false, by omega, c93_2k hX t l r i hs n v hn (Side.mk q2) (Side.mk c) (Side.mk ec) (Side.mk h0) (Side.mk p0) (Side.mk e1)⟩
   ·rw [decide_eq_false ec] at e1; exact absurd e1 ec
 by_cases q3 : (l.ev.getD i ev0).k = 3
 ·have eG : nqG t l r i (l.ev.getD i ev0) = { rcR t l r false with zn := (l.ev.getD i ev0).n } := by unfold nqG; rw [q3]; rfl
  have e1 : (bif zoneIn t (l.ev.getD i ev0).n then rcE t l r false else 6) = 0 := by unfold nqH at he; rw [q3] at he; exact he
  rw [eG]
  cases c : zoneIn t (l.ev.getD i ev0).n with
  | false => rw [c] at e1; cases e1
  | true =>
   rw [c] at e1
   exact ⟨n + kB r false, v + kB r false, by omega, c93_3 hX t l r i hs n v hn (Side.mk q3) (Side.mk c) (Side.mk e1)⟩
 by_cases q4 : (l.ev.getD i ev0).k = 4
 ·have eG : nqG t l r i (l.ev.getD i ev0) = rpR t l { r with ex := r.ex.set (l.ev.getD i ev0).n.toNat (r.ex.getD (l.ev.getD i ev0).n.toNat 0 + 1) } := by unfold nqG; rw [q4]; rfl
  have e1 : nqX t l r (l.ev.getD i ev0) = 0 := by unfold nqH at he; rw [q4] at he; exact he
  rw [eG]
  unfold nqX at e1
  by_cases c1 : (t.extras.length : Int) <= (l.ev.getD i ev0).n
  ·rw [decide_eq_true c1] at e1; cases e1
  ·rw [decide_eq_false c1] at e1
   by_cases c2 : r.ps = 0
   ·rw [show (r.ps == 0) = true by simp [c2]] at e1; cases e1
   ·rw [beq_false_of_ne c2] at e1
    by_cases c3 : 20 <= r.ex.getD (l.ev.getD i ev0).n.toNat 0
    ·rw [decide_eq_true c3] at e1; cases e1
    ·rw [decide_eq_false c3] at e1
     exact ⟨n, v, Nat.le_add_right _ _, c93_4 hX t l r i hs n v hn (Side.mk q4) (Side.mk c1) (Side.mk c2) (Side.mk c3) (Side.mk e1)⟩
 have eG : nqG t l r i (l.ev.getD i ev0) = r := by
  unfold nqG
  rw [beq_false_of_ne q0, beq_false_of_ne q1, beq_false_of_ne q2, beq_false_of_ne q3, beq_false_of_ne q4]; rfl
 rw [eG]
 exact ⟨n, v, Nat.le_add_right _ _, c93_5 hX t l r i hs n v hn (Side.mk ⟨q0, q1, q2, q3, q4⟩)⟩
theorem c93_er (t : Trf) (l : Log) (r : Rm) (i : Nat) (hs : Side (Sx t l r i)) (n v : Nat) (hn : Side (n <= 1000000)) (he : nqE t l r i ≠ 0) : Mut (Xc W0 Gt) 93 [trfA t, lgA l, .agg 16 (tbl (rmC r (iRow r.ex) (.own 0 v))), .int .i64 (i : Int)] [cnO n v] (.tup 2 (tbl [.agg 16 (fun _ => .any), .int .i64 (nqE t l r i)])) [.dead] := by
 unfold nqE at he ⊢
 by_cases q0 : (l.ev.getD i ev0).k = 0
 ·exact absurd (by unfold nqH; rw [q0]; rfl) he
 by_cases q1 : (l.ev.getD i ev0).k = 1
 ·have e : nqH t l r i (l.ev.getD i ev0) = scanE (fun j => rcE t l (rtN t l r j) true) (List.range (l.ev.getD i ev0).n.toNat) := by unfold nqH; rw [q1]; rfl
  rw [e] at he ⊢
  exact c93_1e hX t l r i hs n v hn (Side.mk q1) (Side.mk he)
 by_cases q2 : (l.ev.getD i ev0).k = 2
 ·have e : nqH t l r i (l.ev.getD i ev0) = nqP t l r i (l.ev.getD i ev0) := by unfold nqH; rw [q2]; rfl
  rw [e] at he ⊢
  unfold nqP at he ⊢
  cases c : goB r.ps (l.ev.getD i ev0).n with
  | false => exact c93_2n hX t l r i hs n v hn (Side.mk q2) (Side.mk c)
  | true =>
   rw [c] at he
   by_cases ec : rcE t l r false = 0
   ·rw [decide_eq_true ec] at he ⊢
    by_cases h0 : (rcR t l r false).ps = 0
    ·have z : ((rcR t l r false).ps == 0) = true := by simp [h0]
     rw [z] at he ⊢
     by_cases er : rrE t l (rcR t l r false) = 0
     ·rw [decide_eq_true er] at he ⊢
      exact c93_2be hX t l r i hs n v hn (Side.mk q2) (Side.mk c) (Side.mk ec) (Side.mk h0) (Side.mk er) (Side.mk he)
     ·rw [decide_eq_false er]
      exact c93_2r hX t l r i hs n v hn (Side.mk q2) (Side.mk c) (Side.mk ec) (Side.mk h0) (Side.mk er)
    ·rw [beq_false_of_ne h0] at he ⊢
     exact c93_2ke hX t l r i hs n v hn (Side.mk q2) (Side.mk c) (Side.mk ec) (Side.mk h0) (Side.mk he)
   ·rw [decide_eq_false ec]
    exact c93_2e hX t l r i hs n v hn (Side.mk q2) (Side.mk c) (Side.mk ec)
 by_cases q3 : (l.ev.getD i ev0).k = 3
 ·have e : nqH t l r i (l.ev.getD i ev0) = bif zoneIn t (l.ev.getD i ev0).n then rcE t l r false else 6 := by unfold nqH; rw [q3]; rfl
  rw [e] at he ⊢
  cases c : zoneIn t (l.ev.getD i ev0).n with
  | false => exact c93_3n hX t l r i hs n v hn (Side.mk q3) (Side.mk c)
  | true => rw [c] at he; exact c93_3e hX t l r i hs n v hn (Side.mk q3) (Side.mk c) (Side.mk he)
 by_cases q4 : (l.ev.getD i ev0).k = 4
 ·have e : nqH t l r i (l.ev.getD i ev0) = nqX t l r (l.ev.getD i ev0) := by unfold nqH; rw [q4]; rfl
  rw [e] at he ⊢
  unfold nqX at he ⊢
  by_cases c1 : (t.extras.length : Int) <= (l.ev.getD i ev0).n
  ·rw [decide_eq_true c1]; exact c93_4a hX t l r i hs n v hn (Side.mk q4) (Side.mk c1)
  ·rw [decide_eq_false c1] at he ⊢
   by_cases c2 : r.ps = 0
   ·rw [show (r.ps == 0) = true by simp [c2]]; exact c93_4b hX t l r i hs n v hn (Side.mk q4) (Side.mk c1) (Side.mk c2)
   ·rw [beq_false_of_ne c2] at he ⊢
    by_cases c3 : 20 <= r.ex.getD (l.ev.getD i ev0).n.toNat 0
    ·rw [decide_eq_true c3]; exact c93_4c hX t l r i hs n v hn (Side.mk q4) (Side.mk c1) (Side.mk c2) (Side.mk c3)
    ·rw [decide_eq_false c3] at he ⊢
     exact c93_4e hX t l r i hs n v hn (Side.mk q4) (Side.mk c1) (Side.mk c2) (Side.mk c3) (Side.mk he)
 exact absurd (by unfold nqH; rw [beq_false_of_ne q0, beq_false_of_ne q1, beq_false_of_ne q2, beq_false_of_ne q3, beq_false_of_ne q4]; rfl) he
omit hX in
theorem le_trf {t : Trf} {l : Log} (h : trfE t ≠ 0) : leE t l = trfE t := by unfold leE; rw [decide_eq_false h]; rfl
omit hX in
theorem le_al {t : Trf} {l : Log} (h : trfE t = 0) (h2 : aloneE l ≠ 0) : leE t l = aloneE l := by unfold leE; rw [h, decide_eq_false h2]; rfl
omit hX in
theorem le_hit {t : Trf} {l : Log} (h : trfE t = 0) (h2 : aloneE l = 0) {i : Nat} (hi : i < l.ev.length) (h0 : ∀ j, j < i -> nqE t l (rmN t l j) j = 0) (hne : nqE t l (rmN t l i) i ≠ 0) : leE t l = nqE t l (rmN t l i) i := by
 unfold leE; rw [h, h2]; exact (rscan_hit (g := fun k => nqE t l (rmN t l k) k) hi h0 rfl hne).1
omit hX in
theorem le_ok {t : Trf} {l : Log} (h : trfE t = 0) (h2 : aloneE l = 0) (h0 : ∀ j, j < l.ev.length -> nqE t l (rmN t l j) j = 0) : leE t l = 0 := by
 unfold leE; rw [h, h2]; exact (rscan_none (g := fun k => nqE t l (rmN t l k) k) h0).1
set_option maxHeartbeats 1000000 in
theorem c60 (t : Trf) (l : Log) (hs : Side (TOk t)) : Pure (Xc W0 Gt) 60 [trfA t, lgA l] (.tup 3 (tbl [.any, .any, .int .i64 (leE t l)])) := by
 refine mut_of' hX (fnI Tryz.f60) rfl ?_
 repeat' (first
  | (refine Ax.go ?_; first | (with_reducible apply callAlt (c91 hX t hs)) | (with_reducible apply callAlt (c92 hX l)) | (rw [own_eq']; with_reducible refine Alt.two ?_) | apply Alt.one)
  | exact Cl.go
  | ((with_reducible refine (?_ : LeOks _ _ _)); first | exact ⟨.list fun _ _ _ _ => .any _, trivial⟩ | exact trivial | exact ⟨.refl _, trivial⟩ | exact ⟨.refl _, .refl _, trivial⟩)
  | ((fail_if_success refine Stop.go ?_); first | (with_reducible first | apply And.intro | apply Cut.go | (refine impI ?_; intro _)) | (refine propI ?_; conv => whnf)))
 all_goals try exact nbZ
 ·rename_i q; have q := bne_iff_ne.1 q; exact .mk [] [] _ rfl (.le (.tups ⟨⟨⟨trivial, .any _⟩, .any _⟩, .intI (le_trf q).symm⟩)) trivial rfl
 ·rename_i a q; have a := bne_eq_false_iff_eq.1 a; have q := bne_iff_ne.1 q; exact .mk [] [] _ rfl (.le (.tups ⟨⟨⟨trivial, .any _⟩, .any _⟩, .intI (le_al a q).symm⟩)) trivial rfl
 rename_i a b
 have g : Gd t l := ⟨hs.get, bne_eq_false_iff_eq.1 a, bne_eq_false_iff_eq.1 b⟩
 have el := (gd_head g.al).2.2.2.1
 refine ⟨Nat × Nat × Nat, fun y => ([(2, .ptr 0 0), (3, .ptr 1 0), (10, .own 2 (y.1 + 1)), (11, .int .i64 ((y.1 : Nat)))], [.box (trfC t), .box (logC l (evS l.ev)), .last 183 16 (y.1 + 1) (rmC (rmN t l (y.1)) (iRow (rmN t l (y.1)).ex) (.own 3 y.2.2)) (y.1 + 1), cnO y.2.1 y.2.2]), fun y => y.1 <= l.ev.length /\ y.2.1 <= 3600 * y.1 /\ ∀ j, j < y.1 -> nqE t l (rmN t l j) j = 0, fun y => l.ev.length - y.1, ⟨(0, 0, 1), ⟨Nat.zero_le _, Nat.le_refl _, fun _ h => absurd h (Nat.not_lt_zero _)⟩,
  .bornL (e1 := 268) (es1 := 7) (F := fun _ _ => .any) (cells := rmC (rmN t l 0) .slc0 (.own 3 1)) 2 15 rfl rfl (by decide) rfl (fun q y hq hy => ?_) rfl ⟨by kernel_rfl, ⟨.refl _, .refl _, .lasts ⟨.refl _, .refl _, .refl _, .refl _, .refl _, .refl _, .slc0 _ _, .refl _, .refl _, .refl _, .refl _, .refl _, .refl _, .refl _, .refl _, .refl _, trivial⟩, .refl _, trivial⟩, ⟨.refl _, .refl _, .refl _, .refl _, trivial⟩⟩⟩, fun ⟨i, n1, v1⟩ hy => ?_⟩
 ·rcases (show q = 0 \/ q = 1 \/ q = 2 \/ q = 3 \/ q = 4 \/ q = 5 \/ q = 6 \/ q = 7 \/ q = 8 \/ q = 9 \/ q = 10 \/ q = 11 \/ q = 12 \/ q = 13 \/ q = 14 by have := (List.getElem?_eq_some_iff.1 hy).1; simp at this; omega) with z | z | z | z | z | z | z | z | z | z | z | z | z | z | z <;> subst z <;> cases hy <;> exact .refl _
 have hi : i <= l.ev.length := hy.1
 have hn1 : n1 <= 3600 * i := hy.2.1
 have h0 : ∀ j, j < i -> nqE t l (rmN t l j) j = 0 := hy.2.2
 clear hy
 by_cases hlN : i < l.ev.length
 ·have sr := sim_run g i hi h0
  have sx := sx_of g hlN (mcN_ok g i hi) sr.1 sr.2.1
  have hlt : decide ((i : Int) < (l.ev.length : Int)) = false -> False := fun q => by have q := of_decide_eq_false q; omega
  by_cases e : nqE t l (rmN t l i) i = 0
  ·obtain ⟨n', v', hn', hc⟩ := c93_ok hX t l (rmN t l i) i (Side.mk sx) n1 v1 (Side.mk (by omega)) e
   have hq0 : ((0 : Int) != 0) = true -> False := fun q => by cases q
   repeat' (first
    | (refine Ax.go ?_; with_reducible first | (apply altM (ks := [3]) (m := 0); apply And.intro; apply Sc.of; apply (hc)) | apply Alt.one)
    | exact Cl.go
    | ((with_reducible refine (?_ : LeOks _ _ _)); first | exact ⟨.list fun _ _ _ _ => .any _, trivial⟩ | exact trivial | exact ⟨.refl _, trivial⟩ | exact ⟨.refl _, .refl _, trivial⟩)
    | ((fail_if_success refine Stop.go ?_); (first | exact (hlt ‹_›).elim | exact (hq0 ‹_›).elim | rw [beqvv (i + 1)] | rw [beqvv v1] | rw [beqvv v'] | (with_reducible first | apply And.intro | apply Cut.go | (refine impI ?_; intro _)) | (refine propI ?_; conv => whnf))))
   all_goals try exact nbZ
   all_goals try ((with_reducible refine (?_ : Sc _ _)); first | exact Sc.of (by show ((i : Nat) : Int).toNat + 1 = i + 1; rw [Int.toNat_natCast]) | exact Sc.of ⟨by omega, by omega⟩ | exact Sc.of (by omega) | exact Sc.of ⟨by show (i + 1 + 1) * 160 <= 140737488355328; omega, by omega⟩)
   all_goals (exact ⟨(i + 1, n', v'), ⟨hlN, by show n' <= 3600 * (i + 1); omega, all_lt h0 e⟩, by show l.ev.length - (i + 1) < l.ev.length - i; omega, .le ⟨by kernel_rfl, ⟨.refl _, .refl _, .lasts ⟨.refl _, .refl _, .refl _, .refl _, .refl _, .refl _, .refl _, .refl _, .refl _, .refl _, .refl _, .refl _, .refl _, .refl _, .refl _, .refl _, trivial⟩, .refl _, trivial⟩, ⟨.refl _, .refl _, .refl _, .intI (by show (i : Int) + 1 = ((i + 1 : Nat) : Int); omega), trivial⟩⟩⟩)
  ·have hc := c93_er hX t l (rmN t l i) i (Side.mk sx) n1 v1 (Side.mk (by omega)) e
   have hq0 : (nqE t l (rmN t l i) i != 0) = false -> False := fun q => e (bne_eq_false_iff_eq.1 q)
   repeat' (first
    | (refine Ax.go ?_; with_reducible first | (apply altM (ks := [3]) (m := 0); apply And.intro; apply Sc.of; apply (hc)) | apply Alt.one)
    | exact Cl.go
    | ((with_reducible refine (?_ : LeOks _ _ _)); first | exact ⟨.list fun _ _ _ _ => .any _, trivial⟩ | exact trivial | exact ⟨.refl _, trivial⟩ | exact ⟨.refl _, .refl _, trivial⟩)
    | ((fail_if_success refine Stop.go ?_); (first | exact (hlt ‹_›).elim | exact (hq0 ‹_›).elim | rw [beqvv (i + 1)] | rw [beqvv v1] | rw [beqvv v'] | (with_reducible first | apply And.intro | apply Cut.go | (refine impI ?_; intro _)) | (refine propI ?_; conv => whnf))))
   all_goals try exact nbZ
   all_goals try ((with_reducible refine (?_ : Sc _ _)); first | exact Sc.of (by show ((i : Nat) : Int).toNat + 1 = i + 1; rw [Int.toNat_natCast]) | exact Sc.of ⟨by omega, by omega⟩ | exact Sc.of (by omega) | exact Sc.of ⟨by show (i + 1 + 1) * 160 <= 140737488355328; omega, by omega⟩)
   all_goals (exact .mk [] [] _ rfl (.le (.tups ⟨⟨⟨trivial, .any _⟩, .any _⟩, .intI (le_hit g.trf g.al hlN h0 e).symm⟩)) trivial rfl)
 ·obtain rfl : i = l.ev.length := by omega
  have hlt : decide ((l.ev.length : Int) < (l.ev.length : Int)) = true -> False := fun q => by have q := of_decide_eq_true q; omega
  have hq0 : True -> False -> False := fun _ q => q
  repeat' (first
   | (refine Ax.go ?_; apply Alt.one)
   | exact Cl.go
   | ((with_reducible refine (?_ : LeOks _ _ _)); first | exact ⟨.list fun _ _ _ _ => .any _, trivial⟩ | exact trivial | exact ⟨.refl _, trivial⟩ | exact ⟨.refl _, .refl _, trivial⟩)
   | ((fail_if_success refine Stop.go ?_); (first | exact (hlt ‹_›).elim | rw [beqvv (l.ev.length + 1)] | (with_reducible first | apply And.intro | apply Cut.go | (refine impI ?_; intro _)) | (refine propI ?_; conv => whnf))))
  all_goals try exact nbZ
  all_goals (exact .mk [] [] _ rfl (.le (.tups ⟨⟨⟨trivial, .any _⟩, .any _⟩, .intI (le_ok g.trf g.al h0).symm⟩)) trivial rfl)
theorem c20 (t : Trf) (l : Log) (hs : Side (TOk t)) : Pure (Xc W0 Gt) 20 [trfA t, lgA l] (.int .i64 (leE t l)) := by
 refine mut_of' hX (fnI Tryz.f20) rfl ?_
 repeat' (first
  | (refine Ax.go ?_; with_reducible first | apply callAlt (c60 hX t l hs) | apply Alt.one)
  | exact Cl.go
  | ((with_reducible refine (?_ : LeOks _ _ _)); first | exact ⟨.list fun _ _ _ _ => .any _, trivial⟩ | exact trivial | exact ⟨.refl _, trivial⟩ | exact ⟨.refl _, .refl _, trivial⟩)
  | ((fail_if_success refine Stop.go ?_); first | (with_reducible first | apply And.intro | apply Cut.go | (refine impI ?_; intro _)) | (refine propI ?_; conv => whnf)))
 all_goals try exact nbZ
 all_goals (exact .mk [] [] _ rfl (.le (.refl _)) trivial rfl)
end
end Go.Fx
