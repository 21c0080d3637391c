/-
 The specification's meter: prices, ticks.
-/
import Derived.Test.YtfdegaojblmdiaaGreatDoorGi
set_option linter.all false
namespace Go.Fx
open Go.Proofs Go.RowKit
@[reducible] def rmD (r : Rm) (sp fa : Int) (x e : AV) : List AV := [.int .i64 r.tk, .int .i64 r.pu, .int .i64 r.ps, .int .i64 r.zn, .int .i64 r.si, .int .i64 sp, x, .int .i64 fa, .int .i64 r.pa, .int .i64 r.st, .int .i64 r.fi, .int .i64 r.bg, .int .i64 r.fr, .int .i64 r.ad, .int .i64 r.at_, e]
@[reducible] def cnO (n v : Nat) : HObj := .list 268 7 n (fun _ _ => .any) v
theorem ag16 {f g : Nat -> AV} (h0 : Le (f 0) (g 0) := by exact Le.refl _) (h1 : Le (f 1) (g 1) := by exact Le.refl _) (h2 : Le (f 2) (g 2) := by exact Le.refl _) (h3 : Le (f 3) (g 3) := by exact Le.refl _) (h4 : Le (f 4) (g 4) := by exact Le.refl _) (h5 : Le (f 5) (g 5) := by exact Le.refl _) (h6 : Le (f 6) (g 6) := by exact Le.refl _) (h7 : Le (f 7) (g 7) := by exact Le.refl _) (h8 : Le (f 8) (g 8) := by exact Le.refl _) (h9 : Le (f 9) (g 9) := by exact Le.refl _) (h10 : Le (f 10) (g 10) := by exact Le.refl _) (h11 : Le (f 11) (g 11) := by exact Le.refl _) (h12 : Le (f 12) (g 12) := by exact Le.refl _) (h13 : Le (f 13) (g 13) := by exact Le.refl _) (h14 : Le (f 14) (g 14) := by exact Le.refl _) (h15 : Le (f 15) (g 15) := by exact Le.refl _) : Le (.agg 16 f) (.agg 16 g) := .aggs (n := 16) ⟨⟨⟨⟨⟨⟨⟨⟨⟨⟨⟨⟨⟨⟨⟨⟨trivial, h0⟩, h1⟩, h2⟩, h3⟩, h4⟩, h5⟩, h6⟩, h7⟩, h8⟩, h9⟩, h10⟩, h11⟩, h12⟩, h13⟩, h14⟩, h15⟩
def zrB : HObj := .box [.int .i64 0, .int .i64 0, .int .i64 0, .int .i64 0, .int .i64 0, .int .i64 0, .slc0, .int .i64 0, .int .i64 0, .int .i64 0, .int .i64 0, .int .i64 0, .int .i64 0, .int .i64 0, .int .i64 0, .slc0]
def prV (t : Trf) (l : Log) (r : Rm) (x e : AV) : AV := bif decide (rpE t l r = 0) then .agg 16 (tbl (rmC (rpR t l r) x e)) else .agg 16 (fun _ => .any)
theorem prV_ok {t : Trf} {l : Log} {r : Rm} {x e : AV} (h : rpE t l r = 0) : prV t l r x e = .agg 16 (tbl (rmC (rpR t l r) x e)) := by unfold prV; rw [decide_eq_true h]; rfl
theorem prV_er {t : Trf} {l : Log} {r : Rm} {x e : AV} (h : rpE t l r ≠ 0) : prV t l r x e = .agg 16 (fun _ => .any) := by unfold prV; rw [decide_eq_false h]; rfl
theorem rpG_bd {t : Trf} {l : Log} {r : Rm} (k : Rk t l r) (b0 : rpB t l r = false) : (0 <= rpG t l r /\ rpG t l r <= 100000001000000) /\ (decide (0 < t.step) = true -> 0 <= rpS t l r * t.step /\ rpS t l r * t.step <= 100000000000000) := by
 have gh := gd_head k.g.al
 have tu := trf_unit k.g.trf
 have uc := uc_bd (l := l) tu.1 gh.1
 have k1 := k.pa; have k2 := k.st
 have sb : 0 <= rpS t l r /\ rpS t l r <= 92460000000000000 := quo_bd k1.1 k1.2 (by omega)
 unfold rpG
 unfold rpB at b0
 cases q : decide (0 < t.step) with
 | false => exact ⟨⟨k2.1, by show r.st <= _; omega⟩, fun h => by cases h⟩
 | true =>
  rw [q] at b0
  have b1 := of_decide_eq_false b0
  have m := mul_bd (A := 1000000000) (B := 100000) sb.1 (show rpS t l r <= 1000000000 by omega) tu.2.1 tu.2.2
  exact ⟨⟨by show 0 <= r.st + rpS t l r * t.step; omega, by show r.st + rpS t l r * t.step <= _; omega⟩, fun _ => ⟨by omega, by omega⟩⟩
theorem gd_hok {t : Trf} {l : Log} (g : Gd t l) : HOk t := ⟨g.ok, trf_sort g.trf⟩
theorem rr_0 {t : Trf} {l : Log} {r : Rm} (h : laterE (mX l) r.tk = 0) : rrE t l r = oneE (holdI t ⟨r.zn, laterM (mX l) r.tk⟩ t.rules.length) /\ rrN t l r = oneN (holdI t ⟨r.zn, laterM (mX l) r.tk⟩ t.rules.length) := by unfold rrE rrN; rw [h]; exact ⟨rfl, rfl⟩
theorem rr_1 {t : Trf} {l : Log} {r : Rm} (h : laterE (mX l) r.tk ≠ 0) : rrE t l r = laterE (mX l) r.tk /\ rrN t l r = 0 := by unfold rrE rrN; rw [decide_eq_false h]; exact ⟨rfl, rfl⟩
section
variable {W0 : World} (hX : (Xc W0 Gt).Good)
include hX
theorem c143 (t : Trf) (l : Log) (r : Rm) (hs : Side (Rk t l r)) : Pure (Xc W0 Gt) 143 [trfA t, lgA l, .agg 16 (tbl (rmC r (.any) (.any)))] (.tup 2 (tbl [.int .i64 (rrN t l r), .int .i64 (rrE t l r)])) := by
 refine mut_of' hX (fnI Tryz.f143) rfl ?_
 repeat' (first
  | (refine Ax.go ?_; first | ((with_reducible apply callAlt (c144 hX (mX l) r.tk)); case hl => (first | exact AllLe.refl _ | ((repeat' (first | exact trivial | apply Le.aggs | apply Le.tups | apply Le.fns | exact Le.refl _ | refine ⟨?_, ?_⟩)); done))) | ((with_reducible apply callAlt (c186 hX t ⟨r.zn, laterM (mX l) r.tk⟩ ?_)); case hl => (first | exact AllLe.refl _ | ((repeat' (first | exact trivial | apply Le.aggs | apply Le.tups | apply Le.fns | exact Le.refl _ | refine ⟨?_, ?_⟩)); done))) | apply Alt.one)
  | exact Cl.go
  | exact Ce.go
  | ((fail_if_success refine Stop.go ?_); first | (with_reducible first | apply And.intro | apply Cut.go | (refine impI ?_; intro _)) | (refine propI ?_; conv => whnf)))
 all_goals try exact nbZ
 all_goals first
  | exact Side.mk (gd_hok hs.get.g)
  | (rename_i h; have h := bne_iff_ne.1 h; have w := rr_1 (t := t) (r := r) h; exact .mk [] [] _ rfl (.le (.tups ⟨⟨trivial, .intI w.2.symm⟩, .intI w.1.symm⟩)) trivial rfl)
  | (rename_i h; have h := bne_eq_false_iff_eq.1 h; have w := rr_0 (t := t) (r := r) h; exact .mk [] [] _ rfl (.le (.tups ⟨⟨trivial, .intI w.2.symm⟩, .intI w.1.symm⟩)) trivial rfl)
theorem c142 (a b : Int) : Pure (Xc W0 Gt) 142 [.int .i64 a, .int .i64 b] (.bool (goB a b)) := by
 refine mut_of' hX (fnI Tryz.f142) rfl ?_
 repeat' (first
  | (refine Ax.go ?_; apply Alt.one)
  | exact Cl.go
  | exact Ce.go
  | ((fail_if_success refine Stop.go ?_); first | (with_reducible first | apply And.intro | apply Cut.go | (refine impI ?_; intro _)) | (refine propI ?_; conv => whnf)))
 all_goals try exact nbZ
 all_goals (refine .mk [] [] _ rfl (.le (.boolT ?_)) trivial rfl)
 all_goals (unfold goB; simp only [*]; try rfl)
theorem c145pz (t : Trf) (l : Log) (r : Rm) (hs : Side (Rk t l r)) (n v : Nat) (h0 : Side (r.ps = 0)) : Mut (Xc W0 Gt) 145 [trfA t, lgA l, .agg 16 (tbl (rmC r (iRow r.ex) (.own 0 v)))] [cnO n v] (.tup 2 (tbl [.agg 16 (tbl (rmC (rpR t l r) .slc0 (.own 0 v))), .int .i64 0])) [cnO n v] := by
 have h0 := h0.get
 have hx0 : (r.ps == 0) = false -> False := fun q => by rw [h0] at q; cases q
 refine mut_of' hX (fnI Tryz.f145) rfl ?_
 repeat' (first
  | (refine Ax.go ?_; apply Alt.one)
  | exact Cl.go
  | exact Ce.go
  | ((fail_if_success refine Stop.go ?_); (first | exact (hx0 ‹_›).elim | (with_reducible first | apply And.intro | apply Cut.go | (refine impI ?_; intro _)) | (refine propI ?_; conv => whnf))))
 all_goals try exact nbZ
 rw [(rpR_0 (t := t) (l := l) h0).1]
 exact .mk [] [] _ rfl (.le (.tups ⟨⟨trivial, ag16⟩, .refl _⟩)) ⟨.le (.refl _), trivial⟩ rfl
set_option maxHeartbeats 1000000 in
theorem c145p (t : Trf) (l : Log) (r : Rm) (hs : Side (Rk t l r)) (n v : Nat) (h0 : Side (r.ps ≠ 0))  : Mut (Xc W0 Gt) 145 [trfA t, lgA l, .agg 16 (tbl (rmC r (iRow r.ex) (.own 0 v)))] [cnO n v] (.tup 2 (tbl [(prV t l r (iRow r.ex) (.own 0 v)), .int .i64 (rpE t l r)])) [cnO n v] := by
 have k := hs.get
 have gh := gd_head k.g.al
 have tu := trf_unit k.g.trf
 have uc := uc_bd (l := l) tu.1 gh.1
 have te := trf_ext k.g.trf
 have k1 := k.pa; have k2 := k.st
 have sb : 0 <= rpS t l r /\ rpS t l r <= 92460000000000000 := quo_bd k1.1 k1.2 (by omega)
 have h0 := h0.get
 have xl := k.exl h0
 have hx0 : (r.ps == 0) = true -> False := fun q => h0 (eq_of_beq q)
 refine mut_of' hX (fnI Tryz.f145) rfl ?_
 repeat' (first
  | (refine Ax.go ?_; apply Alt.one)
  | exact Cl.go
  | exact Ce.go
  | ((fail_if_success refine Stop.go ?_); (first | exact (hx0 ‹_›).elim | rw [beqvv (r.ex.length)] | rw [beqvv v] | rw [beqvv w] | (with_reducible first | apply And.intro | apply Cut.go | (refine impI ?_; intro _)) | (refine propI ?_; conv => whnf))))
 all_goals try exact nbZ
 all_goals try (exact owZ)
 all_goals try (exact .of (by omega))
 all_goals try (exact .of (show inK .i64 (rpS t l r) from ⟨by omega, by omega⟩))
 ·have c := ‹(bif decide (0 < t.step) then decide (1000000000 < r.pa.tdiv (t.unit * l.c)) else false) = true›; have z8 := rpE_a h0 c; rw [prV_er (show rpE t l r ≠ 0 from fun q => by rw [z8] at q; cases q)]; exact .mk [] [] _ rfl (.le (.tups ⟨⟨trivial, .agg fun _ _ => .any _⟩, .intI z8.symm⟩)) ⟨.le (.refl _), trivial⟩ rfl
 all_goals have b0 : rpB t l r = false := ‹(bif decide (0 < t.step) then decide (1000000000 < r.pa.tdiv (t.unit * l.c)) else false) = false›
 all_goals have gb := rpG_bd k b0
 all_goals try (have m := gb.2 ‹decide (0 < t.step) = true›; first | exact .of (show inK .i64 (rpS t l r * t.step) from ⟨by omega, by omega⟩) | exact .of (show inK .i64 (r.st + rpS t l r * t.step) from ⟨by omega, by omega⟩))
 all_goals (first | have gE : rpG t l r = r.st + r.pa.tdiv (t.unit * l.c) * t.step := (by unfold rpG; rw [‹decide (0 < t.step) = true›]; rfl) | have gE : rpG t l r = r.st := (by unfold rpG; rw [‹decide (0 < t.step) = false›]; rfl))
 all_goals (refine ⟨Nat, fun i => ([(3, .ptr 1 0), (5, .ptr 3 0), (6, .ptr 4 0), (8, .int .i64 8), (9, .int .i64 ((i : Nat)))], [cnO n v, .box (trfC t), .box (logC l (evS l.ev)), .box (rmD r (r.pa.tdiv (t.unit * l.c)) (rpG t l r + mxA t r.ex i) (iRow r.ex) (.own 0 v)), zrB]), fun i => i <= r.ex.length, fun i => r.ex.length - i, ⟨0, Nat.zero_le _, .le ⟨by kernel_rfl, ⟨.refl _, .refl _, .refl _, .boxes ⟨.refl _, .refl _, .refl _, .refl _, .refl _, .refl _, .refl _, .intI (by first | (rw [gE]; simp only [mxA]; omega) | (simp only [Int.toNat_natCast, mxA]; omega)), .refl _, .refl _, .refl _, .refl _, .refl _, .refl _, .refl _, .refl _, trivial⟩, .refl _, trivial⟩, ⟨.refl _, .refl _, .refl _, .refl _, .refl _, trivial⟩⟩⟩, fun i hi => ?_⟩; replace hi : i <= r.ex.length := hi; have mb := mxA_bd k.g.trf k.ex i (by omega))
 repeat' (first
  | (refine Ax.go ?_; apply Alt.one)
  | exact Cl.go
  | exact Ce.go
  | ((fail_if_success refine Stop.go ?_); (first | rw [beqvv (r.ex.length)] | rw [beqvv v] | rw [beqvv w] | (with_reducible first | apply And.intro | apply Cut.go | (refine impI ?_; intro _)) | (refine propI ?_; conv => whnf))))
 all_goals try exact nbZ
 all_goals try (have q := of_decide_eq_true ‹decide ((i : Int) < (r.ex.length : Int)) = true›; have mo := mx_one k.g.trf k.ex (show i < t.extras.length by omega); first | exact owZ | (refine Sc.of ?_; rw [Int.toNat_natCast]; exact ⟨by omega, by omega⟩) | exact .of (by omega) | (refine Sc.of ?_; rw [Int.toNat_natCast]; omega))
 all_goals try (have q := of_decide_eq_true ‹decide ((i : Int) < (r.ex.length : Int)) = true›; exact ⟨i + 1, by show i + 1 <= _; omega, by show r.ex.length - (i + 1) < r.ex.length - i; omega, .le ⟨by kernel_rfl, ⟨.refl _, .refl _, .refl _, .boxes ⟨.refl _, .refl _, .refl _, .refl _, .refl _, .refl _, .refl _, .intI (by first | (rw [gE]; simp only [mxA]; omega) | (simp only [Int.toNat_natCast, mxA]; omega)), .refl _, .refl _, .refl _, .refl _, .refl _, .refl _, .refl _, .refl _, trivial⟩, .refl _, trivial⟩, ⟨.refl _, .refl _, .refl _, .refl _, .intI (by omega), trivial⟩⟩⟩)
 all_goals (have q := of_decide_eq_false ‹decide ((i : Int) < (r.ex.length : Int)) = false›; obtain rfl : i = r.ex.length := (by omega))
 all_goals first
  | (have c := of_decide_eq_true ‹decide (1000000000 < rpG t l r + mxA t r.ex r.ex.length) = true›; have z8 := rpE_b h0 b0 c; rw [prV_er (show rpE t l r ≠ 0 from fun q => by rw [z8] at q; cases q)]; exact .mk [] [] _ rfl (.le (.tups ⟨⟨trivial, .agg fun _ _ => .any _⟩, .intI z8.symm⟩)) ⟨.le (.refl _), trivial⟩ rfl)
  | (have c := of_decide_eq_false ‹decide (1000000000 < rpG t l r + mxA t r.ex r.ex.length) = false›; have z := rpE_c h0 b0 c; rw [prV_ok z, rpR_1 h0]; unfold rpF; exact .mk [] [] _ rfl (.le (.tups ⟨⟨trivial, ag16⟩, .intI z.symm⟩)) ⟨.le (.refl _), trivial⟩ rfl)
theorem c145pk (t : Trf) (l : Log) (r : Rm) (hs : Side (Rk t l r)) (n v : Nat) (h0 : Side (r.ps ≠ 0))  (he : Side (rpE t l r = 0)) : Mut (Xc W0 Gt) 145 [trfA t, lgA l, .agg 16 (tbl (rmC r (iRow r.ex) (.own 0 v)))] [cnO n v] (.tup 2 (tbl [.agg 16 (tbl (rmC (rpR t l r) (iRow r.ex) (.own 0 v))), .int .i64 0])) [cnO n v] := by
 have w := c145p hX t l r hs n v h0
 rw [prV_ok he.get, he.get] at w; exact w
theorem c145pe (t : Trf) (l : Log) (r : Rm) (hs : Side (Rk t l r)) (n v : Nat) (h0 : Side (r.ps ≠ 0))  (he : Side (rpE t l r ≠ 0)) : Mut (Xc W0 Gt) 145 [trfA t, lgA l, .agg 16 (tbl (rmC r (iRow r.ex) (.own 0 v)))] [cnO n v] (.tup 2 (tbl [.agg 16 (fun _ => .any), .int .i64 (rpE t l r)])) [cnO n v] := by
 have w := c145p hX t l r hs n v h0
 rw [prV_er he.get] at w; exact w
set_option maxHeartbeats 1000000 in
theorem c145b (t : Trf) (l : Log) (r : Rm) (hs : Side (Rk t l r)) (w : Nat) (h0 : Side (r.ps ≠ 0))  : Mut (Xc W0 Gt) 145 [trfA t, lgA l, .agg 16 (tbl (rmC r (.own 0 w) (.slc0)))] [mxO r.ex w] (.tup 2 (tbl [(prV t l r (.own 0 w) (.slc0)), .int .i64 (rpE t l r)])) [mxO r.ex w] := by
 have k := hs.get
 have gh := gd_head k.g.al
 have tu := trf_unit k.g.trf
 have uc := uc_bd (l := l) tu.1 gh.1
 have te := trf_ext k.g.trf
 have k1 := k.pa; have k2 := k.st
 have sb : 0 <= rpS t l r /\ rpS t l r <= 92460000000000000 := quo_bd k1.1 k1.2 (by omega)
 have h0 := h0.get
 have xl := k.exl h0
 have hx0 : (r.ps == 0) = true -> False := fun q => h0 (eq_of_beq q)
 refine mut_of' hX (fnI Tryz.f145) rfl ?_
 repeat' (first
  | (refine Ax.go ?_; apply Alt.one)
  | exact Cl.go
  | exact Ce.go
  | ((fail_if_success refine Stop.go ?_); (first | exact (hx0 ‹_›).elim | rw [beqvv (r.ex.length)] | rw [beqvv v] | rw [beqvv w] | (with_reducible first | apply And.intro | apply Cut.go | (refine impI ?_; intro _)) | (refine propI ?_; conv => whnf))))
 all_goals try exact nbZ
 all_goals try (exact owZ)
 all_goals try (exact .of (by omega))
 all_goals try (exact .of (show inK .i64 (rpS t l r) from ⟨by omega, by omega⟩))
 ·have c := ‹(bif decide (0 < t.step) then decide (1000000000 < r.pa.tdiv (t.unit * l.c)) else false) = true›; have z8 := rpE_a h0 c; rw [prV_er (show rpE t l r ≠ 0 from fun q => by rw [z8] at q; cases q)]; exact .mk [] [] _ rfl (.le (.tups ⟨⟨trivial, .agg fun _ _ => .any _⟩, .intI z8.symm⟩)) ⟨.le (.refl _), trivial⟩ rfl
 all_goals have b0 : rpB t l r = false := ‹(bif decide (0 < t.step) then decide (1000000000 < r.pa.tdiv (t.unit * l.c)) else false) = false›
 all_goals have gb := rpG_bd k b0
 all_goals try (have m := gb.2 ‹decide (0 < t.step) = true›; first | exact .of (show inK .i64 (rpS t l r * t.step) from ⟨by omega, by omega⟩) | exact .of (show inK .i64 (r.st + rpS t l r * t.step) from ⟨by omega, by omega⟩))
 all_goals (first | have gE : rpG t l r = r.st + r.pa.tdiv (t.unit * l.c) * t.step := (by unfold rpG; rw [‹decide (0 < t.step) = true›]; rfl) | have gE : rpG t l r = r.st := (by unfold rpG; rw [‹decide (0 < t.step) = false›]; rfl))
 all_goals (refine ⟨Nat, fun i => ([(3, .ptr 1 0), (5, .ptr 3 0), (6, .ptr 4 0), (8, .int .i64 8), (9, .int .i64 ((i : Nat)))], [mxO r.ex w, .box (trfC t), .box (logC l (evS l.ev)), .box (rmD r (r.pa.tdiv (t.unit * l.c)) (rpG t l r + mxA t r.ex i) (.own 0 w) (.slc0)), zrB]), fun i => i <= r.ex.length, fun i => r.ex.length - i, ⟨0, Nat.zero_le _, .le ⟨by kernel_rfl, ⟨.refl _, .refl _, .refl _, .boxes ⟨.refl _, .refl _, .refl _, .refl _, .refl _, .refl _, .refl _, .intI (by first | (rw [gE]; simp only [mxA]; omega) | (simp only [Int.toNat_natCast, mxA]; omega)), .refl _, .refl _, .refl _, .refl _, .refl _, .refl _, .refl _, .refl _, trivial⟩, .refl _, trivial⟩, ⟨.refl _, .refl _, .refl _, .refl _, .refl _, trivial⟩⟩⟩, fun i hi => ?_⟩; replace hi : i <= r.ex.length := hi; have mb := mxA_bd k.g.trf k.ex i (by omega))
 repeat' (first
  | (refine Ax.go ?_; apply Alt.one)
  | exact Cl.go
  | exact Ce.go
  | ((fail_if_success refine Stop.go ?_); (first | rw [beqvv (r.ex.length)] | rw [beqvv v] | rw [beqvv w] | (with_reducible first | apply And.intro | apply Cut.go | (refine impI ?_; intro _)) | (refine propI ?_; conv => whnf))))
 all_goals try exact nbZ
 all_goals try (have q := of_decide_eq_true ‹decide ((i : Int) < (r.ex.length : Int)) = true›; have mo := mx_one k.g.trf k.ex (show i < t.extras.length by omega); first | exact owZ | (refine Sc.of ?_; rw [Int.toNat_natCast]; exact ⟨by omega, by omega⟩) | exact .of (by omega) | (refine Sc.of ?_; rw [Int.toNat_natCast]; omega))
 all_goals try (have q := of_decide_eq_true ‹decide ((i : Int) < (r.ex.length : Int)) = true›; exact ⟨i + 1, by show i + 1 <= _; omega, by show r.ex.length - (i + 1) < r.ex.length - i; omega, .le ⟨by kernel_rfl, ⟨.refl _, .refl _, .refl _, .boxes ⟨.refl _, .refl _, .refl _, .refl _, .refl _, .refl _, .refl _, .intI (by first | (rw [gE]; simp only [mxA]; omega) | (simp only [Int.toNat_natCast, mxA]; omega)), .refl _, .refl _, .refl _, .refl _, .refl _, .refl _, .refl _, .refl _, trivial⟩, .refl _, trivial⟩, ⟨.refl _, .refl _, .refl _, .refl _, .intI (by omega), trivial⟩⟩⟩)
 all_goals (have q := of_decide_eq_false ‹decide ((i : Int) < (r.ex.length : Int)) = false›; obtain rfl : i = r.ex.length := (by omega))
 all_goals first
  | (have c := of_decide_eq_true ‹decide (1000000000 < rpG t l r + mxA t r.ex r.ex.length) = true›; have z8 := rpE_b h0 b0 c; rw [prV_er (show rpE t l r ≠ 0 from fun q => by rw [z8] at q; cases q)]; exact .mk [] [] _ rfl (.le (.tups ⟨⟨trivial, .agg fun _ _ => .any _⟩, .intI z8.symm⟩)) ⟨.le (.refl _), trivial⟩ rfl)
  | (have c := of_decide_eq_false ‹decide (1000000000 < rpG t l r + mxA t r.ex r.ex.length) = false›; have z := rpE_c h0 b0 c; rw [prV_ok z, rpR_1 h0]; unfold rpF; exact .mk [] [] _ rfl (.le (.tups ⟨⟨trivial, ag16⟩, .intI z.symm⟩)) ⟨.le (.refl _), trivial⟩ rfl)
theorem c145bk (t : Trf) (l : Log) (r : Rm) (hs : Side (Rk t l r)) (w : Nat) (h0 : Side (r.ps ≠ 0))  (he : Side (rpE t l r = 0)) : Mut (Xc W0 Gt) 145 [trfA t, lgA l, .agg 16 (tbl (rmC r (.own 0 w) (.slc0)))] [mxO r.ex w] (.tup 2 (tbl [.agg 16 (tbl (rmC (rpR t l r) (.own 0 w) (.slc0))), .int .i64 0])) [mxO r.ex w] := by
 have w := c145b hX t l r hs w h0
 rw [prV_ok he.get, he.get] at w; exact w
theorem c145be (t : Trf) (l : Log) (r : Rm) (hs : Side (Rk t l r)) (w : Nat) (h0 : Side (r.ps ≠ 0))  (he : Side (rpE t l r ≠ 0)) : Mut (Xc W0 Gt) 145 [trfA t, lgA l, .agg 16 (tbl (rmC r (.own 0 w) (.slc0)))] [mxO r.ex w] (.tup 2 (tbl [.agg 16 (fun _ => .any), .int .i64 (rpE t l r)])) [mxO r.ex w] := by
 have w := c145b hX t l r hs w h0
 rw [prV_er he.get] at w; exact w
set_option maxHeartbeats 1000000 in
theorem c145x (t : Trf) (l : Log) (r : Rm) (hs : Side (Rk t l r)) (n v : Nat) (w : Nat) (h0 : Side (r.ps ≠ 0))  : Mut (Xc W0 Gt) 145 [trfA t, lgA l, .agg 16 (tbl (rmC r (.own 1 w) (.own 0 v)))] [cnO n v, mxO r.ex w] (.tup 2 (tbl [(prV t l r (.own 1 w) (.own 0 v)), .int .i64 (rpE t l r)])) [cnO n v, mxO r.ex w] := by
 have k := hs.get
 have gh := gd_head k.g.al
 have tu := trf_unit k.g.trf
 have uc := uc_bd (l := l) tu.1 gh.1
 have te := trf_ext k.g.trf
 have k1 := k.pa; have k2 := k.st
 have sb : 0 <= rpS t l r /\ rpS t l r <= 92460000000000000 := quo_bd k1.1 k1.2 (by omega)
 have h0 := h0.get
 have xl := k.exl h0
 have hx0 : (r.ps == 0) = true -> False := fun q => h0 (eq_of_beq q)
 refine mut_of' hX (fnI Tryz.f145) rfl ?_
 repeat' (first
  | (refine Ax.go ?_; apply Alt.one)
  | exact Cl.go
  | exact Ce.go
  | ((fail_if_success refine Stop.go ?_); (first | exact (hx0 ‹_›).elim | rw [beqvv (r.ex.length)] | rw [beqvv v] | rw [beqvv w] | (with_reducible first | apply And.intro | apply Cut.go | (refine impI ?_; intro _)) | (refine propI ?_; conv => whnf))))
 all_goals try exact nbZ
 all_goals try (exact owZ)
 all_goals try (exact .of (by omega))
 all_goals try (exact .of (show inK .i64 (rpS t l r) from ⟨by omega, by omega⟩))
 ·have c := ‹(bif decide (0 < t.step) then decide (1000000000 < r.pa.tdiv (t.unit * l.c)) else false) = true›; have z8 := rpE_a h0 c; rw [prV_er (show rpE t l r ≠ 0 from fun q => by rw [z8] at q; cases q)]; exact .mk [] [] _ rfl (.le (.tups ⟨⟨trivial, .agg fun _ _ => .any _⟩, .intI z8.symm⟩)) ⟨.le (.refl _), .le (.refl _), trivial⟩ rfl
 all_goals have b0 : rpB t l r = false := ‹(bif decide (0 < t.step) then decide (1000000000 < r.pa.tdiv (t.unit * l.c)) else false) = false›
 all_goals have gb := rpG_bd k b0
 all_goals try (have m := gb.2 ‹decide (0 < t.step) = true›; first | exact .of (show inK .i64 (rpS t l r * t.step) from ⟨by omega, by omega⟩) | exact .of (show inK .i64 (r.st + rpS t l r * t.step) from ⟨by omega, by omega⟩))
 all_goals (first | have gE : rpG t l r = r.st + r.pa.tdiv (t.unit * l.c) * t.step := (by unfold rpG; rw [‹decide (0 < t.step) = true›]; rfl) | have gE : rpG t l r = r.st := (by unfold rpG; rw [‹decide (0 < t.step) = false›]; rfl))
 all_goals (refine ⟨Nat, fun i => ([(3, .ptr 2 0), (5, .ptr 4 0), (6, .ptr 5 0), (8, .int .i64 8), (9, .int .i64 ((i : Nat)))], [cnO n v, mxO r.ex w, .box (trfC t), .box (logC l (evS l.ev)), .box (rmD r (r.pa.tdiv (t.unit * l.c)) (rpG t l r + mxA t r.ex i) (.own 1 w) (.own 0 v)), zrB]), fun i => i <= r.ex.length, fun i => r.ex.length - i, ⟨0, Nat.zero_le _, .le ⟨by kernel_rfl, ⟨.refl _, .refl _, .refl _, .refl _, .boxes ⟨.refl _, .refl _, .refl _, .refl _, .refl _, .refl _, .refl _, .intI (by first | (rw [gE]; simp only [mxA]; omega) | (simp only [Int.toNat_natCast, mxA]; omega)), .refl _, .refl _, .refl _, .refl _, .refl _, .refl _, .refl _, .refl _, trivial⟩, .refl _, trivial⟩, ⟨.refl _, .refl _, .refl _, .refl _, .refl _, trivial⟩⟩⟩, fun i hi => ?_⟩; replace hi : i <= r.ex.length := hi; have mb := mxA_bd k.g.trf k.ex i (by omega))
 repeat' (first
  | (refine Ax.go ?_; apply Alt.one)
  | exact Cl.go
  | exact Ce.go
  | ((fail_if_success refine Stop.go ?_); (first | rw [beqvv (r.ex.length)] | rw [beqvv v] | rw [beqvv w] | (with_reducible first | apply And.intro | apply Cut.go | (refine impI ?_; intro _)) | (refine propI ?_; conv => whnf))))
 all_goals try exact nbZ
 all_goals try (have q := of_decide_eq_true ‹decide ((i : Int) < (r.ex.length : Int)) = true›; have mo := mx_one k.g.trf k.ex (show i < t.extras.length by omega); first | exact owZ | (refine Sc.of ?_; rw [Int.toNat_natCast]; exact ⟨by omega, by omega⟩) | exact .of (by omega) | (refine Sc.of ?_; rw [Int.toNat_natCast]; omega))
 all_goals try (have q := of_decide_eq_true ‹decide ((i : Int) < (r.ex.length : Int)) = true›; exact ⟨i + 1, by show i + 1 <= _; omega, by show r.ex.length - (i + 1) < r.ex.length - i; omega, .le ⟨by kernel_rfl, ⟨.refl _, .refl _, .refl _, .refl _, .boxes ⟨.refl _, .refl _, .refl _, .refl _, .refl _, .refl _, .refl _, .intI (by first | (rw [gE]; simp only [mxA]; omega) | (simp only [Int.toNat_natCast, mxA]; omega)), .refl _, .refl _, .refl _, .refl _, .refl _, .refl _, .refl _, .refl _, trivial⟩, .refl _, trivial⟩, ⟨.refl _, .refl _, .refl _, .refl _, .intI (by omega), trivial⟩⟩⟩)
 all_goals (have q := of_decide_eq_false ‹decide ((i : Int) < (r.ex.length : Int)) = false›; obtain rfl : i = r.ex.length := (by omega))
 all_goals first
  | (have c := of_decide_eq_true ‹decide (1000000000 < rpG t l r + mxA t r.ex r.ex.length) = true›; have z8 := rpE_b h0 b0 c; rw [prV_er (show rpE t l r ≠ 0 from fun q => by rw [z8] at q; cases q)]; exact .mk [] [] _ rfl (.le (.tups ⟨⟨trivial, .agg fun _ _ => .any _⟩, .intI z8.symm⟩)) ⟨.le (.refl _), .le (.refl _), trivial⟩ rfl)
  | (have c := of_decide_eq_false ‹decide (1000000000 < rpG t l r + mxA t r.ex r.ex.length) = false›; have z := rpE_c h0 b0 c; rw [prV_ok z, rpR_1 h0]; unfold rpF; exact .mk [] [] _ rfl (.le (.tups ⟨⟨trivial, ag16⟩, .intI z.symm⟩)) ⟨.le (.refl _), .le (.refl _), trivial⟩ rfl)
theorem c145xk (t : Trf) (l : Log) (r : Rm) (hs : Side (Rk t l r)) (n v : Nat) (w : Nat) (h0 : Side (r.ps ≠ 0))  (he : Side (rpE t l r = 0)) : Mut (Xc W0 Gt) 145 [trfA t, lgA l, .agg 16 (tbl (rmC r (.own 1 w) (.own 0 v)))] [cnO n v, mxO r.ex w] (.tup 2 (tbl [.agg 16 (tbl (rmC (rpR t l r) (.own 1 w) (.own 0 v))), .int .i64 0])) [cnO n v, mxO r.ex w] := by
 have w := c145x hX t l r hs n v w h0
 rw [prV_ok he.get, he.get] at w; exact w
theorem c145xe (t : Trf) (l : Log) (r : Rm) (hs : Side (Rk t l r)) (n v : Nat) (w : Nat) (h0 : Side (r.ps ≠ 0))  (he : Side (rpE t l r ≠ 0)) : Mut (Xc W0 Gt) 145 [trfA t, lgA l, .agg 16 (tbl (rmC r (.own 1 w) (.own 0 v)))] [cnO n v, mxO r.ex w] (.tup 2 (tbl [.agg 16 (fun _ => .any), .int .i64 (rpE t l r)])) [cnO n v, mxO r.ex w] := by
 have w := c145x hX t l r hs n v w h0
 rw [prV_er he.get] at w; exact w
end
open Go.Proofs Go.RowKit
section
variable {W0 : World} (hX : (Xc W0 Gt).Good)
include hX
omit hX in
theorem rrN_ok {t : Trf} {l : Log} {r : Rm} (g : Gd t l) (h : rrE t l r = 0) : 0 <= rrN t l r /\ rrN t l r < t.rules.length := by
 by_cases c : laterE (mX l) r.tk = 0
 ·have w := rr_0 (t := t) c
  rw [w.1] at h
  rw [w.2]
  exact hold_mem t _ t.rules.length _ (oneN_mem h)
 ·exact absurd ((rr_1 c).1.symm.trans h) c
set_option maxHeartbeats 1000000 in
theorem c141tf (t : Trf) (l : Log) (r : Rm) (hs : Side (Rk t l r)) (hq : Side ((rcB r true = true -> rrE t l r = 0) -> Rk t l (rcT t l r true))) (n v : Nat) (hn : Side (n <= 2000000)) (hb : Side (rcB r true = false)) (he : Side (rcE t l r true = 0)) : Mut (Xc W0 Gt) 141 [trfA t, lgA l, .agg 16 (tbl (rmC r (iRow r.ex) (.own 0 v))), .bool true] [cnO n v] (.tup 2 (tbl [.agg 16 (tbl (rmC (rcR t l r true) (iRow (rcR t l r true).ex) (.own 0 (v)))), .int .i64 0])) [cnO n v] := by
 have k := hs.get
 have hb := hb.get
 have he := he.get
 have hn := hn.get
 have gh := gd_head k.g.al
 have k1 := k.pa; have k2 := k.tk; have k3 := k.si
 have ht : true = false -> False := fun h => by cases h
 have eT : rcT t l r true = { r with si := 0, tk := r.tk + 1 } := by unfold rcT; rw [hb]; rfl
 have ec := rcE_f (t := t) (l := l) hb
 rw [eT] at ec
 have q := hq.get (fun h => by rw [hb] at h; cases h)
 rw [eT] at q
 have hx : rcB r true = true -> False := fun h => by rw [hb] at h; cases h
 rw [rcR_eq, eT]
 rw [ec] at he
 by_cases h0 : r.ps = 0
 ·have hp := c145pz hX t l { r with si := 0, tk := r.tk + 1 } (Side.mk q) n v (Side.mk h0)
  refine mut_of' hX (fnI Tryz.f141) rfl ?_
  repeat' (first
   | (refine Ax.go ?_; with_reducible first | (apply altM (ks := [0]) (m := 0); apply And.intro; apply Sc.of; apply (hp)) | apply Alt.one)
   | exact Cl.go
   | ((with_reducible refine (?_ : LeOks _ _ _)); first | exact ⟨.list fun _ _ _ _ => .any _, trivial⟩ | exact trivial | exact ⟨.refl _, trivial⟩ | exact ⟨.refl _, .refl _, trivial⟩)
   | ((fail_if_success refine Stop.go ?_); (first | exact (hx ‹_›).elim | exact (ht ‹_›).elim | rw [beqvv v] | (with_reducible first | apply And.intro | apply Cut.go | (refine impI ?_; intro _)) | (refine propI ?_; conv => whnf))))
  all_goals try exact nbZ
  all_goals try (exact owZ)
  all_goals (exact .mk [] [] _ rfl (.le (.tups ⟨⟨trivial, (ag16 (h6 := (show Le .slc0 (iRow (rpR t l { r with si := 0, tk := r.tk + 1 }).ex) from by rw [(rpR_0 (t := t) (l := l) (r := { r with si := 0, tk := r.tk + 1 }) h0).1]; exact .slc0 _ _)))⟩, .refl _⟩)) ⟨.le (.list fun _ _ _ _ => .any _), trivial⟩ rfl)
 ·have hp := c145pk hX t l { r with si := 0, tk := r.tk + 1 } (Side.mk q) n v (Side.mk h0) (Side.mk he)
  refine mut_of' hX (fnI Tryz.f141) rfl ?_
  repeat' (first
   | (refine Ax.go ?_; with_reducible first | (apply altM (ks := [0]) (m := 0); apply And.intro; apply Sc.of; apply (hp)) | apply Alt.one)
   | exact Cl.go
   | ((with_reducible refine (?_ : LeOks _ _ _)); first | exact ⟨.list fun _ _ _ _ => .any _, trivial⟩ | exact trivial | exact ⟨.refl _, trivial⟩ | exact ⟨.refl _, .refl _, trivial⟩)
   | ((fail_if_success refine Stop.go ?_); (first | exact (hx ‹_›).elim | exact (ht ‹_›).elim | rw [beqvv v] | (with_reducible first | apply And.intro | apply Cut.go | (refine impI ?_; intro _)) | (refine propI ?_; conv => whnf))))
  all_goals try exact nbZ
  all_goals try (exact owZ)
  all_goals (exact .mk [] [] _ rfl (.le (.tups ⟨⟨trivial, (ag16 (h6 := (show Le (iRow r.ex) (iRow (rpR t l { r with si := 0, tk := r.tk + 1 }).ex) from by rw [rpR_1 (t := t) (l := l) (r := { r with si := 0, tk := r.tk + 1 }) h0]; exact .refl _)))⟩, .refl _⟩)) ⟨.le (.list fun _ _ _ _ => .any _), trivial⟩ rfl)
set_option maxHeartbeats 1000000 in
theorem c141tfe (t : Trf) (l : Log) (r : Rm) (hs : Side (Rk t l r)) (hq : Side ((rcB r true = true -> rrE t l r = 0) -> Rk t l (rcT t l r true))) (n v : Nat) (hn : Side (n <= 2000000)) (hb : Side (rcB r true = false)) (he : Side (rcE t l r true ≠ 0)) : Mut (Xc W0 Gt) 141 [trfA t, lgA l, .agg 16 (tbl (rmC r (iRow r.ex) (.own 0 v))), .bool true] [cnO n v] (.tup 2 (tbl [.agg 16 (fun _ => .any), .int .i64 (rcE t l r true)])) [.dead] := by
 have k := hs.get
 have hb := hb.get
 have he := he.get
 have hn := hn.get
 have gh := gd_head k.g.al
 have k1 := k.pa; have k2 := k.tk; have k3 := k.si
 have ht : true = false -> False := fun h => by cases h
 have eT : rcT t l r true = { r with si := 0, tk := r.tk + 1 } := by unfold rcT; rw [hb]; rfl
 have ec := rcE_f (t := t) (l := l) hb
 rw [eT] at ec
 have q := hq.get (fun h => by rw [hb] at h; cases h)
 rw [eT] at q
 have hx : rcB r true = true -> False := fun h => by rw [hb] at h; cases h
 rw [ec] at he ⊢
 have h0 : r.ps ≠ 0 := fun h0 => he (rpR_0 (t := t) (l := l) (r := { r with si := 0, tk := r.tk + 1 }) h0).2
 have hp := c145pe hX t l { r with si := 0, tk := r.tk + 1 } (Side.mk q) n v (Side.mk h0) (Side.mk he)
 refine mut_of' hX (fnI Tryz.f141) rfl ?_
 repeat' (first
  | (refine Ax.go ?_; with_reducible first | (apply altM (ks := [0]) (m := 0); apply And.intro; apply Sc.of; apply (hp)) | apply Alt.one)
  | exact Cl.go
  | ((with_reducible refine (?_ : LeOks _ _ _)); first | exact ⟨.list fun _ _ _ _ => .any _, trivial⟩ | exact trivial | exact ⟨.refl _, trivial⟩ | exact ⟨.refl _, .refl _, trivial⟩)
  | ((fail_if_success refine Stop.go ?_); (first | exact (hx ‹_›).elim | exact (ht ‹_›).elim | rw [beqvv v] | (with_reducible first | apply And.intro | apply Cut.go | (refine impI ?_; intro _)) | (refine propI ?_; conv => whnf))))
 all_goals try exact nbZ
 all_goals try (exact owZ)
 all_goals (exact .mk [] [] _ rfl (.le (.tups ⟨⟨trivial, .agg fun _ _ => .any _⟩, .refl _⟩)) ⟨.le (.dead _), trivial⟩ rfl)
set_option maxHeartbeats 1000000 in
theorem c141tr (t : Trf) (l : Log) (r : Rm) (hs : Side (Rk t l r)) (hq : Side ((rcB r true = true -> rrE t l r = 0) -> Rk t l (rcT t l r true))) (n v : Nat) (hn : Side (n <= 2000000)) (hb : Side (rcB r true = true)) (he : Side (rrE t l r ≠ 0)) : Mut (Xc W0 Gt) 141 [trfA t, lgA l, .agg 16 (tbl (rmC r (iRow r.ex) (.own 0 v))), .bool true] [cnO n v] (.tup 2 (tbl [.agg 16 (fun _ => .any), .int .i64 (rcE t l r true)])) [.dead] := by
 have k := hs.get
 have hb := hb.get
 have he := he.get
 have hn := hn.get
 have gh := gd_head k.g.al
 have k1 := k.pa; have k2 := k.tk; have k3 := k.si
 have ht : true = false -> False := fun h => by cases h
 have hx : rcB r true = false -> False := fun h => by rw [hb] at h; cases h
 have hy : (rrE t l r != 0) = false -> False := fun h => he (bne_eq_false_iff_eq.1 h)
 rw [rcE_e hb he]
 refine mut_of' hX (fnI Tryz.f141) rfl ?_
 repeat' (first
  | (refine Ax.go ?_; first | ((with_reducible apply callAlt (c143 hX t l r hs)); case hl => ((repeat' (first | exact trivial | apply Le.aggs | exact Le.refl _ | exact Le.any _ | refine ⟨?_, ?_⟩)); done)) | apply Alt.one)
  | exact Cl.go
  | ((with_reducible refine (?_ : LeOks _ _ _)); first | exact ⟨.list fun _ _ _ _ => .any _, trivial⟩ | exact trivial | exact ⟨.refl _, trivial⟩ | exact ⟨.refl _, .refl _, trivial⟩)
  | ((fail_if_success refine Stop.go ?_); (first | exact (ht ‹_›).elim | exact (hx ‹_›).elim | exact (hy ‹_›).elim | rw [beqvv v] | (with_reducible first | apply And.intro | apply Cut.go | (refine impI ?_; intro _)) | (refine propI ?_; conv => whnf))))
 all_goals try exact nbZ
 all_goals (exact .mk [] [] _ rfl (.le (.tups ⟨⟨trivial, .agg fun _ _ => .any _⟩, .refl _⟩)) ⟨.le (.dead _), trivial⟩ rfl)
set_option maxHeartbeats 1000000 in
theorem c141ttt (t : Trf) (l : Log) (r : Rm) (hs : Side (Rk t l r)) (hq : Side ((rcB r true = true -> rrE t l r = 0) -> Rk t l (rcT t l r true))) (n v : Nat) (hn : Side (n <= 2000000)) (hb : Side (rcB r true = true)) (hr : Side (rrE t l r = 0)) (hw : Side (rcX t l r true = true)) (he : Side (rcE t l r true = 0)) : Mut (Xc W0 Gt) 141 [trfA t, lgA l, .agg 16 (tbl (rmC r (iRow r.ex) (.own 0 v))), .bool true] [cnO n v] (.tup 2 (tbl [.agg 16 (tbl (rmC (rcR t l r true) (iRow (rcR t l r true).ex) (.own 0 (v + 1)))), .int .i64 0])) [cnO (n + 1) (v + 1)] := by
 have k := hs.get
 have hb := hb.get
 have he := he.get
 have hn := hn.get
 have gh := gd_head k.g.al
 have k1 := k.pa; have k2 := k.tk; have k3 := k.si
 have ht : true = false -> False := fun h => by cases h
 have hr := hr.get
 have hw := hw.get
 have ps0 : r.ps = 1 \/ r.ps = 2 := by
  unfold rcB rrB at hb
  by_cases p1 : r.ps = 1
  ·exact .inl p1
  ·by_cases p2 : r.ps = 2
   ·exact .inr p2
   ·rw [beq_false_of_ne p1, beq_false_of_ne p2] at hb; cases hb
 have h0 : r.ps ≠ 0 := by omega
 have rn := rrN_ok k.g hr
 have hR := trf_rule k.g.trf (k := (rrN t l r).toNat) (by omega)
 have r1 := hR.me; have r2 := hR.se
 have rl := rules_len k.g.trf
 have d1 := mul_bd (A := 1000000000) (B := 20100000) (a := 1000 * (t.rules.getD (rrN t l r).toNat rul0).me) (b := r.si) (by omega) (by omega) k3.1 k3.2
 have d2 := mul_bd (A := 100000) (B := 1000000) (a := l.c) (b := (t.rules.getD (rrN t l r).toNat rul0).se) (by omega) (by omega) r2.1 r2.2
 have eT : rcT t l r true = { r with pa := r.pa + l.c * (t.rules.getD (rrN t l r).toNat rul0).se, si := 0, tk := r.tk + 1 } := by unfold rcT rcP; rw [hb, hw]; rfl
 have ec := rcE_t (t := t) (l := l) hb hr
 rw [eT] at ec
 have q := hq.get (fun _ => hr)
 rw [eT] at q
 have hx : rcB r true = false -> False := fun h => by rw [hb] at h; cases h
 have hy : (rrE t l r != 0) = true -> False := fun h => bne_iff_ne.1 h hr
 have hz : rcX t l r true = false -> False := fun h => by rw [hw] at h; cases h
 rw [rcR_eq, eT]
 rw [ec] at he
 have hp := c145pk hX t l { r with pa := r.pa + l.c * (t.rules.getD (rrN t l r).toNat rul0).se, si := 0, tk := r.tk + 1 } (Side.mk q) (n + 1) (v + 1) (Side.mk h0) (Side.mk he)
 refine mut_of' hX (fnI Tryz.f141) rfl ?_
 repeat' (first
  | (refine Ax.go ?_; first | ((with_reducible apply callAlt (c143 hX t l r hs)); case hl => ((repeat' (first | exact trivial | apply Le.aggs | exact Le.refl _ | exact Le.any _ | refine ⟨?_, ?_⟩)); done)) | (with_reducible (apply altM (ks := [0]) (m := 0); apply And.intro; apply Sc.of; apply (hp))) | apply Alt.one)
  | exact Cl.go
  | ((with_reducible refine (?_ : LeOks _ _ _)); first | exact ⟨.list fun _ _ _ _ => .any _, trivial⟩ | exact trivial | exact ⟨.refl _, trivial⟩ | exact ⟨.refl _, .refl _, trivial⟩)
  | ((fail_if_success refine Stop.go ?_); (first | exact (ht ‹_›).elim | exact (hx ‹_›).elim | exact (hy ‹_›).elim | exact (hz ‹_›).elim | rw [beqvv v] | (with_reducible first | apply And.intro | apply Cut.go | (refine impI ?_; intro _)) | (refine propI ?_; conv => whnf))))
 all_goals try exact nbZ
 all_goals try (exact owZ)
 all_goals try (exact .of (by omega))
 all_goals try (exact .of ⟨by show (n + (0 + 1)) * 48 <= 140737488355328; omega, by show n + (0 + 1) <= 9223372036854775807; omega⟩)
 all_goals try (exact .mk [] [] _ rfl (.le (.tups ⟨⟨trivial, (ag16 (h6 := (show Le (iRow r.ex) (iRow (rpR t l { r with pa := r.pa + l.c * (t.rules.getD (rrN t l r).toNat rul0).se, si := 0, tk := r.tk + 1 }).ex) from by rw [rpR_1 (t := t) (l := l) (r := { r with pa := r.pa + l.c * (t.rules.getD (rrN t l r).toNat rul0).se, si := 0, tk := r.tk + 1 }) h0]; exact .refl _)))⟩, .refl _⟩)) ⟨.le (.list fun _ _ _ _ => .any _), trivial⟩ rfl)
set_option maxHeartbeats 1000000 in
theorem c141ttte (t : Trf) (l : Log) (r : Rm) (hs : Side (Rk t l r)) (hq : Side ((rcB r true = true -> rrE t l r = 0) -> Rk t l (rcT t l r true))) (n v : Nat) (hn : Side (n <= 2000000)) (hb : Side (rcB r true = true)) (hr : Side (rrE t l r = 0)) (hw : Side (rcX t l r true = true)) (he : Side (rcE t l r true ≠ 0)) : Mut (Xc W0 Gt) 141 [trfA t, lgA l, .agg 16 (tbl (rmC r (iRow r.ex) (.own 0 v))), .bool true] [cnO n v] (.tup 2 (tbl [.agg 16 (fun _ => .any), .int .i64 (rcE t l r true)])) [.dead] := by
 have k := hs.get
 have hb := hb.get
 have he := he.get
 have hn := hn.get
 have gh := gd_head k.g.al
 have k1 := k.pa; have k2 := k.tk; have k3 := k.si
 have ht : true = false -> False := fun h => by cases h
 have hr := hr.get
 have hw := hw.get
 have ps0 : r.ps = 1 \/ r.ps = 2 := by
  unfold rcB rrB at hb
  by_cases p1 : r.ps = 1
  ·exact .inl p1
  ·by_cases p2 : r.ps = 2
   ·exact .inr p2
   ·rw [beq_false_of_ne p1, beq_false_of_ne p2] at hb; cases hb
 have h0 : r.ps ≠ 0 := by omega
 have rn := rrN_ok k.g hr
 have hR := trf_rule k.g.trf (k := (rrN t l r).toNat) (by omega)
 have r1 := hR.me; have r2 := hR.se
 have rl := rules_len k.g.trf
 have d1 := mul_bd (A := 1000000000) (B := 20100000) (a := 1000 * (t.rules.getD (rrN t l r).toNat rul0).me) (b := r.si) (by omega) (by omega) k3.1 k3.2
 have d2 := mul_bd (A := 100000) (B := 1000000) (a := l.c) (b := (t.rules.getD (rrN t l r).toNat rul0).se) (by omega) (by omega) r2.1 r2.2
 have eT : rcT t l r true = { r with pa := r.pa + l.c * (t.rules.getD (rrN t l r).toNat rul0).se, si := 0, tk := r.tk + 1 } := by unfold rcT rcP; rw [hb, hw]; rfl
 have ec := rcE_t (t := t) (l := l) hb hr
 rw [eT] at ec
 have q := hq.get (fun _ => hr)
 rw [eT] at q
 have hx : rcB r true = false -> False := fun h => by rw [hb] at h; cases h
 have hy : (rrE t l r != 0) = true -> False := fun h => bne_iff_ne.1 h hr
 have hz : rcX t l r true = false -> False := fun h => by rw [hw] at h; cases h
 rw [ec] at he ⊢
 have hp := c145pe hX t l { r with pa := r.pa + l.c * (t.rules.getD (rrN t l r).toNat rul0).se, si := 0, tk := r.tk + 1 } (Side.mk q) (n + 1) (v + 1) (Side.mk h0) (Side.mk he)
 refine mut_of' hX (fnI Tryz.f141) rfl ?_
 repeat' (first
  | (refine Ax.go ?_; first | ((with_reducible apply callAlt (c143 hX t l r hs)); case hl => ((repeat' (first | exact trivial | apply Le.aggs | exact Le.refl _ | exact Le.any _ | refine ⟨?_, ?_⟩)); done)) | (with_reducible (apply altM (ks := [0]) (m := 0); apply And.intro; apply Sc.of; apply (hp))) | apply Alt.one)
  | exact Cl.go
  | ((with_reducible refine (?_ : LeOks _ _ _)); first | exact ⟨.list fun _ _ _ _ => .any _, trivial⟩ | exact trivial | exact ⟨.refl _, trivial⟩ | exact ⟨.refl _, .refl _, trivial⟩)
  | ((fail_if_success refine Stop.go ?_); (first | exact (ht ‹_›).elim | exact (hx ‹_›).elim | exact (hy ‹_›).elim | exact (hz ‹_›).elim | rw [beqvv v] | (with_reducible first | apply And.intro | apply Cut.go | (refine impI ?_; intro _)) | (refine propI ?_; conv => whnf))))
 all_goals try exact nbZ
 all_goals try (exact owZ)
 all_goals try (exact .of (by omega))
 all_goals try (exact .of ⟨by show (n + (0 + 1)) * 48 <= 140737488355328; omega, by show n + (0 + 1) <= 9223372036854775807; omega⟩)
 all_goals try (exact .mk [] [] _ rfl (.le (.tups ⟨⟨trivial, .agg fun _ _ => .any _⟩, .refl _⟩)) ⟨.le (.dead _), trivial⟩ rfl)
set_option maxHeartbeats 1000000 in
theorem c141ttf (t : Trf) (l : Log) (r : Rm) (hs : Side (Rk t l r)) (hq : Side ((rcB r true = true -> rrE t l r = 0) -> Rk t l (rcT t l r true))) (n v : Nat) (hn : Side (n <= 2000000)) (hb : Side (rcB r true = true)) (hr : Side (rrE t l r = 0)) (hw : Side (rcX t l r true = false)) (he : Side (rcE t l r true = 0)) : Mut (Xc W0 Gt) 141 [trfA t, lgA l, .agg 16 (tbl (rmC r (iRow r.ex) (.own 0 v))), .bool true] [cnO n v] (.tup 2 (tbl [.agg 16 (tbl (rmC (rcR t l r true) (iRow (rcR t l r true).ex) (.own 0 (v + 1)))), .int .i64 0])) [cnO (n + 1) (v + 1)] := by
 have k := hs.get
 have hb := hb.get
 have he := he.get
 have hn := hn.get
 have gh := gd_head k.g.al
 have k1 := k.pa; have k2 := k.tk; have k3 := k.si
 have ht : true = false -> False := fun h => by cases h
 have hr := hr.get
 have hw := hw.get
 have ps0 : r.ps = 1 \/ r.ps = 2 := by
  unfold rcB rrB at hb
  by_cases p1 : r.ps = 1
  ·exact .inl p1
  ·by_cases p2 : r.ps = 2
   ·exact .inr p2
   ·rw [beq_false_of_ne p1, beq_false_of_ne p2] at hb; cases hb
 have h0 : r.ps ≠ 0 := by omega
 have rn := rrN_ok k.g hr
 have hR := trf_rule k.g.trf (k := (rrN t l r).toNat) (by omega)
 have r1 := hR.me; have r2 := hR.se
 have rl := rules_len k.g.trf
 have d1 := mul_bd (A := 1000000000) (B := 20100000) (a := 1000 * (t.rules.getD (rrN t l r).toNat rul0).me) (b := r.si) (by omega) (by omega) k3.1 k3.2
 have d2 := mul_bd (A := 100000) (B := 1000000) (a := l.c) (b := (t.rules.getD (rrN t l r).toNat rul0).se) (by omega) (by omega) r2.1 r2.2
 have eT : rcT t l r true = { r with pa := r.pa + 1000 * (t.rules.getD (rrN t l r).toNat rul0).me * r.si, si := 0, tk := r.tk + 1 } := by unfold rcT rcP; rw [hb, hw]; rfl
 have ec := rcE_t (t := t) (l := l) hb hr
 rw [eT] at ec
 have q := hq.get (fun _ => hr)
 rw [eT] at q
 have hx : rcB r true = false -> False := fun h => by rw [hb] at h; cases h
 have hy : (rrE t l r != 0) = true -> False := fun h => bne_iff_ne.1 h hr
 have hz : rcX t l r true = true -> False := fun h => by rw [hw] at h; cases h
 rw [rcR_eq, eT]
 rw [ec] at he
 have hp := c145pk hX t l { r with pa := r.pa + 1000 * (t.rules.getD (rrN t l r).toNat rul0).me * r.si, si := 0, tk := r.tk + 1 } (Side.mk q) (n + 1) (v + 1) (Side.mk h0) (Side.mk he)
 refine mut_of' hX (fnI Tryz.f141) rfl ?_
 repeat' (first
  | (refine Ax.go ?_; first | ((with_reducible apply callAlt (c143 hX t l r hs)); case hl => ((repeat' (first | exact trivial | apply Le.aggs | exact Le.refl _ | exact Le.any _ | refine ⟨?_, ?_⟩)); done)) | (with_reducible (apply altM (ks := [0]) (m := 0); apply And.intro; apply Sc.of; apply (hp))) | apply Alt.one)
  | exact Cl.go
  | ((with_reducible refine (?_ : LeOks _ _ _)); first | exact ⟨.list fun _ _ _ _ => .any _, trivial⟩ | exact trivial | exact ⟨.refl _, trivial⟩ | exact ⟨.refl _, .refl _, trivial⟩)
  | ((fail_if_success refine Stop.go ?_); (first | exact (ht ‹_›).elim | exact (hx ‹_›).elim | exact (hy ‹_›).elim | exact (hz ‹_›).elim | rw [beqvv v] | (with_reducible first | apply And.intro | apply Cut.go | (refine impI ?_; intro _)) | (refine propI ?_; conv => whnf))))
 all_goals try exact nbZ
 all_goals try (exact owZ)
 all_goals try (exact .of (by omega))
 all_goals try (exact .of ⟨by show (n + (0 + 1)) * 48 <= 140737488355328; omega, by show n + (0 + 1) <= 9223372036854775807; omega⟩)
 all_goals try (exact .mk [] [] _ rfl (.le (.tups ⟨⟨trivial, (ag16 (h6 := (show Le (iRow r.ex) (iRow (rpR t l { r with pa := r.pa + 1000 * (t.rules.getD (rrN t l r).toNat rul0).me * r.si, si := 0, tk := r.tk + 1 }).ex) from by rw [rpR_1 (t := t) (l := l) (r := { r with pa := r.pa + 1000 * (t.rules.getD (rrN t l r).toNat rul0).me * r.si, si := 0, tk := r.tk + 1 }) h0]; exact .refl _)))⟩, .refl _⟩)) ⟨.le (.list fun _ _ _ _ => .any _), trivial⟩ rfl)
set_option maxHeartbeats 1000000 in
theorem c141ttfe (t : Trf) (l : Log) (r : Rm) (hs : Side (Rk t l r)) (hq : Side ((rcB r true = true -> rrE t l r = 0) -> Rk t l (rcT t l r true))) (n v : Nat) (hn : Side (n <= 2000000)) (hb : Side (rcB r true = true)) (hr : Side (rrE t l r = 0)) (hw : Side (rcX t l r true = false)) (he : Side (rcE t l r true ≠ 0)) : Mut (Xc W0 Gt) 141 [trfA t, lgA l, .agg 16 (tbl (rmC r (iRow r.ex) (.own 0 v))), .bool true] [cnO n v] (.tup 2 (tbl [.agg 16 (fun _ => .any), .int .i64 (rcE t l r true)])) [.dead] := by
 have k := hs.get
 have hb := hb.get
 have he := he.get
 have hn := hn.get
 have gh := gd_head k.g.al
 have k1 := k.pa; have k2 := k.tk; have k3 := k.si
 have ht : true = false -> False := fun h => by cases h
 have hr := hr.get
 have hw := hw.get
 have ps0 : r.ps = 1 \/ r.ps = 2 := by
  unfold rcB rrB at hb
  by_cases p1 : r.ps = 1
  ·exact .inl p1
  ·by_cases p2 : r.ps = 2
   ·exact .inr p2
   ·rw [beq_false_of_ne p1, beq_false_of_ne p2] at hb; cases hb
 have h0 : r.ps ≠ 0 := by omega
 have rn := rrN_ok k.g hr
 have hR := trf_rule k.g.trf (k := (rrN t l r).toNat) (by omega)
 have r1 := hR.me; have r2 := hR.se
 have rl := rules_len k.g.trf
 have d1 := mul_bd (A := 1000000000) (B := 20100000) (a := 1000 * (t.rules.getD (rrN t l r).toNat rul0).me) (b := r.si) (by omega) (by omega) k3.1 k3.2
 have d2 := mul_bd (A := 100000) (B := 1000000) (a := l.c) (b := (t.rules.getD (rrN t l r).toNat rul0).se) (by omega) (by omega) r2.1 r2.2
 have eT : rcT t l r true = { r with pa := r.pa + 1000 * (t.rules.getD (rrN t l r).toNat rul0).me * r.si, si := 0, tk := r.tk + 1 } := by unfold rcT rcP; rw [hb, hw]; rfl
 have ec := rcE_t (t := t) (l := l) hb hr
 rw [eT] at ec
 have q := hq.get (fun _ => hr)
 rw [eT] at q
 have hx : rcB r true = false -> False := fun h => by rw [hb] at h; cases h
 have hy : (rrE t l r != 0) = true -> False := fun h => bne_iff_ne.1 h hr
 have hz : rcX t l r true = true -> False := fun h => by rw [hw] at h; cases h
 rw [ec] at he ⊢
 have hp := c145pe hX t l { r with pa := r.pa + 1000 * (t.rules.getD (rrN t l r).toNat rul0).me * r.si, si := 0, tk := r.tk + 1 } (Side.mk q) (n + 1) (v + 1) (Side.mk h0) (Side.mk he)
 refine mut_of' hX (fnI Tryz.f141) rfl ?_
 repeat' (first
  | (refine Ax.go ?_; first | ((with_reducible apply callAlt (c143 hX t l r hs)); case hl => ((repeat' (first | exact trivial | apply Le.aggs | exact Le.refl _ | exact Le.any _ | refine ⟨?_, ?_⟩)); done)) | (with_reducible (apply altM (ks := [0]) (m := 0); apply And.intro; apply Sc.of; apply (hp))) | apply Alt.one)
  | exact Cl.go
  | ((with_reducible refine (?_ : LeOks _ _ _)); first | exact ⟨.list fun _ _ _ _ => .any _, trivial⟩ | exact trivial | exact ⟨.refl _, trivial⟩ | exact ⟨.refl _, .refl _, trivial⟩)
  | ((fail_if_success refine Stop.go ?_); (first | exact (ht ‹_›).elim | exact (hx ‹_›).elim | exact (hy ‹_›).elim | exact (hz ‹_›).elim | rw [beqvv v] | (with_reducible first | apply And.intro | apply Cut.go | (refine impI ?_; intro _)) | (refine propI ?_; conv => whnf))))
 all_goals try exact nbZ
 all_goals try (exact owZ)
 all_goals try (exact .of (by omega))
 all_goals try (exact .of ⟨by show (n + (0 + 1)) * 48 <= 140737488355328; omega, by show n + (0 + 1) <= 9223372036854775807; omega⟩)
 all_goals try (exact .mk [] [] _ rfl (.le (.tups ⟨⟨trivial, .agg fun _ _ => .any _⟩, .refl _⟩)) ⟨.le (.dead _), trivial⟩ rfl)
set_option maxHeartbeats 1000000 in
theorem c141ff (t : Trf) (l : Log) (r : Rm) (hs : Side (Rk t l r)) (hq : Side ((rcB r false = true -> rrE t l r = 0) -> Rk t l (rcT t l r false))) (n v : Nat) (hn : Side (n <= 2000000)) (hb : Side (rcB r false = false)) (he : Side (rcE t l r false = 0)) : Mut (Xc W0 Gt) 141 [trfA t, lgA l, .agg 16 (tbl (rmC r (iRow r.ex) (.own 0 v))), .bool false] [cnO n v] (.tup 2 (tbl [.agg 16 (tbl (rmC (rcR t l r false) (iRow (rcR t l r false).ex) (.own 0 (v)))), .int .i64 0])) [cnO n v] := by
 have k := hs.get
 have hb := hb.get
 have he := he.get
 have hn := hn.get
 have gh := gd_head k.g.al
 have k1 := k.pa; have k2 := k.tk; have k3 := k.si
 have ht : false = true -> False := fun h => by cases h
 have eT : rcT t l r false = { r with si := 0, tk := r.tk } := by unfold rcT; rw [hb]; rfl
 have ec := rcE_f (t := t) (l := l) hb
 rw [eT] at ec
 have q := hq.get (fun h => by rw [hb] at h; cases h)
 rw [eT] at q
 have hx : rcB r false = true -> False := fun h => by rw [hb] at h; cases h
 rw [rcR_eq, eT]
 rw [ec] at he
 by_cases h0 : r.ps = 0
 ·have hp := c145pz hX t l { r with si := 0, tk := r.tk } (Side.mk q) n v (Side.mk h0)
  refine mut_of' hX (fnI Tryz.f141) rfl ?_
  repeat' (first
   | (refine Ax.go ?_; with_reducible first | (apply altM (ks := [0]) (m := 0); apply And.intro; apply Sc.of; apply (hp)) | apply Alt.one)
   | exact Cl.go
   | ((with_reducible refine (?_ : LeOks _ _ _)); first | exact ⟨.list fun _ _ _ _ => .any _, trivial⟩ | exact trivial | exact ⟨.refl _, trivial⟩ | exact ⟨.refl _, .refl _, trivial⟩)
   | ((fail_if_success refine Stop.go ?_); (first | exact (hx ‹_›).elim | exact (ht ‹_›).elim | rw [beqvv v] | (with_reducible first | apply And.intro | apply Cut.go | (refine impI ?_; intro _)) | (refine propI ?_; conv => whnf))))
  all_goals try exact nbZ
  all_goals try (exact owZ)
  all_goals (exact .mk [] [] _ rfl (.le (.tups ⟨⟨trivial, (ag16 (h6 := (show Le .slc0 (iRow (rpR t l { r with si := 0, tk := r.tk }).ex) from by rw [(rpR_0 (t := t) (l := l) (r := { r with si := 0, tk := r.tk }) h0).1]; exact .slc0 _ _)))⟩, .refl _⟩)) ⟨.le (.list fun _ _ _ _ => .any _), trivial⟩ rfl)
 ·have hp := c145pk hX t l { r with si := 0, tk := r.tk } (Side.mk q) n v (Side.mk h0) (Side.mk he)
  refine mut_of' hX (fnI Tryz.f141) rfl ?_
  repeat' (first
   | (refine Ax.go ?_; with_reducible first | (apply altM (ks := [0]) (m := 0); apply And.intro; apply Sc.of; apply (hp)) | apply Alt.one)
   | exact Cl.go
   | ((with_reducible refine (?_ : LeOks _ _ _)); first | exact ⟨.list fun _ _ _ _ => .any _, trivial⟩ | exact trivial | exact ⟨.refl _, trivial⟩ | exact ⟨.refl _, .refl _, trivial⟩)
   | ((fail_if_success refine Stop.go ?_); (first | exact (hx ‹_›).elim | exact (ht ‹_›).elim | rw [beqvv v] | (with_reducible first | apply And.intro | apply Cut.go | (refine impI ?_; intro _)) | (refine propI ?_; conv => whnf))))
  all_goals try exact nbZ
  all_goals try (exact owZ)
  all_goals (exact .mk [] [] _ rfl (.le (.tups ⟨⟨trivial, (ag16 (h6 := (show Le (iRow r.ex) (iRow (rpR t l { r with si := 0, tk := r.tk }).ex) from by rw [rpR_1 (t := t) (l := l) (r := { r with si := 0, tk := r.tk }) h0]; exact .refl _)))⟩, .refl _⟩)) ⟨.le (.list fun _ _ _ _ => .any _), trivial⟩ rfl)
set_option maxHeartbeats 1000000 in
theorem c141ffe (t : Trf) (l : Log) (r : Rm) (hs : Side (Rk t l r)) (hq : Side ((rcB r false = true -> rrE t l r = 0) -> Rk t l (rcT t l r false))) (n v : Nat) (hn : Side (n <= 2000000)) (hb : Side (rcB r false = false)) (he : Side (rcE t l r false ≠ 0)) : Mut (Xc W0 Gt) 141 [trfA t, lgA l, .agg 16 (tbl (rmC r (iRow r.ex) (.own 0 v))), .bool false] [cnO n v] (.tup 2 (tbl [.agg 16 (fun _ => .any), .int .i64 (rcE t l r false)])) [.dead] := by
 have k := hs.get
 have hb := hb.get
 have he := he.get
 have hn := hn.get
 have gh := gd_head k.g.al
 have k1 := k.pa; have k2 := k.tk; have k3 := k.si
 have ht : false = true -> False := fun h => by cases h
 have eT : rcT t l r false = { r with si := 0, tk := r.tk } := by unfold rcT; rw [hb]; rfl
 have ec := rcE_f (t := t) (l := l) hb
 rw [eT] at ec
 have q := hq.get (fun h => by rw [hb] at h; cases h)
 rw [eT] at q
 have hx : rcB r false = true -> False := fun h => by rw [hb] at h; cases h
 rw [ec] at he ⊢
 have h0 : r.ps ≠ 0 := fun h0 => he (rpR_0 (t := t) (l := l) (r := { r with si := 0, tk := r.tk }) h0).2
 have hp := c145pe hX t l { r with si := 0, tk := r.tk } (Side.mk q) n v (Side.mk h0) (Side.mk he)
 refine mut_of' hX (fnI Tryz.f141) rfl ?_
 repeat' (first
  | (refine Ax.go ?_; with_reducible first | (apply altM (ks := [0]) (m := 0); apply And.intro; apply Sc.of; apply (hp)) | apply Alt.one)
  | exact Cl.go
  | ((with_reducible refine (?_ : LeOks _ _ _)); first | exact ⟨.list fun _ _ _ _ => .any _, trivial⟩ | exact trivial | exact ⟨.refl _, trivial⟩ | exact ⟨.refl _, .refl _, trivial⟩)
  | ((fail_if_success refine Stop.go ?_); (first | exact (hx ‹_›).elim | exact (ht ‹_›).elim | rw [beqvv v] | (with_reducible first | apply And.intro | apply Cut.go | (refine impI ?_; intro _)) | (refine propI ?_; conv => whnf))))
 all_goals try exact nbZ
 all_goals try (exact owZ)
 all_goals (exact .mk [] [] _ rfl (.le (.tups ⟨⟨trivial, .agg fun _ _ => .any _⟩, .refl _⟩)) ⟨.le (.dead _), trivial⟩ rfl)
set_option maxHeartbeats 1000000 in
theorem c141fr (t : Trf) (l : Log) (r : Rm) (hs : Side (Rk t l r)) (hq : Side ((rcB r false = true -> rrE t l r = 0) -> Rk t l (rcT t l r false))) (n v : Nat) (hn : Side (n <= 2000000)) (hb : Side (rcB r false = true)) (he : Side (rrE t l r ≠ 0)) : Mut (Xc W0 Gt) 141 [trfA t, lgA l, .agg 16 (tbl (rmC r (iRow r.ex) (.own 0 v))), .bool false] [cnO n v] (.tup 2 (tbl [.agg 16 (fun _ => .any), .int .i64 (rcE t l r false)])) [.dead] := by
 have k := hs.get
 have hb := hb.get
 have he := he.get
 have hn := hn.get
 have gh := gd_head k.g.al
 have k1 := k.pa; have k2 := k.tk; have k3 := k.si
 have ht : false = true -> False := fun h => by cases h
 have hx : rcB r false = false -> False := fun h => by rw [hb] at h; cases h
 have hy : (rrE t l r != 0) = false -> False := fun h => he (bne_eq_false_iff_eq.1 h)
 rw [rcE_e hb he]
 refine mut_of' hX (fnI Tryz.f141) rfl ?_
 repeat' (first
  | (refine Ax.go ?_; first | ((with_reducible apply callAlt (c143 hX t l r hs)); case hl => ((repeat' (first | exact trivial | apply Le.aggs | exact Le.refl _ | exact Le.any _ | refine ⟨?_, ?_⟩)); done)) | apply Alt.one)
  | exact Cl.go
  | ((with_reducible refine (?_ : LeOks _ _ _)); first | exact ⟨.list fun _ _ _ _ => .any _, trivial⟩ | exact trivial | exact ⟨.refl _, trivial⟩ | exact ⟨.refl _, .refl _, trivial⟩)
  | ((fail_if_success refine Stop.go ?_); (first | exact (ht ‹_›).elim | exact (hx ‹_›).elim | exact (hy ‹_›).elim | rw [beqvv v] | (with_reducible first | apply And.intro | apply Cut.go | (refine impI ?_; intro _)) | (refine propI ?_; conv => whnf))))
 all_goals try exact nbZ
 all_goals (exact .mk [] [] _ rfl (.le (.tups ⟨⟨trivial, .agg fun _ _ => .any _⟩, .refl _⟩)) ⟨.le (.dead _), trivial⟩ rfl)
set_option maxHeartbeats 1000000 in
theorem c141ftf (t : Trf) (l : Log) (r : Rm) (hs : Side (Rk t l r)) (hq : Side ((rcB r false = true -> rrE t l r = 0) -> Rk t l (rcT t l r false))) (n v : Nat) (hn : Side (n <= 2000000)) (hb : Side (rcB r false = true)) (hr : Side (rrE t l r = 0)) (hw : Side (rcX t l r false = false)) (he : Side (rcE t l r false = 0)) : Mut (Xc W0 Gt) 141 [trfA t, lgA l, .agg 16 (tbl (rmC r (iRow r.ex) (.own 0 v))), .bool false] [cnO n v] (.tup 2 (tbl [.agg 16 (tbl (rmC (rcR t l r false) (iRow (rcR t l r false).ex) (.own 0 (v + 1)))), .int .i64 0])) [cnO (n + 1) (v + 1)] := by
 have k := hs.get
 have hb := hb.get
 have he := he.get
 have hn := hn.get
 have gh := gd_head k.g.al
 have k1 := k.pa; have k2 := k.tk; have k3 := k.si
 have ht : false = true -> False := fun h => by cases h
 have hr := hr.get
 have hw := hw.get
 have ps0 : r.ps = 1 \/ r.ps = 2 := by
  unfold rcB rrB at hb
  by_cases p1 : r.ps = 1
  ·exact .inl p1
  ·by_cases p2 : r.ps = 2
   ·exact .inr p2
   ·rw [beq_false_of_ne p1, beq_false_of_ne p2] at hb; cases hb
 have h0 : r.ps ≠ 0 := by omega
 have rn := rrN_ok k.g hr
 have hR := trf_rule k.g.trf (k := (rrN t l r).toNat) (by omega)
 have r1 := hR.me; have r2 := hR.se
 have rl := rules_len k.g.trf
 have d1 := mul_bd (A := 1000000000) (B := 20100000) (a := 1000 * (t.rules.getD (rrN t l r).toNat rul0).me) (b := r.si) (by omega) (by omega) k3.1 k3.2
 have d2 := mul_bd (A := 100000) (B := 1000000) (a := l.c) (b := (t.rules.getD (rrN t l r).toNat rul0).se) (by omega) (by omega) r2.1 r2.2
 have eT : rcT t l r false = { r with pa := r.pa + 1000 * (t.rules.getD (rrN t l r).toNat rul0).me * r.si, si := 0, tk := r.tk } := by unfold rcT rcP; rw [hb, hw]; rfl
 have ec := rcE_t (t := t) (l := l) hb hr
 rw [eT] at ec
 have q := hq.get (fun _ => hr)
 rw [eT] at q
 have hx : rcB r false = false -> False := fun h => by rw [hb] at h; cases h
 have hy : (rrE t l r != 0) = true -> False := fun h => bne_iff_ne.1 h hr
 have hz : rcX t l r false = true -> False := fun h => by rw [hw] at h; cases h
 rw [rcR_eq, eT]
 rw [ec] at he
 have hp := c145pk hX t l { r with pa := r.pa + 1000 * (t.rules.getD (rrN t l r).toNat rul0).me * r.si, si := 0, tk := r.tk } (Side.mk q) (n + 1) (v + 1) (Side.mk h0) (Side.mk he)
 refine mut_of' hX (fnI Tryz.f141) rfl ?_
 repeat' (first
  | (refine Ax.go ?_; first | ((with_reducible apply callAlt (c143 hX t l r hs)); case hl => ((repeat' (first | exact trivial | apply Le.aggs | exact Le.refl _ | exact Le.any _ | refine ⟨?_, ?_⟩)); done)) | (with_reducible (apply altM (ks := [0]) (m := 0); apply And.intro; apply Sc.of; apply (hp))) | apply Alt.one)
  | exact Cl.go
  | ((with_reducible refine (?_ : LeOks _ _ _)); first | exact ⟨.list fun _ _ _ _ => .any _, trivial⟩ | exact trivial | exact ⟨.refl _, trivial⟩ | exact ⟨.refl _, .refl _, trivial⟩)
  | ((fail_if_success refine Stop.go ?_); (first | exact (ht ‹_›).elim | exact (hx ‹_›).elim | exact (hy ‹_›).elim | exact (hz ‹_›).elim | rw [beqvv v] | (with_reducible first | apply And.intro | apply Cut.go | (refine impI ?_; intro _)) | (refine propI ?_; conv => whnf))))
 all_goals try exact nbZ
 all_goals try (exact owZ)
 all_goals try (exact .of (by omega))
 all_goals try (exact .of ⟨by show (n + (0 + 1)) * 48 <= 140737488355328; omega, by show n + (0 + 1) <= 9223372036854775807; omega⟩)
 all_goals try (exact .mk [] [] _ rfl (.le (.tups ⟨⟨trivial, (ag16 (h6 := (show Le (iRow r.ex) (iRow (rpR t l { r with pa := r.pa + 1000 * (t.rules.getD (rrN t l r).toNat rul0).me * r.si, si := 0, tk := r.tk }).ex) from by rw [rpR_1 (t := t) (l := l) (r := { r with pa := r.pa + 1000 * (t.rules.getD (rrN t l r).toNat rul0).me * r.si, si := 0, tk := r.tk }) h0]; exact .refl _)))⟩, .refl _⟩)) ⟨.le (.list fun _ _ _ _ => .any _), trivial⟩ rfl)
set_option maxHeartbeats 1000000 in
theorem c141ftfe (t : Trf) (l : Log) (r : Rm) (hs : Side (Rk t l r)) (hq : Side ((rcB r false = true -> rrE t l r = 0) -> Rk t l (rcT t l r false))) (n v : Nat) (hn : Side (n <= 2000000)) (hb : Side (rcB r false = true)) (hr : Side (rrE t l r = 0)) (hw : Side (rcX t l r false = false)) (he : Side (rcE t l r false ≠ 0)) : Mut (Xc W0 Gt) 141 [trfA t, lgA l, .agg 16 (tbl (rmC r (iRow r.ex) (.own 0 v))), .bool false] [cnO n v] (.tup 2 (tbl [.agg 16 (fun _ => .any), .int .i64 (rcE t l r false)])) [.dead] := by
 have k := hs.get
 have hb := hb.get
 have he := he.get
 have hn := hn.get
 have gh := gd_head k.g.al
 have k1 := k.pa; have k2 := k.tk; have k3 := k.si
 have ht : false = true -> False := fun h => by cases h
 have hr := hr.get
 have hw := hw.get
 have ps0 : r.ps = 1 \/ r.ps = 2 := by
  unfold rcB rrB at hb
  by_cases p1 : r.ps = 1
  ·exact .inl p1
  ·by_cases p2 : r.ps = 2
   ·exact .inr p2
   ·rw [beq_false_of_ne p1, beq_false_of_ne p2] at hb; cases hb
 have h0 : r.ps ≠ 0 := by omega
 have rn := rrN_ok k.g hr
 have hR := trf_rule k.g.trf (k := (rrN t l r).toNat) (by omega)
 have r1 := hR.me; have r2 := hR.se
 have rl := rules_len k.g.trf
 have d1 := mul_bd (A := 1000000000) (B := 20100000) (a := 1000 * (t.rules.getD (rrN t l r).toNat rul0).me) (b := r.si) (by omega) (by omega) k3.1 k3.2
 have d2 := mul_bd (A := 100000) (B := 1000000) (a := l.c) (b := (t.rules.getD (rrN t l r).toNat rul0).se) (by omega) (by omega) r2.1 r2.2
 have eT : rcT t l r false = { r with pa := r.pa + 1000 * (t.rules.getD (rrN t l r).toNat rul0).me * r.si, si := 0, tk := r.tk } := by unfold rcT rcP; rw [hb, hw]; rfl
 have ec := rcE_t (t := t) (l := l) hb hr
 rw [eT] at ec
 have q := hq.get (fun _ => hr)
 rw [eT] at q
 have hx : rcB r false = false -> False := fun h => by rw [hb] at h; cases h
 have hy : (rrE t l r != 0) = true -> False := fun h => bne_iff_ne.1 h hr
 have hz : rcX t l r false = true -> False := fun h => by rw [hw] at h; cases h
 rw [ec] at he ⊢
 have hp := c145pe hX t l { r with pa := r.pa + 1000 * (t.rules.getD (rrN t l r).toNat rul0).me * r.si, si := 0, tk := r.tk } (Side.mk q) (n + 1) (v + 1) (Side.mk h0) (Side.mk he)
 refine mut_of' hX (fnI Tryz.f141) rfl ?_
 repeat' (first
  | (refine Ax.go ?_; first | ((with_reducible apply callAlt (c143 hX t l r hs)); case hl => ((repeat' (first | exact trivial | apply Le.aggs | exact Le.refl _ | exact Le.any _ | refine ⟨?_, ?_⟩)); done)) | (with_reducible (apply altM (ks := [0]) (m := 0); apply And.intro; apply Sc.of; apply (hp))) | apply Alt.one)
  | exact Cl.go
  | ((with_reducible refine (?_ : LeOks _ _ _)); first | exact ⟨.list fun _ _ _ _ => .any _, trivial⟩ | exact trivial | exact ⟨.refl _, trivial⟩ | exact ⟨.refl _, .refl _, trivial⟩)
  | ((fail_if_success refine Stop.go ?_); (first | exact (ht ‹_›).elim | exact (hx ‹_›).elim | exact (hy ‹_›).elim | exact (hz ‹_›).elim | rw [beqvv v] | (with_reducible first | apply And.intro | apply Cut.go | (refine impI ?_; intro _)) | (refine propI ?_; conv => whnf))))
 all_goals try exact nbZ
 all_goals try (exact owZ)
 all_goals try (exact .of (by omega))
 all_goals try (exact .of ⟨by show (n + (0 + 1)) * 48 <= 140737488355328; omega, by show n + (0 + 1) <= 9223372036854775807; omega⟩)
 all_goals try (exact .mk [] [] _ rfl (.le (.tups ⟨⟨trivial, .agg fun _ _ => .any _⟩, .refl _⟩)) ⟨.le (.dead _), trivial⟩ rfl)
end
open Go.RowKit
theorem Mut.renew {X : Ctx} {f : FuncId} {args : List AV} {L : List HObj} {e es n ver e1 es1 : Nat} {F F1 : Nat -> Nat -> AV} {cells cells2 : List AV} {y : AV} (h : Mut X f args L (.tup 2 (tbl [.agg 16 (tbl cells), y])) [.list e es n F ver])
  (h15 : cells[15]? = some .slc0) (e2 : cells2[15]? = some (.own 0 (ver + 1))) (hc : ∀ j, j < 15 -> cells2.getD j .any = cells.getD j .any) : Mut X f args L (.tup 2 (tbl [.agg 16 (tbl cells2), y])) [.list e1 es1 0 F1 (ver + 1)] := by
 refine h.conv fun c c' v hL ht hH hr => ?_
 have hok := ht.ok
 have hk : c'.H[0]? = some (.list e es n F ver) := by rw [hH]; rfl
 have hob := hok.obj 0 _ hk
 obtain ⟨v1, v0, _⟩ := hob
 obtain ⟨cs, rfl, hs, hr⟩ := hr
 obtain ⟨x0, a1, a2⟩ := hr 0 (by omega)
 obtain ⟨x1, b1, b2⟩ := hr 1 (by omega)
 obtain ⟨ds, rfl, ds1, ds2⟩ := (show c'.Reads (.agg 16 (tbl cells)) x0 from a2)
 obtain ⟨z, z1, z2, z3⟩ := ds2 15 (by omega)
 have e15 : tbl cells 15 = .slc0 := by unfold tbl; rw [List.getD_eq_getElem?_getD, h15]; rfl
 rw [e15] at z3
 obtain ⟨a, rfl⟩ := z3
 have t1 := Tr.alter (c := c') (w' := c'.w) (k := 0) (x := ⟨(c'.g 0).b, .slice a 0 0, ver + 1⟩) (o' := .list e1 es1 0 F1 (ver + 1)) hok hk rfl rfl rfl (Nat.le_refl _) (fun b _ _ => rfl) (fun _ => rfl) (by show (c'.g 0).ver <= ver + 1; omega)
  (fun e => by have e : ver + 1 = (c'.g 0).ver := e; omega) (fun b hb => by simp [blk, upd_same, vblk] at hb)
  ⟨by rw [upd_same], Nat.succ_pos _, [], .inl ⟨rfl, rfl, a, by rw [upd_same]⟩, by simp, fun i j hi => by omega⟩
 refine ⟨_, by rfl, ht.trans t1, by simp [hH], cs, rfl, hs, fun j hj => ?_⟩
 rcases (show j = 0 \/ j = 1 by omega) with rfl | rfl
 ·refine ⟨_, a1, ds, rfl, ds1, fun j hj => ?_⟩
  by_cases q : j = 15
  ·subst q
   refine ⟨_, z1, z2, ?_⟩
   have e : tbl cells2 15 = .own 0 (ver + 1) := by unfold tbl; rw [List.getD_eq_getElem?_getD, e2]; rfl
   rw [e]
   refine ⟨by simp [hH], ?_, rfl, fun _ => ?_⟩
   ·exact Nat.le_of_eq (congrArg GO.ver (upd_same c'.g 0 ⟨(c'.g 0).b, .slice a 0 0, ver + 1⟩)).symm
   ·exact (congrArg GO.v (upd_same c'.g 0 ⟨(c'.g 0).b, .slice a 0 0, ver + 1⟩)).symm
  ·obtain ⟨u, u1, u2, u3⟩ := ds2 j hj
   refine ⟨u, u1, u2, ?_⟩
   have e : tbl cells2 j = tbl cells j := hc j (by omega)
   rw [e]
   exact t1.reads u3
 ·exact ⟨_, b1, t1.reads b2⟩
open Go.Proofs Go.RowKit
section
variable {W0 : World} (hX : (Xc W0 Gt).Good)
include hX
theorem c141t_ok (t : Trf) (l : Log) (r : Rm) (hs : Side (Rk t l r)) (hq : Side ((rcB r true = true -> rrE t l r = 0) -> Rk t l (rcT t l r true))) (n v : Nat) (hn : Side (n <= 2000000)) (he : rcE t l r true = 0) : Mut (Xc W0 Gt) 141 [trfA t, lgA l, .agg 16 (tbl (rmC r (iRow r.ex) (.own 0 v))), .bool true] [cnO n v] (.tup 2 (tbl [.agg 16 (tbl (rmC (rcR t l r true) (iRow (rcR t l r true).ex) (.own 0 (v + kB r true)))), .int .i64 0])) [cnO (n + kB r true) (v + kB r true)] := by
 cases hb : rcB r true
 ·have e0 : kB r true = 0 := by unfold kB; rw [hb]; rfl
  rw [e0]
  exact c141tf hX t l r hs hq n v hn (Side.mk hb) (Side.mk he)
 ·have e1 : kB r true = 1 := by unfold kB; rw [hb]; rfl
  rw [e1]
  have hr : rrE t l r = 0 := Decidable.byContradiction fun q => by rw [rcE_e hb q] at he; exact q he
  cases hw : rcX t l r true
  ·exact c141ttf hX t l r hs hq n v hn (Side.mk hb) (Side.mk hr) (Side.mk hw) (Side.mk he)
  ·exact c141ttt hX t l r hs hq n v hn (Side.mk hb) (Side.mk hr) (Side.mk hw) (Side.mk he)
theorem c141t_er (t : Trf) (l : Log) (r : Rm) (hs : Side (Rk t l r)) (hq : Side ((rcB r true = true -> rrE t l r = 0) -> Rk t l (rcT t l r true))) (n v : Nat) (hn : Side (n <= 2000000)) (he : rcE t l r true ≠ 0) : Mut (Xc W0 Gt) 141 [trfA t, lgA l, .agg 16 (tbl (rmC r (iRow r.ex) (.own 0 v))), .bool true] [cnO n v] (.tup 2 (tbl [.agg 16 (fun _ => .any), .int .i64 (rcE t l r true)])) [.dead] := by
 cases hb : rcB r true
 ·exact c141tfe hX t l r hs hq n v hn (Side.mk hb) (Side.mk he)
 ·by_cases hr : rrE t l r = 0
  ·skip
   cases hw : rcX t l r true
   ·exact c141ttfe hX t l r hs hq n v hn (Side.mk hb) (Side.mk hr) (Side.mk hw) (Side.mk he)
   ·exact c141ttte hX t l r hs hq n v hn (Side.mk hb) (Side.mk hr) (Side.mk hw) (Side.mk he)
  ·exact c141tr hX t l r hs hq n v hn (Side.mk hb) (Side.mk hr)
theorem c141f_ok (t : Trf) (l : Log) (r : Rm) (hs : Side (Rk t l r)) (hq : Side ((rcB r false = true -> rrE t l r = 0) -> Rk t l (rcT t l r false))) (n v : Nat) (hn : Side (n <= 2000000)) (he : rcE t l r false = 0) : Mut (Xc W0 Gt) 141 [trfA t, lgA l, .agg 16 (tbl (rmC r (iRow r.ex) (.own 0 v))), .bool false] [cnO n v] (.tup 2 (tbl [.agg 16 (tbl (rmC (rcR t l r false) (iRow (rcR t l r false).ex) (.own 0 (v + kB r false)))), .int .i64 0])) [cnO (n + kB r false) (v + kB r false)] := by
 cases hb : rcB r false
 ·have e0 : kB r false = 0 := by unfold kB; rw [hb]; rfl
  rw [e0]
  exact c141ff hX t l r hs hq n v hn (Side.mk hb) (Side.mk he)
 ·have e1 : kB r false = 1 := by unfold kB; rw [hb]; rfl
  rw [e1]
  have hr : rrE t l r = 0 := Decidable.byContradiction fun q => by rw [rcE_e hb q] at he; exact q he
  exact c141ftf hX t l r hs hq n v hn (Side.mk hb) (Side.mk hr) (Side.mk rfl) (Side.mk he)
theorem c141f_er (t : Trf) (l : Log) (r : Rm) (hs : Side (Rk t l r)) (hq : Side ((rcB r false = true -> rrE t l r = 0) -> Rk t l (rcT t l r false))) (n v : Nat) (hn : Side (n <= 2000000)) (he : rcE t l r false ≠ 0) : Mut (Xc W0 Gt) 141 [trfA t, lgA l, .agg 16 (tbl (rmC r (iRow r.ex) (.own 0 v))), .bool false] [cnO n v] (.tup 2 (tbl [.agg 16 (fun _ => .any), .int .i64 (rcE t l r false)])) [.dead] := by
 cases hb : rcB r false
 ·exact c141ffe hX t l r hs hq n v hn (Side.mk hb) (Side.mk he)
 ·by_cases hr : rrE t l r = 0
  ·skip
   exact c141ftfe hX t l r hs hq n v hn (Side.mk hb) (Side.mk hr) (Side.mk rfl) (Side.mk he)
  ·exact c141fr hX t l r hs hq n v hn (Side.mk hb) (Side.mk hr)
theorem c55o (l : List Int) (hs : Side (l.length <= 1000)) : Mut (Xc W0 Gt) 55 [iRow l] [] (.own 0 1) [mxO l 1] := by
 have hs := hs.get
 refine mut_of' hX (fnI Tryz.f55) rfl ?_
 repeat' (first
  | (refine Ax.go ?_; apply Alt.one)
  | exact Cl.go
  | ((with_reducible refine (?_ : LeOks _ _ _)); first | exact ⟨.list fun _ _ _ _ => .any _, trivial⟩ | exact trivial | exact ⟨.refl _, trivial⟩ | exact ⟨.refl _, .refl _, trivial⟩)
  | ((fail_if_success refine Stop.go ?_); first | (with_reducible first | apply And.intro | apply Cut.go | (refine impI ?_; intro _)) | (refine propI ?_; conv => whnf)))
 all_goals try exact nbZ
 all_goals first
  | (refine Sc.of ⟨?_, by omega⟩; show l.length * 8 <= 140737488355328; omega)
  | exact .mk [0] [] _ rfl (.le (.refl _)) ⟨.le (.refl _), trivial⟩ rfl
end
end Go.Fx
