/-
 The body of TopMeterTampered.
-/
import Derived.Test.YtfdegaojblmdiaaGreatDoorGb
import Derived.Test.YtfdegaojblmdiaaGreatDoorGd
import Derived.Test.YtfdegaojblmdiaaGreatDoorGg
set_option linter.all false
namespace Go.Fx
open Go.Proofs Go.RowKit
theorem tam_g {t : Trf} {l : Log} (h : (bif (bif (bif !fewB t then true else !briefB l) then true else decide (30 < (l.ev.length : Int))) then true else leE t l != 0) = false) : TOk t /\ l.ev.length <= 30 /\ leE t l = 0 := by
 cases hf : fewB t
 ·rw [hf] at h; cases h
 cases hx : briefB l
 ·rw [hf, hx] at h; cases h
 ·rw [hf, hx] at h
  cases hb : decide (30 < (l.ev.length : Int))
  ·rw [hb] at h
   have hb := of_decide_eq_false hb
   have h : (leE t l != 0) = false := h
   exact ⟨(few_ok hf).1, by omega, bne_eq_false_iff_eq.1 h⟩
  ·rw [hb] at h; cases h
theorem nofT {b : Bool} (h : (!b) = false) : b = true := by cases b; cases h; rfl
theorem bifT {a b : Bool} (h : (bif a then true else b) = true) : a = true \/ b = true := by cases a <;> simp_all
theorem or_f {a b : Bool} (h : (bif a then true else b) = false) : a = false /\ b = false := by cases a <;> simp_all
theorem ne_t {a b : Int} (h : (a != b) = true) : a ≠ b := bne_iff_ne.1 h
@[irreducible] def modQ (n k : Int) : Int := bif decide (n.tmod k < 0) then n.tmod k + k else n.tmod k
theorem modQ_bd {n k : Int} (h : 0 < k) : 0 <= modQ n k /\ modQ n k < k := by
 have b1 := Int.tmod_lt_of_pos n h
 have b2 := Int.lt_tmod_of_pos n h
 unfold modQ
 by_cases c : n.tmod k < 0
 ·rw [decide_eq_true c]; show 0 <= n.tmod k + k /\ n.tmod k + k < k; omega
 ·rw [decide_eq_false c]; show 0 <= n.tmod k /\ n.tmod k < k; omega
theorem modQ_n {n k : Int} (h : n.tmod k < 0) : modQ n k = n.tmod k + k := by unfold modQ; rw [decide_eq_true h]; rfl
theorem modQ_p {n k : Int} (h : ¬ n.tmod k < 0) : modQ n k = n.tmod k := by unfold modQ; rw [decide_eq_false h]; rfl
def mdN (n : Int) (k : Nat) : Nat := (modQ n k).toNat
theorem evIs_hd {l : Log} {k : Nat} (hk : k <= l.ev.length) : evIs (hdL l k) (((k : Nat) : Int).toNat - Int.toNat 0) (fun q j => (fun i j => tbl (evC (l.ev.getD i ev0)) j) (Int.toNat 0 + q) j) := by
 refine ⟨by rw [hd_len hk]; omega, fun i j hi _ => .ofEq ?_⟩
 show tbl (evC (l.ev.getD (Int.toNat 0 + i) ev0)) j = _
 rw [hd_at (show i < k by omega), show Int.toNat 0 + i = i by omega]
theorem evIs_bt {l : Log} {k : Nat} (hk : k <= l.ev.length) (hs : sealE (hdL l k) = 0) : evIs (bthL l k) ((sealL (hdL l k)).ev.length + ((l.ev.length : Int).toNat - ((k : Nat) : Int).toNat)) (joinF (sealL (hdL l k)).ev.length (fun i j => tbl (evC ((sealL (hdL l k)).ev.getD i ev0)) j) fun q j => (fun i j => tbl (evC (l.ev.getD i ev0)) j) (((k : Nat) : Int).toNat + q) j) := by
 have S := seal_at hs
 have B := bth_seal (l := l) hk
 have hl := hd_len (l := l) hk
 have sl : (sealL (hdL l k)).ev.length = k + 1 := by rw [S.len, hl]
 refine ⟨by rw [sl, B.len]; omega, fun i j hi _ => .ofEq ?_⟩
 rw [sl] at hi ⊢
 unfold joinF
 by_cases c : i < k + 1
 ·rw [if_pos c]
  show tbl (evC ((sealL (hdL l k)).ev.getD i ev0)) j = _
  by_cases d : i < k
  ·rw [S.lo (by rw [hl]; exact d), hd_at d, B.lo d]
  ·obtain rfl : i = k := by omega
   have a := S.at_
   rw [hl] at a
   rw [a, B.at_, hd_eq]
   show tbl (evC ⟨6, sumL 1 ((l.ev.take i).take i)⟩) j = _
   rw [List.take_take, Nat.min_self]
 ·rw [if_neg c]
  obtain ⟨m, rfl⟩ : ∃ m, i = m + 1 := ⟨i - 1, by omega⟩
  show tbl (evC (l.ev.getD (((k : Nat) : Int).toNat + (m + 1 - (k + 1))) ev0)) j = _
  rw [B.hi (by omega), Int.toNat_natCast, show k + (m + 1 - (k + 1)) = m by omega]
theorem tam_fin {t : Trf} {y : Log} {a k q : Nat} {u v : Int} (h : u = v \/ (ffE t y = 0 /\ (a : Int) <= ffI t y /\ ffI t y <= (q : Int) /\ (a < k \/ slN y (ffI t y).toNat = k))) : (bif u == v then true else bif (bif ffE t y == 0 then inB (ffZ t y (ffI t y)) a q else false) then (bif decide ((a : Int) < (k : Int)) then true else ffZ t y (slN y (ffI t y).toNat) == (k : Int)) else false) = true := by
 rcases h with h | ⟨h1, h2, h3, h4⟩
 ·rw [h, beq_self_eq_true]; rfl
 ·have z : ∀ n, ffZ t y n = n := fun n => by unfold ffZ; rw [h1]; rfl
  rw [z, z, h1, inB_iff.2 ⟨h2, h3⟩]
  rcases h4 with h | h
  ·rw [decide_eq_true (show (a : Int) < (k : Int) by omega)]; cases u == v <;> rfl
  ·rw [h, beq_self_eq_true (k : Int)]; cases u == v <;> cases decide ((a : Int) < (k : Int)) <;> rfl
theorem mdN_bd {n : Int} {k : Nat} (h : 0 < k) : mdN n k < k := by have := modQ_bd (n := n) (k := k) (by omega); unfold mdN; omega
theorem mdN_int {n : Int} {k : Nat} (h : 0 < k) : modQ n k = ((mdN n k : Nat) : Int) := by have := modQ_bd (n := n) (k := k) (by omega); unfold mdN; omega
section
variable {W0 : World} (hX : (Xc W0 Gt).Good) (haw : Pure (Xc W0 Gt) 34 [] (.bool true))
include hX haw
omit haw in
theorem c37 (n : Int) (k : Nat) (hk : Side (0 < k /\ k <= 1000000)) : Pure (Xc W0 Gt) 37 [.int .i64 n, .int .i64 k] (.int .i64 ((mdN n k : Nat) : Int)) := by
 have hk := hk.get
 have b1 := Int.tmod_lt_of_pos n (show (0 : Int) < k by omega)
 have b2 := Int.lt_tmod_of_pos n (show (0 : Int) < k by omega)
 refine mut_of' hX (fnI Tryz.f37) rfl ?_
 repeat' (first
  | (refine Ax.go ?_; apply Alt.one)
  | exact Cz.go
  | ((fail_if_success refine Stop.go ?_); first | (with_reducible first | apply And.intro | apply Cut.go | (refine impI ?_; intro _)) | (refine propI ?_; conv => whnf)))
 all_goals try exact nbZ
 all_goals try (exact .of (by omega))
 all_goals try (exact .of (show -9223372036854775808 <= n.tmod k + k /\ n.tmod k + k <= 9223372036854775807 from ⟨by omega, by omega⟩))
 ·rename_i v; rw [<- mdN_int hk.1, modQ_n (of_decide_eq_true v)]; exact .mk [] [] _ rfl (.le (.refl _)) trivial rfl
 ·rename_i v; rw [<- mdN_int hk.1, modQ_p (of_decide_eq_false v)]; exact .mk [] [] _ rfl (.le (.refl _)) trivial rfl
omit haw in
theorem c37i (n : Int) (k : Nat) (hk : Side (k + 1 <= 1000000)) : Pure (Xc W0 Gt) 37 [.int .i64 n, .int .i64 ((k : Int) + 1)] (.int .i64 ((mdN n (k + 1) : Nat) : Int)) := c37 hX n (k + 1) (Side.mk ⟨by omega, hk.get⟩)
omit haw in
theorem c21g (y : Log) (n v : Nat) (F : Nat -> Nat -> AV) (hy : Side (evIs y n F)) : Mut (Xc W0 Gt) 21 [.agg 4 (tbl (logC y (.own 0 v)))] [.list 41 2 n F v] (.tup 2 (tbl [lgA (sealL y), .int .i64 (sealE y)])) [.dead] :=
 Mut.give (c21 hX y) rfl rfl (evIs_give hy.get)
omit haw in
theorem c21d (l : Log) (k n v : Nat) (F : Nat -> Nat -> AV) (hy : Side (evIs (hdL l k) n F)) : Mut (Xc W0 Gt) 21 [.agg 4 (tbl (logC l (.own 0 v)))] [.list 41 2 n F v] (.tup 2 (tbl [lgA (sealL (hdL l k)), .int .i64 (sealE (hdL l k))])) [.dead] := by
 have w := c21g hX (hdL l k) n v F hy
 have e := hd_c (l := l) (k := k)
 unfold logC at w ⊢
 rw [e.1, e.2.1, e.2.2] at w; exact w
omit haw in
theorem c21h (l : Log) (k n v : Nat) (F : Nat -> Nat -> AV) (hk : Side (k <= l.ev.length)) (hs : Side (sealE (hdL l k) = 0)) (hy : Side (evIs (bthL l k) n F)) : Mut (Xc W0 Gt) 21 [.agg 4 (tbl (logC (sealL (hdL l k)) (.own 0 v)))] [.list 41 2 n F v] (.tup 2 (tbl [lgA (allL l k), .int .i64 (sealE (bthL l k))])) [.dead] := by
 have w := c21g hX (bthL l k) n v F hy
 have S := seal_at hs.get
 have B := bth_seal (l := l) hk.get
 have e := hd_c (l := l) (k := k)
 rw [allL_eq]
 unfold logC at w ⊢
 rw [B.c, B.d, B.t] at w
 rw [S.c, S.d, S.t, e.1, e.2.1, e.2.2]; exact w
set_option maxHeartbeats 700000 in
theorem c10 (t : Trf) (l : Log) (x y z : Int) : Pure (Xc W0 Gt) 10 [trfA t, lgA l, .agg 3 (tbl [.int .i64 x, .int .i64 y, .int .i64 z])] (.bool true) := by
 refine mut_of' hX (fnI Tryz.f10) rfl ?_
 repeat' (first
  | (refine Ax.go ?_; first | (with_reducible apply callAlt (haw)) | (with_reducible apply callAlt (c13 hX t)) | (with_reducible apply callAlt (c18 hX t ?_)) | ((with_reducible apply callAlt (c14 hX l)); case hl => (first | exact AllLe.refl _ | ((repeat' (first | exact trivial | apply Le.aggs | apply Le.tups | apply Le.fns | exact Le.refl _ | refine ⟨?_, ?_⟩)); done))) | ((with_reducible apply callAlt (c16 hX l ?_)); case hl => (first | exact AllLe.refl _ | ((repeat' (first | exact trivial | apply Le.aggs | apply Le.tups | apply Le.fns | exact Le.refl _ | refine ⟨?_, ?_⟩)); done))) | ((with_reducible apply callAlt (c19 hX t l ?_)); case hl => (first | exact AllLe.refl _ | ((repeat' (first | exact trivial | apply Le.aggs | apply Le.tups | apply Le.fns | exact Le.refl _ | refine ⟨?_, ?_⟩)); done))) | (with_reducible apply callAltS (Sc.map (fun h => c20 hX t l (Side.mk h)) ?_)) | apply Alt.one)
  | exact Cz.go
  | ((fail_if_success refine Stop.go ?_); first | (with_reducible first | apply And.intro | apply Cut.go | (refine impI ?_; intro _)) | (refine propI ?_; conv => whnf)))
 all_goals try exact nbZ
 all_goals try (rename_i h; first | exact absurd h (by decide) | (cases h; done))
 all_goals try (exact .of (by decide))
 all_goals try (exact .mk [] [] _ rfl (.le (.refl _)) trivial rfl)
 all_goals try (exact Sc.imp fun v => (few_ok (nofT (or_f (or_f v).1).1)).1)
 all_goals have gg := tam_g ‹(bif (bif (bif !fewB t then true else !briefB l) then true else decide (30 < (l.ev.length : Int))) then true else leE t l != 0) = false›
 all_goals have el := gg.2.1
 all_goals try (exact Side.mk gg.1)
 all_goals try (exact Side.mk (by omega))
 have rn := le_rn gg.1 gg.2.2
 refine ⟨Nat, fun i => ([(3, .ptr 0 0), (4, .ptr 1 0), (5, .ptr 2 0), (9, .int .i64 (i : Int))], [.box (trfC t), .box (logC l (evS l.ev)), .box [.int .i64 x, .int .i64 y, .int .i64 z]]), fun i => i <= l.ev.length /\ ∀ j, j < i -> (l.ev.getD j ev0).k ≠ 6, fun i => l.ev.length - i, ⟨0, ⟨Nat.zero_le _, fun _ h => absurd h (Nat.not_lt_zero _)⟩, .le ⟨by kernel_rfl, ⟨.refl _, .refl _, .refl _, trivial⟩, ⟨.refl _, .refl _, .refl _, .refl _, trivial⟩⟩⟩, fun i hi => ?_⟩
 have h0 := hi.2
 replace hi : i <= l.ev.length := hi.1
 by_cases lt : i < l.ev.length
 ·have hx9 : decide ((i : Int) < (l.ev.length : Int)) = false -> False := fun q => by have q := of_decide_eq_false q; omega
  repeat' (first
   | (refine Ax.go ?_; apply Alt.one)
   | exact Cz.go
   | ((fail_if_success refine Stop.go ?_); (first | exact (hx9 ‹_›).elim | (with_reducible first | apply And.intro | apply Cut.go | (refine impI ?_; intro _)) | (refine propI ?_; conv => whnf))))
  all_goals try exact nbZ
  all_goals try (exact owZ)
  all_goals try (refine Sc.of ?_; rw [Int.toNat_natCast]; exact lt)
  all_goals try (exact .mk [] [] _ rfl (.le (.refl _)) trivial rfl)
  all_goals (rename_i q; rw [Int.toNat_natCast] at q; exact ⟨i + 1, ⟨lt, all_lt h0 fun e => by rw [e] at q; cases q⟩, by show l.ev.length - (i + 1) < l.ev.length - i; omega, .le ⟨by kernel_rfl, ⟨.refl _, .refl _, .refl _, trivial⟩, ⟨.refl _, .refl _, .refl _, .intI (by show (i : Int) + 1 = ((i + 1 : Nat) : Int); omega), trivial⟩⟩⟩)
 ·obtain rfl : i = l.ev.length := by omega
  have hx9 : decide ((l.ev.length : Int) < (l.ev.length : Int)) = true -> False := fun q => by have q := of_decide_eq_true q; omega
  have ff : ffE t l = 12 := by
   have q := ‹(ffE t l != 12) = false›
   exact bne_eq_false_iff_eq.1 q
  have kb : (mdN x (l.ev.length + 1)) < l.ev.length + 1 := mdN_bd (by omega)
  have T : Tm t l (mdN x (l.ev.length + 1)) := ⟨gg.1, rn, ff, h0, el, by omega⟩
  have A := T.all
  have hb := hd_seal (rn_gd gg.1 rn).1.al (show (mdN x (l.ev.length + 1)) <= l.ev.length by omega) (by omega)
  have hx1 : (bif sealE (hdL l (mdN x (l.ev.length + 1))) != 0 then true else ((sealL (hdL l (mdN x (l.ev.length + 1)))).ev.length : Int) != ((mdN x (l.ev.length + 1)) : Int) + 1) = true -> False := fun q => by
   rcases bifT q with q | q
   ·exact ne_t q hb.1
   ·exact ne_t q (by rw [hb.2]; omega)
  have hx2 : (bif sealE (bthL l (mdN x (l.ev.length + 1))) != 0 then true else ((allL l (mdN x (l.ev.length + 1))).ev.length : Int) != (l.ev.length : Int) + 2) = true -> False := fun q => by
   rcases bifT q with q | q
   ·exact ne_t q T.sld
   ·exact ne_t q (by rw [A.2.2]; omega)
  have hx3 : (ffE t (allL l (mdN x (l.ev.length + 1))) != 12) = true -> False := fun q => ne_t q A.2.1
  have al := A.2.2
  have fl : (sealL (hdL l (mdN x (l.ev.length + 1)))).ev.length = (mdN x (l.ev.length + 1)) + 1 := hb.2
  have ab : (mdN y (allL l (mdN x (l.ev.length + 1))).ev.length) < (allL l (mdN x (l.ev.length + 1))).ev.length := mdN_bd (by omega)
  have hP : evIs (chgL' (allL l (mdN x (l.ev.length + 1))) (mdN y (allL l (mdN x (l.ev.length + 1))).ev.length) z) (allL l (mdN x (l.ev.length + 1))).ev.length (putF (((mdN y (allL l (mdN x (l.ev.length + 1))).ev.length) : Nat) : Int).toNat 1 [.int .i64 z] (fun i j => tbl (evC ((allL l (mdN x (l.ev.length + 1))).ev.getD i ev0)) j)) := chg_put ab
  repeat' (first
   | (refine Ax.go ?_; first | (with_reducible apply callAlt (c18 hX t ?_)) | ((with_reducible apply callAlt (c37i hX x l.ev.length ?_)); case hl => (first | exact AllLe.refl _ | ((repeat' (first | exact trivial | apply Le.aggs | apply Le.tups | apply Le.fns | exact Le.refl _ | refine ⟨?_, ?_⟩)); done))) | ((with_reducible apply callAlt (c37 hX y (allL l (mdN x (l.ev.length + 1))).ev.length ?_)); case hl => (first | exact AllLe.refl _ | ((repeat' (first | exact trivial | apply Le.aggs | apply Le.tups | apply Le.fns | exact Le.refl _ | refine ⟨?_, ?_⟩)); done))) | ((with_reducible (apply altM (ks := [3]) (m := 0); apply And.intro; apply Sc.of; apply (c21d hX l (mdN x (l.ev.length + 1)) _ 1 _ ?_))); case' right => (refine And.intro (Sc.of ?_) ?_; · ((repeat' (first | exact trivial | apply Le.aggs | apply Le.tups | apply Le.fns | exact Le.refl _ | refine ⟨?_, ?_⟩)); done))) | ((with_reducible apply callAlt (c19 hX t (allL l (mdN x (l.ev.length + 1))) ?_)); case hl => (first | exact AllLe.refl _ | ((repeat' (first | exact trivial | apply Le.aggs | apply Le.tups | apply Le.fns | exact Le.refl _ | refine ⟨?_, ?_⟩)); done))) | ((fail_if_success (have _ := ‹(bif !briefB (chgL' (allL l (mdN x (l.ev.length + 1))) (mdN y (allL l (mdN x (l.ev.length + 1))).ev.length) z) then true else leE t (chgL' (allL l (mdN x (l.ev.length + 1))) (mdN y (allL l (mdN x (l.ev.length + 1))).ev.length) z) != 0) = false›)); (have _ := ‹(ffE t (allL l (mdN x (l.ev.length + 1))) != 12) = false›); (with_reducible (apply altM (ks := []) (m := 1); apply And.intro; apply Sc.of; apply (c16o hX (allL l (mdN x (l.ev.length + 1))) ?_)))) | ((with_reducible apply callAlt (c16 hX (allL l (mdN x (l.ev.length + 1))) ?_)); case hl => (first | exact AllLe.refl _ | ((repeat' (first | exact trivial | apply Le.aggs | apply Le.tups | apply Le.fns | exact Le.refl _ | refine ⟨?_, ?_⟩)); done))) | ((with_reducible (apply altM (ks := []) (m := 1); apply And.intro; apply Sc.of; apply (c16o hX (sealL (hdL l (mdN x (l.ev.length + 1)))) ?_))); case' right => (refine And.intro (Sc.of ?_) ?_; · ((repeat' (first | exact trivial | apply Le.aggs | apply Le.tups | apply Le.fns | exact Le.refl _ | refine ⟨?_, ?_⟩)); done))) | ((with_reducible (apply altM (ks := [5]) (m := 0); apply And.intro; apply Sc.of; apply (c21h hX l (mdN x (l.ev.length + 1)) _ 2 _ ?_ ?_ ?_))); case' right => (refine And.intro (Sc.of ?_) ?_; · ((repeat' (first | exact trivial | apply Le.aggs | apply Le.tups | apply Le.fns | exact Le.refl _ | refine ⟨?_, ?_⟩)); done))) | ((with_reducible apply callAltH (c14 hX (chgL' (allL l (mdN x (l.ev.length + 1))) (mdN y (allL l (mdN x (l.ev.length + 1))).ev.length) z))); (case hl => exact ⟨.aggs ⟨⟨⟨⟨trivial, .le (.refl _)⟩, .le (.refl _)⟩, .le (.refl _)⟩, evIs_own hP rfl⟩, trivial⟩); (case hr => rfl)) | ((with_reducible apply callAltH (c20 hX t (chgL' (allL l (mdN x (l.ev.length + 1))) (mdN y (allL l (mdN x (l.ev.length + 1))).ev.length) z) ?_)); (case hl => exact ⟨.le (.aggs ⟨⟨⟨⟨⟨⟨⟨⟨trivial, .refl _⟩, .refl _⟩, .refl _⟩, .refl _⟩, .refl _⟩, .refl _⟩, .refl _⟩, .refl _⟩), .aggs ⟨⟨⟨⟨trivial, .le (.refl _)⟩, .le (.refl _)⟩, .le (.refl _)⟩, evIs_own hP rfl⟩, trivial⟩); (case hr => rfl)) | (with_reducible (apply altK (ks := [9]); apply And.intro; apply Sc.of; apply (c16w hX (chgL' (allL l (mdN x (l.ev.length + 1))) (mdN y (allL l (mdN x (l.ev.length + 1))).ev.length) z) _ _ (Side.mk hP) ?_))) | ((with_reducible apply callAlt (c23 hX (allL l (mdN x (l.ev.length + 1))) _)); case hl => (first | exact AllLe.refl _ | ((repeat' (first | exact trivial | apply Le.aggs | apply Le.tups | apply Le.fns | exact Le.refl _ | refine ⟨?_, ?_⟩)); done))) | ((with_reducible apply callAlt (c23 hX (chgL' (allL l (mdN x (l.ev.length + 1))) (mdN y (allL l (mdN x (l.ev.length + 1))).ev.length) z) _)); case hl => (first | exact AllLe.refl _ | ((repeat' (first | exact trivial | apply Le.aggs | apply Le.tups | apply Le.fns | exact Le.refl _ | refine ⟨?_, ?_⟩)); done))) | ((with_reducible apply callAlt (c15 hX _ _ _)); case hl => (first | exact AllLe.refl _ | ((repeat' (first | exact trivial | apply Le.aggs | apply Le.tups | apply Le.fns | exact Le.refl _ | refine ⟨?_, ?_⟩)); done))) | ((with_reducible apply callAltH (c19 hX t (chgL' (allL l (mdN x (l.ev.length + 1))) (mdN y (allL l (mdN x (l.ev.length + 1))).ev.length) z) ?_)); (case hl => exact ⟨.le (.aggs ⟨⟨⟨⟨⟨⟨⟨⟨trivial, .refl _⟩, .refl _⟩, .refl _⟩, .refl _⟩, .refl _⟩, .refl _⟩, .refl _⟩, .refl _⟩), .aggs ⟨⟨⟨⟨trivial, .le (.refl _)⟩, .le (.refl _)⟩, .le (.refl _)⟩, evIs_own hP rfl⟩, trivial⟩); (case hr => rfl)) | (with_reducible refine Alt.one ?_; fail_if_success (with_reducible refine (?_ : Exists _))))
   | exact Cz.go
   | ((fail_if_success refine Stop.go ?_); (first | exact (hx9 ‹_›).elim | exact (hx1 ‹_›).elim | exact (hx2 ‹_›).elim | exact (hx3 ‹_›).elim | (with_reducible first | apply And.intro | apply Cut.go | (refine impI ?_; intro _)) | (refine propI ?_; conv => whnf))))
  all_goals try exact nbZ
  all_goals try (exact owZ)
  all_goals try (exact .of ⟨by omega, by omega, by omega⟩)
  all_goals try (exact .of (by omega))
  all_goals try (exact Side.mk (by omega))
  all_goals try (exact Side.mk ⟨by omega, by omega⟩)
  all_goals try (exact Side.mk gg.1)
  all_goals try (exact Side.mk (evIs_hd (by omega)))
  all_goals try (exact Side.mk (evIs_bt (by omega) hb.1))
  all_goals try (exact Side.mk hb.1)
  all_goals try (exact .mk [] [] _ rfl (.le (.refl _)) trivial rfl)
  all_goals try (exact Sc.of ⟨by show ((((mdN x (l.ev.length + 1)) : Nat) : Int).toNat - Int.toNat 0) * 16 <= 140737488355328; omega, by omega⟩)
  all_goals try (exact Sc.of ⟨by show ((sealL (hdL l (mdN x (l.ev.length + 1)))).ev.length + ((l.ev.length : Int).toNat - (((mdN x (l.ev.length + 1)) : Nat) : Int).toNat)) * 16 <= 140737488355328; omega, by omega⟩)
  all_goals try (have h6 : ((allL l (mdN x (l.ev.length + 1))).ev.getD (mdN y (allL l (mdN x (l.ev.length + 1))).ev.length) ev0).k ≠ 6 := (by have q := (or_f ‹(bif ((allL l (mdN x (l.ev.length + 1))).ev.getD (((mdN y (allL l (mdN x (l.ev.length + 1))).ev.length) : Nat) : Int).toNat ev0).k == 6 then true else ((allL l (mdN x (l.ev.length + 1))).ev.getD (((mdN y (allL l (mdN x (l.ev.length + 1))).ev.length) : Nat) : Int).toNat ev0).n == z) = false›).1; rw [Int.toNat_natCast] at q; exact fun e => by rw [e] at q; cases q); have ry := le_rn gg.1 (bne_eq_false_iff_eq.1 (or_f ‹(bif !briefB (chgL' (allL l (mdN x (l.ev.length + 1))) (mdN y (allL l (mdN x (l.ev.length + 1))).ev.length) z) then true else leE t (chgL' (allL l (mdN x (l.ev.length + 1))) (mdN y (allL l (mdN x (l.ev.length + 1))).ev.length) z) != 0) = false›).2); have TL := T.law (n := z) (show (mdN y (allL l (mdN x (l.ev.length + 1))).ev.length) < l.ev.length + 2 by omega) h6 ry; have c := of_decide_eq_true ‹decide (((mdN x (l.ev.length + 1)) : Int) < ((mdN y (allL l (mdN x (l.ev.length + 1))).ev.length) : Int)) = true›; have sq : slQ l (mdN x (l.ev.length + 1)) (mdN y (allL l (mdN x (l.ev.length + 1))).ev.length) = (l.ev.length + 1) := (by unfold slQ; split <;> omega); rw [sq] at TL; have eq : (((allL l (mdN x (l.ev.length + 1))).ev.length : Int) - 1) = (((l.ev.length + 1) : Nat) : Int) := (by omega); have s1 := (rn_al0 gg.1 A.1 (show (l.ev.length + 1) <= (allL l (mdN x (l.ev.length + 1))).ev.length by omega)).1; have s2 := (rn_al0 gg.1 ry (show (l.ev.length + 1) <= (chgL' (allL l (mdN x (l.ev.length + 1))) (mdN y (allL l (mdN x (l.ev.length + 1))).ev.length) z).ev.length by rw [chg_len]; omega)).1; first | (exfalso; have q := ‹(bif sumE (allL l (mdN x (l.ev.length + 1))) (((allL l (mdN x (l.ev.length + 1))).ev.length : Int) - 1) != 0 then true else sumE (chgL' (allL l (mdN x (l.ev.length + 1))) (mdN y (allL l (mdN x (l.ev.length + 1))).ev.length) z) (((allL l (mdN x (l.ev.length + 1))).ev.length : Int) - 1) != 0) = true›; rw [eq, s1, s2] at q; cases q; done) | (refine .mk [] [] _ rfl (.le (.boolT ?_)) trivial rfl; rw [eq]; exact tam_fin TL))
  all_goals try (have h6 : ((allL l (mdN x (l.ev.length + 1))).ev.getD (mdN y (allL l (mdN x (l.ev.length + 1))).ev.length) ev0).k ≠ 6 := (by have q := (or_f ‹(bif ((allL l (mdN x (l.ev.length + 1))).ev.getD (((mdN y (allL l (mdN x (l.ev.length + 1))).ev.length) : Nat) : Int).toNat ev0).k == 6 then true else ((allL l (mdN x (l.ev.length + 1))).ev.getD (((mdN y (allL l (mdN x (l.ev.length + 1))).ev.length) : Nat) : Int).toNat ev0).n == z) = false›).1; rw [Int.toNat_natCast] at q; exact fun e => by rw [e] at q; cases q); have ry := le_rn gg.1 (bne_eq_false_iff_eq.1 (or_f ‹(bif !briefB (chgL' (allL l (mdN x (l.ev.length + 1))) (mdN y (allL l (mdN x (l.ev.length + 1))).ev.length) z) then true else leE t (chgL' (allL l (mdN x (l.ev.length + 1))) (mdN y (allL l (mdN x (l.ev.length + 1))).ev.length) z) != 0) = false›).2); have TL := T.law (n := z) (show (mdN y (allL l (mdN x (l.ev.length + 1))).ev.length) < l.ev.length + 2 by omega) h6 ry; have c := of_decide_eq_false ‹decide (((mdN x (l.ev.length + 1)) : Int) < ((mdN y (allL l (mdN x (l.ev.length + 1))).ev.length) : Int)) = false›; have sq : slQ l (mdN x (l.ev.length + 1)) (mdN y (allL l (mdN x (l.ev.length + 1))).ev.length) = (mdN x (l.ev.length + 1)) := (by unfold slQ; split <;> omega); rw [sq] at TL; have eq : (((mdN x (l.ev.length + 1)) : Nat) : Int) = (((mdN x (l.ev.length + 1)) : Nat) : Int) := (by omega); have s1 := (rn_al0 gg.1 A.1 (show (mdN x (l.ev.length + 1)) <= (allL l (mdN x (l.ev.length + 1))).ev.length by omega)).1; have s2 := (rn_al0 gg.1 ry (show (mdN x (l.ev.length + 1)) <= (chgL' (allL l (mdN x (l.ev.length + 1))) (mdN y (allL l (mdN x (l.ev.length + 1))).ev.length) z).ev.length by rw [chg_len]; omega)).1; first | (exfalso; have q := ‹(bif sumE (allL l (mdN x (l.ev.length + 1))) (((mdN x (l.ev.length + 1)) : Nat) : Int) != 0 then true else sumE (chgL' (allL l (mdN x (l.ev.length + 1))) (mdN y (allL l (mdN x (l.ev.length + 1))).ev.length) z) (((mdN x (l.ev.length + 1)) : Nat) : Int) != 0) = true›; rw [eq, s1, s2] at q; cases q; done) | (refine .mk [] [] _ rfl (.le (.boolT ?_)) trivial rfl; rw [eq]; exact tam_fin TL))
end
end Go.Fx
