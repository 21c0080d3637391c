/-
 The specification's meter, plainly.
-/
import Derived.Test.YtfdegaojblmdiaaGreatDoorGm
set_option linter.all false
namespace Go.Fx
open Go.Proofs
structure Rm where
 tk : Int
 pu : Int
 ps : Int
 zn : Int
 si : Int
 sp : Int
 ex : List Int
 fa : Int
 pa : Int
 st : Int
 fi : Int
 bg : Int
 fr : Int
 ad : Int
 at_ : Int
def rm0 : Rm := ⟨0, 0, 0, 0, 0, 0, [], 0, 0, 0, 0, 0, 0, 0, 0⟩
@[reducible] def rmC (r : Rm) (x e : AV) : List AV := [.int .i64 r.tk, .int .i64 r.pu, .int .i64 r.ps, .int .i64 r.zn, .int .i64 r.si, .int .i64 r.sp, x, .int .i64 r.fa, .int .i64 r.pa, .int .i64 r.st, .int .i64 r.fi, .int .i64 r.bg, .int .i64 r.fr, .int .i64 r.ad, .int .i64 r.at_, e]
def mX (l : Log) : Mom := ⟨l.d, l.t⟩
@[irreducible] def rrE (t : Trf) (l : Log) (r : Rm) : Int := bif decide (laterE (mX l) r.tk = 0) then oneE (holdI t ⟨r.zn, laterM (mX l) r.tk⟩ t.rules.length) else laterE (mX l) r.tk
@[irreducible] def rrN (t : Trf) (l : Log) (r : Rm) : Int := bif decide (laterE (mX l) r.tk = 0) then oneN (holdI t ⟨r.zn, laterM (mX l) r.tk⟩ t.rules.length) else 0
def rpS (t : Trf) (l : Log) (r : Rm) : Int := r.pa.tdiv (t.unit * l.c)
def rpG (t : Trf) (l : Log) (r : Rm) : Int := bif decide (0 < t.step) then r.st + rpS t l r * t.step else r.st
def rpF (t : Trf) (l : Log) (r : Rm) : Int := rpG t l r + mxA t r.ex r.ex.length
def rpB (t : Trf) (l : Log) (r : Rm) : Bool := bif decide (0 < t.step) then decide (1000000000 < rpS t l r) else false
@[irreducible] def rpE (t : Trf) (l : Log) (r : Rm) : Int := bif r.ps == 0 then 0 else bif rpB t l r then 8 else bif decide (1000000000 < rpF t l r) then 8 else 0
@[irreducible] def rpR (t : Trf) (l : Log) (r : Rm) : Rm := bif r.ps == 0 then { r with sp := 0, ex := [], fa := 0 } else { r with sp := rpS t l r, fa := rpF t l r }
def rrB (r : Rm) : Bool := bif r.ps == 1 then true else r.ps == 2
def rcB (r : Rm) (k : Bool) : Bool := bif rrB r then (bif k then true else decide (0 < r.si)) else false
def rcD (t : Trf) (l : Log) (r : Rm) : Int := 1000 * (ruA t (rrN t l r)).me * r.si
def rcS (t : Trf) (l : Log) (r : Rm) : Int := l.c * (ruA t (rrN t l r)).se
def rcX (t : Trf) (l : Log) (r : Rm) (k : Bool) : Bool := bif (bif k then r.ps == 1 else false) then decide (rcD t l r <= rcS t l r) else false
def rcP (t : Trf) (l : Log) (r : Rm) (k : Bool) : Int := bif rcX t l r k then rcS t l r else rcD t l r
def rcT (t : Trf) (l : Log) (r : Rm) (k : Bool) : Rm := { r with pa := bif rcB r k then r.pa + rcP t l r k else r.pa, si := 0, tk := bif k then r.tk + 1 else r.tk }
@[irreducible] def rcE (t : Trf) (l : Log) (r : Rm) (k : Bool) : Int := bif (bif rcB r k then decide (rrE t l r = 0) else true) then rpE t l (rcT t l r k) else rrE t l r
@[irreducible] def rcR (t : Trf) (l : Log) (r : Rm) (k : Bool) : Rm := rpR t l (rcT t l r k)
def rtN (t : Trf) (l : Log) (r : Rm) : Nat -> Rm
 | 0 => r
 | k + 1 => rcR t l (rtN t l r k) true
def kB (r : Rm) (k : Bool) : Nat := bif rcB r k then 1 else 0
def kN (t : Trf) (l : Log) (r : Rm) : Nat -> Nat
 | 0 => 0
 | j + 1 => kN t l r j + kB (rtN t l r j) true
theorem kB_le (r : Rm) (k : Bool) : kB r k <= 1 := by unfold kB; cases rcB r k <;> decide
theorem kN_le {t : Trf} {l : Log} {r : Rm} : ∀ j, kN t l r j <= j
 | 0 => Nat.le_refl _
 | j + 1 => by have := kN_le (t := t) (l := l) (r := r) j; have := kB_le (rtN t l r j) true; simp only [kN]; omega
def rbR (t : Trf) (l : Log) (r : Rm) (i p : Int) : Rm := { r with pa := 0, st := (ruA t (rrN t l r)).st, fi := i, bg := r.tk, fr := r.zn, ad := (laterM (mX l) r.tk).d, at_ := (laterM (mX l) r.tk).s, ex := List.replicate t.extras.length 0, ps := p }
def nqG (t : Trf) (l : Log) (r : Rm) (i : Int) (v : Ev) : Rm :=
 bif v.k == 0 then { r with pu := r.pu + v.n, si := r.si + v.n }
 else bif v.k == 1 then rtN t l r v.n.toNat
 else bif v.k == 2 then (bif (rcR t l r false).ps == 0 then rpR t l (rbR t l (rcR t l r false) i v.n) else rpR t l { rcR t l r false with ps := v.n })
 else bif v.k == 3 then { rcR t l r false with zn := v.n }
 else bif v.k == 4 then rpR t l { r with ex := r.ex.set v.n.toNat (r.ex.getD v.n.toNat 0 + 1) }
 else r
def nqP (t : Trf) (l : Log) (r : Rm) (i : Int) (v : Ev) : Int :=
 bif goB r.ps v.n then (bif decide (rcE t l r false = 0) then
  (bif (rcR t l r false).ps == 0 then (bif decide (rrE t l (rcR t l r false) = 0) then rpE t l (rbR t l (rcR t l r false) i v.n) else rrE t l (rcR t l r false)) else rpE t l { rcR t l r false with ps := v.n }) else rcE t l r false) else 22
def nqX (t : Trf) (l : Log) (r : Rm) (v : Ev) : Int :=
 bif decide ((t.extras.length : Int) <= v.n) then 6 else bif r.ps == 0 then 22 else bif decide (20 <= r.ex.getD v.n.toNat 0) then 16 else rpE t l { r with ex := r.ex.set v.n.toNat (r.ex.getD v.n.toNat 0 + 1) }
def nqH (t : Trf) (l : Log) (r : Rm) (i : Int) (v : Ev) : Int :=
 bif v.k == 0 then 0
 else bif v.k == 1 then scanE (fun j => rcE t l (rtN t l r j) true) (List.range v.n.toNat)
 else bif v.k == 2 then nqP t l r i v
 else bif v.k == 3 then (bif zoneIn t v.n then rcE t l r false else 6)
 else bif v.k == 4 then nqX t l r v
 else 0
@[irreducible] def nqR (t : Trf) (l : Log) (r : Rm) (i : Nat) : Rm := nqG t l r i (l.ev.getD i ev0)
@[irreducible] def nqE (t : Trf) (l : Log) (r : Rm) (i : Nat) : Int := nqH t l r i (l.ev.getD i ev0)
def rmN (t : Trf) (l : Log) : Nat -> Rm
 | 0 => rm0
 | k + 1 => nqR t l (rmN t l k) k
@[irreducible] def leE (t : Trf) (l : Log) : Int := bif decide (trfE t = 0) then (bif decide (aloneE l = 0) then scanE (fun k => nqE t l (rmN t l k) k) (List.range l.ev.length) else aloneE l) else trfE t
structure Rk (t : Trf) (l : Log) (r : Rm) : Prop where
 g : Gd t l
 tk : 0 <= r.tk /\ r.tk <= 723600
 si : 0 <= r.si /\ r.si <= 20100000
 pu : 0 <= r.pu /\ r.pu <= 20100000
 pa : 0 <= r.pa /\ r.pa <= 92460000000000000
 ps : 0 <= r.ps /\ r.ps <= 3
 st : 0 <= r.st /\ r.st <= 100000
 exl : r.ps ≠ 0 -> r.ex.length = t.extras.length
 ex : ∀ j, 0 <= r.ex.getD j 0 /\ r.ex.getD j 0 <= 20
theorem rpR_0 {t : Trf} {l : Log} {r : Rm} (h : r.ps = 0) : rpR t l r = { r with sp := 0, ex := [], fa := 0 } /\ rpE t l r = 0 := by unfold rpR rpE; rw [h]; exact ⟨rfl, rfl⟩
theorem rpR_1 {t : Trf} {l : Log} {r : Rm} (h : r.ps ≠ 0) : rpR t l r = { r with sp := rpS t l r, fa := rpF t l r } := by unfold rpR; rw [beq_false_of_ne h]; rfl
theorem rpE_a {t : Trf} {l : Log} {r : Rm} (h : r.ps ≠ 0) (b : rpB t l r = true) : rpE t l r = 8 := by unfold rpE; rw [beq_false_of_ne h, b]; rfl
theorem rpE_b {t : Trf} {l : Log} {r : Rm} (h : r.ps ≠ 0) (b : rpB t l r = false) (c : 1000000000 < rpF t l r) : rpE t l r = 8 := by unfold rpE; rw [beq_false_of_ne h, b, decide_eq_true c]; rfl
theorem rpE_c {t : Trf} {l : Log} {r : Rm} (h : r.ps ≠ 0) (b : rpB t l r = false) (c : ¬ 1000000000 < rpF t l r) : rpE t l r = 0 := by unfold rpE; rw [beq_false_of_ne h, b, decide_eq_false c]; rfl
theorem rpE_ok {t : Trf} {l : Log} {r : Rm} (h : r.ps ≠ 0) (e : rpE t l r = 0) : rpB t l r = false /\ rpF t l r <= 1000000000 := by
 cases b : rpB t l r with
 | true => rw [rpE_a h b] at e; cases e
 | false =>
  by_cases c : 1000000000 < rpF t l r
  ·rw [rpE_b h b c] at e; cases e
  ·exact ⟨rfl, by omega⟩
theorem rcE_f {t : Trf} {l : Log} {r : Rm} {k : Bool} (h : rcB r k = false) : rcE t l r k = rpE t l (rcT t l r k) := by unfold rcE; rw [h]; rfl
theorem rcE_t {t : Trf} {l : Log} {r : Rm} {k : Bool} (h : rcB r k = true) (e : rrE t l r = 0) : rcE t l r k = rpE t l (rcT t l r k) := by unfold rcE; rw [h, e]; rfl
theorem rcE_e {t : Trf} {l : Log} {r : Rm} {k : Bool} (h : rcB r k = true) (e : rrE t l r ≠ 0) : rcE t l r k = rrE t l r := by unfold rcE; rw [h, decide_eq_false e]; rfl
theorem rcR_eq {t : Trf} {l : Log} {r : Rm} {k : Bool} : rcR t l r k = rpR t l (rcT t l r k) := by unfold rcR; rfl
open Go.Proofs
theorem zones_pos {t : Trf} (h : trfE t = 0) : 0 < t.zones.length := by
 have h0 := (trf_0 h).1
 unfold topE at h0
 by_cases z : 0 < (t.zones.length : Int)
 ·omega
 ·rw [decide_eq_false z] at h0
  cases b1 : nameB t.name <;> cases b2 : inB t.unit 1 999999999 <;> cases b3 : inB t.step 0 100000 <;> rw [b1, b2, b3] at h0 <;> cases h0
structure Sim (r : Rm) (s : Mc) : Prop where
 tk : r.tk = s.tk
 pu : r.pu = s.pu
 ps : r.ps = s.ps
 zn : r.zn = s.zn
 si : r.si = s.si
 pa : r.pa = s.pa
 st : r.st = s.st
 ex : r.ex = s.ex
section
variable {t : Trf} {l : Log}
theorem rk_of (g : Gd t l) {k : Int} {r : Rm} {s : Mc} (m : MOk t k s) (hk : k <= 201) (h : Sim r s) : Rk t l r := by
 have hm : Hm t l s := ⟨g, m.mono hk⟩
 have n := hm.nums
 have c := m.ex
 exact ⟨g, by rw [h.tk]; omega, by rw [h.si]; omega, by rw [h.pu]; omega, by rw [h.pa]; omega, by rw [h.ps]; exact m.ps, by rw [h.st]; exact m.st, by rw [h.ps, h.ex]; exact m.exl, by rw [h.ex]; exact m.ex⟩
theorem sim_rr (g : Gd t l) {r : Rm} {s : Mc} (h : Sim r s) (hz : zoneIn t s.zn = true) (h0 : 0 <= s.tk) (e : rrE t l r = 0) : mrE t l s = 0 /\ mrN t l s = rrN t l r := by
 unfold rrE at e
 unfold rrN
 by_cases c : laterE (mX l) r.tk = 0
 ·rw [decide_eq_true c] at e ⊢
  simp only [cond_true] at e ⊢
  rw [later_ok c] at e ⊢
  unfold laterE at c
  have z := firstS_zero c
  have hM : momB (mX l) = true := isOk_0 (b := momB (mX l)) (e := 2) (z _ (by simp)) (by decide)
  have hQ : momB (laterQ (mX l) r.tk) = true := isOk_0 (b := momB (laterQ (mX l) r.tk)) (e := 2) (z _ (by simp)) (by decide)
  have nw : nowM l s = laterQ (mX l) r.tk := now_later hM (by rw [h.tk]; exact h0) (by show l.d * 86400 + l.t + s.tk = _; rw [h.tk]; rfl)
  have b := mom_bd hQ
  have gt : gateE t ⟨s.zn, nowM l s⟩ = 0 := gate_ok.2 ⟨g.trf, hz, by rw [nw]; exact hQ⟩
  have ra := ruleAt_0 gt
  unfold mrE mrN mnE
  rw [nw] at ra ⊢
  rw [decide_eq_true b.1.2, ra.1, ra.2, <- h.zn]
  exact ⟨e, rfl⟩
 ·rw [decide_eq_false c] at e; exact absurd e c
theorem sim_fare (g : Gd t l) {r : Rm} {s : Mc} (h : Sim r s) (hp : r.ps ≠ 0) (hpa : 0 <= s.pa) (e : rpE t l r = 0) : mFare t l s <= 1000000000 := by
 have w := (rpE_ok hp e).2
 have u := trf_unit g.trf
 have hs : s.ps ≠ 0 := by rw [<- h.ps]; exact hp
 have es : rpS t l r = mStp t l s := by unfold rpS mStp; rw [h.pa]
 unfold rpF rpG at w
 rw [es, h.st, h.ex] at w
 by_cases p : 0 < t.step
 ·rw [decide_eq_true p] at w
  rw [fare_1 hs p]
  have m := Int.mul_le_mul_of_nonneg_right (show min (mStp t l s) ((1000000000 : Int).tdiv t.step + 1) <= mStp t l s by omega) (show 0 <= t.step by omega)
  have w : s.st + mStp t l s * t.step + mxA t s.ex s.ex.length <= 1000000000 := w
  omega
 ·rw [decide_eq_false p] at w
  rw [fare_2 hs p]; exact w
theorem sim_pr {r : Rm} {s : Mc} (h : Sim r s) (hx : s.ps = 0 -> s.ex = []) : Sim (rpR t l r) s := by
 by_cases p : r.ps = 0
 ·rw [(rpR_0 p).1]
  exact ⟨h.tk, h.pu, h.ps, h.zn, h.si, h.pa, h.st, (hx (by rw [<- h.ps]; exact p)).symm⟩
 ·rw [rpR_1 p]
  exact ⟨h.tk, h.pu, h.ps, h.zn, h.si, h.pa, h.st, h.ex⟩
theorem sim_rn {r : Rm} {s : Mc} (h : Sim r s) : rrB r = rnB s := by unfold rrB rnB; rw [h.ps]
theorem fare_any (g : Gd t l) {r : Rm} {s : Mc} (h : Sim r s) (hpa : 0 <= s.pa) (e : rpE t l r = 0) : mFare t l s <= 1000000000 := by
 by_cases p : r.ps = 0
 ·rw [fare_0 (by rw [<- h.ps]; exact p)]; decide
 ·exact sim_fare g h p hpa e
theorem sim_tick (g : Gd t l) {k : Int} (hk : k <= 201) {r : Rm} {s : Mc} (m : MOk t k s) (hn : s.tk + 1 <= 3600 * k) (h : Sim r s) (hz : zoneIn t s.zn = true) (e : rcE t l r true = 0) :
  rdE t l s = 0 /\ ¬ 1000000000 < mFare t l (rdS t l s 1) /\ Sim (rcR t l r true) (rdS t l s 1) /\ MOk t k (rdS t l s 1) /\ (rdS t l s 1).tk = s.tk + 1 := by
 have m1 := m.tk
 have key : rdE t l s = 0 -> Sim (rcT t l r true) (rdS t l s 1) -> rpE t l (rcT t l r true) = 0 -> rdE t l s = 0 /\ ¬ 1000000000 < mFare t l (rdS t l s 1) /\ Sim (rcR t l r true) (rdS t l s 1) /\ MOk t k (rdS t l s 1) /\ (rdS t l s 1).tk = s.tk + 1 := fun e1 S e2 => by
  have o := rd_ok g m hk e1 (n := 1) (by decide) hn
  have kk := rdK_bd (t := t) (l := l) (s := s) (n := 1) (by decide)
  have f := fare_any g S o.1.pa.1 e2
  exact ⟨e1, by omega, by rw [rcR_eq]; exact sim_pr S o.1.ex0, o.1, by rw [o.2]; omega⟩
 cases c : rrB r with
 | true =>
  have hr : rnB s = true := by rw [<- sim_rn h]; exact c
  have cb : rcB r true = true := by unfold rcB; rw [c]; rfl
  have e1 : rrE t l r = 0 := Decidable.byContradiction fun q => by rw [rcE_e cb q] at e; exact q e
  have mr := sim_rr g h hz m1.1 e1
  rw [rcE_t cb e1] at e
  have p := pc_eq (t := t) (l := l) hr 1
  refine key ((rdE_t hr).trans mr.1) ?_ e
  rw [rd_one hr]
  refine ⟨by rw [p.1, <- h.tk]; rfl, ?_, by rw [p.2.1]; exact h.ps, by rw [p.2.2.1]; exact h.zn, by rw [p.2.2.2.2.2.2.1]; rfl, ?_, by rw [p.2.2.2.1]; exact h.st, by rw [p.2.2.2.2.1]; exact h.ex⟩
  ·have q : (pcS t l s 1).pu = s.pu := by unfold pcS; rw [nt_eq]
   rw [q]; exact h.pu
  ·rw [p.2.2.2.2.2.1, mr.2, <- h.pa, <- h.si, <- h.ps]
   show (bif rcB r true then r.pa + rcP t l r true else r.pa) = _
   rw [cb]
   show r.pa + rcP t l r true = _
   congr 1
   unfold rcP rcX rcD rcS cbQ dstQ scnQ
   rw [show max (1 : Int) 1 = 1 from rfl, Int.mul_one]; rfl
 | false =>
  have hr : rnB s = false := by rw [<- sim_rn h]; exact c
  have cb : rcB r true = false := by unfold rcB; rw [c]; rfl
  rw [rcE_f cb] at e
  refine key (rdE_f hr) ?_ e
  rw [(rdS_3 hr).2, nt_eq, nta_f hr]
  refine ⟨by show r.tk + 1 = s.tk + 1; rw [h.tk], h.pu, h.ps, h.zn, rfl, ?_, h.st, h.ex⟩
  show (bif rcB r true then r.pa + rcP t l r true else r.pa) = s.pa
  rw [cb]; exact h.pa
theorem sim_tickT (g : Gd t l) {k : Int} (hk : k <= 201) {r : Rm} {s : Mc} (m : MOk t k s) (hn : s.tk + 1 <= 3600 * k) (h : Sim r s) (hz : zoneIn t s.zn = true) (e : rcB r true = true -> rrE t l r = 0) : Rk t l (rcT t l r true) := by
 have m1 := m.tk
 cases c : rrB r with
 | true =>
  have hr : rnB s = true := by rw [<- sim_rn h]; exact c
  have cb : rcB r true = true := by unfold rcB; rw [c]; rfl
  have mr := sim_rr g h hz m1.1 (e cb)
  have p := pc_eq (t := t) (l := l) hr 1
  have o := rd_ok g m hk ((rdE_t hr).trans mr.1) (n := 1) (by decide) hn
  rw [rd_one hr] at o
  refine rk_of g o.1 hk ⟨by rw [p.1, <- h.tk]; rfl, ?_, by rw [p.2.1]; exact h.ps, by rw [p.2.2.1]; exact h.zn, by rw [p.2.2.2.2.2.2.1]; rfl, ?_, by rw [p.2.2.2.1]; exact h.st, by rw [p.2.2.2.2.1]; exact h.ex⟩
  ·have q : (pcS t l s 1).pu = s.pu := by unfold pcS; rw [nt_eq]
   rw [q]; exact h.pu
  ·rw [p.2.2.2.2.2.1, mr.2, <- h.pa, <- h.si, <- h.ps]
   show (bif rcB r true then r.pa + rcP t l r true else r.pa) = _
   rw [cb]
   show r.pa + rcP t l r true = _
   congr 1
   unfold rcP rcX rcD rcS cbQ dstQ scnQ
   rw [show max (1 : Int) 1 = 1 from rfl, Int.mul_one]; rfl
 | false =>
  have hr : rnB s = false := by rw [<- sim_rn h]; exact c
  have cb : rcB r true = false := by unfold rcB; rw [c]; rfl
  have o := rd_ok g m hk (rdE_f hr) (n := 1) (by decide) hn
  rw [(rdS_3 hr).2, nt_eq, nta_f hr] at o
  refine rk_of g o.1 hk ⟨by show r.tk + 1 = s.tk + 1; rw [h.tk], h.pu, h.ps, h.zn, rfl, ?_, h.st, h.ex⟩
  show (bif rcB r true then r.pa + rcP t l r true else r.pa) = s.pa
  rw [cb]; exact h.pa
theorem sim_chT (g : Gd t l) {k : Int} (hk : k <= 200) {r : Rm} {s : Mc} (m : MOk t k s) (h : Sim r s) (hz : zoneIn t s.zn = true) (e : rcB r false = true -> rrE t l r = 0) : Rk t l (rcT t l r false) := by
 have m1 := m.tk
 have o := ch_ok g m (by omega)
 have cc : rcB r false = chgB s := by unfold rcB chgB; rw [sim_rn h, h.si]; rfl
 cases c : chgB s with
 | true =>
  have cb : rcB r false = true := cc.trans c
  have mr := sim_rr g h hz m1.1 (e cb)
  have hr := (chg_iff.1 c).1
  rw [chS_t c mr.1, nt_eq, nta_0 hr] at o
  refine rk_of g o (by omega) ⟨h.tk, h.pu, h.ps, h.zn, rfl, ?_, h.st, h.ex⟩
  show (bif rcB r false then r.pa + rcP t l r false else r.pa) = s.pa + dstQ t (mrN t l s) s.si
  rw [cb, mr.2, <- h.pa, <- h.si]; rfl
 | false =>
  have cb : rcB r false = false := cc.trans c
  rw [chS_f c] at o
  refine rk_of g o (by omega) ⟨h.tk, h.pu, h.ps, h.zn, rfl, ?_, h.st, h.ex⟩
  show (bif rcB r false then r.pa + rcP t l r false else r.pa) = s.pa
  rw [cb]; exact h.pa
theorem rtN_shift {r : Rm} : ∀ k, rtN t l (rcR t l r true) k = rtN t l r (k + 1)
 | 0 => rfl
 | k + 1 => by simp only [rtN]; rw [rtN_shift k]; rfl
theorem sim_sqF (g : Gd t l) {k : Int} (hk : k <= 201) : ∀ (f : Nat) (r : Rm) (s : Mc), MOk t k s -> s.tk + f <= 3600 * k -> Sim r s -> zoneIn t s.zn = true -> (∀ j, j < f -> rcE t l (rtN t l r j) true = 0) ->
  (sqF t l f s).2 = 0 /\ Sim (rtN t l r f) (sqF t l f s).1 /\ MOk t k (sqF t l f s).1
 | 0, r, s, m, _, h, _, _ => ⟨rfl, h, m⟩
 | f + 1, r, s, m, hn, h, hz, h0 => by
  have e0 : rcE t l r true = 0 := h0 0 (by omega)
  have w := sim_tick g hk m (by omega) h hz e0
  rw [sq_s w.1 w.2.1, <- rtN_shift f]
  exact sim_sqF g hk f _ _ w.2.2.2.1 (by rw [w.2.2.2.2]; omega) w.2.2.1 (by rw [(rd_same t l s 1).zn]; exact hz) fun j hj => by rw [rtN_shift]; exact h0 (j + 1) (by omega)
theorem rc_pu {r : Rm} {k : Bool} : (rcR t l r k).pu = r.pu := by
 rw [rcR_eq]
 by_cases p : (rcT t l r k).ps = 0
 ·rw [(rpR_0 p).1]; rfl
 ·rw [rpR_1 p]; rfl
theorem rt_pu {r : Rm} : ∀ k, (rtN t l r k).pu = r.pu
 | 0 => rfl
 | k + 1 => by simp only [rtN]; rw [rc_pu, rt_pu k]
theorem rc_tk {r : Rm} {k : Bool} : (rcR t l r k).tk = (bif k then r.tk + 1 else r.tk) /\ (rcR t l r k).zn = r.zn := by
 rw [rcR_eq]
 by_cases p : (rcT t l r k).ps = 0
 ·rw [(rpR_0 p).1]; exact ⟨rfl, rfl⟩
 ·rw [rpR_1 p]; exact ⟨rfl, rfl⟩
theorem rtN_tk {r : Rm} : ∀ k : Nat, (rtN t l r k).tk = r.tk + k
 | 0 => by simp [rtN]
 | k + 1 => by
  simp only [rtN]; rw [rc_tk.1, rtN_tk k]
  show r.tk + (k : Int) + 1 = _; omega
theorem rtN_zn {r : Rm} : ∀ k : Nat, (rtN t l r k).zn = r.zn
 | 0 => rfl
 | k + 1 => by simp only [rtN]; rw [rc_tk.2, rtN_zn k]
theorem sim_ch (g : Gd t l) {k : Int} (hk : k <= 200) {r : Rm} {s : Mc} (m : MOk t k s) (h : Sim r s) (hz : zoneIn t s.zn = true) (e : rcE t l r false = 0) : chE_ t l s = 0 /\ Sim (rcR t l r false) (chS t l s) /\ mFare t l (chS t l s) <= 1000000000 := by
 have m1 := m.tk
 have sm := ch_same t l s
 have o := ch_ok g m (by omega)
 have cc : rcB r false = chgB s := by unfold rcB chgB; rw [sim_rn h, h.si]; rfl
 have key : chE_ t l s = 0 -> Sim (rcT t l r false) (chS t l s) -> rpE t l (rcT t l r false) = 0 -> chE_ t l s = 0 /\ Sim (rcR t l r false) (chS t l s) /\ mFare t l (chS t l s) <= 1000000000 := fun e1 S e2 =>
  ⟨e1, by rw [rcR_eq]; exact sim_pr S o.ex0, fare_any g S o.pa.1 e2⟩
 cases c : chgB s with
 | true =>
  have cb : rcB r false = true := cc.trans c
  have e1 : rrE t l r = 0 := Decidable.byContradiction fun q => by rw [rcE_e cb q] at e; exact q e
  have mr := sim_rr g h hz m1.1 e1
  rw [rcE_t cb e1] at e
  have hr := (chg_iff.1 c).1
  refine key ((chE_t c).trans mr.1) ?_ e
  rw [chS_t c mr.1, nt_eq, nta_0 hr]
  refine ⟨h.tk, h.pu, h.ps, h.zn, rfl, ?_, h.st, h.ex⟩
  show (bif rcB r false then r.pa + rcP t l r false else r.pa) = s.pa + dstQ t (mrN t l s) s.si
  rw [cb, mr.2, <- h.pa, <- h.si]; rfl
 | false =>
  have cb : rcB r false = false := cc.trans c
  rw [rcE_f cb] at e
  refine key (chE_f c) ?_ e
  rw [chS_f c]
  refine ⟨h.tk, h.pu, h.ps, h.zn, rfl, ?_, h.st, h.ex⟩
  show (bif rcB r false then r.pa + rcP t l r false else r.pa) = s.pa
  rw [cb]; exact h.pa
theorem zone_n {n : Int} (h : zoneIn t n = true) : 0 <= n /\ n < t.zones.length := by have := inB_iff.1 h; omega
theorem sim_ev (g : Gd t l) {k : Nat} (hk : k < l.ev.length) {r : Rm} {s : Mc} (m : MOk t k s) (h : Sim r s) (hz : zoneIn t s.zn = true) (hf : mFare t l s <= 1000000000) (e : nqE t l r k = 0) :
  evF t l s k = 0 /\ Sim (nqR t l r k) (evS_ t l s k) /\ zoneIn t (evS_ t l s k).zn = true /\ mFare t l (evS_ t l s k) <= 1000000000 := by
 have gh := gd_head g.al
 have ee := ev_ok (gh.2.2.2.2 k hk)
 have el := gh.2.2.2.1
 have m1 := m.tk
 have mk := ev_mok g m hk
 unfold nqE at e
 unfold nqR
 have fin : ∀ {s2 : Mc} {x : Int}, evG t l s k (l.ev.getD k ev0) = s2 /\ evH t l s k (l.ev.getD k ev0) = x -> x = 0 -> Sim (nqG t l r k (l.ev.getD k ev0)) s2 -> zoneIn t s2.zn = true -> mFare t l s2 <= 1000000000 ->
   evF t l s k = 0 /\ Sim (nqG t l r k (l.ev.getD k ev0)) (evS_ t l s k) /\ zoneIn t (evS_ t l s k).zn = true /\ mFare t l (evS_ t l s k) <= 1000000000 := fun {s2 x} w hx S z f => by
  have v := evF_eq (t := t) (l := l) (s := s) (i := k) w
  rw [v.1, v.2, hx, decide_eq_true f]
  exact ⟨rfl, S, z, f⟩
 generalize l.ev.getD k ev0 = v at *
 by_cases q0 : v.k = 0
 ·refine fin (evG_0 q0) rfl ?_ hz (Int.le_trans (Int.le_of_eq (fare_eq (s := s) rfl rfl rfl rfl)) hf)
  unfold nqG; rw [q0]
  exact ⟨h.tk, by show r.pu + v.n = s.pu + v.n; rw [h.pu], h.ps, h.zn, by show r.si + v.n = s.si + v.n; rw [h.si], h.pa, h.st, h.ex⟩
 by_cases q1 : v.k = 1
 ·have nb := ee.2.2.1 q1
  have e1 : scanE (fun j => rcE t l (rtN t l r j) true) (List.range v.n.toNat) = 0 := by unfold nqH at e; rw [q1] at e; exact e
  have sq := sim_sqF g (k := (k : Int) + 1) (by omega) v.n.toNat r s (m.mono (by omega)) (by omega) h hz fun j hj => rscan_zero e1 hj
  have ts := tk_sq g (n := v.n) m.pa.1 m.si.1 m1.1
  have z : tkE t l s v.n = 0 := ts.1.trans sq.1
  have L := ts.2 z
  have lq := L.pq
  have S := sq.2.1
  have sm := tk_same t l s v.n
  refine fin (evG_1 q1) z ?_ (by rw [sm.zn]; exact hz) (tk_fare g (by omega) m.pa.1 m.si.1 m1.1 z)
  unfold nqG; rw [q1]
  exact ⟨S.tk.trans L.tk.symm, by show (rtN t l r v.n.toNat).pu = _; rw [rt_pu, sm.pu]; exact h.pu, S.ps.trans L.ps.symm, S.zn.trans L.zn.symm, S.si.trans lq.2.2.symm, S.pa.trans lq.2.1.symm, S.st.trans L.st.symm, S.ex.trans L.ex.symm⟩
 by_cases q2 : v.k = 2
 ·have e1 : nqP t l r k v = 0 := by unfold nqH at e; rw [q2] at e; exact e
  have sm := ch_same t l s
  unfold nqP at e1
  cases c : goB r.ps v.n with
  | false => rw [c] at e1; cases e1
  | true =>
   rw [c] at e1
   have q : goB s.ps v.n = true := by rw [<- h.ps]; exact c
   by_cases ec : rcE t l r false = 0
   ·rw [decide_eq_true ec] at e1
    have ch := sim_ch g (by omega) m h hz ec
    have o := ch_ok g m (by omega)
    have S := ch.2.1
    have pe : (rcR t l r false).ps = s.ps := S.ps.trans sm.1
    have gn : nqG t l r k v = bif (rcR t l r false).ps == 0 then rpR t l (rbR t l (rcR t l r false) k v.n) else rpR t l { rcR t l r false with ps := v.n } := by unfold nqG; rw [q2]; rfl
    rw [gn] at fin ⊢
    by_cases h0 : s.ps = 0
    ·rw [pe, h0] at e1 fin ⊢
     have e1 : (bif decide (rrE t l (rcR t l r false) = 0) then rpE t l (rbR t l (rcR t l r false) k v.n) else rrE t l (rcR t l r false)) = 0 := e1
     by_cases er : rrE t l (rcR t l r false) = 0
     ·rw [decide_eq_true er] at e1
      have hz2 : zoneIn t (chS t l s).zn = true := by rw [sm.2.2.2.1]; exact hz
      have mr := sim_rr g S hz2 (by rw [sm.2.1]; exact m1.1) er
      have b := po_bg (i := (k : Int)) q ch.1 h0 mr.1
      have p1 : v.n = 1 := by
       unfold goB at q
       rw [show (s.ps == 0) = true by simp [h0]] at q
       exact eq_of_beq (show (v.n == 1) = true from q)
      have S2 : Sim (rbR t l (rcR t l r false) k v.n) { bgS t l (chS t l s) k with ps := v.n } :=
       ⟨S.tk, S.pu, rfl, S.zn, S.si, rfl, by show (ruA t (rrN t l (rcR t l r false))).st = (ruA t (mrN t l (chS t l s))).st; rw [mr.2], rfl⟩
      have w := evG_2 (t := t) (l := l) (s := s) (i := (k : Int)) (v := v) q2
      rw [b.1, b.2] at w
      refine fin w rfl (sim_pr S2 fun z => ?_) hz2 (fare_any g S2 (Int.le_refl _) e1)
      exact absurd (show v.n = 0 from z) (by omega)
     ·rw [decide_eq_false er] at e1; exact absurd e1 er
    ·have pb : ((rcR t l r false).ps == 0) = false := by rw [pe]; exact beq_false_of_ne h0
     rw [pb] at e1 fin ⊢
     have e1 : rpE t l { rcR t l r false with ps := v.n } = 0 := e1
     by_cases p0 : v.n = 0
     ·have b := po_ed (i := (k : Int)) q ch.1 h0 p0
      have w := evG_2 (t := t) (l := l) (s := s) (i := (k : Int)) (v := v) q2
      rw [b.1, b.2] at w
      refine fin w rfl ?_ (by show zoneIn t (chS t l s).zn = true; rw [sm.2.2.2.1]; exact hz) (by rw [fare_0 (show ({ edS t l (chS t l s) k with ps := v.n } : Mc).ps = 0 from p0)]; decide)
      show Sim (rpR t l { rcR t l r false with ps := v.n }) _
      rw [(rpR_0 (t := t) (l := l) (r := { rcR t l r false with ps := v.n }) p0).1]
      exact ⟨S.tk, S.pu, rfl, S.zn, S.si, S.pa, S.st, rfl⟩
     ·have b := po_mv (i := (k : Int)) q ch.1 h0 p0
      have w := evG_2 (t := t) (l := l) (s := s) (i := (k : Int)) (v := v) q2
      rw [b.1, b.2] at w
      have S2 : Sim { rcR t l r false with ps := v.n } { chS t l s with ps := v.n } := ⟨S.tk, S.pu, rfl, S.zn, S.si, S.pa, S.st, S.ex⟩
      exact fin w rfl (sim_pr S2 fun z => absurd z p0) (by show zoneIn t (chS t l s).zn = true; rw [sm.2.2.2.1]; exact hz) (fare_any g S2 o.pa.1 e1)
   ·rw [decide_eq_false ec] at e1; exact absurd e1 ec
 by_cases q3 : v.k = 3
 ·have e1 : (bif zoneIn t v.n then rcE t l r false else 6) = 0 := by unfold nqH at e; rw [q3] at e; exact e
  cases c : zoneIn t v.n with
  | false => rw [c] at e1; cases e1
  | true =>
   rw [c] at e1
   have ch := sim_ch g (by omega) m h hz e1
   have S := ch.2.1
   refine fin (evG_3 q3 (zone_n c).2) ch.1 ?_ c (Int.le_trans (Int.le_of_eq (fare_eq (s := chS t l s) rfl rfl rfl rfl)) ch.2.2)
   unfold nqG; rw [q3]
   exact ⟨S.tk, S.pu, S.ps, rfl, S.si, S.pa, S.st, S.ex⟩
 by_cases q4 : v.k = 4
 ·have e1 : nqX t l r v = 0 := by unfold nqH at e; rw [q4] at e; exact e
  unfold nqX at e1
  by_cases c1 : (t.extras.length : Int) <= v.n
  ·rw [decide_eq_true c1] at e1; cases e1
  ·rw [decide_eq_false c1] at e1
   by_cases c2 : r.ps = 0
   ·rw [show (r.ps == 0) = true by simp [c2]] at e1; cases e1
   ·rw [beq_false_of_ne c2] at e1
    by_cases c3 : 20 <= r.ex.getD v.n.toNat 0
    ·rw [decide_eq_true c3] at e1; cases e1
    ·rw [decide_eq_false c3] at e1
     have e1 : rpE t l { r with ex := r.ex.set v.n.toNat (r.ex.getD v.n.toNat 0 + 1) } = 0 := e1
     have hp : s.ps ≠ 0 := by rw [<- h.ps]; exact c2
     have hH : mxH t s v.n = 0 := by
      unfold mxH
      rw [decide_eq_true (show v.n < (t.extras.length : Int) by omega), bne_iff_ne.2 hp]; rfl
     have a := mx_add hH (by rw [<- h.ex]; exact c3)
     have w := evG_4 (t := t) (l := l) (s := s) (i := (k : Int)) (v := v) q4
     rw [a.1, a.2] at w
     have S2 : Sim { r with ex := r.ex.set v.n.toNat (r.ex.getD v.n.toNat 0 + 1) } { s with ex := s.ex.set v.n.toNat (s.ex.getD v.n.toNat 0 + 1) } := ⟨h.tk, h.pu, h.ps, h.zn, h.si, h.pa, h.st, by show r.ex.set _ _ = s.ex.set _ _; rw [h.ex]⟩
     refine fin w rfl ?_ hz (fare_any g S2 m.pa.1 e1)
     unfold nqG; rw [q4]
     exact sim_pr S2 fun z => absurd z hp
 refine fin (evG_5 q0 q1 q2 q3 q4) rfl ?_ hz hf
 have e0 : nqG t l r k v = r := by
  unfold nqG
  rw [beq_false_of_ne q0, beq_false_of_ne q1, beq_false_of_ne q2, beq_false_of_ne q3, beq_false_of_ne q4]; rfl
 rw [e0]; exact h
structure Sx (t : Trf) (l : Log) (r : Rm) (i : Nat) : Prop where
 rk : Rk t l r
 hi : i < l.ev.length
 ti : (l.ev.getD i ev0).k = 1 -> ∀ j, j < (l.ev.getD i ev0).n.toNat -> (∀ a, a < j -> rcE t l (rtN t l r a) true = 0) -> Rk t l (rtN t l r j) /\ ((rcB (rtN t l r j) true = true -> rrE t l (rtN t l r j) = 0) -> Rk t l (rcT t l (rtN t l r j) true))
 ch : (rcB r false = true -> rrE t l r = 0) -> Rk t l (rcT t l r false)
 c1 : rcE t l r false = 0 -> Rk t l (rcR t l r false)
theorem sx_of (g : Gd t l) {k : Nat} (hk : k < l.ev.length) {r : Rm} {s : Mc} (m : MOk t k s) (h : Sim r s) (hz : zoneIn t s.zn = true) : Sx t l r k := by
 have gh := gd_head g.al
 have ee := ev_ok (gh.2.2.2.2 k hk)
 have el := gh.2.2.2.1
 have m1 := m.tk
 refine ⟨rk_of g m (by omega) h, hk, fun h1 j hj h0 => ?_, fun e => sim_chT g (by omega) m h hz e, fun e => ?_⟩
 ·have nb := ee.2.2.1 h1
  have sq := sim_sqF g (k := (k : Int) + 1) (by omega) j r s (m.mono (by omega)) (by omega) h hz h0
  have tk : (sqF t l j s).1.tk = s.tk + j := by
   have w := rtN_tk (t := t) (l := l) (r := r) j
   rw [<- sq.2.1.tk, w, h.tk]
  have zn : (sqF t l j s).1.zn = s.zn := by
   have w := rtN_zn (t := t) (l := l) (r := r) j
   rw [<- sq.2.1.zn, w, h.zn]
  exact ⟨rk_of g sq.2.2 (by omega) sq.2.1, fun e => sim_tickT g (k := (k : Int) + 1) (by omega) sq.2.2 (by rw [tk]; omega) sq.2.1 (by rw [zn]; exact hz) e⟩
 ·have w := sim_ch g (by omega) m h hz e
  exact rk_of g (ch_ok g m (by omega)) (by omega) w.2.1
theorem sim_run (g : Gd t l) : ∀ k, k <= l.ev.length -> (∀ j, j < k -> nqE t l (rmN t l j) j = 0) ->
  Sim (rmN t l k) (mcN t l k) /\ zoneIn t (mcN t l k).zn = true /\ mFare t l (mcN t l k) <= 1000000000 /\ ∀ j, j < k -> mcE t l j = 0
 | 0, _, _ => ⟨⟨rfl, rfl, rfl, rfl, rfl, rfl, rfl, rfl⟩, inB_iff.2 (by have := zones_pos g.trf; show (0 : Int) <= 0 /\ (0 : Int) <= _; omega), by rw [fare_0 (s := mcN t l 0) rfl]; decide, fun j hj => absurd hj (Nat.not_lt_zero j)⟩
 | k + 1, hk, h0 => by
  have ih := sim_run g k (by omega) fun j hj => h0 j (by omega)
  have w := sim_ev g (show k < l.ev.length by omega) (mcN_ok g k (by omega)) ih.1 ih.2.1 ih.2.2.1 (h0 k (by omega))
  exact ⟨w.2.1, w.2.2.1, w.2.2.2, all_lt ih.2.2.2 w.1⟩
theorem le_rn (hk : TOk t) (h : leE t l = 0) : rnE t l = 0 := by
 unfold leE at h
 by_cases a : trfE t = 0
 ·by_cases b : aloneE l = 0
  ·rw [a, b] at h
   have g : Gd t l := ⟨hk, a, b⟩
   have z : ∀ j, j < l.ev.length -> nqE t l (rmN t l j) j = 0 := fun j hj => rscan_zero (g := fun k => nqE t l (rmN t l k) k) h hj
   exact (rn_ok a b (sim_run g _ (Nat.le_refl _) z).2.2.2).1
  ·rw [a, decide_eq_false b] at h; exact absurd h b
 ·rw [decide_eq_false a] at h; exact absurd h a
end
end Go.Fx
