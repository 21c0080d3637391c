/-
 The meter's machine: its state, moments, rules, pieces.
-/
import Derived.Test.YtfdegaojblmdiaaGreatDoorGu
import Derived.Test.YtfdegaojblmdiaaGreatDoorGs
set_option linter.all false
namespace Go.Fx
open Go.Proofs
structure Pc where
 tr : Int
 ps : Int
 zn : Int
 ru : Int
 pu : Int
 tk : Int
 tm : Bool
def pc0 : Pc := ⟨0, 0, 0, 0, 0, 0, false⟩
def pcC (p : Pc) : List AV := [.int .i64 p.tr, .int .i64 p.ps, .int .i64 p.zn, .int .i64 p.ru, .int .i64 p.pu, .int .i64 p.tk, .bool p.tm]
structure Mtp where
 fi : Int
 la : Int
 d : Int
 s : Int
 st : Int
 sp : Int
 ex : List Int
 fa : Int
def mtp0 : Mtp := ⟨0, 0, 0, 0, 0, 0, [], 0⟩
def mtpC (x : Mtp) : List AV := [.int .i64 x.fi, .int .i64 x.la, .int .i64 x.d, .int .i64 x.s, .int .i64 x.st, .int .i64 x.sp, iRow x.ex, .int .i64 x.fa]
structure Mc where
 tk : Int
 pu : Int
 ps : Int
 zn : Int
 si : Int
 pa : Int
 st : Int
 ex : List Int
 fe : Int
 ad : Int
 at_ : Int
 tr : List Mtp
 zs : List Int
 pc : List Pc
def mc0 : Mc := ⟨0, 0, 0, 0, 0, 0, 0, [], 0, 0, 0, [], [], []⟩
def mrkL (t : Trf) : Nat -> List Int
 | 0 => [86400]
 | i + 1 => mrkL t i ++ [(t.rules.getD i rul0).bg, (t.rules.getD i rul0).en]
def mrkS (t : Trf) : List Int := sortI (mrkL t t.rules.length)
def secM (l : Log) (s : Mc) : Int := l.d * 86400 + l.t + s.tk
def nowM (l : Log) (s : Mc) : Mom := ⟨(secM l s).tdiv 86400, (secM l s).tmod 86400⟩
@[irreducible] def mnE (l : Log) (s : Mc) : Int := isOk (decide ((nowM l s).d <= 100000)) 2
@[irreducible] def mrE (t : Trf) (l : Log) (s : Mc) : Int := bif decide (mnE l s = 0) then ruleAtE t ⟨s.zn, nowM l s⟩ else mnE l s
@[irreducible] def mrN (t : Trf) (l : Log) (s : Mc) : Int := bif decide (mnE l s = 0) then ruleAtN t ⟨s.zn, nowM l s⟩ else 0
def stdL (x : Int) : List Int -> Int
 | [] => 1
 | m :: r => bif decide (x < m) then m - x else stdL x r
@[irreducible] def stdQ (t : Trf) (l : Log) (s : Mc) : Int := stdL (nowM l s).s (mrkS t)
@[irreducible] def mStp (t : Trf) (l : Log) (s : Mc) : Int := s.pa.tdiv (t.unit * l.c)
def mxA (t : Trf) (l : List Int) : Nat -> Int
 | 0 => 0
 | i + 1 => mxA t l i + l.getD i 0 * (t.extras.getD i ext0).am
@[irreducible] def mFare (t : Trf) (l : Log) (s : Mc) : Int := bif s.ps == 0 then 0 else bif decide (0 < t.step) then s.st + mxA t s.ex s.ex.length + min (mStp t l s) ((1000000000 : Int).tdiv t.step + 1) * t.step else s.st + mxA t s.ex s.ex.length
def rnB (s : Mc) : Bool := bif s.ps == 1 then true else s.ps == 2
def ruA (t : Trf) (n : Int) : Rul := t.rules.getD n.toNat rul0
def dstQ (t : Trf) (ru pu : Int) : Int := 1000 * (ruA t ru).me * pu
def scnQ (t : Trf) (l : Log) (ru : Int) : Int := l.c * (ruA t ru).se
def tmB (t : Trf) (l : Log) (s : Mc) (ru pu tk : Int) : Bool := bif (bif decide (0 < tk) then s.ps == 1 else false) then decide (dstQ t ru pu <= scnQ t l ru) else false
def ntP (t : Trf) (l : Log) (s : Mc) (ru pu tk : Int) : Pc := ⟨s.tr.length, s.ps, s.zn, ru, pu, tk, bif rnB s then tmB t l s ru pu tk else false⟩
def ntA (t : Trf) (l : Log) (s : Mc) (ru pu tk : Int) : Int := bif rnB s then s.pa + (bif tmB t l s ru pu tk then scnQ t l ru else dstQ t ru pu) * max 1 tk else s.pa
@[irreducible] def ntS (t : Trf) (l : Log) (s : Mc) (ru pu tk : Int) : Mc := { s with pa := ntA t l s ru pu tk, pc := s.pc ++ [ntP t l s ru pu tk] }
def chgB (s : Mc) : Bool := bif rnB s then decide (0 < s.si) else false
@[irreducible] def chE_ (t : Trf) (l : Log) (s : Mc) : Int := bif chgB s then mrE t l s else 0
@[irreducible] def chS (t : Trf) (l : Log) (s : Mc) : Mc := bif chgB s then (bif decide (mrE t l s = 0) then { ntS t l s (mrN t l s) s.si 0 with si := 0 } else s) else { s with si := 0 }
def rdE (t : Trf) (l : Log) (s : Mc) : Int := bif rnB s then mrE t l s else 0
def rdK (t : Trf) (l : Log) (s : Mc) (n : Int) : Int := bif rnB s then (bif decide (0 < s.si) then 1 else min n (stdQ t l s)) else n
@[irreducible] def rdS (t : Trf) (l : Log) (s : Mc) (n : Int) : Mc := { ntS t l s (bif rnB s then mrN t l s else 0) (bif rnB s then s.si else 0) (rdK t l s n) with si := 0, tk := s.tk + rdK t l s n }
def tkF (t : Trf) (l : Log) : Nat -> Mc -> Int -> Mc × Int
 | 0, s, _ => (s, 0)
 | f + 1, s, n => bif decide (0 < n) then (bif decide (rdE t l s = 0) then (bif decide (1000000000 < mFare t l (rdS t l s n)) then (rdS t l s n, 8) else tkF t l f (rdS t l s n) (n - rdK t l s n)) else (s, rdE t l s)) else (s, 0)
@[irreducible] def tkS (t : Trf) (l : Log) (s : Mc) (n : Int) : Mc := (tkF t l n.toNat s n).1
@[irreducible] def tkE (t : Trf) (l : Log) (s : Mc) (n : Int) : Int := (tkF t l n.toNat s n).2
def goB (a b : Int) : Bool := bif a == 0 then b == 1 else bif a == 1 then (bif b == 2 then true else b == 3) else bif a == 2 then (bif b == 1 then true else b == 3) else (bif b == 1 then true else b == 0)
def bgS (t : Trf) (l : Log) (s : Mc) (i : Int) : Mc := { s with ad := (nowM l s).d, at_ := (nowM l s).s, zs := s.zs ++ [s.zn], fe := i, st := (ruA t (mrN t l s)).st, pa := 0, ex := List.replicate t.extras.length 0 }
def edS (t : Trf) (l : Log) (s : Mc) (i : Int) : Mc := { s with tr := s.tr ++ [⟨s.fe, i, s.ad, s.at_, s.st, mStp t l s, s.ex, mFare t l s⟩], ex := [] }
@[irreducible] def poE (t : Trf) (l : Log) (s : Mc) (i p : Int) : Int := bif goB s.ps p then (bif decide (chE_ t l s = 0) then (bif s.ps == 0 then mrE t l (chS t l s) else 0) else chE_ t l s) else 22
@[irreducible] def poS (t : Trf) (l : Log) (s : Mc) (i p : Int) : Mc :=
 bif goB s.ps p then (bif decide (chE_ t l s = 0) then
  (bif s.ps == 0 then (bif decide (mrE t l (chS t l s) = 0) then { bgS t l (chS t l s) i with ps := p } else chS t l s)
   else bif p == 0 then { edS t l (chS t l s) i with ps := p } else { chS t l s with ps := p })
  else chS t l s) else s
def mxH (t : Trf) (s : Mc) (n : Int) : Int := firstS [isOk (decide (n < t.extras.length)) 6, isOk (s.ps != 0) 22]
@[irreducible] def mxE (t : Trf) (s : Mc) (n : Int) : Int := bif decide (mxH t s n = 0) then (bif decide (20 <= s.ex.getD n.toNat 0) then 16 else 0) else mxH t s n
@[irreducible] def mxU (t : Trf) (s : Mc) (n : Int) : Mc := bif decide (mxE t s n = 0) then { s with ex := s.ex.set n.toNat (s.ex.getD n.toNat 0 + 1) } else s
def evG (t : Trf) (l : Log) (s : Mc) (i : Int) (v : Ev) : Mc :=
 bif v.k == 0 then { s with si := s.si + v.n, pu := s.pu + v.n }
 else bif v.k == 1 then tkS t l s v.n
 else bif v.k == 2 then poS t l s i v.n
 else bif v.k == 3 then (bif decide (v.n < t.zones.length) then { chS t l s with zn := v.n } else s)
 else bif v.k == 4 then mxU t s v.n
 else s
def evH (t : Trf) (l : Log) (s : Mc) (i : Int) (v : Ev) : Int :=
 bif v.k == 0 then 0
 else bif v.k == 1 then tkE t l s v.n
 else bif v.k == 2 then poE t l s i v.n
 else bif v.k == 3 then (bif decide (v.n < t.zones.length) then chE_ t l s else 6)
 else bif v.k == 4 then mxE t s v.n
 else 0
@[irreducible] def evS_ (t : Trf) (l : Log) (s : Mc) (i : Nat) : Mc := evG t l s i (l.ev.getD i ev0)
@[irreducible] def evF (t : Trf) (l : Log) (s : Mc) (i : Nat) : Int := firstS [evH t l s i (l.ev.getD i ev0), isOk (decide (mFare t l (evS_ t l s i) <= 1000000000)) 8]
def mcN (t : Trf) (l : Log) : Nat -> Mc
 | 0 => mc0
 | k + 1 => evS_ t l (mcN t l k) k
def mcE (t : Trf) (l : Log) (k : Nat) : Int := evF t l (mcN t l k) k
@[irreducible] def rnE (t : Trf) (l : Log) : Int := bif decide (trfE t = 0) then (bif decide (aloneE l = 0) then scanE (mcE t l) (List.range l.ev.length) else aloneE l) else trfE t
@[irreducible] def rnN (t : Trf) (l : Log) : Int := bif decide (trfE t = 0) then (bif decide (aloneE l = 0) then scanN (mcE t l) (List.range l.ev.length) else aloneN l) else 0
def mxV (s : Mc) : Nat := bif s.ps == 0 then 2 * s.zs.length + 1 else 2 * s.zs.length
@[reducible] def mcC (t : Trf) (l : Log) (s : Mc) : List AV := [.str t.name, .int .i64 t.unit, .int .i64 t.step, sRow t.zones, iRow t.hol, rulS t.rules, extS t.extras, fxdS t.fixed, .int .i64 l.c, .int .i64 l.d, .int .i64 l.t, evS l.ev, iRow (mrkS t),
 .int .i64 s.tk, .int .i64 s.pu, .int .i64 s.ps, .int .i64 s.zn, .int .i64 s.si, .int .i64 s.pa, .int .i64 s.st, .own 1 (2 * s.zs.length), .int .i64 s.fe, .int .i64 (t.unit * l.c), .int .i64 s.ad, .int .i64 s.at_, .own 2 (s.tr.length + 1), .own 3 (s.zs.length + 1), .own 4 (s.pc.length + 1)]
@[reducible] def mxO (l : List Int) (v : Nat) : HObj := .list 3 1 l.length (fun i _ => .int .i64 (l.getD i 0)) v
@[reducible] def trO (l : List Mtp) : HObj := .list 67 8 l.length (fun i j => tbl (mtpC (l.getD i mtp0)) j) (l.length + 1)
@[reducible] def zsO (l : List Int) : HObj := .list 3 1 l.length (fun i _ => .int .i64 (l.getD i 0)) (l.length + 1)
@[reducible] def pcO (l : List Pc) : HObj := .list 140 7 l.length (fun i j => tbl (pcC (l.getD i pc0)) j) (l.length + 1)
@[reducible] def mcO (t : Trf) (l : Log) (s : Mc) : List HObj := [.box (mcC t l s), mxO s.ex (mxV s), trO s.tr, zsO s.zs, pcO s.pc]
open Go.Proofs
structure Gd (t : Trf) (l : Log) : Prop where
 ok : TOk t
 trf : trfE t = 0
 al : aloneE l = 0
theorem gd_head {l : Log} (h : aloneE l = 0) : (1 <= l.c /\ l.c <= 100000) /\ (0 <= l.d /\ l.d <= 100000) /\ (0 <= l.t /\ l.t <= 86399) /\ l.ev.length <= 200 /\ ∀ j, j < l.ev.length -> evE (l.ev.getD j ev0) = 0 := by
 unfold aloneE at h
 by_cases q : headE l = 0
 ·rw [q] at h
  have hs := scan_zero (g := evE) (d := ev0) (l := l.ev) h
  unfold headE at q
  have z := firstS_zero q
  have z0 : (bif inB l.c 1 100000 then 0 else 2 : Int) = 0 := z _ (by simp)
  have z1 : momE l.d l.t = 0 := z _ (by simp)
  have z2 : (bif decide ((l.ev.length : Int) <= 200) then 0 else 8 : Int) = 0 := z _ (by simp)
  unfold momE at z1
  cases b0 : inB l.c 1 100000 <;> rw [b0] at z0
  ·cases z0
  cases b1 : inB l.d 0 100000 <;> rw [b1] at z1
  ·cases z1
  cases b2 : inB l.t 0 86399 <;> rw [b2] at z1
  ·cases z1
  by_cases b3 : (l.ev.length : Int) <= 200
  ·exact ⟨inB_iff.1 b0, inB_iff.1 b1, inB_iff.1 b2, by omega, hs⟩
  ·rw [decide_eq_false b3] at z2; cases z2
 ·rw [decide_eq_false q] at h; exact absurd h q
theorem ev_ok {e : Ev} (h : evE e = 0) : (0 <= e.k /\ e.k <= 6) /\ (e.k = 0 -> 1 <= e.n /\ e.n <= 100000) /\ (e.k = 1 -> 1 <= e.n /\ e.n <= 3600) /\ (e.k = 2 -> 0 <= e.n /\ e.n <= 3) /\ 0 <= e.n /\ e.n <= 1000000000 := by
 unfold evE at h
 cases b0 : inB e.k 0 6 <;> rw [b0] at h
 ·cases h
 have k := inB_iff.1 b0
 cases b1 : inB e.n (evLo e.k) (evHi e.k) <;> rw [b1] at h
 ·cases h
 have w := inB_iff.1 b1
 rcases (show e.k = 0 \/ e.k = 1 \/ e.k = 2 \/ e.k = 3 \/ e.k = 4 \/ e.k = 5 \/ e.k = 6 by omega) with q | q | q | q | q | q | q <;> rw [q] at w <;> simp [evLo, evHi, rangesL] at w <;> refine ⟨by omega, by omega, by omega, by omega, by omega, by omega⟩
theorem ruleAt_ok' {t : Trf} {p : Plc} (h : ruleAtE t p = 0) : 0 <= ruleAtN t p /\ ruleAtN t p < t.rules.length /\ oneE (holdI t p t.rules.length) = 0 /\ ruleAtN t p = oneN (holdI t p t.rules.length) /\ gateE t p = 0 := by
 unfold ruleAtE at h
 unfold ruleAtN
 by_cases q : gateE t p = 0
 ·rw [q] at h ⊢
  have h : oneE (holdI t p t.rules.length) = 0 := h
  have := hold_mem t p t.rules.length _ (oneN_mem h)
  exact ⟨this.1, this.2, h, rfl, rfl⟩
 ·rw [decide_eq_false q] at h; exact absurd h q
theorem mr_at {t : Trf} {l : Log} {s : Mc} (h : mrE t l s = 0) : mnE l s = 0 /\ ruleAtE t ⟨s.zn, nowM l s⟩ = 0 /\ mrN t l s = ruleAtN t ⟨s.zn, nowM l s⟩ := by
 unfold mrE at h
 unfold mrN
 by_cases q : mnE l s = 0
 ·rw [q] at h ⊢; exact ⟨rfl, h, rfl⟩
 ·rw [decide_eq_false q] at h; exact absurd h q
theorem mr_ok {t : Trf} {l : Log} {s : Mc} (h : mrE t l s = 0) : 0 <= mrN t l s /\ mrN t l s < t.rules.length := by
 obtain ⟨_, h2, h3⟩ := mr_at h
 rw [h3]
 exact ⟨(ruleAt_ok' h2).1, (ruleAt_ok' h2).2.1⟩
theorem mr_rule {t : Trf} {l : Log} {s : Mc} (ht : trfE t = 0) (h : mrE t l s = 0) : ROk t.zones.length (ruA t (mrN t l s)) := by
 have w := mr_ok h
 exact trf_rule ht (by omega)
theorem dst_bd {t : Trf} {z : Int} {ru pu : Int} (h : ROk z (ruA t ru)) (h0 : 0 <= pu) : (0 <= 1000 * (ruA t ru).me /\ 1000 * (ruA t ru).me <= 1000000000) /\ 0 <= dstQ t ru pu /\ dstQ t ru pu <= 1000000000 * pu := by
 have m := h.me
 have m1 : 0 <= 1000 * (ruA t ru).me /\ 1000 * (ruA t ru).me <= 1000000000 := by omega
 have := mul_bd (A := 1000000000) (B := pu) m1.1 m1.2 h0 (Int.le_refl _)
 exact ⟨m1, this⟩
theorem scn_bd {t : Trf} {l : Log} {z : Int} {ru : Int} (h : ROk z (ruA t ru)) (hc : 1 <= l.c /\ l.c <= 100000) : 0 <= scnQ t l ru /\ scnQ t l ru <= 100000000000 := by
 have m := h.se
 exact mul_bd (A := 100000) (B := 1000000) (by omega) hc.2 m.1 m.2
theorem std_ge (x : Int) : ∀ l : List Int, 1 <= stdL x l
 | [] => Int.le_refl _
 | m :: r => by
  simp only [stdL]
  by_cases h : x < m
  ·rw [decide_eq_true h]; show 1 <= m - x; omega
  ·rw [decide_eq_false h]; exact std_ge x r
structure MOk (t : Trf) (k : Int) (s : Mc) : Prop where
 tk : 0 <= s.tk /\ s.tk <= 3600 * k
 si : 0 <= s.si /\ s.si <= s.pu
 pu : s.pu <= 100000 * k
 pa : 0 <= s.pa /\ s.pa <= 1000000000 * (s.pu - s.si) + 100000000000 * s.tk
 ps : 0 <= s.ps /\ s.ps <= 3
 zn : 0 <= s.zn /\ s.zn <= 1000000000
 st : 0 <= s.st /\ s.st <= 100000
 exl : s.ps ≠ 0 -> s.ex.length = t.extras.length
 ex0 : s.ps = 0 -> s.ex = []
 ex : ∀ j, 0 <= s.ex.getD j 0 /\ s.ex.getD j 0 <= 20
 tr : (s.tr.length : Int) <= k
 zs : (s.zs.length : Int) <= k
 pc : (s.pc.length : Int) <= s.tk + k
theorem mok0 (t : Trf) : MOk t 0 mc0 := by
 refine ⟨?_, ?_, ?_, ?_, ?_, ?_, ?_, ?_, ?_, ?_, ?_, ?_, ?_⟩ <;> simp [mc0]
theorem MOk.mono {t : Trf} {k k' : Int} {s : Mc} (h : MOk t k s) (hk : k <= k') : MOk t k' s :=
 ⟨by have := h.tk; omega, h.si, by have := h.pu; omega, h.pa, h.ps, h.zn, h.st, h.exl, h.ex0, h.ex, by have := h.tr; omega, by have := h.zs; omega, by have := h.pc; omega⟩
structure Hm (t : Trf) (l : Log) (s : Mc) : Prop where
 g : Gd t l
 m : MOk t 201 s
theorem Hm.nums {t : Trf} {l : Log} {s : Mc} (h : Hm t l s) : (1 <= l.c /\ l.c <= 100000) /\ (0 <= l.d /\ l.d <= 100000) /\ (0 <= l.t /\ l.t <= 86399) /\ (0 <= s.tk /\ s.tk <= 723600) /\ (0 <= s.si /\ s.si <= s.pu) /\ s.pu <= 20100000 /\ (0 <= s.pa /\ s.pa <= 92460000000000000) /\ (1 <= t.unit /\ t.unit <= 999999999) /\ (0 <= t.step /\ t.step <= 100000) := by
 have a := gd_head h.g.al
 have b := trf_unit h.g.trf
 have c := h.m
 have c1 := c.tk; have c2 := c.si; have c3 := c.pu; have c4 := c.pa
 refine ⟨a.1, a.2.1, a.2.2.1, by omega, by omega, by omega, by omega, b.1, b.2⟩
theorem uc_bd {t : Trf} {l : Log} (hu : 1 <= t.unit /\ t.unit <= 999999999) (hc : 1 <= l.c /\ l.c <= 100000) : 1 <= t.unit * l.c /\ t.unit * l.c <= 99999999900000 := by
 have h1 := mul_bd (A := 999999999) (B := 100000) (by omega : 0 <= t.unit) hu.2 (by omega : 0 <= l.c) hc.2
 have h2 : 0 < t.unit * l.c := Int.mul_pos (by omega) (by omega)
 omega
theorem stp_bd {t : Trf} {l : Log} {s : Mc} (h : Hm t l s) : 0 <= mStp t l s /\ mStp t l s <= 92460000000000000 := by
 have n := h.nums
 have u := uc_bd n.2.2.2.2.2.2.2.1 n.1
 unfold mStp
 exact quo_bd n.2.2.2.2.2.2.1.1 n.2.2.2.2.2.2.1.2 (by omega)
theorem trf_ext {t : Trf} (h : trfE t = 0) : t.extras.length <= 6 /\ ∀ j, j < t.extras.length -> 0 <= (t.extras.getD j ext0).am /\ (t.extras.getD j ext0).am <= 100000 := by
 have w := pE_0 ((trf_0 h).2 3 (by decide))
 refine ⟨w.1, fun j hj => ?_⟩
 have q : extE t j = 0 := w.2 j hj
 unfold extE at q
 cases b1 : nameB (t.extras.getD j ext0).name <;> rw [b1] at q
 ·cases q
 ·cases b2 : (List.range j).any (fun k => decide ((t.extras.getD k ext0).name = (t.extras.getD j ext0).name)) <;> rw [b2] at q
  ·exact inB_iff.1 (isOk_0 (e := 2) q (by decide))
  ·cases q
theorem mxA_bd {t : Trf} {l : List Int} (h : trfE t = 0) (hl : ∀ j, 0 <= l.getD j 0 /\ l.getD j 0 <= 20) : ∀ i, i <= t.extras.length -> 0 <= mxA t l i /\ mxA t l i <= 2000000 * i
 | 0, _ => by simp [mxA]
 | i + 1, hi => by
  have ih := mxA_bd h hl i (by omega)
  have a := (trf_ext h).2 i (by omega)
  have b := hl i
  have := mul_bd (A := 20) (B := 100000) b.1 b.2 a.1 a.2
  simp only [mxA]
  omega
theorem mx_one {t : Trf} {l : List Int} (h : trfE t = 0) (hl : ∀ j, 0 <= l.getD j 0 /\ l.getD j 0 <= 20) {i : Nat} (hi : i < t.extras.length) : 0 <= l.getD i 0 * (t.extras.getD i ext0).am /\ l.getD i 0 * (t.extras.getD i ext0).am <= 2000000 := by
 have a := (trf_ext h).2 i hi
 have b := hl i
 have := mul_bd (A := 20) (B := 100000) b.1 b.2 a.1 a.2
 omega
theorem fare_0 {t : Trf} {l : Log} {s : Mc} (h : s.ps = 0) : mFare t l s = 0 := by unfold mFare; rw [h]; rfl
theorem fare_1 {t : Trf} {l : Log} {s : Mc} (h : s.ps ≠ 0) (h2 : 0 < t.step) : mFare t l s = s.st + mxA t s.ex s.ex.length + min (mStp t l s) ((1000000000 : Int).tdiv t.step + 1) * t.step := by
 unfold mFare; rw [show (s.ps == 0) = false from beq_false_of_ne h, decide_eq_true h2]; rfl
theorem fare_2 {t : Trf} {l : Log} {s : Mc} (h : s.ps ≠ 0) (h2 : ¬ 0 < t.step) : mFare t l s = s.st + mxA t s.ex s.ex.length := by
 unfold mFare; rw [show (s.ps == 0) = false from beq_false_of_ne h, decide_eq_false h2]; rfl
theorem mn_eq {l : Log} {s : Mc} : (bif decide ((l.d * 86400 + l.t + s.tk).tdiv 86400 <= 100000) then 0 else 2 : Int) = mnE l s := by unfold mnE; rfl
theorem mr_bad {t : Trf} {l : Log} {s : Mc} (h : (mnE l s != 0) = true) : mrE t l s = mnE l s /\ mrN t l s = 0 := by
 have h := bne_iff_ne.1 h
 unfold mrE mrN; rw [decide_eq_false h]; exact ⟨rfl, rfl⟩
theorem mr_good {t : Trf} {l : Log} {s : Mc} (h : (mnE l s != 0) = false) : mrE t l s = ruleAtE t ⟨s.zn, nowM l s⟩ /\ mrN t l s = ruleAtN t ⟨s.zn, nowM l s⟩ := by
 have h := bne_eq_false_iff_eq.1 h
 unfold mrE mrN; rw [h]; exact ⟨rfl, rfl⟩
theorem std_hit {x : Int} : ∀ {l : List Int} {i : Nat}, i < l.length -> (∀ j, j < i -> ¬ x < l.getD j 0) -> x < l.getD i 0 -> stdL x l = l.getD i 0 - x
 | m :: r, 0, _, _, h => by
  have h : x < m := h
  simp only [stdL]; rw [decide_eq_true h]; rfl
 | m :: r, i + 1, hi, h0, h => by
  have hx : ¬ x < m := h0 0 (by omega)
  simp only [stdL]; rw [decide_eq_false hx]
  exact std_hit (l := r) (by simpa using hi) (fun j hj => h0 (j + 1) (by omega)) h
 | [], i, hi, _, _ => by simp at hi
theorem std_none {x : Int} : ∀ {l : List Int}, (∀ j, j < l.length -> ¬ x < l.getD j 0) -> stdL x l = 1
 | [], _ => rfl
 | m :: r, h0 => by
  have hx : ¬ x < m := h0 0 (by simp)
  simp only [stdL]; rw [decide_eq_false hx]
  exact std_none (l := r) (fun j hj => h0 (j + 1) (by simpa using hj))
theorem mrkL_mem {t : Trf} (ht : trfE t = 0) : ∀ n, n <= t.rules.length -> ∀ x ∈ mrkL t n, 0 <= x /\ x <= 86400
 | 0, _, x, hx => by simp [mrkL] at hx; omega
 | n + 1, hn, x, hx => by
  simp only [mrkL] at hx
  rcases List.mem_append.1 hx with h | h
  ·exact mrkL_mem ht n (by omega) x h
  ·have r := trf_rule ht (k := n) (by omega)
   have r1 := r.bg; have r2 := r.en
   simp only [List.mem_cons, List.not_mem_nil, or_false] at h
   rcases h with h | h <;> omega
theorem mrkL_len (t : Trf) : ∀ n, (mrkL t n).length = 2 * n + 1
 | 0 => rfl
 | n + 1 => by simp only [mrkL, List.length_append, mrkL_len t n]; simp; omega
theorem mrkS_len (t : Trf) : (mrkS t).length = 2 * t.rules.length + 1 := by unfold mrkS sortI; rw [List.length_mergeSort, mrkL_len]
theorem mrkS_mem {t : Trf} {x : Int} : x ∈ mrkS t ↔ x ∈ mrkL t t.rules.length := by unfold mrkS sortI; exact (List.mergeSort_perm _ _).mem_iff
theorem mrk_bd {t : Trf} (ht : trfE t = 0) {i : Nat} (hi : i < (mrkS t).length) : 0 <= (mrkS t).getD i 0 /\ (mrkS t).getD i 0 <= 86400 := by
 have hm : (mrkS t).getD i 0 ∈ mrkS t := by rw [List.getD_eq_getElem?_getD, List.getElem?_eq_getElem hi]; exact List.getElem_mem hi
 exact mrkL_mem ht _ (Nat.le_refl _) _ (mrkS_mem.1 hm)
theorem now_bd {t : Trf} {l : Log} {s : Mc} (h : Hm t l s) : 0 <= (nowM l s).s /\ (nowM l s).s <= 86399 := by
 have n := h.nums
 unfold nowM secM
 have e : (l.d * 86400 + l.t + s.tk).tmod 86400 = (l.d * 86400 + l.t + s.tk) % 86400 := Int.tmod_eq_emod_of_nonneg (by omega)
 simp only [e]
 omega
theorem qo_bd {a d B : Int} (h0 : 0 <= a) (h1 : a <= B) (hd : 0 < d) (hB : B <= 9223372036854775807) : inK .i64 (a.tdiv d) := by
 have := quo_bd h0 h1 hd
 exact ⟨by omega, by omega⟩
theorem min_bd {m st : Int} (h0 : 0 <= m) (h1 : 0 < st) (h2 : st <= 100000) : 0 <= min m ((1000000000 : Int).tdiv st + 1) * st /\ min m ((1000000000 : Int).tdiv st + 1) * st <= 1000100000 /\ inK .i64 ((1000000000 : Int).tdiv st) /\ inK .i64 ((1000000000 : Int).tdiv st + 1) := by
 have e : (1000000000 : Int).tdiv st = 1000000000 / st := Int.tdiv_eq_ediv_of_nonneg (by omega)
 have a := Int.ediv_mul_le 1000000000 (b := st) (by omega)
 have b : 0 <= (1000000000 : Int) / st := Int.ediv_nonneg (by omega) (by omega)
 have d : (1000000000 : Int) / st <= 1000000000 := Int.ediv_le_self _ (by omega)
 rw [e]
 generalize (1000000000 : Int) / st = q at *
 have f := Int.mul_le_mul_of_nonneg_right (show min m (q + 1) <= q + 1 by omega) (show 0 <= st by omega)
 have g := Int.mul_nonneg (show 0 <= min m (q + 1) by omega) (show 0 <= st by omega)
 rw [Int.add_mul, Int.one_mul] at f
 exact ⟨g, by omega, ⟨by omega, by omega⟩, ⟨by omega, by omega⟩⟩
open Go.Proofs Go.RowKit
@[reducible] def mcZC (t : Trf) (l : Log) (s : Mc) : List AV := [.str t.name, .int .i64 t.unit, .int .i64 t.step, sRow t.zones, iRow t.hol, rulS t.rules, extS t.extras, fxdS t.fixed, .int .i64 l.c, .int .i64 l.d, .int .i64 l.t, evS l.ev, iRow (mrkS t),
 .int .i64 s.tk, .int .i64 s.pu, .int .i64 s.ps, .int .i64 s.zn, .int .i64 s.si, .int .i64 s.pa, .int .i64 s.st, iRow s.ex, .int .i64 s.fe, .int .i64 (t.unit * l.c), .int .i64 s.ad, .int .i64 s.at_, .own 2 (s.tr.length + 1), .own 3 (s.zs.length + 1), .own 4 (s.pc.length + 1)]
@[reducible] def gh0 (v : Nat) : HObj := .list 3 1 0 (fun i _ => .int .i64 (([] : List Int).getD i 0)) v
@[reducible] def mcT (t : Trf) (l : Log) (s : Mc) : List HObj := [.box (mcC t l s), mxO s.ex (2 * s.zs.length), trO s.tr, zsO s.zs, pcO s.pc]
@[reducible] def mcZ (t : Trf) (l : Log) (s : Mc) : List HObj := [.box (mcZC t l s), gh0 (2 * s.zs.length + 1), trO s.tr, zsO s.zs, pcO s.pc]
@[reducible] def mcR (t : Trf) (l : Log) (s : Mc) : List HObj := [.box (mcC t l s), gh0 (2 * s.zs.length + 1), trO s.tr, zsO s.zs, pcO s.pc]
theorem mcO_t {t : Trf} {l : Log} {s : Mc} (h : s.ps ≠ 0) : mcO t l s = mcT t l s := by
 have e : mxV s = 2 * s.zs.length := by unfold mxV; rw [show (s.ps == 0) = false from beq_false_of_ne h]; rfl
 unfold mcO; rw [e]
theorem mcO_r {t : Trf} {l : Log} {s : Mc} (h : s.ps = 0) (h2 : s.ex = []) : mcO t l s = mcR t l s := by
 have e : mxV s = 2 * s.zs.length + 1 := by unfold mxV; rw [h]; rfl
 unfold mcO mcR mxO gh0; rw [e, h2]; rfl
section
variable {W0 : World} {G : Nat -> Option AV} (hX : (Xc W0 G).Good)
include hX
theorem c136 (t : Trf) (l : Log) (s : Mc) (hs : Side (Hm t l s)) : Mut (Xc W0 G) 136 [.ptr 0 0] (mcO t l s) (.tup 2 (tbl [momA (nowM l s), .int .i64 (mnE l s)])) (mcO t l s) := by
 have hm := hs.get
 have nn := hm.nums
 obtain ⟨n1, n2, n3, n4, n5, n6, n7, n8, n9⟩ := nn
 have mk_ := hm.m
 refine mut_of' hX (fnI Tryz.f136) rfl ?_
 repeat' (first
  | (refine Ax.go ?_; with_reducible first | apply callAlt (c49 hX _ _) | apply Alt.one)
  | exact Cl.go
  | exact Ce.go
  | ((fail_if_success refine Stop.go ?_); first | (with_reducible first | apply And.intro | apply Cut.go | (refine impI ?_; intro _)) | (refine propI ?_; conv => whnf)))
 all_goals try exact nbZ
 all_goals try ((with_reducible refine (?_ : Sc _ _)); refine Sc.of ?_; first | (exact ⟨by omega, by omega⟩) | decide)
 ·exact .of (qo_bd (B := 10000000000) (by omega) (by omega) (by decide) (by decide))
 ·exact .mk [] [] _ rfl (.le (.tups ⟨⟨trivial, .aggs ⟨⟨trivial, .refl _⟩, .refl _⟩⟩, .intI mn_eq⟩)) (.ofEq (by kernel_rfl)) (by kernel_rfl)
theorem c132 (t : Trf) (l : Log) (s : Mc) (hs : Side (Hm t l s)) : Mut (Xc W0 G) 132 [.ptr 0 0] (mcO t l s) (.tup 2 (tbl [.int .i64 (mrN t l s), .int .i64 (mrE t l s)])) (mcO t l s) := by
 have hm := hs.get
 have nn := hm.nums
 obtain ⟨n1, n2, n3, n4, n5, n6, n7, n8, n9⟩ := nn
 have mk_ := hm.m
 refine mut_of' hX (fnI Tryz.f132) rfl ?_
 repeat' (first
  | (refine Ax.go ?_; first | (with_reducible (apply altM (ks := [0, 1, 2, 3, 4]) (m := 0); apply And.intro; apply Sc.of; apply (c136 hX t l s hs))) | ((with_reducible apply callAlt (c179 hX t ⟨s.zn, nowM l s⟩ ?_)); case hl => (first | exact AllLe.refl _ | ((repeat' (first | exact trivial | apply Le.aggs | apply Le.tups | apply Le.fns | exact Le.refl _ | refine ⟨?_, ?_⟩)); done))) | apply Alt.one)
  | exact Cl.go
  | exact Ce.go
  | ((fail_if_success refine Stop.go ?_); first | (with_reducible first | apply And.intro | apply Cut.go | (refine impI ?_; intro _)) | (refine propI ?_; conv => whnf)))
 all_goals try exact nbZ
 all_goals try ((with_reducible refine (?_ : Sc _ _)); refine Sc.of ?_; first | (exact ⟨by omega, by omega⟩) | decide)
 all_goals try (exact Side.mk hm.g.ok)
 ·rename_i h; obtain ⟨e1, e2⟩ := mr_bad (t := t) h; exact .mk [] [] _ rfl (.le (.tups ⟨⟨trivial, .intI e2.symm⟩, .intI e1.symm⟩)) (.ofEq (by kernel_rfl)) (by kernel_rfl)
 ·rename_i h; obtain ⟨e1, e2⟩ := mr_good (t := t) h; exact .mk [] [] _ rfl (.le (.tups ⟨⟨trivial, .intI e2.symm⟩, .intI e1.symm⟩)) (.ofEq (by kernel_rfl)) (by kernel_rfl)
theorem c133 (t : Trf) (l : Log) (s : Mc) (hs : Side (Hm t l s)) : Mut (Xc W0 G) 133 [.ptr 0 0] (mcO t l s) (.int .i64 (stdQ t l s)) (mcO t l s) := by
 have hm := hs.get
 have nn := hm.nums
 obtain ⟨n1, n2, n3, n4, n5, n6, n7, n8, n9⟩ := nn
 have mk_ := hm.m
 have hl := mrkS_len t
 have hr := hm.g.ok.rules
 refine mut_of' hX (fnI Tryz.f133) rfl ?_
 repeat' (first
  | (refine Ax.go ?_; with_reducible first | (apply altM (ks := [0, 1, 2, 3, 4]) (m := 0); apply And.intro; apply Sc.of; apply (c136 hX t l s hs)) | apply Alt.one)
  | exact Cl.go
  | exact Ce.go
  | ((fail_if_success refine Stop.go ?_); first | (with_reducible first | apply And.intro | apply Cut.go | (refine impI ?_; intro _)) | (refine propI ?_; conv => whnf)))
 all_goals try exact nbZ
 refine ⟨Nat, fun i => ([(3, .ptr 5 0), (15, iRow (mrkS t)), (16, .int .i64 (mrkS t).length), (17, .int .i64 i)], mcO t l s ++ [.box [.int .i64 (nowM l s).d, .int .i64 (nowM l s).s]]), fun i => i <= (mrkS t).length /\ ∀ j, j < i -> ¬ (nowM l s).s < (mrkS t).getD j 0, fun i => (mrkS t).length - i, ⟨0, ⟨Nat.zero_le _, fun _ h => by omega⟩, .le ⟨by kernel_rfl, HLe.ofEq (by kernel_rfl), ⟨.refl _, .refl _, .refl _, .refl _, trivial⟩⟩⟩, fun i ⟨hi, h0⟩ => ?_⟩
 repeat' (first
  | (refine Ax.go ?_; apply Alt.one)
  | exact Cl.go
  | exact Ce.go
  | ((fail_if_success refine Stop.go ?_); first | (with_reducible first | apply And.intro | apply Cut.go | (refine impI ?_; intro _)) | (refine propI ?_; conv => whnf)))
 all_goals try exact nbZ
 ·rename_i q; have q := of_decide_eq_true q; exact owZ
 ·rename_i q q2; have q := of_decide_eq_true q; have q2 := of_decide_eq_true q2
  have hb := mrk_bd hm.g.trf (show i < (mrkS t).length by omega)
  have hn := now_bd hm
  simp only [Int.toNat_natCast]
  exact owZ
 ·rename_i q q2; have q := of_decide_eq_true q; have q2 := of_decide_eq_true q2
  exact .mk [] [] _ rfl (.le (.intI (by simp only [Int.toNat_natCast]; unfold stdQ; rw [std_hit (show i < (mrkS t).length by omega) h0 q2]))) (.ofEq (by kernel_rfl)) (by kernel_rfl)
 ·rename_i q q2; have q := of_decide_eq_true q; exact owZ
 ·rename_i q q2; have q := of_decide_eq_true q; have q2 := of_decide_eq_false q2
  exact ⟨i + 1, ⟨by omega, all_lt h0 q2⟩, by show (mrkS t).length - (i + 1) < (mrkS t).length - i; omega, .le ⟨by kernel_rfl, HLe.ofEq (by kernel_rfl), ⟨.refl _, .refl _, .refl _, .refl _, trivial⟩⟩⟩
 ·rename_i q; have q := of_decide_eq_false q
  exact .mk [] [] _ rfl (.le (.intI (by unfold stdQ; rw [std_none (l := mrkS t) (fun j hj => h0 j (by omega))]))) (.ofEq (by kernel_rfl)) (by kernel_rfl)
theorem c90 (t : Trf) (l : Log) (s : Mc) (hs : Side (Hm t l s)) : Mut (Xc W0 G) 90 [.ptr 0 0] (mcO t l s) (.int .i64 (mStp t l s)) (mcO t l s) := by
 have hm := hs.get
 have nn := hm.nums
 obtain ⟨n1, n2, n3, n4, n5, n6, n7, n8, n9⟩ := nn
 have mk_ := hm.m
 refine mut_of' hX (fnI Tryz.f90) rfl ?_
 repeat' (first
  | (refine Ax.go ?_; apply Alt.one)
  | exact Cl.go
  | exact Ce.go
  | ((fail_if_success refine Stop.go ?_); first | (with_reducible first | apply And.intro | apply Cut.go | (refine impI ?_; intro _)) | (refine propI ?_; conv => whnf)))
 all_goals try exact nbZ
 all_goals (have u := uc_bd n8 n1)
 all_goals try ((with_reducible refine (?_ : Sc _ _)); refine Sc.of ?_; first | omega | exact qo_bd n7.1 n7.2 (by omega) (by decide))
 ·exact .mk [] [] _ rfl (.le (.intI (by unfold mStp; rfl))) (.ofEq (by kernel_rfl)) (by kernel_rfl)
theorem c131 (t : Trf) (l : Log) (s : Mc) (hs : Side (Hm t l s)) : Mut (Xc W0 G) 131 [.ptr 0 0] (mcO t l s) (.bool (rnB s)) (mcO t l s) := by
 have hm := hs.get
 have nn := hm.nums
 obtain ⟨n1, n2, n3, n4, n5, n6, n7, n8, n9⟩ := nn
 have mk_ := hm.m
 refine mut_of' hX (fnI Tryz.f131) rfl ?_
 repeat' (first
  | (refine Ax.go ?_; apply Alt.one)
  | exact Cl.go
  | exact Ce.go
  | ((fail_if_success refine Stop.go ?_); first | (with_reducible first | apply And.intro | apply Cut.go | (refine impI ?_; intro _)) | (refine propI ?_; conv => whnf)))
 all_goals try exact nbZ
 all_goals (exact .mk [] [] _ rfl (.le (.refl _)) (.ofEq (by kernel_rfl)) (by kernel_rfl))
theorem c90z (t : Trf) (l : Log) (s : Mc) (hs : Side (Hm t l s)) : Mut (Xc W0 G) 90 [.ptr 0 0] (mcZ t l s) (.int .i64 (mStp t l s)) (mcZ t l s) := by
 have hm := hs.get
 have nn := hm.nums
 obtain ⟨n1, n2, n3, n4, n5, n6, n7, n8, n9⟩ := nn
 have mk_ := hm.m
 refine mut_of' hX (fnI Tryz.f90) rfl ?_
 repeat' (first
  | (refine Ax.go ?_; apply Alt.one)
  | exact Cl.go
  | exact Ce.go
  | ((fail_if_success refine Stop.go ?_); first | (with_reducible first | apply And.intro | apply Cut.go | (refine impI ?_; intro _)) | (refine propI ?_; conv => whnf)))
 all_goals try exact nbZ
 all_goals (have u := uc_bd n8 n1)
 all_goals try ((with_reducible refine (?_ : Sc _ _)); refine Sc.of ?_; first | omega | exact qo_bd n7.1 n7.2 (by omega) (by decide))
 ·exact .mk [] [] _ rfl (.le (.intI (by unfold mStp; rfl))) (.ofEq (by kernel_rfl)) (by kernel_rfl)
theorem c131z (t : Trf) (l : Log) (s : Mc) (hs : Side (Hm t l s)) : Mut (Xc W0 G) 131 [.ptr 0 0] (mcZ t l s) (.bool (rnB s)) (mcZ t l s) := by
 have hm := hs.get
 have nn := hm.nums
 obtain ⟨n1, n2, n3, n4, n5, n6, n7, n8, n9⟩ := nn
 have mk_ := hm.m
 refine mut_of' hX (fnI Tryz.f131) rfl ?_
 repeat' (first
  | (refine Ax.go ?_; apply Alt.one)
  | exact Cl.go
  | exact Ce.go
  | ((fail_if_success refine Stop.go ?_); first | (with_reducible first | apply And.intro | apply Cut.go | (refine impI ?_; intro _)) | (refine propI ?_; conv => whnf)))
 all_goals try exact nbZ
 all_goals (exact .mk [] [] _ rfl (.le (.refl _)) (.ofEq (by kernel_rfl)) (by kernel_rfl))
theorem c56t (t : Trf) (l : Log) (s : Mc) (hs : Side (Hm t l s)) (h0 : Side (s.ps ≠ 0)) : Mut (Xc W0 G) 56 [.ptr 0 0] (mcT t l s) (.int .i64 (mFare t l s)) (mcT t l s) := by
 have hm := hs.get
 have nn := hm.nums
 obtain ⟨n1, n2, n3, n4, n5, n6, n7, n8, n9⟩ := nn
 have mk_ := hm.m
 have h0 := h0.get
 have ms := mk_.st
 have hstp := c90 hX t l s hs
 rw [mcO_t h0] at hstp
 refine mut_of' hX (fnI Tryz.f56) rfl ?_
 repeat' (first
  | (refine Ax.go ?_; apply Alt.one)
  | exact Cl.go
  | exact Ce.go
  | ((fail_if_success refine Stop.go ?_); (first | rw [beqvv (2 * s.zs.length)] | (with_reducible first | apply And.intro | apply Cut.go | (refine impI ?_; intro _)) | (refine propI ?_; conv => whnf))))
 all_goals try exact nbZ
 ·rename_i q; exact absurd (eq_of_beq q) h0
 have te := trf_ext hm.g.trf
 have el := mk_.exl h0
 refine ⟨Nat, fun i => ([(0, .ptr 0 0), (3, .int .i64 (s.st + mxA t s.ex i)), (19, .own 1 (2 * s.zs.length)), (20, .int .i64 s.ex.length), (21, .int .i64 i)], mcT t l s), fun i => i <= s.ex.length, fun i => s.ex.length - i, ⟨0, Nat.zero_le _, .le ⟨by kernel_rfl, HLe.ofEq (by kernel_rfl), ⟨.refl _, .intI ?_, .refl _, .refl _, .refl _, trivial⟩⟩⟩, fun i hi => ?_⟩
 ·show s.st = s.st + mxA t s.ex 0; simp [mxA]
 repeat' (first
  | (refine Ax.go ?_; with_reducible first | (apply altM (ks := [0, 1, 2, 3, 4]) (m := 0); apply And.intro; apply Sc.of; apply (hstp)) | apply Alt.one)
  | exact Cl.go
  | exact Ce.go
  | ((fail_if_success refine Stop.go ?_); (first | rw [beqvv (2 * s.zs.length)] | (with_reducible first | apply And.intro | apply Cut.go | (refine impI ?_; intro _)) | (refine propI ?_; conv => whnf))))
 all_goals try exact nbZ
 all_goals (replace hi : i <= s.ex.length := hi; have ma := mxA_bd hm.g.trf mk_.ex i (by omega); have sb := stp_bd hm; simp only [decide_eq_true_eq, decide_eq_false_iff_not, Int.toNat_natCast] at *)
 all_goals try ((with_reducible refine (?_ : Sc _ _)); refine Sc.of ?_; first
  | omega
  | exact ⟨by omega, by omega⟩
  | (have me := mx_one hm.g.trf mk_.ex (i := i) (by omega); exact ⟨by omega, by omega⟩)
  | (have mb := min_bd sb.1 (show 0 < t.step by omega) n9.2; first | exact mb.2.2.1 | exact mb.2.2.2 | exact ⟨by omega, by omega⟩))
 ·exact ⟨i + 1, by show i + 1 <= _; omega, by show s.ex.length - (i + 1) < s.ex.length - i; omega, .le ⟨by kernel_rfl, HLe.ofEq (by kernel_rfl), ⟨.refl _, .intI (by simp only [mxA]; omega), .refl _, .refl _, .refl _, trivial⟩⟩⟩
 ·obtain rfl : i = s.ex.length := by omega
  exact .mk [] [] _ rfl (.le (.intI (fare_1 h0 (by omega)).symm)) (.ofEq (by kernel_rfl)) (by kernel_rfl)
 ·obtain rfl : i = s.ex.length := by omega
  exact .mk [] [] _ rfl (.le (.intI (fare_2 h0 (by omega)).symm)) (.ofEq (by kernel_rfl)) (by kernel_rfl)
theorem c56z (t : Trf) (l : Log) (s : Mc) (hs : Side (Hm t l s)) (h0 : Side (s.ps ≠ 0)) : Mut (Xc W0 G) 56 [.ptr 0 0] (mcZ t l s) (.int .i64 (mFare t l s)) (mcZ t l s) := by
 have hm := hs.get
 have nn := hm.nums
 obtain ⟨n1, n2, n3, n4, n5, n6, n7, n8, n9⟩ := nn
 have mk_ := hm.m
 have h0 := h0.get
 have ms := mk_.st
 refine mut_of' hX (fnI Tryz.f56) rfl ?_
 repeat' (first
  | (refine Ax.go ?_; apply Alt.one)
  | exact Cl.go
  | exact Ce.go
  | ((fail_if_success refine Stop.go ?_); (first | rw [beqvv (2 * s.zs.length)] | (with_reducible first | apply And.intro | apply Cut.go | (refine impI ?_; intro _)) | (refine propI ?_; conv => whnf))))
 all_goals try exact nbZ
 ·rename_i q; exact absurd (eq_of_beq q) h0
 have te := trf_ext hm.g.trf
 have el := mk_.exl h0
 refine ⟨Nat, fun i => ([(0, .ptr 0 0), (3, .int .i64 (s.st + mxA t s.ex i)), (19, iRow s.ex), (20, .int .i64 s.ex.length), (21, .int .i64 i)], mcZ t l s), fun i => i <= s.ex.length, fun i => s.ex.length - i, ⟨0, Nat.zero_le _, .le ⟨by kernel_rfl, HLe.ofEq (by kernel_rfl), ⟨.refl _, .intI ?_, .refl _, .refl _, .refl _, trivial⟩⟩⟩, fun i hi => ?_⟩
 ·show s.st = s.st + mxA t s.ex 0; simp [mxA]
 repeat' (first
  | (refine Ax.go ?_; with_reducible first | (apply altM (ks := [0, 1, 2, 3, 4]) (m := 0); apply And.intro; apply Sc.of; apply (c90z hX t l s hs)) | apply Alt.one)
  | exact Cl.go
  | exact Ce.go
  | ((fail_if_success refine Stop.go ?_); (first | rw [beqvv (2 * s.zs.length)] | (with_reducible first | apply And.intro | apply Cut.go | (refine impI ?_; intro _)) | (refine propI ?_; conv => whnf))))
 all_goals try exact nbZ
 all_goals (replace hi : i <= s.ex.length := hi; have ma := mxA_bd hm.g.trf mk_.ex i (by omega); have sb := stp_bd hm; simp only [decide_eq_true_eq, decide_eq_false_iff_not, Int.toNat_natCast] at *)
 all_goals try ((with_reducible refine (?_ : Sc _ _)); refine Sc.of ?_; first
  | omega
  | exact ⟨by omega, by omega⟩
  | (have me := mx_one hm.g.trf mk_.ex (i := i) (by omega); exact ⟨by omega, by omega⟩)
  | (have mb := min_bd sb.1 (show 0 < t.step by omega) n9.2; first | exact mb.2.2.1 | exact mb.2.2.2 | exact ⟨by omega, by omega⟩))
 ·exact ⟨i + 1, by show i + 1 <= _; omega, by show s.ex.length - (i + 1) < s.ex.length - i; omega, .le ⟨by kernel_rfl, HLe.ofEq (by kernel_rfl), ⟨.refl _, .intI (by simp only [mxA]; omega), .refl _, .refl _, .refl _, trivial⟩⟩⟩
 ·obtain rfl : i = s.ex.length := by omega
  exact .mk [] [] _ rfl (.le (.intI (fare_1 h0 (by omega)).symm)) (.ofEq (by kernel_rfl)) (by kernel_rfl)
 ·obtain rfl : i = s.ex.length := by omega
  exact .mk [] [] _ rfl (.le (.intI (fare_2 h0 (by omega)).symm)) (.ofEq (by kernel_rfl)) (by kernel_rfl)
theorem c56r (t : Trf) (l : Log) (s : Mc) (hs : Side (Hm t l s)) (h0 : Side (s.ps = 0)) : Mut (Xc W0 G) 56 [.ptr 0 0] (mcO t l s) (.int .i64 (mFare t l s)) (mcO t l s) := by
 have hm := hs.get
 have nn := hm.nums
 obtain ⟨n1, n2, n3, n4, n5, n6, n7, n8, n9⟩ := nn
 have mk_ := hm.m
 have h0 := h0.get
 have hx : (s.ps == 0) = false -> False := fun q => by rw [h0] at q; cases q
 refine mut_of' hX (fnI Tryz.f56) rfl ?_
 repeat' (first
  | (refine Ax.go ?_; apply Alt.one)
  | exact Cl.go
  | exact Ce.go
  | ((fail_if_success refine Stop.go ?_); (first | exact (hx ‹_›).elim | (with_reducible first | apply And.intro | apply Cut.go | (refine impI ?_; intro _)) | (refine propI ?_; conv => whnf))))
 all_goals try exact nbZ
 all_goals (exact .mk [] [] _ rfl (.le (.intI (fare_0 h0).symm)) (.ofEq (by kernel_rfl)) (by kernel_rfl))
theorem c56 (t : Trf) (l : Log) (s : Mc) (hs : Side (Hm t l s)) : Mut (Xc W0 G) 56 [.ptr 0 0] (mcO t l s) (.int .i64 (mFare t l s)) (mcO t l s) := by
 by_cases h : s.ps = 0
 ·exact c56r hX t l s hs (Side.mk h)
 ·rw [mcO_t h]; exact c56t hX t l s hs (Side.mk h)
end
open Go.Proofs Go.RowKit
theorem Le.ownV {k v w : Nat} (h : v = w) : Le (.own k v) (.own k w) := by rw [h]; exact .refl _
theorem pc_push {l : List Pc} {x : Pc} {c : List AV} {f : Nat -> Nat -> AV} {n v : Nat} (hc : c = pcC x) (hf : ∀ j, j < 7 -> f 0 j = tbl c j) (hn : n = l.length + 1) (hv : v = l.length + 1 + 1) :
  LeO (.list 140 7 n (joinF l.length (fun i j => tbl (pcC (l.getD i pc0)) j) f) v) (pcO (l ++ [x])) := by
 subst hc hn hv
 have e : (l ++ [x]).length = l.length + 1 := by simp
 show LeO _ (.list 140 7 (l ++ [x]).length _ ((l ++ [x]).length + 1))
 rw [e]
 refine .list fun i j hi hj => .ofEq ?_
 unfold joinF
 by_cases h : i < l.length
 ·rw [if_pos h]; simp [List.getD_eq_getElem?_getD, List.getElem?_append_left h]
 ·obtain rfl : i = l.length := by omega
  rw [if_neg h, Nat.sub_self, hf j hj]; simp [List.getD_eq_getElem?_getD]
theorem nt_eq {t : Trf} {l : Log} {s : Mc} {ru pu tk : Int} : ntS t l s ru pu tk = { s with pa := ntA t l s ru pu tk, pc := s.pc ++ [ntP t l s ru pu tk] } := by unfold ntS; rfl
theorem dst_0 (t : Trf) (ru : Int) : dstQ t ru 0 = 0 := by unfold dstQ; rw [Int.mul_zero]
theorem max1 {k : Int} (h : 0 <= k) (h2 : k <= 1) : max 1 k = 1 := by omega
structure NtH (t : Trf) (s : Mc) (ru pu tk : Int) : Prop where
 r : rnB s = true -> 0 <= ru /\ ru < t.rules.length
 hp : 0 <= pu /\ pu <= 20100000
 hk : 0 <= tk /\ tk <= 3600
 one : 1 < tk -> pu = 0
theorem nt_bd {t : Trf} {l : Log} {s : Mc} {ru pu tk : Int} (hm : Hm t l s) (h : NtH t s ru pu tk) (hr : rnB s = true) : (0 <= 1000 * (ruA t ru).me /\ 1000 * (ruA t ru).me <= 1000000000) /\ (0 <= dstQ t ru pu /\ dstQ t ru pu <= 20100000000000000) /\ (0 <= scnQ t l ru /\ scnQ t l ru <= 100000000000) /\
  (0 <= dstQ t ru pu * max 1 tk /\ dstQ t ru pu * max 1 tk <= 20100000000000000) /\ (0 <= scnQ t l ru * max 1 tk /\ scnQ t l ru * max 1 tk <= 360000000000000) := by
 have hR : ROk t.zones.length (ruA t ru) := trf_rule hm.g.trf (by have := h.r hr; omega)
 have a := dst_bd (pu := pu) hR h.hp.1
 have b := scn_bd (l := l) hR hm.nums.1
 have p := h.hp
 have k := h.hk
 have d := mul_bd (A := 100000000000) (B := 3600) b.1 b.2 (show 0 <= max 1 tk by omega) (show max 1 tk <= 3600 by omega)
 refine ⟨a.1, by omega, b, ?_, by omega⟩
 by_cases q : 1 < tk
 ·rw [h.one q, dst_0, Int.zero_mul]; omega
 ·rw [max1 k.1 (by omega), Int.mul_one]; omega
section
variable {W0 : World} {G : Nat -> Option AV} (hX : (Xc W0 G).Good)
include hX
set_option maxHeartbeats 400000 in
theorem c134 (t : Trf) (l : Log) (s : Mc) (hs : Side (Hm t l s)) (ru pu tk : Int) (hn : Side (NtH t s ru pu tk)) : Mut (Xc W0 G) 134 [.ptr 0 0, .agg 7 (tbl [.int .i64 0, .int .i64 0, .int .i64 0, .int .i64 ru, .int .i64 pu, .int .i64 tk, .bool false])] (mcO t l s) (.any) (mcO t l (ntS t l s ru pu tk)) := by
 have hm := hs.get
 have nn := hm.nums
 obtain ⟨n1, n2, n3, n4, n5, n6, n7, n8, n9⟩ := nn
 have mk_ := hm.m
 have hn := hn.get
 refine mut_of' hX (fnI Tryz.f134) rfl ?_
 repeat' (first
  | (refine Ax.go ?_; with_reducible first | (apply altM (ks := [0, 1, 2, 3, 4]) (m := 0); apply And.intro; apply Sc.of; apply (c131 hX t l s hs)) | apply Alt.one)
  | exact Cl.go
  | exact Ce.go
  | ((fail_if_success refine Stop.go ?_); (first | rw [beqvv (s.tr.length + 1)] | rw [beqvv (s.zs.length + 1)] | rw [beqvv (s.pc.length + 1)] | rw [beqvv s.tr.length] | rw [beqvv s.zs.length] | rw [beqvv s.pc.length] | rw [beqvv (2 * s.zs.length)] | (with_reducible first | apply And.intro | apply Cut.go | (refine impI ?_; intro _)) | (refine propI ?_; conv => whnf))))
 all_goals try exact nbZ
 all_goals try (rename_i hr; exact Sc.of (hn.r hr))
 all_goals try ((with_reducible refine (?_ : Sc _ _)); refine Sc.of ?_; have pl := mk_.pc; exact ⟨show (s.pc.length + (0 + 1)) * 56 <= 140737488355328 by omega, show s.pc.length + (0 + 1) <= 9223372036854775807 by omega⟩)
 all_goals try ((with_reducible refine (?_ : Sc _ _)); rename_i hr; have w := nt_bd hm hn hr; simp only [dstQ, scnQ, ruA] at w; exact owZ)
 all_goals try ((with_reducible refine (?_ : Sc _ _)); rename_i hr ht; have w := nt_bd hm hn hr; simp only [dstQ, scnQ, ruA] at w; exact owZ)
 ·rename_i hr ht; replace ht : tmB t l s ru pu tk = true := ht
  refine .mk [] [] _ rfl (.le (.any _)) ?_ (by kernel_rfl)
  rw [nt_eq]
  exact ⟨.le (.boxes ⟨.refl _, .refl _, .refl _, .refl _, .refl _, .refl _, .refl _, .refl _, .refl _, .refl _, .refl _, .refl _, .refl _, .refl _, .refl _, .refl _, .refl _, .refl _, .intI (by unfold ntA; rw [hr, ht]; rfl), .refl _, .refl _, .refl _, .refl _, .refl _, .refl _, .refl _, .refl _, .ownV (by simp), trivial⟩), .le (.refl _), .le (.refl _), .le (.refl _), .le (pc_push (c := [.int .i64 s.tr.length, .int .i64 s.ps, .int .i64 s.zn, .int .i64 ru, .int .i64 pu, .int .i64 tk, .bool (tmB t l s ru pu tk)]) (by unfold pcC ntP; simp only [hr, cond_true, cond_false]) (fun j hj => by rcases (show j = 0 \/ j = 1 \/ j = 2 \/ j = 3 \/ j = 4 \/ j = 5 \/ j = 6 by omega) with rfl | rfl | rfl | rfl | rfl | rfl | rfl <;> rfl) rfl rfl), trivial⟩
 ·rename_i hr ht; replace ht : tmB t l s ru pu tk = false := ht
  refine .mk [] [] _ rfl (.le (.any _)) ?_ (by kernel_rfl)
  rw [nt_eq]
  exact ⟨.le (.boxes ⟨.refl _, .refl _, .refl _, .refl _, .refl _, .refl _, .refl _, .refl _, .refl _, .refl _, .refl _, .refl _, .refl _, .refl _, .refl _, .refl _, .refl _, .refl _, .intI (by unfold ntA; rw [hr, ht]; rfl), .refl _, .refl _, .refl _, .refl _, .refl _, .refl _, .refl _, .refl _, .ownV (by simp), trivial⟩), .le (.refl _), .le (.refl _), .le (.refl _), .le (pc_push (c := [.int .i64 s.tr.length, .int .i64 s.ps, .int .i64 s.zn, .int .i64 ru, .int .i64 pu, .int .i64 tk, .bool (tmB t l s ru pu tk)]) (by unfold pcC ntP; simp only [hr, cond_true, cond_false]) (fun j hj => by rcases (show j = 0 \/ j = 1 \/ j = 2 \/ j = 3 \/ j = 4 \/ j = 5 \/ j = 6 by omega) with rfl | rfl | rfl | rfl | rfl | rfl | rfl <;> rfl) rfl rfl), trivial⟩
 ·rename_i hr; have ht := hr
  refine .mk [] [] _ rfl (.le (.any _)) ?_ (by kernel_rfl)
  rw [nt_eq]
  exact ⟨.le (.boxes ⟨.refl _, .refl _, .refl _, .refl _, .refl _, .refl _, .refl _, .refl _, .refl _, .refl _, .refl _, .refl _, .refl _, .refl _, .refl _, .refl _, .refl _, .refl _, .intI (by unfold ntA; rw [hr]; rfl), .refl _, .refl _, .refl _, .refl _, .refl _, .refl _, .refl _, .refl _, .ownV (by simp), trivial⟩), .le (.refl _), .le (.refl _), .le (.refl _), .le (pc_push (c := [.int .i64 s.tr.length, .int .i64 s.ps, .int .i64 s.zn, .int .i64 ru, .int .i64 pu, .int .i64 tk, .bool false]) (by unfold pcC ntP; simp only [hr, cond_true, cond_false]) (fun j hj => by rcases (show j = 0 \/ j = 1 \/ j = 2 \/ j = 3 \/ j = 4 \/ j = 5 \/ j = 6 by omega) with rfl | rfl | rfl | rfl | rfl | rfl | rfl <;> rfl) rfl rfl), trivial⟩
end
end Go.Fx
