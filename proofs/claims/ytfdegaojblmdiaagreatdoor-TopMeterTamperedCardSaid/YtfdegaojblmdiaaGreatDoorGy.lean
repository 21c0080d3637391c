/-
 Two meters in step; a fare does not fall.
-/
import Derived.Test.YtfdegaojblmdiaaGreatDoorGx
set_option linter.all false
namespace Go.Fx
open Go.Proofs
def cbQ (t : Trf) (l : Log) (ps ru b tk : Int) : Int := (bif (bif (bif decide (0 < tk) then ps == 1 else false) then decide (dstQ t ru b <= scnQ t l ru) else false) then scnQ t l ru else dstQ t ru b) * max 1 tk
theorem nta_cb {t : Trf} {l : Log} {s : Mc} {ru b tk : Int} (h : rnB s = true) : ntA t l s ru b tk = s.pa + cbQ t l s.ps ru b tk := by unfold ntA; rw [h]; rfl
structure Lock (t : Trf) (l l' : Log) (eq : Bool) where
 Q : Int -> Int -> Int -> Int -> Prop
 d : l'.d = l.d
 s : l'.t = l.t
 pos : ∀ {a b a' b'}, Q a b a' b' -> 0 <= b /\ 0 <= b' /\ 0 <= a /\ 0 <= a'
 sgn : ∀ {a b a' b'}, Q a b a' b' -> (0 < b ↔ 0 < b')
 zero : ∀ {a b a' b'}, Q a b a' b' -> Q a 0 a' 0
 start : Q 0 0 0 0
 add : ∀ {a b a' b'} (ps ru tk : Int), ROk t.zones.length (ruA t ru) -> Q a b a' b' -> Q (a + cbQ t l ps ru b tk) 0 (a' + cbQ t l' ps ru b' tk) 0
 stp : ∀ {a b a' b'}, Q a b a' b' -> a.tdiv (t.unit * l.c) <= a'.tdiv (t.unit * l'.c) /\ (eq = true -> a'.tdiv (t.unit * l'.c) = a.tdiv (t.unit * l.c))
variable {t : Trf} {l l' : Log} {eq : Bool}
structure Lk (K : Lock t l l' eq) (s s' : Mc) : Prop where
 tk : s'.tk = s.tk
 ps : s'.ps = s.ps
 zn : s'.zn = s.zn
 st : s'.st = s.st
 ex : s'.ex = s.ex
 q : K.Q s.pa s.si s'.pa s'.si
 fa : eq = true -> s'.tr.map (·.fa) = s.tr.map (·.fa)
theorem Lk.sec {K : Lock t l l' eq} {s s' : Mc} (h : Lk K s s') : nowM l' s' = nowM l s := by unfold nowM secM; rw [K.d, K.s, h.tk]
theorem Lk.mn {K : Lock t l l' eq} {s s' : Mc} (h : Lk K s s') : mnE l' s' = mnE l s := by unfold mnE; rw [h.sec]
theorem Lk.mr {K : Lock t l l' eq} {s s' : Mc} (h : Lk K s s') : mrE t l' s' = mrE t l s /\ mrN t l' s' = mrN t l s := by unfold mrE mrN; rw [h.mn, h.sec, h.zn]; exact ⟨rfl, rfl⟩
theorem Lk.rn {K : Lock t l l' eq} {s s' : Mc} (h : Lk K s s') : rnB s' = rnB s := by unfold rnB; rw [h.ps]
theorem Lk.std {K : Lock t l l' eq} {s s' : Mc} (h : Lk K s s') : stdQ t l' s' = stdQ t l s := by unfold stdQ; rw [h.sec]
theorem Lk.si {K : Lock t l l' eq} {s s' : Mc} (h : Lk K s s') : decide (0 < s'.si) = decide (0 < s.si) := by
 have := K.sgn h.q
 by_cases q : 0 < s.si
 ·rw [decide_eq_true q, decide_eq_true (this.1 q)]
 ·rw [decide_eq_false q, decide_eq_false (fun w => q (this.2 w))]
theorem Lk.chg {K : Lock t l l' eq} {s s' : Mc} (h : Lk K s s') : chgB s' = chgB s := by unfold chgB; rw [h.rn, h.si]
theorem Lk.rdk {K : Lock t l l' eq} {s s' : Mc} (h : Lk K s s') (n : Int) : rdK t l' s' n = rdK t l s n := by unfold rdK; rw [h.rn, h.si, h.std]
theorem Lk.rde {K : Lock t l l' eq} {s s' : Mc} (h : Lk K s s') : rdE t l' s' = rdE t l s := by unfold rdE; rw [h.rn, h.mr.1]
theorem Lk.fare {K : Lock t l l' eq} {s s' : Mc} (h : Lk K s s') (ht : trfE t = 0) : mFare t l s <= mFare t l' s' /\ (eq = true -> mFare t l' s' = mFare t l s) := by
 have sp := K.stp h.q
 have u := trf_unit ht
 by_cases h0 : s.ps = 0
 ·rw [fare_0 h0, fare_0 (h.ps.trans h0)]; exact ⟨Int.le_refl _, fun _ => rfl⟩
 ·have h0' : s'.ps ≠ 0 := by rw [h.ps]; exact h0
  by_cases hp : 0 < t.step
  ·rw [fare_1 h0 hp, fare_1 h0' hp, h.st, h.ex]
   unfold mStp
   refine ⟨?_, fun e => by rw [sp.2 e]⟩
   have : min (s.pa.tdiv (t.unit * l.c)) ((1000000000 : Int).tdiv t.step + 1) <= min (s'.pa.tdiv (t.unit * l'.c)) ((1000000000 : Int).tdiv t.step + 1) := by omega
   have := Int.mul_le_mul_of_nonneg_right this (show 0 <= t.step by omega)
   omega
  ·rw [fare_2 h0 hp, fare_2 h0' hp, h.st, h.ex]; exact ⟨Int.le_refl _, fun _ => rfl⟩
theorem Lk.ch {K : Lock t l l' eq} {s s' : Mc} (h : Lk K s s') (ht : trfE t = 0) : chE_ t l' s' = chE_ t l s /\ (chE_ t l s = 0 -> Lk K (chS t l s) (chS t l' s')) := by
 have c := h.chg
 cases q : chgB s with
 | false =>
  rw [q] at c
  rw [chE_f q, chE_f c, chS_f q, chS_f c]
  exact ⟨rfl, fun _ => ⟨h.tk, h.ps, h.zn, h.st, h.ex, K.zero h.q, h.fa⟩⟩
 | true =>
  rw [q] at c
  rw [chE_t q, chE_t c, h.mr.1]
  refine ⟨rfl, fun e => ?_⟩
  have e' : mrE t l' s' = 0 := h.mr.1.trans e
  have hr := (chg_iff.1 q).1
  have hr' : rnB s' = true := h.rn.trans hr
  rw [chS_t q e, chS_t c e', nt_eq, nt_eq, h.mr.2, nta_cb hr, nta_cb hr', h.ps]
  exact ⟨h.tk, rfl, h.zn, h.st, h.ex, K.add _ _ _ (mr_rule ht e) h.q, h.fa⟩
theorem Lk.rd {K : Lock t l l' eq} {s s' : Mc} (h : Lk K s s') (ht : trfE t = 0) (n : Int) (e : rdE t l s = 0) : Lk K (rdS t l s n) (rdS t l' s' n) := by
 rw [rdS_eq, rdS_eq, nt_eq, nt_eq, h.rdk, h.rn, h.mr.2]
 refine ⟨by show s'.tk + _ = s.tk + _; rw [h.tk], h.ps, h.zn, h.st, h.ex, ?_, h.fa⟩
 cases q : rnB s with
 | false =>
  show K.Q (ntA t l s 0 0 _) 0 (ntA t l' s' 0 0 _) 0
  rw [nta_f q, nta_f (h.rn.trans q)]
  exact K.zero h.q
 | true =>
  show K.Q (ntA t l s (mrN t l s) s.si _) 0 (ntA t l' s' (mrN t l s) s'.si _) 0
  rw [nta_cb q, nta_cb (h.rn.trans q), h.ps]
  exact K.add _ _ _ (mr_rule ht (by rw [<- rdE_t q]; exact e)) h.q
theorem Lk.tkF {K : Lock t l l' eq} (ht : trfE t = 0) : ∀ (f : Nat) {s s' : Mc} (n : Int), Lk K s s' ->
  ((tkF t l f s n).2 = 0 -> (tkF t l' f s' n).2 = 0 \/ (tkF t l' f s' n).2 = 8) /\ (eq = true -> (tkF t l' f s' n).2 = (tkF t l f s n).2) /\ ((tkF t l f s n).2 = 0 -> (tkF t l' f s' n).2 = 0 -> Lk K (tkF t l f s n).1 (tkF t l' f s' n).1)
 | 0, s, s', n, h => ⟨fun _ => .inl rfl, fun _ => rfl, fun _ _ => h⟩
 | f + 1, s, s', n, h => by
  unfold Go.Fx.tkF
  by_cases q : 0 < n
  ·rw [decide_eq_true q, h.rde]
   by_cases e : rdE t l s = 0
   ·have hr := h.rd ht n e
    have hf := hr.fare ht
    rw [e, h.rdk]
    by_cases c : 1000000000 < mFare t l (rdS t l s n)
    ·have c' : 1000000000 < mFare t l' (rdS t l' s' n) := by omega
     rw [decide_eq_true c, decide_eq_true c']
     exact ⟨fun _ => .inr rfl, fun _ => rfl, fun h => (by cases h)⟩
    ·rw [decide_eq_false c]
     by_cases c' : 1000000000 < mFare t l' (rdS t l' s' n)
     ·rw [decide_eq_true c']
      refine ⟨fun _ => .inr rfl, fun e => ?_, fun _ h => by cases h⟩
      have := hf.2 e; omega
     ·rw [decide_eq_false c']
      exact Lk.tkF ht f _ hr
   ·rw [decide_eq_false e]
    exact ⟨fun h => absurd h e, fun _ => rfl, fun h => absurd h e⟩
  ·rw [decide_eq_false q]
   exact ⟨fun _ => .inl rfl, fun _ => rfl, fun _ _ => h⟩
theorem Lk.po {K : Lock t l l' eq} {s s' : Mc} (h : Lk K s s') (ht : trfE t = 0) (i i' p : Int) : poE t l' s' i' p = poE t l s i p /\ (poE t l s i p = 0 -> Lk K (poS t l s i p) (poS t l' s' i' p)) := by
 have sm := ch_same t l s
 have sm' := ch_same t l' s'
 cases q : goB s.ps p with
 | false =>
  have q' : goB s'.ps p = false := by rw [h.ps]; exact q
  have a := po_no (t := t) (l := l) (i := i) q
  have b := po_no (t := t) (l := l') (i := i') q'
  rw [a.1, b.1]; exact ⟨rfl, fun h => by cases h⟩
 | true =>
  have q' : goB s'.ps p = true := by rw [h.ps]; exact q
  have hc := h.ch ht
  by_cases e : chE_ t l s = 0
  ·have e' : chE_ t l' s' = 0 := hc.1.trans e
   have hL := hc.2 e
   by_cases h0 : s.ps = 0
   ·have h0' : s'.ps = 0 := h.ps.trans h0
    by_cases r : mrE t l (chS t l s) = 0
    ·have r' : mrE t l' (chS t l' s') = 0 := hL.mr.1.trans r
     have a := po_bg (i := i) q e h0 r
     have b := po_bg (i := i') q' e' h0' r'
     rw [a.1, b.1, a.2, b.2]
     refine ⟨rfl, fun _ => ⟨hL.tk, rfl, hL.zn, by show (ruA t (mrN t l' _)).st = (ruA t (mrN t l _)).st; rw [hL.mr.2], rfl, ?_, hL.fa⟩⟩
     show K.Q 0 (chS t l s).si 0 (chS t l' s').si
     have hrn : rnB s = false := rn_f fun q => by rcases rn_iff.1 q with q | q <;> omega
     have hcg : chgB s = false := by unfold chgB; rw [hrn]; rfl
     rw [chS_f hcg, chS_f (h.chg.trans hcg)]
     exact K.start
    ·have r' : mrE t l' (chS t l' s') ≠ 0 := by rw [hL.mr.1]; exact r
     have a := po_bgE (i := i) q e h0 r
     have b := po_bgE (i := i') q' e' h0' r'
     rw [a.1, b.1, hL.mr.1]; exact ⟨rfl, fun h => absurd h r⟩
   ·have h0' : s'.ps ≠ 0 := by rw [h.ps]; exact h0
    by_cases hz : p = 0
    ·have a := po_ed (i := i) q e h0 hz
     have b := po_ed (i := i') q' e' h0' hz
     rw [a.1, b.1, a.2, b.2]
     exact ⟨rfl, fun _ => ⟨hL.tk, rfl, hL.zn, hL.st, rfl, hL.q, fun e => by
      show List.map _ ((chS t l' s').tr ++ [_]) = List.map _ ((chS t l s).tr ++ [_])
      rw [List.map_append, List.map_append, hL.fa e]
      show _ ++ [mFare t l' (chS t l' s')] = _ ++ [mFare t l (chS t l s)]
      rw [(hL.fare ht).2 e]⟩⟩
    ·have a := po_mv (i := i) q e h0 hz
     have b := po_mv (i := i') q' e' h0' hz
     rw [a.1, b.1, a.2, b.2]
     exact ⟨rfl, fun _ => ⟨hL.tk, rfl, hL.zn, hL.st, hL.ex, hL.q, hL.fa⟩⟩
  ·have e' : chE_ t l' s' ≠ 0 := by rw [hc.1]; exact e
   have a := po_ch (i := i) q e
   have b := po_ch (i := i') q' e'
   rw [a.1, b.1, hc.1]; exact ⟨rfl, fun h => absurd h e⟩
theorem Lk.mx {K : Lock t l l' eq} {s s' : Mc} (h : Lk K s s') (n : Int) : mxE t s' n = mxE t s n /\ Lk K (mxU t s n) (mxU t s' n) := by
 have hh : mxH t s' n = mxH t s n := by unfold mxH; rw [h.ps]
 by_cases q : mxH t s n = 0
 ·by_cases c : 20 <= s.ex.getD n.toNat 0
  ·have a := mx_full q c
   have b := mx_full (hh.trans q) (by rw [h.ex]; exact c)
   rw [a.1, b.1, a.2, b.2]; exact ⟨rfl, h⟩
  ·have a := mx_add q c
   have b := mx_add (hh.trans q) (by rw [h.ex]; exact c)
   rw [a.1, b.1, a.2, b.2, h.ex]; exact ⟨rfl, ⟨h.tk, h.ps, h.zn, h.st, rfl, h.q, h.fa⟩⟩
 ·have a := mx_bad (t := t) rfl q
  have b := mx_bad (t := t) (s := s') (n := n) rfl (by rw [hh]; exact q)
  rw [a.1, b.1, a.2, b.2, hh]; exact ⟨rfl, h⟩
theorem Lk.ev {K : Lock t l l' eq} {s s' : Mc} (h : Lk K s s') (ht : trfE t = 0) (i i' : Nat) (hk : (l'.ev.getD i' ev0).k = (l.ev.getD i ev0).k) (hn : (l.ev.getD i ev0).k ≠ 0 -> (l'.ev.getD i' ev0).n = (l.ev.getD i ev0).n)
  (hp : (l.ev.getD i ev0).k = 0 -> K.Q s.pa (s.si + (l.ev.getD i ev0).n) s'.pa (s'.si + (l'.ev.getD i' ev0).n)) :
  (evF t l s i = 0 -> evF t l' s' i' = 0 \/ evF t l' s' i' = 8) /\ (eq = true -> evF t l' s' i' = evF t l s i) /\ (evF t l s i = 0 -> evF t l' s' i' = 0 -> Lk K (evS_ t l s i) (evS_ t l' s' i')) := by
 -- from what the event itself does
 have fin : ∀ {a a' : Mc} {e e' : Int}, evG t l s i (l.ev.getD i ev0) = a /\ evH t l s i (l.ev.getD i ev0) = e -> evG t l' s' i' (l'.ev.getD i' ev0) = a' /\ evH t l' s' i' (l'.ev.getD i' ev0) = e' ->
   (e = 0 -> e' = 0 \/ e' = 8) -> (eq = true -> e' = e) -> (e = 0 -> e' = 0 -> Lk K a a') -> (evF t l s i = 0 -> evF t l' s' i' = 0 \/ evF t l' s' i' = 8) /\ (eq = true -> evF t l' s' i' = evF t l s i) /\ (evF t l s i = 0 -> evF t l' s' i' = 0 -> Lk K (evS_ t l s i) (evS_ t l' s' i')) := by
  intro a a' e e' h1 h2 h3 h4 h5
  have w := evF_eq h1
  have w' := evF_eq h2
  rw [w.1, w.2, w'.1, w'.2]
  by_cases z : e = 0
  ·rcases h3 z with z' | z'
   ·have hL := h5 z z'
    have hf := hL.fare ht
    subst z z'
    by_cases c : mFare t l a <= 1000000000
    ·rw [decide_eq_true c]
     by_cases c' : mFare t l' a' <= 1000000000
     ·rw [decide_eq_true c']; exact ⟨fun _ => .inl rfl, fun _ => rfl, fun _ _ => hL⟩
     ·rw [decide_eq_false c']
      refine ⟨fun _ => .inr rfl, fun q => ?_, fun _ h => by cases h⟩
      have := hf.2 q; omega
    ·have c' : ¬ mFare t l' a' <= 1000000000 := by omega
     rw [decide_eq_false c, decide_eq_false c']; exact ⟨fun h => (by cases h), fun _ => rfl, fun h => (by cases h)⟩
   ·subst z z'
    refine ⟨fun _ => .inr (by simp [firstS]), fun q => ?_, fun _ h => by simp [firstS] at h⟩
    have := h4 q; omega
  ·have k1 : firstS [e, bif decide (mFare t l a <= 1000000000) then 0 else 8] = e := by simp [firstS, z]
   rw [k1]
   refine ⟨fun h => absurd h z, fun q => ?_, fun h => absurd h z⟩
   rw [h4 q, k1.symm]; simp [firstS, z]
 generalize hv : l.ev.getD i ev0 = v at *
 generalize hv' : l'.ev.getD i' ev0 = v' at *
 by_cases q0 : v.k = 0
 ·exact fin (evG_0 q0) (evG_0 (hk.trans q0)) (fun _ => .inl rfl) (fun _ => rfl) fun _ _ => ⟨h.tk, h.ps, h.zn, h.st, h.ex, hp q0, h.fa⟩
 have hn := hn q0
 by_cases q1 : v.k = 1
 ·have w := Lk.tkF ht v.n.toNat v.n h
  refine fin (evG_1 q1) (evG_1 (hk.trans q1)) ?_ ?_ ?_
  ·rw [hn]; unfold tkE; exact w.1
  ·rw [hn]; unfold tkE; exact w.2.1
  ·rw [hn]; unfold tkE tkS; exact w.2.2
 by_cases q2 : v.k = 2
 ·have w := h.po ht i i' v.n
  refine fin (evG_2 q2) (evG_2 (hk.trans q2)) ?_ ?_ ?_
  ·rw [hn, w.1]; exact .inl
  ·rw [hn, w.1]; exact fun _ => rfl
  ·rw [hn]; exact fun e _ => w.2 e
 by_cases q3 : v.k = 3
 ·by_cases z : v.n < t.zones.length
  ·have w := h.ch ht
   refine fin (evG_3 q3 z) (evG_3 (hk.trans q3) (by rw [hn]; exact z)) ?_ ?_ ?_
   ·rw [w.1]; exact .inl
   ·rw [w.1]; exact fun _ => rfl
   ·intro e _
    have c := w.2 e
    exact ⟨c.tk, c.ps, by show v'.n = v.n; exact hn, c.st, c.ex, c.q, c.fa⟩
  ·exact fin (evG_3' q3 z) (evG_3' (hk.trans q3) (by rw [hn]; exact z)) (fun h => by cases h) (fun _ => rfl) fun h => by cases h
 by_cases q4 : v.k = 4
 ·have w := h.mx v.n
  refine fin (evG_4 q4) (evG_4 (hk.trans q4)) ?_ ?_ ?_
  ·rw [hn, w.1]; exact .inl
  ·rw [hn, w.1]; exact fun _ => rfl
  ·rw [hn]; exact fun _ _ => w.2
 exact fin (evG_5 q0 q1 q2 q3 q4) (evG_5 (by rw [hk]; exact q0) (by rw [hk]; exact q1) (by rw [hk]; exact q2) (by rw [hk]; exact q3) (by rw [hk]; exact q4)) (fun _ => .inl rfl) (fun _ => rfl) fun _ _ => h
open Go.Proofs
theorem al_ok {l : Log} (hc : 1 <= l.c /\ l.c <= 100000) (hd : 0 <= l.d /\ l.d <= 100000) (ht : 0 <= l.t /\ l.t <= 86399) (hl : l.ev.length <= 200) (he : ∀ j, j < l.ev.length -> evE (l.ev.getD j ev0) = 0) : aloneE l = 0 := by
 have hh : headE l = 0 := by
  unfold headE momE
  rw [inB_iff.2 hc, inB_iff.2 hd, inB_iff.2 ht, decide_eq_true (show (l.ev.length : Int) <= 200 by omega)]; rfl
 unfold aloneE
 rw [hh]
 exact (scan_none (g := evE) (d := ev0) he).1
theorem ev_mk {e : Ev} (h0 : 0 <= e.k /\ e.k <= 6) (h : evLo e.k <= e.n /\ e.n <= evHi e.k) : evE e = 0 := by
 unfold evE; rw [inB_iff.2 h0, inB_iff.2 h]; rfl
theorem tdiv_mono {a b d : Int} (h0 : 0 <= a) (h : a <= b) (hd : 0 < d) : a.tdiv d <= b.tdiv d := by
 rw [Int.tdiv_eq_ediv_of_nonneg h0, Int.tdiv_eq_ediv_of_nonneg (by omega)]
 exact Int.ediv_le_ediv hd h
theorem cb_nn {t : Trf} {l : Log} {z ps ru b tk : Int} (h : ROk z (ruA t ru)) (hc : 1 <= l.c /\ l.c <= 100000) (hb : 0 <= b) : 0 <= cbQ t l ps ru b tk := by
 unfold cbQ
 have d := dst_bd h hb
 have c := scn_bd h hc
 refine Int.mul_nonneg ?_ (by omega)
 cases (bif (bif decide (0 < tk) then ps == 1 else false) then decide (dstQ t ru b <= scnQ t l ru) else false)
 ·show 0 <= dstQ t ru b; omega
 ·show 0 <= scnQ t l ru; omega
theorem Lk.run {t : Trf} {l l' : Log} {eq : Bool} {K : Lock t l l' eq} (ht : trfE t = 0) (hq : Lk K mc0 mc0) (hk : ∀ i, i < l.ev.length -> (l'.ev.getD i ev0).k = (l.ev.getD i ev0).k /\ ((l.ev.getD i ev0).k ≠ 0 -> (l'.ev.getD i ev0).n = (l.ev.getD i ev0).n))
  (hp : ∀ i, i < l.ev.length -> (l.ev.getD i ev0).k = 0 -> ∀ a b a' b', K.Q a b a' b' -> K.Q a (b + (l.ev.getD i ev0).n) a' (b' + (l'.ev.getD i ev0).n)) :
  ∀ k, k <= l.ev.length -> (∀ j, j < k -> mcE t l j = 0) -> (∀ j, j < k -> mcE t l' j = 0) -> Lk K (mcN t l k) (mcN t l' k)
 | 0, _, _, _ => hq
 | k + 1, h, h1, h2 => by
  have ih := Lk.run ht hq hk hp k (by omega) (fun j hj => h1 j (by omega)) (fun j hj => h2 j (by omega))
  exact (ih.ev ht k k (hk k (by omega)).1 (hk k (by omega)).2 fun q => hp k (by omega) q _ _ _ _ ih.q).2.2 (h1 k (by omega)) (h2 k (by omega))
theorem ev_set {l : List Ev} {i j : Nat} {v : Ev} : (l.set i v).getD j ev0 = if i = j /\ i < l.length then v else l.getD j ev0 := by
 simp only [List.getD_eq_getElem?_getD, List.getElem?_set]
 by_cases h : i = j
 ·subst h
  by_cases q : i < l.length
  ·simp [q]
  ·simp [q]
 ·simp [h]
end Go.Fx
