/-
  Two meters in step; a fare does not fall.
-/
import Derived.Test.YtfdegaojblmdiaaGreatDoorGx

set_option linter.all false

/-
  Two meters that go in step: the same but for their pulses and parts.
-/
namespace Go.Fx
open Go.Proofs

/-- What a piece adds. -/
def cbQ (t : Trf) (l : Log) (ps ru b tk : Int) : Int := (bif (bif (bif decide (0 < tk) then ps == 1 else false) then decide (dstQ t ru b ≤ scnQ t l ru) else false) then scnQ t l ru else dstQ t ru b) * max 1 tk
theorem nta_cb {t : Trf} {l : Log} {s : Mc} {ru b tk : Int} (h : rnB s = true) : ntA t l s ru b tk = s.pa + cbQ t l s.ps ru b tk := by unfold ntA; rw [h]; rfl

structure Lock (t : Trf) (l l' : Log) (eq : Bool) where
  Q : Int → Int → Int → Int → Prop
  d : l'.d = l.d
  s : l'.t = l.t
  pos : ∀ {a b a' b'}, Q a b a' b' → 0 ≤ b ∧ 0 ≤ b' ∧ 0 ≤ a ∧ 0 ≤ a'
  sgn : ∀ {a b a' b'}, Q a b a' b' → (0 < b ↔ 0 < b')
  zero : ∀ {a b a' b'}, Q a b a' b' → Q a 0 a' 0
  start : Q 0 0 0 0
  add : ∀ {a b a' b'} (ps ru tk : Int), ROk t.zones.length (ruA t ru) → Q a b a' b' → Q (a + cbQ t l ps ru b tk) 0 (a' + cbQ t l' ps ru b' tk) 0
  stp : ∀ {a b a' b'}, Q a b a' b' → a.tdiv (t.unit * l.c) ≤ a'.tdiv (t.unit * l'.c) ∧ (eq = true → a'.tdiv (t.unit * l'.c) = a.tdiv (t.unit * l.c))

variable {t : Trf} {l l' : Log} {eq : Bool}
structure Lk (K : Lock t l l' eq) (s s' : Mc) : Prop where
  tk : s'.tk = s.tk
  ps : s'.ps = s.ps
  zn : s'.zn = s.zn
  st : s'.st = s.st
  ex : s'.ex = s.ex
  q : K.Q s.pa s.si s'.pa s'.si
  fa : eq = true → s'.tr.map (·.fa) = s.tr.map (·.fa)

theorem Lk.sec {K : Lock t l l' eq} {s s' : Mc} (h : Lk K s s') : nowM l' s' = nowM l s := by unfold nowM secM; rw [K.d, K.s, h.tk]
theorem Lk.mn {K : Lock t l l' eq} {s s' : Mc} (h : Lk K s s') : mnE l' s' = mnE l s := by unfold mnE; rw [h.sec]
theorem Lk.mr {K : Lock t l l' eq} {s s' : Mc} (h : Lk K s s') : mrE t l' s' = mrE t l s ∧ mrN t l' s' = mrN t l s := by unfold mrE mrN; rw [h.mn, h.sec, h.zn]; exact ⟨rfl, rfl⟩
theorem Lk.rn {K : Lock t l l' eq} {s s' : Mc} (h : Lk K s s') : rnB s' = rnB s := by unfold rnB; rw [h.ps]
theorem Lk.std {K : Lock t l l' eq} {s s' : Mc} (h : Lk K s s') : stdQ t l' s' = stdQ t l s := by unfold stdQ; rw [h.sec]
theorem Lk.si {K : Lock t l l' eq} {s s' : Mc} (h : Lk K s s') : decide (0 < s'.si) = decide (0 < s.si) := by
  have := K.sgn h.q
  by_cases q : 0 < s.si
  · rw [decide_eq_true q, decide_eq_true (this.1 q)]
  · rw [decide_eq_false q, decide_eq_false (fun w => q (this.2 w))]
theorem Lk.chg {K : Lock t l l' eq} {s s' : Mc} (h : Lk K s s') : chgB s' = chgB s := by unfold chgB; rw [h.rn, h.si]
theorem Lk.rdk {K : Lock t l l' eq} {s s' : Mc} (h : Lk K s s') (n : Int) : rdK t l' s' n = rdK t l s n := by unfold rdK; rw [h.rn, h.si, h.std]
theorem Lk.rde {K : Lock t l l' eq} {s s' : Mc} (h : Lk K s s') : rdE t l' s' = rdE t l s := by unfold rdE; rw [h.rn, h.mr.1]
theorem Lk.fare {K : Lock t l l' eq} {s s' : Mc} (h : Lk K s s') (ht : trfE t = 0) : mFare t l s ≤ mFare t l' s' ∧ (eq = true → mFare t l' s' = mFare t l s) := by
  have sp := K.stp h.q
  have u := trf_unit ht
  by_cases h0 : s.ps = 0
  · rw [fare_0 h0, fare_0 (h.ps.trans h0)]; exact ⟨Int.le_refl _, fun _ => rfl⟩
  · have h0' : s'.ps ≠ 0 := by rw [h.ps]; exact h0
    by_cases hp : 0 < t.step
    · rw [fare_1 h0 hp, fare_1 h0' hp, h.st, h.ex]
      unfold mStp
      refine ⟨?_, fun e => by rw [sp.2 e]⟩
      have : min (s.pa.tdiv (t.unit * l.c)) ((1000000000 : Int).tdiv t.step + 1) ≤ min (s'.pa.tdiv (t.unit * l'.c)) ((1000000000 : Int).tdiv t.step + 1) := by omega
      have := Int.mul_le_mul_of_nonneg_right this (show 0 ≤ t.step by omega)
      omega
    · rw [fare_2 h0 hp, fare_2 h0' hp, h.st, h.ex]; exact ⟨Int.le_refl _, fun _ => rfl⟩
theorem Lk.ch {K : Lock t l l' eq} {s s' : Mc} (h : Lk K s s') (ht : trfE t = 0) : chE_ t l' s' = chE_ t l s ∧ (chE_ t l s = 0 → Lk K (chS t l s) (chS t l' s')) := by
  have c := h.chg
  cases q : chgB s with
  | false =>
    rw [q] at c
    rw [chE_f q, chE_f c, chS_f q, chS_f c]
    exact ⟨rfl, fun _ => ⟨h.tk, h.ps, h.zn, h.st, h.ex, K.zero h.q, h.fa⟩⟩
  | true =>
    rw [q] at c
    rw [chE_t q, chE_t c, h.mr.1]
    refine ⟨rfl, fun e => ?_⟩
    have e' : mrE t l' s' = 0 := h.mr.1.trans e
    have hr := (chg_iff.1 q).1
    have hr' : rnB s' = true := h.rn.trans hr
    rw [chS_t q e, chS_t c e', nt_eq, nt_eq, h.mr.2, nta_cb hr, nta_cb hr', h.ps]
    exact ⟨h.tk, rfl, h.zn, h.st, h.ex, K.add _ _ _ (mr_rule ht e) h.q, h.fa⟩
theorem Lk.rd {K : Lock t l l' eq} {s s' : Mc} (h : Lk K s s') (ht : trfE t = 0) (n : Int) (e : rdE t l s = 0) : Lk K (rdS t l s n) (rdS t l' s' n) := by
  rw [rdS_eq, rdS_eq, nt_eq, nt_eq, h.rdk, h.rn, h.mr.2]
  refine ⟨by show s'.tk + _ = s.tk + _; rw [h.tk], h.ps, h.zn, h.st, h.ex, ?_, h.fa⟩
  cases q : rnB s with
  | false =>
    show K.Q (ntA t l s 0 0 _) 0 (ntA t l' s' 0 0 _) 0
    rw [nta_f q, nta_f (h.rn.trans q)]
    exact K.zero h.q
  | true =>
    show K.Q (ntA t l s (mrN t l s) s.si _) 0 (ntA t l' s' (mrN t l s) s'.si _) 0
    rw [nta_cb q, nta_cb (h.rn.trans q), h.ps]
    exact K.add _ _ _ (mr_rule ht (by rw [← rdE_t q]; exact e)) h.q
theorem Lk.tkF {K : Lock t l l' eq} (ht : trfE t = 0) : ∀ (f : Nat) {s s' : Mc} (n : Int), Lk K s s' →
    ((tkF t l f s n).2 = 0 → (tkF t l' f s' n).2 = 0 ∨ (tkF t l' f s' n).2 = 8) ∧ (eq = true → (tkF t l' f s' n).2 = (tkF t l f s n).2) ∧ ((tkF t l f s n).2 = 0 → (tkF t l' f s' n).2 = 0 → Lk K (tkF t l f s n).1 (tkF t l' f s' n).1)
  | 0, s, s', n, h => ⟨fun _ => .inl rfl, fun _ => rfl, fun _ _ => h⟩
  | f + 1, s, s', n, h => by
    unfold Go.Fx.tkF
    by_cases q : 0 < n
    · rw [decide_eq_true q, h.rde]
      by_cases e : rdE t l s = 0
      · have hr := h.rd ht n e
        have hf := hr.fare ht
        rw [e, h.rdk]
        by_cases c : 1000000000 < mFare t l (rdS t l s n)
        · have c' : 1000000000 < mFare t l' (rdS t l' s' n) := by omega
          rw [decide_eq_true c, decide_eq_true c']
          exact ⟨fun _ => .inr rfl, fun _ => rfl, fun h => (by cases h)⟩
        · rw [decide_eq_false c]
          by_cases c' : 1000000000 < mFare t l' (rdS t l' s' n)
          · rw [decide_eq_true c']
            refine ⟨fun _ => .inr rfl, fun e => ?_, fun _ h => by cases h⟩
            have := hf.2 e; omega
          · rw [decide_eq_false c']
            exact Lk.tkF ht f _ hr
      · rw [decide_eq_false e]
        exact ⟨fun h => absurd h e, fun _ => rfl, fun h => absurd h e⟩
    · rw [decide_eq_false q]
      exact ⟨fun _ => .inl rfl, fun _ => rfl, fun _ _ => h⟩
/-- The start of a trip. -/
theorem Lk.po {K : Lock t l l' eq} {s s' : Mc} (h : Lk K s s') (ht : trfE t = 0) (i i' p : Int) : poE t l' s' i' p = poE t l s i p ∧ (poE t l s i p = 0 → Lk K (poS t l s i p) (poS t l' s' i' p)) := by
  have sm := ch_same t l s
  have sm' := ch_same t l' s'
  cases q : goB s.ps p with
  | false =>
    have q' : goB s'.ps p = false := by rw [h.ps]; exact q
    have a := po_no (t := t) (l := l) (i := i) q
    have b := po_no (t := t) (l := l') (i := i') q'
    rw [a.1, b.1]; exact ⟨rfl, fun h => by cases h⟩
  | true =>
    have q' : goB s'.ps p = true := by rw [h.ps]; exact q
    have hc := h.ch ht
    by_cases e : chE_ t l s = 0
    · have e' : chE_ t l' s' = 0 := hc.1.trans e
      have hL := hc.2 e
      by_cases h0 : s.ps = 0
      · have h0' : s'.ps = 0 := h.ps.trans h0
        by_cases r : mrE t l (chS t l s) = 0
        · have r' : mrE t l' (chS t l' s') = 0 := hL.mr.1.trans r
          have a := po_bg (i := i) q e h0 r
          have b := po_bg (i := i') q' e' h0' r'
          rw [a.1, b.1, a.2, b.2]
          refine ⟨rfl, fun _ => ⟨hL.tk, rfl, hL.zn, by show (ruA t (mrN t l' _)).st = (ruA t (mrN t l _)).st; rw [hL.mr.2], rfl, ?_, hL.fa⟩⟩
          show K.Q 0 (chS t l s).si 0 (chS t l' s').si
          have hrn : rnB s = false := rn_f fun q => by rcases rn_iff.1 q with q | q <;> omega
          have hcg : chgB s = false := by unfold chgB; rw [hrn]; rfl
          rw [chS_f hcg, chS_f (h.chg.trans hcg)]
          exact K.start
        · have r' : mrE t l' (chS t l' s') ≠ 0 := by rw [hL.mr.1]; exact r
          have a := po_bgE (i := i) q e h0 r
          have b := po_bgE (i := i') q' e' h0' r'
          rw [a.1, b.1, hL.mr.1]; exact ⟨rfl, fun h => absurd h r⟩
      · have h0' : s'.ps ≠ 0 := by rw [h.ps]; exact h0
        by_cases hz : p = 0
        · have a := po_ed (i := i) q e h0 hz
          have b := po_ed (i := i') q' e' h0' hz
          rw [a.1, b.1, a.2, b.2]
          exact ⟨rfl, fun _ => ⟨hL.tk, rfl, hL.zn, hL.st, rfl, hL.q, fun e => by
            show List.map _ ((chS t l' s').tr ++ [_]) = List.map _ ((chS t l s).tr ++ [_])
            rw [List.map_append, List.map_append, hL.fa e]
            show _ ++ [mFare t l' (chS t l' s')] = _ ++ [mFare t l (chS t l s)]
            rw [(hL.fare ht).2 e]⟩⟩
        · have a := po_mv (i := i) q e h0 hz
          have b := po_mv (i := i') q' e' h0' hz
          rw [a.1, b.1, a.2, b.2]
          exact ⟨rfl, fun _ => ⟨hL.tk, rfl, hL.zn, hL.st, hL.ex, hL.q, hL.fa⟩⟩
    · have e' : chE_ t l' s' ≠ 0 := by rw [hc.1]; exact e
      have a := po_ch (i := i) q e
      have b := po_ch (i := i') q' e'
      rw [a.1, b.1, hc.1]; exact ⟨rfl, fun h => absurd h e⟩
theorem Lk.mx {K : Lock t l l' eq} {s s' : Mc} (h : Lk K s s') (n : Int) : mxE t s' n = mxE t s n ∧ Lk K (mxU t s n) (mxU t s' n) := by
  have hh : mxH t s' n = mxH t s n := by unfold mxH; rw [h.ps]
  by_cases q : mxH t s n = 0
  · by_cases c : 20 ≤ s.ex.getD n.toNat 0
    · have a := mx_full q c
      have b := mx_full (hh.trans q) (by rw [h.ex]; exact c)
      rw [a.1, b.1, a.2, b.2]; exact ⟨rfl, h⟩
    · have a := mx_add q c
      have b := mx_add (hh.trans q) (by rw [h.ex]; exact c)
      rw [a.1, b.1, a.2, b.2, h.ex]; exact ⟨rfl, ⟨h.tk, h.ps, h.zn, h.st, rfl, h.q, h.fa⟩⟩
  · have a := mx_bad (t := t) rfl q
    have b := mx_bad (t := t) (s := s') (n := n) rfl (by rw [hh]; exact q)
    rw [a.1, b.1, a.2, b.2, hh]; exact ⟨rfl, h⟩
/-- An event: the same one, or one of pulses. -/
theorem Lk.ev {K : Lock t l l' eq} {s s' : Mc} (h : Lk K s s') (ht : trfE t = 0) (i i' : Nat) (hk : (l'.ev.getD i' ev0).k = (l.ev.getD i ev0).k) (hn : (l.ev.getD i ev0).k ≠ 0 → (l'.ev.getD i' ev0).n = (l.ev.getD i ev0).n)
    (hp : (l.ev.getD i ev0).k = 0 → K.Q s.pa (s.si + (l.ev.getD i ev0).n) s'.pa (s'.si + (l'.ev.getD i' ev0).n)) :
    (evF t l s i = 0 → evF t l' s' i' = 0 ∨ evF t l' s' i' = 8) ∧ (eq = true → evF t l' s' i' = evF t l s i) ∧ (evF t l s i = 0 → evF t l' s' i' = 0 → Lk K (evS_ t l s i) (evS_ t l' s' i')) := by
  -- from what the event itself does
  have fin : ∀ {a a' : Mc} {e e' : Int}, evG t l s i (l.ev.getD i ev0) = a ∧ evH t l s i (l.ev.getD i ev0) = e → evG t l' s' i' (l'.ev.getD i' ev0) = a' ∧ evH t l' s' i' (l'.ev.getD i' ev0) = e' →
      (e = 0 → e' = 0 ∨ e' = 8) → (eq = true → e' = e) → (e = 0 → e' = 0 → Lk K a a') → (evF t l s i = 0 → evF t l' s' i' = 0 ∨ evF t l' s' i' = 8) ∧ (eq = true → evF t l' s' i' = evF t l s i) ∧ (evF t l s i = 0 → evF t l' s' i' = 0 → Lk K (evS_ t l s i) (evS_ t l' s' i')) := by
    intro a a' e e' h1 h2 h3 h4 h5
    have w := evF_eq h1
    have w' := evF_eq h2
    rw [w.1, w.2, w'.1, w'.2]
    by_cases z : e = 0
    · rcases h3 z with z' | z'
      · have hL := h5 z z'
        have hf := hL.fare ht
        subst z z'
        by_cases c : mFare t l a ≤ 1000000000
        · rw [decide_eq_true c]
          by_cases c' : mFare t l' a' ≤ 1000000000
          · rw [decide_eq_true c']; exact ⟨fun _ => .inl rfl, fun _ => rfl, fun _ _ => hL⟩
          · rw [decide_eq_false c']
            refine ⟨fun _ => .inr rfl, fun q => ?_, fun _ h => by cases h⟩
            have := hf.2 q; omega
        · have c' : ¬ mFare t l' a' ≤ 1000000000 := by omega
          rw [decide_eq_false c, decide_eq_false c']; exact ⟨fun h => (by cases h), fun _ => rfl, fun h => (by cases h)⟩
      · subst z z'
        refine ⟨fun _ => .inr (by simp [firstS]), fun q => ?_, fun _ h => by simp [firstS] at h⟩
        have := h4 q; omega
    · have k1 : firstS [e, bif decide (mFare t l a ≤ 1000000000) then 0 else 8] = e := by simp [firstS, z]
      rw [k1]
      refine ⟨fun h => absurd h z, fun q => ?_, fun h => absurd h z⟩
      rw [h4 q, k1.symm]; simp [firstS, z]
  generalize hv : l.ev.getD i ev0 = v at *
  generalize hv' : l'.ev.getD i' ev0 = v' at *
  by_cases q0 : v.k = 0
  · exact fin (evG_0 q0) (evG_0 (hk.trans q0)) (fun _ => .inl rfl) (fun _ => rfl) fun _ _ => ⟨h.tk, h.ps, h.zn, h.st, h.ex, hp q0, h.fa⟩
  have hn := hn q0
  by_cases q1 : v.k = 1
  · have w := Lk.tkF ht v.n.toNat v.n h
    refine fin (evG_1 q1) (evG_1 (hk.trans q1)) ?_ ?_ ?_
    · rw [hn]; unfold tkE; exact w.1
    · rw [hn]; unfold tkE; exact w.2.1
    · rw [hn]; unfold tkE tkS; exact w.2.2
  by_cases q2 : v.k = 2
  · have w := h.po ht i i' v.n
    refine fin (evG_2 q2) (evG_2 (hk.trans q2)) ?_ ?_ ?_
    · rw [hn, w.1]; exact .inl
    · rw [hn, w.1]; exact fun _ => rfl
    · rw [hn]; exact fun e _ => w.2 e
  by_cases q3 : v.k = 3
  · by_cases z : v.n < t.zones.length
    · have w := h.ch ht
      refine fin (evG_3 q3 z) (evG_3 (hk.trans q3) (by rw [hn]; exact z)) ?_ ?_ ?_
      · rw [w.1]; exact .inl
      · rw [w.1]; exact fun _ => rfl
      · intro e _
        have c := w.2 e
        exact ⟨c.tk, c.ps, by show v'.n = v.n; exact hn, c.st, c.ex, c.q, c.fa⟩
    · exact fin (evG_3' q3 z) (evG_3' (hk.trans q3) (by rw [hn]; exact z)) (fun h => by cases h) (fun _ => rfl) fun h => by cases h
  by_cases q4 : v.k = 4
  · have w := h.mx v.n
    refine fin (evG_4 q4) (evG_4 (hk.trans q4)) ?_ ?_ ?_
    · rw [hn, w.1]; exact .inl
    · rw [hn, w.1]; exact fun _ => rfl
    · rw [hn]; exact fun _ _ => w.2
  exact fin (evG_5 q0 q1 q2 q3 q4) (evG_5 (by rw [hk]; exact q0) (by rw [hk]; exact q1) (by rw [hk]; exact q2) (by rw [hk]; exact q3) (by rw [hk]; exact q4)) (fun _ => .inl rfl) (fun _ => rfl) fun _ _ => h
end Go.Fx

/-
  A fare does not fall.
-/
namespace Go.Fx
open Go.Proofs

theorem al_ok {l : Log} (hc : 1 ≤ l.c ∧ l.c ≤ 100000) (hd : 0 ≤ l.d ∧ l.d ≤ 100000) (ht : 0 ≤ l.t ∧ l.t ≤ 86399) (hl : l.ev.length ≤ 200) (he : ∀ j, j < l.ev.length → evE (l.ev.getD j ev0) = 0) : aloneE l = 0 := by
  have hh : headE l = 0 := by
    unfold headE momE
    rw [inB_iff.2 hc, inB_iff.2 hd, inB_iff.2 ht, decide_eq_true (show (l.ev.length : Int) ≤ 200 by omega)]; rfl
  unfold aloneE
  rw [hh]
  exact (scan_none (g := evE) (d := ev0) he).1
theorem ev_mk {e : Ev} (h0 : 0 ≤ e.k ∧ e.k ≤ 6) (h : evLo e.k ≤ e.n ∧ e.n ≤ evHi e.k) : evE e = 0 := by
  unfold evE; rw [inB_iff.2 h0, inB_iff.2 h]; rfl
theorem ev_k0 {e : Ev} (h0 : e.k = 0) (h : 1 ≤ e.n ∧ e.n ≤ 100000) : evE e = 0 := ev_mk (by omega) (by rw [h0]; exact h)

theorem tdiv_mono {a b d : Int} (h0 : 0 ≤ a) (h : a ≤ b) (hd : 0 < d) : a.tdiv d ≤ b.tdiv d := by
  rw [Int.tdiv_eq_ediv_of_nonneg h0, Int.tdiv_eq_ediv_of_nonneg (by omega)]
  exact Int.ediv_le_ediv hd h
theorem dst_mono {t : Trf} {z ru a b : Int} (h : ROk z (ruA t ru)) (hab : a ≤ b) : dstQ t ru a ≤ dstQ t ru b := by
  unfold dstQ
  have := h.me
  exact Int.mul_le_mul_of_nonneg_left hab (by omega)
theorem cb_nn {t : Trf} {l : Log} {z ps ru b tk : Int} (h : ROk z (ruA t ru)) (hc : 1 ≤ l.c ∧ l.c ≤ 100000) (hb : 0 ≤ b) : 0 ≤ cbQ t l ps ru b tk := by
  unfold cbQ
  have d := dst_bd h hb
  have c := scn_bd h hc
  refine Int.mul_nonneg ?_ (by omega)
  cases (bif (bif decide (0 < tk) then ps == 1 else false) then decide (dstQ t ru b ≤ scnQ t l ru) else false)
  · show 0 ≤ dstQ t ru b; omega
  · show 0 ≤ scnQ t l ru; omega
theorem cb_mono {t : Trf} {l : Log} {z ps ru b b' tk : Int} (h : ROk z (ruA t ru)) (hab : b ≤ b') : cbQ t l ps ru b tk ≤ cbQ t l ps ru b' tk := by
  unfold cbQ
  have d := dst_mono h hab
  refine Int.mul_le_mul_of_nonneg_right ?_ (by omega)
  cases (bif decide (0 < tk) then ps == 1 else false)
  · show dstQ t ru b ≤ dstQ t ru b'; exact d
  · show (bif decide (dstQ t ru b ≤ scnQ t l ru) then scnQ t l ru else dstQ t ru b) ≤ (bif decide (dstQ t ru b' ≤ scnQ t l ru) then scnQ t l ru else dstQ t ru b')
    by_cases q : dstQ t ru b ≤ scnQ t l ru
    · rw [decide_eq_true q]
      by_cases q' : dstQ t ru b' ≤ scnQ t l ru
      · rw [decide_eq_true q']; exact Int.le_refl _
      · rw [decide_eq_false q']; show scnQ t l ru ≤ dstQ t ru b'; omega
    · rw [decide_eq_false q, decide_eq_false (show ¬ dstQ t ru b' ≤ scnQ t l ru by omega)]; exact d

/-- More pulses. -/
def lkRise {t : Trf} {l l' : Log} (hu : 1 ≤ t.unit ∧ t.unit ≤ 999999999) (hc : 1 ≤ l.c ∧ l.c ≤ 100000) (h1 : l'.c = l.c) (h2 : l'.d = l.d) (h3 : l'.t = l.t) : Lock t l l' false := {
  Q := fun a b a' b' => (0 ≤ a ∧ a ≤ a') ∧ (0 ≤ b ∧ b ≤ b') ∧ (0 < b' → 0 < b)
  d := h2
  s := h3
  pos := fun h => by omega
  sgn := fun h => by omega
  zero := fun h => by omega
  start := by omega
  add := fun ps ru tk hR h => by
    have a := cb_nn (l := l) (ps := ps) (tk := tk) hR hc h.2.1.1
    have b := cb_mono (l := l) (ps := ps) (tk := tk) hR h.2.1.2
    refine ⟨⟨by omega, ?_⟩, ⟨Int.le_refl _, Int.le_refl _⟩, fun h => h⟩
    have e2 : ∀ b, cbQ t l' ps ru b tk = cbQ t l ps ru b tk := fun b => by unfold cbQ scnQ; rw [h1]
    rw [e2]; omega
  stp := fun h => ⟨by rw [h1]; exact tdiv_mono h.1.1 h.1.2 (uc_bd hu hc).1, fun h => by cases h⟩ }

/-- Two logs that go in step. -/
theorem Lk.run {t : Trf} {l l' : Log} {eq : Bool} {K : Lock t l l' eq} (ht : trfE t = 0) (hq : Lk K mc0 mc0) (hk : ∀ i, i < l.ev.length → (l'.ev.getD i ev0).k = (l.ev.getD i ev0).k ∧ ((l.ev.getD i ev0).k ≠ 0 → (l'.ev.getD i ev0).n = (l.ev.getD i ev0).n))
    (hp : ∀ i, i < l.ev.length → (l.ev.getD i ev0).k = 0 → ∀ a b a' b', K.Q a b a' b' → K.Q a (b + (l.ev.getD i ev0).n) a' (b' + (l'.ev.getD i ev0).n)) :
    ∀ k, k ≤ l.ev.length → (∀ j, j < k → mcE t l j = 0) → (∀ j, j < k → mcE t l' j = 0) → Lk K (mcN t l k) (mcN t l' k)
  | 0, _, _, _ => hq
  | k + 1, h, h1, h2 => by
    have ih := Lk.run ht hq hk hp k (by omega) (fun j hj => h1 j (by omega)) (fun j hj => h2 j (by omega))
    exact (ih.ev ht k k (hk k (by omega)).1 (hk k (by omega)).2 fun q => hp k (by omega) q _ _ _ _ ih.q).2.2 (h1 k (by omega)) (h2 k (by omega))
/-- The log with more pulses in a message. -/
def moreB (l : Log) (x : Int) : Bool := bif inB x 0 (l.ev.length - 1) then (bif (l.ev.getD x.toNat ev0).k == 0 then inB (l.ev.getD x.toNat ev0).n 1 100000 else false) else false
def moreL (l : Log) (x y : Int) : Log := bif moreB l x then { l with ev := l.ev.set x.toNat ⟨(l.ev.getD x.toNat ev0).k, min 100000 ((l.ev.getD x.toNat ev0).n + y)⟩ } else l
theorem ev_set {l : List Ev} {i j : Nat} {v : Ev} : (l.set i v).getD j ev0 = if i = j ∧ i < l.length then v else l.getD j ev0 := by
  simp only [List.getD_eq_getElem?_getD, List.getElem?_set]
  by_cases h : i = j
  · subst h
    by_cases q : i < l.length
    · simp [q]
    · simp [q]
  · simp [h]
theorem more_ev {l : Log} {x y : Int} (hy : 0 ≤ y) (j : Nat) : ((moreL l x y).ev.getD j ev0).k = (l.ev.getD j ev0).k ∧ ((l.ev.getD j ev0).k ≠ 0 → ((moreL l x y).ev.getD j ev0).n = (l.ev.getD j ev0).n) ∧
    ((moreL l x y).ev.getD j ev0 = l.ev.getD j ev0 ∨ ((l.ev.getD j ev0).n ≤ ((moreL l x y).ev.getD j ev0).n ∧ 1 ≤ (l.ev.getD j ev0).n ∧ ((moreL l x y).ev.getD j ev0).n ≤ 100000 ∧ (l.ev.getD j ev0).k = 0)) := by
  unfold moreL
  cases q : moreB l x with
  | false => exact ⟨rfl, fun _ => rfl, .inl rfl⟩
  | true =>
    unfold moreB at q
    have a := and_t q
    have b := and_t a.2
    have b0 := eq_of_beq b.1
    have b1 := inB_iff.1 b.2
    show ((l.ev.set _ _).getD j ev0).k = _ ∧ (_ → ((l.ev.set _ _).getD j ev0).n = _) ∧ ((l.ev.set _ _).getD j ev0 = _ ∨ _ ≤ ((l.ev.set _ _).getD j ev0).n ∧ _ ∧ ((l.ev.set _ _).getD j ev0).n ≤ _ ∧ _)
    rw [ev_set]
    by_cases c : x.toNat = j ∧ x.toNat < l.ev.length
    · rw [if_pos c]
      obtain ⟨rfl, _⟩ := c
      exact ⟨rfl, fun h => absurd b0 h, .inr ⟨by show _ ≤ min _ _; omega, b1.1, by show min _ _ ≤ _; omega, b0⟩⟩
    · rw [if_neg c]; exact ⟨rfl, fun _ => rfl, .inl rfl⟩
theorem more_len {l : Log} {x y : Int} : (moreL l x y).ev.length = l.ev.length ∧ (moreL l x y).c = l.c ∧ (moreL l x y).d = l.d ∧ (moreL l x y).t = l.t := by
  unfold moreL
  cases moreB l x with
  | false => exact ⟨rfl, rfl, rfl, rfl⟩
  | true => exact ⟨List.length_set, rfl, rfl, rfl⟩
theorem more_al {l : Log} {x y : Int} (hy : 0 ≤ y) (h : aloneE l = 0) : aloneE (moreL l x y) = 0 := by
  have g := gd_head h
  have m := more_len (l := l) (x := x) (y := y)
  refine al_ok (by rw [m.2.1]; exact g.1) (by rw [m.2.2.1]; exact g.2.1) (by rw [m.2.2.2]; exact g.2.2.1) (by rw [m.1]; exact g.2.2.2.1) fun j hj => ?_
  have e := g.2.2.2.2 j (by rw [← m.1]; exact hj)
  have w := more_ev (l := l) (x := x) hy j
  rcases w.2.2 with q | ⟨q1, q2, q3, q4⟩
  · rw [q]; exact e
  · exact ev_k0 (by rw [w.1]; exact q4) (by omega)
/-- With more pulses: no other error than too great a fare, and no lower fare. -/
theorem more_law {t : Trf} {l : Log} {x y : Int} (hk : TOk t) (h : rnE t l = 0) (hy : 0 ≤ y) {i : Nat} (hi : i ≤ l.ev.length) :
    (rnE t (moreL l x y) = 0 ∨ rnE t (moreL l x y) = 8) ∧ (rnE t (moreL l x y) = 0 → mFare t l (mcN t l i) ≤ mFare t (moreL l x y) (mcN t (moreL l x y) i)) := by
  obtain ⟨g, h0⟩ := rn_gd hk h
  have gh := gd_head g.al
  have m := more_len (l := l) (x := x) (y := y)
  have al := more_al (x := x) hy g.al
  let K := lkRise (l := l) (l' := moreL l x y) (trf_unit g.trf).1 gh.1 m.2.1 m.2.2.1 m.2.2.2
  have hq : Lk K mc0 mc0 := ⟨rfl, rfl, rfl, rfl, rfl, by show ((0 : Int) ≤ 0 ∧ (0 : Int) ≤ 0) ∧ ((0 : Int) ≤ 0 ∧ (0 : Int) ≤ 0) ∧ ((0 : Int) < 0 → (0 : Int) < 0); omega, fun _ => rfl⟩
  have he : ∀ i, i < l.ev.length → ((moreL l x y).ev.getD i ev0).k = (l.ev.getD i ev0).k ∧ ((l.ev.getD i ev0).k ≠ 0 → ((moreL l x y).ev.getD i ev0).n = (l.ev.getD i ev0).n) := fun i _ => ⟨(more_ev hy i).1, (more_ev hy i).2.1⟩
  have hp : ∀ i, i < l.ev.length → (l.ev.getD i ev0).k = 0 → ∀ a b a' b', K.Q a b a' b' → K.Q a (b + (l.ev.getD i ev0).n) a' (b' + ((moreL l x y).ev.getD i ev0).n) := fun i hi q a b a' b' hQ => by
    have e := (ev_ok (gh.2.2.2.2 i hi)).2.1 q
    have hQ : (0 ≤ a ∧ a ≤ a') ∧ (0 ≤ b ∧ b ≤ b') ∧ (0 < b' → 0 < b) := hQ
    have hle : (l.ev.getD i ev0).n ≤ ((moreL l x y).ev.getD i ev0).n := by
      rcases (more_ev (l := l) (x := x) hy i).2.2 with z | z
      · rw [z]; exact Int.le_refl _
      · exact z.1
    show (0 ≤ a ∧ a ≤ a') ∧ (0 ≤ b + _ ∧ b + _ ≤ b' + _) ∧ (0 < b' + _ → 0 < b + _)
    omega
  have run := Lk.run g.trf hq he hp
  -- the first error of the other log
  have first : ∀ k, k ≤ l.ev.length → (∀ j, j < k → mcE t (moreL l x y) j = 0) ∨ ∃ j, j < k ∧ (∀ q, q < j → mcE t (moreL l x y) q = 0) ∧ mcE t (moreL l x y) j = 8 := by
    intro k
    induction k with
    | zero => exact fun _ => .inl fun j hj => absurd hj (Nat.not_lt_zero j)
    | succ k ih =>
      intro hk
      rcases ih (by omega) with z | ⟨j, j1, j2, j3⟩
      · have L := run k (by omega) (fun j hj => h0 j (by omega)) z
        have w := (L.ev g.trf k k (he k (by omega)).1 (he k (by omega)).2 fun q => hp k (by omega) q _ _ _ _ L.q).1 (h0 k (by omega))
        rcases w with w | w
        · exact .inl fun j hj => by
            rcases Nat.lt_succ_iff_lt_or_eq.1 hj with q | q
            · exact z j q
            · rw [q]; exact w
        · exact .inr ⟨k, by omega, z, w⟩
      · exact .inr ⟨j, by omega, j2, j3⟩
  rcases first l.ev.length (Nat.le_refl _) with z | ⟨j, j1, j2, j3⟩
  · have e : rnE t (moreL l x y) = 0 := (rn_ok g.trf al (by rw [m.1]; exact z)).1
    refine ⟨.inl e, fun _ => ?_⟩
    exact ((run i hi (fun j hj => h0 j (by omega)) (fun j hj => z j (by omega))).fare g.trf).1
  · have e : rnE t (moreL l x y) = 8 := by rw [(rn_hit g.trf al (by rw [m.1]; exact j1) j2 (by rw [j3]; decide)).1, j3]
    exact ⟨.inr e, fun h => by rw [e] at h; cases h⟩

/-- A fare does not fall in a trip. -/
theorem mxA_mono {t : Trf} {a b : List Int} (ht : trfE t = 0) (h : ∀ j, a.getD j 0 ≤ b.getD j 0) : ∀ i, i ≤ t.extras.length → mxA t a i ≤ mxA t b i
  | 0, _ => Int.le_refl _
  | i + 1, hi => by
    have ih := mxA_mono ht h i (by omega)
    have x := (trf_ext ht).2 i (by omega)
    have := Int.mul_le_mul_of_nonneg_right (h i) x.1
    simp only [mxA]; omega
theorem fare_mono {t : Trf} {l : Log} {s s' : Mc} (hm : Hm t l s) (hm' : Hm t l s') (h0' : s'.ps ≠ 0) (h0 : s.ps ≠ 0 → s'.st = s.st ∧ (∀ j, s.ex.getD j 0 ≤ s'.ex.getD j 0) ∧ s.pa ≤ s'.pa) : mFare t l s ≤ mFare t l s' := by
  by_cases z : s.ps = 0
  · rw [fare_0 z]; exact (fare_bd hm').1
  · obtain ⟨a, b, c⟩ := h0 z
    have n := hm.nums
    have el := hm.m.exl z
    have el' := hm'.m.exl h0'
    have x := mxA_mono hm.g.trf b t.extras.length (Nat.le_refl _)
    by_cases hp : 0 < t.step
    · rw [fare_1 z hp, fare_1 h0' hp, a, el, el']
      have d : mStp t l s ≤ mStp t l s' := by unfold mStp; exact tdiv_mono n.2.2.2.2.2.2.1.1 c (uc_bd n.2.2.2.2.2.2.2.1 n.1).1
      have e : min (mStp t l s) ((1000000000 : Int).tdiv t.step + 1) ≤ min (mStp t l s') ((1000000000 : Int).tdiv t.step + 1) := by omega
      have := Int.mul_le_mul_of_nonneg_right e (show 0 ≤ t.step by omega)
      omega
    · rw [fare_2 z hp, fare_2 h0' hp, a, el, el']; omega
theorem rd_pa {t : Trf} {l : Log} {s : Mc} {n : Int} (hm : Hm t l s) (e : rdE t l s = 0) : s.pa ≤ (rdS t l s n).pa := by
  rw [rdS_eq, nt_eq]
  show s.pa ≤ ntA t l s _ _ _
  cases q : rnB s with
  | false => rw [nta_f q]; exact Int.le_refl _
  | true =>
    rw [nta_cb q]
    have hR := mr_rule hm.g.trf (by rw [← rdE_t q]; exact e)
    have := cb_nn (l := l) (ps := s.ps) (tk := rdK t l s n) hR hm.nums.1 hm.m.si.1
    show s.pa ≤ s.pa + cbQ t l s.ps (mrN t l s) s.si _
    omega
theorem tkF_pa {t : Trf} {l : Log} {k : Int} (g : Gd t l) (hk : k ≤ 201) : ∀ (f : Nat) (s : Mc) (n : Int), MOk t k s → s.tk + n ≤ 3600 * k → s.pa ≤ (tkF t l f s n).1.pa
  | 0, s, n, _, _ => Int.le_refl _
  | f + 1, s, n, h, hn => by
    unfold tkF
    by_cases q : 0 < n
    · rw [decide_eq_true q]
      by_cases e : rdE t l s = 0
      · have w := rd_ok g h hk e q hn
        have b := rdK_bd (t := t) (l := l) (s := s) q
        have p := rd_pa (n := n) ⟨g, h.mono hk⟩ e
        rw [e]
        by_cases c : 1000000000 < mFare t l (rdS t l s n)
        · rw [decide_eq_true c]; exact p
        · rw [decide_eq_false c]
          have := tkF_pa g hk f (rdS t l s n) (n - rdK t l s n) w.1 (by rw [w.2]; omega)
          exact Int.le_trans p this
      · rw [decide_eq_false e]; exact Int.le_refl _
    · rw [decide_eq_false q]; exact Int.le_refl _
theorem ch_pa {t : Trf} {l : Log} {s : Mc} (hm : Hm t l s) : s.pa ≤ (chS t l s).pa := by
  cases q : chgB s with
  | false => rw [chS_f q]; exact Int.le_refl _
  | true =>
    by_cases e : mrE t l s = 0
    · have hr := (chg_iff.1 q).1
      rw [chS_t q e, nt_eq, nta_cb hr]
      have := cb_nn (l := l) (ps := s.ps) (tk := 0) (mr_rule hm.g.trf e) hm.nums.1 hm.m.si.1
      show s.pa ≤ s.pa + cbQ t l s.ps (mrN t l s) s.si 0
      omega
    · rw [chS_e q e]; exact Int.le_refl _
theorem ev_rise {t : Trf} {l : Log} (g : Gd t l) {k : Nat} (hk : k < l.ev.length) (h0 : mcE t l k = 0) (hp : (mcN t l (k + 1)).ps ≠ 0) : mFare t l (mcN t l k) ≤ mFare t l (mcN t l (k + 1)) := by
  have hm := mcN_hm g (show k ≤ l.ev.length by omega)
  have hm' := mcN_hm g (show k + 1 ≤ l.ev.length by omega)
  have mo := mcN_ok g k (by omega)
  refine fare_mono hm hm' hp fun z => ?_
  have gh := gd_head g.al
  have ee := ev_ok (gh.2.2.2.2 k hk)
  revert hp h0
  show mcE t l k = 0 → (evS_ t l (mcN t l k) k).ps ≠ 0 → (evS_ t l (mcN t l k) k).st = _ ∧ (∀ j, _ ≤ (evS_ t l (mcN t l k) k).ex.getD j 0) ∧ _ ≤ (evS_ t l (mcN t l k) k).pa
  unfold mcE evF
  rw [evS_eq]
  generalize hs : mcN t l k = s at *
  generalize l.ev.getD k ev0 = v at *
  intro h0 hp
  have hE : evH t l s k v = 0 := firstS_zero h0 _ (by simp)
  by_cases q0 : v.k = 0
  · rw [(evG_0 q0).1]; exact ⟨rfl, fun _ => Int.le_refl _, Int.le_refl _⟩
  by_cases q1 : v.k = 1
  · rw [(evG_1 q1).1]
    have sm := tk_same t l s v.n
    have w := ee.2.2.1 q1
    have b := mo.tk
    refine ⟨sm.st, fun j => by rw [sm.ex]; exact Int.le_refl _, ?_⟩
    unfold tkS
    exact tkF_pa g (k := (k : Int) + 1) (by have := gh.2.2.2.1; omega) _ s v.n (mo.mono (by omega)) (by omega)
  by_cases q2 : v.k = 2
  · rw [(evG_2 q2).1] at hp ⊢
    rw [(evG_2 q2).2] at hE
    have sm := ch_same t l s
    cases q : goB s.ps v.n with
    | false => rw [(po_no (t := t) (l := l) (i := k) q).1] at hE; cases hE
    | true =>
      by_cases e : chE_ t l s = 0
      · by_cases hz : v.n = 0
        · rw [(po_ed (i := k) q e z hz).2] at hp; exact absurd hz hp
        · rw [(po_mv (i := k) q e z hz).2]
          exact ⟨sm.2.2.2.2.1, fun j => by show _ ≤ (chS t l s).ex.getD j 0; rw [sm.2.2.2.2.2.1]; exact Int.le_refl _, ch_pa hm⟩
      · rw [(po_ch (i := k) q e).1] at hE; exact absurd hE e
  by_cases q3 : v.k = 3
  · have sm := ch_same t l s
    by_cases c : v.n < t.zones.length
    · rw [(evG_3 q3 c).1]
      exact ⟨sm.2.2.2.2.1, fun j => by show _ ≤ (chS t l s).ex.getD j 0; rw [sm.2.2.2.2.2.1]; exact Int.le_refl _, ch_pa hm⟩
    · rw [(evG_3' q3 c).1]; exact ⟨rfl, fun _ => Int.le_refl _, Int.le_refl _⟩
  by_cases q4 : v.k = 4
  · rw [(evG_4 q4).1]
    by_cases q : mxH t s v.n = 0
    · by_cases c : 20 ≤ s.ex.getD v.n.toNat 0
      · rw [(mx_full q c).2]; exact ⟨rfl, fun _ => Int.le_refl _, Int.le_refl _⟩
      · rw [(mx_add q c).2]
        refine ⟨rfl, fun j => ?_, Int.le_refl _⟩
        show s.ex.getD j 0 ≤ (s.ex.set _ _).getD j 0
        rw [getD_set]
        split
        · rename_i w; rw [← w.1]; omega
        · exact Int.le_refl _
    · rw [(mx_bad rfl q).2]; exact ⟨rfl, fun _ => Int.le_refl _, Int.le_refl _⟩
  rw [(evG_5 q0 q1 q2 q3 q4).1]; exact ⟨rfl, fun _ => Int.le_refl _, Int.le_refl _⟩
end Go.Fx
