/-
 Ticks, one by one; logs that are sealed, and changed.
-/
import Derived.Test.YtfdegaojblmdiaaGreatDoorGy
set_option linter.all false
namespace Go.Fx
open Go.Proofs
theorem cb_eq {t : Trf} {l l' : Log} (h : l'.c = l.c) (ps ru b tk : Int) : cbQ t l' ps ru b tk = cbQ t l ps ru b tk := by unfold cbQ scnQ; rw [h]
def lkId {t : Trf} {l l' : Log} (hc : 1 <= l.c /\ l.c <= 100000) (h1 : l'.c = l.c) (h2 : l'.d = l.d) (h3 : l'.t = l.t) : Lock t l l' true := {
 Q := fun a b a' b' => (0 <= a /\ 0 <= b) /\ a' = a /\ b' = b
 d := h2
 s := h3
 pos := fun h => by omega
 sgn := fun h => by omega
 zero := fun h => by omega
 start := by omega
 add := fun {a b a' b'} ps ru tk hR h => by
  obtain ⟨⟨ha, hb⟩, rfl, rfl⟩ := h
  have n := cb_nn (l := l) (ps := ps) (tk := tk) hR hc hb
  rw [cb_eq h1]
  exact ⟨⟨by omega, Int.le_refl _⟩, rfl, rfl⟩
 stp := fun {a b a' b'} h => by
  obtain ⟨_, rfl, _⟩ := h
  rw [h1]
  exact ⟨Int.le_refl _, fun _ => rfl⟩ }
section
variable {t : Trf} {l : Log}
theorem lk_refl {l' : Log} {hc : 1 <= l.c /\ l.c <= 100000} {h1 : l'.c = l.c} {h2 : l'.d = l.d} {h3 : l'.t = l.t} {s : Mc} (hp : 0 <= s.pa) (hs : 0 <= s.si) : Lk (lkId (t := t) hc h1 h2 h3) s s := ⟨rfl, rfl, rfl, rfl, rfl, ⟨⟨hp, hs⟩, rfl, rfl⟩, fun _ => rfl⟩
theorem Lk.pq {l' : Log} {hc : 1 <= l.c /\ l.c <= 100000} {h1 : l'.c = l.c} {h2 : l'.d = l.d} {h3 : l'.t = l.t} {s s' : Mc} (h : Lk (lkId (t := t) hc h1 h2 h3) s s') : (0 <= s.pa /\ 0 <= s.si) /\ s'.pa = s.pa /\ s'.si = s.si := h.q
theorem Lk.symm {hc : 1 <= l.c /\ l.c <= 100000} {s s' : Mc} (h : Lk (lkId (t := t) (l' := l) hc rfl rfl rfl) s s') : Lk (lkId (t := t) (l' := l) hc rfl rfl rfl) s' s :=
 ⟨h.tk.symm, h.ps.symm, h.zn.symm, h.st.symm, h.ex.symm, by
  have q := h.pq
  show (0 <= s'.pa /\ 0 <= s'.si) /\ s.pa = s'.pa /\ s.si = s'.si
  omega, fun e => (h.fa e).symm⟩
theorem Lk.trans {l' l'' : Log} {hc : 1 <= l.c /\ l.c <= 100000} {h1 : l'.c = l.c} {h2 : l'.d = l.d} {h3 : l'.t = l.t} {hc' : 1 <= l'.c /\ l'.c <= 100000} {k1 : l''.c = l'.c} {k2 : l''.d = l'.d} {k3 : l''.t = l'.t} {s s' s'' : Mc}
  (h : Lk (lkId (t := t) hc h1 h2 h3) s s') (k : Lk (lkId (t := t) hc' k1 k2 k3) s' s'') : Lk (lkId (t := t) hc (k1.trans h1) (k2.trans h2) (k3.trans h3)) s s'' :=
 ⟨k.tk.trans h.tk, k.ps.trans h.ps, k.zn.trans h.zn, k.st.trans h.st, k.ex.trans h.ex, by
  have q := h.pq; have r := k.pq
  show (0 <= s.pa /\ 0 <= s.si) /\ s''.pa = s.pa /\ s''.si = s.si
  omega, fun e => (k.fa e).trans (h.fa e)⟩
theorem Lk.tr {hc : 1 <= l.c /\ l.c <= 100000} {s s' s'' : Mc} (h : Lk (lkId (t := t) (l' := l) hc rfl rfl rfl) s s') (k : Lk (lkId (t := t) (l' := l) hc rfl rfl rfl) s' s'') : Lk (lkId (t := t) (l' := l) hc rfl rfl rfl) s s'' := Lk.trans h k
def sqF (t : Trf) (l : Log) : Nat -> Mc -> Mc × Int
 | 0, s => (s, 0)
 | f + 1, s => bif decide (rdE t l s = 0) then (bif decide (1000000000 < mFare t l (rdS t l s 1)) then (rdS t l s 1, 8) else sqF t l f (rdS t l s 1)) else (s, rdE t l s)
theorem sq_e {f : Nat} {s : Mc} (e : rdE t l s ≠ 0) : sqF t l (f + 1) s = (s, rdE t l s) := by simp only [sqF]; rw [decide_eq_false e]; rfl
theorem sq_8 {f : Nat} {s : Mc} (e : rdE t l s = 0) (c : 1000000000 < mFare t l (rdS t l s 1)) : sqF t l (f + 1) s = (rdS t l s 1, 8) := by simp only [sqF]; rw [e, decide_eq_true c]; rfl
theorem sq_s {f : Nat} {s : Mc} (e : rdE t l s = 0) (c : ¬ 1000000000 < mFare t l (rdS t l s 1)) : sqF t l (f + 1) s = sqF t l f (rdS t l s 1) := by
 conv => lhs; simp only [sqF]
 rw [e, decide_eq_false c]; rfl
theorem Lk.sq {l' : Log} {K : Lock t l l' true} (ht : trfE t = 0) : ∀ (f : Nat) {s s' : Mc}, Lk K s s' ->
  (sqF t l' f s').2 = (sqF t l f s).2 /\ ((sqF t l f s).2 = 0 -> Lk K (sqF t l f s).1 (sqF t l' f s').1)
 | 0, s, s', h => ⟨rfl, fun _ => h⟩
 | f + 1, s, s', h => by
  by_cases e : rdE t l s = 0
  ·have e' : rdE t l' s' = 0 := h.rde.trans e
   have hr := h.rd ht 1 e
   have hf := (hr.fare ht).2 rfl
   by_cases c : 1000000000 < mFare t l (rdS t l s 1)
   ·rw [sq_8 e c, sq_8 e' (by omega)]; exact ⟨rfl, fun h => (by cases h)⟩
   ·rw [sq_s e c, sq_s e' (by omega)]; exact Lk.sq ht f hr
  ·rw [sq_e e, sq_e (by rw [h.rde]; exact e), h.rde]; exact ⟨rfl, fun h => absurd h e⟩
theorem sq_add : ∀ (a b : Nat) (s : Mc), sqF t l (a + b) s = bif decide ((sqF t l a s).2 = 0) then sqF t l b (sqF t l a s).1 else sqF t l a s
 | 0, b, s => by rw [Nat.zero_add]; rfl
 | a + 1, b, s => by
  rw [show a + 1 + b = (a + b) + 1 by omega]
  by_cases e : rdE t l s = 0
  ·by_cases c : 1000000000 < mFare t l (rdS t l s 1)
   ·rw [sq_8 e c, sq_8 e c]; rfl
   ·rw [sq_s e c, sq_s e c]; exact sq_add a b _
  ·rw [sq_e e, sq_e e]
   show _ = bif decide (rdE t l s = 0) then _ else _
   rw [decide_eq_false e]; rfl
theorem sq_fare : ∀ (m : Nat) (s : Mc), (sqF t l (m + 1) s).2 = 0 -> mFare t l (sqF t l (m + 1) s).1 <= 1000000000
 | m, s, h => by
  by_cases e : rdE t l s = 0
  ·by_cases c : 1000000000 < mFare t l (rdS t l s 1)
   ·rw [sq_8 e c] at h; cases h
   ·rw [sq_s e c] at h ⊢
    cases m with
    | zero => show mFare t l (rdS t l s 1) <= _; omega
    | succ m => exact sq_fare m _ h
  ·rw [sq_e e] at h; exact absurd h e
theorem fare_eq {s s' : Mc} (h1 : s'.ps = s.ps) (h2 : s'.st = s.st) (h3 : s'.ex = s.ex) (h4 : s'.pa = s.pa) : mFare t l s' = mFare t l s := by unfold mFare mStp; rw [h1, h2, h3, h4]
theorem fare_le {s s' : Mc} (g : Gd t l) (h1 : s'.ps = s.ps) (h2 : s'.st = s.st) (h3 : s'.ex = s.ex) (h0 : 0 <= s.pa) (h4 : s.pa <= s'.pa) : mFare t l s <= mFare t l s' := by
 have u := trf_unit g.trf
 have gh := gd_head g.al
 by_cases z : s.ps = 0
 ·rw [fare_0 z, fare_0 (h1.trans z)]; exact Int.le_refl _
 ·have z' : s'.ps ≠ 0 := by rw [h1]; exact z
  by_cases hp : 0 < t.step
  ·rw [fare_1 z hp, fare_1 z' hp, h2, h3]
   have d : mStp t l s <= mStp t l s' := by unfold mStp; exact tdiv_mono h0 h4 (uc_bd u.1 gh.1).1
   have e : min (mStp t l s) ((1000000000 : Int).tdiv t.step + 1) <= min (mStp t l s') ((1000000000 : Int).tdiv t.step + 1) := by omega
   have := Int.mul_le_mul_of_nonneg_right e (show 0 <= t.step by omega)
   omega
  ·rw [fare_2 z hp, fare_2 z' hp, h2, h3]; exact Int.le_refl _
theorem sq_off (g : Gd t l) : ∀ (m : Nat) (s : Mc), rnB s = false -> 0 <= s.pa ->
  (1000000000 < mFare t l s -> (sqF t l (m + 1) s).2 = 8) /\ (¬ 1000000000 < mFare t l s -> (sqF t l (m + 1) s).2 = 0 /\ Lk (lkId (t := t) (l' := l) (gd_head g.al).1 rfl rfl rfl) { s with si := 0, tk := s.tk + ((m : Int) + 1) } (sqF t l (m + 1) s).1)
 | m, s, hr, hp => by
  have e : rdE t l s = 0 := rdE_f hr
  have r : rdS t l s 1 = { ntS t l s 0 0 1 with si := 0, tk := s.tk + 1 } := (rdS_3 hr).2
  rw [nt_eq, nta_f hr] at r
  have f : mFare t l (rdS t l s 1) = mFare t l s := by rw [r]; exact fare_eq rfl rfl rfl rfl
  refine ⟨fun c => by rw [sq_8 e (by rw [f]; exact c)], fun c => ?_⟩
  rw [sq_s e (by rw [f]; exact c)]
  cases m with
  | zero =>
   refine ⟨rfl, ?_⟩
   show Lk _ _ (rdS t l s 1)
   rw [r]
   exact ⟨by show s.tk + 1 = s.tk + (((0 : Nat) : Int) + 1); omega, rfl, rfl, rfl, rfl, ⟨⟨hp, Int.le_refl _⟩, rfl, rfl⟩, fun _ => rfl⟩
  | succ m =>
   have w := (sq_off g m (rdS t l s 1) (by rw [r]; exact hr) (by rw [r]; exact hp)).2 (by rw [f]; exact c)
   refine ⟨w.1, ?_⟩
   have w2 := w.2
   refine Lk.tr ?_ w2
   rw [r]
   exact ⟨by show s.tk + 1 + ((m : Int) + 1) = s.tk + (((m + 1 : Nat) : Int) + 1); omega, rfl, rfl, rfl, rfl, ⟨⟨hp, Int.le_refl _⟩, rfl, rfl⟩, fun _ => rfl⟩
theorem std_next {x : Int} : ∀ {l : List Int}, 2 <= stdL x l -> stdL (x + 1) l = stdL x l - 1
 | [], h => by simp [stdL] at h
 | m :: r, h => by
  simp only [stdL] at h ⊢
  by_cases c : x < m
  ·rw [decide_eq_true c] at h ⊢
   have h : 2 <= m - x := h
   rw [decide_eq_true (show x + 1 < m by omega)]
   show m - (x + 1) = m - x - 1; omega
  ·rw [decide_eq_false c] at h ⊢
   rw [decide_eq_false (show ¬ x + 1 < m by omega)]
   exact std_next (l := r) h
theorem std_gap {x : Int} : ∀ {l : List Int}, l.Pairwise (· <= ·) -> 2 <= stdL x l -> ∀ m ∈ l, m <= x \/ x + 2 <= m
 | [], _, _, m, hm => by simp at hm
 | a :: r, hs, h, m, hm => by
  simp only [stdL] at h
  have hp := List.pairwise_cons.1 hs
  by_cases c : x < a
  ·rw [decide_eq_true c] at h
   have h : 2 <= a - x := h
   rcases List.mem_cons.1 hm with rfl | q
   ·right; omega
   ·have := hp.1 m q; right; omega
  ·rw [decide_eq_false c] at h
   rcases List.mem_cons.1 hm with rfl | q
   ·left; omega
   ·exact std_gap (l := r) hp.2 h m q
theorem mrkL_has (t : Trf) : ∀ n, 86400 ∈ mrkL t n /\ ∀ j, j < n -> (t.rules.getD j rul0).bg ∈ mrkL t n /\ (t.rules.getD j rul0).en ∈ mrkL t n
 | 0 => ⟨by simp [mrkL], fun j hj => absurd hj (Nat.not_lt_zero j)⟩
 | n + 1 => by
  have ih := mrkL_has t n
  simp only [mrkL]
  refine ⟨List.mem_append_left _ ih.1, fun j hj => ?_⟩
  rcases Nat.lt_succ_iff_lt_or_eq.1 hj with q | q
  ·exact ⟨List.mem_append_left _ (ih.2 j q).1, List.mem_append_left _ (ih.2 j q).2⟩
  ·subst q; exact ⟨List.mem_append_right _ (by simp), List.mem_append_right _ (by simp)⟩
theorem mrk_srt (t : Trf) : (mrkS t).Pairwise (· <= ·) := by unfold mrkS; exact sortI_srt _
theorem nx_sec {s s1 : Mc} (ht : trfE t = 0) (h0 : 0 <= secM l s) (hk : s1.tk = s.tk + 1) (hz : s1.zn = s.zn) (h2 : 2 <= stdQ t l s) :
  stdQ t l s1 = stdQ t l s - 1 /\ (mrE t l s = 0 -> mrE t l s1 = 0 /\ mrN t l s1 = mrN t l s) := by
 have h2' : 2 <= stdL (nowM l s).s (mrkS t) := by unfold stdQ at h2; exact h2
 have gap := std_gap (mrk_srt t) h2'
 have h4 := gap 86400 (mrkS_mem.2 (mrkL_has t _).1)
 have e1 : secM l s1 = secM l s + 1 := by unfold secM; rw [hk]; omega
 have b1 : (nowM l s).s = secM l s % 86400 := by unfold nowM; exact Int.tmod_eq_emod_of_nonneg h0
 have b2 : (nowM l s).d = secM l s / 86400 := by unfold nowM; exact Int.tdiv_eq_ediv_of_nonneg h0
 have c1 : (nowM l s1).s = (secM l s + 1) % 86400 := by unfold nowM; rw [e1]; exact Int.tmod_eq_emod_of_nonneg (by omega)
 have c2 : (nowM l s1).d = (secM l s + 1) / 86400 := by unfold nowM; rw [e1]; exact Int.tdiv_eq_ediv_of_nonneg (by omega)
 have n1 : (nowM l s1).s = (nowM l s).s + 1 := by omega
 have n2 : (nowM l s1).d = (nowM l s).d := by omega
 have n0 : 0 <= (nowM l s).s := by omega
 have n3 : (nowM l s).s + 2 <= 86400 := by omega
 have en : nowM l s1 = ⟨(nowM l s).d, (nowM l s).s + 1⟩ := by rw [<- n1, <- n2]
 refine ⟨by unfold stdQ; rw [n1]; exact std_next h2', fun e => ?_⟩
 have w := mr_at e
 obtain ⟨_, _, _, _, gt⟩ := ruleAt_ok' w.2.1
 have gk := gate_ok.1 gt
 have em : mnE l s1 = mnE l s := by unfold mnE; rw [n2]
 have eh : holdI t ⟨s1.zn, nowM l s1⟩ t.rules.length = holdI t ⟨s.zn, nowM l s⟩ t.rules.length := by
  rw [hz, en]
  refine holdI_same (z := s.zn) (d := (nowM l s).d) (a := (nowM l s).s) (b := (nowM l s).s + 1) ht (by omega) (by omega) (fun x hx => ?_) _ (Nat.le_refl _)
  rcases (times_mem ht).1 hx with q | ⟨j, hj, q, _⟩
  ·left; omega
  ·have m := (mrkL_has t t.rules.length).2 j hj
   have hx : x <= (nowM l s).s \/ (nowM l s).s + 2 <= x := by
    rcases q with q | q
    ·rw [q]; exact gap _ (mrkS_mem.2 m.1)
    ·rw [q]; exact gap _ (mrkS_mem.2 m.2)
   omega
 have g1 : gateE t ⟨s1.zn, nowM l s1⟩ = 0 := by
  refine gate_ok.2 ⟨ht, by rw [hz]; exact gk.2.1, ?_⟩
  have k := gk.2.2
  rw [en]
  unfold momB at k ⊢
  have k1 := and_t k
  have k2 := inB_iff.1 k1.2
  rw [k1.1, inB_iff.2 (show 0 <= (nowM l s).s + 1 /\ (nowM l s).s + 1 <= 86399 by omega)]; rfl
 have r1 := ruleAt_0 g1
 have r0 := ruleAt_0 gt
 rw [eh, <- r0.1, <- r0.2] at r1
 unfold mrE mrN
 rw [em, w.1, r1.1, r1.2]
 exact ⟨w.2.1, rfl⟩
def pcS (t : Trf) (l : Log) (s : Mc) (m : Int) : Mc := { ntS t l s (mrN t l s) s.si m with si := 0, tk := s.tk + m }
theorem cb_lin {ps ru m : Int} (hm : 1 <= m) : cbQ t l ps ru 0 m = cbQ t l ps ru 0 1 * m := by
 unfold cbQ
 rw [decide_eq_true (show 0 < m by omega), show max 1 m = m by omega, show decide ((0 : Int) < 1) = true from rfl, show max (1 : Int) 1 = 1 from rfl, Int.mul_one]
theorem pc_eq {s : Mc} (hr : rnB s = true) (m : Int) : (pcS t l s m).tk = s.tk + m /\ (pcS t l s m).ps = s.ps /\ (pcS t l s m).zn = s.zn /\ (pcS t l s m).st = s.st /\ (pcS t l s m).ex = s.ex /\ (pcS t l s m).pa = s.pa + cbQ t l s.ps (mrN t l s) s.si m /\ (pcS t l s m).si = 0 /\ (pcS t l s m).tr = s.tr := by
 unfold pcS; rw [nt_eq, nta_cb hr]; exact ⟨rfl, rfl, rfl, rfl, rfl, rfl, rfl, rfl⟩
theorem rd_one {s : Mc} (hr : rnB s = true) : rdS t l s 1 = pcS t l s 1 := by
 by_cases h : 0 < s.si
 ·exact (rdS_1 hr h).2
 ·have k : 1 <= stdQ t l s := by unfold stdQ; exact std_ge _ _
  rw [(rdS_2 hr h).2, show min 1 (stdQ t l s) = 1 by omega]; rfl
theorem sq_run (g : Gd t l) : ∀ (m : Nat) (s : Mc), rnB s = true -> s.si = 0 -> 0 <= s.pa -> 0 <= s.tk -> mrE t l s = 0 -> (m : Int) + 1 <= stdQ t l s ->
  (1000000000 < mFare t l (pcS t l s ((m : Int) + 1)) -> (sqF t l (m + 1) s).2 = 8) /\
  (¬ 1000000000 < mFare t l (pcS t l s ((m : Int) + 1)) -> (sqF t l (m + 1) s).2 = 0 /\ Lk (lkId (t := t) (l' := l) (gd_head g.al).1 rfl rfl rfl) (pcS t l s ((m : Int) + 1)) (sqF t l (m + 1) s).1)
 | m, s, hr, hs, hp, hk, he, hn => by
  have gh := gd_head g.al
  have e : rdE t l s = 0 := (rdE_t hr).trans he
  have hR := mr_rule g.trf he
  have u0 := cb_nn (l := l) (ps := s.ps) (tk := 1) hR gh.1 (Int.le_refl 0)
  have p1 := pc_eq (t := t) (l := l) hr 1
  have pm := pc_eq (t := t) (l := l) hr ((m : Int) + 1)
  rw [hs] at p1 pm
  rw [cb_lin (show (1 : Int) <= (m : Int) + 1 by omega)] at pm
  have nn1 : 0 <= (pcS t l s 1).pa := by rw [p1.2.2.2.2.2.1]; omega
  cases m with
  | zero =>
   have z : ((0 : Nat) : Int) + 1 = 1 := rfl
   rw [z]
   refine ⟨fun c => by rw [sq_8 e (by rw [rd_one hr]; exact c)], fun c => ?_⟩
   rw [sq_s e (by rw [rd_one hr]; exact c), rd_one hr]
   exact ⟨rfl, lk_refl nn1 (by rw [p1.2.2.2.2.2.2.1]; exact Int.le_refl _)⟩
  | succ m =>
   have nx := nx_sec (l := l) (s := s) (s1 := pcS t l s 1) g.trf (by unfold secM; omega) p1.1 p1.2.2.1 (by omega)
   have hr1 : rnB (pcS t l s 1) = true := by unfold rnB; rw [p1.2.1]; exact hr
   have mr1 := nx.2 he
   have ih := sq_run g m (pcS t l s 1) hr1 p1.2.2.2.2.2.2.1 nn1 (by rw [p1.1]; omega) mr1.1 (by rw [nx.1]; omega)
   have q1 := pc_eq (t := t) (l := l) hr1 ((m : Int) + 1)
   rw [p1.2.2.2.2.2.2.1, cb_lin (show (1 : Int) <= (m : Int) + 1 by omega), mr1.2, p1.2.1] at q1
   have epa : (pcS t l (pcS t l s 1) ((m : Int) + 1)).pa = (pcS t l s (((m + 1 : Nat) : Int) + 1)).pa := by
    have e1 : ∀ u : Int, u * (((m + 1 : Nat) : Int) + 1) = u + u * ((m : Int) + 1) := fun u => by rw [show (((m + 1 : Nat) : Int) + 1) = 1 + ((m : Int) + 1) by omega, Int.mul_add, Int.mul_one]
    rw [q1.2.2.2.2.2.1, pm.2.2.2.2.2.1, p1.2.2.2.2.2.1, e1]; omega
   have L : Lk (lkId (t := t) (l' := l) gh.1 rfl rfl rfl) (pcS t l s (((m + 1 : Nat) : Int) + 1)) (pcS t l (pcS t l s 1) ((m : Int) + 1)) := by
    refine ⟨by rw [q1.1, pm.1, p1.1]; omega, by rw [q1.2.1, pm.2.1], by rw [q1.2.2.1, pm.2.2.1, p1.2.2.1], by rw [q1.2.2.2.1, pm.2.2.2.1, p1.2.2.2.1], by rw [q1.2.2.2.2.1, pm.2.2.2.2.1, p1.2.2.2.2.1], ⟨⟨?_, ?_⟩, epa, by rw [q1.2.2.2.2.2.2.1, pm.2.2.2.2.2.2.1]⟩, fun _ => by rw [q1.2.2.2.2.2.2.2, pm.2.2.2.2.2.2.2, p1.2.2.2.2.2.2.2]⟩
    ·rw [pm.2.2.2.2.2.1]
     have := Int.mul_nonneg u0 (show (0 : Int) <= ((m + 1 : Nat) : Int) + 1 by omega)
     omega
    ·rw [pm.2.2.2.2.2.2.1]; exact Int.le_refl _
   have fe := (L.fare g.trf).2 rfl
   have f1 : mFare t l (pcS t l s 1) <= mFare t l (pcS t l (pcS t l s 1) ((m : Int) + 1)) := by
    refine fare_le g (by rw [q1.2.1, p1.2.1]) (by rw [q1.2.2.2.1]) (by rw [q1.2.2.2.2.1]) nn1 ?_
    rw [q1.2.2.2.2.2.1]
    have := Int.mul_nonneg u0 (show (0 : Int) <= (m : Int) + 1 by omega)
    omega
   by_cases c1 : 1000000000 < mFare t l (rdS t l s 1)
   ·rw [sq_8 e c1]
    rw [rd_one hr] at c1
    exact ⟨fun _ => rfl, fun c => absurd c (by omega)⟩
   ·rw [sq_s e c1, rd_one hr]
    refine ⟨fun c => ih.1 (by omega), fun c => ?_⟩
    have w := ih.2 (by omega)
    exact ⟨w.1, Lk.tr L w.2⟩
theorem tkF_tk : ∀ (f : Nat) (s : Mc) (n : Int), 0 <= s.tk -> 0 <= (tkF t l f s n).1.tk
 | 0, s, n, h => h
 | f + 1, s, n, h => by
  unfold tkF
  by_cases q : 0 < n
  ·rw [decide_eq_true q]
   have b := rdK_bd (t := t) (l := l) (s := s) q
   have r : (rdS t l s n).tk = s.tk + rdK t l s n := by rw [rdS_eq]
   by_cases e : rdE t l s = 0
   ·rw [e]
    by_cases c : 1000000000 < mFare t l (rdS t l s n)
    ·rw [decide_eq_true c]; show 0 <= (rdS t l s n).tk; omega
    ·rw [decide_eq_false c]; exact tkF_tk f _ _ (by omega)
   ·rw [decide_eq_false e]; exact h
  ·rw [decide_eq_false q]; exact h
theorem tk_sqF (g : Gd t l) : ∀ (f : Nat) (s : Mc) (n : Int), n <= f -> 0 <= s.pa -> 0 <= s.si -> 0 <= s.tk ->
  (tkF t l f s n).2 = (sqF t l n.toNat s).2 /\ ((tkF t l f s n).2 = 0 -> Lk (lkId (t := t) (l' := l) (gd_head g.al).1 rfl rfl rfl) (sqF t l n.toNat s).1 (tkF t l f s n).1)
 | 0, s, n, h, hp, hs, hk => by rw [show n.toNat = 0 by omega]; exact ⟨rfl, fun _ => lk_refl hp hs⟩
 | f + 1, s, n, h, hp, hs, hk => by
  have gh := gd_head g.al
  unfold tkF
  by_cases q : 0 < n
  ·rw [decide_eq_true q]
   obtain ⟨m, hm⟩ : ∃ m : Nat, n.toNat = m + 1 := ⟨n.toNat - 1, by omega⟩
   by_cases e : rdE t l s = 0
   ·rw [e]
    have b := rdK_bd (t := t) (l := l) (s := s) q
    cases hr : rnB s with
    | false =>
     have r3 := rdS_3 (t := t) (l := l) (s := s) (n := n) hr
     have r3' := r3.2
     rw [nt_eq, nta_f hr] at r3'
     have ff : mFare t l (rdS t l s n) = mFare t l s := by rw [r3']; exact fare_eq rfl rfl rfl rfl
     have so := sq_off g m s hr hp
     rw [hm, ff]
     by_cases c : 1000000000 < mFare t l s
     ·rw [decide_eq_true c]; exact ⟨(so.1 c).symm, fun h => (by cases h)⟩
     ·rw [decide_eq_false c, r3.1]
      have so2 := so.2 c
      have ih := tk_sqF g f (rdS t l s n) (n - n) (by omega) (by rw [r3']; exact hp) (by rw [r3']; exact Int.le_refl _) (by rw [r3']; show 0 <= s.tk + n; omega)
      rw [show (n - n).toNat = 0 by omega] at ih
      show (tkF t l f (rdS t l s n) (n - n)).2 = _ /\ ((tkF t l f (rdS t l s n) (n - n)).2 = 0 -> Lk _ _ (tkF t l f (rdS t l s n) (n - n)).1)
      refine ⟨ih.1.trans so2.1.symm, fun z => ?_⟩
      have w := ih.2 z
      refine Lk.tr ?_ w
      refine Lk.tr so2.2.symm ?_
      show Lk _ _ (rdS t l s n)
      rw [r3']
      exact ⟨by show s.tk + n = s.tk + ((m : Int) + 1); omega, rfl, rfl, rfl, rfl, ⟨⟨hp, Int.le_refl _⟩, rfl, rfl⟩, fun _ => rfl⟩
    | true =>
     have he : mrE t l s = 0 := (rdE_t hr).symm.trans e
     have hR := mr_rule g.trf he
     by_cases hz : 0 < s.si
     ·have r1 := rdS_1 (t := t) (l := l) (n := n) hr hz
      have ro : rdS t l s n = rdS t l s 1 := by rw [r1.2, (rdS_1 (n := 1) hr hz).2]
      have p1 := pc_eq (t := t) (l := l) hr 1
      have nb := cb_nn (l := l) (ps := s.ps) (tk := 1) hR gh.1 hs
      rw [hm, ro, r1.1]
      by_cases c : 1000000000 < mFare t l (rdS t l s 1)
      ·rw [decide_eq_true c, sq_8 e c]; exact ⟨rfl, fun h => (by cases h)⟩
      ·rw [decide_eq_false c, sq_s e c]
       have ih := tk_sqF g f (rdS t l s 1) (n - 1) (by omega) (by rw [rd_one hr, p1.2.2.2.2.2.1]; omega) (by rw [rd_one hr, p1.2.2.2.2.2.2.1]; exact Int.le_refl _) (by rw [rd_one hr, p1.1]; omega)
       rw [show (n - 1).toNat = m by omega] at ih
       exact ih
     ·have hz0 : s.si = 0 := by omega
      have r2 := rdS_2 (t := t) (l := l) (n := n) hr hz
      have kb : 1 <= stdQ t l s := by unfold stdQ; exact std_ge _ _
      obtain ⟨j, hj⟩ : ∃ j : Nat, min n (stdQ t l s) = (j : Int) + 1 := ⟨(min n (stdQ t l s)).toNat - 1, by omega⟩
      have rp : rdS t l s n = pcS t l s ((j : Int) + 1) := by rw [r2.2, hj]; rfl
      have sr := sq_run g j s hr hz0 hp hk he (by omega)
      have pj := pc_eq (t := t) (l := l) hr ((j : Int) + 1)
      have nb := cb_nn (l := l) (ps := s.ps) (tk := (j : Int) + 1) hR gh.1 hs
      rw [show n.toNat = (j + 1) + (n - ((j : Int) + 1)).toNat by omega, sq_add, rp, r2.1, hj]
      by_cases c : 1000000000 < mFare t l (pcS t l s ((j : Int) + 1))
      ·rw [decide_eq_true c, sr.1 c]; exact ⟨(sr.1 c).symm, fun h => (by cases h)⟩
      ·rw [decide_eq_false c]
       have sr2 := sr.2 c
       rw [sr2.1]
       have ih := tk_sqF g f (pcS t l s ((j : Int) + 1)) (n - ((j : Int) + 1)) (by omega) (by rw [pj.2.2.2.2.2.1]; omega) (by rw [pj.2.2.2.2.2.2.1]; exact Int.le_refl _) (by rw [pj.1]; omega)
       have sq := Lk.sq g.trf (n - ((j : Int) + 1)).toNat sr2.2
       show (tkF t l f (pcS t l s ((j : Int) + 1)) (n - ((j : Int) + 1))).2 = (sqF t l (n - ((j : Int) + 1)).toNat (sqF t l (j + 1) s).1).2 /\ ((tkF t l f (pcS t l s ((j : Int) + 1)) (n - ((j : Int) + 1))).2 = 0 -> Lk _ (sqF t l (n - ((j : Int) + 1)).toNat (sqF t l (j + 1) s).1).1 (tkF t l f (pcS t l s ((j : Int) + 1)) (n - ((j : Int) + 1))).1)
       refine ⟨ih.1.trans sq.1.symm, fun z => ?_⟩
       exact Lk.tr (sq.2 (ih.1.symm.trans z)).symm (ih.2 z)
   ·rw [decide_eq_false e, hm, sq_e e]; exact ⟨rfl, fun h => absurd h e⟩
  ·rw [decide_eq_false q, show n.toNat = 0 by omega]; exact ⟨rfl, fun _ => lk_refl hp hs⟩
theorem tk_sq (g : Gd t l) {s : Mc} {n : Int} (hp : 0 <= s.pa) (hs : 0 <= s.si) (hk : 0 <= s.tk) :
  tkE t l s n = (sqF t l n.toNat s).2 /\ (tkE t l s n = 0 -> Lk (lkId (t := t) (l' := l) (gd_head g.al).1 rfl rfl rfl) (sqF t l n.toNat s).1 (tkS t l s n)) := by
 unfold tkE tkS; exact tk_sqF g n.toNat s n (by omega) hp hs hk
end
open Go.Proofs
section
variable {t : Trf} {l : Log}
theorem ev_at0 {s : Mc} {i : Nat} {v : Ev} (hv : l.ev.getD i ev0 = v) (h0 : v.k = 0) : evS_ t l s i = { s with si := s.si + v.n, pu := s.pu + v.n } /\ (evF t l s i = 0 ↔ mFare t l s <= 1000000000) := by
 subst hv
 have w := evF_eq (evG_0 (t := t) (l := l) (s := s) (i := (i : Int)) h0)
 refine ⟨w.1, ?_⟩
 have f : mFare t l { s with si := s.si + (l.ev.getD i ev0).n, pu := s.pu + (l.ev.getD i ev0).n } = mFare t l s := fare_eq rfl rfl rfl rfl
 rw [w.2, f]
 by_cases c : mFare t l s <= 1000000000
 ·rw [decide_eq_true c]; exact ⟨fun _ => c, fun _ => rfl⟩
 ·rw [decide_eq_false c]; exact ⟨fun h => (by cases h), fun h => absurd h c⟩
theorem ev_at1 {s : Mc} {i : Nat} {v : Ev} (hv : l.ev.getD i ev0 = v) (h1 : v.k = 1) : evS_ t l s i = tkS t l s v.n /\ (evF t l s i = 0 ↔ tkE t l s v.n = 0 /\ mFare t l (tkS t l s v.n) <= 1000000000) := by
 subst hv
 have w := evF_eq (evG_1 (t := t) (l := l) (s := s) (i := (i : Int)) h1)
 refine ⟨w.1, ?_⟩
 rw [w.2]
 constructor
 ·intro h
  have z := firstS_zero h
  refine ⟨z _ (by simp), ?_⟩
  have z1 : isOk (decide (mFare t l (tkS t l s (l.ev.getD i ev0).n) <= 1000000000)) 8 = 0 := z _ (by simp [isOk])
  exact of_decide_eq_true (isOk_0 z1 (by decide))
 ·rintro ⟨a, b⟩
  rw [a, decide_eq_true b]; rfl
theorem tk_fare (g : Gd t l) {s : Mc} {n : Int} (hn : 0 < n) (hp : 0 <= s.pa) (hs : 0 <= s.si) (hk : 0 <= s.tk) (h : tkE t l s n = 0) : mFare t l (tkS t l s n) <= 1000000000 := by
 have w := tk_sq g (n := n) hp hs hk
 obtain ⟨m, hm⟩ : ∃ m : Nat, n.toNat = m + 1 := ⟨n.toNat - 1, by omega⟩
 have f := ((w.2 h).fare g.trf).2 rfl
 rw [f, hm]
 rw [hm] at w
 exact sq_fare m s (by rw [<- w.1]; exact h)
theorem tk_cut (g : Gd t l) {s : Mc} {a b : Int} (ha : 1 <= a) (hb : 1 <= b) (hp : 0 <= s.pa) (hs : 0 <= s.si) (hk : 0 <= s.tk) :
  (tkE t l s (a + b) = 0 ↔ tkE t l s a = 0 /\ tkE t l (tkS t l s a) b = 0) /\ (tkE t l s (a + b) = 0 -> Lk (lkId (t := t) (l' := l) (gd_head g.al).1 rfl rfl rfl) (tkS t l s (a + b)) (tkS t l (tkS t l s a) b)) := by
 have wa := tk_sq g (n := a) hp hs hk
 have wc := tk_sq g (n := a + b) hp hs hk
 have ea : sqF t l (a + b).toNat s = bif decide ((sqF t l a.toNat s).2 = 0) then sqF t l b.toNat (sqF t l a.toNat s).1 else sqF t l a.toNat s := by
  rw [show (a + b).toNat = a.toNat + b.toNat by omega]; exact sq_add _ _ _
 by_cases z : tkE t l s a = 0
 ·have La := wa.2 z
  have q := La.pq
  have k1 : 0 <= (tkS t l s a).tk := by
   obtain ⟨m, hm⟩ : ∃ m : Nat, a.toNat = m + 1 := ⟨a.toNat - 1, by omega⟩
   unfold tkS
   exact tkF_tk a.toNat s a hk
  have wb := tk_sq g (s := tkS t l s a) (n := b) (by omega) (by omega) k1
  have sq := Lk.sq g.trf b.toNat La
  rw [<- wa.1, z] at ea
  have ea : sqF t l (a + b).toNat s = sqF t l b.toNat (sqF t l a.toNat s).1 := ea
  rw [ea] at wc
  refine ⟨⟨fun h => ⟨z, by rw [wb.1, sq.1, <- wc.1]; exact h⟩, fun h => by rw [wc.1, <- sq.1, <- wb.1]; exact h.2⟩, fun h => ?_⟩
  have z2 : (sqF t l b.toNat (sqF t l a.toNat s).1).2 = 0 := by rw [<- wc.1]; exact h
  exact (wc.2 h).symm.trans ((sq.2 z2).trans (wb.2 (by rw [wb.1, sq.1]; exact z2)))
 ·rw [<- wa.1, decide_eq_false z] at ea
  have ea : sqF t l (a + b).toNat s = sqF t l a.toNat s := ea
  rw [ea, <- wa.1] at wc
  exact ⟨⟨fun h => absurd (wc.1.symm.trans h) z, fun h => absurd h.1 z⟩, fun h => absurd (wc.1.symm.trans h) z⟩
end
structure CutOf (l z : Log) (k : Nat) (a b : Int) : Prop where
 c : z.c = l.c
 d : z.d = l.d
 t : z.t = l.t
 hk : k < l.ev.length
 len : z.ev.length = l.ev.length + 1
 lo : ∀ j, j < k -> z.ev.getD j ev0 = l.ev.getD j ev0
 at0 : z.ev.getD k ev0 = ⟨(l.ev.getD k ev0).k, a⟩
 at1 : z.ev.getD (k + 1) ev0 = ⟨(l.ev.getD k ev0).k, b⟩
 hi : ∀ j, k < j -> j < l.ev.length -> z.ev.getD (j + 1) ev0 = l.ev.getD j ev0
 kd : (l.ev.getD k ev0).k = 0 \/ (l.ev.getD k ev0).k = 1
 n : (l.ev.getD k ev0).n = a + b
 ha : 1 <= a
 hb : 1 <= b
section
variable {t : Trf} {l z : Log}
def InvC (K : Lock t l z true) (j j' : Nat) : Prop :=
 (Lk K (mcN t l j) (mcN t z j') /\ (∀ i, i < j -> mcE t l i = 0) /\ (∀ i, i < j' -> mcE t z i = 0)) \/ ((∃ i, i < j /\ mcE t l i ≠ 0) /\ (∃ i, i < j' /\ mcE t z i ≠ 0))
theorem InvC.one {K : Lock t l z true} {j j' : Nat} (ht : trfE t = 0) (h : InvC K j j') (hk : (z.ev.getD j' ev0).k = (l.ev.getD j ev0).k) (hn : (l.ev.getD j ev0).k ≠ 0 -> (z.ev.getD j' ev0).n = (l.ev.getD j ev0).n)
  (hp : (l.ev.getD j ev0).k = 0 -> ∀ a b a' b', K.Q a b a' b' -> K.Q a (b + (l.ev.getD j ev0).n) a' (b' + (z.ev.getD j' ev0).n)) : InvC K (j + 1) (j' + 1) := by
 rcases h with ⟨L, h1, h2⟩ | ⟨⟨i, i1, i2⟩, ⟨i', k1, k2⟩⟩
 ·have w := L.ev ht j j' hk hn fun q => hp q _ _ _ _ L.q
  have e : mcE t z j' = mcE t l j := w.2.1 rfl
  by_cases c : mcE t l j = 0
  ·exact .inl ⟨w.2.2 c (e.trans c), all_lt h1 c, all_lt h2 (e.trans c)⟩
  ·exact .inr ⟨⟨j, by omega, c⟩, ⟨j', by omega, by rw [e]; exact c⟩⟩
 ·exact .inr ⟨⟨i, by omega, i2⟩, ⟨i', by omega, k2⟩⟩
theorem InvC.end_ {K : Lock t l z true} {j j' : Nat} (h : InvC K j j') : ((∀ i, i < j -> mcE t l i = 0) ↔ (∀ i, i < j' -> mcE t z i = 0)) /\ ((∀ i, i < j -> mcE t l i = 0) -> Lk K (mcN t l j) (mcN t z j')) := by
 rcases h with ⟨L, h1, h2⟩ | ⟨⟨i, i1, i2⟩, ⟨i', k1, k2⟩⟩
 ·exact ⟨⟨fun _ => h2, fun _ => h1⟩, fun _ => L⟩
 ·exact ⟨⟨fun h => absurd (h i i1) i2, fun h => absurd (h i' k1) k2⟩, fun h => absurd (h i i1) i2⟩
theorem InvC.cut {k : Nat} {a b : Int} (g : Gd t l) (g' : Gd t z) (C : CutOf l z k a b) (h : InvC (lkId (t := t) (gd_head g.al).1 C.c C.d C.t) k k) : InvC (lkId (t := t) (gd_head g.al).1 C.c C.d C.t) (k + 1) (k + 2) := by
 rcases h with ⟨L, h1, h2⟩ | ⟨⟨i, i1, i2⟩, ⟨i', k1, k2⟩⟩
 ·have mo := mcN_ok g k (by have := C.hk; omega)
  have mo' := mcN_ok g' k (by have := C.hk; have := C.len; omega)
  have p0 := mo.pa; have s0 := mo.si; have t0 := mo.tk
  have p1 := mo'.pa; have s1 := mo'.si; have t1 := mo'.tk
  have ha := C.ha; have hb := C.hb
  have key : ((mcE t l k = 0 ↔ mcE t z k = 0 /\ mcE t z (k + 1) = 0) /\ (mcE t l k = 0 -> Lk (lkId (t := t) (gd_head g.al).1 C.c C.d C.t) (mcN t l (k + 1)) (mcN t z (k + 2)))) := by
   show (evF t l (mcN t l k) k = 0 ↔ evF t z (mcN t z k) k = 0 /\ evF t z (evS_ t z (mcN t z k) k) (k + 1) = 0) /\ (evF t l (mcN t l k) k = 0 -> Lk _ (evS_ t l (mcN t l k) k) (evS_ t z (evS_ t z (mcN t z k) k) (k + 1)))
   generalize mcN t l k = s at *
   generalize mcN t z k = s' at *
   rcases C.kd with q | q
   ·have e0 := ev_at0 (t := t) (s := s) rfl q
    have e1 := ev_at0 (t := t) (s := s') C.at0 q
    have e2 := ev_at0 (t := t) (s := evS_ t z s' k) C.at1 q
    have f := (L.fare g.trf).2 rfl
    have f2 : mFare t z (evS_ t z s' k) = mFare t z s' := by rw [e1.1]; exact fare_eq rfl rfl rfl rfl
    rw [f2] at e2
    refine ⟨by rw [e0.2, e1.2, e2.2, f]; exact ⟨fun h => ⟨h, h⟩, fun h => h.1⟩, fun _ => ?_⟩
    rw [e2.1, e1.1, e0.1]
    refine ⟨L.tk, L.ps, L.zn, L.st, L.ex, ?_, L.fa⟩
    have w := L.pq
    show (0 <= s.pa /\ 0 <= s.si + (l.ev.getD k ev0).n) /\ s'.pa = s.pa /\ s'.si + a + b = s.si + (l.ev.getD k ev0).n
    have := C.n
    omega
   ·have e0 := ev_at1 (t := t) (s := s) rfl q
    have e1 : evS_ t z s' k = tkS t z s' a /\ (evF t z s' k = 0 ↔ tkE t z s' a = 0 /\ mFare t z (tkS t z s' a) <= 1000000000) := ev_at1 (t := t) (s := s') C.at0 q
    have e2 : evS_ t z (evS_ t z s' k) (k + 1) = tkS t z (evS_ t z s' k) b /\ (evF t z (evS_ t z s' k) (k + 1) = 0 ↔ tkE t z (evS_ t z s' k) b = 0 /\ mFare t z (tkS t z (evS_ t z s' k) b) <= 1000000000) := ev_at1 (t := t) (s := evS_ t z s' k) C.at1 q
    have n := C.n
    have w := Lk.tkF g.trf (l.ev.getD k ev0).n.toNat (l.ev.getD k ev0).n L
    have wE : tkE t z s' (l.ev.getD k ev0).n = tkE t l s (l.ev.getD k ev0).n := by unfold tkE; exact w.2.1 rfl
    have wL : tkE t l s (l.ev.getD k ev0).n = 0 -> Lk (lkId (t := t) (gd_head g.al).1 C.c C.d C.t) (tkS t l s (l.ev.getD k ev0).n) (tkS t z s' (l.ev.getD k ev0).n) := by
     intro h
     have h' := wE.trans h
     unfold tkE at h h'
     unfold tkS
     exact w.2.2 h h'
    have tc := tk_cut g' (s := s') ha hb p1.1 s1.1 t1.1
    rw [n] at e0 wE wL
    rw [e1.1] at e2
    have F := tk_fare g (s := s) (n := a + b) (by omega) p0.1 s0.1 t0.1
    have Fa := tk_fare g' (s := s') (n := a) (by omega) p1.1 s1.1 t1.1
    have E1 : evF t l s k = 0 ↔ tkE t l s (a + b) = 0 := e0.2.trans ⟨fun h => h.1, fun h => ⟨h, F h⟩⟩
    have E2 : evF t z s' k = 0 ↔ tkE t z s' a = 0 := e1.2.trans ⟨fun h => h.1, fun h => ⟨h, Fa h⟩⟩
    have E3 : tkE t z s' a = 0 -> (evF t z (tkS t z s' a) (k + 1) = 0 ↔ tkE t z (tkS t z s' a) b = 0) := fun h => by
     have La := (tk_sq g' (n := a) p1.1 s1.1 t1.1).2 h
     have q := La.pq
     have k1 : 0 <= (tkS t z s' a).tk := by unfold tkS; exact tkF_tk a.toNat s' a t1.1
     exact e2.2.trans ⟨fun h => h.1, fun h => ⟨h, tk_fare g' (by omega) (by omega) (by omega) k1 h⟩⟩
    rw [e1.1, e2.1, e0.1]
    constructor
    ·rw [E1, <- wE, tc.1]
     exact ⟨fun h => ⟨E2.2 h.1, (E3 h.1).2 h.2⟩, fun h => ⟨E2.1 h.1, (E3 (E2.1 h.1)).1 h.2⟩⟩
    ·intro h
     have h := E1.1 h
     exact (wL h).trans (tc.2 (wE.trans h))
  by_cases c : mcE t l k = 0
  ·have d := key.1.1 c
   exact .inl ⟨key.2 c, all_lt h1 c, all_lt (all_lt h2 d.1) d.2⟩
  ·refine .inr ⟨⟨k, by omega, c⟩, ?_⟩
   by_cases d : mcE t z k = 0
   ·exact ⟨k + 1, by omega, fun e => c (key.1.2 ⟨d, e⟩)⟩
   ·exact ⟨k, by omega, d⟩
 ·exact .inr ⟨⟨i, by omega, i2⟩, ⟨i', by omega, k2⟩⟩
theorem id_add {K : Prop} {l z : Log} {hc : 1 <= l.c /\ l.c <= 100000} {h1 : z.c = l.c} {h2 : z.d = l.d} {h3 : z.t = l.t} {a b a' b' n : Int} (hn : 0 <= n) (h : (lkId (t := t) hc h1 h2 h3).Q a b a' b') : (lkId (t := t) hc h1 h2 h3).Q a (b + n) a' (b' + n) := by
 have h : (0 <= a /\ 0 <= b) /\ a' = a /\ b' = b := h
 show (0 <= a /\ 0 <= b + n) /\ a' = a /\ b' + n = b + n
 omega
theorem CutOf.inv {k : Nat} {a b : Int} (g : Gd t l) (g' : Gd t z) (C : CutOf l z k a b) : InvC (lkId (t := t) (gd_head g.al).1 C.c C.d C.t) l.ev.length z.ev.length := by
 have gh := gd_head g.al
 have nn : ∀ j, j < l.ev.length -> 0 <= (l.ev.getD j ev0).n := fun j hj => (ev_ok (gh.2.2.2.2 j hj)).2.2.2.2.1
 have A : ∀ j, j <= k -> InvC (lkId (t := t) gh.1 C.c C.d C.t) j j := by
  intro j
  induction j with
  | zero => exact fun _ => .inl ⟨lk_refl (by simp [mcN, mc0]) (by simp [mcN, mc0]), fun i hi => absurd hi (Nat.not_lt_zero i), fun i hi => absurd hi (Nat.not_lt_zero i)⟩
  | succ j ih =>
   intro hj
   have e := C.lo j (by omega)
   exact (ih (by omega)).one g.trf (by rw [e]) (fun _ => by rw [e]) fun _ a b a' b' h => by rw [e]; exact id_add (K := True) (nn j (by have := C.hk; omega)) h
 have B := (A k (Nat.le_refl k)).cut g g' C
 have D : ∀ m, k + 1 + m <= l.ev.length -> InvC (lkId (t := t) gh.1 C.c C.d C.t) (k + 1 + m) (k + 2 + m) := by
  intro m
  induction m with
  | zero => exact fun _ => B
  | succ m ih =>
   intro hm
   have e := C.hi (k + 1 + m) (by omega) (by omega)
   rw [show k + 1 + m + 1 = k + 2 + m by omega] at e
   exact InvC.one (j := k + 1 + m) (j' := k + 2 + m) g.trf (ih (by omega)) (by rw [e]) (fun _ => by rw [e]) fun _ a b a' b' h => by rw [e]; exact id_add (K := True) (nn _ (by omega)) h
 have hk := C.hk
 have hl := C.len
 have w := D (l.ev.length - (k + 1)) (by omega)
 rw [show k + 1 + (l.ev.length - (k + 1)) = l.ev.length by omega, show k + 2 + (l.ev.length - (k + 1)) = z.ev.length by omega] at w
 exact w
def puN (l : Log) : Nat -> Int
 | 0 => 0
 | i + 1 => puN l i + (bif (l.ev.getD i ev0).k == 0 then (l.ev.getD i ev0).n else 0)
theorem po_pu {s : Mc} {i p : Int} : (poS t l s i p).pu = s.pu := by
 have sm := ch_same t l s
 cases q : goB s.ps p with
 | false => rw [(po_no (t := t) (l := l) (i := i) q).2]
 | true =>
  by_cases e : chE_ t l s = 0
  ·by_cases h0 : s.ps = 0
   ·by_cases r : mrE t l (chS t l s) = 0
    ·rw [(po_bg q e h0 r).2]; exact sm.2.2.1
    ·rw [(po_bgE (i := i) q e h0 r).2]; exact sm.2.2.1
   ·by_cases hz : p = 0
    ·rw [(po_ed q e h0 hz).2]; exact sm.2.2.1
    ·rw [(po_mv (i := i) q e h0 hz).2]; exact sm.2.2.1
  ·rw [(po_ch (i := i) q e).2]; exact sm.2.2.1
theorem mx_pu {s : Mc} {n : Int} : (mxU t s n).pu = s.pu := by unfold mxU; cases decide (mxE t s n = 0) <;> rfl
theorem ev_pu {s : Mc} {i : Nat} : (evS_ t l s i).pu = s.pu + (bif (l.ev.getD i ev0).k == 0 then (l.ev.getD i ev0).n else 0) := by
 rw [evS_eq]
 generalize l.ev.getD i ev0 = v
 by_cases q0 : v.k = 0
 ·rw [(evG_0 q0).1, q0]; rfl
 rw [show (v.k == 0) = false by simp [q0]]
 show _ = s.pu + 0
 rw [Int.add_zero]
 by_cases q1 : v.k = 1
 ·rw [(evG_1 q1).1]; exact (tk_same t l s v.n).pu
 by_cases q2 : v.k = 2
 ·rw [(evG_2 q2).1]; exact po_pu
 by_cases q3 : v.k = 3
 ·by_cases z : v.n < t.zones.length
  ·rw [(evG_3 q3 z).1]; exact (ch_same t l s).2.2.1
  ·rw [(evG_3' q3 z).1]
 by_cases q4 : v.k = 4
 ·rw [(evG_4 q4).1]; exact mx_pu
 rw [(evG_5 q0 q1 q2 q3 q4).1]
theorem mcN_pu : ∀ k, (mcN t l k).pu = puN l k
 | 0 => rfl
 | k + 1 => by
  show (evS_ t l (mcN t l k) k).pu = _
  rw [ev_pu, mcN_pu k]; rfl
end
open Go.Proofs
structure SameM (s s' : Mc) : Prop where
 tk : s'.tk = s.tk
 pu : s'.pu = s.pu
 ps : s'.ps = s.ps
 zn : s'.zn = s.zn
 si : s'.si = s.si
 pa : s'.pa = s.pa
 st : s'.st = s.st
 ex : s'.ex = s.ex
 fa : s'.tr.map (·.fa) = s.tr.map (·.fa)
theorem SameM.refl (s : Mc) : SameM s s := ⟨rfl, rfl, rfl, rfl, rfl, rfl, rfl, rfl, rfl⟩
theorem SameM.symm {a b : Mc} (h : SameM a b) : SameM b a := ⟨h.tk.symm, h.pu.symm, h.ps.symm, h.zn.symm, h.si.symm, h.pa.symm, h.st.symm, h.ex.symm, h.fa.symm⟩
theorem SameM.trans {a b c : Mc} (h : SameM a b) (k : SameM b c) : SameM a c := ⟨k.tk.trans h.tk, k.pu.trans h.pu, k.ps.trans h.ps, k.zn.trans h.zn, k.si.trans h.si, k.pa.trans h.pa, k.st.trans h.st, k.ex.trans h.ex, k.fa.trans h.fa⟩
theorem SameM.fare {t : Trf} {l z : Log} (hc : z.c = l.c) {s s' : Mc} (h : SameM s s') : mFare t z s' = mFare t l s /\ stpZ t z s' = stpZ t l s := by
 unfold stpZ mFare mStp
 rw [hc, h.ps, h.st, h.ex, h.pa]; exact ⟨rfl, rfl⟩
theorem CutOf.pu {l z : Log} {k : Nat} {a b : Int} (C : CutOf l z k a b) : puN z z.ev.length = puN l l.ev.length := by
 have A : ∀ j, j <= k -> puN z j = puN l j := by
  intro j
  induction j with
  | zero => exact fun _ => rfl
  | succ j ih => intro hj; simp only [puN]; rw [ih (by omega), C.lo j (by omega)]
 have B : puN z (k + 2) = puN l (k + 1) := by
  simp only [puN]
  rw [A k (Nat.le_refl k), C.at0, C.at1, C.n]
  show puN l k + (bif (l.ev.getD k ev0).k == 0 then a else 0) + (bif (l.ev.getD k ev0).k == 0 then b else 0) = _
  cases (l.ev.getD k ev0).k == 0
  ·show puN l k + 0 + 0 = puN l k + 0; omega
  ·show puN l k + a + b = puN l k + (a + b); omega
 have D : ∀ m, k + 1 + m <= l.ev.length -> puN z (k + 2 + m) = puN l (k + 1 + m) := by
  intro m
  induction m with
  | zero => exact fun _ => B
  | succ m ih =>
   intro hm
   have e := C.hi (k + 1 + m) (by omega) (by omega)
   rw [show k + 1 + m + 1 = k + 2 + m by omega] at e
   rw [show k + 2 + (m + 1) = (k + 2 + m) + 1 by omega, show k + 1 + (m + 1) = (k + 1 + m) + 1 by omega]
   simp only [puN]
   rw [ih (by omega), e]
 have hk := C.hk
 have w := D (l.ev.length - (k + 1)) (by omega)
 rw [show k + 2 + (l.ev.length - (k + 1)) = z.ev.length by have := C.len; omega, show k + 1 + (l.ev.length - (k + 1)) = l.ev.length by omega] at w
 exact w
theorem rn_iff0 {t : Trf} {l : Log} (g : Gd t l) : rnE t l = 0 ↔ ∀ j, j < l.ev.length -> mcE t l j = 0 :=
 ⟨fun h => (rn_gd g.ok h).2, fun h => (rn_ok g.trf g.al h).1⟩
theorem CutOf.same {t : Trf} {l z : Log} {k : Nat} {a b : Int} (g : Gd t l) (g' : Gd t z) (C : CutOf l z k a b) :
  (rnE t l = 0 ↔ rnE t z = 0) /\ (rnE t l = 0 -> SameM (mcN t l l.ev.length) (mcN t z z.ev.length)) := by
 have w := (C.inv g g').end_
 rw [rn_iff0 g, rn_iff0 g']
 refine ⟨w.1, fun h => ?_⟩
 have L := w.2 h
 have q := L.pq
 exact ⟨L.tk, by rw [mcN_pu, mcN_pu, C.pu], L.ps, L.zn, q.2.2, q.2.1, L.st, L.ex, L.fa rfl⟩
open Go.Proofs Go.RowKit
structure Cnt where
 r : Int
 p : Int
 s : Int
def cnt0 : Cnt := ⟨0, 0, 0⟩
def wOf (t : Trf) (c : Int) (x : Cnt) : Int := 1000 * (t.rules.getD x.r.toNat rul0).me * x.p + c * (t.rules.getD x.r.toNat rul0).se * x.s
def befC (l : List Cnt) (i : Nat) : Int := match i with | 0 => -1 | i + 1 => (l.getD i cnt0).r
@[irreducible] def cntE (t : Trf) (l : List Cnt) (i : Nat) : Int := firstS [isOk (inB (l.getD i cnt0).r 0 (t.rules.length - 1)) 6, isOk (decide (befC l i < (l.getD i cnt0).r)) 9, isOk (bif inB (l.getD i cnt0).p 0 20000000 then inB (l.getD i cnt0).s 0 1000000 else false) 2]
def accW (t : Trf) (c : Int) (l : List Cnt) : Nat -> Int
 | 0 => 0
 | i + 1 => accW t c l i + wOf t c (l.getD i cnt0)
def stepH (t : Trf) (c : Int) (n : Nat) : Int := firstS [trfE t, isOk (inB c 1 100000) 2, isOk (decide ((n : Int) <= 12)) 8]
@[irreducible] def stepE (t : Trf) (c : Int) (l : List Cnt) : Int := bif decide (stepH t c l.length = 0) then scanE (cntE t l) (List.range l.length) else stepH t c l.length
@[irreducible] def stepN (t : Trf) (c : Int) (l : List Cnt) : Int := bif decide (stepE t c l = 0) then (accW t c l l.length).tdiv (t.unit * c) else 0
structure COk (t : Trf) (c : Int) (x : Cnt) : Prop where
 r : 0 <= x.r /\ x.r < t.rules.length
 m1 : 0 <= 1000 * (t.rules.getD x.r.toNat rul0).me /\ 1000 * (t.rules.getD x.r.toNat rul0).me <= 1000000000
 m2 : 0 <= 1000 * (t.rules.getD x.r.toNat rul0).me * x.p /\ 1000 * (t.rules.getD x.r.toNat rul0).me * x.p <= 1000000000 * 20000000
 s1 : 0 <= c * (t.rules.getD x.r.toNat rul0).se /\ c * (t.rules.getD x.r.toNat rul0).se <= 100000 * 1000000
 s2 : 0 <= c * (t.rules.getD x.r.toNat rul0).se * x.s /\ c * (t.rules.getD x.r.toNat rul0).se * x.s <= 100000 * 1000000 * 1000000
section
variable {W0 : World} {G : Nat -> Option AV} (hX : (Xc W0 G).Good)
include hX
end
open Go.Proofs
def inT (j : Int) (p : Pc) : Bool := bif p.tr == j then p.ps != 0 else false
def rlP (p : Pc) : Nat := (max 0 p.ru).toNat
def vP (t : Trf) (l : Log) (p : Pc) : Int := bif p.ps == 3 then 0 else bif p.tm then l.c * (ruA t p.ru).se * p.tk else 1000 * (ruA t p.ru).me * (p.pu * max 1 p.tk)
def suV (t : Trf) (l : Log) (j : Int) (q : List Pc) : Nat -> Int
 | 0 => 0
 | i + 1 => suV t l j q i + (bif inT j (q.getD i pc0) then vP t l (q.getD i pc0) else 0)
def suQ (q : List Pc) : Nat -> Int
 | 0 => 0
 | i + 1 => suQ q i + (q.getD i pc0).pu * max 1 (q.getD i pc0).tk
def suT (q : List Pc) : Nat -> Int
 | 0 => 0
 | i + 1 => suT q i + (q.getD i pc0).tk
section
variable {t : Trf} {l : Log} {q : List Pc} {j : Int}
structure PcO (t : Trf) (n : Int) (p : Pc) : Prop where
 tr : p.tr <= n
 tk : 0 <= p.tk
 pu : 0 <= p.pu
 ru : p.ps ≠ 0 -> rlP p < t.rules.length
end
structure TrO (t : Trf) (l : Log) (q : List Pc) (j : Nat) (x : Mtp) : Prop where
 sp : x.sp = (suV t l j q q.length).tdiv (t.unit * l.c)
 sp0 : 0 <= x.sp
 exl : x.ex.length = t.extras.length
 ex : ∀ i, 0 <= x.ex.getD i 0 /\ x.ex.getD i 0 <= 20
 st : 0 <= x.st /\ x.st <= 100000
 fa : x.fa = x.st + mxA t x.ex x.ex.length + (bif decide (0 < t.step) then x.sp * t.step else 0)
 fb : 0 <= x.fa /\ x.fa <= 1000000000
structure Iv (t : Trf) (l : Log) (s : Mc) : Prop where
 pk : ∀ i, i < s.pc.length -> PcO t s.tr.length (s.pc.getD i pc0)
 qq : suQ s.pc s.pc.length <= s.pu - s.si
 tt : suT s.pc s.pc.length <= s.tk
 pa : s.ps ≠ 0 -> suV t l s.tr.length s.pc s.pc.length = s.pa
 fr : s.ps = 0 -> ∀ i, i < s.pc.length -> inT s.tr.length (s.pc.getD i pc0) = false
 rl : s.ps ≠ 0 -> 0 < t.rules.length
 tr : ∀ j, j < s.tr.length -> TrO t l s.pc j (s.tr.getD j mtp0)
theorem suV_ext {t : Trf} {l : Log} {j : Int} {q : List Pc} {p : Pc} : ∀ i, i <= q.length -> suV t l j (q ++ [p]) i = suV t l j q i
 | 0, _ => rfl
 | i + 1, hi => by
  simp only [suV]
  rw [suV_ext i (by omega)]
  simp only [List.getD_eq_getElem?_getD]
  rw [List.getElem?_append_left (by omega)]
theorem suV_push {t : Trf} {l : Log} {j : Int} {q : List Pc} {p : Pc} : suV t l j (q ++ [p]) (q ++ [p]).length = suV t l j q q.length + (bif inT j p then vP t l p else 0) := by
 rw [show (q ++ [p]).length = q.length + 1 by simp]
 simp only [suV]
 rw [suV_ext _ (Nat.le_refl _)]
 simp [List.getD_eq_getElem?_getD]
theorem suQ_push {q : List Pc} {p : Pc} : suQ (q ++ [p]) (q ++ [p]).length = suQ q q.length + p.pu * max 1 p.tk := by
 have e : ∀ i, i <= q.length -> suQ (q ++ [p]) i = suQ q i := by
  intro i
  induction i with
  | zero => exact fun _ => rfl
  | succ i ih => intro hi; simp only [suQ]; rw [ih (by omega)]; simp only [List.getD_eq_getElem?_getD]; rw [List.getElem?_append_left (by omega)]
 rw [show (q ++ [p]).length = q.length + 1 by simp]
 simp only [suQ]
 rw [e _ (Nat.le_refl _)]
 simp [List.getD_eq_getElem?_getD]
theorem suT_push {q : List Pc} {p : Pc} : suT (q ++ [p]) (q ++ [p]).length = suT q q.length + p.tk := by
 have e : ∀ i, i <= q.length -> suT (q ++ [p]) i = suT q i := by
  intro i
  induction i with
  | zero => exact fun _ => rfl
  | succ i ih => intro hi; simp only [suT]; rw [ih (by omega)]; simp only [List.getD_eq_getElem?_getD]; rw [List.getElem?_append_left (by omega)]
 rw [show (q ++ [p]).length = q.length + 1 by simp]
 simp only [suT]
 rw [e _ (Nat.le_refl _)]
 simp [List.getD_eq_getElem?_getD]
theorem pc_last {q : List Pc} {p : Pc} : ∀ i, i < (q ++ [p]).length -> i < q.length /\ (q ++ [p]).getD i pc0 = q.getD i pc0 \/ (q ++ [p]).getD i pc0 = p := fun i hi => by
 simp only [List.length_append, List.length_cons, List.length_nil] at hi
 rcases Nat.lt_or_ge i q.length with c | c
 ·left; refine ⟨c, ?_⟩; simp only [List.getD_eq_getElem?_getD]; rw [List.getElem?_append_left c]
 ·right; obtain rfl : i = q.length := by omega
  simp [List.getD_eq_getElem?_getD]
theorem iv_note {t : Trf} {l : Log} {s s' : Mc} {p : Pc} (h : Iv t l s) (hpc : s'.pc = s.pc ++ [p]) (hp : PcO t s.tr.length p) (htr : s'.tr = s.tr) (hps : s'.ps = s.ps) (p1 : p.tr = s.tr.length) (p2 : p.ps = s.ps)
  (hq : suQ s.pc s.pc.length + p.pu * max 1 p.tk <= s'.pu - s'.si) (ht : suT s.pc s.pc.length + p.tk <= s'.tk) (hv : s.ps ≠ 0 -> s'.pa = s.pa + vP t l p) : Iv t l s' := by
 have i0 : s.ps ≠ 0 -> inT s.tr.length p = true := fun h0 => by unfold inT; rw [p1, p2, beq_self_eq_true, bne_iff_ne.2 h0]; rfl
 refine ⟨?_, ?_, ?_, ?_, ?_, ?_, ?_⟩
 ·rw [hpc, htr]; intro i hi
  rcases pc_last i hi with ⟨c, e⟩ | e
  ·rw [e]; exact h.pk i c
  ·rw [e]; exact hp
 ·rw [hpc, suQ_push]; exact hq
 ·rw [hpc, suT_push]; exact ht
 ·rw [hpc, htr, hps]; intro h0; rw [suV_push, h.pa h0, i0 h0, hv h0]; rfl
 ·rw [hpc, htr, hps]; intro h0 i hi
  rcases pc_last i hi with ⟨c, e⟩ | e
  ·rw [e]; exact h.fr h0 i c
  ·rw [e]; unfold inT; rw [p2, h0]; cases p.tr == (s.tr.length : Int) <;> rfl
 ·rw [hps]; exact h.rl
 ·rw [hpc, htr]; intro j hj
  have w := h.tr j hj
  refine ⟨?_, w.sp0, w.exl, w.ex, w.st, w.fa, w.fb⟩
  rw [suV_push, show inT (j : Int) p = false by unfold inT; rw [p1, beq_false_of_ne (by omega)]; rfl]
  show _ = ((_ + (0 : Int))).tdiv _
  rw [Int.add_zero]; exact w.sp
theorem vP_nt {t : Trf} {l : Log} {s : Mc} {ru pu tk : Int} (h0 : s.ps ≠ 0) (h3 : 0 <= s.ps /\ s.ps <= 3) (htk : 0 <= tk) : ntA t l s ru pu tk = s.pa + vP t l (ntP t l s ru pu tk) := by
 unfold ntA vP ntP
 cases hr : rnB s with
 | false =>
  have e3 : s.ps = 3 := by
   have hn : ¬ (s.ps = 1 \/ s.ps = 2) := fun e => by rw [rn_iff.2 e] at hr; cases hr
   omega
  show s.pa = s.pa + (bif s.ps == 3 then 0 else _)
  rw [e3]; show s.pa = s.pa + 0; omega
 | true =>
  have e := rn_iff.1 hr
  show s.pa + (bif tmB t l s ru pu tk then scnQ t l ru else dstQ t ru pu) * max 1 tk = s.pa + (bif s.ps == 3 then 0 else bif tmB t l s ru pu tk then l.c * (ruA t ru).se * tk else 1000 * (ruA t ru).me * (pu * max 1 tk))
  rw [beq_false_of_ne (show s.ps ≠ 3 by omega)]
  cases ht : tmB t l s ru pu tk with
  | false => show s.pa + dstQ t ru pu * max 1 tk = s.pa + 1000 * (ruA t ru).me * (pu * max 1 tk); unfold dstQ; rw [Int.mul_assoc]
  | true =>
   have k : 0 < tk := by
    unfold tmB at ht
    have a := (and_t ht).1
    exact of_decide_eq_true (and_t a).1
   show s.pa + scnQ t l ru * max 1 tk = s.pa + l.c * (ruA t ru).se * tk
   rw [show max 1 tk = tk by omega]; rfl
open Go.Proofs
section
variable {t : Trf} {l : Log}
theorem iv0 : Iv t l mc0 := by
 refine ⟨fun i hi => ?_, Int.le_refl _, Int.le_refl _, fun h => absurd rfl h, fun _ i hi => ?_, fun h => absurd rfl h, fun j hj => ?_⟩
 ·exact absurd hi (Nat.not_lt_zero i)
 ·exact absurd hi (Nat.not_lt_zero i)
 ·exact absurd hj (Nat.not_lt_zero j)
theorem iv_ch {s : Mc} (hm : Hm t l s) (h : Iv t l s) (he : chE_ t l s = 0) : Iv t l (chS t l s) := by
 have si := hm.m.si
 cases q : chgB s with
 | false =>
  rw [chS_f q]
  exact ⟨h.pk, by have := h.qq; show suQ s.pc s.pc.length <= s.pu - 0; omega, h.tt, h.pa, h.fr, h.rl, h.tr⟩
 | true =>
  rw [chE_t q] at he
  have hr := (chg_iff.1 q).1
  have e12 := rn_iff.1 hr
  have ru := mr_ok he
  rw [chS_t q he, nt_eq]
  refine iv_note (p := ntP t l s (mrN t l s) s.si 0) h rfl ⟨Int.le_refl _, Int.le_refl 0, si.1, fun _ => ?_⟩ rfl rfl rfl rfl ?_ ?_ fun h0 => vP_nt h0 hm.m.ps (Int.le_refl 0)
  ·show (max 0 (mrN t l s)).toNat < _; omega
  ·have := h.qq; show suQ s.pc s.pc.length + s.si * max 1 0 <= s.pu - 0; rw [show max (1 : Int) 0 = 1 from rfl, Int.mul_one]; omega
  ·have := h.tt; show suT s.pc s.pc.length + 0 <= s.tk; omega
theorem iv_rd {s : Mc} {n : Int} (hm : Hm t l s) (h : Iv t l s) (he : rdE t l s = 0) (hn : 0 < n) : Iv t l (rdS t l s n) := by
 have si := hm.m.si
 have b := rdK_bd (t := t) (l := l) (s := s) hn
 rw [rdS_eq, nt_eq]
 refine iv_note (p := ntP t l s (bif rnB s then mrN t l s else 0) (bif rnB s then s.si else 0) (rdK t l s n)) h rfl ⟨Int.le_refl _, by show 0 <= rdK t l s n; omega, ?_, fun h0 => ?_⟩ rfl rfl rfl rfl ?_ ?_ fun h0 => vP_nt h0 hm.m.ps (by omega)
 ·show 0 <= bif rnB s then s.si else 0
  cases rnB s
  ·exact Int.le_refl 0
  ·exact si.1
 ·show (max 0 (bif rnB s then mrN t l s else 0)).toNat < t.rules.length
  cases q : rnB s with
  | false => exact h.rl h0
  | true =>
   have ru := mr_ok ((rdE_t q).symm.trans he)
   show (max 0 (mrN t l s)).toNat < _; omega
 ·have := h.qq
  show suQ s.pc s.pc.length + (bif rnB s then s.si else 0) * max 1 (rdK t l s n) <= s.pu - 0
  cases q : rnB s with
  | false => show _ + 0 * _ <= _; rw [Int.zero_mul]; omega
  | true =>
   show suQ s.pc s.pc.length + s.si * max 1 (rdK t l s n) <= _
   by_cases k : 1 < rdK t l s n
   ·have z : s.si = 0 := by have := b.2.2 q k; omega
    rw [z, Int.zero_mul]; omega
   ·rw [show max 1 (rdK t l s n) = 1 by omega, Int.mul_one]; omega
 ·have := h.tt
  show suT s.pc s.pc.length + rdK t l s n <= s.tk + rdK t l s n; omega
theorem iv_tkF {k : Int} (g : Gd t l) (hk : k <= 201) : ∀ (f : Nat) (s : Mc) (n : Int), MOk t k s -> s.tk + n <= 3600 * k -> Iv t l s -> (tkF t l f s n).2 = 0 -> Iv t l (tkF t l f s n).1
 | 0, s, n, _, _, h, _ => h
 | f + 1, s, n, m, hn, h, h0 => by
  unfold tkF at h0 ⊢
  by_cases q : 0 < n
  ·rw [decide_eq_true q] at h0 ⊢
   by_cases e : rdE t l s = 0
   ·have w := rd_ok g m hk e q hn
    have b := rdK_bd (t := t) (l := l) (s := s) q
    have v := iv_rd (n := n) ⟨g, m.mono hk⟩ h e q
    rw [e] at h0 ⊢
    by_cases c : 1000000000 < mFare t l (rdS t l s n)
    ·rw [decide_eq_true c] at h0; cases h0
    ·rw [decide_eq_false c] at h0 ⊢
     exact iv_tkF g hk f _ _ w.1 (by rw [w.2]; omega) v h0
   ·rw [decide_eq_false e] at h0; exact absurd h0 e
  ·rw [decide_eq_false q]; exact h
theorem ex_same {s s' : Mc} (h : Iv t l s) (h1 : s'.pc = s.pc) (h2 : s'.tr = s.tr) (h3 : s'.pu = s.pu) (h4 : s'.si = s.si) (h5 : s'.tk = s.tk) (h6 : s'.ps = s.ps) (h7 : s'.pa = s.pa) : Iv t l s' := by
 refine ⟨?_, ?_, ?_, ?_, ?_, ?_, ?_⟩
 ·rw [h1, h2]; exact h.pk
 ·rw [h1, h3, h4]; exact h.qq
 ·rw [h1, h5]; exact h.tt
 ·rw [h1, h2, h6, h7]; exact h.pa
 ·rw [h1, h2, h6]; exact h.fr
 ·rw [h6]; exact h.rl
 ·rw [h1, h2]; exact h.tr
theorem fare_end {s : Mc} (hm : Hm t l s) (h0 : s.ps ≠ 0) (hf : mFare t l s <= 1000000000) : mFare t l s = s.st + mxA t s.ex s.ex.length + (bif decide (0 < t.step) then mStp t l s * t.step else 0) := by
 have n := hm.nums
 have st := hm.m.st
 have el := hm.m.exl h0
 have a := mxA_bd hm.g.trf hm.m.ex s.ex.length (by omega)
 by_cases hp : 0 < t.step
 ·rw [fare_1 h0 hp] at hf ⊢
  rw [decide_eq_true hp]
  have e : (1000000000 : Int).tdiv t.step = 1000000000 / t.step := Int.tdiv_eq_ediv_of_nonneg (by omega)
  by_cases c : mStp t l s <= (1000000000 : Int).tdiv t.step + 1
  ·rw [show min (mStp t l s) ((1000000000 : Int).tdiv t.step + 1) = mStp t l s by omega]; rfl
  ·exfalso
   rw [show min (mStp t l s) ((1000000000 : Int).tdiv t.step + 1) = (1000000000 : Int).tdiv t.step + 1 by omega, e] at hf
   have b := Int.lt_mul_ediv_self_add (x := 1000000000) hp
   rw [Int.add_mul, Int.one_mul, Int.mul_comm (1000000000 / t.step)] at hf
   omega
 ·rw [fare_2 h0 hp, decide_eq_false hp]; show _ = _ + (0 : Int); omega
theorem iv_po {s : Mc} {i p : Int} (hm : Hm t l s) (h : Iv t l s) (hf : mFare t l s <= 1000000000) (he : poE t l s i p = 0) : Iv t l (poS t l s i p) := by
 have sm := ch_same t l s
 cases q : goB s.ps p with
 | false => rw [(po_no (t := t) (l := l) (i := i) q).1] at he; cases he
 | true =>
  by_cases e : chE_ t l s = 0
  ·have c := iv_ch hm h e
   have hp := go_bd q
   by_cases h0 : s.ps = 0
   ·have p0 : p ≠ 0 := by
     unfold goB at q
     rw [show (s.ps == 0) = true by simp [h0]] at q
     have := eq_of_beq (show (p == 1) = true from q); omega
    by_cases r : mrE t l (chS t l s) = 0
    ·rw [(po_bg q e h0 r).2]
     have ru := mr_ok r
     have c0 : (chS t l s).ps = 0 := sm.1.trans h0
     have z : ∀ k, k <= (chS t l s).pc.length -> suV t l (chS t l s).tr.length (chS t l s).pc k = 0 := by
      intro k
      induction k with
      | zero => exact fun _ => rfl
      | succ k ih => intro hk; simp only [suV]; rw [ih (by omega), c.fr c0 k hk]; rfl
     exact ⟨c.pk, c.qq, c.tt, fun _ => z _ (Nat.le_refl _), fun h => absurd h p0, fun _ => by omega, c.tr⟩
    ·rw [(po_bgE (i := i) q e h0 r).1] at he; exact absurd he r
   ·have c0 : (chS t l s).ps ≠ 0 := by rw [sm.1]; exact h0
    by_cases hz : p = 0
    ·rw [(po_ed q e h0 hz).2]
     have e12 := go_end q h0 hz
     have hrn : rnB s = false := rn_f fun q => by rcases rn_iff.1 q with q | q; exact e12.1 q; exact e12.2 q
     have hcg : chgB s = false := by unfold chgB; rw [hrn]; rfl
     have hm' := si_ok hm
     have fe := fare_end hm h0 hf
     have fb := fare_bd hm
     have sb := stp_bd hm
     rw [chS_f hcg] at c ⊢
     have f1 : mFare t l { s with si := 0 } = mFare t l s := by unfold mFare mStp; rfl
     have s1 : mStp t l { s with si := 0 } = mStp t l s := by unfold mStp; rfl
     have tl : (({ s with si := 0 } : Mc).tr ++ [(⟨s.fe, i, s.ad, s.at_, s.st, mStp t l { s with si := 0 }, s.ex, mFare t l { s with si := 0 }⟩ : Mtp)]).length = s.tr.length + 1 := by simp
     refine ⟨fun k hk => ?_, c.qq, c.tt, fun h => absurd hz h, fun _ k hk => ?_, fun h => absurd hz h, fun j hj => ?_⟩
     ·have o := h.pk k hk
      exact ⟨by show (s.pc.getD k pc0).tr <= ((({ s with si := 0 } : Mc).tr ++ [_]).length : Int); rw [tl]; have := o.tr; omega, o.tk, o.pu, o.ru⟩
     ·have o := h.pk k hk
      show inT ((({ s with si := 0 } : Mc).tr ++ [_]).length : Int) (s.pc.getD k pc0) = false
      rw [tl]
      unfold inT
      rw [beq_false_of_ne (by have := o.tr; omega)]; rfl
     ·have hj : j < (({ s with si := 0 } : Mc).tr ++ [_]).length := hj
      rw [tl] at hj
      show TrO t l s.pc j ((s.tr ++ [(⟨s.fe, i, s.ad, s.at_, s.st, mStp t l { s with si := 0 }, s.ex, mFare t l { s with si := 0 }⟩ : Mtp)]).getD j mtp0)
      by_cases c1 : j < s.tr.length
      ·simp only [List.getD_eq_getElem?_getD]
       rw [List.getElem?_append_left c1]
       have w := h.tr j c1
       simpa only [List.getD_eq_getElem?_getD] using w
      ·obtain rfl : j = s.tr.length := by omega
       have ge : (s.tr ++ [(⟨s.fe, i, s.ad, s.at_, s.st, mStp t l { s with si := 0 }, s.ex, mFare t l { s with si := 0 }⟩ : Mtp)]).getD s.tr.length mtp0 = ⟨s.fe, i, s.ad, s.at_, s.st, mStp t l { s with si := 0 }, s.ex, mFare t l { s with si := 0 }⟩ := by simp [List.getD_eq_getElem?_getD]
       rw [ge, f1, s1]
       refine ⟨?_, sb.1, hm.m.exl h0, hm.m.ex, hm.m.st, fe, fb.1, hf⟩
       show mStp t l s = _
       rw [h.pa h0]; unfold mStp; rfl
    ·rw [(po_mv (i := i) q e h0 hz).2]
     exact ⟨c.pk, c.qq, c.tt, fun _ => c.pa c0, fun h => absurd h hz, fun _ => c.rl c0, c.tr⟩
  ·rw [(po_ch (i := i) q e).1] at he; exact absurd he e
theorem iv_ev (g : Gd t l) {k : Nat} (hk : k < l.ev.length) (h : Iv t l (mcN t l k)) (hf : mFare t l (mcN t l k) <= 1000000000) (h0 : mcE t l k = 0) : Iv t l (mcN t l (k + 1)) /\ mFare t l (mcN t l (k + 1)) <= 1000000000 := by
 have hm := mcN_hm g (show k <= l.ev.length by omega)
 have mo := mcN_ok g k (by omega)
 have gh := gd_head g.al
 have ee := ev_ok (gh.2.2.2.2 k hk)
 revert h0
 show mcE t l k = 0 -> Iv t l (evS_ t l (mcN t l k) k) /\ mFare t l (evS_ t l (mcN t l k) k) <= 1000000000
 unfold mcE evF
 intro h0
 have z1 : isOk (decide (mFare t l (evS_ t l (mcN t l k) k) <= 1000000000)) 8 = 0 := firstS_zero h0 _ (by simp)
 refine ⟨?_, of_decide_eq_true (isOk_0 z1 (by decide))⟩
 have hE : evH t l (mcN t l k) k (l.ev.getD k ev0) = 0 := firstS_zero h0 _ (by simp)
 clear h0 z1
 rw [evS_eq]
 generalize hs : mcN t l k = s at *
 generalize l.ev.getD k ev0 = v at *
 by_cases q0 : v.k = 0
 ·rw [(evG_0 q0).1]
  have e1 := ee.2.1 q0
  exact ⟨h.pk, by have := h.qq; show suQ s.pc s.pc.length <= s.pu + v.n - (s.si + v.n); omega, h.tt, h.pa, h.fr, h.rl, h.tr⟩
 by_cases q1 : v.k = 1
 ·rw [(evG_1 q1).1]
  rw [(evG_1 q1).2] at hE
  have w := ee.2.2.1 q1
  have b := mo.tk
  unfold tkS
  unfold tkE at hE
  exact iv_tkF g (k := (k : Int) + 1) (by have := gh.2.2.2.1; omega) _ s v.n (mo.mono (by omega)) (by omega) h hE
 by_cases q2 : v.k = 2
 ·rw [(evG_2 q2).1]; rw [(evG_2 q2).2] at hE; exact iv_po hm h hf hE
 by_cases q3 : v.k = 3
 ·by_cases c : v.n < t.zones.length
  ·rw [(evG_3 q3 c).1]; rw [(evG_3 q3 c).2] at hE
   exact ex_same (iv_ch hm h hE) rfl rfl rfl rfl rfl rfl rfl
  ·rw [(evG_3' q3 c).2] at hE; cases hE
 by_cases q4 : v.k = 4
 ·rw [(evG_4 q4).1]
  unfold mxU
  cases decide (mxE t s v.n = 0)
  ·exact h
  ·exact ex_same h rfl rfl rfl rfl rfl rfl rfl
 rw [(evG_5 q0 q1 q2 q3 q4).1]; exact h
theorem mcN_iv (g : Gd t l) (h0 : ∀ j, j < l.ev.length -> mcE t l j = 0) : ∀ k, k <= l.ev.length -> Iv t l (mcN t l k) /\ mFare t l (mcN t l k) <= 1000000000
 | 0, _ => ⟨iv0, by rw [fare_0 (by rfl : (mcN t l 0).ps = 0)]; decide⟩
 | k + 1, hk => by
  have ih := mcN_iv g h0 k (by omega)
  exact iv_ev g (by omega) ih.1 ih.2 (h0 k (by omega))
end
open Go.Proofs
def likeP (p o : Pc) : Bool := bif (bif p.zn == o.zn then p.ru == o.ru else false) then p.pu == o.pu else false
structure To where
 sp : Bool
 op : Bool
 pa : Bool
 la : Bool
 rs : List Pc
def to0 : To := ⟨false, false, false, false, []⟩
def lastP (r : List Pc) : Pc := r.getD (r.length - 1) pc0
def setL (r : List Pc) (k : Int) : List Pc := r.set (r.length - 1) { lastP r with tk := (lastP r).tk + k }
def gluB (r : List Pc) (p : Pc) : Bool := bif decide (0 < r.length) then likeP (lastP r) p else false
def addR (r : List Pc) (p : Pc) : List Pc := bif gluB r p then setL r p.tk else r ++ [p]
def toF (s : To) (p : Pc) : To :=
 bif p.ps == 2 then { s with sp := true } else bif p.ps == 3 then { s with pa := true } else
 bif p.ps == 1 then (bif p.tk == 0 then { s with op := true } else { s with la := bif s.la then true else s.pa, rs := addR s.rs p }) else s
def toN (j : Int) (q : List Pc) : Nat -> To
 | 0 => to0
 | i + 1 => bif inT j (q.getD i pc0) then toF (toN j q i) (q.getD i pc0) else toN j q i
structure RnO (n : Nat) (a b : Int) (p : Pc) : Prop where
 tk : 1 <= p.tk /\ p.tk <= b
 pu : 0 <= p.pu /\ p.pu <= a
 q : 0 <= p.pu * p.tk /\ p.pu * p.tk <= a
theorem RnO.mono {n : Nat} {a b a' b' : Int} {p : Pc} (h : RnO n a b p) (h1 : a <= a') (h2 : b <= b') : RnO n a' b' p := ⟨⟨h.tk.1, by have := h.tk.2; omega⟩, ⟨h.pu.1, by have := h.pu.2; omega⟩, ⟨h.q.1, by have := h.q.2; omega⟩⟩
def sgO (l : Log) (p : Pc) : Seg := ⟨p.zn, (1000 * p.pu * p.tk).tdiv l.c, p.tk⟩
def sgL (l : Log) (r : List Pc) : Nat -> List Seg
 | 0 => []
 | k + 1 => sgL l r k ++ [sgO l (r.getD k pc0)]
def divB (l : Log) (p : Pc) : Bool := (1000 * p.pu * p.tk).tmod l.c == 0
def fitB (l : Log) (r : List Pc) : Nat -> Bool
 | 0 => true
 | k + 1 => bif (bif fitB l r k then decide ((sgO l (r.getD k pc0)).me <= 100000) else false) then decide ((sgO l (r.getD k pc0)).se <= 36000) else false
def toQ (t : Trf) (l : Log) (j : Nat) : To := toN j (mcN t l l.ev.length).pc (mcN t l l.ev.length).pc.length
def toZ (t : Trf) (l : Log) (j : Nat) : Bool := bif ((toQ t l j).rs.length : Int) == 0 then true else ((toQ t l j).rs.getD 0 pc0).zn == (mcN t l l.ev.length).zs.getD j 0
@[irreducible] def toH (t : Trf) (l : Log) (j : Nat) : Int := firstS [isOk (!(toQ t l j).sp) 22, isOk (bif !(toQ t l j).op then !(toQ t l j).la else false) 23, isOk (toZ t l j) 13]
@[irreducible] def toT (t : Trf) (l : Log) (j : Nat) : Int := firstS [isOk (decide (0 < ((toQ t l j).rs.length : Int))) 12, isOk (bif fitB l (toQ t l j).rs (toQ t l j).rs.length then decide (((toQ t l j).rs.length : Int) <= 60) else false) 8]
@[irreducible] def toD (t : Trf) (l : Log) (j : Nat) : Bool := (toQ t l j).rs.all (divB l)
@[irreducible] def toE (t : Trf) (l : Log) (j : Nat) : Int := bif decide (toH t l j = 0) then (bif toD t l j then toT t l j else 3) else toH t l j
def toX (t : Trf) (l : Log) (j : Nat) : Trp := ⟨⟨((mcN t l l.ev.length).tr.getD j mtp0).d, ((mcN t l l.ev.length).tr.getD j mtp0).s⟩, false, ((mcN t l l.ev.length).tr.getD j mtp0).ex, sgL l (toQ t l j).rs (toQ t l j).rs.length⟩
def tzA : AV := .agg 5 (tbl [.int .i64 0, .int .i64 0, .bool false, .slc0, .slc0])
@[irreducible] def toR (t : Trf) (l : Log) (j : Nat) : AV := bif decide (toE t l j = 0) then .tup 2 (tbl [trpA (toX t l j), .int .i64 0]) else .tup 2 (tbl [tzA, .int .i64 (toE t l j)])
open Go.Proofs
def vQ (t : Trf) (l : Log) (ru pu : Int) : Int := bif decide (dstQ t ru pu <= scnQ t l ru) then scnQ t l ru else dstQ t ru pu
def vR (t : Trf) (l : Log) (p : Pc) : Int := vQ t l p.ru p.pu * p.tk
def suR (t : Trf) (l : Log) (r : List Pc) : Nat -> Int
 | 0 => 0
 | i + 1 => suR t l r i + vR t l (r.getD i pc0)
structure Ru (t : Trf) (z : Int) (M : Mom) (ru : Int) : Prop where
 e : ruleAtE t ⟨z, M⟩ = 0
 n : ruleAtN t ⟨z, M⟩ = ru
def okT (T : To) : Prop := T.sp = false /\ T.op = false /\ T.la = false
structure Fv (t : Trf) (l : Log) (z : Int) (M : Mom) (st : Int) (T : To) (V : Int) : Prop where
 mo : momB M = true
 bg : ∃ ru, Ru t z M ru /\ st = (ruA t ru).st
 ru : okT T -> ∀ a, a < T.rs.length -> Ru t (T.rs.getD a pc0).zn (laterQ M (suT T.rs a)) (T.rs.getD a pc0).ru
 v : okT T -> suR t l T.rs T.rs.length = V
structure Jv (t : Trf) (l : Log) (s : Mc) : Prop where
 z0 : s.ps = 0 -> s.zs.length = s.tr.length
 z1 : s.ps ≠ 0 -> s.zs.length = s.tr.length + 1
 cu : s.ps ≠ 0 -> Fv t l (s.zs.getD s.tr.length 0) ⟨s.ad, s.at_⟩ s.st (toN s.tr.length s.pc s.pc.length) (suV t l s.tr.length s.pc s.pc.length)
 nw : s.ps ≠ 0 -> okT (toN s.tr.length s.pc s.pc.length) -> (toN s.tr.length s.pc s.pc.length).pa = false -> secM l s = s.ad * 86400 + s.at_ + suT (toN s.tr.length s.pc s.pc.length).rs (toN s.tr.length s.pc s.pc.length).rs.length
 tr : ∀ j, j < s.tr.length -> Fv t l (s.zs.getD j 0) ⟨(s.tr.getD j mtp0).d, (s.tr.getD j mtp0).s⟩ (s.tr.getD j mtp0).st (toN j s.pc s.pc.length) (suV t l j s.pc s.pc.length)
section
variable {t : Trf} {l : Log}
theorem now_later {s : Mc} {M : Mom} {S : Int} (hM : momB M = true) (h0 : 0 <= S) (h : secM l s = M.d * 86400 + M.s + S) : nowM l s = laterQ M S := by
 have b := mom_bd hM
 unfold nowM laterQ
 rw [h]
 have e1 : (M.d * 86400 + M.s + S).tdiv 86400 = (M.d * 86400 + M.s + S) / 86400 := Int.tdiv_eq_ediv_of_nonneg (by omega)
 have e2 : (M.d * 86400 + M.s + S).tmod 86400 = (M.d * 86400 + M.s + S) % 86400 := Int.tmod_eq_emod_of_nonneg (by omega)
 have e3 : (M.s + S).tdiv 86400 = (M.s + S) / 86400 := Int.tdiv_eq_ediv_of_nonneg (by omega)
 have e4 : (M.s + S).tmod 86400 = (M.s + S) % 86400 := Int.tmod_eq_emod_of_nonneg (by omega)
 rw [e1, e2, e3, e4]
 have a1 : (M.d * 86400 + M.s + S) / 86400 = M.d + (M.s + S) / 86400 := by omega
 have a2 : (M.d * 86400 + M.s + S) % 86400 = (M.s + S) % 86400 := by omega
 rw [a1, a2]
end
open Go.Proofs
def wrS (t : Trf) (l : Log) (i : Nat) : Bool := bif (l.ev.getD i ev0).k == 5 then (l.ev.getD i ev0).n != mFare t l (mcN t l i) else false
def wrC (l : Log) (i : Nat) : Bool := bif (l.ev.getD i ev0).k == 6 then (l.ev.getD i ev0).n != sumL 1 (l.ev.take i) else false
def wrB (t : Trf) (l : Log) (i : Nat) : Bool := bif wrS t l i then true else wrC l i
@[irreducible] def ffI (t : Trf) (l : Log) : Int := findI (wrB t l) l.ev.length
@[irreducible] def ffE (t : Trf) (l : Log) : Int := bif decide (rnE t l = 0) then (bif decide (0 <= ffI t l) then 0 else 12) else rnE t l
def slN (l : Log) : Nat -> Int
 | 0 => -1
 | i + 1 => bif (l.ev.getD i ev0).k == 6 then i else slN l i
def bhI (l : Log) (i : Nat) : Int := findI (fun j => (l.ev.getD (i + 1 + j) ev0).k == 6) (l.ev.length - (i + 1))
@[irreducible] def bhN (l : Log) (i : Nat) : Int := bif decide (0 <= bhI l i) then bhI l i + ((i : Int) + 1) else bhI l i
@[irreducible] def ffZ (t : Trf) (l : Log) (n : Int) : Int := bif decide (ffE t l = 0) then n else 0
theorem ff_bad {t : Trf} {l : Log} (h : rnE t l ≠ 0) : ffE t l = rnE t l /\ ∀ n, ffZ t l n = 0 := by
 have e : ffE t l = rnE t l := by unfold ffE; rw [decide_eq_false h]; rfl
 exact ⟨e, fun n => by unfold ffZ; rw [e, decide_eq_false h]; rfl⟩
theorem ff_none {t : Trf} {l : Log} (h : rnE t l = 0) (h0 : ∀ j, j < l.ev.length -> wrB t l j = false) : ffE t l = 12 /\ ∀ n, ffZ t l n = 0 := by
 have e : ffE t l = 12 := by unfold ffE ffI; rw [h, findI_none h0]; rfl
 exact ⟨e, fun n => by unfold ffZ; rw [e]; rfl⟩
theorem ff_hit {t : Trf} {l : Log} (h : rnE t l = 0) {i : Nat} (hi : i < l.ev.length) (h0 : ∀ j, j < i -> wrB t l j = false) (h1 : wrB t l i = true) : ffI t l = i /\ ffE t l = 0 /\ ∀ n, ffZ t l n = n := by
 have f : ffI t l = i := by unfold ffI; exact findI_hit hi h0 h1
 have e : ffE t l = 0 := by unfold ffE; rw [h, f, decide_eq_true (show 0 <= (i : Int) by omega)]; rfl
 exact ⟨f, e, fun n => by unfold ffZ; rw [e]; rfl⟩
theorem find_any {p : Nat -> Bool} {n i : Nat} (hi : i < n) (hp : p i = true) : decide (0 <= findI p n) = true := by
 by_cases q : ∀ j, j < i -> p j = false
 ·exact find_pos hi q hp
 ·have : ∃ k, k < n /\ p k = true /\ ∀ j, j < k -> p j = false := by
   clear q
   induction i using Nat.strongRecOn with
   | _ i ih =>
    by_cases c : ∃ j, j < i /\ p j = true
    ·obtain ⟨j, hj, hpj⟩ := c
     exact ih j hj (by omega) hpj
    ·exact ⟨i, hi, hp, fun j hj => by cases e : p j with
      | false => rfl
      | true => exact absurd ⟨j, hj, e⟩ c⟩
  obtain ⟨k, hk, hpk, ha⟩ := this
  exact find_pos hk ha hpk
theorem ff_12 {t : Trf} {l : Log} (h : rnE t l = 0) (e : ffE t l = 12) : ∀ j, j < l.ev.length -> wrB t l j = false := by
 intro j hj
 cases c : wrB t l j with
 | false => rfl
 | true =>
  exfalso
  have f : 0 <= ffI t l := by unfold ffI; exact of_decide_eq_true (find_any hj c)
  unfold ffE at e
  rw [h, decide_eq_true f] at e; cases e
theorem ff_cases {t : Trf} {l : Log} (h : rnE t l = 0) : (∃ i, i < l.ev.length /\ (∀ j, j < i -> wrB t l j = false) /\ wrB t l i = true /\ ffI t l = i /\ ffE t l = 0) \/ (ffE t l = 12 /\ ∀ j, j < l.ev.length -> wrB t l j = false) := by
 by_cases q : 0 <= ffI t l
 ·have q' := q
  unfold ffI at q'
  obtain ⟨i, hi, _, hp, h0⟩ := find_is q'
  have w := ff_hit h hi h0 hp
  exact .inl ⟨i, hi, h0, hp, w.1, w.2.1⟩
 ·have e : ffE t l = 12 := by unfold ffE; rw [h, decide_eq_false q]; rfl
  exact .inr ⟨e, ff_12 h e⟩
theorem step_rng {o n : Int} (h0 : 0 <= o) (hn : 0 <= n) : 0 <= sumStep o n /\ sumStep o n <= 998244352 := by
 have b := step_lt o n
 refine ⟨?_, by omega⟩
 unfold sumStep
 exact Int.tmod_nonneg _ (by have := Int.tmod_nonneg prime hn; omega)
theorem sum_rng : ∀ {l : List Ev} {o : Int}, 0 <= o -> o <= 998244352 -> (∀ v ∈ l, 0 <= v.k /\ 0 <= v.n) -> 0 <= sumL o l /\ sumL o l <= 998244352
 | [], o, h0, h1, _ => ⟨h0, h1⟩
 | e :: r, o, h0, h1, h => by
  have a := h e (List.mem_cons_self ..)
  have b := step_rng h0 a.1
  have c := step_rng b.1 a.2
  show 0 <= sumL (sumStep (sumStep o e.k) e.n) r /\ sumL (sumStep (sumStep o e.k) e.n) r <= _
  exact sum_rng c.1 c.2 fun v hv => h v (List.mem_cons_of_mem _ hv)
theorem gd_mem {l : Log} (h : aloneE l = 0) {v : Ev} (hv : v ∈ l.ev) : evE v = 0 := by
 obtain ⟨i, hi, rfl⟩ := List.getElem_of_mem hv
 have w := (gd_head h).2.2.2.2 i hi
 rwa [List.getD_eq_getElem?_getD, List.getElem?_eq_getElem hi, Option.getD_some] at w
theorem gd_sum {l : Log} (h : aloneE l = 0) {r : List Ev} (hr : ∀ v ∈ r, v ∈ l.ev \/ (0 <= v.k /\ 0 <= v.n)) : 0 <= sumL 1 r /\ sumL 1 r <= 998244352 :=
 sum_rng (by decide) (by decide) fun v hv => by
  rcases hr v hv with q | q
  ·have e := ev_ok (gd_mem h q); exact ⟨e.1.1, e.2.2.2.2.1⟩
  ·exact q
theorem seal_evE {n : Int} (h : 0 <= n /\ n <= 998244352) : evE ⟨6, n⟩ = 0 := ev_mk (by show (0 : Int) <= 6 /\ (6 : Int) <= 6; omega) (by show (0 : Int) <= n /\ n <= 998244352; exact h)
section
variable {t : Trf} {l z : Log}
theorem ev_idle {s : Mc} {i : Nat} (h : 5 <= (l.ev.getD i ev0).k) : evS_ t l s i = s /\ (mFare t l s <= 1000000000 -> evF t l s i = 0) := by
 have w := evF_eq (evG_5 (t := t) (l := l) (s := s) (i := (i : Int)) (v := l.ev.getD i ev0) (by omega) (by omega) (by omega) (by omega) (by omega))
 exact ⟨w.1, fun q => by rw [w.2, decide_eq_true q]; rfl⟩
theorem pre_inv (g : Gd t l) (h1 : z.c = l.c) (h2 : z.d = l.d) (h3 : z.t = l.t) {k : Nat} (hk : k <= l.ev.length) (hz : ∀ j, j < k -> z.ev.getD j ev0 = l.ev.getD j ev0) :
  ∀ j, j <= k -> InvC (lkId (t := t) (gd_head g.al).1 h1 h2 h3) j j := by
 have gh := gd_head g.al
 intro j
 induction j with
 | zero => exact fun _ => .inl ⟨lk_refl (by simp [mcN, mc0]) (by simp [mcN, mc0]), fun i hi => absurd hi (Nat.not_lt_zero i), fun i hi => absurd hi (Nat.not_lt_zero i)⟩
 | succ j ih =>
  intro hj
  have e := hz j (by omega)
  exact (ih (by omega)).one g.trf (by rw [e]) (fun _ => by rw [e]) fun _ a b a' b' h => by rw [e]; exact id_add (K := True) (ev_ok (gh.2.2.2.2 j (by omega))).2.2.2.2.1 h
theorem inv_ok {K : Lock t l z true} {j j' : Nat} (ht : trfE t = 0) (h : InvC K j j') (h0 : ∀ i, i < j -> mcE t l i = 0) : (∀ i, i < j' -> mcE t z i = 0) /\ mFare t z (mcN t z j') = mFare t l (mcN t l j) := by
 have w := h.end_
 exact ⟨w.1.1 h0, ((w.2 h0).fare ht).2 rfl⟩
structure SealAt (l z : Log) (k : Nat) : Prop where
 c : z.c = l.c
 d : z.d = l.d
 t : z.t = l.t
 hk : k <= l.ev.length
 len : z.ev.length = l.ev.length + 1
 ev : z.ev = l.ev.take k ++ [⟨6, sumL 1 (l.ev.take k)⟩] ++ l.ev.drop k
theorem SealAt.lo {k : Nat} (S : SealAt l z k) {j : Nat} (hj : j < k) : z.ev.getD j ev0 = l.ev.getD j ev0 := by
 have := S.hk
 rw [S.ev, List.append_assoc, List.getD_eq_getElem?_getD, List.getElem?_append_left (by rw [List.length_take]; omega), List.getElem?_take_of_lt hj, List.getD_eq_getElem?_getD]
theorem SealAt.at_ {k : Nat} (S : SealAt l z k) : z.ev.getD k ev0 = ⟨6, sumL 1 (l.ev.take k)⟩ := by
 have := S.hk
 have e : (l.ev.take k).length = k := by rw [List.length_take]; omega
 rw [S.ev, List.append_assoc, List.getD_eq_getElem?_getD, List.getElem?_append_right (by omega), e, Nat.sub_self]; rfl
theorem SealAt.hi {k : Nat} (S : SealAt l z k) {j : Nat} (hj : k <= j) : z.ev.getD (j + 1) ev0 = l.ev.getD j ev0 := by
 have := S.hk
 have e : (l.ev.take k ++ [(⟨6, sumL 1 (l.ev.take k)⟩ : Ev)]).length = k + 1 := by rw [List.length_append, List.length_take]; simp; omega
 rw [S.ev, List.getD_eq_getElem?_getD, List.getElem?_append_right (by omega), e, List.getElem?_drop, List.getD_eq_getElem?_getD, show k + (j + 1 - (k + 1)) = j by omega]
theorem SealAt.take {k : Nat} (S : SealAt l z k) {j : Nat} (hj : j <= k) : z.ev.take j = l.ev.take j := by
 have := S.hk
 rw [S.ev, List.append_assoc, List.take_append_of_le_length (by rw [List.length_take]; omega), List.take_take, show min j k = j by omega]
theorem SealAt.al {k : Nat} (S : SealAt l z k) (h : aloneE l = 0) (hl : l.ev.length < 200) : aloneE z = 0 := by
 have g := gd_head h
 have s := gd_sum h (r := l.ev.take k) fun v hv => .inl (List.mem_of_mem_take hv)
 refine al_ok (by rw [S.c]; exact g.1) (by rw [S.d]; exact g.2.1) (by rw [S.t]; exact g.2.2.1) (by rw [S.len]; omega) fun j hj => ?_
 rw [S.len] at hj
 rcases Nat.lt_trichotomy j k with q | q | q
 ·rw [S.lo q]; exact g.2.2.2.2 j (by have := S.hk; omega)
 ·subst q; rw [S.at_]; exact seal_evE s
 ·obtain ⟨i, rfl⟩ : ∃ i, j = i + 1 := ⟨j - 1, by omega⟩
  rw [S.hi (by omega)]; exact g.2.2.2.2 i (by omega)
theorem SealAt.run {k : Nat} (S : SealAt l z k) (g : Gd t l) (h0 : ∀ j, j < l.ev.length -> mcE t l j = 0) (hl : l.ev.length < 200) :
  Gd t z /\ (∀ j, j < z.ev.length -> mcE t z j = 0) /\ (∀ j, j <= k -> mFare t z (mcN t z j) = mFare t l (mcN t l j)) /\ ∀ j, k <= j -> j <= l.ev.length -> mFare t z (mcN t z (j + 1)) = mFare t l (mcN t l j) := by
 have gz : Gd t z := ⟨g.ok, g.trf, S.al g.al hl⟩
 have hk := S.hk
 have A := pre_inv g S.c S.d S.t hk fun j hj => S.lo hj
 have B : InvC (lkId (t := t) (gd_head g.al).1 S.c S.d S.t) k (k + 1) := by
  have Lk0 := (A k (Nat.le_refl k)).end_
  have hl0 : ∀ i, i < k -> mcE t l i = 0 := fun i hi => h0 i (by omega)
  have L := Lk0.2 hl0
  have z0 := Lk0.1.1 hl0
  have fa := (mcN_iv g h0 k hk).2
  have i := ev_idle (t := t) (l := z) (s := mcN t z k) (i := k) (by rw [S.at_]; show (5 : Int) <= 6; omega)
  have fz : mFare t z (mcN t z k) <= 1000000000 := by rw [(L.fare g.trf).2 rfl]; exact fa
  refine .inl ⟨?_, hl0, all_lt z0 (i.2 fz)⟩
  show Lk _ (mcN t l k) (evS_ t z (mcN t z k) k)
  rw [i.1]; exact L
 have D : ∀ m, k + m <= l.ev.length -> InvC (lkId (t := t) (gd_head g.al).1 S.c S.d S.t) (k + m) (k + m + 1) := by
  intro m
  induction m with
  | zero => exact fun _ => B
  | succ m ih =>
   intro hm
   have e := S.hi (j := k + m) (by omega)
   exact InvC.one (j := k + m) (j' := k + m + 1) g.trf (ih (by omega)) (by rw [e]) (fun _ => by rw [e]) fun _ a b a' b' h => by rw [e]; exact id_add (K := True) (ev_ok ((gd_head g.al).2.2.2.2 (k + m) (by omega))).2.2.2.2.1 h
 have E := inv_ok g.trf (D (l.ev.length - k) (by omega)) (fun i hi => h0 i (by omega))
 refine ⟨gz, fun j hj => E.1 j (by rw [S.len] at hj; omega), fun j hj => (inv_ok g.trf (A j hj) fun i hi => h0 i (by omega)).2, fun j hj hj2 => ?_⟩
 have w := inv_ok g.trf (D (j - k) (by omega)) (fun i hi => h0 i (by omega))
 rw [show k + (j - k) = j by omega] at w
 exact w.2
theorem SealAt.law {k : Nat} (S : SealAt l z k) (hk : TOk t) (h : rnE t l = 0) (hl : l.ev.length < 200) (h0 : ∀ j, j < l.ev.length -> wrB t l j = false) (hs : ∀ j, k <= j -> j < l.ev.length -> (l.ev.getD j ev0).k ≠ 6) :
  rnE t z = 0 /\ ∀ j, j < z.ev.length -> wrB t z j = false := by
 have g := rn_gd hk h
 have R := S.run g.1 g.2 hl
 refine ⟨(rn_ok R.1.trf R.1.al R.2.1).1, fun j hj => ?_⟩
 rw [S.len] at hj
 have hk' := S.hk
 rcases Nat.lt_trichotomy j k with q | q | q
 ·have w := h0 j (by omega)
  unfold wrB wrS wrC at w ⊢
  rw [S.lo q, R.2.2.1 j (by omega), S.take (by omega)]; exact w
 ·subst q
  unfold wrB wrS wrC
  rw [S.at_, S.take (Nat.le_refl _)]
  simp
 ·obtain ⟨i, rfl⟩ : ∃ i, j = i + 1 := ⟨j - 1, by omega⟩
  have w := h0 i (by omega)
  have n6 := hs i (by omega) (by omega)
  unfold wrB wrS wrC at w ⊢
  rw [S.hi (by omega), R.2.2.2 i (by omega) (by omega), beq_false_of_ne n6]
  rw [beq_false_of_ne n6] at w; exact w
theorem seal_at (h : sealE l = 0) : SealAt l (sealL l) l.ev.length := by
 rw [seal_ok h]
 exact ⟨rfl, rfl, rfl, Nat.le_refl _, by simp, by simp⟩
theorem seal_len (h : sealE l = 0) : aloneE l = 0 /\ l.ev.length < 200 := by
 unfold sealE at h
 have w := firstS_zero h
 have a : aloneE l = 0 := w _ (by simp)
 have b : (bif decide ((l.ev.length : Int) < 200) then 0 else 16 : Int) = 0 := w _ (by simp)
 refine ⟨a, ?_⟩
 by_cases c : (l.ev.length : Int) < 200
 ·omega
 ·rw [decide_eq_false c] at b; cases b
def chgL' (l : Log) (a : Nat) (n : Int) : Log := { l with ev := l.ev.set a ⟨(l.ev.getD a ev0).k, n⟩ }
theorem chg_at {a : Nat} {n : Int} {j : Nat} (h : j ≠ a) : (chgL' l a n).ev.getD j ev0 = l.ev.getD j ev0 := by
 show (l.ev.set a _).getD j ev0 = _
 rw [ev_set, if_neg (fun q => h q.1.symm)]
theorem chg_k {a : Nat} {n : Int} {j : Nat} : ((chgL' l a n).ev.getD j ev0).k = (l.ev.getD j ev0).k := by
 by_cases h : j = a
 ·subst h
  show ((l.ev.set j _).getD j ev0).k = _
  rw [ev_set]
  split
  ·rfl
  ·rfl
 ·rw [chg_at h]
theorem chg_len {a : Nat} {n : Int} : (chgL' l a n).ev.length = l.ev.length := by simp [chgL']
theorem chg_take {a : Nat} {n : Int} {j : Nat} (h : j <= a) : (chgL' l a n).ev.take j = l.ev.take j := by
 show (l.ev.set a _).take j = _
 rw [List.take_set_of_le h]
theorem rn_al0 (hk : TOk t) (h : rnE t l = 0) {k : Nat} (hk2 : k <= l.ev.length) : sumE l k = 0 /\ sumN l k = sumL 1 (l.ev.take k) := by
 have a := (rn_gd hk h).1.al
 have e : sumE l k = 0 := by
  unfold sumE
  rw [a, inB_iff.2 (show 0 <= (k : Int) /\ (k : Int) <= l.ev.length by omega)]; rfl
 exact ⟨e, by rw [sum_ok e, Int.toNat_natCast]⟩
theorem seal_sum {s : Log} {a k : Nat} {n : Int} (hk : TOk t) (hs : rnE t s = 0) (hy : rnE t (chgL' s a n) = 0) (h6 : (s.ev.getD k ev0).k = 6) (hka : k ≠ a) (hl : k < s.ev.length) (w : wrB t s k = false) (v : wrB t (chgL' s a n) k = false) : sumN s k = sumN (chgL' s a n) k := by
 have e1 := rn_al0 hk hs (show k <= s.ev.length by omega)
 have e2 := rn_al0 hk hy (show k <= (chgL' s a n).ev.length by rw [chg_len]; omega)
 rw [e1.2, e2.2]
 unfold wrB wrS wrC at w v
 rw [chg_at hka] at v
 rw [h6] at w v
 have w : ((s.ev.getD k ev0).n != sumL 1 (s.ev.take k)) = false := w
 have v : ((s.ev.getD k ev0).n != sumL 1 ((chgL' s a n).ev.take k)) = false := v
 rw [<- bne_eq_false_iff_eq.1 w, <- bne_eq_false_iff_eq.1 v]
theorem chg_lo {s : Log} {a : Nat} {n : Int} (hk : TOk t) (hs : rnE t s = 0) {j : Nat} (hj : j < a) (hl : a < s.ev.length) (w : wrB t s j = false) : wrB t (chgL' s a n) j = false := by
 have g := rn_gd hk hs
 have A := pre_inv (z := chgL' s a n) g.1 rfl rfl rfl (Nat.le_of_lt hl) (fun i hi => chg_at (by omega)) j (by omega)
 have f := (inv_ok g.1.trf A fun i hi => g.2 i (by omega)).2
 unfold wrB wrS wrC at w ⊢
 rw [chg_at (by omega), f, chg_take (by omega)]; exact w
theorem sl_at {s : Log} {k : Nat} (h6 : (s.ev.getD k ev0).k = 6) : ∀ q, k < q -> (∀ j, k < j -> j < q -> (s.ev.getD j ev0).k ≠ 6) -> slN s q = k
 | 0, h, _ => absurd h (Nat.not_lt_zero k)
 | q + 1, h, h0 => by
  simp only [slN]
  by_cases e : q = k
  ·subst e; rw [h6]; rfl
  ·rw [beq_false_of_ne (h0 q (by omega) (by omega))]
   exact sl_at h6 q (by omega) fun j h1 h2 => h0 j h1 (by omega)
theorem found_seal (hk : TOk t) (h : rnE t l = 0) (h0 : ffE t l = 12) (hs : sealE l = 0) : rnE t (sealL l) = 0 /\ ffE t (sealL l) = 12 /\ (sealL l).ev.length = l.ev.length + 1 := by
 have S := seal_at hs
 have sl := seal_len hs
 have L := S.law hk h sl.2 (ff_12 h h0) fun j h1 h2 => absurd h2 (by omega)
 exact ⟨L.1, (ff_none L.1 L.2).1, S.len⟩
end
open Go.Proofs
@[irreducible] def hdL (l : Log) (k : Nat) : Log := { l with ev := l.ev.take k }
@[irreducible] def bthL (l : Log) (k : Nat) : Log := { l with ev := l.ev.take k ++ [⟨6, sumL 1 (l.ev.take k)⟩] ++ l.ev.drop k }
section
variable {t : Trf} {l : Log} {k : Nat}
theorem hd_eq : hdL l k = { l with ev := l.ev.take k } := by unfold hdL; rfl
theorem hd_c : (hdL l k).c = l.c /\ (hdL l k).d = l.d /\ (hdL l k).t = l.t := by rw [hd_eq]; exact ⟨rfl, rfl, rfl⟩
theorem bth_seal (hk : k <= l.ev.length) : SealAt l (bthL l k) k := by
 unfold bthL
 exact ⟨rfl, rfl, rfl, hk, by simp [Nat.min_eq_left hk]; omega, rfl⟩
theorem bth_len (hk : k <= l.ev.length) : (bthL l k).ev.length = l.ev.length + 1 := (bth_seal hk).len
theorem hd_len (hk : k <= l.ev.length) : (hdL l k).ev.length = k := by rw [hd_eq]; simp [Nat.min_eq_left hk]
theorem hd_at {j : Nat} (hj : j < k) : (hdL l k).ev.getD j ev0 = l.ev.getD j ev0 := by
 rw [hd_eq]
 show (l.ev.take k).getD j ev0 = _
 rw [List.getD_eq_getElem?_getD, List.getElem?_take_of_lt hj, List.getD_eq_getElem?_getD]
theorem hd_al (h : aloneE l = 0) (hk : k <= l.ev.length) : aloneE (hdL l k) = 0 := by
 have g := gd_head h
 have e := hd_c (l := l) (k := k)
 refine al_ok (by rw [e.1]; exact g.1) (by rw [e.2.1]; exact g.2.1) (by rw [e.2.2]; exact g.2.2.1) (by rw [hd_len hk]; omega) fun j hj => ?_
 rw [hd_len hk] at hj
 rw [hd_at hj]; exact g.2.2.2.2 j (by omega)
theorem seal_0 {z : Log} (h : aloneE z = 0) (hl : z.ev.length < 200) : sealE z = 0 := by
 unfold sealE
 rw [h, decide_eq_true (show (z.ev.length : Int) < 200 by omega)]; rfl
theorem hd_seal (h : aloneE l = 0) (hk : k <= l.ev.length) (hl : l.ev.length < 200) : sealE (hdL l k) = 0 /\ (sealL (hdL l k)).ev.length = k + 1 := by
 have e := seal_0 (hd_al h hk) (by rw [hd_len hk]; omega)
 refine ⟨e, ?_⟩
 rw [(seal_at e).len, hd_len hk]
structure Tm (t : Trf) (l : Log) (k : Nat) : Prop where
 hk : TOk t
 rn : rnE t l = 0
 ff : ffE t l = 12
 no : ∀ j, j < l.ev.length -> (l.ev.getD j ev0).k ≠ 6
 le : l.ev.length <= 30
 k : k <= l.ev.length
@[irreducible] def allL (l : Log) (k : Nat) : Log := sealL (bthL l k)
theorem allL_eq (l : Log) (k : Nat) : allL l k = sealL (bthL l k) := by unfold allL; rfl
theorem Tm.both (T : Tm t l k) : rnE t (bthL l k) = 0 /\ ffE t (bthL l k) = 12 := by
 have l1 := T.le
 have L := (bth_seal T.k).law T.hk T.rn (by omega) (ff_12 T.rn T.ff) fun j _ h2 => T.no j h2
 exact ⟨L.1, (ff_none L.1 L.2).1⟩
theorem Tm.sld (T : Tm t l k) : sealE (bthL l k) = 0 := by
 have l1 := T.le
 exact seal_0 (rn_gd T.hk T.both.1).1.al (by rw [bth_len T.k]; omega)
theorem Tm.all (T : Tm t l k) : rnE t (allL l k) = 0 /\ ffE t (allL l k) = 12 /\ (allL l k).ev.length = l.ev.length + 2 := by
 have w := found_seal T.hk T.both.1 T.both.2 T.sld
 rw [allL_eq]
 exact ⟨w.1, w.2.1, by rw [w.2.2, bth_len T.k]⟩
theorem Tm.at_ (T : Tm t l k) {j : Nat} (hj : j < l.ev.length + 2) : ((allL l k).ev.getD j ev0).k = 6 ↔ j = k \/ j = l.ev.length + 1 := by
 have l1 := T.k
 have S1 := bth_seal (l := l) T.k
 have S2 := seal_at T.sld
 have e2 : (bthL l k).ev.length = l.ev.length + 1 := bth_len T.k
 rw [allL_eq]
 by_cases a : j = l.ev.length + 1
 ·subst a
  have w := S2.at_
  rw [e2] at w
  show ((sealL (bthL l k)).ev.getD _ ev0).k = 6 ↔ _
  rw [w]
  exact ⟨fun _ => .inr rfl, fun _ => rfl⟩
 ·have w := S2.lo (j := j) (by rw [e2]; omega)
  show ((sealL (bthL l k)).ev.getD _ ev0).k = 6 ↔ _
  rw [w]
  rcases Nat.lt_trichotomy j k with q | q | q
  ·rw [S1.lo q]
   exact ⟨fun h => absurd h (T.no j (by omega)), fun h => by omega⟩
  ·subst q; rw [S1.at_]; exact ⟨fun _ => .inl rfl, fun _ => rfl⟩
  ·obtain ⟨i, rfl⟩ : ∃ i, j = i + 1 := ⟨j - 1, by omega⟩
   rw [S1.hi (by omega)]
   exact ⟨fun h => absurd h (T.no i (by omega)), fun h => by omega⟩
def slQ (l : Log) (k a : Nat) : Nat := if k < a then l.ev.length + 1 else k
theorem Tm.law (T : Tm t l k) {a : Nat} {n : Int} (ha : a < l.ev.length + 2) (h6 : ((allL l k).ev.getD a ev0).k ≠ 6) (hy : rnE t (chgL' (allL l k) a n) = 0) :
  sumN (allL l k) (slQ l k a) = sumN (chgL' (allL l k) a n) (slQ l k a) \/
  (ffE t (chgL' (allL l k) a n) = 0 /\ a <= ffI t (chgL' (allL l k) a n) /\ ffI t (chgL' (allL l k) a n) <= slQ l k a /\ (a < k \/ slN (chgL' (allL l k) a n) (ffI t (chgL' (allL l k) a n)).toNat = k)) := by
 have A := T.all
 have l1 := T.k
 have ne : a ≠ k /\ a ≠ l.ev.length + 1 := by
  have w := fun q => h6 ((T.at_ ha).2 q)
  exact ⟨fun q => w (.inl q), fun q => w (.inr q)⟩
 have w0 := ff_12 A.1 A.2.1
 have hq : slQ l k a < l.ev.length + 2 := by unfold slQ; split <;> omega
 have q6 : ((allL l k).ev.getD (slQ l k a) ev0).k = 6 := (T.at_ hq).2 (by unfold slQ; split; exact .inr rfl; exact .inl rfl)
 have qa : slQ l k a ≠ a := by unfold slQ; split <;> omega
 have sum : wrB t (chgL' (allL l k) a n) (slQ l k a) = false -> sumN (allL l k) (slQ l k a) = sumN (chgL' (allL l k) a n) (slQ l k a) := fun v =>
  seal_sum T.hk A.1 hy q6 qa (by rw [A.2.2]; exact hq) (w0 _ (by rw [A.2.2]; exact hq)) v
 rcases ff_cases hy with ⟨i, hi, h0, h1, e1, e2⟩ | ⟨_, e⟩
 ·rw [chg_len, A.2.2] at hi
  by_cases c : i <= slQ l k a
  ·have ai : a <= i := by
    refine Nat.le_of_not_lt fun q => ?_
    rw [chg_lo T.hk A.1 q (by rw [A.2.2]; exact ha) (w0 i (by rw [A.2.2]; exact hi))] at h1; cases h1
   refine .inr ⟨e2, by rw [e1]; omega, by rw [e1]; omega, ?_⟩
   by_cases ak : a < k
   ·exact .inl ak
   ·refine .inr ?_
    rw [e1, Int.toNat_natCast]
    refine sl_at (by rw [chg_k]; exact (T.at_ (by omega)).2 (.inl rfl)) i (by omega) fun j h2 h3 => ?_
    rw [chg_k]
    intro q
    rcases (T.at_ (show j < l.ev.length + 2 by omega)).1 q with q | q <;> omega
  ·exact .inl (sum (h0 _ (by omega)))
 ·exact .inl (sum (e _ (by rw [chg_len, A.2.2]; exact hq)))
end
open Go.Proofs Go.RowKit
theorem Mut.give {X : Ctx} {f : FuncId} {args bs : List AV} {e es n ver : Nat} {fn : Nat -> Nat -> AV} {r : AV} (h : Pure X f bs r) (hr : r.free = true) (hfree : (bs.all (·.free)) = true) (hl : AllLe (args.map (frzF [0] [.list e es n fn ver])) bs) : Mut X f args [.list e es n fn ver] r [.dead] := by
 have hlen : bs.length = args.length := by have := hl.len; simpa using this
 refine ⟨h.1, fun c cargs hok hb hL hsz hargs => ?_⟩
 obtain ⟨I', tf, hF⟩ := Tr.freezes [0] hok
 have hH : frzL [0] c.H = [.dead] := by rw [hL]; rfl
 rw [hH] at tf
 have hbf := hb.tr tf
 let cc : Cfg := ⟨c.g, I', c.w, []⟩
 have hccok : cc.Ok := ⟨fun k o h => by simp [cc] at h, fun i j oi oj b h => by simp [cc] at h, fun k o b h => by simp [cc] at h, fun b o h => tf.ok.imm b o h, fun b o k ob _ h => by simp [cc] at h⟩
 have hccb : Base X cc := ⟨hb.below, fun b o h => hbf.imm b o h, fun b ⟨k, o, h, _⟩ => by simp [cc] at h⟩
 have hown : ∀ b, ¬ cc.Owns b := fun b ⟨k, o, h, _⟩ => by simp [cc] at h
 have hdead : ∀ (g : Nat -> GO) (k : Nat) (o : HObj) (b : Nat), ([.dead] : List HObj)[k]? = some o -> blk g k o ≠ some b := fun g k o b h => by
  cases k with
  | zero => simp at h; subst h; simp [blk]
  | succ k => simp at h
 refine (h.2 cc cargs hccok hccb rfl (by omega) fun j av hj => ?_).mono ?_
 ·have hlt : j < args.length := by rw [<- hlen]; exact (List.getElem?_eq_some_iff.1 hj).1
  obtain ⟨v, k1, k2⟩ := hargs j args[j] (List.getElem?_eq_getElem hlt)
  refine ⟨v, k1, ?_⟩
  have e1 := (frzF_le (F := [0]) (H := [.list e es n fn ver]) args[j]).reads hok (I' := I') (fun k e es n f ver hk => by rw [hL]; exact (only_list hk).1) (fun b o hI => (tf.keep b o hI).1)
   (fun k e es n f ver b hk hb o => by
    have q := (only_list hk).1
    cases k with
    | zero => exact hF 0 (List.mem_singleton.2 rfl) (.list e es n f ver) b (by rw [hL]; exact q) hb o
    | succ k => simp at q) k2
  have e2 := (hl.at j (frzF [0] [.list e es n fn ver] args[j]) av (by simp [List.getElem?_eq_getElem hlt]) hj).reads e1
  exact AV.free_reads (g' := c.g) _ _ _ _ (List.all_eq_true.1 hfree _ (List.mem_of_getElem? hj)) e2
 ·rintro x w' ⟨v, cc', rfl, rfl, htr, hH', hread⟩
  have hr2 : (⟨c.g, cc'.I, cc'.w, [.dead]⟩ : Cfg).Reads r v := Reads.mono' (M := 0) (g := cc'.g) (I := cc'.I) (w := cc'.w) (fun k hk => absurd hk (Nat.not_lt_zero k)) (fun b o h => ⟨h, rfl⟩) r 0 _ v (Nat.le_refl _) (Nat.zero_le _) (AV.free_reads (g' := c.g) r _ 0 v hr hread)
  refine ⟨v, ⟨c.g, cc'.I, cc'.w, [.dead]⟩, rfl, rfl, tf.trans ?_, rfl, hr2⟩
  refine ⟨⟨fun k o h => ?_, fun i j oi oj b h hj _ hb => absurd hb (hdead _ _ _ _ h), fun k o b h hb => absurd hb (hdead _ _ _ _ h), htr.ok.imm, fun b o k ob _ h => hdead _ _ _ _ h⟩, Nat.le_refl _, fun k hk => ⟨fun _ => rfl, Nat.le_refl _, fun _ => rfl⟩, htr.keep, fun b o h => ?_, fun b ⟨k, o, h, hb⟩ => absurd hb (hdead _ _ _ _ h), htr.os, htr.tape, htr.output, htr.size, fun b hb _ => htr.block b hb (hown b)⟩
  ·cases k with
   | zero => simp at h; subst h; trivial
   | succ k => simp at h
  ·rcases htr.new b o h with q | q | q
   ·exact .inl q
   ·exact .inr (.inl q)
   ·exact absurd q (hown b)
end Go.Fx
