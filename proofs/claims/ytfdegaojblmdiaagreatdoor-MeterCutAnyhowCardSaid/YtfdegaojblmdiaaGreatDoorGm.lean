/-
  Ticks, one by one; logs cut and joined.
-/
import Derived.Test.YtfdegaojblmdiaaGreatDoorGy
import Derived.Test.YtfdegaojblmdiaaGreatDoorGs

set_option linter.all false

/-
  Ticks, one by one: pieces of several seconds are what the seconds are.
-/
namespace Go.Fx
open Go.Proofs

theorem cb_eq {t : Trf} {l l' : Log} (h : l'.c = l.c) (ps ru b tk : Int) : cbQ t l' ps ru b tk = cbQ t l ps ru b tk := by unfold cbQ scnQ; rw [h]
def lkId {t : Trf} {l l' : Log} (hc : 1 ≤ l.c ∧ l.c ≤ 100000) (h1 : l'.c = l.c) (h2 : l'.d = l.d) (h3 : l'.t = l.t) : Lock t l l' true := {
  Q := fun a b a' b' => (0 ≤ a ∧ 0 ≤ b) ∧ a' = a ∧ b' = b
  d := h2
  s := h3
  pos := fun h => by omega
  sgn := fun h => by omega
  zero := fun h => by omega
  start := by omega
  add := fun {a b a' b'} ps ru tk hR h => by
    obtain ⟨⟨ha, hb⟩, rfl, rfl⟩ := h
    have n := cb_nn (l := l) (ps := ps) (tk := tk) hR hc hb
    rw [cb_eq h1]
    exact ⟨⟨by omega, Int.le_refl _⟩, rfl, rfl⟩
  stp := fun {a b a' b'} h => by
    obtain ⟨_, rfl, _⟩ := h
    rw [h1]
    exact ⟨Int.le_refl _, fun _ => rfl⟩ }
section
variable {t : Trf} {l : Log}
theorem lk_refl {l' : Log} {hc : 1 ≤ l.c ∧ l.c ≤ 100000} {h1 : l'.c = l.c} {h2 : l'.d = l.d} {h3 : l'.t = l.t} {s : Mc} (hp : 0 ≤ s.pa) (hs : 0 ≤ s.si) : Lk (lkId (t := t) hc h1 h2 h3) s s := ⟨rfl, rfl, rfl, rfl, rfl, ⟨⟨hp, hs⟩, rfl, rfl⟩, fun _ => rfl⟩
theorem Lk.pq {l' : Log} {hc : 1 ≤ l.c ∧ l.c ≤ 100000} {h1 : l'.c = l.c} {h2 : l'.d = l.d} {h3 : l'.t = l.t} {s s' : Mc} (h : Lk (lkId (t := t) hc h1 h2 h3) s s') : (0 ≤ s.pa ∧ 0 ≤ s.si) ∧ s'.pa = s.pa ∧ s'.si = s.si := h.q
theorem Lk.symm {hc : 1 ≤ l.c ∧ l.c ≤ 100000} {s s' : Mc} (h : Lk (lkId (t := t) (l' := l) hc rfl rfl rfl) s s') : Lk (lkId (t := t) (l' := l) hc rfl rfl rfl) s' s :=
  ⟨h.tk.symm, h.ps.symm, h.zn.symm, h.st.symm, h.ex.symm, by
    have q := h.pq
    show (0 ≤ s'.pa ∧ 0 ≤ s'.si) ∧ s.pa = s'.pa ∧ s.si = s'.si
    omega, fun e => (h.fa e).symm⟩
theorem Lk.trans {l' l'' : Log} {hc : 1 ≤ l.c ∧ l.c ≤ 100000} {h1 : l'.c = l.c} {h2 : l'.d = l.d} {h3 : l'.t = l.t} {hc' : 1 ≤ l'.c ∧ l'.c ≤ 100000} {k1 : l''.c = l'.c} {k2 : l''.d = l'.d} {k3 : l''.t = l'.t} {s s' s'' : Mc}
    (h : Lk (lkId (t := t) hc h1 h2 h3) s s') (k : Lk (lkId (t := t) hc' k1 k2 k3) s' s'') : Lk (lkId (t := t) hc (k1.trans h1) (k2.trans h2) (k3.trans h3)) s s'' :=
  ⟨k.tk.trans h.tk, k.ps.trans h.ps, k.zn.trans h.zn, k.st.trans h.st, k.ex.trans h.ex, by
    have q := h.pq; have r := k.pq
    show (0 ≤ s.pa ∧ 0 ≤ s.si) ∧ s''.pa = s.pa ∧ s''.si = s.si
    omega, fun e => (k.fa e).trans (h.fa e)⟩

theorem Lk.tr {hc : 1 ≤ l.c ∧ l.c ≤ 100000} {s s' s'' : Mc} (h : Lk (lkId (t := t) (l' := l) hc rfl rfl rfl) s s') (k : Lk (lkId (t := t) (l' := l) hc rfl rfl rfl) s' s'') : Lk (lkId (t := t) (l' := l) hc rfl rfl rfl) s s'' := Lk.trans h k

def sqF (t : Trf) (l : Log) : Nat → Mc → Mc × Int
  | 0, s => (s, 0)
  | f + 1, s => bif decide (rdE t l s = 0) then (bif decide (1000000000 < mFare t l (rdS t l s 1)) then (rdS t l s 1, 8) else sqF t l f (rdS t l s 1)) else (s, rdE t l s)
theorem sq_e {f : Nat} {s : Mc} (e : rdE t l s ≠ 0) : sqF t l (f + 1) s = (s, rdE t l s) := by simp only [sqF]; rw [decide_eq_false e]; rfl
theorem sq_8 {f : Nat} {s : Mc} (e : rdE t l s = 0) (c : 1000000000 < mFare t l (rdS t l s 1)) : sqF t l (f + 1) s = (rdS t l s 1, 8) := by simp only [sqF]; rw [e, decide_eq_true c]; rfl
theorem sq_s {f : Nat} {s : Mc} (e : rdE t l s = 0) (c : ¬ 1000000000 < mFare t l (rdS t l s 1)) : sqF t l (f + 1) s = sqF t l f (rdS t l s 1) := by
  conv => lhs; simp only [sqF]
  rw [e, decide_eq_false c]; rfl
theorem Lk.sq {l' : Log} {K : Lock t l l' true} (ht : trfE t = 0) : ∀ (f : Nat) {s s' : Mc}, Lk K s s' →
    (sqF t l' f s').2 = (sqF t l f s).2 ∧ ((sqF t l f s).2 = 0 → Lk K (sqF t l f s).1 (sqF t l' f s').1)
  | 0, s, s', h => ⟨rfl, fun _ => h⟩
  | f + 1, s, s', h => by
    by_cases e : rdE t l s = 0
    · have e' : rdE t l' s' = 0 := h.rde.trans e
      have hr := h.rd ht 1 e
      have hf := (hr.fare ht).2 rfl
      by_cases c : 1000000000 < mFare t l (rdS t l s 1)
      · rw [sq_8 e c, sq_8 e' (by omega)]; exact ⟨rfl, fun h => (by cases h)⟩
      · rw [sq_s e c, sq_s e' (by omega)]; exact Lk.sq ht f hr
    · rw [sq_e e, sq_e (by rw [h.rde]; exact e), h.rde]; exact ⟨rfl, fun h => absurd h e⟩
theorem sq_add : ∀ (a b : Nat) (s : Mc), sqF t l (a + b) s = bif decide ((sqF t l a s).2 = 0) then sqF t l b (sqF t l a s).1 else sqF t l a s
  | 0, b, s => by rw [Nat.zero_add]; rfl
  | a + 1, b, s => by
    rw [show a + 1 + b = (a + b) + 1 by omega]
    by_cases e : rdE t l s = 0
    · by_cases c : 1000000000 < mFare t l (rdS t l s 1)
      · rw [sq_8 e c, sq_8 e c]; rfl
      · rw [sq_s e c, sq_s e c]; exact sq_add a b _
    · rw [sq_e e, sq_e e]
      show _ = bif decide (rdE t l s = 0) then _ else _
      rw [decide_eq_false e]; rfl
theorem sq_fare : ∀ (m : Nat) (s : Mc), (sqF t l (m + 1) s).2 = 0 → mFare t l (sqF t l (m + 1) s).1 ≤ 1000000000
  | m, s, h => by
    by_cases e : rdE t l s = 0
    · by_cases c : 1000000000 < mFare t l (rdS t l s 1)
      · rw [sq_8 e c] at h; cases h
      · rw [sq_s e c] at h ⊢
        cases m with
        | zero => show mFare t l (rdS t l s 1) ≤ _; omega
        | succ m => exact sq_fare m _ h
    · rw [sq_e e] at h; exact absurd h e

theorem fare_eq {s s' : Mc} (h1 : s'.ps = s.ps) (h2 : s'.st = s.st) (h3 : s'.ex = s.ex) (h4 : s'.pa = s.pa) : mFare t l s' = mFare t l s := by unfold mFare mStp; rw [h1, h2, h3, h4]
theorem fare_le {s s' : Mc} (g : Gd t l) (h1 : s'.ps = s.ps) (h2 : s'.st = s.st) (h3 : s'.ex = s.ex) (h0 : 0 ≤ s.pa) (h4 : s.pa ≤ s'.pa) : mFare t l s ≤ mFare t l s' := by
  have u := trf_unit g.trf
  have gh := gd_head g.al
  by_cases z : s.ps = 0
  · rw [fare_0 z, fare_0 (h1.trans z)]; exact Int.le_refl _
  · have z' : s'.ps ≠ 0 := by rw [h1]; exact z
    by_cases hp : 0 < t.step
    · rw [fare_1 z hp, fare_1 z' hp, h2, h3]
      have d : mStp t l s ≤ mStp t l s' := by unfold mStp; exact tdiv_mono h0 h4 (uc_bd u.1 gh.1).1
      have e : min (mStp t l s) ((1000000000 : Int).tdiv t.step + 1) ≤ min (mStp t l s') ((1000000000 : Int).tdiv t.step + 1) := by omega
      have := Int.mul_le_mul_of_nonneg_right e (show 0 ≤ t.step by omega)
      omega
    · rw [fare_2 z hp, fare_2 z' hp, h2, h3]; exact Int.le_refl _

theorem sq_off (g : Gd t l) : ∀ (m : Nat) (s : Mc), rnB s = false → 0 ≤ s.pa →
    (1000000000 < mFare t l s → (sqF t l (m + 1) s).2 = 8) ∧ (¬ 1000000000 < mFare t l s → (sqF t l (m + 1) s).2 = 0 ∧ Lk (lkId (t := t) (l' := l) (gd_head g.al).1 rfl rfl rfl) { s with si := 0, tk := s.tk + ((m : Int) + 1) } (sqF t l (m + 1) s).1)
  | m, s, hr, hp => by
    have e : rdE t l s = 0 := rdE_f hr
    have r : rdS t l s 1 = { ntS t l s 0 0 1 with si := 0, tk := s.tk + 1 } := (rdS_3 hr).2
    rw [nt_eq, nta_f hr] at r
    have f : mFare t l (rdS t l s 1) = mFare t l s := by rw [r]; exact fare_eq rfl rfl rfl rfl
    refine ⟨fun c => by rw [sq_8 e (by rw [f]; exact c)], fun c => ?_⟩
    rw [sq_s e (by rw [f]; exact c)]
    cases m with
    | zero =>
      refine ⟨rfl, ?_⟩
      show Lk _ _ (rdS t l s 1)
      rw [r]
      exact ⟨by show s.tk + 1 = s.tk + (((0 : Nat) : Int) + 1); omega, rfl, rfl, rfl, rfl, ⟨⟨hp, Int.le_refl _⟩, rfl, rfl⟩, fun _ => rfl⟩
    | succ m =>
      have w := (sq_off g m (rdS t l s 1) (by rw [r]; exact hr) (by rw [r]; exact hp)).2 (by rw [f]; exact c)
      refine ⟨w.1, ?_⟩
      have w2 := w.2
      refine Lk.tr ?_ w2
      rw [r]
      exact ⟨by show s.tk + 1 + ((m : Int) + 1) = s.tk + (((m + 1 : Nat) : Int) + 1); omega, rfl, rfl, rfl, rfl, ⟨⟨hp, Int.le_refl _⟩, rfl, rfl⟩, fun _ => rfl⟩

theorem std_next {x : Int} : ∀ {l : List Int}, 2 ≤ stdL x l → stdL (x + 1) l = stdL x l - 1
  | [], h => by simp [stdL] at h
  | m :: r, h => by
    simp only [stdL] at h ⊢
    by_cases c : x < m
    · rw [decide_eq_true c] at h ⊢
      have h : 2 ≤ m - x := h
      rw [decide_eq_true (show x + 1 < m by omega)]
      show m - (x + 1) = m - x - 1; omega
    · rw [decide_eq_false c] at h ⊢
      rw [decide_eq_false (show ¬ x + 1 < m by omega)]
      exact std_next (l := r) h
theorem std_gap {x : Int} : ∀ {l : List Int}, l.Pairwise (· ≤ ·) → 2 ≤ stdL x l → ∀ m ∈ l, m ≤ x ∨ x + 2 ≤ m
  | [], _, _, m, hm => by simp at hm
  | a :: r, hs, h, m, hm => by
    simp only [stdL] at h
    have hp := List.pairwise_cons.1 hs
    by_cases c : x < a
    · rw [decide_eq_true c] at h
      have h : 2 ≤ a - x := h
      rcases List.mem_cons.1 hm with rfl | q
      · right; omega
      · have := hp.1 m q; right; omega
    · rw [decide_eq_false c] at h
      rcases List.mem_cons.1 hm with rfl | q
      · left; omega
      · exact std_gap (l := r) hp.2 h m q
theorem mrkL_has (t : Trf) : ∀ n, 86400 ∈ mrkL t n ∧ ∀ j, j < n → (t.rules.getD j rul0).bg ∈ mrkL t n ∧ (t.rules.getD j rul0).en ∈ mrkL t n
  | 0 => ⟨by simp [mrkL], fun j hj => absurd hj (Nat.not_lt_zero j)⟩
  | n + 1 => by
    have ih := mrkL_has t n
    simp only [mrkL]
    refine ⟨List.mem_append_left _ ih.1, fun j hj => ?_⟩
    rcases Nat.lt_succ_iff_lt_or_eq.1 hj with q | q
    · exact ⟨List.mem_append_left _ (ih.2 j q).1, List.mem_append_left _ (ih.2 j q).2⟩
    · subst q; exact ⟨List.mem_append_right _ (by simp), List.mem_append_right _ (by simp)⟩
theorem mrk_srt (t : Trf) : (mrkS t).Pairwise (· ≤ ·) := by unfold mrkS; exact sortI_srt _
theorem nx_sec {s s1 : Mc} (ht : trfE t = 0) (h0 : 0 ≤ secM l s) (hk : s1.tk = s.tk + 1) (hz : s1.zn = s.zn) (h2 : 2 ≤ stdQ t l s) :
    stdQ t l s1 = stdQ t l s - 1 ∧ (mrE t l s = 0 → mrE t l s1 = 0 ∧ mrN t l s1 = mrN t l s) := by
  have h2' : 2 ≤ stdL (nowM l s).s (mrkS t) := by unfold stdQ at h2; exact h2
  have gap := std_gap (mrk_srt t) h2'
  have h4 := gap 86400 (mrkS_mem.2 (mrkL_has t _).1)
  have e1 : secM l s1 = secM l s + 1 := by unfold secM; rw [hk]; omega
  have b1 : (nowM l s).s = secM l s % 86400 := by unfold nowM; exact Int.tmod_eq_emod_of_nonneg h0
  have b2 : (nowM l s).d = secM l s / 86400 := by unfold nowM; exact Int.tdiv_eq_ediv_of_nonneg h0
  have c1 : (nowM l s1).s = (secM l s + 1) % 86400 := by unfold nowM; rw [e1]; exact Int.tmod_eq_emod_of_nonneg (by omega)
  have c2 : (nowM l s1).d = (secM l s + 1) / 86400 := by unfold nowM; rw [e1]; exact Int.tdiv_eq_ediv_of_nonneg (by omega)
  have n1 : (nowM l s1).s = (nowM l s).s + 1 := by omega
  have n2 : (nowM l s1).d = (nowM l s).d := by omega
  have n0 : 0 ≤ (nowM l s).s := by omega
  have n3 : (nowM l s).s + 2 ≤ 86400 := by omega
  have en : nowM l s1 = ⟨(nowM l s).d, (nowM l s).s + 1⟩ := by rw [← n1, ← n2]
  refine ⟨by unfold stdQ; rw [n1]; exact std_next h2', fun e => ?_⟩
  have w := mr_at e
  obtain ⟨_, _, _, _, gt⟩ := ruleAt_ok' w.2.1
  have gk := gate_ok.1 gt
  have em : mnE l s1 = mnE l s := by unfold mnE; rw [n2]
  have eh : holdI t ⟨s1.zn, nowM l s1⟩ t.rules.length = holdI t ⟨s.zn, nowM l s⟩ t.rules.length := by
    rw [hz, en]
    refine holdI_same (z := s.zn) (d := (nowM l s).d) (a := (nowM l s).s) (b := (nowM l s).s + 1) ht (by omega) (by omega) (fun x hx => ?_) _ (Nat.le_refl _)
    rcases (times_mem ht).1 hx with q | ⟨j, hj, q, _⟩
    · left; omega
    · have m := (mrkL_has t t.rules.length).2 j hj
      have hx : x ≤ (nowM l s).s ∨ (nowM l s).s + 2 ≤ x := by
        rcases q with q | q
        · rw [q]; exact gap _ (mrkS_mem.2 m.1)
        · rw [q]; exact gap _ (mrkS_mem.2 m.2)
      omega
  have g1 : gateE t ⟨s1.zn, nowM l s1⟩ = 0 := by
    refine gate_ok.2 ⟨ht, by rw [hz]; exact gk.2.1, ?_⟩
    have k := gk.2.2
    rw [en]
    unfold momB at k ⊢
    have k1 := and_t k
    have k2 := inB_iff.1 k1.2
    rw [k1.1, inB_iff.2 (show 0 ≤ (nowM l s).s + 1 ∧ (nowM l s).s + 1 ≤ 86399 by omega)]; rfl
  have r1 := ruleAt_0 g1
  have r0 := ruleAt_0 gt
  rw [eh, ← r0.1, ← r0.2] at r1
  unfold mrE mrN
  rw [em, w.1, r1.1, r1.2]
  exact ⟨w.2.1, rfl⟩

def pcS (t : Trf) (l : Log) (s : Mc) (m : Int) : Mc := { ntS t l s (mrN t l s) s.si m with si := 0, tk := s.tk + m }
theorem cb_lin {ps ru m : Int} (hm : 1 ≤ m) : cbQ t l ps ru 0 m = cbQ t l ps ru 0 1 * m := by
  unfold cbQ
  rw [decide_eq_true (show 0 < m by omega), show max 1 m = m by omega, show decide ((0 : Int) < 1) = true from rfl, show max (1 : Int) 1 = 1 from rfl, Int.mul_one]
theorem pc_eq {s : Mc} (hr : rnB s = true) (m : Int) : (pcS t l s m).tk = s.tk + m ∧ (pcS t l s m).ps = s.ps ∧ (pcS t l s m).zn = s.zn ∧ (pcS t l s m).st = s.st ∧ (pcS t l s m).ex = s.ex ∧ (pcS t l s m).pa = s.pa + cbQ t l s.ps (mrN t l s) s.si m ∧ (pcS t l s m).si = 0 ∧ (pcS t l s m).tr = s.tr := by
  unfold pcS; rw [nt_eq, nta_cb hr]; exact ⟨rfl, rfl, rfl, rfl, rfl, rfl, rfl, rfl⟩
theorem rd_one {s : Mc} (hr : rnB s = true) : rdS t l s 1 = pcS t l s 1 := by
  by_cases h : 0 < s.si
  · exact (rdS_1 hr h).2
  · have k : 1 ≤ stdQ t l s := by unfold stdQ; exact std_ge _ _
    rw [(rdS_2 hr h).2, show min 1 (stdQ t l s) = 1 by omega]; rfl
theorem sq_run (g : Gd t l) : ∀ (m : Nat) (s : Mc), rnB s = true → s.si = 0 → 0 ≤ s.pa → 0 ≤ s.tk → mrE t l s = 0 → (m : Int) + 1 ≤ stdQ t l s →
    (1000000000 < mFare t l (pcS t l s ((m : Int) + 1)) → (sqF t l (m + 1) s).2 = 8) ∧
    (¬ 1000000000 < mFare t l (pcS t l s ((m : Int) + 1)) → (sqF t l (m + 1) s).2 = 0 ∧ Lk (lkId (t := t) (l' := l) (gd_head g.al).1 rfl rfl rfl) (pcS t l s ((m : Int) + 1)) (sqF t l (m + 1) s).1)
  | m, s, hr, hs, hp, hk, he, hn => by
    have gh := gd_head g.al
    have e : rdE t l s = 0 := (rdE_t hr).trans he
    have hR := mr_rule g.trf he
    have u0 := cb_nn (l := l) (ps := s.ps) (tk := 1) hR gh.1 (Int.le_refl 0)
    have p1 := pc_eq (t := t) (l := l) hr 1
    have pm := pc_eq (t := t) (l := l) hr ((m : Int) + 1)
    rw [hs] at p1 pm
    rw [cb_lin (show (1 : Int) ≤ (m : Int) + 1 by omega)] at pm
    have nn1 : 0 ≤ (pcS t l s 1).pa := by rw [p1.2.2.2.2.2.1]; omega
    cases m with
    | zero =>
      have z : ((0 : Nat) : Int) + 1 = 1 := rfl
      rw [z]
      refine ⟨fun c => by rw [sq_8 e (by rw [rd_one hr]; exact c)], fun c => ?_⟩
      rw [sq_s e (by rw [rd_one hr]; exact c), rd_one hr]
      exact ⟨rfl, lk_refl nn1 (by rw [p1.2.2.2.2.2.2.1]; exact Int.le_refl _)⟩
    | succ m =>
      have nx := nx_sec (l := l) (s := s) (s1 := pcS t l s 1) g.trf (by unfold secM; omega) p1.1 p1.2.2.1 (by omega)
      have hr1 : rnB (pcS t l s 1) = true := by unfold rnB; rw [p1.2.1]; exact hr
      have mr1 := nx.2 he
      have ih := sq_run g m (pcS t l s 1) hr1 p1.2.2.2.2.2.2.1 nn1 (by rw [p1.1]; omega) mr1.1 (by rw [nx.1]; omega)
      have q1 := pc_eq (t := t) (l := l) hr1 ((m : Int) + 1)
      rw [p1.2.2.2.2.2.2.1, cb_lin (show (1 : Int) ≤ (m : Int) + 1 by omega), mr1.2, p1.2.1] at q1
      have epa : (pcS t l (pcS t l s 1) ((m : Int) + 1)).pa = (pcS t l s (((m + 1 : Nat) : Int) + 1)).pa := by
        have e1 : ∀ u : Int, u * (((m + 1 : Nat) : Int) + 1) = u + u * ((m : Int) + 1) := fun u => by rw [show (((m + 1 : Nat) : Int) + 1) = 1 + ((m : Int) + 1) by omega, Int.mul_add, Int.mul_one]
        rw [q1.2.2.2.2.2.1, pm.2.2.2.2.2.1, p1.2.2.2.2.2.1, e1]; omega
      have L : Lk (lkId (t := t) (l' := l) gh.1 rfl rfl rfl) (pcS t l s (((m + 1 : Nat) : Int) + 1)) (pcS t l (pcS t l s 1) ((m : Int) + 1)) := by
        refine ⟨by rw [q1.1, pm.1, p1.1]; omega, by rw [q1.2.1, pm.2.1], by rw [q1.2.2.1, pm.2.2.1, p1.2.2.1], by rw [q1.2.2.2.1, pm.2.2.2.1, p1.2.2.2.1], by rw [q1.2.2.2.2.1, pm.2.2.2.2.1, p1.2.2.2.2.1], ⟨⟨?_, ?_⟩, epa, by rw [q1.2.2.2.2.2.2.1, pm.2.2.2.2.2.2.1]⟩, fun _ => by rw [q1.2.2.2.2.2.2.2, pm.2.2.2.2.2.2.2, p1.2.2.2.2.2.2.2]⟩
        · rw [pm.2.2.2.2.2.1]
          have := Int.mul_nonneg u0 (show (0 : Int) ≤ ((m + 1 : Nat) : Int) + 1 by omega)
          omega
        · rw [pm.2.2.2.2.2.2.1]; exact Int.le_refl _
      have fe := (L.fare g.trf).2 rfl
      have f1 : mFare t l (pcS t l s 1) ≤ mFare t l (pcS t l (pcS t l s 1) ((m : Int) + 1)) := by
        refine fare_le g (by rw [q1.2.1, p1.2.1]) (by rw [q1.2.2.2.1]) (by rw [q1.2.2.2.2.1]) nn1 ?_
        rw [q1.2.2.2.2.2.1]
        have := Int.mul_nonneg u0 (show (0 : Int) ≤ (m : Int) + 1 by omega)
        omega
      by_cases c1 : 1000000000 < mFare t l (rdS t l s 1)
      · rw [sq_8 e c1]
        rw [rd_one hr] at c1
        exact ⟨fun _ => rfl, fun c => absurd c (by omega)⟩
      · rw [sq_s e c1, rd_one hr]
        refine ⟨fun c => ih.1 (by omega), fun c => ?_⟩
        have w := ih.2 (by omega)
        exact ⟨w.1, Lk.tr L w.2⟩

theorem tkF_tk : ∀ (f : Nat) (s : Mc) (n : Int), 0 ≤ s.tk → 0 ≤ (tkF t l f s n).1.tk
  | 0, s, n, h => h
  | f + 1, s, n, h => by
    unfold tkF
    by_cases q : 0 < n
    · rw [decide_eq_true q]
      have b := rdK_bd (t := t) (l := l) (s := s) q
      have r : (rdS t l s n).tk = s.tk + rdK t l s n := by rw [rdS_eq]
      by_cases e : rdE t l s = 0
      · rw [e]
        by_cases c : 1000000000 < mFare t l (rdS t l s n)
        · rw [decide_eq_true c]; show 0 ≤ (rdS t l s n).tk; omega
        · rw [decide_eq_false c]; exact tkF_tk f _ _ (by omega)
      · rw [decide_eq_false e]; exact h
    · rw [decide_eq_false q]; exact h
theorem tk_sqF (g : Gd t l) : ∀ (f : Nat) (s : Mc) (n : Int), n ≤ f → 0 ≤ s.pa → 0 ≤ s.si → 0 ≤ s.tk →
    (tkF t l f s n).2 = (sqF t l n.toNat s).2 ∧ ((tkF t l f s n).2 = 0 → Lk (lkId (t := t) (l' := l) (gd_head g.al).1 rfl rfl rfl) (sqF t l n.toNat s).1 (tkF t l f s n).1)
  | 0, s, n, h, hp, hs, hk => by rw [show n.toNat = 0 by omega]; exact ⟨rfl, fun _ => lk_refl hp hs⟩
  | f + 1, s, n, h, hp, hs, hk => by
    have gh := gd_head g.al
    unfold tkF
    by_cases q : 0 < n
    · rw [decide_eq_true q]
      obtain ⟨m, hm⟩ : ∃ m : Nat, n.toNat = m + 1 := ⟨n.toNat - 1, by omega⟩
      by_cases e : rdE t l s = 0
      · rw [e]
        have b := rdK_bd (t := t) (l := l) (s := s) q
        cases hr : rnB s with
        | false =>
          have r3 := rdS_3 (t := t) (l := l) (s := s) (n := n) hr
          have r3' := r3.2
          rw [nt_eq, nta_f hr] at r3'
          have ff : mFare t l (rdS t l s n) = mFare t l s := by rw [r3']; exact fare_eq rfl rfl rfl rfl
          have so := sq_off g m s hr hp
          rw [hm, ff]
          by_cases c : 1000000000 < mFare t l s
          · rw [decide_eq_true c]; exact ⟨(so.1 c).symm, fun h => (by cases h)⟩
          · rw [decide_eq_false c, r3.1]
            have so2 := so.2 c
            have ih := tk_sqF g f (rdS t l s n) (n - n) (by omega) (by rw [r3']; exact hp) (by rw [r3']; exact Int.le_refl _) (by rw [r3']; show 0 ≤ s.tk + n; omega)
            rw [show (n - n).toNat = 0 by omega] at ih
            show (tkF t l f (rdS t l s n) (n - n)).2 = _ ∧ ((tkF t l f (rdS t l s n) (n - n)).2 = 0 → Lk _ _ (tkF t l f (rdS t l s n) (n - n)).1)
            refine ⟨ih.1.trans so2.1.symm, fun z => ?_⟩
            have w := ih.2 z
            refine Lk.tr ?_ w
            refine Lk.tr so2.2.symm ?_
            show Lk _ _ (rdS t l s n)
            rw [r3']
            exact ⟨by show s.tk + n = s.tk + ((m : Int) + 1); omega, rfl, rfl, rfl, rfl, ⟨⟨hp, Int.le_refl _⟩, rfl, rfl⟩, fun _ => rfl⟩
        | true =>
          have he : mrE t l s = 0 := (rdE_t hr).symm.trans e
          have hR := mr_rule g.trf he
          by_cases hz : 0 < s.si
          · have r1 := rdS_1 (t := t) (l := l) (n := n) hr hz
            have ro : rdS t l s n = rdS t l s 1 := by rw [r1.2, (rdS_1 (n := 1) hr hz).2]
            have p1 := pc_eq (t := t) (l := l) hr 1
            have nb := cb_nn (l := l) (ps := s.ps) (tk := 1) hR gh.1 hs
            rw [hm, ro, r1.1]
            by_cases c : 1000000000 < mFare t l (rdS t l s 1)
            · rw [decide_eq_true c, sq_8 e c]; exact ⟨rfl, fun h => (by cases h)⟩
            · rw [decide_eq_false c, sq_s e c]
              have ih := tk_sqF g f (rdS t l s 1) (n - 1) (by omega) (by rw [rd_one hr, p1.2.2.2.2.2.1]; omega) (by rw [rd_one hr, p1.2.2.2.2.2.2.1]; exact Int.le_refl _) (by rw [rd_one hr, p1.1]; omega)
              rw [show (n - 1).toNat = m by omega] at ih
              exact ih
          · have hz0 : s.si = 0 := by omega
            have r2 := rdS_2 (t := t) (l := l) (n := n) hr hz
            have kb : 1 ≤ stdQ t l s := by unfold stdQ; exact std_ge _ _
            obtain ⟨j, hj⟩ : ∃ j : Nat, min n (stdQ t l s) = (j : Int) + 1 := ⟨(min n (stdQ t l s)).toNat - 1, by omega⟩
            have rp : rdS t l s n = pcS t l s ((j : Int) + 1) := by rw [r2.2, hj]; rfl
            have sr := sq_run g j s hr hz0 hp hk he (by omega)
            have pj := pc_eq (t := t) (l := l) hr ((j : Int) + 1)
            have nb := cb_nn (l := l) (ps := s.ps) (tk := (j : Int) + 1) hR gh.1 hs
            rw [show n.toNat = (j + 1) + (n - ((j : Int) + 1)).toNat by omega, sq_add, rp, r2.1, hj]
            by_cases c : 1000000000 < mFare t l (pcS t l s ((j : Int) + 1))
            · rw [decide_eq_true c, sr.1 c]; exact ⟨(sr.1 c).symm, fun h => (by cases h)⟩
            · rw [decide_eq_false c]
              have sr2 := sr.2 c
              rw [sr2.1]
              have ih := tk_sqF g f (pcS t l s ((j : Int) + 1)) (n - ((j : Int) + 1)) (by omega) (by rw [pj.2.2.2.2.2.1]; omega) (by rw [pj.2.2.2.2.2.2.1]; exact Int.le_refl _) (by rw [pj.1]; omega)
              have sq := Lk.sq g.trf (n - ((j : Int) + 1)).toNat sr2.2
              show (tkF t l f (pcS t l s ((j : Int) + 1)) (n - ((j : Int) + 1))).2 = (sqF t l (n - ((j : Int) + 1)).toNat (sqF t l (j + 1) s).1).2 ∧ ((tkF t l f (pcS t l s ((j : Int) + 1)) (n - ((j : Int) + 1))).2 = 0 → Lk _ (sqF t l (n - ((j : Int) + 1)).toNat (sqF t l (j + 1) s).1).1 (tkF t l f (pcS t l s ((j : Int) + 1)) (n - ((j : Int) + 1))).1)
              refine ⟨ih.1.trans sq.1.symm, fun z => ?_⟩
              exact Lk.tr (sq.2 (ih.1.symm.trans z)).symm (ih.2 z)
      · rw [decide_eq_false e, hm, sq_e e]; exact ⟨rfl, fun h => absurd h e⟩
    · rw [decide_eq_false q, show n.toNat = 0 by omega]; exact ⟨rfl, fun _ => lk_refl hp hs⟩
theorem tk_sq (g : Gd t l) {s : Mc} {n : Int} (hp : 0 ≤ s.pa) (hs : 0 ≤ s.si) (hk : 0 ≤ s.tk) :
    tkE t l s n = (sqF t l n.toNat s).2 ∧ (tkE t l s n = 0 → Lk (lkId (t := t) (l' := l) (gd_head g.al).1 rfl rfl rfl) (sqF t l n.toNat s).1 (tkS t l s n)) := by
  unfold tkE tkS; exact tk_sqF g n.toNat s n (by omega) hp hs hk
end
end Go.Fx

/-
  A message cut in two: the meter does the same.
-/
namespace Go.Fx
open Go.Proofs

section
variable {t : Trf} {l : Log}
theorem ev_at0 {s : Mc} {i : Nat} {v : Ev} (hv : l.ev.getD i ev0 = v) (h0 : v.k = 0) : evS_ t l s i = { s with si := s.si + v.n, pu := s.pu + v.n } ∧ (evF t l s i = 0 ↔ mFare t l s ≤ 1000000000) := by
  subst hv
  have w := evF_eq (evG_0 (t := t) (l := l) (s := s) (i := (i : Int)) h0)
  refine ⟨w.1, ?_⟩
  have f : mFare t l { s with si := s.si + (l.ev.getD i ev0).n, pu := s.pu + (l.ev.getD i ev0).n } = mFare t l s := fare_eq rfl rfl rfl rfl
  rw [w.2, f]
  by_cases c : mFare t l s ≤ 1000000000
  · rw [decide_eq_true c]; exact ⟨fun _ => c, fun _ => rfl⟩
  · rw [decide_eq_false c]; exact ⟨fun h => (by cases h), fun h => absurd h c⟩
theorem ev_at1 {s : Mc} {i : Nat} {v : Ev} (hv : l.ev.getD i ev0 = v) (h1 : v.k = 1) : evS_ t l s i = tkS t l s v.n ∧ (evF t l s i = 0 ↔ tkE t l s v.n = 0 ∧ mFare t l (tkS t l s v.n) ≤ 1000000000) := by
  subst hv
  have w := evF_eq (evG_1 (t := t) (l := l) (s := s) (i := (i : Int)) h1)
  refine ⟨w.1, ?_⟩
  rw [w.2]
  constructor
  · intro h
    have z := firstS_zero h
    refine ⟨z _ (by simp), ?_⟩
    have z1 : isOk (decide (mFare t l (tkS t l s (l.ev.getD i ev0).n) ≤ 1000000000)) 8 = 0 := z _ (by simp [isOk])
    exact of_decide_eq_true (isOk_0 z1 (by decide))
  · rintro ⟨a, b⟩
    rw [a, decide_eq_true b]; rfl
theorem tk_fare (g : Gd t l) {s : Mc} {n : Int} (hn : 0 < n) (hp : 0 ≤ s.pa) (hs : 0 ≤ s.si) (hk : 0 ≤ s.tk) (h : tkE t l s n = 0) : mFare t l (tkS t l s n) ≤ 1000000000 := by
  have w := tk_sq g (n := n) hp hs hk
  obtain ⟨m, hm⟩ : ∃ m : Nat, n.toNat = m + 1 := ⟨n.toNat - 1, by omega⟩
  have f := ((w.2 h).fare g.trf).2 rfl
  rw [f, hm]
  rw [hm] at w
  exact sq_fare m s (by rw [← w.1]; exact h)
theorem tk_cut (g : Gd t l) {s : Mc} {a b : Int} (ha : 1 ≤ a) (hb : 1 ≤ b) (hp : 0 ≤ s.pa) (hs : 0 ≤ s.si) (hk : 0 ≤ s.tk) :
    (tkE t l s (a + b) = 0 ↔ tkE t l s a = 0 ∧ tkE t l (tkS t l s a) b = 0) ∧ (tkE t l s (a + b) = 0 → Lk (lkId (t := t) (l' := l) (gd_head g.al).1 rfl rfl rfl) (tkS t l s (a + b)) (tkS t l (tkS t l s a) b)) := by
  have wa := tk_sq g (n := a) hp hs hk
  have wc := tk_sq g (n := a + b) hp hs hk
  have ea : sqF t l (a + b).toNat s = bif decide ((sqF t l a.toNat s).2 = 0) then sqF t l b.toNat (sqF t l a.toNat s).1 else sqF t l a.toNat s := by
    rw [show (a + b).toNat = a.toNat + b.toNat by omega]; exact sq_add _ _ _
  by_cases z : tkE t l s a = 0
  · have La := wa.2 z
    have q := La.pq
    have k1 : 0 ≤ (tkS t l s a).tk := by
      obtain ⟨m, hm⟩ : ∃ m : Nat, a.toNat = m + 1 := ⟨a.toNat - 1, by omega⟩
      unfold tkS
      exact tkF_tk a.toNat s a hk
    have wb := tk_sq g (s := tkS t l s a) (n := b) (by omega) (by omega) k1
    have sq := Lk.sq g.trf b.toNat La
    rw [← wa.1, z] at ea
    have ea : sqF t l (a + b).toNat s = sqF t l b.toNat (sqF t l a.toNat s).1 := ea
    rw [ea] at wc
    refine ⟨⟨fun h => ⟨z, by rw [wb.1, sq.1, ← wc.1]; exact h⟩, fun h => by rw [wc.1, ← sq.1, ← wb.1]; exact h.2⟩, fun h => ?_⟩
    have z2 : (sqF t l b.toNat (sqF t l a.toNat s).1).2 = 0 := by rw [← wc.1]; exact h
    exact (wc.2 h).symm.trans ((sq.2 z2).trans (wb.2 (by rw [wb.1, sq.1]; exact z2)))
  · rw [← wa.1, decide_eq_false z] at ea
    have ea : sqF t l (a + b).toNat s = sqF t l a.toNat s := ea
    rw [ea, ← wa.1] at wc
    exact ⟨⟨fun h => absurd (wc.1.symm.trans h) z, fun h => absurd h.1 z⟩, fun h => absurd (wc.1.symm.trans h) z⟩
end

structure CutOf (l z : Log) (k : Nat) (a b : Int) : Prop where
  c : z.c = l.c
  d : z.d = l.d
  t : z.t = l.t
  hk : k < l.ev.length
  len : z.ev.length = l.ev.length + 1
  lo : ∀ j, j < k → z.ev.getD j ev0 = l.ev.getD j ev0
  at0 : z.ev.getD k ev0 = ⟨(l.ev.getD k ev0).k, a⟩
  at1 : z.ev.getD (k + 1) ev0 = ⟨(l.ev.getD k ev0).k, b⟩
  hi : ∀ j, k < j → j < l.ev.length → z.ev.getD (j + 1) ev0 = l.ev.getD j ev0
  kd : (l.ev.getD k ev0).k = 0 ∨ (l.ev.getD k ev0).k = 1
  n : (l.ev.getD k ev0).n = a + b
  ha : 1 ≤ a
  hb : 1 ≤ b
section
variable {t : Trf} {l z : Log}
def InvC (K : Lock t l z true) (j j' : Nat) : Prop :=
  (Lk K (mcN t l j) (mcN t z j') ∧ (∀ i, i < j → mcE t l i = 0) ∧ (∀ i, i < j' → mcE t z i = 0)) ∨ ((∃ i, i < j ∧ mcE t l i ≠ 0) ∧ (∃ i, i < j' ∧ mcE t z i ≠ 0))
theorem InvC.one {K : Lock t l z true} {j j' : Nat} (ht : trfE t = 0) (h : InvC K j j') (hk : (z.ev.getD j' ev0).k = (l.ev.getD j ev0).k) (hn : (l.ev.getD j ev0).k ≠ 0 → (z.ev.getD j' ev0).n = (l.ev.getD j ev0).n)
    (hp : (l.ev.getD j ev0).k = 0 → ∀ a b a' b', K.Q a b a' b' → K.Q a (b + (l.ev.getD j ev0).n) a' (b' + (z.ev.getD j' ev0).n)) : InvC K (j + 1) (j' + 1) := by
  rcases h with ⟨L, h1, h2⟩ | ⟨⟨i, i1, i2⟩, ⟨i', k1, k2⟩⟩
  · have w := L.ev ht j j' hk hn fun q => hp q _ _ _ _ L.q
    have e : mcE t z j' = mcE t l j := w.2.1 rfl
    by_cases c : mcE t l j = 0
    · exact .inl ⟨w.2.2 c (e.trans c), all_lt h1 c, all_lt h2 (e.trans c)⟩
    · exact .inr ⟨⟨j, by omega, c⟩, ⟨j', by omega, by rw [e]; exact c⟩⟩
  · exact .inr ⟨⟨i, by omega, i2⟩, ⟨i', by omega, k2⟩⟩
theorem InvC.end_ {K : Lock t l z true} {j j' : Nat} (h : InvC K j j') : ((∀ i, i < j → mcE t l i = 0) ↔ (∀ i, i < j' → mcE t z i = 0)) ∧ ((∀ i, i < j → mcE t l i = 0) → Lk K (mcN t l j) (mcN t z j')) := by
  rcases h with ⟨L, h1, h2⟩ | ⟨⟨i, i1, i2⟩, ⟨i', k1, k2⟩⟩
  · exact ⟨⟨fun _ => h2, fun _ => h1⟩, fun _ => L⟩
  · exact ⟨⟨fun h => absurd (h i i1) i2, fun h => absurd (h i' k1) k2⟩, fun h => absurd (h i i1) i2⟩
theorem InvC.cut {k : Nat} {a b : Int} (g : Gd t l) (g' : Gd t z) (C : CutOf l z k a b) (h : InvC (lkId (t := t) (gd_head g.al).1 C.c C.d C.t) k k) : InvC (lkId (t := t) (gd_head g.al).1 C.c C.d C.t) (k + 1) (k + 2) := by
  rcases h with ⟨L, h1, h2⟩ | ⟨⟨i, i1, i2⟩, ⟨i', k1, k2⟩⟩
  · have mo := mcN_ok g k (by have := C.hk; omega)
    have mo' := mcN_ok g' k (by have := C.hk; have := C.len; omega)
    have p0 := mo.pa; have s0 := mo.si; have t0 := mo.tk
    have p1 := mo'.pa; have s1 := mo'.si; have t1 := mo'.tk
    have ha := C.ha; have hb := C.hb
    have key : ((mcE t l k = 0 ↔ mcE t z k = 0 ∧ mcE t z (k + 1) = 0) ∧ (mcE t l k = 0 → Lk (lkId (t := t) (gd_head g.al).1 C.c C.d C.t) (mcN t l (k + 1)) (mcN t z (k + 2)))) := by
      show (evF t l (mcN t l k) k = 0 ↔ evF t z (mcN t z k) k = 0 ∧ evF t z (evS_ t z (mcN t z k) k) (k + 1) = 0) ∧ (evF t l (mcN t l k) k = 0 → Lk _ (evS_ t l (mcN t l k) k) (evS_ t z (evS_ t z (mcN t z k) k) (k + 1)))
      generalize mcN t l k = s at *
      generalize mcN t z k = s' at *
      rcases C.kd with q | q
      · have e0 := ev_at0 (t := t) (s := s) rfl q
        have e1 := ev_at0 (t := t) (s := s') C.at0 q
        have e2 := ev_at0 (t := t) (s := evS_ t z s' k) C.at1 q
        have f := (L.fare g.trf).2 rfl
        have f2 : mFare t z (evS_ t z s' k) = mFare t z s' := by rw [e1.1]; exact fare_eq rfl rfl rfl rfl
        rw [f2] at e2
        refine ⟨by rw [e0.2, e1.2, e2.2, f]; exact ⟨fun h => ⟨h, h⟩, fun h => h.1⟩, fun _ => ?_⟩
        rw [e2.1, e1.1, e0.1]
        refine ⟨L.tk, L.ps, L.zn, L.st, L.ex, ?_, L.fa⟩
        have w := L.pq
        show (0 ≤ s.pa ∧ 0 ≤ s.si + (l.ev.getD k ev0).n) ∧ s'.pa = s.pa ∧ s'.si + a + b = s.si + (l.ev.getD k ev0).n
        have := C.n
        omega
      · have e0 := ev_at1 (t := t) (s := s) rfl q
        have e1 : evS_ t z s' k = tkS t z s' a ∧ (evF t z s' k = 0 ↔ tkE t z s' a = 0 ∧ mFare t z (tkS t z s' a) ≤ 1000000000) := ev_at1 (t := t) (s := s') C.at0 q
        have e2 : evS_ t z (evS_ t z s' k) (k + 1) = tkS t z (evS_ t z s' k) b ∧ (evF t z (evS_ t z s' k) (k + 1) = 0 ↔ tkE t z (evS_ t z s' k) b = 0 ∧ mFare t z (tkS t z (evS_ t z s' k) b) ≤ 1000000000) := ev_at1 (t := t) (s := evS_ t z s' k) C.at1 q
        have n := C.n
        have w := Lk.tkF g.trf (l.ev.getD k ev0).n.toNat (l.ev.getD k ev0).n L
        have wE : tkE t z s' (l.ev.getD k ev0).n = tkE t l s (l.ev.getD k ev0).n := by unfold tkE; exact w.2.1 rfl
        have wL : tkE t l s (l.ev.getD k ev0).n = 0 → Lk (lkId (t := t) (gd_head g.al).1 C.c C.d C.t) (tkS t l s (l.ev.getD k ev0).n) (tkS t z s' (l.ev.getD k ev0).n) := by
          intro h
          have h' := wE.trans h
          unfold tkE at h h'
          unfold tkS
          exact w.2.2 h h'
        have tc := tk_cut g' (s := s') ha hb p1.1 s1.1 t1.1
        rw [n] at e0 wE wL
        rw [e1.1] at e2
        have F := tk_fare g (s := s) (n := a + b) (by omega) p0.1 s0.1 t0.1
        have Fa := tk_fare g' (s := s') (n := a) (by omega) p1.1 s1.1 t1.1
        have E1 : evF t l s k = 0 ↔ tkE t l s (a + b) = 0 := e0.2.trans ⟨fun h => h.1, fun h => ⟨h, F h⟩⟩
        have E2 : evF t z s' k = 0 ↔ tkE t z s' a = 0 := e1.2.trans ⟨fun h => h.1, fun h => ⟨h, Fa h⟩⟩
        have E3 : tkE t z s' a = 0 → (evF t z (tkS t z s' a) (k + 1) = 0 ↔ tkE t z (tkS t z s' a) b = 0) := fun h => by
          have La := (tk_sq g' (n := a) p1.1 s1.1 t1.1).2 h
          have q := La.pq
          have k1 : 0 ≤ (tkS t z s' a).tk := by unfold tkS; exact tkF_tk a.toNat s' a t1.1
          exact e2.2.trans ⟨fun h => h.1, fun h => ⟨h, tk_fare g' (by omega) (by omega) (by omega) k1 h⟩⟩
        rw [e1.1, e2.1, e0.1]
        constructor
        · rw [E1, ← wE, tc.1]
          exact ⟨fun h => ⟨E2.2 h.1, (E3 h.1).2 h.2⟩, fun h => ⟨E2.1 h.1, (E3 (E2.1 h.1)).1 h.2⟩⟩
        · intro h
          have h := E1.1 h
          exact (wL h).trans (tc.2 (wE.trans h))
    by_cases c : mcE t l k = 0
    · have d := key.1.1 c
      exact .inl ⟨key.2 c, all_lt h1 c, all_lt (all_lt h2 d.1) d.2⟩
    · refine .inr ⟨⟨k, by omega, c⟩, ?_⟩
      by_cases d : mcE t z k = 0
      · exact ⟨k + 1, by omega, fun e => c (key.1.2 ⟨d, e⟩)⟩
      · exact ⟨k, by omega, d⟩
  · exact .inr ⟨⟨i, by omega, i2⟩, ⟨i', by omega, k2⟩⟩
theorem id_add {K : Prop} {l z : Log} {hc : 1 ≤ l.c ∧ l.c ≤ 100000} {h1 : z.c = l.c} {h2 : z.d = l.d} {h3 : z.t = l.t} {a b a' b' n : Int} (hn : 0 ≤ n) (h : (lkId (t := t) hc h1 h2 h3).Q a b a' b') : (lkId (t := t) hc h1 h2 h3).Q a (b + n) a' (b' + n) := by
  have h : (0 ≤ a ∧ 0 ≤ b) ∧ a' = a ∧ b' = b := h
  show (0 ≤ a ∧ 0 ≤ b + n) ∧ a' = a ∧ b' + n = b + n
  omega
theorem CutOf.inv {k : Nat} {a b : Int} (g : Gd t l) (g' : Gd t z) (C : CutOf l z k a b) : InvC (lkId (t := t) (gd_head g.al).1 C.c C.d C.t) l.ev.length z.ev.length := by
  have gh := gd_head g.al
  have nn : ∀ j, j < l.ev.length → 0 ≤ (l.ev.getD j ev0).n := fun j hj => (ev_ok (gh.2.2.2.2 j hj)).2.2.2.2.1
  have A : ∀ j, j ≤ k → InvC (lkId (t := t) gh.1 C.c C.d C.t) j j := by
    intro j
    induction j with
    | zero => exact fun _ => .inl ⟨lk_refl (by simp [mcN, mc0]) (by simp [mcN, mc0]), fun i hi => absurd hi (Nat.not_lt_zero i), fun i hi => absurd hi (Nat.not_lt_zero i)⟩
    | succ j ih =>
      intro hj
      have e := C.lo j (by omega)
      exact (ih (by omega)).one g.trf (by rw [e]) (fun _ => by rw [e]) fun _ a b a' b' h => by rw [e]; exact id_add (K := True) (nn j (by have := C.hk; omega)) h
  have B := (A k (Nat.le_refl k)).cut g g' C
  have D : ∀ m, k + 1 + m ≤ l.ev.length → InvC (lkId (t := t) gh.1 C.c C.d C.t) (k + 1 + m) (k + 2 + m) := by
    intro m
    induction m with
    | zero => exact fun _ => B
    | succ m ih =>
      intro hm
      have e := C.hi (k + 1 + m) (by omega) (by omega)
      rw [show k + 1 + m + 1 = k + 2 + m by omega] at e
      exact InvC.one (j := k + 1 + m) (j' := k + 2 + m) g.trf (ih (by omega)) (by rw [e]) (fun _ => by rw [e]) fun _ a b a' b' h => by rw [e]; exact id_add (K := True) (nn _ (by omega)) h
  have hk := C.hk
  have hl := C.len
  have w := D (l.ev.length - (k + 1)) (by omega)
  rw [show k + 1 + (l.ev.length - (k + 1)) = l.ev.length by omega, show k + 2 + (l.ev.length - (k + 1)) = z.ev.length by omega] at w
  exact w
def puN (l : Log) : Nat → Int
  | 0 => 0
  | i + 1 => puN l i + (bif (l.ev.getD i ev0).k == 0 then (l.ev.getD i ev0).n else 0)
theorem po_pu {s : Mc} {i p : Int} : (poS t l s i p).pu = s.pu := by
  have sm := ch_same t l s
  cases q : goB s.ps p with
  | false => rw [(po_no (t := t) (l := l) (i := i) q).2]
  | true =>
    by_cases e : chE_ t l s = 0
    · by_cases h0 : s.ps = 0
      · by_cases r : mrE t l (chS t l s) = 0
        · rw [(po_bg q e h0 r).2]; exact sm.2.2.1
        · rw [(po_bgE (i := i) q e h0 r).2]; exact sm.2.2.1
      · by_cases hz : p = 0
        · rw [(po_ed q e h0 hz).2]; exact sm.2.2.1
        · rw [(po_mv (i := i) q e h0 hz).2]; exact sm.2.2.1
    · rw [(po_ch (i := i) q e).2]; exact sm.2.2.1
theorem mx_pu {s : Mc} {n : Int} : (mxU t s n).pu = s.pu := by unfold mxU; cases decide (mxE t s n = 0) <;> rfl
theorem ev_pu {s : Mc} {i : Nat} : (evS_ t l s i).pu = s.pu + (bif (l.ev.getD i ev0).k == 0 then (l.ev.getD i ev0).n else 0) := by
  rw [evS_eq]
  generalize l.ev.getD i ev0 = v
  by_cases q0 : v.k = 0
  · rw [(evG_0 q0).1, q0]; rfl
  rw [show (v.k == 0) = false by simp [q0]]
  show _ = s.pu + 0
  rw [Int.add_zero]
  by_cases q1 : v.k = 1
  · rw [(evG_1 q1).1]; exact (tk_same t l s v.n).pu
  by_cases q2 : v.k = 2
  · rw [(evG_2 q2).1]; exact po_pu
  by_cases q3 : v.k = 3
  · by_cases z : v.n < t.zones.length
    · rw [(evG_3 q3 z).1]; exact (ch_same t l s).2.2.1
    · rw [(evG_3' q3 z).1]
  by_cases q4 : v.k = 4
  · rw [(evG_4 q4).1]; exact mx_pu
  rw [(evG_5 q0 q1 q2 q3 q4).1]
theorem mcN_pu : ∀ k, (mcN t l k).pu = puN l k
  | 0 => rfl
  | k + 1 => by
    show (evS_ t l (mcN t l k) k).pu = _
    rw [ev_pu, mcN_pu k]; rfl
end
end Go.Fx

/-
  Logs cut and joined: the meter ends in the same state.
-/
namespace Go.Fx
open Go.Proofs

structure SameM (s s' : Mc) : Prop where
  tk : s'.tk = s.tk
  pu : s'.pu = s.pu
  ps : s'.ps = s.ps
  zn : s'.zn = s.zn
  si : s'.si = s.si
  pa : s'.pa = s.pa
  st : s'.st = s.st
  ex : s'.ex = s.ex
  fa : s'.tr.map (·.fa) = s.tr.map (·.fa)
theorem SameM.refl (s : Mc) : SameM s s := ⟨rfl, rfl, rfl, rfl, rfl, rfl, rfl, rfl, rfl⟩
theorem SameM.symm {a b : Mc} (h : SameM a b) : SameM b a := ⟨h.tk.symm, h.pu.symm, h.ps.symm, h.zn.symm, h.si.symm, h.pa.symm, h.st.symm, h.ex.symm, h.fa.symm⟩
theorem SameM.trans {a b c : Mc} (h : SameM a b) (k : SameM b c) : SameM a c := ⟨k.tk.trans h.tk, k.pu.trans h.pu, k.ps.trans h.ps, k.zn.trans h.zn, k.si.trans h.si, k.pa.trans h.pa, k.st.trans h.st, k.ex.trans h.ex, k.fa.trans h.fa⟩
theorem SameM.fare {t : Trf} {l z : Log} (hc : z.c = l.c) {s s' : Mc} (h : SameM s s') : mFare t z s' = mFare t l s ∧ stpZ t z s' = stpZ t l s := by
  unfold stpZ mFare mStp
  rw [hc, h.ps, h.st, h.ex, h.pa]; exact ⟨rfl, rfl⟩
theorem SameM.sta {t : Trf} {l z : Log} (hc : z.c = l.c) {s s' : Mc} (h : SameM s s') : staC t z s' = staC t l s := by
  have w := h.fare (t := t) hc
  unfold staC
  rw [w.1, w.2, h.tk, h.pu, h.ps, h.zn, h.si, h.ex]
theorem faN_map {a b : List Mtp} (h : b.map (·.fa) = a.map (·.fa)) : ∀ i, faN b i = faN a i
  | 0 => rfl
  | i + 1 => by
    have e : (b.getD i mtp0).fa = (a.getD i mtp0).fa := by
      have : (b.map (·.fa))[i]? = (a.map (·.fa))[i]? := by rw [h]
      rw [List.getElem?_map, List.getElem?_map] at this
      rw [List.getD_eq_getElem?_getD, List.getD_eq_getElem?_getD]
      cases q : b[i]? <;> cases q' : a[i]? <;> rw [q, q'] at this <;> simp_all
    simp only [faN, e, faN_map h i]
theorem SameM.tkg {t : Trf} {l z : Log} (h0 : rnE t l = 0) (h1 : rnE t z = 0) (h : SameM (mcN t l l.ev.length) (mcN t z z.ev.length)) : tkgE t z = tkgE t l ∧ tkgN t z = tkgN t l := by
  have e : (mcN t z z.ev.length).tr.length = (mcN t l l.ev.length).tr.length := by
    have := congrArg List.length h.fa; simpa using this
  have f : faN (mcN t z z.ev.length).tr (mcN t z z.ev.length).tr.length = faN (mcN t l l.ev.length).tr (mcN t l l.ev.length).tr.length := by rw [e]; exact faN_map h.fa _
  have e1 : tkgE t z = tkgE t l := by unfold tkgE; rw [h0, h1, f]
  exact ⟨e1, by unfold tkgN; rw [e1, f]⟩

theorem CutOf.pu {l z : Log} {k : Nat} {a b : Int} (C : CutOf l z k a b) : puN z z.ev.length = puN l l.ev.length := by
  have A : ∀ j, j ≤ k → puN z j = puN l j := by
    intro j
    induction j with
    | zero => exact fun _ => rfl
    | succ j ih => intro hj; simp only [puN]; rw [ih (by omega), C.lo j (by omega)]
  have B : puN z (k + 2) = puN l (k + 1) := by
    simp only [puN]
    rw [A k (Nat.le_refl k), C.at0, C.at1, C.n]
    show puN l k + (bif (l.ev.getD k ev0).k == 0 then a else 0) + (bif (l.ev.getD k ev0).k == 0 then b else 0) = _
    cases (l.ev.getD k ev0).k == 0
    · show puN l k + 0 + 0 = puN l k + 0; omega
    · show puN l k + a + b = puN l k + (a + b); omega
  have D : ∀ m, k + 1 + m ≤ l.ev.length → puN z (k + 2 + m) = puN l (k + 1 + m) := by
    intro m
    induction m with
    | zero => exact fun _ => B
    | succ m ih =>
      intro hm
      have e := C.hi (k + 1 + m) (by omega) (by omega)
      rw [show k + 1 + m + 1 = k + 2 + m by omega] at e
      rw [show k + 2 + (m + 1) = (k + 2 + m) + 1 by omega, show k + 1 + (m + 1) = (k + 1 + m) + 1 by omega]
      simp only [puN]
      rw [ih (by omega), e]
  have hk := C.hk
  have w := D (l.ev.length - (k + 1)) (by omega)
  rw [show k + 2 + (l.ev.length - (k + 1)) = z.ev.length by have := C.len; omega, show k + 1 + (l.ev.length - (k + 1)) = l.ev.length by omega] at w
  exact w
theorem rn_iff0 {t : Trf} {l : Log} (g : Gd t l) : rnE t l = 0 ↔ ∀ j, j < l.ev.length → mcE t l j = 0 :=
  ⟨fun h => (rn_gd g.ok h).2, fun h => (rn_ok g.trf g.al h).1⟩
theorem CutOf.same {t : Trf} {l z : Log} {k : Nat} {a b : Int} (g : Gd t l) (g' : Gd t z) (C : CutOf l z k a b) :
    (rnE t l = 0 ↔ rnE t z = 0) ∧ (rnE t l = 0 → SameM (mcN t l l.ev.length) (mcN t z z.ev.length)) := by
  have w := (C.inv g g').end_
  rw [rn_iff0 g, rn_iff0 g']
  refine ⟨w.1, fun h => ?_⟩
  have L := w.2 h
  have q := L.pq
  exact ⟨L.tk, by rw [mcN_pu, mcN_pu, C.pu], L.ps, L.zn, q.2.2, q.2.1, L.st, L.ex, L.fa rfl⟩

def spL (l : Log) (k : Nat) (p : Int) : Log := { l with ev := l.ev.take k ++ (⟨(l.ev.getD k ev0).k, p⟩ :: ⟨(l.ev.getD k ev0).k, (l.ev.getD k ev0).n - p⟩ :: l.ev.drop (k + 1)) }
theorem sp_at {l : Log} {k : Nat} {p : Int} (hk : k < l.ev.length) : (spL l k p).ev.length = l.ev.length + 1 ∧ (∀ j, j < k → (spL l k p).ev.getD j ev0 = l.ev.getD j ev0) ∧ (spL l k p).ev.getD k ev0 = ⟨(l.ev.getD k ev0).k, p⟩ ∧ (spL l k p).ev.getD (k + 1) ev0 = ⟨(l.ev.getD k ev0).k, (l.ev.getD k ev0).n - p⟩ ∧ (∀ j, k < j → (spL l k p).ev.getD (j + 1) ev0 = l.ev.getD j ev0) := by
  have hl : (l.ev.take k).length = k := by rw [List.length_take]; omega
  unfold spL
  refine ⟨?_, fun j hj => ?_, ?_, ?_, fun j hj => ?_⟩
  · simp only [List.length_append, hl, List.length_cons, List.length_drop]; omega
  · simp only [List.getD_eq_getElem?_getD]
    rw [List.getElem?_append_left (by omega), List.getElem?_take_of_lt hj]
  · simp only [List.getD_eq_getElem?_getD]
    rw [List.getElem?_append_right (by omega), hl, Nat.sub_self]; rfl
  · simp only [List.getD_eq_getElem?_getD]
    rw [List.getElem?_append_right (by omega), hl, show k + 1 - k = 1 by omega]; rfl
  · simp only [List.getD_eq_getElem?_getD]
    rw [List.getElem?_append_right (by omega), hl, show j + 1 - k = (j - k - 1) + 1 + 1 by omega, List.getElem?_cons_succ, List.getElem?_cons_succ, List.getElem?_drop, show k + 1 + (j - k - 1) = j by omega]
theorem sp_cut {l : Log} {k : Nat} {p : Int} (hk : k < l.ev.length) (hd : (l.ev.getD k ev0).k = 0 ∨ (l.ev.getD k ev0).k = 1) (h1 : 1 ≤ p) (h2 : p ≤ (l.ev.getD k ev0).n - 1) : CutOf l (spL l k p) k p ((l.ev.getD k ev0).n - p) := by
  have w := sp_at (p := p) hk
  exact ⟨rfl, rfl, rfl, hk, w.1, w.2.1, w.2.2.1, w.2.2.2.1, fun j h _ => w.2.2.2.2 j h, hd, by omega, h1, by omega⟩
theorem ev_part {e : Ev} (h : evE e = 0) (hd : e.k = 0 ∨ e.k = 1) {n : Int} (h1 : 1 ≤ n) (h2 : n ≤ e.n) : evE ⟨e.k, n⟩ = 0 := by
  have w := ev_ok h
  rcases hd with q | q
  · have := w.2.1 q
    exact ev_k0 q (by show 1 ≤ n ∧ n ≤ 100000; omega)
  · have := w.2.2.1 q
    refine ev_mk (by show 0 ≤ e.k ∧ e.k ≤ 6; omega) ?_
    show evLo e.k ≤ n ∧ n ≤ evHi e.k
    rw [q]; show (1 : Int) ≤ n ∧ n ≤ 3600; omega
theorem sp_al {l : Log} {k : Nat} {p : Int} (h : aloneE l = 0) (hk : k < l.ev.length) (hd : (l.ev.getD k ev0).k = 0 ∨ (l.ev.getD k ev0).k = 1) (h1 : 1 ≤ p) (h2 : p ≤ (l.ev.getD k ev0).n - 1) (hl : l.ev.length < 200) : aloneE (spL l k p) = 0 := by
  have gh := gd_head h
  have w := sp_at (p := p) hk
  refine al_ok gh.1 gh.2.1 gh.2.2.1 (by rw [w.1]; omega) fun j hj => ?_
  rw [w.1] at hj
  have e := gh.2.2.2.2 k hk
  rcases Nat.lt_trichotomy j k with q | q | q
  · rw [w.2.1 j q]; exact gh.2.2.2.2 j (by omega)
  · rw [q, w.2.2.1]; exact ev_part e hd h1 (by omega)
  · obtain ⟨i, rfl⟩ : ∃ i, j = i + 1 := ⟨j - 1, by omega⟩
    rcases Nat.lt_or_eq_of_le (show k ≤ i by omega) with q | q
    · rw [w.2.2.2.2 i q]; exact gh.2.2.2.2 i (by omega)
    · rw [← q, w.2.2.2.1]; exact ev_part e hd (by omega) (by omega)

def mgB (e : List Ev) (v : Ev) : Bool := bif decide (0 < e.length) then (bif (bif v.k == 0 then true else v.k == 1) then (bif (e.getD (e.length - 1) ev0).k == v.k then decide ((e.getD (e.length - 1) ev0).n + v.n ≤ evHi v.k) else false) else false) else false
def mgS (e : List Ev) (v : Ev) : List Ev := bif mgB e v then e.set (e.length - 1) ⟨(e.getD (e.length - 1) ev0).k, (e.getD (e.length - 1) ev0).n + v.n⟩ else e ++ [v]
def mgN (l : List Ev) : Nat → List Ev
  | 0 => []
  | i + 1 => mgS (mgN l i) (l.getD i ev0)
def mgL (l : Log) (i : Nat) : Log := { l with ev := mgN l.ev i ++ l.ev.drop i }
theorem mg_len (l : List Ev) : ∀ i, (mgN l i).length ≤ i
  | 0 => Nat.le_refl 0
  | i + 1 => by
    have ih := mg_len l i
    simp only [mgN]
    unfold mgS
    cases mgB (mgN l i) (l.getD i ev0)
    · show (_ ++ [_]).length ≤ _; simp; omega
    · show (List.set _ _ _).length ≤ _; rw [List.length_set]; omega
theorem mgB_t {e : List Ev} {v : Ev} (h : mgB e v = true) : 0 < e.length ∧ (v.k = 0 ∨ v.k = 1) ∧ (e.getD (e.length - 1) ev0).k = v.k ∧ (e.getD (e.length - 1) ev0).n + v.n ≤ evHi v.k := by
  unfold mgB at h
  have a := and_t h
  have b := and_t a.2
  have c := and_t b.2
  refine ⟨of_decide_eq_true a.1, ?_, eq_of_beq c.1, of_decide_eq_true c.2⟩
  by_cases q : v.k = 0
  · exact .inl q
  · have b1 := b.1
    rw [show (v.k == 0) = false by simp [q]] at b1
    exact .inr (eq_of_beq b1)
theorem mg_ok {l : List Ev} (h : ∀ j, j < l.length → evE (l.getD j ev0) = 0) : ∀ i, i ≤ l.length → ∀ j, j < (mgN l i).length → evE ((mgN l i).getD j ev0) = 0
  | 0, _, j, hj => absurd hj (Nat.not_lt_zero j)
  | i + 1, hi, j, hj => by
    have ih := mg_ok h i (by omega)
    have hv := h i (by omega)
    simp only [mgN] at hj ⊢
    revert hj
    unfold mgS
    cases q : mgB (mgN l i) (l.getD i ev0) with
    | false =>
      show j < (_ ++ [_]).length → evE ((_ ++ [_]).getD j ev0) = 0
      intro hj
      simp only [List.length_append, List.length_cons, List.length_nil] at hj
      simp only [List.getD_eq_getElem?_getD]
      rcases Nat.lt_or_ge j (mgN l i).length with c | c
      · rw [List.getElem?_append_left c]; have := ih j c; simpa only [List.getD_eq_getElem?_getD] using this
      · rw [List.getElem?_append_right c, show j - (mgN l i).length = 0 by omega]; simpa [List.getD_eq_getElem?_getD] using hv
    | true =>
      show j < (List.set _ _ _).length → evE ((List.set _ _ _).getD j ev0) = 0
      intro hj
      rw [List.length_set] at hj
      rw [ev_set]
      have b := mgB_t q
      by_cases c : (mgN l i).length - 1 = j ∧ (mgN l i).length - 1 < (mgN l i).length
      · rw [if_pos c, b.2.2.1]
        have e1 := ih ((mgN l i).length - 1) (by omega)
        have o1 := ev_ok e1
        have o2 := ev_ok hv
        refine ev_mk (by have := o2.1; exact this) ?_
        rw [b.2.2.1] at o1
        refine ⟨?_, b.2.2.2⟩
        rcases b.2.1 with z | z
        · rw [z]; have := o1.2.1 z; have := o2.2.1 z; show (1 : Int) ≤ _; show 1 ≤ (_ : Int) + _; omega
        · rw [z]; have := o1.2.2.1 z; have := o2.2.2.1 z; show (1 : Int) ≤ _; show 1 ≤ (_ : Int) + _; omega
      · rw [if_neg c]; exact ih j hj
theorem mgL_at {l : Log} {i : Nat} (hi : i ≤ l.ev.length) : (mgL l i).ev.length = (mgN l.ev i).length + (l.ev.length - i) ∧ (∀ j, j < (mgN l.ev i).length → (mgL l i).ev.getD j ev0 = (mgN l.ev i).getD j ev0) ∧ (∀ j, (mgL l i).ev.getD ((mgN l.ev i).length + j) ev0 = l.ev.getD (i + j) ev0) := by
  unfold mgL
  refine ⟨by simp, fun j hj => ?_, fun j => ?_⟩
  · simp only [List.getD_eq_getElem?_getD]; rw [List.getElem?_append_left hj]
  · simp only [List.getD_eq_getElem?_getD]; rw [List.getElem?_append_right (by omega), Nat.add_sub_cancel_left, List.getElem?_drop]
theorem mg_al {l : Log} (h : aloneE l = 0) {i : Nat} (hi : i ≤ l.ev.length) : aloneE (mgL l i) = 0 := by
  have gh := gd_head h
  have w := mgL_at hi
  have ml := mg_len l.ev i
  refine al_ok gh.1 gh.2.1 gh.2.2.1 (by rw [w.1]; omega) fun j hj => ?_
  rw [w.1] at hj
  rcases Nat.lt_or_ge j (mgN l.ev i).length with c | c
  · rw [w.2.1 j c]; exact mg_ok gh.2.2.2.2 i hi j c
  · obtain ⟨m, rfl⟩ : ∃ m, j = (mgN l.ev i).length + m := ⟨j - (mgN l.ev i).length, by omega⟩
    rw [w.2.2 m]; exact gh.2.2.2.2 _ (by omega)
theorem mg_step {l : Log} (h : aloneE l = 0) {i : Nat} (hi : i < l.ev.length) : mgL l (i + 1) = mgL l i ∨ CutOf (mgL l (i + 1)) (mgL l i) ((mgN l.ev i).length - 1) ((mgN l.ev i).getD ((mgN l.ev i).length - 1) ev0).n (l.ev.getD i ev0).n := by
  cases q : mgB (mgN l.ev i) (l.ev.getD i ev0) with
  | false =>
    left
    unfold mgL
    have e : mgN l.ev (i + 1) = mgN l.ev i ++ [l.ev.getD i ev0] := by simp only [mgN]; unfold mgS; rw [q]; rfl
    have d : l.ev.drop i = l.ev.getD i ev0 :: l.ev.drop (i + 1) := by rw [List.drop_eq_getElem_cons hi]; simp [List.getD_eq_getElem?_getD, List.getElem?_eq_getElem hi]
    rw [e, d, List.append_assoc]; rfl
  | true =>
    right
    have b := mgB_t q
    have e : mgN l.ev (i + 1) = (mgN l.ev i).set ((mgN l.ev i).length - 1) ⟨((mgN l.ev i).getD ((mgN l.ev i).length - 1) ev0).k, ((mgN l.ev i).getD ((mgN l.ev i).length - 1) ev0).n + (l.ev.getD i ev0).n⟩ := by simp only [mgN]; unfold mgS; rw [q]; rfl
    have le : (mgN l.ev (i + 1)).length = (mgN l.ev i).length := by rw [e, List.length_set]
    have gh := gd_head h
    have w0 := mgL_at (l := l) (i := i) (by omega)
    have w1 := mgL_at (l := l) (i := i + 1) (by omega)
    rw [le] at w1
    have mo := mg_ok gh.2.2.2.2 i (by omega) ((mgN l.ev i).length - 1) (by omega)
    have o1 := ev_ok mo
    have o2 := ev_ok (gh.2.2.2.2 i hi)
    have at1 : (mgL l (i + 1)).ev.getD ((mgN l.ev i).length - 1) ev0 = ⟨((mgN l.ev i).getD ((mgN l.ev i).length - 1) ev0).k, ((mgN l.ev i).getD ((mgN l.ev i).length - 1) ev0).n + (l.ev.getD i ev0).n⟩ := by
      rw [w1.2.1 _ (by omega), e, ev_set, if_pos ⟨rfl, by omega⟩]
    have lp := b.1
    refine ⟨rfl, rfl, rfl, by rw [w1.1]; omega, by rw [w0.1, w1.1]; omega, fun j hj => ?_, ?_, ?_, fun j h1 h2 => ?_, ?_, ?_, ?_, ?_⟩
    · rw [w0.2.1 j (by omega), w1.2.1 j (by omega), e, ev_set, if_neg (by omega)]
    · rw [at1, w0.2.1 _ (by omega)]
    · rw [at1, show (mgN l.ev i).length - 1 + 1 = (mgN l.ev i).length + 0 by omega, w0.2.2 0, b.2.2.1]; rfl
    · obtain ⟨m, rfl⟩ : ∃ m, j = (mgN l.ev i).length + m := ⟨j - (mgN l.ev i).length, by omega⟩
      rw [show (mgN l.ev i).length + m + 1 = (mgN l.ev i).length + (m + 1) by omega, w0.2.2 (m + 1), w1.2.2 m, show i + 1 + m = i + (m + 1) by omega]
    · rw [at1]; show ((mgN l.ev i).getD ((mgN l.ev i).length - 1) ev0).k = 0 ∨ _; rw [b.2.2.1]; exact b.2.1
    · rw [at1]
    · rw [b.2.2.1] at o1
      rcases b.2.1 with z | z
      · exact (o1.2.1 z).1
      · exact (o1.2.2.1 z).1
    · rcases b.2.1 with z | z
      · exact (o2.2.1 z).1
      · exact (o2.2.2.1 z).1
theorem mg_same {t : Trf} {l : Log} (hk : TOk t) (h0 : rnE t l = 0) : ∀ i, i ≤ l.ev.length → rnE t (mgL l i) = 0 ∧ SameM (mcN t l l.ev.length) (mcN t (mgL l i) (mgL l i).ev.length)
  | 0, _ => by
    have e : mgL l 0 = l := rfl
    rw [e]; exact ⟨h0, .refl _⟩
  | i + 1, hi => by
    obtain ⟨g, _⟩ := rn_gd hk h0
    have ih := mg_same hk h0 i (by omega)
    rcases mg_step g.al (show i < l.ev.length by omega) with q | C
    · rw [q]; exact ih
    · have s := C.same ⟨hk, g.trf, mg_al g.al hi⟩ ⟨hk, g.trf, mg_al g.al (by omega)⟩
      have r := s.1.2 ih.1
      exact ⟨r, ih.2.trans (s.2 r).symm⟩
def mgA (l : Log) : Log := { l with ev := mgN l.ev l.ev.length }
theorem mgA_eq (l : Log) : mgL l l.ev.length = mgA l := by unfold mgL mgA; rw [List.drop_length, List.append_nil]
theorem mg_law {t : Trf} {l : Log} (hk : TOk t) (h0 : rnE t l = 0) : rnE t (mgA l) = 0 ∧ staC t (mgA l) (mcN t (mgA l) (mgA l).ev.length) = staC t l (mcN t l l.ev.length) ∧ tkgE t (mgA l) = tkgE t l ∧ tkgN t (mgA l) = tkgN t l := by
  have w := mg_same hk h0 l.ev.length (Nat.le_refl _)
  rw [mgA_eq] at w
  have k := w.2.tkg h0 w.1
  exact ⟨w.1, w.2.sta (t := t) (l := l) (z := mgA l) rfl, k.1, k.2⟩
theorem sp_law {t : Trf} {l : Log} (hk : TOk t) (h0 : rnE t l = 0) {k : Nat} {p : Int} (hj : k < l.ev.length) (hd : (l.ev.getD k ev0).k = 0 ∨ (l.ev.getD k ev0).k = 1) (h1 : 1 ≤ p) (h2 : p ≤ (l.ev.getD k ev0).n - 1) (hl : l.ev.length < 200) :
    rnE t (spL l k p) = 0 ∧ staC t (spL l k p) (mcN t (spL l k p) (spL l k p).ev.length) = staC t l (mcN t l l.ev.length) ∧ tkgE t (spL l k p) = tkgE t l ∧ tkgN t (spL l k p) = tkgN t l := by
  obtain ⟨g, _⟩ := rn_gd hk h0
  have s := (sp_cut hj hd h1 h2).same g ⟨hk, g.trf, sp_al g.al hj hd h1 h2 hl⟩
  have r := s.1.1 h0
  have m := s.2 h0
  have k := m.tkg h0 r
  exact ⟨r, m.sta (t := t) (l := l) (z := spL l _ p) rfl, k.1, k.2⟩
end Go.Fx
