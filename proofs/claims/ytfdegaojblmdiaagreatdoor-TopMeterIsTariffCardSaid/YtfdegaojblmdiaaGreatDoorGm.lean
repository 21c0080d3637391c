/-
  What is true of a machine's pieces and trips; a drive.
-/
import Derived.Test.YtfdegaojblmdiaaGreatDoorGy
import Derived.Test.YtfdegaojblmdiaaGreatDoorGs
import Derived.Test.YtfdegaojblmdiaaGreatDoorGq
import Derived.Test.YtfdegaojblmdiaaGreatDoorGu
import Derived.Test.YtfdegaojblmdiaaGreatDoorGx

set_option linter.all false

/-
  Ticks, one by one: pieces of several seconds are what the seconds are.
-/
namespace Go.Fx
open Go.Proofs

theorem cb_eq {t : Trf} {l l' : Log} (h : l'.c = l.c) (ps ru b tk : Int) : cbQ t l' ps ru b tk = cbQ t l ps ru b tk := by unfold cbQ scnQ; rw [h]
def lkId {t : Trf} {l l' : Log} (hc : 1 ≤ l.c ∧ l.c ≤ 100000) (h1 : l'.c = l.c) (h2 : l'.d = l.d) (h3 : l'.t = l.t) : Lock t l l' true := {
  Q := fun a b a' b' => (0 ≤ a ∧ 0 ≤ b) ∧ a' = a ∧ b' = b
  d := h2
  s := h3
  pos := fun h => by omega
  sgn := fun h => by omega
  zero := fun h => by omega
  start := by omega
  add := fun {a b a' b'} ps ru tk hR h => by
    obtain ⟨⟨ha, hb⟩, rfl, rfl⟩ := h
    have n := cb_nn (l := l) (ps := ps) (tk := tk) hR hc hb
    rw [cb_eq h1]
    exact ⟨⟨by omega, Int.le_refl _⟩, rfl, rfl⟩
  stp := fun {a b a' b'} h => by
    obtain ⟨_, rfl, _⟩ := h
    rw [h1]
    exact ⟨Int.le_refl _, fun _ => rfl⟩ }
section
variable {t : Trf} {l : Log}
theorem lk_refl {l' : Log} {hc : 1 ≤ l.c ∧ l.c ≤ 100000} {h1 : l'.c = l.c} {h2 : l'.d = l.d} {h3 : l'.t = l.t} {s : Mc} (hp : 0 ≤ s.pa) (hs : 0 ≤ s.si) : Lk (lkId (t := t) hc h1 h2 h3) s s := ⟨rfl, rfl, rfl, rfl, rfl, ⟨⟨hp, hs⟩, rfl, rfl⟩, fun _ => rfl⟩
theorem Lk.pq {l' : Log} {hc : 1 ≤ l.c ∧ l.c ≤ 100000} {h1 : l'.c = l.c} {h2 : l'.d = l.d} {h3 : l'.t = l.t} {s s' : Mc} (h : Lk (lkId (t := t) hc h1 h2 h3) s s') : (0 ≤ s.pa ∧ 0 ≤ s.si) ∧ s'.pa = s.pa ∧ s'.si = s.si := h.q
theorem Lk.symm {hc : 1 ≤ l.c ∧ l.c ≤ 100000} {s s' : Mc} (h : Lk (lkId (t := t) (l' := l) hc rfl rfl rfl) s s') : Lk (lkId (t := t) (l' := l) hc rfl rfl rfl) s' s :=
  ⟨h.tk.symm, h.ps.symm, h.zn.symm, h.st.symm, h.ex.symm, by
    have q := h.pq
    show (0 ≤ s'.pa ∧ 0 ≤ s'.si) ∧ s.pa = s'.pa ∧ s.si = s'.si
    omega, fun e => (h.fa e).symm⟩
theorem Lk.trans {l' l'' : Log} {hc : 1 ≤ l.c ∧ l.c ≤ 100000} {h1 : l'.c = l.c} {h2 : l'.d = l.d} {h3 : l'.t = l.t} {hc' : 1 ≤ l'.c ∧ l'.c ≤ 100000} {k1 : l''.c = l'.c} {k2 : l''.d = l'.d} {k3 : l''.t = l'.t} {s s' s'' : Mc}
    (h : Lk (lkId (t := t) hc h1 h2 h3) s s') (k : Lk (lkId (t := t) hc' k1 k2 k3) s' s'') : Lk (lkId (t := t) hc (k1.trans h1) (k2.trans h2) (k3.trans h3)) s s'' :=
  ⟨k.tk.trans h.tk, k.ps.trans h.ps, k.zn.trans h.zn, k.st.trans h.st, k.ex.trans h.ex, by
    have q := h.pq; have r := k.pq
    show (0 ≤ s.pa ∧ 0 ≤ s.si) ∧ s''.pa = s.pa ∧ s''.si = s.si
    omega, fun e => (k.fa e).trans (h.fa e)⟩

theorem Lk.tr {hc : 1 ≤ l.c ∧ l.c ≤ 100000} {s s' s'' : Mc} (h : Lk (lkId (t := t) (l' := l) hc rfl rfl rfl) s s') (k : Lk (lkId (t := t) (l' := l) hc rfl rfl rfl) s' s'') : Lk (lkId (t := t) (l' := l) hc rfl rfl rfl) s s'' := Lk.trans h k

def sqF (t : Trf) (l : Log) : Nat → Mc → Mc × Int
  | 0, s => (s, 0)
  | f + 1, s => bif decide (rdE t l s = 0) then (bif decide (1000000000 < mFare t l (rdS t l s 1)) then (rdS t l s 1, 8) else sqF t l f (rdS t l s 1)) else (s, rdE t l s)
theorem sq_e {f : Nat} {s : Mc} (e : rdE t l s ≠ 0) : sqF t l (f + 1) s = (s, rdE t l s) := by simp only [sqF]; rw [decide_eq_false e]; rfl
theorem sq_8 {f : Nat} {s : Mc} (e : rdE t l s = 0) (c : 1000000000 < mFare t l (rdS t l s 1)) : sqF t l (f + 1) s = (rdS t l s 1, 8) := by simp only [sqF]; rw [e, decide_eq_true c]; rfl
theorem sq_s {f : Nat} {s : Mc} (e : rdE t l s = 0) (c : ¬ 1000000000 < mFare t l (rdS t l s 1)) : sqF t l (f + 1) s = sqF t l f (rdS t l s 1) := by
  conv => lhs; simp only [sqF]
  rw [e, decide_eq_false c]; rfl
theorem Lk.sq {l' : Log} {K : Lock t l l' true} (ht : trfE t = 0) : ∀ (f : Nat) {s s' : Mc}, Lk K s s' →
    (sqF t l' f s').2 = (sqF t l f s).2 ∧ ((sqF t l f s).2 = 0 → Lk K (sqF t l f s).1 (sqF t l' f s').1)
  | 0, s, s', h => ⟨rfl, fun _ => h⟩
  | f + 1, s, s', h => by
    by_cases e : rdE t l s = 0
    · have e' : rdE t l' s' = 0 := h.rde.trans e
      have hr := h.rd ht 1 e
      have hf := (hr.fare ht).2 rfl
      by_cases c : 1000000000 < mFare t l (rdS t l s 1)
      · rw [sq_8 e c, sq_8 e' (by omega)]; exact ⟨rfl, fun h => (by cases h)⟩
      · rw [sq_s e c, sq_s e' (by omega)]; exact Lk.sq ht f hr
    · rw [sq_e e, sq_e (by rw [h.rde]; exact e), h.rde]; exact ⟨rfl, fun h => absurd h e⟩
theorem sq_add : ∀ (a b : Nat) (s : Mc), sqF t l (a + b) s = bif decide ((sqF t l a s).2 = 0) then sqF t l b (sqF t l a s).1 else sqF t l a s
  | 0, b, s => by rw [Nat.zero_add]; rfl
  | a + 1, b, s => by
    rw [show a + 1 + b = (a + b) + 1 by omega]
    by_cases e : rdE t l s = 0
    · by_cases c : 1000000000 < mFare t l (rdS t l s 1)
      · rw [sq_8 e c, sq_8 e c]; rfl
      · rw [sq_s e c, sq_s e c]; exact sq_add a b _
    · rw [sq_e e, sq_e e]
      show _ = bif decide (rdE t l s = 0) then _ else _
      rw [decide_eq_false e]; rfl
theorem sq_fare : ∀ (m : Nat) (s : Mc), (sqF t l (m + 1) s).2 = 0 → mFare t l (sqF t l (m + 1) s).1 ≤ 1000000000
  | m, s, h => by
    by_cases e : rdE t l s = 0
    · by_cases c : 1000000000 < mFare t l (rdS t l s 1)
      · rw [sq_8 e c] at h; cases h
      · rw [sq_s e c] at h ⊢
        cases m with
        | zero => show mFare t l (rdS t l s 1) ≤ _; omega
        | succ m => exact sq_fare m _ h
    · rw [sq_e e] at h; exact absurd h e

theorem fare_eq {s s' : Mc} (h1 : s'.ps = s.ps) (h2 : s'.st = s.st) (h3 : s'.ex = s.ex) (h4 : s'.pa = s.pa) : mFare t l s' = mFare t l s := by unfold mFare mStp; rw [h1, h2, h3, h4]
theorem fare_le {s s' : Mc} (g : Gd t l) (h1 : s'.ps = s.ps) (h2 : s'.st = s.st) (h3 : s'.ex = s.ex) (h0 : 0 ≤ s.pa) (h4 : s.pa ≤ s'.pa) : mFare t l s ≤ mFare t l s' := by
  have u := trf_unit g.trf
  have gh := gd_head g.al
  by_cases z : s.ps = 0
  · rw [fare_0 z, fare_0 (h1.trans z)]; exact Int.le_refl _
  · have z' : s'.ps ≠ 0 := by rw [h1]; exact z
    by_cases hp : 0 < t.step
    · rw [fare_1 z hp, fare_1 z' hp, h2, h3]
      have d : mStp t l s ≤ mStp t l s' := by unfold mStp; exact tdiv_mono h0 h4 (uc_bd u.1 gh.1).1
      have e : min (mStp t l s) ((1000000000 : Int).tdiv t.step + 1) ≤ min (mStp t l s') ((1000000000 : Int).tdiv t.step + 1) := by omega
      have := Int.mul_le_mul_of_nonneg_right e (show 0 ≤ t.step by omega)
      omega
    · rw [fare_2 z hp, fare_2 z' hp, h2, h3]; exact Int.le_refl _

theorem sq_off (g : Gd t l) : ∀ (m : Nat) (s : Mc), rnB s = false → 0 ≤ s.pa →
    (1000000000 < mFare t l s → (sqF t l (m + 1) s).2 = 8) ∧ (¬ 1000000000 < mFare t l s → (sqF t l (m + 1) s).2 = 0 ∧ Lk (lkId (t := t) (l' := l) (gd_head g.al).1 rfl rfl rfl) { s with si := 0, tk := s.tk + ((m : Int) + 1) } (sqF t l (m + 1) s).1)
  | m, s, hr, hp => by
    have e : rdE t l s = 0 := rdE_f hr
    have r : rdS t l s 1 = { ntS t l s 0 0 1 with si := 0, tk := s.tk + 1 } := (rdS_3 hr).2
    rw [nt_eq, nta_f hr] at r
    have f : mFare t l (rdS t l s 1) = mFare t l s := by rw [r]; exact fare_eq rfl rfl rfl rfl
    refine ⟨fun c => by rw [sq_8 e (by rw [f]; exact c)], fun c => ?_⟩
    rw [sq_s e (by rw [f]; exact c)]
    cases m with
    | zero =>
      refine ⟨rfl, ?_⟩
      show Lk _ _ (rdS t l s 1)
      rw [r]
      exact ⟨by show s.tk + 1 = s.tk + (((0 : Nat) : Int) + 1); omega, rfl, rfl, rfl, rfl, ⟨⟨hp, Int.le_refl _⟩, rfl, rfl⟩, fun _ => rfl⟩
    | succ m =>
      have w := (sq_off g m (rdS t l s 1) (by rw [r]; exact hr) (by rw [r]; exact hp)).2 (by rw [f]; exact c)
      refine ⟨w.1, ?_⟩
      have w2 := w.2
      refine Lk.tr ?_ w2
      rw [r]
      exact ⟨by show s.tk + 1 + ((m : Int) + 1) = s.tk + (((m + 1 : Nat) : Int) + 1); omega, rfl, rfl, rfl, rfl, ⟨⟨hp, Int.le_refl _⟩, rfl, rfl⟩, fun _ => rfl⟩

theorem std_next {x : Int} : ∀ {l : List Int}, 2 ≤ stdL x l → stdL (x + 1) l = stdL x l - 1
  | [], h => by simp [stdL] at h
  | m :: r, h => by
    simp only [stdL] at h ⊢
    by_cases c : x < m
    · rw [decide_eq_true c] at h ⊢
      have h : 2 ≤ m - x := h
      rw [decide_eq_true (show x + 1 < m by omega)]
      show m - (x + 1) = m - x - 1; omega
    · rw [decide_eq_false c] at h ⊢
      rw [decide_eq_false (show ¬ x + 1 < m by omega)]
      exact std_next (l := r) h
theorem std_gap {x : Int} : ∀ {l : List Int}, l.Pairwise (· ≤ ·) → 2 ≤ stdL x l → ∀ m ∈ l, m ≤ x ∨ x + 2 ≤ m
  | [], _, _, m, hm => by simp at hm
  | a :: r, hs, h, m, hm => by
    simp only [stdL] at h
    have hp := List.pairwise_cons.1 hs
    by_cases c : x < a
    · rw [decide_eq_true c] at h
      have h : 2 ≤ a - x := h
      rcases List.mem_cons.1 hm with rfl | q
      · right; omega
      · have := hp.1 m q; right; omega
    · rw [decide_eq_false c] at h
      rcases List.mem_cons.1 hm with rfl | q
      · left; omega
      · exact std_gap (l := r) hp.2 h m q
theorem mrkL_has (t : Trf) : ∀ n, 86400 ∈ mrkL t n ∧ ∀ j, j < n → (t.rules.getD j rul0).bg ∈ mrkL t n ∧ (t.rules.getD j rul0).en ∈ mrkL t n
  | 0 => ⟨by simp [mrkL], fun j hj => absurd hj (Nat.not_lt_zero j)⟩
  | n + 1 => by
    have ih := mrkL_has t n
    simp only [mrkL]
    refine ⟨List.mem_append_left _ ih.1, fun j hj => ?_⟩
    rcases Nat.lt_succ_iff_lt_or_eq.1 hj with q | q
    · exact ⟨List.mem_append_left _ (ih.2 j q).1, List.mem_append_left _ (ih.2 j q).2⟩
    · subst q; exact ⟨List.mem_append_right _ (by simp), List.mem_append_right _ (by simp)⟩
theorem mrk_srt (t : Trf) : (mrkS t).Pairwise (· ≤ ·) := by unfold mrkS; exact sortI_srt _
theorem nx_sec {s s1 : Mc} (ht : trfE t = 0) (h0 : 0 ≤ secM l s) (hk : s1.tk = s.tk + 1) (hz : s1.zn = s.zn) (h2 : 2 ≤ stdQ t l s) :
    stdQ t l s1 = stdQ t l s - 1 ∧ (mrE t l s = 0 → mrE t l s1 = 0 ∧ mrN t l s1 = mrN t l s) := by
  have h2' : 2 ≤ stdL (nowM l s).s (mrkS t) := by unfold stdQ at h2; exact h2
  have gap := std_gap (mrk_srt t) h2'
  have h4 := gap 86400 (mrkS_mem.2 (mrkL_has t _).1)
  have e1 : secM l s1 = secM l s + 1 := by unfold secM; rw [hk]; omega
  have b1 : (nowM l s).s = secM l s % 86400 := by unfold nowM; exact Int.tmod_eq_emod_of_nonneg h0
  have b2 : (nowM l s).d = secM l s / 86400 := by unfold nowM; exact Int.tdiv_eq_ediv_of_nonneg h0
  have c1 : (nowM l s1).s = (secM l s + 1) % 86400 := by unfold nowM; rw [e1]; exact Int.tmod_eq_emod_of_nonneg (by omega)
  have c2 : (nowM l s1).d = (secM l s + 1) / 86400 := by unfold nowM; rw [e1]; exact Int.tdiv_eq_ediv_of_nonneg (by omega)
  have n1 : (nowM l s1).s = (nowM l s).s + 1 := by omega
  have n2 : (nowM l s1).d = (nowM l s).d := by omega
  have n0 : 0 ≤ (nowM l s).s := by omega
  have n3 : (nowM l s).s + 2 ≤ 86400 := by omega
  have en : nowM l s1 = ⟨(nowM l s).d, (nowM l s).s + 1⟩ := by rw [← n1, ← n2]
  refine ⟨by unfold stdQ; rw [n1]; exact std_next h2', fun e => ?_⟩
  have w := mr_at e
  obtain ⟨_, _, _, _, gt⟩ := ruleAt_ok' w.2.1
  have gk := gate_ok.1 gt
  have em : mnE l s1 = mnE l s := by unfold mnE; rw [n2]
  have eh : holdI t ⟨s1.zn, nowM l s1⟩ t.rules.length = holdI t ⟨s.zn, nowM l s⟩ t.rules.length := by
    rw [hz, en]
    refine holdI_same (z := s.zn) (d := (nowM l s).d) (a := (nowM l s).s) (b := (nowM l s).s + 1) ht (by omega) (by omega) (fun x hx => ?_) _ (Nat.le_refl _)
    rcases (times_mem ht).1 hx with q | ⟨j, hj, q, _⟩
    · left; omega
    · have m := (mrkL_has t t.rules.length).2 j hj
      have hx : x ≤ (nowM l s).s ∨ (nowM l s).s + 2 ≤ x := by
        rcases q with q | q
        · rw [q]; exact gap _ (mrkS_mem.2 m.1)
        · rw [q]; exact gap _ (mrkS_mem.2 m.2)
      omega
  have g1 : gateE t ⟨s1.zn, nowM l s1⟩ = 0 := by
    refine gate_ok.2 ⟨ht, by rw [hz]; exact gk.2.1, ?_⟩
    have k := gk.2.2
    rw [en]
    unfold momB at k ⊢
    have k1 := and_t k
    have k2 := inB_iff.1 k1.2
    rw [k1.1, inB_iff.2 (show 0 ≤ (nowM l s).s + 1 ∧ (nowM l s).s + 1 ≤ 86399 by omega)]; rfl
  have r1 := ruleAt_0 g1
  have r0 := ruleAt_0 gt
  rw [eh, ← r0.1, ← r0.2] at r1
  unfold mrE mrN
  rw [em, w.1, r1.1, r1.2]
  exact ⟨w.2.1, rfl⟩

def pcS (t : Trf) (l : Log) (s : Mc) (m : Int) : Mc := { ntS t l s (mrN t l s) s.si m with si := 0, tk := s.tk + m }
theorem cb_lin {ps ru m : Int} (hm : 1 ≤ m) : cbQ t l ps ru 0 m = cbQ t l ps ru 0 1 * m := by
  unfold cbQ
  rw [decide_eq_true (show 0 < m by omega), show max 1 m = m by omega, show decide ((0 : Int) < 1) = true from rfl, show max (1 : Int) 1 = 1 from rfl, Int.mul_one]
theorem pc_eq {s : Mc} (hr : rnB s = true) (m : Int) : (pcS t l s m).tk = s.tk + m ∧ (pcS t l s m).ps = s.ps ∧ (pcS t l s m).zn = s.zn ∧ (pcS t l s m).st = s.st ∧ (pcS t l s m).ex = s.ex ∧ (pcS t l s m).pa = s.pa + cbQ t l s.ps (mrN t l s) s.si m ∧ (pcS t l s m).si = 0 ∧ (pcS t l s m).tr = s.tr := by
  unfold pcS; rw [nt_eq, nta_cb hr]; exact ⟨rfl, rfl, rfl, rfl, rfl, rfl, rfl, rfl⟩
theorem rd_one {s : Mc} (hr : rnB s = true) : rdS t l s 1 = pcS t l s 1 := by
  by_cases h : 0 < s.si
  · exact (rdS_1 hr h).2
  · have k : 1 ≤ stdQ t l s := by unfold stdQ; exact std_ge _ _
    rw [(rdS_2 hr h).2, show min 1 (stdQ t l s) = 1 by omega]; rfl
theorem sq_run (g : Gd t l) : ∀ (m : Nat) (s : Mc), rnB s = true → s.si = 0 → 0 ≤ s.pa → 0 ≤ s.tk → mrE t l s = 0 → (m : Int) + 1 ≤ stdQ t l s →
    (1000000000 < mFare t l (pcS t l s ((m : Int) + 1)) → (sqF t l (m + 1) s).2 = 8) ∧
    (¬ 1000000000 < mFare t l (pcS t l s ((m : Int) + 1)) → (sqF t l (m + 1) s).2 = 0 ∧ Lk (lkId (t := t) (l' := l) (gd_head g.al).1 rfl rfl rfl) (pcS t l s ((m : Int) + 1)) (sqF t l (m + 1) s).1)
  | m, s, hr, hs, hp, hk, he, hn => by
    have gh := gd_head g.al
    have e : rdE t l s = 0 := (rdE_t hr).trans he
    have hR := mr_rule g.trf he
    have u0 := cb_nn (l := l) (ps := s.ps) (tk := 1) hR gh.1 (Int.le_refl 0)
    have p1 := pc_eq (t := t) (l := l) hr 1
    have pm := pc_eq (t := t) (l := l) hr ((m : Int) + 1)
    rw [hs] at p1 pm
    rw [cb_lin (show (1 : Int) ≤ (m : Int) + 1 by omega)] at pm
    have nn1 : 0 ≤ (pcS t l s 1).pa := by rw [p1.2.2.2.2.2.1]; omega
    cases m with
    | zero =>
      have z : ((0 : Nat) : Int) + 1 = 1 := rfl
      rw [z]
      refine ⟨fun c => by rw [sq_8 e (by rw [rd_one hr]; exact c)], fun c => ?_⟩
      rw [sq_s e (by rw [rd_one hr]; exact c), rd_one hr]
      exact ⟨rfl, lk_refl nn1 (by rw [p1.2.2.2.2.2.2.1]; exact Int.le_refl _)⟩
    | succ m =>
      have nx := nx_sec (l := l) (s := s) (s1 := pcS t l s 1) g.trf (by unfold secM; omega) p1.1 p1.2.2.1 (by omega)
      have hr1 : rnB (pcS t l s 1) = true := by unfold rnB; rw [p1.2.1]; exact hr
      have mr1 := nx.2 he
      have ih := sq_run g m (pcS t l s 1) hr1 p1.2.2.2.2.2.2.1 nn1 (by rw [p1.1]; omega) mr1.1 (by rw [nx.1]; omega)
      have q1 := pc_eq (t := t) (l := l) hr1 ((m : Int) + 1)
      rw [p1.2.2.2.2.2.2.1, cb_lin (show (1 : Int) ≤ (m : Int) + 1 by omega), mr1.2, p1.2.1] at q1
      have epa : (pcS t l (pcS t l s 1) ((m : Int) + 1)).pa = (pcS t l s (((m + 1 : Nat) : Int) + 1)).pa := by
        have e1 : ∀ u : Int, u * (((m + 1 : Nat) : Int) + 1) = u + u * ((m : Int) + 1) := fun u => by rw [show (((m + 1 : Nat) : Int) + 1) = 1 + ((m : Int) + 1) by omega, Int.mul_add, Int.mul_one]
        rw [q1.2.2.2.2.2.1, pm.2.2.2.2.2.1, p1.2.2.2.2.2.1, e1]; omega
      have L : Lk (lkId (t := t) (l' := l) gh.1 rfl rfl rfl) (pcS t l s (((m + 1 : Nat) : Int) + 1)) (pcS t l (pcS t l s 1) ((m : Int) + 1)) := by
        refine ⟨by rw [q1.1, pm.1, p1.1]; omega, by rw [q1.2.1, pm.2.1], by rw [q1.2.2.1, pm.2.2.1, p1.2.2.1], by rw [q1.2.2.2.1, pm.2.2.2.1, p1.2.2.2.1], by rw [q1.2.2.2.2.1, pm.2.2.2.2.1, p1.2.2.2.2.1], ⟨⟨?_, ?_⟩, epa, by rw [q1.2.2.2.2.2.2.1, pm.2.2.2.2.2.2.1]⟩, fun _ => by rw [q1.2.2.2.2.2.2.2, pm.2.2.2.2.2.2.2, p1.2.2.2.2.2.2.2]⟩
        · rw [pm.2.2.2.2.2.1]
          have := Int.mul_nonneg u0 (show (0 : Int) ≤ ((m + 1 : Nat) : Int) + 1 by omega)
          omega
        · rw [pm.2.2.2.2.2.2.1]; exact Int.le_refl _
      have fe := (L.fare g.trf).2 rfl
      have f1 : mFare t l (pcS t l s 1) ≤ mFare t l (pcS t l (pcS t l s 1) ((m : Int) + 1)) := by
        refine fare_le g (by rw [q1.2.1, p1.2.1]) (by rw [q1.2.2.2.1]) (by rw [q1.2.2.2.2.1]) nn1 ?_
        rw [q1.2.2.2.2.2.1]
        have := Int.mul_nonneg u0 (show (0 : Int) ≤ (m : Int) + 1 by omega)
        omega
      by_cases c1 : 1000000000 < mFare t l (rdS t l s 1)
      · rw [sq_8 e c1]
        rw [rd_one hr] at c1
        exact ⟨fun _ => rfl, fun c => absurd c (by omega)⟩
      · rw [sq_s e c1, rd_one hr]
        refine ⟨fun c => ih.1 (by omega), fun c => ?_⟩
        have w := ih.2 (by omega)
        exact ⟨w.1, Lk.tr L w.2⟩

theorem tkF_tk : ∀ (f : Nat) (s : Mc) (n : Int), 0 ≤ s.tk → 0 ≤ (tkF t l f s n).1.tk
  | 0, s, n, h => h
  | f + 1, s, n, h => by
    unfold tkF
    by_cases q : 0 < n
    · rw [decide_eq_true q]
      have b := rdK_bd (t := t) (l := l) (s := s) q
      have r : (rdS t l s n).tk = s.tk + rdK t l s n := by rw [rdS_eq]
      by_cases e : rdE t l s = 0
      · rw [e]
        by_cases c : 1000000000 < mFare t l (rdS t l s n)
        · rw [decide_eq_true c]; show 0 ≤ (rdS t l s n).tk; omega
        · rw [decide_eq_false c]; exact tkF_tk f _ _ (by omega)
      · rw [decide_eq_false e]; exact h
    · rw [decide_eq_false q]; exact h
theorem tk_sqF (g : Gd t l) : ∀ (f : Nat) (s : Mc) (n : Int), n ≤ f → 0 ≤ s.pa → 0 ≤ s.si → 0 ≤ s.tk →
    (tkF t l f s n).2 = (sqF t l n.toNat s).2 ∧ ((tkF t l f s n).2 = 0 → Lk (lkId (t := t) (l' := l) (gd_head g.al).1 rfl rfl rfl) (sqF t l n.toNat s).1 (tkF t l f s n).1)
  | 0, s, n, h, hp, hs, hk => by rw [show n.toNat = 0 by omega]; exact ⟨rfl, fun _ => lk_refl hp hs⟩
  | f + 1, s, n, h, hp, hs, hk => by
    have gh := gd_head g.al
    unfold tkF
    by_cases q : 0 < n
    · rw [decide_eq_true q]
      obtain ⟨m, hm⟩ : ∃ m : Nat, n.toNat = m + 1 := ⟨n.toNat - 1, by omega⟩
      by_cases e : rdE t l s = 0
      · rw [e]
        have b := rdK_bd (t := t) (l := l) (s := s) q
        cases hr : rnB s with
        | false =>
          have r3 := rdS_3 (t := t) (l := l) (s := s) (n := n) hr
          have r3' := r3.2
          rw [nt_eq, nta_f hr] at r3'
          have ff : mFare t l (rdS t l s n) = mFare t l s := by rw [r3']; exact fare_eq rfl rfl rfl rfl
          have so := sq_off g m s hr hp
          rw [hm, ff]
          by_cases c : 1000000000 < mFare t l s
          · rw [decide_eq_true c]; exact ⟨(so.1 c).symm, fun h => (by cases h)⟩
          · rw [decide_eq_false c, r3.1]
            have so2 := so.2 c
            have ih := tk_sqF g f (rdS t l s n) (n - n) (by omega) (by rw [r3']; exact hp) (by rw [r3']; exact Int.le_refl _) (by rw [r3']; show 0 ≤ s.tk + n; omega)
            rw [show (n - n).toNat = 0 by omega] at ih
            show (tkF t l f (rdS t l s n) (n - n)).2 = _ ∧ ((tkF t l f (rdS t l s n) (n - n)).2 = 0 → Lk _ _ (tkF t l f (rdS t l s n) (n - n)).1)
            refine ⟨ih.1.trans so2.1.symm, fun z => ?_⟩
            have w := ih.2 z
            refine Lk.tr ?_ w
            refine Lk.tr so2.2.symm ?_
            show Lk _ _ (rdS t l s n)
            rw [r3']
            exact ⟨by show s.tk + n = s.tk + ((m : Int) + 1); omega, rfl, rfl, rfl, rfl, ⟨⟨hp, Int.le_refl _⟩, rfl, rfl⟩, fun _ => rfl⟩
        | true =>
          have he : mrE t l s = 0 := (rdE_t hr).symm.trans e
          have hR := mr_rule g.trf he
          by_cases hz : 0 < s.si
          · have r1 := rdS_1 (t := t) (l := l) (n := n) hr hz
            have ro : rdS t l s n = rdS t l s 1 := by rw [r1.2, (rdS_1 (n := 1) hr hz).2]
            have p1 := pc_eq (t := t) (l := l) hr 1
            have nb := cb_nn (l := l) (ps := s.ps) (tk := 1) hR gh.1 hs
            rw [hm, ro, r1.1]
            by_cases c : 1000000000 < mFare t l (rdS t l s 1)
            · rw [decide_eq_true c, sq_8 e c]; exact ⟨rfl, fun h => (by cases h)⟩
            · rw [decide_eq_false c, sq_s e c]
              have ih := tk_sqF g f (rdS t l s 1) (n - 1) (by omega) (by rw [rd_one hr, p1.2.2.2.2.2.1]; omega) (by rw [rd_one hr, p1.2.2.2.2.2.2.1]; exact Int.le_refl _) (by rw [rd_one hr, p1.1]; omega)
              rw [show (n - 1).toNat = m by omega] at ih
              exact ih
          · have hz0 : s.si = 0 := by omega
            have r2 := rdS_2 (t := t) (l := l) (n := n) hr hz
            have kb : 1 ≤ stdQ t l s := by unfold stdQ; exact std_ge _ _
            obtain ⟨j, hj⟩ : ∃ j : Nat, min n (stdQ t l s) = (j : Int) + 1 := ⟨(min n (stdQ t l s)).toNat - 1, by omega⟩
            have rp : rdS t l s n = pcS t l s ((j : Int) + 1) := by rw [r2.2, hj]; rfl
            have sr := sq_run g j s hr hz0 hp hk he (by omega)
            have pj := pc_eq (t := t) (l := l) hr ((j : Int) + 1)
            have nb := cb_nn (l := l) (ps := s.ps) (tk := (j : Int) + 1) hR gh.1 hs
            rw [show n.toNat = (j + 1) + (n - ((j : Int) + 1)).toNat by omega, sq_add, rp, r2.1, hj]
            by_cases c : 1000000000 < mFare t l (pcS t l s ((j : Int) + 1))
            · rw [decide_eq_true c, sr.1 c]; exact ⟨(sr.1 c).symm, fun h => (by cases h)⟩
            · rw [decide_eq_false c]
              have sr2 := sr.2 c
              rw [sr2.1]
              have ih := tk_sqF g f (pcS t l s ((j : Int) + 1)) (n - ((j : Int) + 1)) (by omega) (by rw [pj.2.2.2.2.2.1]; omega) (by rw [pj.2.2.2.2.2.2.1]; exact Int.le_refl _) (by rw [pj.1]; omega)
              have sq := Lk.sq g.trf (n - ((j : Int) + 1)).toNat sr2.2
              show (tkF t l f (pcS t l s ((j : Int) + 1)) (n - ((j : Int) + 1))).2 = (sqF t l (n - ((j : Int) + 1)).toNat (sqF t l (j + 1) s).1).2 ∧ ((tkF t l f (pcS t l s ((j : Int) + 1)) (n - ((j : Int) + 1))).2 = 0 → Lk _ (sqF t l (n - ((j : Int) + 1)).toNat (sqF t l (j + 1) s).1).1 (tkF t l f (pcS t l s ((j : Int) + 1)) (n - ((j : Int) + 1))).1)
              refine ⟨ih.1.trans sq.1.symm, fun z => ?_⟩
              exact Lk.tr (sq.2 (ih.1.symm.trans z)).symm (ih.2 z)
      · rw [decide_eq_false e, hm, sq_e e]; exact ⟨rfl, fun h => absurd h e⟩
    · rw [decide_eq_false q, show n.toNat = 0 by omega]; exact ⟨rfl, fun _ => lk_refl hp hs⟩
theorem tk_sq (g : Gd t l) {s : Mc} {n : Int} (hp : 0 ≤ s.pa) (hs : 0 ≤ s.si) (hk : 0 ≤ s.tk) :
    tkE t l s n = (sqF t l n.toNat s).2 ∧ (tkE t l s n = 0 → Lk (lkId (t := t) (l' := l) (gd_head g.al).1 rfl rfl rfl) (sqF t l n.toNat s).1 (tkS t l s n)) := by
  unfold tkE tkS; exact tk_sqF g n.toNat s n (by omega) hp hs hk
end
end Go.Fx

/-
  A message cut in two: the meter does the same.
-/
namespace Go.Fx
open Go.Proofs

section
variable {t : Trf} {l : Log}
theorem ev_at0 {s : Mc} {i : Nat} {v : Ev} (hv : l.ev.getD i ev0 = v) (h0 : v.k = 0) : evS_ t l s i = { s with si := s.si + v.n, pu := s.pu + v.n } ∧ (evF t l s i = 0 ↔ mFare t l s ≤ 1000000000) := by
  subst hv
  have w := evF_eq (evG_0 (t := t) (l := l) (s := s) (i := (i : Int)) h0)
  refine ⟨w.1, ?_⟩
  have f : mFare t l { s with si := s.si + (l.ev.getD i ev0).n, pu := s.pu + (l.ev.getD i ev0).n } = mFare t l s := fare_eq rfl rfl rfl rfl
  rw [w.2, f]
  by_cases c : mFare t l s ≤ 1000000000
  · rw [decide_eq_true c]; exact ⟨fun _ => c, fun _ => rfl⟩
  · rw [decide_eq_false c]; exact ⟨fun h => (by cases h), fun h => absurd h c⟩
theorem ev_at1 {s : Mc} {i : Nat} {v : Ev} (hv : l.ev.getD i ev0 = v) (h1 : v.k = 1) : evS_ t l s i = tkS t l s v.n ∧ (evF t l s i = 0 ↔ tkE t l s v.n = 0 ∧ mFare t l (tkS t l s v.n) ≤ 1000000000) := by
  subst hv
  have w := evF_eq (evG_1 (t := t) (l := l) (s := s) (i := (i : Int)) h1)
  refine ⟨w.1, ?_⟩
  rw [w.2]
  constructor
  · intro h
    have z := firstS_zero h
    refine ⟨z _ (by simp), ?_⟩
    have z1 : isOk (decide (mFare t l (tkS t l s (l.ev.getD i ev0).n) ≤ 1000000000)) 8 = 0 := z _ (by simp [isOk])
    exact of_decide_eq_true (isOk_0 z1 (by decide))
  · rintro ⟨a, b⟩
    rw [a, decide_eq_true b]; rfl
theorem tk_fare (g : Gd t l) {s : Mc} {n : Int} (hn : 0 < n) (hp : 0 ≤ s.pa) (hs : 0 ≤ s.si) (hk : 0 ≤ s.tk) (h : tkE t l s n = 0) : mFare t l (tkS t l s n) ≤ 1000000000 := by
  have w := tk_sq g (n := n) hp hs hk
  obtain ⟨m, hm⟩ : ∃ m : Nat, n.toNat = m + 1 := ⟨n.toNat - 1, by omega⟩
  have f := ((w.2 h).fare g.trf).2 rfl
  rw [f, hm]
  rw [hm] at w
  exact sq_fare m s (by rw [← w.1]; exact h)
theorem tk_cut (g : Gd t l) {s : Mc} {a b : Int} (ha : 1 ≤ a) (hb : 1 ≤ b) (hp : 0 ≤ s.pa) (hs : 0 ≤ s.si) (hk : 0 ≤ s.tk) :
    (tkE t l s (a + b) = 0 ↔ tkE t l s a = 0 ∧ tkE t l (tkS t l s a) b = 0) ∧ (tkE t l s (a + b) = 0 → Lk (lkId (t := t) (l' := l) (gd_head g.al).1 rfl rfl rfl) (tkS t l s (a + b)) (tkS t l (tkS t l s a) b)) := by
  have wa := tk_sq g (n := a) hp hs hk
  have wc := tk_sq g (n := a + b) hp hs hk
  have ea : sqF t l (a + b).toNat s = bif decide ((sqF t l a.toNat s).2 = 0) then sqF t l b.toNat (sqF t l a.toNat s).1 else sqF t l a.toNat s := by
    rw [show (a + b).toNat = a.toNat + b.toNat by omega]; exact sq_add _ _ _
  by_cases z : tkE t l s a = 0
  · have La := wa.2 z
    have q := La.pq
    have k1 : 0 ≤ (tkS t l s a).tk := by
      obtain ⟨m, hm⟩ : ∃ m : Nat, a.toNat = m + 1 := ⟨a.toNat - 1, by omega⟩
      unfold tkS
      exact tkF_tk a.toNat s a hk
    have wb := tk_sq g (s := tkS t l s a) (n := b) (by omega) (by omega) k1
    have sq := Lk.sq g.trf b.toNat La
    rw [← wa.1, z] at ea
    have ea : sqF t l (a + b).toNat s = sqF t l b.toNat (sqF t l a.toNat s).1 := ea
    rw [ea] at wc
    refine ⟨⟨fun h => ⟨z, by rw [wb.1, sq.1, ← wc.1]; exact h⟩, fun h => by rw [wc.1, ← sq.1, ← wb.1]; exact h.2⟩, fun h => ?_⟩
    have z2 : (sqF t l b.toNat (sqF t l a.toNat s).1).2 = 0 := by rw [← wc.1]; exact h
    exact (wc.2 h).symm.trans ((sq.2 z2).trans (wb.2 (by rw [wb.1, sq.1]; exact z2)))
  · rw [← wa.1, decide_eq_false z] at ea
    have ea : sqF t l (a + b).toNat s = sqF t l a.toNat s := ea
    rw [ea, ← wa.1] at wc
    exact ⟨⟨fun h => absurd (wc.1.symm.trans h) z, fun h => absurd h.1 z⟩, fun h => absurd (wc.1.symm.trans h) z⟩
end

structure CutOf (l z : Log) (k : Nat) (a b : Int) : Prop where
  c : z.c = l.c
  d : z.d = l.d
  t : z.t = l.t
  hk : k < l.ev.length
  len : z.ev.length = l.ev.length + 1
  lo : ∀ j, j < k → z.ev.getD j ev0 = l.ev.getD j ev0
  at0 : z.ev.getD k ev0 = ⟨(l.ev.getD k ev0).k, a⟩
  at1 : z.ev.getD (k + 1) ev0 = ⟨(l.ev.getD k ev0).k, b⟩
  hi : ∀ j, k < j → j < l.ev.length → z.ev.getD (j + 1) ev0 = l.ev.getD j ev0
  kd : (l.ev.getD k ev0).k = 0 ∨ (l.ev.getD k ev0).k = 1
  n : (l.ev.getD k ev0).n = a + b
  ha : 1 ≤ a
  hb : 1 ≤ b
section
variable {t : Trf} {l z : Log}
def InvC (K : Lock t l z true) (j j' : Nat) : Prop :=
  (Lk K (mcN t l j) (mcN t z j') ∧ (∀ i, i < j → mcE t l i = 0) ∧ (∀ i, i < j' → mcE t z i = 0)) ∨ ((∃ i, i < j ∧ mcE t l i ≠ 0) ∧ (∃ i, i < j' ∧ mcE t z i ≠ 0))
theorem InvC.one {K : Lock t l z true} {j j' : Nat} (ht : trfE t = 0) (h : InvC K j j') (hk : (z.ev.getD j' ev0).k = (l.ev.getD j ev0).k) (hn : (l.ev.getD j ev0).k ≠ 0 → (z.ev.getD j' ev0).n = (l.ev.getD j ev0).n)
    (hp : (l.ev.getD j ev0).k = 0 → ∀ a b a' b', K.Q a b a' b' → K.Q a (b + (l.ev.getD j ev0).n) a' (b' + (z.ev.getD j' ev0).n)) : InvC K (j + 1) (j' + 1) := by
  rcases h with ⟨L, h1, h2⟩ | ⟨⟨i, i1, i2⟩, ⟨i', k1, k2⟩⟩
  · have w := L.ev ht j j' hk hn fun q => hp q _ _ _ _ L.q
    have e : mcE t z j' = mcE t l j := w.2.1 rfl
    by_cases c : mcE t l j = 0
    · exact .inl ⟨w.2.2 c (e.trans c), all_lt h1 c, all_lt h2 (e.trans c)⟩
    · exact .inr ⟨⟨j, by omega, c⟩, ⟨j', by omega, by rw [e]; exact c⟩⟩
  · exact .inr ⟨⟨i, by omega, i2⟩, ⟨i', by omega, k2⟩⟩
theorem InvC.cut {k : Nat} {a b : Int} (g : Gd t l) (g' : Gd t z) (C : CutOf l z k a b) (h : InvC (lkId (t := t) (gd_head g.al).1 C.c C.d C.t) k k) : InvC (lkId (t := t) (gd_head g.al).1 C.c C.d C.t) (k + 1) (k + 2) := by
  rcases h with ⟨L, h1, h2⟩ | ⟨⟨i, i1, i2⟩, ⟨i', k1, k2⟩⟩
  · have mo := mcN_ok g k (by have := C.hk; omega)
    have mo' := mcN_ok g' k (by have := C.hk; have := C.len; omega)
    have p0 := mo.pa; have s0 := mo.si; have t0 := mo.tk
    have p1 := mo'.pa; have s1 := mo'.si; have t1 := mo'.tk
    have ha := C.ha; have hb := C.hb
    have key : ((mcE t l k = 0 ↔ mcE t z k = 0 ∧ mcE t z (k + 1) = 0) ∧ (mcE t l k = 0 → Lk (lkId (t := t) (gd_head g.al).1 C.c C.d C.t) (mcN t l (k + 1)) (mcN t z (k + 2)))) := by
      show (evF t l (mcN t l k) k = 0 ↔ evF t z (mcN t z k) k = 0 ∧ evF t z (evS_ t z (mcN t z k) k) (k + 1) = 0) ∧ (evF t l (mcN t l k) k = 0 → Lk _ (evS_ t l (mcN t l k) k) (evS_ t z (evS_ t z (mcN t z k) k) (k + 1)))
      generalize mcN t l k = s at *
      generalize mcN t z k = s' at *
      rcases C.kd with q | q
      · have e0 := ev_at0 (t := t) (s := s) rfl q
        have e1 := ev_at0 (t := t) (s := s') C.at0 q
        have e2 := ev_at0 (t := t) (s := evS_ t z s' k) C.at1 q
        have f := (L.fare g.trf).2 rfl
        have f2 : mFare t z (evS_ t z s' k) = mFare t z s' := by rw [e1.1]; exact fare_eq rfl rfl rfl rfl
        rw [f2] at e2
        refine ⟨by rw [e0.2, e1.2, e2.2, f]; exact ⟨fun h => ⟨h, h⟩, fun h => h.1⟩, fun _ => ?_⟩
        rw [e2.1, e1.1, e0.1]
        refine ⟨L.tk, L.ps, L.zn, L.st, L.ex, ?_, L.fa⟩
        have w := L.pq
        show (0 ≤ s.pa ∧ 0 ≤ s.si + (l.ev.getD k ev0).n) ∧ s'.pa = s.pa ∧ s'.si + a + b = s.si + (l.ev.getD k ev0).n
        have := C.n
        omega
      · have e0 := ev_at1 (t := t) (s := s) rfl q
        have e1 : evS_ t z s' k = tkS t z s' a ∧ (evF t z s' k = 0 ↔ tkE t z s' a = 0 ∧ mFare t z (tkS t z s' a) ≤ 1000000000) := ev_at1 (t := t) (s := s') C.at0 q
        have e2 : evS_ t z (evS_ t z s' k) (k + 1) = tkS t z (evS_ t z s' k) b ∧ (evF t z (evS_ t z s' k) (k + 1) = 0 ↔ tkE t z (evS_ t z s' k) b = 0 ∧ mFare t z (tkS t z (evS_ t z s' k) b) ≤ 1000000000) := ev_at1 (t := t) (s := evS_ t z s' k) C.at1 q
        have n := C.n
        have w := Lk.tkF g.trf (l.ev.getD k ev0).n.toNat (l.ev.getD k ev0).n L
        have wE : tkE t z s' (l.ev.getD k ev0).n = tkE t l s (l.ev.getD k ev0).n := by unfold tkE; exact w.2.1 rfl
        have wL : tkE t l s (l.ev.getD k ev0).n = 0 → Lk (lkId (t := t) (gd_head g.al).1 C.c C.d C.t) (tkS t l s (l.ev.getD k ev0).n) (tkS t z s' (l.ev.getD k ev0).n) := by
          intro h
          have h' := wE.trans h
          unfold tkE at h h'
          unfold tkS
          exact w.2.2 h h'
        have tc := tk_cut g' (s := s') ha hb p1.1 s1.1 t1.1
        rw [n] at e0 wE wL
        rw [e1.1] at e2
        have F := tk_fare g (s := s) (n := a + b) (by omega) p0.1 s0.1 t0.1
        have Fa := tk_fare g' (s := s') (n := a) (by omega) p1.1 s1.1 t1.1
        have E1 : evF t l s k = 0 ↔ tkE t l s (a + b) = 0 := e0.2.trans ⟨fun h => h.1, fun h => ⟨h, F h⟩⟩
        have E2 : evF t z s' k = 0 ↔ tkE t z s' a = 0 := e1.2.trans ⟨fun h => h.1, fun h => ⟨h, Fa h⟩⟩
        have E3 : tkE t z s' a = 0 → (evF t z (tkS t z s' a) (k + 1) = 0 ↔ tkE t z (tkS t z s' a) b = 0) := fun h => by
          have La := (tk_sq g' (n := a) p1.1 s1.1 t1.1).2 h
          have q := La.pq
          have k1 : 0 ≤ (tkS t z s' a).tk := by unfold tkS; exact tkF_tk a.toNat s' a t1.1
          exact e2.2.trans ⟨fun h => h.1, fun h => ⟨h, tk_fare g' (by omega) (by omega) (by omega) k1 h⟩⟩
        rw [e1.1, e2.1, e0.1]
        constructor
        · rw [E1, ← wE, tc.1]
          exact ⟨fun h => ⟨E2.2 h.1, (E3 h.1).2 h.2⟩, fun h => ⟨E2.1 h.1, (E3 (E2.1 h.1)).1 h.2⟩⟩
        · intro h
          have h := E1.1 h
          exact (wL h).trans (tc.2 (wE.trans h))
    by_cases c : mcE t l k = 0
    · have d := key.1.1 c
      exact .inl ⟨key.2 c, all_lt h1 c, all_lt (all_lt h2 d.1) d.2⟩
    · refine .inr ⟨⟨k, by omega, c⟩, ?_⟩
      by_cases d : mcE t z k = 0
      · exact ⟨k + 1, by omega, fun e => c (key.1.2 ⟨d, e⟩)⟩
      · exact ⟨k, by omega, d⟩
  · exact .inr ⟨⟨i, by omega, i2⟩, ⟨i', by omega, k2⟩⟩
end
end Go.Fx

/-
  The steps of counts.
-/
namespace Go.Fx
open Go.Proofs Go.RowKit

structure Cnt where
  r : Int
  p : Int
  s : Int
def cnt0 : Cnt := ⟨0, 0, 0⟩
def wOf (t : Trf) (c : Int) (x : Cnt) : Int := 1000 * (t.rules.getD x.r.toNat rul0).me * x.p + c * (t.rules.getD x.r.toNat rul0).se * x.s
def befC (l : List Cnt) (i : Nat) : Int := match i with | 0 => -1 | i + 1 => (l.getD i cnt0).r
@[irreducible] def cntE (t : Trf) (l : List Cnt) (i : Nat) : Int := firstS [isOk (inB (l.getD i cnt0).r 0 (t.rules.length - 1)) 6, isOk (decide (befC l i < (l.getD i cnt0).r)) 9, isOk (bif inB (l.getD i cnt0).p 0 20000000 then inB (l.getD i cnt0).s 0 1000000 else false) 2]
def accW (t : Trf) (c : Int) (l : List Cnt) : Nat → Int
  | 0 => 0
  | i + 1 => accW t c l i + wOf t c (l.getD i cnt0)
def stepH (t : Trf) (c : Int) (n : Nat) : Int := firstS [trfE t, isOk (inB c 1 100000) 2, isOk (decide ((n : Int) ≤ 12)) 8]
@[irreducible] def stepE (t : Trf) (c : Int) (l : List Cnt) : Int := bif decide (stepH t c l.length = 0) then scanE (cntE t l) (List.range l.length) else stepH t c l.length
@[irreducible] def stepN (t : Trf) (c : Int) (l : List Cnt) : Int := bif decide (stepE t c l = 0) then (accW t c l l.length).tdiv (t.unit * c) else 0
structure COk (t : Trf) (c : Int) (x : Cnt) : Prop where
  r : 0 ≤ x.r ∧ x.r < t.rules.length
  m1 : 0 ≤ 1000 * (t.rules.getD x.r.toNat rul0).me ∧ 1000 * (t.rules.getD x.r.toNat rul0).me ≤ 1000000000
  m2 : 0 ≤ 1000 * (t.rules.getD x.r.toNat rul0).me * x.p ∧ 1000 * (t.rules.getD x.r.toNat rul0).me * x.p ≤ 1000000000 * 20000000
  s1 : 0 ≤ c * (t.rules.getD x.r.toNat rul0).se ∧ c * (t.rules.getD x.r.toNat rul0).se ≤ 100000 * 1000000
  s2 : 0 ≤ c * (t.rules.getD x.r.toNat rul0).se * x.s ∧ c * (t.rules.getD x.r.toNat rul0).se * x.s ≤ 100000 * 1000000 * 1000000
section
variable {W0 : World} {G : Nat → Option AV} (hX : (Xc W0 G).Good)
include hX
end
end Go.Fx

/-
  What was counted in a trip, and its fare.
-/
namespace Go.Fx
open Go.Proofs

def inT (j : Int) (p : Pc) : Bool := bif p.tr == j then p.ps != 0 else false
def rlP (p : Pc) : Nat := (max 0 p.ru).toNat
def vP (t : Trf) (l : Log) (p : Pc) : Int := bif p.ps == 3 then 0 else bif p.tm then l.c * (ruA t p.ru).se * p.tk else 1000 * (ruA t p.ru).me * (p.pu * max 1 p.tk)
def suV (t : Trf) (l : Log) (j : Int) (q : List Pc) : Nat → Int
  | 0 => 0
  | i + 1 => suV t l j q i + (bif inT j (q.getD i pc0) then vP t l (q.getD i pc0) else 0)
def suQ (q : List Pc) : Nat → Int
  | 0 => 0
  | i + 1 => suQ q i + (q.getD i pc0).pu * max 1 (q.getD i pc0).tk
def suT (q : List Pc) : Nat → Int
  | 0 => 0
  | i + 1 => suT q i + (q.getD i pc0).tk

section
variable {t : Trf} {l : Log} {q : List Pc} {j : Int}
structure PcO (t : Trf) (n : Int) (p : Pc) : Prop where
  tr : p.tr ≤ n
  tk : 0 ≤ p.tk
  pu : 0 ≤ p.pu
  ru : p.ps ≠ 0 → rlP p < t.rules.length
end

structure TrO (t : Trf) (l : Log) (q : List Pc) (j : Nat) (x : Mtp) : Prop where
  sp : x.sp = (suV t l j q q.length).tdiv (t.unit * l.c)
  sp0 : 0 ≤ x.sp
  exl : x.ex.length = t.extras.length
  ex : ∀ i, 0 ≤ x.ex.getD i 0 ∧ x.ex.getD i 0 ≤ 20
  st : 0 ≤ x.st ∧ x.st ≤ 100000
  fa : x.fa = x.st + mxA t x.ex x.ex.length + (bif decide (0 < t.step) then x.sp * t.step else 0)
  fb : 0 ≤ x.fa ∧ x.fa ≤ 1000000000
structure Iv (t : Trf) (l : Log) (s : Mc) : Prop where
  pk : ∀ i, i < s.pc.length → PcO t s.tr.length (s.pc.getD i pc0)
  qq : suQ s.pc s.pc.length ≤ s.pu - s.si
  tt : suT s.pc s.pc.length ≤ s.tk
  pa : s.ps ≠ 0 → suV t l s.tr.length s.pc s.pc.length = s.pa
  fr : s.ps = 0 → ∀ i, i < s.pc.length → inT s.tr.length (s.pc.getD i pc0) = false
  rl : s.ps ≠ 0 → 0 < t.rules.length
  tr : ∀ j, j < s.tr.length → TrO t l s.pc j (s.tr.getD j mtp0)
end Go.Fx

/-
  What was counted in a trip, and its fare: true of every machine.
-/
namespace Go.Fx
open Go.Proofs

section
variable {t : Trf} {l : Log}
theorem fare_end {s : Mc} (hm : Hm t l s) (h0 : s.ps ≠ 0) (hf : mFare t l s ≤ 1000000000) : mFare t l s = s.st + mxA t s.ex s.ex.length + (bif decide (0 < t.step) then mStp t l s * t.step else 0) := by
  have n := hm.nums
  have st := hm.m.st
  have el := hm.m.exl h0
  have a := mxA_bd hm.g.trf hm.m.ex s.ex.length (by omega)
  by_cases hp : 0 < t.step
  · rw [fare_1 h0 hp] at hf ⊢
    rw [decide_eq_true hp]
    have e : (1000000000 : Int).tdiv t.step = 1000000000 / t.step := Int.tdiv_eq_ediv_of_nonneg (by omega)
    by_cases c : mStp t l s ≤ (1000000000 : Int).tdiv t.step + 1
    · rw [show min (mStp t l s) ((1000000000 : Int).tdiv t.step + 1) = mStp t l s by omega]; rfl
    · exfalso
      rw [show min (mStp t l s) ((1000000000 : Int).tdiv t.step + 1) = (1000000000 : Int).tdiv t.step + 1 by omega, e] at hf
      have b := Int.lt_mul_ediv_self_add (x := 1000000000) hp
      rw [Int.add_mul, Int.one_mul, Int.mul_comm (1000000000 / t.step)] at hf
      omega
  · rw [fare_2 h0 hp, decide_eq_false hp]; show _ = _ + (0 : Int); omega
end
end Go.Fx

/-
  A finished trip as one of the tariff's chapter.
-/
namespace Go.Fx
open Go.Proofs

def likeP (p o : Pc) : Bool := bif (bif p.zn == o.zn then p.ru == o.ru else false) then p.pu == o.pu else false
structure To where
  sp : Bool
  op : Bool
  pa : Bool
  la : Bool
  rs : List Pc
def to0 : To := ⟨false, false, false, false, []⟩
def lastP (r : List Pc) : Pc := r.getD (r.length - 1) pc0
def setL (r : List Pc) (k : Int) : List Pc := r.set (r.length - 1) { lastP r with tk := (lastP r).tk + k }
def gluB (r : List Pc) (p : Pc) : Bool := bif decide (0 < r.length) then likeP (lastP r) p else false
def addR (r : List Pc) (p : Pc) : List Pc := bif gluB r p then setL r p.tk else r ++ [p]
def toF (s : To) (p : Pc) : To :=
  bif p.ps == 2 then { s with sp := true } else bif p.ps == 3 then { s with pa := true } else
  bif p.ps == 1 then (bif p.tk == 0 then { s with op := true } else { s with la := bif s.la then true else s.pa, rs := addR s.rs p }) else s
def toN (j : Int) (q : List Pc) : Nat → To
  | 0 => to0
  | i + 1 => bif inT j (q.getD i pc0) then toF (toN j q i) (q.getD i pc0) else toN j q i
structure RnO (n : Nat) (a b : Int) (p : Pc) : Prop where
  tk : 1 ≤ p.tk ∧ p.tk ≤ b
  pu : 0 ≤ p.pu ∧ p.pu ≤ a
  q : 0 ≤ p.pu * p.tk ∧ p.pu * p.tk ≤ a
theorem RnO.mono {n : Nat} {a b a' b' : Int} {p : Pc} (h : RnO n a b p) (h1 : a ≤ a') (h2 : b ≤ b') : RnO n a' b' p := ⟨⟨h.tk.1, by have := h.tk.2; omega⟩, ⟨h.pu.1, by have := h.pu.2; omega⟩, ⟨h.q.1, by have := h.q.2; omega⟩⟩
def sgO (l : Log) (p : Pc) : Seg := ⟨p.zn, (1000 * p.pu * p.tk).tdiv l.c, p.tk⟩
def sgL (l : Log) (r : List Pc) : Nat → List Seg
  | 0 => []
  | k + 1 => sgL l r k ++ [sgO l (r.getD k pc0)]
def divB (l : Log) (p : Pc) : Bool := (1000 * p.pu * p.tk).tmod l.c == 0
def fitB (l : Log) (r : List Pc) : Nat → Bool
  | 0 => true
  | k + 1 => bif (bif fitB l r k then decide ((sgO l (r.getD k pc0)).me ≤ 100000) else false) then decide ((sgO l (r.getD k pc0)).se ≤ 36000) else false
def toQ (t : Trf) (l : Log) (j : Nat) : To := toN j (mcN t l l.ev.length).pc (mcN t l l.ev.length).pc.length
def toZ (t : Trf) (l : Log) (j : Nat) : Bool := bif ((toQ t l j).rs.length : Int) == 0 then true else ((toQ t l j).rs.getD 0 pc0).zn == (mcN t l l.ev.length).zs.getD j 0
@[irreducible] def toH (t : Trf) (l : Log) (j : Nat) : Int := firstS [isOk (!(toQ t l j).sp) 22, isOk (bif !(toQ t l j).op then !(toQ t l j).la else false) 23, isOk (toZ t l j) 13]
@[irreducible] def toT (t : Trf) (l : Log) (j : Nat) : Int := firstS [isOk (decide (0 < ((toQ t l j).rs.length : Int))) 12, isOk (bif fitB l (toQ t l j).rs (toQ t l j).rs.length then decide (((toQ t l j).rs.length : Int) ≤ 60) else false) 8]
@[irreducible] def toD (t : Trf) (l : Log) (j : Nat) : Bool := (toQ t l j).rs.all (divB l)
@[irreducible] def toE (t : Trf) (l : Log) (j : Nat) : Int := bif decide (toH t l j = 0) then (bif toD t l j then toT t l j else 3) else toH t l j
def toX (t : Trf) (l : Log) (j : Nat) : Trp := ⟨⟨((mcN t l l.ev.length).tr.getD j mtp0).d, ((mcN t l l.ev.length).tr.getD j mtp0).s⟩, false, ((mcN t l l.ev.length).tr.getD j mtp0).ex, sgL l (toQ t l j).rs (toQ t l j).rs.length⟩
def tzA : AV := .agg 5 (tbl [.int .i64 0, .int .i64 0, .bool false, .slc0, .slc0])
@[irreducible] def toR (t : Trf) (l : Log) (j : Nat) : AV := bif decide (toE t l j = 0) then .tup 2 (tbl [trpA (toX t l j), .int .i64 0]) else .tup 2 (tbl [tzA, .int .i64 (toE t l j)])
end Go.Fx

/-
  A finished trip of the meter, and what the tariff asks for it: true of every machine.
-/
namespace Go.Fx
open Go.Proofs

def vQ (t : Trf) (l : Log) (ru pu : Int) : Int := bif decide (dstQ t ru pu ≤ scnQ t l ru) then scnQ t l ru else dstQ t ru pu
def vR (t : Trf) (l : Log) (p : Pc) : Int := vQ t l p.ru p.pu * p.tk
def suR (t : Trf) (l : Log) (r : List Pc) : Nat → Int
  | 0 => 0
  | i + 1 => suR t l r i + vR t l (r.getD i pc0)
structure Ru (t : Trf) (z : Int) (M : Mom) (ru : Int) : Prop where
  e : ruleAtE t ⟨z, M⟩ = 0
  n : ruleAtN t ⟨z, M⟩ = ru
def okT (T : To) : Prop := T.sp = false ∧ T.op = false ∧ T.la = false
structure Fv (t : Trf) (l : Log) (z : Int) (M : Mom) (st : Int) (T : To) (V : Int) : Prop where
  mo : momB M = true
  bg : ∃ ru, Ru t z M ru ∧ st = (ruA t ru).st
  ru : okT T → ∀ a, a < T.rs.length → Ru t (T.rs.getD a pc0).zn (laterQ M (suT T.rs a)) (T.rs.getD a pc0).ru
  v : okT T → suR t l T.rs T.rs.length = V
structure Jv (t : Trf) (l : Log) (s : Mc) : Prop where
  z0 : s.ps = 0 → s.zs.length = s.tr.length
  z1 : s.ps ≠ 0 → s.zs.length = s.tr.length + 1
  cu : s.ps ≠ 0 → Fv t l (s.zs.getD s.tr.length 0) ⟨s.ad, s.at_⟩ s.st (toN s.tr.length s.pc s.pc.length) (suV t l s.tr.length s.pc s.pc.length)
  nw : s.ps ≠ 0 → okT (toN s.tr.length s.pc s.pc.length) → (toN s.tr.length s.pc s.pc.length).pa = false → secM l s = s.ad * 86400 + s.at_ + suT (toN s.tr.length s.pc s.pc.length).rs (toN s.tr.length s.pc s.pc.length).rs.length
  tr : ∀ j, j < s.tr.length → Fv t l (s.zs.getD j 0) ⟨(s.tr.getD j mtp0).d, (s.tr.getD j mtp0).s⟩ (s.tr.getD j mtp0).st (toN j s.pc s.pc.length) (suV t l j s.pc s.pc.length)
section
variable {t : Trf} {l : Log}
theorem now_later {s : Mc} {M : Mom} {S : Int} (hM : momB M = true) (h0 : 0 ≤ S) (h : secM l s = M.d * 86400 + M.s + S) : nowM l s = laterQ M S := by
  have b := mom_bd hM
  unfold nowM laterQ
  rw [h]
  have e1 : (M.d * 86400 + M.s + S).tdiv 86400 = (M.d * 86400 + M.s + S) / 86400 := Int.tdiv_eq_ediv_of_nonneg (by omega)
  have e2 : (M.d * 86400 + M.s + S).tmod 86400 = (M.d * 86400 + M.s + S) % 86400 := Int.tmod_eq_emod_of_nonneg (by omega)
  have e3 : (M.s + S).tdiv 86400 = (M.s + S) / 86400 := Int.tdiv_eq_ediv_of_nonneg (by omega)
  have e4 : (M.s + S).tmod 86400 = (M.s + S) % 86400 := Int.tmod_eq_emod_of_nonneg (by omega)
  rw [e1, e2, e3, e4]
  have a1 : (M.d * 86400 + M.s + S) / 86400 = M.d + (M.s + S) / 86400 := by omega
  have a2 : (M.d * 86400 + M.s + S) % 86400 = (M.s + S) % 86400 := by omega
  rw [a1, a2]
end
end Go.Fx

/-
  The fare of a trip of the meter is the one that the tariff asks for.
-/
namespace Go.Fx
open Go.Proofs

section
variable {t : Trf} {l : Log}
theorem exS_mxA {x : Trp} : ∀ k, exS t x k = mxA t x.ex k
  | 0 => rfl
  | k + 1 => by simp only [exS, mxA]; rw [exS_mxA k]
end
end Go.Fx

/-
  Trips that differ in metres, or in the last seconds: the same rules; more is not cheaper.
-/
namespace Go.Fx
open Go.Proofs Go.RowKit

structure Near (x y : Trp) : Prop where
  m : x.m = y.m
  fx : x.fx = y.fx
  ex : x.ex = y.ex
  len : x.sg.length = y.sg.length
  z : ∀ k, k < x.sg.length → (sgx x k).z = (sgx y k).z
  se : ∀ k, k + 1 < x.sg.length → (sgx x k).se = (sgx y k).se
theorem Near.mom {x y : Trp} (h : Near x y) : ∀ {k}, k < x.sg.length → segM x k = segM y k
  | 0, _ => h.m
  | k + 1, hk => by
    show laterQ (segM x k) (sgx x k).se = laterQ (segM y k) (sgx y k).se
    rw [h.mom (by omega), h.se k hk]
theorem Near.segP {x y : Trp} (h : Near x y) {k : Nat} (hk : k < x.sg.length) : segP x k = segP y k := by
  unfold Fx.segP; rw [h.z k hk, h.mom hk]
theorem Near.seg {x y : Trp} (h : Near x y) (t : Trf) {k : Nat} (hk : k < x.sg.length) : segE t x k = segE t y k ∧ segN t x k = segN t y k ∧ segR t x k = segR t y k := by
  have e : segH t x k = segH t y k := by unfold segH; rw [h.segP hk]
  refine ⟨?_, ?_, ?_⟩
  · unfold segE; rw [e, h.mom hk]
  · unfold segN; rw [e]
  · unfold segR segN; rw [e]
theorem Near.fix {x y : Trp} (h : Near x y) (t : Trf) (hp : 0 < x.sg.length) : fixI t x = fixI t y := by
  have e : fixP t x = fixP t y := by
    funext j; unfold fixP; rw [h.z 0 hp, h.z (x.sg.length - 1) (by omega), h.len]
  unfold fixI; rw [e]
theorem Near.exs {x y : Trp} (h : Near x y) (t : Trf) : ∀ i, exS t x i = exS t y i
  | 0 => rfl
  | i + 1 => by simp only [exS, h.exs t i, h.ex]
theorem Near.sta {x y : Trp} (h : Near x y) (t : Trf) (hp : 0 < x.sg.length) : staQ t x = staQ t y := by
  unfold staQ; rw [h.fx, (h.seg t hp).2.2]
theorem accP_nn {f : Nat → Int} : ∀ {n : Nat}, (∀ k, k < n → 0 ≤ f k) → 0 ≤ accP f n
  | 0, _ => Int.le_refl _
  | n + 1, h => by
    have := accP_nn (n := n) fun k hk => h k (by omega)
    have := h n (by omega)
    simp only [accP]; omega
theorem Near.tot {x y : Trp} (h : Near x y) {t : Trf} (ht : trfE t = 0) (hp : 0 < x.sg.length) {f g : Nat → Int} (hf : ∀ k, k < x.sg.length → 0 ≤ f k) (hle : x.fx = false → accP f x.sg.length ≤ accP g x.sg.length) : totQ t x f ≤ totQ t y g := by
  have u := trf_unit ht
  unfold totQ
  rw [h.sta t hp, h.exs t, h.ex]
  have : drvQ t x f ≤ drvQ t y g := by
    cases hx : x.fx with
    | true =>
      have hy : y.fx = true := by rw [← h.fx]; exact hx
      rw [(drv_fx hx).1, (drv_fx hy).1, h.fix t hp]
      exact Int.le_refl _
    | false =>
      have hy : y.fx = false := by rw [← h.fx]; exact hx
      rw [(drv_me hx).1, (drv_me hy).1, ← h.len]
      exact Int.mul_le_mul_of_nonneg_right (tdiv_mono (accP_nn hf) (hle hx) (by omega)) u.2.1
  omega
theorem Near.fare {x y : Trp} (h : Near x y) {t : Trf} (ht : trfE t = 0) (hp : 0 < x.sg.length) {f g : Nat → Int} (hf : ∀ k, k < x.sg.length → 0 ≤ f k) (hle : x.fx = false → accP f x.sg.length ≤ accP g x.sg.length) :
    (fareE t x f = 12 ∧ fareE t y g = 12) ∨ (fareE t x f = 8 ∧ fareE t y g = 8) ∨ (fareE t x f = 0 ∧ fareE t y g = 8) ∨ (fareE t x f = 0 ∧ fareE t y g = 0 ∧ totQ t x f ≤ totQ t y g) := by
  have e := h.tot ht hp hf hle
  have hfix := h.fix t hp
  rcases fare_cases (t := t) (x := x) (f := f) with ⟨a, b, c⟩ | ⟨a, b, c⟩ | ⟨a, b, c⟩
  · exact .inl ⟨c, fare_none (by rw [← h.fx]; exact a) (by rw [← hfix]; exact b)⟩
  · exact .inr (.inl ⟨c, fare_big (by rw [← h.fx, ← hfix]; exact a) (by omega)⟩)
  · by_cases q : 1000000000 < totQ t y g
    · exact .inr (.inr (.inl ⟨c, fare_big (by rw [← h.fx, ← hfix]; exact a) q⟩))
    · exact .inr (.inr (.inr ⟨c, fare_fit (by rw [← h.fx, ← hfix]; exact a) q, e⟩))
end Go.Fx

/-
  A drive told second by second: what the meter shows, and what the tariff asks.
-/
namespace Go.Fx
open Go.Proofs

def evK (ms : List Int) : Nat → List Ev
  | 0 => [⟨2, 1⟩]
  | k + 1 => (bif decide (0 < ms.getD k 0) then evK ms k ++ [⟨0, ms.getD k 0⟩] else evK ms k) ++ [⟨1, 1⟩]
def sgK (ms : List Int) : Nat → List Seg
  | 0 => []
  | k + 1 => sgK ms k ++ [⟨0, ms.getD k 0, 1⟩]
def suM (ms : List Int) : Nat → Int
  | 0 => 0
  | k + 1 => suM ms k + ms.getD k 0
def drL (M : Mom) (ms : List Int) : Log := ⟨1000, M.d, M.s, evK ms ms.length ++ [⟨2, 3⟩, ⟨2, 0⟩]⟩
def drX (t : Trf) (M : Mom) (ms : List Int) : Trp := ⟨M, false, List.replicate t.extras.length 0, sgK ms ms.length⟩
def drO (t : Trf) (M : Mom) (ms : List Int) : Trp := ⟨M, false, List.replicate t.extras.length 0, [⟨0, suM ms ms.length, ms.length⟩]⟩
structure MsOk (ms : List Int) : Prop where
  pos : 0 < ms.length
  len : ms.length ≤ 40
  me : ∀ j, j < ms.length → 0 ≤ ms.getD j 0 ∧ ms.getD j 0 ≤ 100
theorem evK_1 {ms : List Int} {k : Nat} (h : 0 < ms.getD k 0) : evK ms (k + 1) = evK ms k ++ [⟨0, ms.getD k 0⟩] ++ [⟨1, 1⟩] := by simp only [evK, decide_eq_true h, cond_true]
theorem evK_0 {ms : List Int} {k : Nat} (h : ¬ 0 < ms.getD k 0) : evK ms (k + 1) = evK ms k ++ [⟨1, 1⟩] := by simp only [evK, decide_eq_false h, cond_false]
theorem evK_len {ms : List Int} : ∀ k, 1 ≤ (evK ms k).length ∧ (evK ms k).length ≤ 1 + 2 * k
  | 0 => by simp [evK]
  | k + 1 => by
    have ih := evK_len (ms := ms) k
    by_cases h : 0 < ms.getD k 0
    · rw [evK_1 h]; simp; omega
    · rw [evK_0 h]; simp; omega
theorem evK_pre {ms : List Int} {k : Nat} : ∀ d, ∃ r, evK ms (k + d) = evK ms k ++ r
  | 0 => ⟨[], by simp⟩
  | d + 1 => by
    obtain ⟨r, hr⟩ := evK_pre (ms := ms) (k := k) d
    by_cases h : 0 < ms.getD (k + d) 0
    · exact ⟨r ++ [⟨0, ms.getD (k + d) 0⟩] ++ [⟨1, 1⟩], by rw [show k + (d + 1) = k + d + 1 by omega, evK_1 h, hr]; simp⟩
    · exact ⟨r ++ [⟨1, 1⟩], by rw [show k + (d + 1) = k + d + 1 by omega, evK_0 h, hr]; simp⟩
theorem drL_pre {M : Mom} {ms : List Int} {k : Nat} (h : k ≤ ms.length) : ∃ r, (drL M ms).ev = evK ms k ++ r := by
  obtain ⟨r, hr⟩ := evK_pre (ms := ms) (k := k) (ms.length - k)
  rw [show k + (ms.length - k) = ms.length by omega] at hr
  exact ⟨r ++ [⟨2, 3⟩, ⟨2, 0⟩], by show evK ms ms.length ++ _ = _; rw [hr, List.append_assoc]⟩
theorem app_at {a b : List Ev} {j : Nat} : (a ++ b).getD (a.length + j) ev0 = b.getD j ev0 := by
  rw [List.getD_eq_getElem?_getD, List.getElem?_append_right (by omega), List.getD_eq_getElem?_getD, show a.length + j - a.length = j by omega]
theorem dr_at1 {M : Mom} {ms : List Int} {k : Nat} (hk : k < ms.length) (h : 0 < ms.getD k 0) :
    (drL M ms).ev.getD (evK ms k).length ev0 = ⟨0, ms.getD k 0⟩ ∧ (drL M ms).ev.getD ((evK ms k).length + 1) ev0 = ⟨1, 1⟩ ∧ (evK ms (k + 1)).length = (evK ms k).length + 2 := by
  obtain ⟨r, hr⟩ := drL_pre (M := M) (ms := ms) (k := k + 1) hk
  rw [hr, evK_1 h, List.append_assoc, List.append_assoc]
  refine ⟨?_, ?_, by simp⟩
  · have := app_at (a := evK ms k) (b := [⟨0, ms.getD k 0⟩] ++ ([⟨1, 1⟩] ++ r)) (j := 0)
    rw [Nat.add_zero] at this; rw [this]; rfl
  · rw [app_at]; rfl
theorem dr_at0 {M : Mom} {ms : List Int} {k : Nat} (hk : k < ms.length) (h : ¬ 0 < ms.getD k 0) :
    (drL M ms).ev.getD (evK ms k).length ev0 = ⟨1, 1⟩ ∧ (evK ms (k + 1)).length = (evK ms k).length + 1 := by
  obtain ⟨r, hr⟩ := drL_pre (M := M) (ms := ms) (k := k + 1) hk
  rw [hr, evK_0 h, List.append_assoc]
  refine ⟨?_, by simp⟩
  have := app_at (a := evK ms k) (b := [⟨1, 1⟩] ++ r) (j := 0)
  rw [Nat.add_zero] at this; rw [this]; rfl
theorem dr_atE {M : Mom} {ms : List Int} : (drL M ms).ev.getD (evK ms ms.length).length ev0 = ⟨2, 3⟩ ∧ (drL M ms).ev.getD ((evK ms ms.length).length + 1) ev0 = ⟨2, 0⟩ ∧ (drL M ms).ev.length = (evK ms ms.length).length + 2 := by
  refine ⟨?_, ?_, by simp [drL]⟩
  · have := app_at (a := evK ms ms.length) (b := [⟨2, 3⟩, ⟨2, 0⟩]) (j := 0)
    rw [Nat.add_zero] at this
    show (evK ms ms.length ++ _).getD _ _ = _; rw [this]; rfl
  · show (evK ms ms.length ++ _).getD _ _ = _; rw [app_at]; rfl
theorem dr_at {M : Mom} {ms : List Int} : (drL M ms).ev.getD 0 ev0 = ⟨2, 1⟩ := by
  obtain ⟨r, hr⟩ := drL_pre (M := M) (ms := ms) (k := 0) (Nat.zero_le _)
  rw [hr]; rfl
theorem evK_ok {ms : List Int} (h : MsOk ms) : ∀ k, k ≤ ms.length → ∀ v ∈ evK ms k, evE v = 0
  | 0, _, v, hv => by
    rw [List.mem_singleton.1 hv]
    exact ev_mk (by decide) (by decide)
  | k + 1, hk, v, hv => by
    have m := h.me k (by omega)
    by_cases q : 0 < ms.getD k 0
    · rw [evK_1 q] at hv
      rcases List.mem_append.1 hv with hv | hv
      · rcases List.mem_append.1 hv with hv | hv
        · exact evK_ok h k (by omega) v hv
        · rw [List.mem_singleton.1 hv]; exact ev_k0 rfl ⟨by show 1 ≤ ms.getD k 0; omega, by show ms.getD k 0 ≤ _; omega⟩
      · rw [List.mem_singleton.1 hv]; exact ev_mk (by decide) (by decide)
    · rw [evK_0 q] at hv
      rcases List.mem_append.1 hv with hv | hv
      · exact evK_ok h k (by omega) v hv
      · rw [List.mem_singleton.1 hv]; exact ev_mk (by decide) (by decide)
theorem drL_ok {M : Mom} {ms : List Int} (h : MsOk ms) (hM : momB M = true) : aloneE (drL M ms) = 0 := by
  have b := mom_bd hM
  have e := evK_len (ms := ms) ms.length
  refine al_ok (by show (1 : Int) ≤ 1000 ∧ (1000 : Int) ≤ 100000; omega) b.1 b.2 (by rw [dr_atE.2.2]; have := h.len; omega) fun j hj => ?_
  have hm : (drL M ms).ev.getD j ev0 ∈ (drL M ms).ev := by rw [List.getD_eq_getElem?_getD, List.getElem?_eq_getElem hj]; exact List.getElem_mem hj
  have hm : (drL M ms).ev.getD j ev0 ∈ evK ms ms.length ++ [⟨2, 3⟩, ⟨2, 0⟩] := hm
  rcases List.mem_append.1 hm with hm | hm
  · exact evK_ok h _ (Nat.le_refl _) _ hm
  · simp only [List.mem_cons, List.not_mem_nil, or_false] at hm
    rcases hm with hm | hm <;> rw [hm] <;> exact ev_mk (by decide) (by decide)
theorem sgK_len {ms : List Int} : ∀ k, (sgK ms k).length = k
  | 0 => rfl
  | k + 1 => by simp only [sgK, List.length_append, sgK_len k, List.length_singleton]
theorem sgK_at {ms : List Int} {a : Nat} : ∀ k, a < k → (sgK ms k).getD a seg0 = ⟨0, ms.getD a 0, 1⟩
  | 0, h => absurd h (Nat.not_lt_zero a)
  | k + 1, h => by
    simp only [sgK]
    by_cases e : a < k
    · rw [List.getD_eq_getElem?_getD, List.getElem?_append_left (by rw [sgK_len]; exact e), ← List.getD_eq_getElem?_getD]; exact sgK_at k e
    · obtain rfl : a = k := by omega
      have : (sgK ms a ++ [(⟨0, ms.getD a 0, 1⟩ : Seg)]).getD a seg0 = (sgK ms a ++ [(⟨0, ms.getD a 0, 1⟩ : Seg)]).getD (sgK ms a).length seg0 := by rw [sgK_len]
      rw [this]; simp
theorem rep_0 (n j : Nat) : (List.replicate n (0 : Int)).getD j 0 = 0 := rep_at0 n j
theorem mxA_rep {t : Trf} {n : Nat} : ∀ i, mxA t (List.replicate n 0) i = 0
  | 0 => rfl
  | i + 1 => by simp only [mxA]; rw [mxA_rep i, rep_0]; simp
section
variable {t : Trf} {M : Mom} {ms : List Int}
theorem drX_len : (drX t M ms).sg.length = ms.length := sgK_len _
theorem drX_at {k : Nat} (hk : k < ms.length) : sgx (drX t M ms) k = ⟨0, ms.getD k 0, 1⟩ := sgK_at _ hk
theorem drX_trip (ht : trfE t = 0) (hM : momB M = true) (hm : MsOk ms) (hz : zoneIn t 0 = true) : tripE t (drX t M ms) = 0 := by
  refine (trip_5 ?_ (fun i hi => ?_) ?_ fun i hi => ?_).1
  · unfold tripH
    rw [ht, show momB (drX t M ms).m = true from hM, show (((drX t M ms).ex.length : Int) == (t.extras.length : Int)) = true by show (((List.replicate t.extras.length (0 : Int)).length : Int) == _) = true; simp]; rfl
  · unfold exE
    show isOk (inB ((List.replicate t.extras.length (0 : Int)).getD i 0) 0 20) 2 = 0
    rw [rep_0]; rfl
  · unfold tripM
    have := hm.pos; have := hm.len
    rw [drX_len, decide_eq_true (show 0 < (ms.length : Int) by omega), decide_eq_true (show (ms.length : Int) ≤ 60 by omega)]; rfl
  · rw [drX_len] at hi
    have m := hm.me i hi
    unfold sgE
    rw [drX_at hi]
    show firstS [isOk (zoneIn t 0) 6, isOk (bif inB (ms.getD i 0) 0 100000 then inB 1 1 36000 else false) 2] = 0
    rw [hz, inB_iff.2 (show 0 ≤ ms.getD i 0 ∧ ms.getD i 0 ≤ 100000 by omega)]; rfl
theorem drX_T (T : TripOk t (drX t M ms)) : ∀ k, k ≤ ms.length → segT (drX t M ms) k = k
  | 0, _ => rfl
  | k + 1, hk => by
    simp only [segT]
    rw [drX_T T k (by omega), drX_at (by omega)]
    show (k : Int) + 1 = ((k + 1 : Nat) : Int); omega
theorem dr_mr (hM : momB M = true) (T : TripOk t (drX t M ms)) {s : Mc} {k : Nat} (hk : k < ms.length) (h1 : s.zn = 0) (h2 : s.tk = k) :
    mrE t (drL M ms) s = segE t (drX t M ms) k ∧ (segE t (drX t M ms) k = 0 → mrN t (drL M ms) s = segN t (drX t M ms) k) := by
  have hn : nowM (drL M ms) s = laterQ M k := now_later hM (by omega) (by show M.d * 86400 + M.s + s.tk = _; rw [h2])
  have l : k < (drX t M ms).sg.length := by rw [drX_len]; exact hk
  have e := segM_eq T k (by omega)
  have em : segM (drX t M ms) k = laterQ M k := by rw [e.1, drX_T T k (by omega)]; rfl
  have z : zoneIn t 0 = true := by have := T.z k l; rw [drX_at hk] at this; exact this
  have ep : segP (drX t M ms) k = ⟨0, laterQ M k⟩ := by unfold segP; rw [em, drX_at hk]
  unfold mrE mrN segE segN segH mnE
  rw [hn, em, ep, h1]
  rw [em] at e
  cases c : momB (laterQ M k) with
  | true =>
    have b := mom_bd c
    have g : gateE t ⟨0, laterQ M k⟩ = 0 := gate_ok.2 ⟨T.trf, z, c⟩
    have r := ruleAt_0 g
    rw [decide_eq_true b.1.2, r.1, r.2]
    exact ⟨rfl, fun _ => rfl⟩
  | false =>
    have b : ¬ (laterQ M k).d ≤ 100000 := fun q => by
      have : momB (laterQ M k) = true := by unfold momB; rw [inB_iff.2 ⟨e.2.1, q⟩, inB_iff.2 ⟨e.2.2.2.1, e.2.2.2.2⟩]; rfl
      rw [c] at this; cases this
    rw [decide_eq_false b]
    exact ⟨rfl, fun q => by cases q⟩
structure Dv (t : Trf) (M : Mom) (ms : List Int) (k : Nat) (si : Int) (s : Mc) : Prop where
  ps : s.ps = 1
  zn : s.zn = 0
  si : s.si = si
  tk : s.tk = k
  pa : s.pa = 1000 * accP (ptX t (drX t M ms)) k
  st : s.st = (segR t (drX t M ms) 0).st
  ex : s.ex = List.replicate t.extras.length 0
  tr : s.tr = []
  fa : mFare t (drL M ms) s ≤ 1000000000
theorem ev_one {l : Log} {s : Mc} {i : Nat} {v : Ev} (hv : l.ev.getD i ev0 = v) (h : v.k = 1) : evS_ t l s i = tkS t l s v.n ∧ evF t l s i = firstS [tkE t l s v.n, bif decide (mFare t l (tkS t l s v.n) ≤ 1000000000) then 0 else 8] := by
  subst hv; exact evF_eq (evG_1 h)
theorem ev_two {l : Log} {s : Mc} {i : Nat} {v : Ev} (hv : l.ev.getD i ev0 = v) (h : v.k = 2) : evS_ t l s i = poS t l s i v.n ∧ evF t l s i = firstS [poE t l s i v.n, bif decide (mFare t l (poS t l s i v.n) ≤ 1000000000) then 0 else 8] := by
  subst hv; exact evF_eq (evG_2 h)
theorem first_l {e f : Int} (h : e ≠ 0) : firstS [e, f] = e := by unfold firstS; rw [decide_eq_false h]; rfl
theorem first_0 {f : Int} : firstS [0, f] = f := by by_cases h : f = 0 <;> simp [firstS, h]
theorem dr_tick (hM : momB M = true) (T : TripOk t (drX t M ms)) (g : Gd t (drL M ms)) {k i : Nat} (hk : k < ms.length) {s : Mc} (h : Dv t M ms k (ms.getD k 0) s) (hv : (drL M ms).ev.getD i ev0 = ⟨1, 1⟩) :
    (evF t (drL M ms) s i = 0 ∧ Dv t M ms (k + 1) 0 (evS_ t (drL M ms) s i) ∧ segE t (drX t M ms) k = 0) ∨ (evF t (drL M ms) s i = 8 ∨ segE t (drX t M ms) k ≠ 0 ∧ evF t (drL M ms) s i = segE t (drX t M ms) k) := by
  have w := ev_one (t := t) (s := s) hv rfl
  have w1 : evS_ t (drL M ms) s i = tkS t (drL M ms) s 1 := w.1
  have w2 : evF t (drL M ms) s i = firstS [tkE t (drL M ms) s 1, bif decide (mFare t (drL M ms) (tkS t (drL M ms) s 1) ≤ 1000000000) then 0 else 8] := w.2
  have hr : rnB s = true := rn_iff.2 (.inl h.ps)
  have mr := dr_mr hM T hk h.zn h.tk
  by_cases e : segE t (drX t M ms) k = 0
  · have e1 : rdE t (drL M ms) s = 0 := (rdE_t hr).trans (mr.1.trans e)
    by_cases c : 1000000000 < mFare t (drL M ms) (rdS t (drL M ms) s 1)
    · have b := tk_big (by decide) e1 c
      rw [b.2, first_l (by decide)] at w2
      exact .inr (.inl w2)
    · have b := tk_step (by decide) e1 c
      have kk := rdK_bd (t := t) (l := drL M ms) (s := s) (n := 1) (by decide)
      have z := tk_end (t := t) (l := drL M ms) (s := rdS t (drL M ms) s 1) (n := 1 - rdK t (drL M ms) s 1) (by omega)
      rw [z.1, z.2] at b
      rw [b.1] at w1
      rw [b.1, b.2, decide_eq_true (show mFare t (drL M ms) (rdS t (drL M ms) s 1) ≤ 1000000000 by omega), first_0] at w2
      rw [rd_one hr] at w1
      rw [rd_one hr] at c
      have p := pc_eq (t := t) (l := drL M ms) hr 1
      refine .inl ⟨w2, ?_, e⟩
      rw [w1]
      refine ⟨p.2.1.trans h.ps, p.2.2.1.trans h.zn, p.2.2.2.2.2.2.1, by rw [p.1, h.tk]; omega, ?_, p.2.2.2.1.trans h.st, p.2.2.2.2.1.trans h.ex, p.2.2.2.2.2.2.2.trans h.tr, by omega⟩
      rw [p.2.2.2.2.2.1, h.pa, h.ps, h.si, mr.2 e]
      simp only [accP]
      rw [Int.mul_add]
      congr 1
      have em : dstQ t (segN t (drX t M ms) k) (ms.getD k 0) = 1000 * ptM t (drX t M ms) k := by
        unfold dstQ ptM segR ruA; rw [drX_at hk, Int.mul_assoc]
      have es : scnQ t (drL M ms) (segN t (drX t M ms) k) = 1000 * ptS t (drX t M ms) k := by
        unfold scnQ ptS segR ruA; rw [drX_at hk]
        show 1000 * _ = 1000 * (_ * (1 : Int)); rw [Int.mul_one]
      unfold cbQ ptX
      rw [em, es, show max (1 : Int) 1 = 1 from rfl, Int.mul_one]
      by_cases q : ptM t (drX t M ms) k < ptS t (drX t M ms) k
      · rw [decide_eq_true q, decide_eq_true (show 1000 * ptM t (drX t M ms) k ≤ 1000 * ptS t (drX t M ms) k by omega)]; rfl
      · rw [decide_eq_false q]
        by_cases q2 : ptM t (drX t M ms) k = ptS t (drX t M ms) k
        · rw [q2, decide_eq_true (Int.le_refl _)]; rfl
        · rw [decide_eq_false (show ¬ 1000 * ptM t (drX t M ms) k ≤ 1000 * ptS t (drX t M ms) k by omega)]; rfl
  · have e1 : rdE t (drL M ms) s = segE t (drX t M ms) k := (rdE_t hr).trans mr.1
    have b := tk_err (t := t) (l := drL M ms) (s := s) (n := 1) (by decide) (by rw [e1]; exact e)
    rw [b.2, e1, first_l e] at w2
    exact .inr (.inr ⟨e, w2⟩)
theorem dr_sec (hM : momB M = true) (T : TripOk t (drX t M ms)) (g : Gd t (drL M ms)) {k : Nat} (hk : k < ms.length) (hme : 0 ≤ ms.getD k 0) (h : Dv t M ms k 0 (mcN t (drL M ms) (evK ms k).length)) (h0 : ∀ j, j < (evK ms k).length → mcE t (drL M ms) j = 0) :
    (segE t (drX t M ms) k = 0 ∧ Dv t M ms (k + 1) 0 (mcN t (drL M ms) (evK ms (k + 1)).length) ∧ ∀ j, j < (evK ms (k + 1)).length → mcE t (drL M ms) j = 0) ∨
    ∃ i, i < (evK ms (k + 1)).length ∧ (∀ j, j < i → mcE t (drL M ms) j = 0) ∧ (mcE t (drL M ms) i = 8 ∨ segE t (drX t M ms) k ≠ 0 ∧ mcE t (drL M ms) i = segE t (drX t M ms) k) := by
  by_cases q : 0 < ms.getD k 0
  · have a := dr_at1 (M := M) hk q
    have w := ev_at0 (t := t) (s := mcN t (drL M ms) (evK ms k).length) a.1 rfl
    have z : mcE t (drL M ms) (evK ms k).length = 0 := w.2.2 h.fa
    have h1 := all_lt h0 z
    have d1 : Dv t M ms k (ms.getD k 0) (mcN t (drL M ms) ((evK ms k).length + 1)) := by
      show Dv t M ms k (ms.getD k 0) (evS_ t (drL M ms) (mcN t (drL M ms) (evK ms k).length) (evK ms k).length)
      rw [w.1]
      exact ⟨h.ps, h.zn, by show _ + ms.getD k 0 = _; rw [h.si]; omega, h.tk, h.pa, h.st, h.ex, h.tr, Int.le_trans (Int.le_of_eq (fare_eq (s := mcN t (drL M ms) (evK ms k).length) rfl rfl rfl rfl)) h.fa⟩
    rw [a.2.2]
    rcases dr_tick hM T g hk d1 a.2.1 with ⟨k1, k2, k3⟩ | k1
    · exact .inl ⟨k3, k2, all_lt h1 k1⟩
    · exact .inr ⟨(evK ms k).length + 1, by omega, h1, k1⟩
  · have a := dr_at0 (M := M) hk q
    rw [a.2]
    rcases dr_tick hM T g hk (show Dv t M ms k (ms.getD k 0) _ from by rw [show ms.getD k 0 = 0 by omega]; exact h) a.1 with ⟨k1, k2, k3⟩ | k1
    · exact .inl ⟨k3, k2, all_lt h0 k1⟩
    · exact .inr ⟨(evK ms k).length, by omega, h0, k1⟩
theorem dr_put (T : TripOk t (drX t M ms)) (hM : momB M = true) (g : Gd t (drL M ms)) (hp : 0 < ms.length) :
    (segE t (drX t M ms) 0 = 0 ∧ Dv t M ms 0 0 (mcN t (drL M ms) 1) ∧ mcE t (drL M ms) 0 = 0) ∨ (segE t (drX t M ms) 0 ≠ 0 ∧ mcE t (drL M ms) 0 = segE t (drX t M ms) 0) := by
  have w := ev_two (t := t) (s := mc0) (dr_at (M := M) (ms := ms)) rfl
  have w1 : evS_ t (drL M ms) mc0 0 = poS t (drL M ms) mc0 0 1 := w.1
  have w2 : mcE t (drL M ms) 0 = firstS [poE t (drL M ms) mc0 0 1, bif decide (mFare t (drL M ms) (poS t (drL M ms) mc0 0 1) ≤ 1000000000) then 0 else 8] := w.2
  have q : goB mc0.ps 1 = true := rfl
  have c0 : chgB mc0 = false := rfl
  have e : chE_ t (drL M ms) mc0 = 0 := chE_f c0
  have cs : chS t (drL M ms) mc0 = mc0 := chS_f c0
  have mr := dr_mr hM T (s := mc0) hp rfl rfl
  by_cases z : segE t (drX t M ms) 0 = 0
  · have r : mrE t (drL M ms) (chS t (drL M ms) mc0) = 0 := by rw [cs]; exact mr.1.trans z
    have b := po_bg (i := 0) q e rfl r
    rw [cs] at b
    have hR := mr_rule g.trf (mr.1.trans z)
    have sb := hR.st
    rw [mr.2 z] at sb
    have fa : mFare t (drL M ms) { bgS t (drL M ms) mc0 0 with ps := 1 } ≤ 1000000000 := by
      have u := trf_unit g.trf
      have s0 : mStp t (drL M ms) { bgS t (drL M ms) mc0 0 with ps := 1 } = 0 := by unfold mStp; exact Int.zero_tdiv _
      have x0 : mxA t (List.replicate t.extras.length 0) (List.replicate t.extras.length (0 : Int)).length = 0 := mxA_rep _
      by_cases p : 0 < t.step
      · rw [fare_1 (s := { bgS t (drL M ms) mc0 0 with ps := 1 }) (show (1 : Int) ≠ 0 by decide) p, s0]
        have b := min_bd (m := 0) (Int.le_refl _) p u.2.2
        have e0 : min (0 : Int) ((1000000000 : Int).tdiv t.step + 1) = 0 := by
          have : 0 ≤ (1000000000 : Int).tdiv t.step := Int.tdiv_nonneg (by decide) (by omega)
          omega
        rw [e0, Int.zero_mul]
        show (ruA t (mrN t (drL M ms) mc0)).st + mxA t (List.replicate t.extras.length 0) (List.replicate t.extras.length (0 : Int)).length + 0 ≤ _
        rw [x0, mr.2 z]; omega
      · rw [fare_2 (s := { bgS t (drL M ms) mc0 0 with ps := 1 }) (show (1 : Int) ≠ 0 by decide) p]
        show (ruA t (mrN t (drL M ms) mc0)).st + mxA t (List.replicate t.extras.length 0) (List.replicate t.extras.length (0 : Int)).length ≤ _
        rw [x0, mr.2 z]; omega
    rw [b.1, b.2, decide_eq_true fa, first_0] at w2
    refine .inl ⟨z, ?_, w2⟩
    show Dv t M ms 0 0 (evS_ t (drL M ms) mc0 0)
    rw [w1, b.2]
    exact ⟨rfl, rfl, rfl, rfl, by simp [bgS, accP], by show (ruA t (mrN t (drL M ms) mc0)).st = _; rw [mr.2 z]; rfl, rfl, rfl, fa⟩
  · have r : mrE t (drL M ms) (chS t (drL M ms) mc0) ≠ 0 := by rw [cs, mr.1]; exact z
    have b := po_bgE (i := 0) q e rfl r
    rw [b.1, cs, mr.1, first_l z] at w2
    exact .inr ⟨z, w2⟩
theorem dr_run (T : TripOk t (drX t M ms)) (hM : momB M = true) (g : Gd t (drL M ms)) (hm : MsOk ms) : ∀ k, k ≤ ms.length →
    ((∀ j, j < k → segE t (drX t M ms) j = 0) ∧ Dv t M ms k 0 (mcN t (drL M ms) (evK ms k).length) ∧ ∀ j, j < (evK ms k).length → mcE t (drL M ms) j = 0) ∨
    ∃ i, i < (drL M ms).ev.length ∧ (∀ j, j < i → mcE t (drL M ms) j = 0) ∧ (mcE t (drL M ms) i = 8 ∨ rideE t (drX t M ms) ≠ 0 ∧ mcE t (drL M ms) i = rideE t (drX t M ms))
  | 0, _ => by
    have te : tripE t (drX t M ms) = 0 := drX_trip T.trf hM hm (by have := T.z 0 (by rw [drX_len]; exact hm.pos); rw [drX_at hm.pos] at this; exact this)
    rcases dr_put T hM g hm.pos with ⟨a, b, c⟩ | ⟨a, b⟩
    · refine .inl ⟨fun j hj => absurd hj (Nat.not_lt_zero j), b, fun j hj => ?_⟩
      have hj : j < 1 := hj
      obtain rfl : j = 0 := by omega
      exact c
    · have r := ride_2 (i := 0) te (by rw [drX_len]; exact hm.pos) (fun j hj => absurd hj (Nat.not_lt_zero j)) rfl a
      exact .inr ⟨0, by rw [dr_atE.2.2]; omega, fun j hj => absurd hj (Nat.not_lt_zero j), .inr ⟨by rw [r]; exact a, by rw [r]; exact b⟩⟩
  | k + 1, hk => by
    have te : tripE t (drX t M ms) = 0 := drX_trip T.trf hM hm (by have := T.z 0 (by rw [drX_len]; exact hm.pos); rw [drX_at hm.pos] at this; exact this)
    rcases dr_run T hM g hm k (by omega) with ⟨a, b, c⟩ | h
    · rcases dr_sec hM T g (show k < ms.length by omega) (hm.me k (by omega)).1 b c with ⟨d, e, f⟩ | ⟨i, hi, d, e⟩
      · exact .inl ⟨all_lt a d, e, f⟩
      · have pl : (evK ms (k + 1)).length ≤ (drL M ms).ev.length := by
          obtain ⟨r, hr⟩ := drL_pre (M := M) hk
          rw [hr]; simp
        refine .inr ⟨i, by omega, d, ?_⟩
        rcases e with e | ⟨e1, e2⟩
        · exact .inl e
        · have r := ride_2 (i := k) te (by rw [drX_len]; omega) a rfl e1
          exact .inr ⟨by rw [r]; exact e1, by rw [r]; exact e2⟩
    · exact .inr h
theorem fare_ps {l : Log} {s s' : Mc} (h : s.ps ≠ 0) (h' : s'.ps ≠ 0) (h2 : s'.st = s.st) (h3 : s'.ex = s.ex) (h4 : s'.pa = s.pa) : mFare t l s' = mFare t l s := by
  have e : mStp t l s' = mStp t l s := by unfold mStp; rw [h4]
  by_cases p : 0 < t.step
  · rw [fare_1 h p, fare_1 h' p, h2, h3, e]
  · rw [fare_2 h p, fare_2 h' p, h2, h3]
theorem dr_end (g : Gd t (drL M ms)) {s : Mc} (h : Dv t M ms ms.length 0 s) {i : Nat} (h3 : (drL M ms).ev.getD i ev0 = ⟨2, 3⟩) (h0 : (drL M ms).ev.getD (i + 1) ev0 = ⟨2, 0⟩) :
    evF t (drL M ms) s i = 0 ∧ evF t (drL M ms) (evS_ t (drL M ms) s i) (i + 1) = 0 ∧ ∃ X, (evS_ t (drL M ms) (evS_ t (drL M ms) s i) (i + 1)).tr = [X] ∧ X.fa = mFare t (drL M ms) s := by
  have w := ev_two (t := t) (s := s) h3 rfl
  have w1 : evS_ t (drL M ms) s i = poS t (drL M ms) s i 3 := w.1
  have w2 : evF t (drL M ms) s i = firstS [poE t (drL M ms) s i 3, bif decide (mFare t (drL M ms) (poS t (drL M ms) s i 3) ≤ 1000000000) then 0 else 8] := w.2
  have v := ev_two (t := t) (s := evS_ t (drL M ms) s i) h0 rfl
  have v1 : evS_ t (drL M ms) (evS_ t (drL M ms) s i) (i + 1) = poS t (drL M ms) (evS_ t (drL M ms) s i) ((i + 1 : Nat) : Int) 0 := v.1
  have v2 : evF t (drL M ms) (evS_ t (drL M ms) s i) (i + 1) = firstS [poE t (drL M ms) (evS_ t (drL M ms) s i) ((i + 1 : Nat) : Int) 0, bif decide (mFare t (drL M ms) (poS t (drL M ms) (evS_ t (drL M ms) s i) ((i + 1 : Nat) : Int) 0) ≤ 1000000000) then 0 else 8] := v.2
  have q : goB s.ps 3 = true := by rw [h.ps]; rfl
  have c0 : chgB s = false := by unfold chgB; rw [h.si]; cases rnB s <;> rfl
  have z1 : s.ps ≠ 0 := by rw [h.ps]; decide
  have b := po_mv (i := (i : Int)) q (chE_f (t := t) (l := drL M ms) c0) z1 (show (3 : Int) ≠ 0 by decide)
  rw [chS_f c0] at b
  have f1 : mFare t (drL M ms) { ({ s with si := 0 } : Mc) with ps := 3 } = mFare t (drL M ms) s := fare_ps z1 (show (3 : Int) ≠ 0 by decide) rfl rfl rfl
  rw [b.1, b.2, f1, decide_eq_true h.fa, first_0] at w2
  rw [b.2] at w1
  rw [w1] at v1 v2 ⊢
  have c3 : chgB { ({ s with si := 0 } : Mc) with ps := 3 } = false := rfl
  have d := po_ed (t := t) (l := drL M ms) (s := { ({ s with si := 0 } : Mc) with ps := 3 }) (i := ((i + 1 : Nat) : Int)) (p := 0) (show goB 3 0 = true from rfl) (chE_f c3) (show (3 : Int) ≠ 0 by decide) rfl
  rw [chS_f c3] at d
  rw [d.1, d.2, fare_0 (s := { edS t (drL M ms) _ _ with ps := 0 }) rfl, decide_eq_true (show (0 : Int) ≤ 1000000000 by decide), first_0] at v2
  rw [d.2] at v1
  refine ⟨w2, v2, ?_⟩
  rw [v1]
  refine ⟨_, by show s.tr ++ [_] = _; rw [h.tr]; rfl, ?_⟩
  show mFare t (drL M ms) _ = _
  exact fare_ps z1 (show (3 : Int) ≠ 0 by decide) rfl rfl rfl
theorem dr_main (hk : TOk t) (hm : MsOk ms) : rnE t (drL M ms) = 8 ∨ (rideE t (drX t M ms) ≠ 0 ∧ rnE t (drL M ms) = rideE t (drX t M ms)) ∨
    (rideE t (drX t M ms) = 0 ∧ rnE t (drL M ms) = 0 ∧ fareE t (drX t M ms) (ptX t (drX t M ms)) = 0 ∧ tkgE t (drL M ms) = 0 ∧ tkgN t (drL M ms) = totQ t (drX t M ms) (ptX t (drX t M ms))) := by
  have hp := hm.pos
  by_cases ht : trfE t = 0
  · by_cases hM : momB M = true
    · have al := drL_ok hm hM
      have g : Gd t (drL M ms) := ⟨hk, ht, al⟩
      have elp : 0 < (drL M ms).ev.length := by rw [dr_atE.2.2]; omega
      by_cases hz : zoneIn t 0 = true
      · have te := drX_trip ht hM hm hz
        have T := trip_0 te
        rcases dr_run T hM g hm ms.length (Nat.le_refl _) with ⟨a, b, c⟩ | ⟨i, hi, h0, h1⟩
        · have at_ := dr_atE (M := M) (ms := ms)
          have E := dr_end g b at_.1 at_.2.1
          have c1 : ∀ j, j < (evK ms ms.length).length + 1 → mcE t (drL M ms) j = 0 := all_lt c E.1
          have c2 : ∀ j, j < (evK ms ms.length).length + 2 → mcE t (drL M ms) j = 0 := all_lt c1 E.2.1
          rw [← at_.2.2] at c2
          have r0 := (rn_ok ht al c2).1
          obtain ⟨X, x1, x2⟩ := E.2.2
          have x1 : (mcN t (drL M ms) ((evK ms ms.length).length + 2)).tr = [X] := x1
          rw [← at_.2.2] at x1
          have fa := b.fa
          have re : rideE t (drX t M ms) = 0 := ride_3 te fun j hj => a j (by rw [drX_len] at hj; exact hj)
          have D := drv_me (t := t) (x := drX t M ms) (f := ptX t (drX t M ms)) rfl
          have tot : totQ t (drX t M ms) (ptX t (drX t M ms)) = mFare t (drL M ms) (mcN t (drL M ms) (evK ms ms.length).length) := by
            have hmm : Hm t (drL M ms) (mcN t (drL M ms) (evK ms ms.length).length) := mcN_hm g (by rw [at_.2.2]; omega)
            rw [fare_end hmm (by rw [b.ps]; decide) fa]
            unfold totQ
            rw [D.1, D.2, b.st, b.ex, exS_mxA, drX_len]
            have u := trf_unit ht
            have nn : 0 ≤ accP (ptX t (drX t M ms)) ms.length := accP_nn fun j hj => (ptX_bd T (by rw [drX_len]; exact hj) (a j hj)).1
            have sp : mStp t (drL M ms) (mcN t (drL M ms) (evK ms ms.length).length) = (accP (ptX t (drX t M ms)) ms.length).tdiv t.unit := by
              unfold mStp
              rw [b.pa]
              show (1000 * accP (ptX t (drX t M ms)) ms.length).tdiv (t.unit * 1000) = _
              rw [Int.tdiv_eq_ediv_of_nonneg (by omega), Int.tdiv_eq_ediv_of_nonneg nn, Int.mul_comm t.unit 1000, Int.mul_ediv_mul_of_pos _ _ (by omega)]
            rw [sp]
            have x0 : mxA t (drX t M ms).ex (drX t M ms).ex.length = mxA t (List.replicate t.extras.length 0) (List.replicate t.extras.length (0 : Int)).length := rfl
            rw [x0]
            by_cases p : 0 < t.step
            · rw [decide_eq_true p]
              show _ = _ + _ + (accP (ptX t (drX t M ms)) ms.length).tdiv t.unit * t.step; omega
            · rw [decide_eq_false p, show t.step = 0 by omega, Int.mul_zero]
              show _ = _ + _ + (0 : Int); omega
          have fe : fareE t (drX t M ms) (ptX t (drX t M ms)) = 0 := fare_fit (fun q => by cases q) (by rw [tot]; omega)
          have k0 : faN (mcN t (drL M ms) (drL M ms).ev.length).tr (mcN t (drL M ms) (drL M ms).ev.length).tr.length = mFare t (drL M ms) (mcN t (drL M ms) (evK ms ms.length).length) := by
            rw [x1]
            show (0 : Int) + X.fa = _
            rw [x2]; omega
          have k := tkg_0 r0 (by rw [k0]; omega)
          exact .inr (.inr ⟨re, r0, fe, k.1, by rw [k.2, k0, tot]⟩)
        · have ne : mcE t (drL M ms) i ≠ 0 := by
            rcases h1 with q | ⟨q1, q2⟩
            · rw [q]; decide
            · rw [q2]; exact q1
          have r := (rn_hit ht al hi h0 ne).1
          rw [r]
          rcases h1 with q | q
          · exact .inl q
          · exact .inr (.inl q)
      · have hz : zoneIn t 0 = false := by cases c : zoneIn t 0; rfl; exact absurd c hz
        have x6 : tripE t (drX t M ms) = 6 := by
          refine (trip_4 (i := 0) ?_ (fun i hi => ?_) ?_ (by rw [drX_len]; exact hp) (fun j hj => absurd hj (Nat.not_lt_zero j)) ?_ (by decide)).1
          · unfold tripH
            rw [ht, show momB (drX t M ms).m = true from hM, show (((drX t M ms).ex.length : Int) == (t.extras.length : Int)) = true by show (((List.replicate t.extras.length (0 : Int)).length : Int) == _) = true; simp]; rfl
          · unfold exE
            show isOk (inB ((List.replicate t.extras.length (0 : Int)).getD i 0) 0 20) 2 = 0
            rw [rep_0]; rfl
          · unfold tripM
            have := hm.len
            rw [drX_len, decide_eq_true (show 0 < (ms.length : Int) by omega), decide_eq_true (show (ms.length : Int) ≤ 60 by omega)]; rfl
          · unfold sgE
            rw [drX_at hp]
            show firstS [isOk (zoneIn t 0) 6, _] = 6
            rw [hz]; exact first_l (e := 6) (by decide)
        have r6 : rideE t (drX t M ms) = 6 := ride_1 x6 (by decide)
        have w := ev_two (t := t) (s := mc0) (dr_at (M := M) (ms := ms)) rfl
        have w2 : mcE t (drL M ms) 0 = firstS [poE t (drL M ms) mc0 0 1, bif decide (mFare t (drL M ms) (poS t (drL M ms) mc0 0 1) ≤ 1000000000) then 0 else 8] := w.2
        have cs : chS t (drL M ms) mc0 = mc0 := chS_f rfl
        have hn : nowM (drL M ms) mc0 = M := by
          have b := mom_bd hM
          have h := now_later (l := drL M ms) (s := mc0) (S := 0) hM (by decide) rfl
          rw [h]; unfold laterQ
          rw [Int.tdiv_eq_ediv_of_nonneg (by omega), Int.tmod_eq_emod_of_nonneg (by omega), show M.d + (M.s + 0) / 86400 = M.d by omega, show (M.s + 0) % 86400 = M.s by omega]
        have m6 : mrE t (drL M ms) mc0 = 6 := by
          have b := mom_bd hM
          have ge : gateE t ⟨0, M⟩ = 6 := by
            unfold gateE placeE
            show firstS [trfE t, firstS [isOk (zoneIn t 0) 6, _]] = 6
            rw [ht, hz, first_0]; exact first_l (e := 6) (by decide)
          unfold mrE mnE
          rw [hn, decide_eq_true b.1.2]
          show ruleAtE t ⟨0, M⟩ = 6
          rw [(ruleAt_e (by rw [ge]; decide)).1, ge]
        have b := po_bgE (t := t) (l := drL M ms) (s := mc0) (i := 0) (p := 1) rfl (chE_f rfl) rfl (by rw [cs, m6]; decide)
        rw [b.1, cs, m6, first_l (by decide)] at w2
        have r := (rn_hit ht al elp (fun j hj => absurd hj (Nat.not_lt_zero j)) (by rw [w2]; decide)).1
        exact .inr (.inl ⟨by rw [r6]; decide, by rw [r, w2, r6]⟩)
    · have hM : momB M = false := by cases c : momB M; rfl; exact absurd c hM
      have x2 : tripE t (drX t M ms) = 2 := by
        refine (trip_1 ?_ (by decide)).1
        unfold tripH
        rw [ht, show momB (drX t M ms).m = false from hM]
        simp [firstS, isOk]
      have h2 : headE (drL M ms) = 2 := by
        have m : momE M.d M.s = 2 := by
          unfold momB at hM; unfold momE
          cases a : inB M.d 0 100000 <;> cases b : inB M.s 0 86399 <;> rw [a, b] at hM <;> first | rfl | cases hM
        rw [head_2 (l := drL M ms) rfl (by show momE M.d M.s ≠ 0; rw [m]; decide)]; exact m
      have a := alone_ne h2 (by decide)
      have r := rn_al (l := drL M ms) ht (by rw [a.1]; decide)
      have r2 : rideE t (drX t M ms) = 2 := ride_1 x2 (by decide)
      exact .inr (.inl ⟨by rw [r2]; decide, by rw [r.1, a.1, r2]⟩)
  · have x0 : tripE t (drX t M ms) = trfE t := (trip_1 (by unfold tripH; simp only [firstS, decide_eq_false ht, cond_false]) ht).1
    have r2 : rideE t (drX t M ms) = trfE t := ride_1 x0 ht
    exact .inr (.inl ⟨by rw [r2]; exact ht, by rw [r2, (rn_trf ht).1]⟩)

theorem suM_bd (hm : MsOk ms) : ∀ k, k ≤ ms.length → 0 ≤ suM ms k ∧ suM ms k ≤ 100 * k
  | 0, _ => by simp [suM]
  | k + 1, hk => by
    have ih := suM_bd hm k (by omega)
    have m := hm.me k (by omega)
    simp only [suM]; omega
theorem dr_one (hm : MsOk ms) (hr : rideE t (drX t M ms) = 0) (hs : ∀ k, k < ms.length → segN t (drX t M ms) k = segN t (drX t M ms) 0) (hf : fareE t (drX t M ms) (ptX t (drX t M ms)) = 0) :
    rideE t (drO t M ms) = 0 ∧ fareE t (drO t M ms) (ptX t (drO t M ms)) = 0 ∧ totQ t (drO t M ms) (ptX t (drO t M ms)) ≤ totQ t (drX t M ms) (ptX t (drX t M ms)) ∧
    totQ t (drX t M ms) (ptX t (drX t M ms)) ≤ totQ t (drO t M ms) (ptB t (drO t M ms)) := by
  obtain ⟨T, hseg⟩ := ride_0 hr
  have hp := hm.pos; have hl := hm.len
  have sb := suM_bd hm ms.length (Nat.le_refl _)
  have z : zoneIn t 0 = true := by have := T.z 0 (by rw [drX_len]; exact hp); rw [drX_at hp] at this; exact this
  have ol : (drO t M ms).sg.length = 1 := rfl
  have o0 : sgx (drO t M ms) 0 = ⟨0, suM ms ms.length, ms.length⟩ := rfl
  have te : tripE t (drO t M ms) = 0 := by
    refine (trip_5 ?_ (fun i hi => ?_) ?_ fun i hi => ?_).1
    · unfold tripH
      rw [T.trf, show momB (drO t M ms).m = true from T.mom, show (((drO t M ms).ex.length : Int) == (t.extras.length : Int)) = true by show (((List.replicate t.extras.length (0 : Int)).length : Int) == _) = true; simp]; rfl
    · unfold exE
      show isOk (inB ((List.replicate t.extras.length (0 : Int)).getD i 0) 0 20) 2 = 0
      rw [rep_0]; rfl
    · unfold tripM; rw [ol]; rfl
    · rw [ol] at hi
      obtain rfl : i = 0 := by omega
      unfold sgE
      rw [o0]
      show firstS [isOk (zoneIn t 0) 6, isOk (bif inB (suM ms ms.length) 0 100000 then inB (ms.length : Int) 1 36000 else false) 2] = 0
      rw [z, inB_iff.2 (show 0 ≤ suM ms ms.length ∧ suM ms ms.length ≤ 100000 by omega), inB_iff.2 (show 1 ≤ (ms.length : Int) ∧ (ms.length : Int) ≤ 36000 by omega)]; rfl
  have m0 : segM (drO t M ms) 0 = segM (drX t M ms) 0 := rfl
  have p0 : segP (drO t M ms) 0 = segP (drX t M ms) 0 := by unfold segP; rw [m0, o0, drX_at hp]
  have e0 : segE t (drO t M ms) 0 = 0 := by
    have := hseg 0 (by rw [drX_len]; exact hp)
    unfold segE segH at this ⊢; rw [m0, p0]; exact this
  have n0 : segN t (drO t M ms) 0 = segN t (drX t M ms) 0 := by unfold segN segH; rw [p0]
  have r0 : segR t (drO t M ms) 0 = segR t (drX t M ms) 0 := by unfold segR; rw [n0]
  have re : rideE t (drO t M ms) = 0 := ride_3 te fun j hj => by
    rw [ol] at hj
    obtain rfl : j = 0 := by omega
    exact e0
  have rk : ∀ k, k < ms.length → segR t (drX t M ms) k = segR t (drX t M ms) 0 := fun k hk => by unfold segR; rw [hs k hk]
  have T1 := trip_0 te
  have pb := pt_bd T1 (k := 0) (by rw [ol]; decide) e0
  have sums : ∀ k, k ≤ ms.length → (segR t (drX t M ms) 0).me * suM ms k ≤ accP (ptX t (drX t M ms)) k ∧ (segR t (drX t M ms) 0).se * k ≤ accP (ptX t (drX t M ms)) k ∧ accP (ptX t (drX t M ms)) k ≤ (segR t (drX t M ms) 0).me * suM ms k + (segR t (drX t M ms) 0).se * k := by
    intro k
    induction k with
    | zero => intro _; simp [suM, accP]
    | succ k ih =>
      intro hk
      have ih := ih (by omega)
      have b := pt_bd T (k := k) (by rw [drX_len]; omega) (hseg k (by rw [drX_len]; omega))
      have em : ptM t (drX t M ms) k = (segR t (drX t M ms) 0).me * ms.getD k 0 := by unfold ptM; rw [rk k (by omega), drX_at (by omega)]
      have es : ptS t (drX t M ms) k = (segR t (drX t M ms) 0).se := by unfold ptS; rw [rk k (by omega), drX_at (by omega)]; exact Int.mul_one _
      have x : ptM t (drX t M ms) k ≤ ptX t (drX t M ms) k ∧ ptS t (drX t M ms) k ≤ ptX t (drX t M ms) k ∧ ptX t (drX t M ms) k ≤ ptM t (drX t M ms) k + ptS t (drX t M ms) k := by
        unfold ptX
        by_cases q : ptM t (drX t M ms) k < ptS t (drX t M ms) k
        · rw [decide_eq_true q]; simp only [cond_true]; omega
        · rw [decide_eq_false q]; simp only [cond_false]; omega
      simp only [accP, suM]
      rw [Int.mul_add, show ((k + 1 : Nat) : Int) = (k : Int) + 1 by omega, Int.mul_add, Int.mul_one, ← em]
      omega
  have S := sums ms.length (Nat.le_refl _)
  have om : ptM t (drO t M ms) 0 = (segR t (drX t M ms) 0).me * suM ms ms.length := by unfold ptM; rw [r0, o0]
  have os : ptS t (drO t M ms) 0 = (segR t (drX t M ms) 0).se * ms.length := by unfold ptS; rw [r0, o0]
  have ax : accP (ptX t (drO t M ms)) 1 = ptX t (drO t M ms) 0 := by simp [accP]
  have ab : accP (ptB t (drO t M ms)) 1 = ptB t (drO t M ms) 0 := by simp [accP]
  have xb : 0 ≤ ptX t (drO t M ms) 0 ∧ ptX t (drO t M ms) 0 ≤ accP (ptX t (drX t M ms)) ms.length := by
    have hx : ptX t (drO t M ms) 0 = bif decide (ptM t (drO t M ms) 0 < ptS t (drO t M ms) 0) then ptS t (drO t M ms) 0 else ptM t (drO t M ms) 0 := rfl
    rw [hx]
    by_cases q : ptM t (drO t M ms) 0 < ptS t (drO t M ms) 0
    · rw [decide_eq_true q]; simp only [cond_true]; omega
    · rw [decide_eq_false q]; simp only [cond_false]; omega
  have bb : accP (ptX t (drX t M ms)) ms.length ≤ ptB t (drO t M ms) 0 := by unfold ptB; omega
  have u := trf_unit T.trf
  have D := drv_me (t := t) (x := drX t M ms) (f := ptX t (drX t M ms)) rfl
  have DX := drv_me (t := t) (x := drO t M ms) (f := ptX t (drO t M ms)) rfl
  have DB := drv_me (t := t) (x := drO t M ms) (f := ptB t (drO t M ms)) rfl
  rw [drX_len] at D
  rw [ol, ax, r0] at DX
  rw [ol, ab, r0] at DB
  have ee : exS t (drO t M ms) (drO t M ms).ex.length = exS t (drX t M ms) (drX t M ms).ex.length := by rw [exS_mxA, exS_mxA]; rfl
  have le1 : totQ t (drO t M ms) (ptX t (drO t M ms)) ≤ totQ t (drX t M ms) (ptX t (drX t M ms)) := by
    unfold totQ
    rw [D.1, D.2, DX.1, DX.2, ee]
    have m := tdiv_mono xb.1 xb.2 (show 0 < t.unit by omega)
    have := Int.mul_le_mul_of_nonneg_right m (show 0 ≤ t.step by omega)
    omega
  have le2 : totQ t (drX t M ms) (ptX t (drX t M ms)) ≤ totQ t (drO t M ms) (ptB t (drO t M ms)) := by
    unfold totQ
    rw [D.1, D.2, DB.1, DB.2, ee]
    have m := tdiv_mono (show 0 ≤ accP (ptX t (drX t M ms)) ms.length by omega) bb (show 0 < t.unit by omega)
    have := Int.mul_le_mul_of_nonneg_right m (show 0 ≤ t.step by omega)
    omega
  have nb : ¬ 1000000000 < totQ t (drX t M ms) (ptX t (drX t M ms)) := fun q => by
    rw [fare_big (fun e => by cases e) q] at hf; cases hf
  exact ⟨re, fare_fit (fun q => by cases q) (by omega), le1, le2⟩
end
end Go.Fx
