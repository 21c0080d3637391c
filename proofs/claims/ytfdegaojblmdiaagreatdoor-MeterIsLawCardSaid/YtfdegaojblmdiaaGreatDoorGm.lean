/-
  What is true of a machine's pieces and trips; the fare that the law asks for.
-/
import Derived.Test.YtfdegaojblmdiaaGreatDoorGq
import Derived.Test.YtfdegaojblmdiaaGreatDoorGu
import Derived.Test.YtfdegaojblmdiaaGreatDoorGy
import Derived.Test.YtfdegaojblmdiaaGreatDoorGs

set_option linter.all false

/-
  The steps of counts.
-/
namespace Go.Fx
open Go.Proofs Go.RowKit

structure Cnt where
  r : Int
  p : Int
  s : Int
def cnt0 : Cnt := ⟨0, 0, 0⟩
def wOf (t : Trf) (c : Int) (x : Cnt) : Int := 1000 * (t.rules.getD x.r.toNat rul0).me * x.p + c * (t.rules.getD x.r.toNat rul0).se * x.s
def befC (l : List Cnt) (i : Nat) : Int := match i with | 0 => -1 | i + 1 => (l.getD i cnt0).r
@[irreducible] def cntE (t : Trf) (l : List Cnt) (i : Nat) : Int := firstS [isOk (inB (l.getD i cnt0).r 0 (t.rules.length - 1)) 6, isOk (decide (befC l i < (l.getD i cnt0).r)) 9, isOk (bif inB (l.getD i cnt0).p 0 20000000 then inB (l.getD i cnt0).s 0 1000000 else false) 2]
def accW (t : Trf) (c : Int) (l : List Cnt) : Nat → Int
  | 0 => 0
  | i + 1 => accW t c l i + wOf t c (l.getD i cnt0)
def stepH (t : Trf) (c : Int) (n : Nat) : Int := firstS [trfE t, isOk (inB c 1 100000) 2, isOk (decide ((n : Int) ≤ 12)) 8]
@[irreducible] def stepE (t : Trf) (c : Int) (l : List Cnt) : Int := bif decide (stepH t c l.length = 0) then scanE (cntE t l) (List.range l.length) else stepH t c l.length
@[irreducible] def stepN (t : Trf) (c : Int) (l : List Cnt) : Int := bif decide (stepE t c l = 0) then (accW t c l l.length).tdiv (t.unit * c) else 0
structure COk (t : Trf) (c : Int) (x : Cnt) : Prop where
  r : 0 ≤ x.r ∧ x.r < t.rules.length
  m1 : 0 ≤ 1000 * (t.rules.getD x.r.toNat rul0).me ∧ 1000 * (t.rules.getD x.r.toNat rul0).me ≤ 1000000000
  m2 : 0 ≤ 1000 * (t.rules.getD x.r.toNat rul0).me * x.p ∧ 1000 * (t.rules.getD x.r.toNat rul0).me * x.p ≤ 1000000000 * 20000000
  s1 : 0 ≤ c * (t.rules.getD x.r.toNat rul0).se ∧ c * (t.rules.getD x.r.toNat rul0).se ≤ 100000 * 1000000
  s2 : 0 ≤ c * (t.rules.getD x.r.toNat rul0).se * x.s ∧ c * (t.rules.getD x.r.toNat rul0).se * x.s ≤ 100000 * 1000000 * 1000000
section
variable {W0 : World} {G : Nat → Option AV} (hX : (Xc W0 G).Good)
include hX
end
end Go.Fx

/-
  What was counted in a trip, and its fare.
-/
namespace Go.Fx
open Go.Proofs

def inT (j : Int) (p : Pc) : Bool := bif p.tr == j then p.ps != 0 else false
def rlP (p : Pc) : Nat := (max 0 p.ru).toNat
def vP (t : Trf) (l : Log) (p : Pc) : Int := bif p.ps == 3 then 0 else bif p.tm then l.c * (ruA t p.ru).se * p.tk else 1000 * (ruA t p.ru).me * (p.pu * max 1 p.tk)
def suV (t : Trf) (l : Log) (j : Int) (q : List Pc) : Nat → Int
  | 0 => 0
  | i + 1 => suV t l j q i + (bif inT j (q.getD i pc0) then vP t l (q.getD i pc0) else 0)
def suQ (q : List Pc) : Nat → Int
  | 0 => 0
  | i + 1 => suQ q i + (q.getD i pc0).pu * max 1 (q.getD i pc0).tk
def suT (q : List Pc) : Nat → Int
  | 0 => 0
  | i + 1 => suT q i + (q.getD i pc0).tk

section
variable {t : Trf} {l : Log} {q : List Pc} {j : Int}
structure PcO (t : Trf) (n : Int) (p : Pc) : Prop where
  tr : p.tr ≤ n
  tk : 0 ≤ p.tk
  pu : 0 ≤ p.pu
  ru : p.ps ≠ 0 → rlP p < t.rules.length
end

structure TrO (t : Trf) (l : Log) (q : List Pc) (j : Nat) (x : Mtp) : Prop where
  sp : x.sp = (suV t l j q q.length).tdiv (t.unit * l.c)
  sp0 : 0 ≤ x.sp
  exl : x.ex.length = t.extras.length
  ex : ∀ i, 0 ≤ x.ex.getD i 0 ∧ x.ex.getD i 0 ≤ 20
  st : 0 ≤ x.st ∧ x.st ≤ 100000
  fa : x.fa = x.st + mxA t x.ex x.ex.length + (bif decide (0 < t.step) then x.sp * t.step else 0)
  fb : 0 ≤ x.fa ∧ x.fa ≤ 1000000000
structure Iv (t : Trf) (l : Log) (s : Mc) : Prop where
  pk : ∀ i, i < s.pc.length → PcO t s.tr.length (s.pc.getD i pc0)
  qq : suQ s.pc s.pc.length ≤ s.pu - s.si
  tt : suT s.pc s.pc.length ≤ s.tk
  pa : s.ps ≠ 0 → suV t l s.tr.length s.pc s.pc.length = s.pa
  fr : s.ps = 0 → ∀ i, i < s.pc.length → inT s.tr.length (s.pc.getD i pc0) = false
  rl : s.ps ≠ 0 → 0 < t.rules.length
  tr : ∀ j, j < s.tr.length → TrO t l s.pc j (s.tr.getD j mtp0)
theorem suV_ext {t : Trf} {l : Log} {j : Int} {q : List Pc} {p : Pc} : ∀ i, i ≤ q.length → suV t l j (q ++ [p]) i = suV t l j q i
  | 0, _ => rfl
  | i + 1, hi => by
    simp only [suV]
    rw [suV_ext i (by omega)]
    simp only [List.getD_eq_getElem?_getD]
    rw [List.getElem?_append_left (by omega)]
theorem suV_push {t : Trf} {l : Log} {j : Int} {q : List Pc} {p : Pc} : suV t l j (q ++ [p]) (q ++ [p]).length = suV t l j q q.length + (bif inT j p then vP t l p else 0) := by
  rw [show (q ++ [p]).length = q.length + 1 by simp]
  simp only [suV]
  rw [suV_ext _ (Nat.le_refl _)]
  simp [List.getD_eq_getElem?_getD]
theorem suQ_push {q : List Pc} {p : Pc} : suQ (q ++ [p]) (q ++ [p]).length = suQ q q.length + p.pu * max 1 p.tk := by
  have e : ∀ i, i ≤ q.length → suQ (q ++ [p]) i = suQ q i := by
    intro i
    induction i with
    | zero => exact fun _ => rfl
    | succ i ih => intro hi; simp only [suQ]; rw [ih (by omega)]; simp only [List.getD_eq_getElem?_getD]; rw [List.getElem?_append_left (by omega)]
  rw [show (q ++ [p]).length = q.length + 1 by simp]
  simp only [suQ]
  rw [e _ (Nat.le_refl _)]
  simp [List.getD_eq_getElem?_getD]
theorem suT_push {q : List Pc} {p : Pc} : suT (q ++ [p]) (q ++ [p]).length = suT q q.length + p.tk := by
  have e : ∀ i, i ≤ q.length → suT (q ++ [p]) i = suT q i := by
    intro i
    induction i with
    | zero => exact fun _ => rfl
    | succ i ih => intro hi; simp only [suT]; rw [ih (by omega)]; simp only [List.getD_eq_getElem?_getD]; rw [List.getElem?_append_left (by omega)]
  rw [show (q ++ [p]).length = q.length + 1 by simp]
  simp only [suT]
  rw [e _ (Nat.le_refl _)]
  simp [List.getD_eq_getElem?_getD]
theorem pc_last {q : List Pc} {p : Pc} : ∀ i, i < (q ++ [p]).length → i < q.length ∧ (q ++ [p]).getD i pc0 = q.getD i pc0 ∨ (q ++ [p]).getD i pc0 = p := fun i hi => by
  simp only [List.length_append, List.length_cons, List.length_nil] at hi
  rcases Nat.lt_or_ge i q.length with c | c
  · left; refine ⟨c, ?_⟩; simp only [List.getD_eq_getElem?_getD]; rw [List.getElem?_append_left c]
  · right; obtain rfl : i = q.length := by omega
    simp [List.getD_eq_getElem?_getD]
theorem iv_note {t : Trf} {l : Log} {s s' : Mc} {p : Pc} (h : Iv t l s) (hpc : s'.pc = s.pc ++ [p]) (hp : PcO t s.tr.length p) (htr : s'.tr = s.tr) (hps : s'.ps = s.ps) (p1 : p.tr = s.tr.length) (p2 : p.ps = s.ps)
    (hq : suQ s.pc s.pc.length + p.pu * max 1 p.tk ≤ s'.pu - s'.si) (ht : suT s.pc s.pc.length + p.tk ≤ s'.tk) (hv : s.ps ≠ 0 → s'.pa = s.pa + vP t l p) : Iv t l s' := by
  have i0 : s.ps ≠ 0 → inT s.tr.length p = true := fun h0 => by unfold inT; rw [p1, p2, beq_self_eq_true, bne_iff_ne.2 h0]; rfl
  refine ⟨?_, ?_, ?_, ?_, ?_, ?_, ?_⟩
  · rw [hpc, htr]; intro i hi
    rcases pc_last i hi with ⟨c, e⟩ | e
    · rw [e]; exact h.pk i c
    · rw [e]; exact hp
  · rw [hpc, suQ_push]; exact hq
  · rw [hpc, suT_push]; exact ht
  · rw [hpc, htr, hps]; intro h0; rw [suV_push, h.pa h0, i0 h0, hv h0]; rfl
  · rw [hpc, htr, hps]; intro h0 i hi
    rcases pc_last i hi with ⟨c, e⟩ | e
    · rw [e]; exact h.fr h0 i c
    · rw [e]; unfold inT; rw [p2, h0]; cases p.tr == (s.tr.length : Int) <;> rfl
  · rw [hps]; exact h.rl
  · rw [hpc, htr]; intro j hj
    have w := h.tr j hj
    refine ⟨?_, w.sp0, w.exl, w.ex, w.st, w.fa, w.fb⟩
    rw [suV_push, show inT (j : Int) p = false by unfold inT; rw [p1, beq_false_of_ne (by omega)]; rfl]
    show _ = ((_ + (0 : Int))).tdiv _
    rw [Int.add_zero]; exact w.sp
theorem vP_nt {t : Trf} {l : Log} {s : Mc} {ru pu tk : Int} (h0 : s.ps ≠ 0) (h3 : 0 ≤ s.ps ∧ s.ps ≤ 3) (htk : 0 ≤ tk) : ntA t l s ru pu tk = s.pa + vP t l (ntP t l s ru pu tk) := by
  unfold ntA vP ntP
  cases hr : rnB s with
  | false =>
    have e3 : s.ps = 3 := by
      have hn : ¬ (s.ps = 1 ∨ s.ps = 2) := fun e => by rw [rn_iff.2 e] at hr; cases hr
      omega
    show s.pa = s.pa + (bif s.ps == 3 then 0 else _)
    rw [e3]; show s.pa = s.pa + 0; omega
  | true =>
    have e := rn_iff.1 hr
    show s.pa + (bif tmB t l s ru pu tk then scnQ t l ru else dstQ t ru pu) * max 1 tk = s.pa + (bif s.ps == 3 then 0 else bif tmB t l s ru pu tk then l.c * (ruA t ru).se * tk else 1000 * (ruA t ru).me * (pu * max 1 tk))
    rw [beq_false_of_ne (show s.ps ≠ 3 by omega)]
    cases ht : tmB t l s ru pu tk with
    | false => show s.pa + dstQ t ru pu * max 1 tk = s.pa + 1000 * (ruA t ru).me * (pu * max 1 tk); unfold dstQ; rw [Int.mul_assoc]
    | true =>
      have k : 0 < tk := by
        unfold tmB at ht
        have a := (and_t ht).1
        exact of_decide_eq_true (and_t a).1
      show s.pa + scnQ t l ru * max 1 tk = s.pa + l.c * (ruA t ru).se * tk
      rw [show max 1 tk = tk by omega]; rfl
end Go.Fx

/-
  What was counted in a trip, and its fare: true of every machine.
-/
namespace Go.Fx
open Go.Proofs

section
variable {t : Trf} {l : Log}
theorem iv0 : Iv t l mc0 := by
  refine ⟨fun i hi => ?_, Int.le_refl _, Int.le_refl _, fun h => absurd rfl h, fun _ i hi => ?_, fun h => absurd rfl h, fun j hj => ?_⟩
  · exact absurd hi (Nat.not_lt_zero i)
  · exact absurd hi (Nat.not_lt_zero i)
  · exact absurd hj (Nat.not_lt_zero j)
theorem iv_ch {s : Mc} (hm : Hm t l s) (h : Iv t l s) (he : chE_ t l s = 0) : Iv t l (chS t l s) := by
  have si := hm.m.si
  cases q : chgB s with
  | false =>
    rw [chS_f q]
    exact ⟨h.pk, by have := h.qq; show suQ s.pc s.pc.length ≤ s.pu - 0; omega, h.tt, h.pa, h.fr, h.rl, h.tr⟩
  | true =>
    rw [chE_t q] at he
    have hr := (chg_iff.1 q).1
    have e12 := rn_iff.1 hr
    have ru := mr_ok he
    rw [chS_t q he, nt_eq]
    refine iv_note (p := ntP t l s (mrN t l s) s.si 0) h rfl ⟨Int.le_refl _, Int.le_refl 0, si.1, fun _ => ?_⟩ rfl rfl rfl rfl ?_ ?_ fun h0 => vP_nt h0 hm.m.ps (Int.le_refl 0)
    · show (max 0 (mrN t l s)).toNat < _; omega
    · have := h.qq; show suQ s.pc s.pc.length + s.si * max 1 0 ≤ s.pu - 0; rw [show max (1 : Int) 0 = 1 from rfl, Int.mul_one]; omega
    · have := h.tt; show suT s.pc s.pc.length + 0 ≤ s.tk; omega
theorem iv_rd {s : Mc} {n : Int} (hm : Hm t l s) (h : Iv t l s) (he : rdE t l s = 0) (hn : 0 < n) : Iv t l (rdS t l s n) := by
  have si := hm.m.si
  have b := rdK_bd (t := t) (l := l) (s := s) hn
  rw [rdS_eq, nt_eq]
  refine iv_note (p := ntP t l s (bif rnB s then mrN t l s else 0) (bif rnB s then s.si else 0) (rdK t l s n)) h rfl ⟨Int.le_refl _, by show 0 ≤ rdK t l s n; omega, ?_, fun h0 => ?_⟩ rfl rfl rfl rfl ?_ ?_ fun h0 => vP_nt h0 hm.m.ps (by omega)
  · show 0 ≤ bif rnB s then s.si else 0
    cases rnB s
    · exact Int.le_refl 0
    · exact si.1
  · show (max 0 (bif rnB s then mrN t l s else 0)).toNat < t.rules.length
    cases q : rnB s with
    | false => exact h.rl h0
    | true =>
      have ru := mr_ok ((rdE_t q).symm.trans he)
      show (max 0 (mrN t l s)).toNat < _; omega
  · have := h.qq
    show suQ s.pc s.pc.length + (bif rnB s then s.si else 0) * max 1 (rdK t l s n) ≤ s.pu - 0
    cases q : rnB s with
    | false => show _ + 0 * _ ≤ _; rw [Int.zero_mul]; omega
    | true =>
      show suQ s.pc s.pc.length + s.si * max 1 (rdK t l s n) ≤ _
      by_cases k : 1 < rdK t l s n
      · have z : s.si = 0 := by have := b.2.2 q k; omega
        rw [z, Int.zero_mul]; omega
      · rw [show max 1 (rdK t l s n) = 1 by omega, Int.mul_one]; omega
  · have := h.tt
    show suT s.pc s.pc.length + rdK t l s n ≤ s.tk + rdK t l s n; omega
theorem iv_tkF {k : Int} (g : Gd t l) (hk : k ≤ 201) : ∀ (f : Nat) (s : Mc) (n : Int), MOk t k s → s.tk + n ≤ 3600 * k → Iv t l s → (tkF t l f s n).2 = 0 → Iv t l (tkF t l f s n).1
  | 0, s, n, _, _, h, _ => h
  | f + 1, s, n, m, hn, h, h0 => by
    unfold tkF at h0 ⊢
    by_cases q : 0 < n
    · rw [decide_eq_true q] at h0 ⊢
      by_cases e : rdE t l s = 0
      · have w := rd_ok g m hk e q hn
        have b := rdK_bd (t := t) (l := l) (s := s) q
        have v := iv_rd (n := n) ⟨g, m.mono hk⟩ h e q
        rw [e] at h0 ⊢
        by_cases c : 1000000000 < mFare t l (rdS t l s n)
        · rw [decide_eq_true c] at h0; cases h0
        · rw [decide_eq_false c] at h0 ⊢
          exact iv_tkF g hk f _ _ w.1 (by rw [w.2]; omega) v h0
      · rw [decide_eq_false e] at h0; exact absurd h0 e
    · rw [decide_eq_false q]; exact h
theorem ex_same {s s' : Mc} (h : Iv t l s) (h1 : s'.pc = s.pc) (h2 : s'.tr = s.tr) (h3 : s'.pu = s.pu) (h4 : s'.si = s.si) (h5 : s'.tk = s.tk) (h6 : s'.ps = s.ps) (h7 : s'.pa = s.pa) : Iv t l s' := by
  refine ⟨?_, ?_, ?_, ?_, ?_, ?_, ?_⟩
  · rw [h1, h2]; exact h.pk
  · rw [h1, h3, h4]; exact h.qq
  · rw [h1, h5]; exact h.tt
  · rw [h1, h2, h6, h7]; exact h.pa
  · rw [h1, h2, h6]; exact h.fr
  · rw [h6]; exact h.rl
  · rw [h1, h2]; exact h.tr
theorem fare_end {s : Mc} (hm : Hm t l s) (h0 : s.ps ≠ 0) (hf : mFare t l s ≤ 1000000000) : mFare t l s = s.st + mxA t s.ex s.ex.length + (bif decide (0 < t.step) then mStp t l s * t.step else 0) := by
  have n := hm.nums
  have st := hm.m.st
  have el := hm.m.exl h0
  have a := mxA_bd hm.g.trf hm.m.ex s.ex.length (by omega)
  by_cases hp : 0 < t.step
  · rw [fare_1 h0 hp] at hf ⊢
    rw [decide_eq_true hp]
    have e : (1000000000 : Int).tdiv t.step = 1000000000 / t.step := Int.tdiv_eq_ediv_of_nonneg (by omega)
    by_cases c : mStp t l s ≤ (1000000000 : Int).tdiv t.step + 1
    · rw [show min (mStp t l s) ((1000000000 : Int).tdiv t.step + 1) = mStp t l s by omega]; rfl
    · exfalso
      rw [show min (mStp t l s) ((1000000000 : Int).tdiv t.step + 1) = (1000000000 : Int).tdiv t.step + 1 by omega, e] at hf
      have b := Int.lt_mul_ediv_self_add (x := 1000000000) hp
      rw [Int.add_mul, Int.one_mul, Int.mul_comm (1000000000 / t.step)] at hf
      omega
  · rw [fare_2 h0 hp, decide_eq_false hp]; show _ = _ + (0 : Int); omega
theorem iv_po {s : Mc} {i p : Int} (hm : Hm t l s) (h : Iv t l s) (hf : mFare t l s ≤ 1000000000) (he : poE t l s i p = 0) : Iv t l (poS t l s i p) := by
  have sm := ch_same t l s
  cases q : goB s.ps p with
  | false => rw [(po_no (t := t) (l := l) (i := i) q).1] at he; cases he
  | true =>
    by_cases e : chE_ t l s = 0
    · have c := iv_ch hm h e
      have hp := go_bd q
      by_cases h0 : s.ps = 0
      · have p0 : p ≠ 0 := by
          unfold goB at q
          rw [show (s.ps == 0) = true by simp [h0]] at q
          have := eq_of_beq (show (p == 1) = true from q); omega
        by_cases r : mrE t l (chS t l s) = 0
        · rw [(po_bg q e h0 r).2]
          have ru := mr_ok r
          have c0 : (chS t l s).ps = 0 := sm.1.trans h0
          have z : ∀ k, k ≤ (chS t l s).pc.length → suV t l (chS t l s).tr.length (chS t l s).pc k = 0 := by
            intro k
            induction k with
            | zero => exact fun _ => rfl
            | succ k ih => intro hk; simp only [suV]; rw [ih (by omega), c.fr c0 k hk]; rfl
          exact ⟨c.pk, c.qq, c.tt, fun _ => z _ (Nat.le_refl _), fun h => absurd h p0, fun _ => by omega, c.tr⟩
        · rw [(po_bgE (i := i) q e h0 r).1] at he; exact absurd he r
      · have c0 : (chS t l s).ps ≠ 0 := by rw [sm.1]; exact h0
        by_cases hz : p = 0
        · rw [(po_ed q e h0 hz).2]
          have e12 := go_end q h0 hz
          have hrn : rnB s = false := rn_f fun q => by rcases rn_iff.1 q with q | q; exact e12.1 q; exact e12.2 q
          have hcg : chgB s = false := by unfold chgB; rw [hrn]; rfl
          have hm' := si_ok hm
          have fe := fare_end hm h0 hf
          have fb := fare_bd hm
          have sb := stp_bd hm
          rw [chS_f hcg] at c ⊢
          have f1 : mFare t l { s with si := 0 } = mFare t l s := by unfold mFare mStp; rfl
          have s1 : mStp t l { s with si := 0 } = mStp t l s := by unfold mStp; rfl
          have tl : (({ s with si := 0 } : Mc).tr ++ [(⟨s.fe, i, s.ad, s.at_, s.st, mStp t l { s with si := 0 }, s.ex, mFare t l { s with si := 0 }⟩ : Mtp)]).length = s.tr.length + 1 := by simp
          refine ⟨fun k hk => ?_, c.qq, c.tt, fun h => absurd hz h, fun _ k hk => ?_, fun h => absurd hz h, fun j hj => ?_⟩
          · have o := h.pk k hk
            exact ⟨by show (s.pc.getD k pc0).tr ≤ ((({ s with si := 0 } : Mc).tr ++ [_]).length : Int); rw [tl]; have := o.tr; omega, o.tk, o.pu, o.ru⟩
          · have o := h.pk k hk
            show inT ((({ s with si := 0 } : Mc).tr ++ [_]).length : Int) (s.pc.getD k pc0) = false
            rw [tl]
            unfold inT
            rw [beq_false_of_ne (by have := o.tr; omega)]; rfl
          · have hj : j < (({ s with si := 0 } : Mc).tr ++ [_]).length := hj
            rw [tl] at hj
            show TrO t l s.pc j ((s.tr ++ [(⟨s.fe, i, s.ad, s.at_, s.st, mStp t l { s with si := 0 }, s.ex, mFare t l { s with si := 0 }⟩ : Mtp)]).getD j mtp0)
            by_cases c1 : j < s.tr.length
            · simp only [List.getD_eq_getElem?_getD]
              rw [List.getElem?_append_left c1]
              have w := h.tr j c1
              simpa only [List.getD_eq_getElem?_getD] using w
            · obtain rfl : j = s.tr.length := by omega
              have ge : (s.tr ++ [(⟨s.fe, i, s.ad, s.at_, s.st, mStp t l { s with si := 0 }, s.ex, mFare t l { s with si := 0 }⟩ : Mtp)]).getD s.tr.length mtp0 = ⟨s.fe, i, s.ad, s.at_, s.st, mStp t l { s with si := 0 }, s.ex, mFare t l { s with si := 0 }⟩ := by simp [List.getD_eq_getElem?_getD]
              rw [ge, f1, s1]
              refine ⟨?_, sb.1, hm.m.exl h0, hm.m.ex, hm.m.st, fe, fb.1, hf⟩
              show mStp t l s = _
              rw [h.pa h0]; unfold mStp; rfl
        · rw [(po_mv (i := i) q e h0 hz).2]
          exact ⟨c.pk, c.qq, c.tt, fun _ => c.pa c0, fun h => absurd h hz, fun _ => c.rl c0, c.tr⟩
    · rw [(po_ch (i := i) q e).1] at he; exact absurd he e
theorem iv_ev (g : Gd t l) {k : Nat} (hk : k < l.ev.length) (h : Iv t l (mcN t l k)) (hf : mFare t l (mcN t l k) ≤ 1000000000) (h0 : mcE t l k = 0) : Iv t l (mcN t l (k + 1)) ∧ mFare t l (mcN t l (k + 1)) ≤ 1000000000 := by
  have hm := mcN_hm g (show k ≤ l.ev.length by omega)
  have mo := mcN_ok g k (by omega)
  have gh := gd_head g.al
  have ee := ev_ok (gh.2.2.2.2 k hk)
  revert h0
  show mcE t l k = 0 → Iv t l (evS_ t l (mcN t l k) k) ∧ mFare t l (evS_ t l (mcN t l k) k) ≤ 1000000000
  unfold mcE evF
  intro h0
  have z1 : isOk (decide (mFare t l (evS_ t l (mcN t l k) k) ≤ 1000000000)) 8 = 0 := firstS_zero h0 _ (by simp)
  refine ⟨?_, of_decide_eq_true (isOk_0 z1 (by decide))⟩
  have hE : evH t l (mcN t l k) k (l.ev.getD k ev0) = 0 := firstS_zero h0 _ (by simp)
  clear h0 z1
  rw [evS_eq]
  generalize hs : mcN t l k = s at *
  generalize l.ev.getD k ev0 = v at *
  by_cases q0 : v.k = 0
  · rw [(evG_0 q0).1]
    have e1 := ee.2.1 q0
    exact ⟨h.pk, by have := h.qq; show suQ s.pc s.pc.length ≤ s.pu + v.n - (s.si + v.n); omega, h.tt, h.pa, h.fr, h.rl, h.tr⟩
  by_cases q1 : v.k = 1
  · rw [(evG_1 q1).1]
    rw [(evG_1 q1).2] at hE
    have w := ee.2.2.1 q1
    have b := mo.tk
    unfold tkS
    unfold tkE at hE
    exact iv_tkF g (k := (k : Int) + 1) (by have := gh.2.2.2.1; omega) _ s v.n (mo.mono (by omega)) (by omega) h hE
  by_cases q2 : v.k = 2
  · rw [(evG_2 q2).1]; rw [(evG_2 q2).2] at hE; exact iv_po hm h hf hE
  by_cases q3 : v.k = 3
  · by_cases c : v.n < t.zones.length
    · rw [(evG_3 q3 c).1]; rw [(evG_3 q3 c).2] at hE
      exact ex_same (iv_ch hm h hE) rfl rfl rfl rfl rfl rfl rfl
    · rw [(evG_3' q3 c).2] at hE; cases hE
  by_cases q4 : v.k = 4
  · rw [(evG_4 q4).1]
    unfold mxU
    cases decide (mxE t s v.n = 0)
    · exact h
    · exact ex_same h rfl rfl rfl rfl rfl rfl rfl
  rw [(evG_5 q0 q1 q2 q3 q4).1]; exact h
theorem mcN_iv (g : Gd t l) (h0 : ∀ j, j < l.ev.length → mcE t l j = 0) : ∀ k, k ≤ l.ev.length → Iv t l (mcN t l k) ∧ mFare t l (mcN t l k) ≤ 1000000000
  | 0, _ => ⟨iv0, by rw [fare_0 (by rfl : (mcN t l 0).ps = 0)]; decide⟩
  | k + 1, hk => by
    have ih := mcN_iv g h0 k (by omega)
    exact iv_ev g (by omega) ih.1 ih.2 (h0 k (by omega))
theorem suQ_le {q : List Pc} {n : Int} (h : ∀ k, k < q.length → PcO t n (q.getD k pc0)) : ∀ i j, i ≤ j → j ≤ q.length → suQ q i ≤ suQ q j ∧ suT q i ≤ suT q j := by
  intro i j hij
  induction j with
  | zero => intro _; have : i = 0 := by omega
            subst this; exact ⟨Int.le_refl _, Int.le_refl _⟩
  | succ j ih =>
    intro hj
    by_cases e : i = j + 1
    · subst e; exact ⟨Int.le_refl _, Int.le_refl _⟩
    · have w := ih (by omega) (by omega)
      have o := h j (by omega)
      have o3 : 0 ≤ (q.getD j pc0).pu * max 1 (q.getD j pc0).tk := Int.mul_nonneg o.pu (by omega)
      have o1 := o.tk
      simp only [suQ, suT]; omega
end
end Go.Fx

/-
  A finished trip as one of the tariff's chapter.
-/
namespace Go.Fx
open Go.Proofs

def likeP (p o : Pc) : Bool := bif (bif p.zn == o.zn then p.ru == o.ru else false) then p.pu == o.pu else false
structure To where
  sp : Bool
  op : Bool
  pa : Bool
  la : Bool
  rs : List Pc
def to0 : To := ⟨false, false, false, false, []⟩
def lastP (r : List Pc) : Pc := r.getD (r.length - 1) pc0
def setL (r : List Pc) (k : Int) : List Pc := r.set (r.length - 1) { lastP r with tk := (lastP r).tk + k }
def gluB (r : List Pc) (p : Pc) : Bool := bif decide (0 < r.length) then likeP (lastP r) p else false
def addR (r : List Pc) (p : Pc) : List Pc := bif gluB r p then setL r p.tk else r ++ [p]
def toF (s : To) (p : Pc) : To :=
  bif p.ps == 2 then { s with sp := true } else bif p.ps == 3 then { s with pa := true } else
  bif p.ps == 1 then (bif p.tk == 0 then { s with op := true } else { s with la := bif s.la then true else s.pa, rs := addR s.rs p }) else s
def toN (j : Int) (q : List Pc) : Nat → To
  | 0 => to0
  | i + 1 => bif inT j (q.getD i pc0) then toF (toN j q i) (q.getD i pc0) else toN j q i
theorem setL_len (r : List Pc) (k : Int) : (setL r k).length = r.length := by unfold setL; simp
theorem setL_last {r : List Pc} {k : Int} (h : 0 < r.length) : (setL r k).getD (r.length - 1) pc0 = { lastP r with tk := (lastP r).tk + k } := by
  unfold setL
  rw [List.getD_eq_getElem?_getD, List.getElem?_set_self (by omega)]; rfl
theorem setL_ne {r : List Pc} {k : Int} {a : Nat} (h : a ≠ r.length - 1) : (setL r k).getD a pc0 = r.getD a pc0 := by
  unfold setL
  rw [List.getD_eq_getElem?_getD, List.getElem?_set_ne (by omega), List.getD_eq_getElem?_getD]
theorem pcp_at {r : List Pc} {p : Pc} : (r ++ [p]).getD r.length pc0 = p := by simp
theorem pcp_ne {r : List Pc} {p : Pc} {a : Nat} (h : a < r.length) : (r ++ [p]).getD a pc0 = r.getD a pc0 := by
  rw [List.getD_eq_getElem?_getD, List.getElem?_append_left h, List.getD_eq_getElem?_getD]
theorem glu_iff {r : List Pc} {p : Pc} (h : gluB r p = true) : 0 < r.length ∧ (lastP r).zn = p.zn ∧ (lastP r).ru = p.ru ∧ (lastP r).pu = p.pu := by
  unfold gluB likeP at h
  have a := and_t h
  have b := and_t a.2
  have c := and_t b.1
  exact ⟨of_decide_eq_true a.1, eq_of_beq c.1, eq_of_beq c.2, eq_of_beq b.2⟩
theorem to_n {j : Int} {q : List Pc} {i : Nat} (h : inT j (q.getD i pc0) = false) : toN j q (i + 1) = toN j q i := by simp only [toN, h, cond_false]
theorem to_y {j : Int} {q : List Pc} {i : Nat} (h : inT j (q.getD i pc0) = true) : toN j q (i + 1) = toF (toN j q i) (q.getD i pc0) := by simp only [toN, h, cond_true]
theorem glu_of {r : List Pc} {p : Pc} (h : 0 < r.length) : (bif decide (0 < (r.length : Int)) then likeP (r.getD ((r.length : Int) - 1).toNat pc0) p else false) = gluB r p := by
  unfold gluB lastP
  rw [decide_eq_true h, decide_eq_true (show 0 < (r.length : Int) by omega), show ((r.length : Int) - 1).toNat = r.length - 1 by omega]
structure RnO (n : Nat) (a b : Int) (p : Pc) : Prop where
  tk : 1 ≤ p.tk ∧ p.tk ≤ b
  pu : 0 ≤ p.pu ∧ p.pu ≤ a
  q : 0 ≤ p.pu * p.tk ∧ p.pu * p.tk ≤ a
theorem RnO.mono {n : Nat} {a b a' b' : Int} {p : Pc} (h : RnO n a b p) (h1 : a ≤ a') (h2 : b ≤ b') : RnO n a' b' p := ⟨⟨h.tk.1, by have := h.tk.2; omega⟩, ⟨h.pu.1, by have := h.pu.2; omega⟩, ⟨h.q.1, by have := h.q.2; omega⟩⟩
theorem to_bd {t : Trf} {n j : Int} {q : List Pc} : ∀ i, i ≤ q.length → (∀ k, k < q.length → PcO t n (q.getD k pc0)) → (toN j q i).rs.length ≤ i ∧ ∀ a, a < (toN j q i).rs.length → RnO i (suQ q i) (suT q i) ((toN j q i).rs.getD a pc0)
  | 0, _, _ => ⟨Nat.le_refl _, fun a ha => absurd ha (Nat.not_lt_zero a)⟩
  | i + 1, hi, h => by
    have ih := to_bd (j := j) i (by omega) h
    have o := h i (by omega)
    have mo : 0 ≤ (q.getD i pc0).pu * max 1 (q.getD i pc0).tk := Int.mul_nonneg o.pu (by omega)
    have ot := o.tk
    have same : (toN j q i).rs.length ≤ i + 1 ∧ ∀ a, a < (toN j q i).rs.length → RnO (i + 1) (suQ q (i + 1)) (suT q (i + 1)) ((toN j q i).rs.getD a pc0) :=
      ⟨by omega, fun a ha => ((ih.2 a ha).mono (n := i) (a' := suQ q (i + 1)) (b' := suT q (i + 1)) (by simp only [suQ]; omega) (by simp only [suT]; omega)) |> fun w => ⟨w.tk, w.pu, w.q⟩⟩
    cases e : inT j (q.getD i pc0) with
    | false => rw [to_n e]; exact same
    | true =>
      rw [to_y e]
      unfold toF
      cases e2 : (q.getD i pc0).ps == 2
      · cases e3 : (q.getD i pc0).ps == 3
        · cases e1 : (q.getD i pc0).ps == 1
          · exact same
          · cases e0 : (q.getD i pc0).tk == 0
            · simp only [cond_true, cond_false]
              have t0 : (q.getD i pc0).tk ≠ 0 := by simpa using e0
              have su0 := (suQ_le h 0 i (Nat.zero_le _) (by omega))
              simp only [suQ, suT] at su0
              have m1 : max 1 (q.getD i pc0).tk = (q.getD i pc0).tk := by omega
              have p1 : (q.getD i pc0).pu * 1 ≤ (q.getD i pc0).pu * (q.getD i pc0).tk := Int.mul_le_mul_of_nonneg_left (by omega) o.pu
              unfold addR
              cases g : gluB (toN j q i).rs (q.getD i pc0)
              · simp only [cond_false]
                refine ⟨by simp; omega, fun a ha => ?_⟩
                by_cases ea : a < (toN j q i).rs.length
                · rw [pcp_ne ea]; exact same.2 a ea
                · obtain rfl : a = (toN j q i).rs.length := by simp at ha; omega
                  rw [pcp_at]
                  have opu := o.pu
                  refine ⟨⟨by omega, by simp only [suT]; omega⟩, ⟨o.pu, by simp only [suQ]; rw [m1]; omega⟩, ?_⟩
                  rw [m1] at mo
                  exact ⟨mo, by simp only [suQ]; rw [m1]; omega⟩
              · simp only [cond_true]
                have gi := glu_iff g
                rw [setL_len]
                refine ⟨by omega, fun a ha => ?_⟩
                by_cases ea : a = (toN j q i).rs.length - 1
                · subst ea
                  rw [setL_last gi.1]
                  have w := ih.2 _ ha
                  have w : RnO i (suQ q i) (suT q i) (lastP (toN j q i).rs) := w
                  have w1 := w.tk; have w2 := w.pu; have w3 := w.q
                  refine ⟨⟨by show 1 ≤ (lastP (toN j q i).rs).tk + _; omega, by show (lastP (toN j q i).rs).tk + _ ≤ _; simp only [suT]; omega⟩, ⟨w2.1, by show (lastP (toN j q i).rs).pu ≤ _; simp only [suQ]; omega⟩, ?_⟩
                  show 0 ≤ (lastP (toN j q i).rs).pu * ((lastP (toN j q i).rs).tk + (q.getD i pc0).tk) ∧ (lastP (toN j q i).rs).pu * ((lastP (toN j q i).rs).tk + (q.getD i pc0).tk) ≤ _
                  rw [Int.mul_add, gi.2.2.2] at *
                  rw [m1] at mo
                  simp only [suQ]; rw [m1]
                  exact ⟨by omega, by omega⟩
                · rw [setL_ne ea]; exact same.2 a ha
            · exact same
        · exact same
      · exact same
def sgO (l : Log) (p : Pc) : Seg := ⟨p.zn, (1000 * p.pu * p.tk).tdiv l.c, p.tk⟩
def sgL (l : Log) (r : List Pc) : Nat → List Seg
  | 0 => []
  | k + 1 => sgL l r k ++ [sgO l (r.getD k pc0)]
def divB (l : Log) (p : Pc) : Bool := (1000 * p.pu * p.tk).tmod l.c == 0
def fitB (l : Log) (r : List Pc) : Nat → Bool
  | 0 => true
  | k + 1 => bif (bif fitB l r k then decide ((sgO l (r.getD k pc0)).me ≤ 100000) else false) then decide ((sgO l (r.getD k pc0)).se ≤ 36000) else false
def toQ (t : Trf) (l : Log) (j : Nat) : To := toN j (mcN t l l.ev.length).pc (mcN t l l.ev.length).pc.length
def toZ (t : Trf) (l : Log) (j : Nat) : Bool := bif ((toQ t l j).rs.length : Int) == 0 then true else ((toQ t l j).rs.getD 0 pc0).zn == (mcN t l l.ev.length).zs.getD j 0
@[irreducible] def toH (t : Trf) (l : Log) (j : Nat) : Int := firstS [isOk (!(toQ t l j).sp) 22, isOk (bif !(toQ t l j).op then !(toQ t l j).la else false) 23, isOk (toZ t l j) 13]
@[irreducible] def toT (t : Trf) (l : Log) (j : Nat) : Int := firstS [isOk (decide (0 < ((toQ t l j).rs.length : Int))) 12, isOk (bif fitB l (toQ t l j).rs (toQ t l j).rs.length then decide (((toQ t l j).rs.length : Int) ≤ 60) else false) 8]
@[irreducible] def toD (t : Trf) (l : Log) (j : Nat) : Bool := (toQ t l j).rs.all (divB l)
@[irreducible] def toE (t : Trf) (l : Log) (j : Nat) : Int := bif decide (toH t l j = 0) then (bif toD t l j then toT t l j else 3) else toH t l j
def toX (t : Trf) (l : Log) (j : Nat) : Trp := ⟨⟨((mcN t l l.ev.length).tr.getD j mtp0).d, ((mcN t l l.ev.length).tr.getD j mtp0).s⟩, false, ((mcN t l l.ev.length).tr.getD j mtp0).ex, sgL l (toQ t l j).rs (toQ t l j).rs.length⟩
theorem sgL_len {l : Log} {r : List Pc} : ∀ k, (sgL l r k).length = k
  | 0 => rfl
  | k + 1 => by simp only [sgL, List.length_append, sgL_len k, List.length_singleton]
theorem sgL_at {l : Log} {r : List Pc} {a : Nat} : ∀ k, a < k → (sgL l r k).getD a seg0 = sgO l (r.getD a pc0)
  | 0, h => absurd h (Nat.not_lt_zero a)
  | k + 1, h => by
    simp only [sgL]
    by_cases e : a < k
    · rw [List.getD_eq_getElem?_getD, List.getElem?_append_left (by rw [sgL_len]; exact e), ← List.getD_eq_getElem?_getD]; exact sgL_at k e
    · obtain rfl : a = k := by omega
      have : (sgL l r a ++ [sgO l (r.getD a pc0)]).getD a seg0 = (sgL l r a ++ [sgO l (r.getD a pc0)]).getD (sgL l r a).length seg0 := by rw [sgL_len]
      rw [this]; simp
def tzA : AV := .agg 5 (tbl [.int .i64 0, .int .i64 0, .bool false, .slc0, .slc0])
@[irreducible] def toR (t : Trf) (l : Log) (j : Nat) : AV := bif decide (toE t l j = 0) then .tup 2 (tbl [trpA (toX t l j), .int .i64 0]) else .tup 2 (tbl [tzA, .int .i64 (toE t l j)])
theorem toR_0 {t : Trf} {l : Log} {j : Nat} (h : toE t l j = 0) : toR t l j = .tup 2 (tbl [trpA (toX t l j), .int .i64 0]) := by unfold toR; rw [h]; rfl
theorem toR_e {t : Trf} {l : Log} {j : Nat} (h : toE t l j ≠ 0) : toR t l j = .tup 2 (tbl [tzA, .int .i64 (toE t l j)]) := by unfold toR; rw [decide_eq_false h]; rfl
theorem toE_h {t : Trf} {l : Log} {j : Nat} {e : Int} (h : toH t l j = e) (h0 : e ≠ 0) : toE t l j = e := by unfold toE; rw [h, decide_eq_false h0]; rfl
theorem toE_d {t : Trf} {l : Log} {j : Nat} (h : toH t l j = 0) (h0 : toD t l j = false) : toE t l j = 3 := by unfold toE; rw [h, h0]; rfl
theorem toE_t {t : Trf} {l : Log} {j : Nat} (h : toH t l j = 0) (h0 : toD t l j = true) : toE t l j = toT t l j := by unfold toE; rw [h, h0]; rfl
end Go.Fx

/-
  A finished trip of the meter, and what the tariff asks for it: true of every machine.
-/
namespace Go.Fx
open Go.Proofs

def vQ (t : Trf) (l : Log) (ru pu : Int) : Int := bif decide (dstQ t ru pu ≤ scnQ t l ru) then scnQ t l ru else dstQ t ru pu
def vR (t : Trf) (l : Log) (p : Pc) : Int := vQ t l p.ru p.pu * p.tk
def suR (t : Trf) (l : Log) (r : List Pc) : Nat → Int
  | 0 => 0
  | i + 1 => suR t l r i + vR t l (r.getD i pc0)
structure Ru (t : Trf) (z : Int) (M : Mom) (ru : Int) : Prop where
  e : ruleAtE t ⟨z, M⟩ = 0
  n : ruleAtN t ⟨z, M⟩ = ru
def okT (T : To) : Prop := T.sp = false ∧ T.op = false ∧ T.la = false
structure Fv (t : Trf) (l : Log) (z : Int) (M : Mom) (st : Int) (T : To) (V : Int) : Prop where
  mo : momB M = true
  bg : ∃ ru, Ru t z M ru ∧ st = (ruA t ru).st
  ru : okT T → ∀ a, a < T.rs.length → Ru t (T.rs.getD a pc0).zn (laterQ M (suT T.rs a)) (T.rs.getD a pc0).ru
  v : okT T → suR t l T.rs T.rs.length = V
structure Jv (t : Trf) (l : Log) (s : Mc) : Prop where
  z0 : s.ps = 0 → s.zs.length = s.tr.length
  z1 : s.ps ≠ 0 → s.zs.length = s.tr.length + 1
  cu : s.ps ≠ 0 → Fv t l (s.zs.getD s.tr.length 0) ⟨s.ad, s.at_⟩ s.st (toN s.tr.length s.pc s.pc.length) (suV t l s.tr.length s.pc s.pc.length)
  nw : s.ps ≠ 0 → okT (toN s.tr.length s.pc s.pc.length) → (toN s.tr.length s.pc s.pc.length).pa = false → secM l s = s.ad * 86400 + s.at_ + suT (toN s.tr.length s.pc s.pc.length).rs (toN s.tr.length s.pc s.pc.length).rs.length
  tr : ∀ j, j < s.tr.length → Fv t l (s.zs.getD j 0) ⟨(s.tr.getD j mtp0).d, (s.tr.getD j mtp0).s⟩ (s.tr.getD j mtp0).st (toN j s.pc s.pc.length) (suV t l j s.pc s.pc.length)
section
variable {t : Trf} {l : Log}
theorem toN_ext {j : Int} {q : List Pc} {p : Pc} : ∀ i, i ≤ q.length → toN j (q ++ [p]) i = toN j q i
  | 0, _ => rfl
  | i + 1, hi => by
    simp only [toN]
    rw [toN_ext i (by omega), pcp_ne (show i < q.length by omega)]
theorem toN_push {j : Int} {q : List Pc} {p : Pc} : toN j (q ++ [p]) (q ++ [p]).length = bif inT j p then toF (toN j q q.length) p else toN j q q.length := by
  rw [show (q ++ [p]).length = q.length + 1 by simp]
  simp only [toN]
  rw [toN_ext _ (Nat.le_refl _), pcp_at]
theorem toN_none {j : Int} {q : List Pc} : ∀ i, (∀ k, k < i → inT j (q.getD k pc0) = false) → toN j q i = to0
  | 0, _ => rfl
  | i + 1, h => by rw [to_n (h i (by omega))]; exact toN_none i fun k hk => h k (by omega)
theorem suT_loc {r r' : List Pc} : ∀ a, (∀ k, k < a → (r'.getD k pc0).tk = (r.getD k pc0).tk) → suT r' a = suT r a
  | 0, _ => rfl
  | a + 1, h => by simp only [suT]; rw [suT_loc a fun k hk => h k (by omega), h a (by omega)]
theorem suR_loc {r r' : List Pc} : ∀ a, (∀ k, k < a → r'.getD k pc0 = r.getD k pc0) → suR t l r' a = suR t l r a
  | 0, _ => rfl
  | a + 1, h => by simp only [suR]; rw [suR_loc a fun k hk => h k (by omega), h a (by omega)]
theorem now_later {s : Mc} {M : Mom} {S : Int} (hM : momB M = true) (h0 : 0 ≤ S) (h : secM l s = M.d * 86400 + M.s + S) : nowM l s = laterQ M S := by
  have b := mom_bd hM
  unfold nowM laterQ
  rw [h]
  have e1 : (M.d * 86400 + M.s + S).tdiv 86400 = (M.d * 86400 + M.s + S) / 86400 := Int.tdiv_eq_ediv_of_nonneg (by omega)
  have e2 : (M.d * 86400 + M.s + S).tmod 86400 = (M.d * 86400 + M.s + S) % 86400 := Int.tmod_eq_emod_of_nonneg (by omega)
  have e3 : (M.s + S).tdiv 86400 = (M.s + S) / 86400 := Int.tdiv_eq_ediv_of_nonneg (by omega)
  have e4 : (M.s + S).tmod 86400 = (M.s + S) % 86400 := Int.tmod_eq_emod_of_nonneg (by omega)
  rw [e1, e2, e3, e4]
  have a1 : (M.d * 86400 + M.s + S) / 86400 = M.d + (M.s + S) / 86400 := by omega
  have a2 : (M.d * 86400 + M.s + S) % 86400 = (M.s + S) % 86400 := by omega
  rw [a1, a2]
theorem add_ok {z : Int} {M : Mom} {st V : Int} {T : To} {p : Pc} (h : Fv t l z M st T V) (ho : okT T) (hr : Ru t p.zn (laterQ M (suT T.rs T.rs.length)) p.ru) :
    (∀ a, a < (addR T.rs p).length → Ru t ((addR T.rs p).getD a pc0).zn (laterQ M (suT (addR T.rs p) a)) ((addR T.rs p).getD a pc0).ru) ∧ suR t l (addR T.rs p) (addR T.rs p).length = V + vR t l p ∧ suT (addR T.rs p) (addR T.rs p).length = suT T.rs T.rs.length + p.tk := by
  have hv := h.v ho
  have hu := h.ru ho
  unfold addR
  cases g : gluB T.rs p with
  | false =>
    rw [cond_false]
    have len : (T.rs ++ [p]).length = T.rs.length + 1 := by simp
    have s1 : ∀ a, a ≤ T.rs.length → suT (T.rs ++ [p]) a = suT T.rs a := fun a ha => suT_loc a fun k hk => by rw [pcp_ne (by omega)]
    have s2 : suR t l (T.rs ++ [p]) T.rs.length = suR t l T.rs T.rs.length := suR_loc _ fun k hk => by rw [pcp_ne hk]
    refine ⟨fun a ha => ?_, ?_, ?_⟩
    · rw [len] at ha
      rw [s1 a (by omega)]
      by_cases c : a < T.rs.length
      · rw [pcp_ne c]; exact hu a c
      · obtain rfl : a = T.rs.length := by omega
        rw [pcp_at]; exact hr
    · rw [len]; simp only [suR]; rw [s2, pcp_at, hv]
    · rw [len]; simp only [suT]; rw [s1 _ (Nat.le_refl _), pcp_at]
  | true =>
    rw [cond_true]
    have gi := glu_iff g
    obtain ⟨m, hm⟩ : ∃ m, T.rs.length = m + 1 := ⟨T.rs.length - 1, by omega⟩
    have ne : ∀ a, a < m → (setL T.rs p.tk).getD a pc0 = T.rs.getD a pc0 := fun a ha => setL_ne (by omega)
    have la : (setL T.rs p.tk).getD m pc0 = { lastP T.rs with tk := (lastP T.rs).tk + p.tk } := by have := setL_last (k := p.tk) gi.1; rwa [hm] at this
    have lp : lastP T.rs = T.rs.getD m pc0 := by unfold lastP; rw [hm]; rfl
    rw [setL_len, hm]
    have s1 : ∀ a, a ≤ m → suT (setL T.rs p.tk) a = suT T.rs a := fun a ha => suT_loc a fun k hk => by rw [ne k (by omega)]
    have s2 : suR t l (setL T.rs p.tk) m = suR t l T.rs m := suR_loc _ fun k hk => ne k hk
    rw [hm] at hv hu
    refine ⟨fun a ha => ?_, ?_, ?_⟩
    · rw [s1 a (by omega)]
      by_cases c : a < m
      · rw [ne a c]; exact hu a (by omega)
      · obtain rfl : a = m := by omega
        rw [la, lp]; exact hu a (by omega)
    · simp only [suR] at hv ⊢
      rw [s2, la, ← hv, ← lp]
      unfold vR
      rw [← gi.2.2.1, ← gi.2.2.2]
      show suR t l T.rs m + vQ t l (lastP T.rs).ru (lastP T.rs).pu * ((lastP T.rs).tk + p.tk) = suR t l T.rs m + vQ t l (lastP T.rs).ru (lastP T.rs).pu * (lastP T.rs).tk + _
      rw [Int.mul_add]; omega
    · simp only [suT]
      rw [s1 _ (Nat.le_refl _), la, lp]
      show _ + ((T.rs.getD m pc0).tk + p.tk) = _; omega
theorem suT_pos {n : Nat} {a b : Int} {r : List Pc} (h : ∀ k, k < r.length → RnO n a b (r.getD k pc0)) : ∀ i, i ≤ r.length → 0 ≤ suT r i
  | 0, _ => Int.le_refl _
  | i + 1, hi => by have := suT_pos h i (by omega); have := (h i (by omega)).tk; simp only [suT]; omega
theorem jv_note {s s' : Mc} {p : Pc} (iv : Iv t l s) (h : Jv t l s) (hpc : s'.pc = s.pc ++ [p]) (htr : s'.tr = s.tr) (hzs : s'.zs = s.zs) (hps : s'.ps = s.ps) (had : s'.ad = s.ad) (hat : s'.at_ = s.at_) (hst : s'.st = s.st)
    (p1 : p.tr = s.tr.length) (p2 : p.ps = s.ps) (h3 : 0 ≤ s.ps ∧ s.ps ≤ 3) (ht : s'.tk = s.tk + p.tk) (hk : 0 ≤ p.tk)
    (hr : s.ps = 1 → 0 < p.tk → Ru t p.zn (nowM l s) p.ru ∧ p.tm = decide (dstQ t p.ru p.pu ≤ scnQ t l p.ru)) : Jv t l s' := by
  have sec : secM l s' = secM l s + p.tk := by unfold secM; rw [ht]; omega
  have old : ∀ j, j < s.tr.length → inT (j : Int) p = false := fun j hj => by unfold inT; rw [p1, beq_false_of_ne (by omega)]; rfl
  have inp : s.ps ≠ 0 → inT (s.tr.length : Int) p = true := fun h0 => by unfold inT; rw [p1, p2, beq_self_eq_true, bne_iff_ne.2 h0]; rfl
  have key : s.ps ≠ 0 → Fv t l (s.zs.getD s.tr.length 0) ⟨s.ad, s.at_⟩ s.st (toF (toN s.tr.length s.pc s.pc.length) p) (suV t l s.tr.length s.pc s.pc.length + vP t l p) ∧
      (okT (toF (toN s.tr.length s.pc s.pc.length) p) → (toF (toN s.tr.length s.pc s.pc.length) p).pa = false → secM l s' = s.ad * 86400 + s.at_ + suT (toF (toN s.tr.length s.pc s.pc.length) p).rs (toF (toN s.tr.length s.pc s.pc.length) p).rs.length) := by
    intro h0
    have cu := h.cu h0
    have nw := h.nw h0
    have tb := to_bd (t := t) (n := s.tr.length) (j := (s.tr.length : Int)) (q := s.pc) s.pc.length (Nat.le_refl _) iv.pk
    have sp := suT_pos tb.2 _ (Nat.le_refl _)
    generalize toN s.tr.length s.pc s.pc.length = T at *
    rcases (show s.ps = 1 ∨ s.ps = 2 ∨ s.ps = 3 by omega) with e | e | e
    · have f : toF T p = (bif p.tk == 0 then { T with op := true } else { T with la := bif T.la then true else T.pa, rs := addR T.rs p }) := by unfold toF; rw [p2, e]; rfl
      rw [f]
      cases ez : p.tk == 0 with
      | true => exact ⟨⟨cu.mo, cu.bg, fun o => absurd o.2.1 (by simp), fun o => absurd o.2.1 (by simp)⟩, fun o => absurd o.2.1 (by simp)⟩
      | false =>
        rw [cond_false]
        have tk0 : p.tk ≠ 0 := by simpa using ez
        have hr := hr e (by omega)
        have vp : vP t l p = vR t l p := by
          unfold vP vR vQ
          rw [p2, e, hr.2]
          show (bif decide (dstQ t p.ru p.pu ≤ scnQ t l p.ru) then l.c * (ruA t p.ru).se * p.tk else 1000 * (ruA t p.ru).me * (p.pu * max 1 p.tk)) = _
          cases decide (dstQ t p.ru p.pu ≤ scnQ t l p.ru)
          · show 1000 * (ruA t p.ru).me * (p.pu * max 1 p.tk) = dstQ t p.ru p.pu * p.tk
            rw [show max 1 p.tk = p.tk by omega]; unfold dstQ; rw [Int.mul_assoc (1000 * (ruA t p.ru).me)]
          · rfl
        have main : okT { T with la := bif T.la then true else T.pa, rs := addR T.rs p } → okT T ∧ T.pa = false := fun o => by
          have o3 : (bif T.la then true else T.pa) = false := o.2.2
          have o1 : T.sp = false := o.1
          have o2 : T.op = false := o.2.1
          cases hl : T.la <;> rw [hl] at o3
          · exact ⟨⟨o1, o2, hl⟩, o3⟩
          · cases o3
        have rule : okT T → T.pa = false → Ru t p.zn (laterQ ⟨s.ad, s.at_⟩ (suT T.rs T.rs.length)) p.ru := fun o o2 => by
          rw [← now_later cu.mo sp (nw o o2)]; exact hr.1
        refine ⟨⟨cu.mo, cu.bg, fun o => ?_, fun o => ?_⟩, fun o _ => ?_⟩
        · have m := main o; exact (add_ok cu m.1 (rule m.1 m.2)).1
        · have m := main o; rw [vp]; exact (add_ok cu m.1 (rule m.1 m.2)).2.1
        · have m := main o
          rw [sec, nw m.1 m.2]
          have := (add_ok cu m.1 (rule m.1 m.2)).2.2
          show _ = _ + suT (addR T.rs p) (addR T.rs p).length
          omega
    · have f : toF T p = { T with sp := true } := by unfold toF; rw [p2, e]; rfl
      rw [f]
      exact ⟨⟨cu.mo, cu.bg, fun o => absurd o.1 (by simp), fun o => absurd o.1 (by simp)⟩, fun o => absurd o.1 (by simp)⟩
    · have f : toF T p = { T with pa := true } := by unfold toF; rw [p2, e]; rfl
      rw [f]
      have v0 : vP t l p = 0 := by unfold vP; rw [p2, e]; rfl
      rw [v0, Int.add_zero]
      exact ⟨⟨cu.mo, cu.bg, fun o => cu.ru o, fun o => cu.v o⟩, fun _ o => absurd o (by simp)⟩
  refine ⟨?_, ?_, ?_, ?_, ?_⟩
  · rw [hps, hzs, htr]; exact h.z0
  · rw [hps, hzs, htr]; exact h.z1
  · rw [hps, hpc, htr, hzs, had, hat, hst]; intro h0
    rw [toN_push, suV_push, inp h0]; exact (key h0).1
  · rw [hps, hpc, htr, had, hat]; intro h0
    rw [toN_push, inp h0]; exact (key h0).2
  · rw [hpc, htr, hzs]; intro j hj
    rw [toN_push, suV_push, old j hj]
    show Fv t l _ _ _ _ (_ + (0 : Int))
    rw [Int.add_zero]; exact h.tr j hj
theorem jv_same {s s' : Mc} (h : Jv t l s) (hpc : s'.pc = s.pc) (htr : s'.tr = s.tr) (hzs : s'.zs = s.zs) (hps : (s'.ps = 0 ↔ s.ps = 0)) (had : s'.ad = s.ad) (hat : s'.at_ = s.at_) (hst : s'.st = s.st) (ht : s'.tk = s.tk) : Jv t l s' := by
  have sec : secM l s' = secM l s := by unfold secM; rw [ht]
  refine ⟨?_, ?_, ?_, ?_, ?_⟩
  · rw [hps, hzs, htr]; exact h.z0
  · rw [ne_eq, hps, hzs, htr]; exact h.z1
  · rw [ne_eq, hps, hpc, htr, hzs, had, hat, hst]; exact h.cu
  · rw [ne_eq, hps, hpc, htr, had, hat, sec]; exact h.nw
  · rw [hpc, htr, hzs]; exact h.tr
theorem jv0 : Jv t l mc0 :=
  ⟨fun _ => rfl, fun h => absurd rfl h, fun h => absurd rfl h, fun h => absurd rfl h, fun j hj => absurd hj (Nat.not_lt_zero j)⟩
theorem mr_ru {s : Mc} (h : mrE t l s = 0) : Ru t s.zn (nowM l s) (mrN t l s) := by
  obtain ⟨_, h2, h3⟩ := mr_at h
  exact ⟨h2, h3.symm⟩
theorem jv_ch {s : Mc} (hm : Hm t l s) (iv : Iv t l s) (h : Jv t l s) (he : chE_ t l s = 0) : Jv t l (chS t l s) := by
  cases q : chgB s with
  | false => rw [chS_f q]; exact jv_same h rfl rfl rfl Iff.rfl rfl rfl rfl rfl
  | true =>
    rw [chE_t q] at he
    rw [chS_t q he, nt_eq]
    exact jv_note (p := ntP t l s (mrN t l s) s.si 0) iv h rfl rfl rfl rfl rfl rfl rfl rfl rfl hm.m.ps (by show s.tk = s.tk + 0; omega) (Int.le_refl _) fun _ h => absurd h (Int.lt_irrefl 0)
theorem jv_rd {s : Mc} {n : Int} (hm : Hm t l s) (iv : Iv t l s) (h : Jv t l s) (he : rdE t l s = 0) (hn : 0 < n) : Jv t l (rdS t l s n) := by
  have b := rdK_bd (t := t) (l := l) (s := s) hn
  rw [rdS_eq, nt_eq]
  refine jv_note (p := ntP t l s (bif rnB s then mrN t l s else 0) (bif rnB s then s.si else 0) (rdK t l s n)) iv h rfl rfl rfl rfl rfl rfl rfl rfl rfl hm.m.ps rfl (by show 0 ≤ rdK t l s n; omega) fun h1 _ => ?_
  have hr : rnB s = true := rn_iff.2 (.inl h1)
  have e : mrE t l s = 0 := (rdE_t hr).symm.trans he
  show Ru t s.zn (nowM l s) (bif rnB s then mrN t l s else 0) ∧ (bif rnB s then tmB t l s (bif rnB s then mrN t l s else 0) (bif rnB s then s.si else 0) (rdK t l s n) else false) = decide (dstQ t (bif rnB s then mrN t l s else 0) (bif rnB s then s.si else 0) ≤ scnQ t l (bif rnB s then mrN t l s else 0))
  rw [hr]
  refine ⟨mr_ru e, ?_⟩
  show tmB t l s (mrN t l s) s.si (rdK t l s n) = decide (dstQ t (mrN t l s) s.si ≤ scnQ t l (mrN t l s))
  unfold tmB
  rw [decide_eq_true (show 0 < rdK t l s n by omega), h1]; 
  cases decide (dstQ t (mrN t l s) s.si ≤ scnQ t l (mrN t l s)) <;> rfl
theorem jv_tkF {k : Int} (g : Gd t l) (hk : k ≤ 201) : ∀ (f : Nat) (s : Mc) (n : Int), MOk t k s → s.tk + n ≤ 3600 * k → Iv t l s → Jv t l s → (tkF t l f s n).2 = 0 → Jv t l (tkF t l f s n).1
  | 0, s, n, _, _, _, h, _ => h
  | f + 1, s, n, m, hn, iv, h, h0 => by
    unfold tkF at h0 ⊢
    by_cases q : 0 < n
    · rw [decide_eq_true q] at h0 ⊢
      by_cases e : rdE t l s = 0
      · have w := rd_ok g m hk e q hn
        have v := iv_rd (n := n) ⟨g, m.mono hk⟩ iv e q
        have u := jv_rd (n := n) ⟨g, m.mono hk⟩ iv h e q
        rw [e] at h0 ⊢
        by_cases c : 1000000000 < mFare t l (rdS t l s n)
        · rw [decide_eq_true c] at h0; cases h0
        · rw [decide_eq_false c] at h0 ⊢
          exact jv_tkF g hk f _ _ w.1 (by rw [w.2]; omega) v u h0
      · rw [decide_eq_false e] at h0; exact absurd h0 e
    · rw [decide_eq_false q]; exact h
theorem now_mom {s : Mc} (hm : Hm t l s) (h : mrE t l s = 0) : momB (nowM l s) = true := by
  have w := (ruleAt_ok' (mr_at h).2.1).2.2.2.2
  unfold gateE at w
  have w := firstS_zero w (placeE t ⟨s.zn, nowM l s⟩) (by simp)
  unfold placeE at w
  exact isOk_0 (firstS_zero w (isOk (momB (nowM l s)) 2) (by simp)) (by decide)
theorem jv_po {s : Mc} {i p : Int} (hm : Hm t l s) (iv : Iv t l s) (h : Jv t l s) (he : poE t l s i p = 0) : Jv t l (poS t l s i p) := by
  have sm := ch_same t l s
  cases q : goB s.ps p with
  | false => rw [(po_no (t := t) (l := l) (i := i) q).1] at he; cases he
  | true =>
    by_cases e : chE_ t l s = 0
    · have c := jv_ch hm iv h e
      have ci := iv_ch hm iv e
      by_cases h0 : s.ps = 0
      · have p0 : p ≠ 0 := by
          unfold goB at q
          rw [show (s.ps == 0) = true by simp [h0]] at q
          have := eq_of_beq (show (p == 1) = true from q); omega
        by_cases r : mrE t l (chS t l s) = 0
        · rw [(po_bg q e h0 r).2]
          have c0 : (chS t l s).ps = 0 := sm.1.trans h0
          have hq : chgB s = false := by unfold chgB rnB; rw [h0]; rfl
          have nm := now_mom (s := chS t l s) (by rw [chS_f hq]; exact si_ok hm) r
          have tn : toN (chS t l s).tr.length (chS t l s).pc (chS t l s).pc.length = to0 := toN_none _ fun k hk => ci.fr c0 k hk
          have vn : suV t l (chS t l s).tr.length (chS t l s).pc (chS t l s).pc.length = 0 := by
            have z : ∀ k, k ≤ (chS t l s).pc.length → suV t l (chS t l s).tr.length (chS t l s).pc k = 0 := by
              intro k
              induction k with
              | zero => exact fun _ => rfl
              | succ k ih => intro hk; simp only [suV]; rw [ih (by omega), ci.fr c0 k hk]; rfl
            exact z _ (Nat.le_refl _)
          generalize chS t l s = u at *
          have zl := c.z0 c0
          have mb := mom_bd nm
          have at_ : (u.zs ++ [u.zn]).getD u.tr.length 0 = u.zn := by rw [← zl]; simp
          refine ⟨fun h => absurd h p0, fun _ => by show (u.zs ++ [u.zn]).length = _; simp [zl, bgS], fun _ => ?_, fun _ _ _ => ?_, fun j hj => ?_⟩
          · show Fv t l ((u.zs ++ [u.zn]).getD u.tr.length 0) ⟨(nowM l u).d, (nowM l u).s⟩ (ruA t (mrN t l u)).st (toN u.tr.length u.pc u.pc.length) (suV t l u.tr.length u.pc u.pc.length)
            rw [tn, vn, at_]
            exact ⟨nm, ⟨_, mr_ru r, rfl⟩, fun _ a ha => absurd ha (Nat.not_lt_zero a), fun _ => rfl⟩
          · show secM l u = (nowM l u).d * 86400 + (nowM l u).s + suT (toN u.tr.length u.pc u.pc.length).rs (toN u.tr.length u.pc u.pc.length).rs.length
            rw [tn]
            show secM l u = (secM l u).tdiv 86400 * 86400 + (secM l u).tmod 86400 + 0
            have := Int.mul_tdiv_add_tmod (secM l u) 86400
            omega
          · have hj : j < u.tr.length := hj
            show Fv t l ((u.zs ++ [u.zn]).getD j 0) _ _ _ _
            rw [show (u.zs ++ [u.zn]).getD j 0 = u.zs.getD j 0 by simp only [List.getD_eq_getElem?_getD]; rw [List.getElem?_append_left (by omega)]]
            exact c.tr j hj
        · rw [(po_bgE (i := i) q e h0 r).1] at he; exact absurd he r
      · have c0 : (chS t l s).ps ≠ 0 := by rw [sm.1]; exact h0
        by_cases hz : p = 0
        · rw [(po_ed q e h0 hz).2]
          generalize chS t l s = u at *
          have zl := c.z1 c0
          generalize hX : (⟨u.fe, i, u.ad, u.at_, u.st, mStp t l u, u.ex, mFare t l u⟩ : Mtp) = X
          have tl : (u.tr ++ [X]).length = u.tr.length + 1 := by simp
          refine ⟨fun _ => ?_, fun h => absurd hz h, fun h => absurd hz h, fun h => absurd hz h, fun j hj => ?_⟩
          · show u.zs.length = (u.tr ++ [_]).length
            simp; omega
          · show Fv t l (u.zs.getD j 0) ⟨((u.tr ++ [(⟨u.fe, i, u.ad, u.at_, u.st, mStp t l u, u.ex, mFare t l u⟩ : Mtp)]).getD j mtp0).d, ((u.tr ++ [(⟨u.fe, i, u.ad, u.at_, u.st, mStp t l u, u.ex, mFare t l u⟩ : Mtp)]).getD j mtp0).s⟩ ((u.tr ++ [(⟨u.fe, i, u.ad, u.at_, u.st, mStp t l u, u.ex, mFare t l u⟩ : Mtp)]).getD j mtp0).st (toN j u.pc u.pc.length) (suV t l j u.pc u.pc.length)
            have hj : j < (u.tr ++ [(⟨u.fe, i, u.ad, u.at_, u.st, mStp t l u, u.ex, mFare t l u⟩ : Mtp)]).length := hj
            rw [hX] at hj ⊢
            rw [tl] at hj
            by_cases cj : j < u.tr.length
            · rw [show (u.tr ++ [X]).getD j mtp0 = u.tr.getD j mtp0 by simp only [List.getD_eq_getElem?_getD]; rw [List.getElem?_append_left cj]]
              exact c.tr j cj
            · obtain rfl : j = u.tr.length := by omega
              rw [show (u.tr ++ [X]).getD u.tr.length mtp0 = X by simp, ← hX]
              exact c.cu c0
        · rw [(po_mv (i := i) q e h0 hz).2]
          exact jv_same c rfl rfl rfl ⟨fun h => absurd h hz, fun h => absurd h c0⟩ rfl rfl rfl rfl
    · rw [(po_ch (i := i) q e).1] at he; exact absurd he e
theorem jv_ev (g : Gd t l) {k : Nat} (hk : k < l.ev.length) (iv : Iv t l (mcN t l k)) (h : Jv t l (mcN t l k)) (h0 : mcE t l k = 0) : Jv t l (mcN t l (k + 1)) := by
  have hm := mcN_hm g (show k ≤ l.ev.length by omega)
  have mo := mcN_ok g k (by omega)
  have gh := gd_head g.al
  have ee := ev_ok (gh.2.2.2.2 k hk)
  revert h0
  show mcE t l k = 0 → Jv t l (evS_ t l (mcN t l k) k)
  unfold mcE evF
  intro h0
  have hE : evH t l (mcN t l k) k (l.ev.getD k ev0) = 0 := firstS_zero h0 _ (by simp)
  clear h0
  rw [evS_eq]
  generalize hs : mcN t l k = s at *
  generalize l.ev.getD k ev0 = v at *
  by_cases q0 : v.k = 0
  · rw [(evG_0 q0).1]
    exact jv_same h rfl rfl rfl Iff.rfl rfl rfl rfl rfl
  by_cases q1 : v.k = 1
  · rw [(evG_1 q1).1]
    rw [(evG_1 q1).2] at hE
    have w := ee.2.2.1 q1
    have b := mo.tk
    unfold tkS
    unfold tkE at hE
    exact jv_tkF g (k := (k : Int) + 1) (by have := gh.2.2.2.1; omega) _ s v.n (mo.mono (by omega)) (by omega) iv h hE
  by_cases q2 : v.k = 2
  · rw [(evG_2 q2).1]; rw [(evG_2 q2).2] at hE; exact jv_po hm iv h hE
  by_cases q3 : v.k = 3
  · by_cases c : v.n < t.zones.length
    · rw [(evG_3 q3 c).1]; rw [(evG_3 q3 c).2] at hE
      exact jv_same (jv_ch hm iv h hE) rfl rfl rfl Iff.rfl rfl rfl rfl rfl
    · rw [(evG_3' q3 c).2] at hE; cases hE
  by_cases q4 : v.k = 4
  · rw [(evG_4 q4).1]
    unfold mxU
    cases decide (mxE t s v.n = 0)
    · exact h
    · exact jv_same h rfl rfl rfl Iff.rfl rfl rfl rfl rfl
  rw [(evG_5 q0 q1 q2 q3 q4).1]; exact h
theorem mcN_jv (g : Gd t l) (h0 : ∀ j, j < l.ev.length → mcE t l j = 0) : ∀ k, k ≤ l.ev.length → Jv t l (mcN t l k)
  | 0, _ => jv0
  | k + 1, hk => jv_ev g (by omega) (mcN_iv g h0 k (by omega)).1 (mcN_jv g h0 k (by omega)) (h0 k (by omega))
end
end Go.Fx

/-
  The fare of a trip of the meter is the one that the tariff asks for.
-/
namespace Go.Fx
open Go.Proofs

section
variable {t : Trf} {l : Log}
theorem to_zero {j : Nat} (h : toE t l j = 0) : okT (toQ t l j) ∧ toZ t l j = true ∧ toD t l j = true ∧ 0 < (toQ t l j).rs.length ∧ (toQ t l j).rs.length ≤ 60 ∧ fitB l (toQ t l j).rs (toQ t l j).rs.length = true := by
  have hH : toH t l j = 0 := by
    by_cases c : toH t l j = 0
    · exact c
    · rw [toE_h rfl c] at h; exact absurd h c
  have hD : toD t l j = true := by
    cases c : toD t l j
    · rw [toE_d hH c] at h; cases h
    · rfl
  rw [toE_t hH hD] at h
  unfold toH at hH
  unfold toT at h
  have a := firstS_zero hH
  have b := firstS_zero h
  have a1 := isOk_0 (b := !(toQ t l j).sp) (e := 22) (a _ (by simp)) (by decide)
  have a2 := and_t (isOk_0 (b := bif !(toQ t l j).op then !(toQ t l j).la else false) (e := 23) (a _ (by simp)) (by decide))
  have a3 := isOk_0 (b := toZ t l j) (e := 13) (a _ (by simp)) (by decide)
  have b1 := of_decide_eq_true (isOk_0 (b := decide (0 < ((toQ t l j).rs.length : Int))) (e := 12) (b _ (by simp)) (by decide))
  have b2 := and_t (isOk_0 (b := bif fitB l (toQ t l j).rs (toQ t l j).rs.length then decide (((toQ t l j).rs.length : Int) ≤ 60) else false) (e := 8) (b _ (by simp)) (by decide))
  have b3 := of_decide_eq_true b2.2
  refine ⟨⟨?_, ?_, ?_⟩, a3, hD, by omega, by omega, b2.1⟩
  · simpa using a1
  · simpa using a2.1
  · simpa using a2.2
theorem fit_all {r : List Pc} : ∀ k, fitB l r k = true → ∀ a, a < k → (sgO l (r.getD a pc0)).me ≤ 100000 ∧ (sgO l (r.getD a pc0)).se ≤ 36000
  | 0, _, a, ha => absurd ha (Nat.not_lt_zero a)
  | k + 1, h, a, ha => by
    simp only [fitB] at h
    have h1 := and_t h
    have h2 := and_t h1.1
    by_cases e : a = k
    · subst e; exact ⟨of_decide_eq_true h2.2, of_decide_eq_true h1.2⟩
    · exact fit_all k h2.1 a (by omega)
theorem exS_mxA {x : Trp} : ∀ k, exS t x k = mxA t x.ex k
  | 0 => rfl
  | k + 1 => by simp only [exS, mxA]; rw [exS_mxA k]
theorem ru_gate {z : Int} {M : Mom} {ru : Int} (h : Ru t z M ru) : zoneIn t z = true ∧ momB M = true ∧ oneE (holdI t ⟨z, M⟩ t.rules.length) = 0 ∧ oneN (holdI t ⟨z, M⟩ t.rules.length) = ru := by
  have w := ruleAt_ok' h.e
  have g := w.2.2.2.2
  unfold gateE at g
  have g := firstS_zero g (placeE t ⟨z, M⟩) (by simp)
  unfold placeE at g
  have g := firstS_zero g
  exact ⟨isOk_0 (b := zoneIn t z) (e := 6) (g _ (by simp)) (by decide), isOk_0 (b := momB M) (e := 2) (g _ (by simp)) (by decide), w.2.2.1, w.2.2.2.1.symm.trans h.n⟩
theorem max_c {c A B D S k : Int} (hc : 0 < c) (hk : 0 < k) (h1 : c * A = D * k) (h2 : c * B = S * k) : c * (bif decide (A < B) then B else A) = (bif decide (D ≤ S) then S else D) * k := by
  by_cases p : A < B
  · have p1 : c * A < c * B := Int.mul_lt_mul_of_pos_left p hc
    rw [h1, h2] at p1
    have p2 : D < S := Int.lt_of_mul_lt_mul_right p1 (by omega)
    rw [decide_eq_true p, decide_eq_true (show D ≤ S by omega)]; exact h2
  · rw [decide_eq_false p]
    by_cases q : D ≤ S
    · have q1 : D * k ≤ S * k := Int.mul_le_mul_of_nonneg_right q (by omega)
      have p1 : c * B ≤ c * A := Int.mul_le_mul_of_nonneg_left (by omega) (by omega)
      rw [decide_eq_true q]
      show c * A = S * k
      omega
    · rw [decide_eq_false q]; exact h1
theorem to_law (hk : TOk t) (hr : rnE t l = 0) {j : Nat} (hj : j < (mcN t l l.ev.length).tr.length) (h : toE t l j = 0) :
    rideE t (toX t l j) = 0 ∧ fareE t (toX t l j) (ptX t (toX t l j)) = 0 ∧ totQ t (toX t l j) (ptX t (toX t l j)) = ((mcN t l l.ev.length).tr.getD j mtp0).fa ∧ staQ t (toX t l j) = ((mcN t l l.ev.length).tr.getD j mtp0).st := by
  obtain ⟨ok, hz, hd, n0, n60, fit⟩ := to_zero h
  have g := rn_gd hk hr
  have iv := (mcN_iv g.1 g.2 l.ev.length (Nat.le_refl _)).1
  have jv := mcN_jv g.1 g.2 l.ev.length (Nat.le_refl _)
  have T := iv.tr j hj
  have Tsp := T.sp
  have F := jv.tr j hj
  have tb := to_bd (t := t) (n := (mcN t l l.ev.length).tr.length) (j := (j : Int)) (mcN t l l.ev.length).pc.length (Nat.le_refl _) iv.pk
  have F : Fv t l ((mcN t l l.ev.length).zs.getD j 0) ⟨((mcN t l l.ev.length).tr.getD j mtp0).d, ((mcN t l l.ev.length).tr.getD j mtp0).s⟩ ((mcN t l l.ev.length).tr.getD j mtp0).st (toQ t l j) (suV t l j (mcN t l l.ev.length).pc (mcN t l l.ev.length).pc.length) := F
  have tb : _ ∧ ∀ a, a < (toQ t l j).rs.length → RnO _ _ _ ((toQ t l j).rs.getD a pc0) := tb
  have ux := trf_unit g.1.trf
  have nm := (gd_head g.1.al).1
  unfold toZ at hz
  unfold toD at hd
  rw [List.all_eq_true] at hd
  have xd : toX t l j = ⟨⟨((mcN t l l.ev.length).tr.getD j mtp0).d, ((mcN t l l.ev.length).tr.getD j mtp0).s⟩, false, ((mcN t l l.ev.length).tr.getD j mtp0).ex, sgL l (toQ t l j).rs (toQ t l j).rs.length⟩ := rfl
  generalize toX t l j = x at *
  generalize (mcN t l l.ev.length).tr.getD j mtp0 = X at *
  generalize suV t l j (mcN t l l.ev.length).pc (mcN t l l.ev.length).pc.length = V at *
  generalize hQ : toQ t l j = Q at *
  have tb := tb.2
  generalize suQ (mcN t l l.ev.length).pc (mcN t l l.ev.length).pc.length = bq at *
  generalize suT (mcN t l l.ev.length).pc (mcN t l l.ev.length).pc.length = bt at *
  have xl : x.sg.length = Q.rs.length := by rw [xd]; exact sgL_len _
  have xs : ∀ a, a < Q.rs.length → sgx x a = sgO l (Q.rs.getD a pc0) := fun a ha => by rw [xd]; exact sgL_at _ ha
  have xm : x.m = ⟨X.d, X.s⟩ := by rw [xd]
  have xe : x.ex = X.ex := by rw [xd]
  have xf : x.fx = false := by rw [xd]
  have fu := fit_all _ fit
  have ft : ∀ k, k ≤ Q.rs.length → segT x k = suT Q.rs k := by
    intro k
    induction k with
    | zero => exact fun _ => rfl
    | succ k ih => intro hk; simp only [segT, suT]; rw [ih (by omega), xs k (by omega)]; rfl
  have ru : ∀ a, a < Q.rs.length → Ru t (Q.rs.getD a pc0).zn (laterQ x.m (suT Q.rs a)) (Q.rs.getD a pc0).ru := fun a ha => by rw [xm]; exact F.ru ok a ha
  have div : ∀ a, a < Q.rs.length → l.c * (sgO l (Q.rs.getD a pc0)).me = 1000 * (Q.rs.getD a pc0).pu * (Q.rs.getD a pc0).tk := fun a ha => by
    have w := hd (Q.rs.getD a pc0) (by rw [List.getD_eq_getElem?_getD, List.getElem?_eq_getElem ha]; exact List.getElem_mem ha)
    unfold divB at w
    have w := eq_of_beq w
    have v := Int.mul_tdiv_add_tmod (1000 * (Q.rs.getD a pc0).pu * (Q.rs.getD a pc0).tk) l.c
    show l.c * (1000 * (Q.rs.getD a pc0).pu * (Q.rs.getD a pc0).tk).tdiv l.c = _
    omega
  have te : tripE t x = 0 := by
    refine (trip_5 ?_ (fun i hi => ?_) ?_ fun i hi => ?_).1
    · unfold tripH
      have m : momB x.m = true := by rw [xm]; exact F.mo
      rw [g.1.trf, m, show ((x.ex.length : Int) == (t.extras.length : Int)) = true by rw [xe, T.exl]; simp]; rfl
    · unfold exE
      have w := T.ex i
      rw [xe, inB_iff.2 w]; rfl
    · unfold tripM
      rw [xl, decide_eq_true (show 0 < (Q.rs.length : Int) by omega), decide_eq_true (show (Q.rs.length : Int) ≤ 60 by omega)]; rfl
    · rw [xl] at hi
      unfold sgE
      have w := tb i hi
      have f := fu i hi
      have z := (ru_gate (ru i hi)).1
      have q3 := w.q
      have qb := quo_bd (a := 1000 * (Q.rs.getD i pc0).pu * (Q.rs.getD i pc0).tk) (d := l.c) (B := 1000 * (Q.rs.getD i pc0).pu * (Q.rs.getD i pc0).tk) (by rw [Int.mul_assoc]; omega) (Int.le_refl _) (by omega)
      have w1 := w.tk
      rw [xs i hi]
      rw [show zoneIn t (sgO l (Q.rs.getD i pc0)).z = true from z, inB_iff.2 (show 0 ≤ (sgO l (Q.rs.getD i pc0)).me ∧ (sgO l (Q.rs.getD i pc0)).me ≤ 100000 from ⟨qb.1, f.1⟩), inB_iff.2 (show 1 ≤ (sgO l (Q.rs.getD i pc0)).se ∧ (sgO l (Q.rs.getD i pc0)).se ≤ 36000 from ⟨w1.1, f.2⟩)]; rfl
  have TO := trip_0 te
  have sp : ∀ a, a < Q.rs.length → segP x a = ⟨(Q.rs.getD a pc0).zn, laterQ x.m (suT Q.rs a)⟩ := fun a ha => by
    unfold segP
    rw [(segM_eq TO a (by omega)).1, ft a (by omega), xs a ha]; rfl
  have sn : ∀ a, a < Q.rs.length → segE t x a = 0 ∧ segN t x a = (Q.rs.getD a pc0).ru := fun a ha => by
    have w := ru_gate (ru a ha)
    unfold segE segN segH
    rw [sp a ha, (segM_eq TO a (by omega)).1, ft a (by omega), w.2.1, w.2.2.1, w.2.2.2]; exact ⟨rfl, rfl⟩
  have re : rideE t x = 0 := ride_3 te fun a ha => (sn a (by omega)).1
  have sr : ∀ a, a < Q.rs.length → segR t x a = ruA t (Q.rs.getD a pc0).ru := fun a ha => by unfold segR ruA; rw [(sn a ha).2]
  have pts : ∀ k, k ≤ Q.rs.length → l.c * accP (ptX t x) k = suR t l Q.rs k := by
    intro k
    induction k with
    | zero => exact fun _ => Int.mul_zero _
    | succ k ih =>
      intro hk
      simp only [accP, suR]
      rw [Int.mul_add, ih (by omega)]
      have d := div k (by omega)
      have w := (tb k (by omega)).tk
      unfold ptX vR vQ
      rw [max_c (c := l.c) (A := ptM t x k) (B := ptS t x k) (D := dstQ t (Q.rs.getD k pc0).ru (Q.rs.getD k pc0).pu) (S := scnQ t l (Q.rs.getD k pc0).ru) (k := (Q.rs.getD k pc0).tk) (by omega) (by omega) ?_ ?_]
      · unfold ptM dstQ
        rw [sr k (by omega), xs k (by omega), Int.mul_left_comm, d]
        rw [← Int.mul_assoc, ← Int.mul_assoc, Int.mul_comm (ruA t (Q.rs.getD k pc0).ru).me 1000]
      · unfold ptS scnQ
        rw [sr k (by omega), xs k (by omega), ← Int.mul_assoc]; rfl
  have pn : 0 ≤ accP (ptX t x) Q.rs.length := (accP_bd (n := Q.rs.length) (fun k hk => ptX_bd TO (by omega) (sn k hk).1) _ (Nat.le_refl _)).1
  have steps : X.sp = (accP (ptX t x) Q.rs.length).tdiv t.unit := by
    rw [Tsp, ← F.v ok, ← pts _ (Nat.le_refl _)]
    have cp : 0 ≤ l.c * accP (ptX t x) Q.rs.length := Int.mul_nonneg (by omega) pn
    rw [Int.tdiv_eq_ediv_of_nonneg cp, Int.tdiv_eq_ediv_of_nonneg pn, Int.mul_comm t.unit l.c, Int.mul_ediv_mul_of_pos _ _ (by omega)]
  have D := drv_me (t := t) (f := ptX t x) xf
  have st : staQ t x = X.st := by
    rw [D.2, sr 0 n0]
    obtain ⟨r0, hr0, e0⟩ := F.bg
    have w := ru 0 n0
    have z : (Q.rs.getD 0 pc0).zn = (mcN t l l.ev.length).zs.getD j 0 := by
      rw [beq_false_of_ne (show (Q.rs.length : Int) ≠ 0 by omega)] at hz
      exact eq_of_beq hz
    have m0 : laterQ x.m (suT Q.rs 0) = ⟨X.d, X.s⟩ := by
      have b := mom_bd F.mo
      rw [xm]
      unfold laterQ
      show (⟨X.d + (X.s + 0).tdiv 86400, (X.s + 0).tmod 86400⟩ : Mom) = _
      have b1 : 0 ≤ X.s := b.2.1
      have b2 : X.s ≤ 86399 := b.2.2
      rw [Int.tdiv_eq_ediv_of_nonneg (by omega), Int.tmod_eq_emod_of_nonneg (by omega), show X.d + (X.s + 0) / 86400 = X.d by omega, show (X.s + 0) % 86400 = X.s by omega]
    rw [m0, z] at w
    rw [e0, ← hr0.n, ← w.n]
  have tot : totQ t x (ptX t x) = X.fa := by
    unfold totQ
    rw [st, D.1, xl, ← steps, exS_mxA, xe, T.fa]
    by_cases p : 0 < t.step
    · rw [decide_eq_true p]; show _ = _ + X.sp * t.step; omega
    · rw [decide_eq_false p, show t.step = 0 by omega, Int.mul_zero]; show _ = _ + (0 : Int); omega
  have fb := T.fb
  exact ⟨re, fare_fit (fun e => by rw [xf] at e; cases e) (by rw [tot]; omega), tot, st⟩
end
end Go.Fx
