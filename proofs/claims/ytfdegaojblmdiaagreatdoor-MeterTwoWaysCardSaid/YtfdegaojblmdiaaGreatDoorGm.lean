/-
  Steps of counts; what is true of a machine's pieces and trips.
-/
import Derived.Test.YtfdegaojblmdiaaGreatDoorGq
import Derived.Test.YtfdegaojblmdiaaGreatDoorGu
import Derived.Test.YtfdegaojblmdiaaGreatDoorGy

set_option linter.all false

/-
  The steps of counts.
-/
namespace Go.Fx
open Go.Proofs Go.RowKit

structure Cnt where
  r : Int
  p : Int
  s : Int
def cnt0 : Cnt := ⟨0, 0, 0⟩
def cntC (x : Cnt) : List AV := [.int .i64 x.r, .int .i64 x.p, .int .i64 x.s]
def cntS (l : List Cnt) : AV := .slc 3 l.length (fun i j => tbl (cntC (l.getD i cnt0)) j)

def wOf (t : Trf) (c : Int) (x : Cnt) : Int := 1000 * (t.rules.getD x.r.toNat rul0).me * x.p + c * (t.rules.getD x.r.toNat rul0).se * x.s
def befC (l : List Cnt) (i : Nat) : Int := match i with | 0 => -1 | i + 1 => (l.getD i cnt0).r
@[irreducible] def cntE (t : Trf) (l : List Cnt) (i : Nat) : Int := firstS [isOk (inB (l.getD i cnt0).r 0 (t.rules.length - 1)) 6, isOk (decide (befC l i < (l.getD i cnt0).r)) 9, isOk (bif inB (l.getD i cnt0).p 0 20000000 then inB (l.getD i cnt0).s 0 1000000 else false) 2]
def accW (t : Trf) (c : Int) (l : List Cnt) : Nat → Int
  | 0 => 0
  | i + 1 => accW t c l i + wOf t c (l.getD i cnt0)
def stepH (t : Trf) (c : Int) (n : Nat) : Int := firstS [trfE t, isOk (inB c 1 100000) 2, isOk (decide ((n : Int) ≤ 12)) 8]
@[irreducible] def stepE (t : Trf) (c : Int) (l : List Cnt) : Int := bif decide (stepH t c l.length = 0) then scanE (cntE t l) (List.range l.length) else stepH t c l.length
@[irreducible] def stepN (t : Trf) (c : Int) (l : List Cnt) : Int := bif decide (stepE t c l = 0) then (accW t c l l.length).tdiv (t.unit * c) else 0
theorem step_bad {t : Trf} {c : Int} {l : List Cnt} {e : Int} (h : stepE t c l = e) (h0 : e ≠ 0) : stepN t c l = 0 := by unfold stepN; rw [h, decide_eq_false h0]; rfl
theorem step_ok {t : Trf} {c : Int} {l : List Cnt} (h : stepE t c l = 0) : stepN t c l = (accW t c l l.length).tdiv (t.unit * c) := by unfold stepN; rw [h]; rfl
theorem step_h {t : Trf} {c : Int} {l : List Cnt} {e : Int} (h : stepH t c l.length = e) (h0 : e ≠ 0) : stepE t c l = e ∧ stepN t c l = 0 := by
  have : stepE t c l = e := by unfold stepE; rw [h, decide_eq_false h0]; rfl
  exact ⟨this, step_bad this h0⟩
theorem step_hit {t : Trf} {c : Int} {l : List Cnt} (h : stepH t c l.length = 0) {i : Nat} (hi : i < l.length) (h0 : ∀ j, j < i → cntE t l j = 0) {e : Int} (he : cntE t l i = e) (hne : e ≠ 0) : stepE t c l = e ∧ stepN t c l = 0 := by
  have w := scan_hit (g := cntE t l) (d := 0) (l := List.range l.length) (i := i) (by simpa using hi) (fun j hj => by rw [range_at (by omega)]; exact h0 j hj) (by rw [range_at hi, he]; exact hne)
  have : stepE t c l = e := by unfold stepE; rw [h, w.1, range_at hi, he]; rfl
  exact ⟨this, step_bad this hne⟩
theorem step_none {t : Trf} {c : Int} {l : List Cnt} (h : stepH t c l.length = 0) (h0 : ∀ j, j < l.length → cntE t l j = 0) : stepE t c l = 0 ∧ stepN t c l = (accW t c l l.length).tdiv (t.unit * c) := by
  have w := scan_none (g := cntE t l) (d := 0) (l := List.range l.length) (fun j hj => by rw [range_at (by simpa using hj)]; exact h0 j (by simpa using hj))
  have : stepE t c l = 0 := by unfold stepE; rw [h, w.1]; rfl
  exact ⟨this, step_ok this⟩
structure COk (t : Trf) (c : Int) (x : Cnt) : Prop where
  r : 0 ≤ x.r ∧ x.r < t.rules.length
  m1 : 0 ≤ 1000 * (t.rules.getD x.r.toNat rul0).me ∧ 1000 * (t.rules.getD x.r.toNat rul0).me ≤ 1000000000
  m2 : 0 ≤ 1000 * (t.rules.getD x.r.toNat rul0).me * x.p ∧ 1000 * (t.rules.getD x.r.toNat rul0).me * x.p ≤ 1000000000 * 20000000
  s1 : 0 ≤ c * (t.rules.getD x.r.toNat rul0).se ∧ c * (t.rules.getD x.r.toNat rul0).se ≤ 100000 * 1000000
  s2 : 0 ≤ c * (t.rules.getD x.r.toNat rul0).se * x.s ∧ c * (t.rules.getD x.r.toNat rul0).se * x.s ≤ 100000 * 1000000 * 1000000
theorem c_ok {t : Trf} {c : Int} {l : List Cnt} {i : Nat} (ht : trfE t = 0) (hc : 1 ≤ c ∧ c ≤ 100000) (h : cntE t l i = 0) : COk t c (l.getD i cnt0) := by
  unfold cntE at h
  have z := firstS_zero h
  have z0 := inB_iff.1 (isOk_0 (b := inB (l.getD i cnt0).r 0 (t.rules.length - 1)) (e := 6) (z _ (by simp)) (by decide))
  have z2 := and_t (isOk_0 (b := bif inB (l.getD i cnt0).p 0 20000000 then inB (l.getD i cnt0).s 0 1000000 else false) (e := 2) (z _ (by simp)) (by decide))
  have z3 := inB_iff.1 z2.1
  have z4 := inB_iff.1 z2.2
  have hr := trf_rule ht (k := (l.getD i cnt0).r.toNat) (by omega)
  have hm := hr.me
  have hse := hr.se
  have m1 : 0 ≤ 1000 * (t.rules.getD (l.getD i cnt0).r.toNat rul0).me ∧ 1000 * (t.rules.getD (l.getD i cnt0).r.toNat rul0).me ≤ 1000000000 := by omega
  have s1 := mul_bd (A := 100000) (B := 1000000) (show 0 ≤ c by omega) hc.2 hse.1 hse.2
  exact ⟨by omega, m1, mul_bd m1.1 m1.2 z3.1 z3.2, s1, mul_bd s1.1 s1.2 z4.1 z4.2⟩
theorem acc_bd {t : Trf} {c : Int} {l : List Cnt} (ht : trfE t = 0) (hc : 1 ≤ c ∧ c ≤ 100000) : ∀ (i : Nat), (∀ j, j < i → cntE t l j = 0) → 0 ≤ accW t c l i ∧ accW t c l i ≤ 120000000000000000 * i
  | 0, _ => by simp [accW]
  | i + 1, h => by
    have ih := acc_bd ht hc i fun j hj => h j (by omega)
    have w := c_ok ht hc (h i (by omega))
    have h1 := w.m2; have h2 := w.s2
    simp only [accW, wOf]
    omega

section
variable {W0 : World} {G : Nat → Option AV} (hX : (Xc W0 G).Good)
include hX
theorem c26 (t : Trf) (c : Int) (l : List Cnt) (hs : Side (TOk t)) (hl : Side (l.length ≤ 1000)) : Pure (Xc W0 G) 26 [trfA t, .int .i64 c, cntS l] (.tup 2 (tbl [.int .i64 (stepN t c l), .int .i64 (stepE t c l)])) := by
  have ok := hs.get
  have hl := hl.get
  have kr := ok.rules
  refine mut_of' hX (show FnIs (Xc W0 G) 26 Tryz.f26 (codeOf Tryz.f26) from ⟨by kernel_rfl, by kernel_rfl, by kernel_rfl, by kernel_rfl⟩) rfl ?_
  repeat' (first
    | ((with_reducible refine (?_ : Alt _ _)); first | (with_reducible apply callAlt (c68 hX t hs)) | (with_reducible apply callAlt (c69 hX _)) | (with_reducible apply callAlt (c49 hX _ _)) | (with_reducible apply callAlt (c48_3 hX _ _ _)) | (with_reducible refine Alt.one ?_))
    | ((with_reducible refine (?_ : AllLe _ _)); first | exact ⟨le_slc3 rfl rfl rfl, trivial⟩ | (first | exact AllLe.refl _ | (repeat' (first | exact trivial | apply Le.aggs | apply Le.tups | apply Le.fns | exact Le.refl _ | refine ⟨?_, ?_⟩))))
    | ((with_reducible refine (?_ : Sc _ (AllRen _ _ _))); refine Sc.of ?_; first | (repeat' (first | exact trivial | apply Le.aggs | apply Le.tups | apply Le.fns | exact Le.refl _ | refine ⟨?_, ?_⟩)))
    | ((with_reducible refine (?_ : (List.all _ _) = true)); rfl)
    | ((with_reducible refine (?_ : (and _ _) = true)); rfl)
    | ((with_reducible refine (?_ : List.Nodup _)); exact nodupB_spec rfl)
    | ((with_reducible refine (?_ : @Eq Nat _ _)); rfl)
    | ((with_reducible refine (?_ : @Eq (List (Option HObj)) _ _)); kernel_rfl)
    | ((with_reducible refine (?_ : LeOks _ _ _)); first | exact trivial | exact ⟨.refl _, trivial⟩ | exact ⟨.refl _, .refl _, trivial⟩)
    | ((fail_if_success with_reducible refine Stop.go ?_); (first | with_reducible refine And.intro ?_ ?_ | with_reducible refine Cut.go ?_ | (with_reducible (refine impI ?_; intro _)) | (with_reducible refine (?_ : footOK _ _ = true); kernel_rfl) | ((with_reducible refine propI ?_); conv => whnf))))
  all_goals try (exact .of (Nat.le_of_ble_eq_true rfl))
  all_goals (rename_i h)
  · have h : stepH t c l.length ≠ 0 := bne_iff_ne.1 h
    have w := step_h (l := l) rfl h
    exact .mk [] [] _ rfl (.le (.tups ⟨⟨trivial, .intI w.2.symm⟩, .intI w.1.symm⟩)) trivial rfl
  · have hh : stepH t c l.length = 0 := bne_eq_false_iff_eq.1 h
    have z := firstS_zero hh
    have ht : trfE t = 0 := z _ (by simp)
    have hc := inB_iff.1 (isOk_0 (b := inB c 1 100000) (e := 2) (z _ (by simp)) (by decide))
    have hn := of_decide_eq_true (isOk_0 (b := decide ((l.length : Int) ≤ 12)) (e := 8) (z _ (by simp)) (by decide))
    have hu := (trf_unit ht).1
    refine ⟨Nat, fun i => ([(1, .int .i64 c), (3, .ptr 0 0), (10, .int .i64 (accW t c l i)), (11, .int .i64 (befC l i)), (33, cntS l), (34, .int .i64 l.length), (35, .int .i64 i)], [.box (trfC t)]), fun i => i ≤ l.length ∧ ∀ j, j < i → cntE t l j = 0, fun i => l.length - i, ⟨0, ⟨Nat.zero_le _, fun _ h => by omega⟩, .le ⟨rfl, ⟨.refl _, trivial⟩, ⟨.refl _, .refl _, .refl _, .refl _, .refl _, .refl _, .refl _, trivial⟩⟩⟩, fun i ⟨hi, h0⟩ => ?_⟩
    have hb := acc_bd ht hc i h0
    repeat' (first
      | ((with_reducible refine (?_ : Alt _ _)); first | (with_reducible apply callAlt (c50 hX _ _ _)) | (with_reducible apply callAlt (c49 hX _ _)) | (with_reducible apply callAlt (c48_3 hX _ _ _)) | (with_reducible refine Alt.one ?_))
      | ((with_reducible refine (?_ : AllLe _ _)); first | exact ⟨le_slc3 rfl rfl rfl, trivial⟩ | (first | exact AllLe.refl _ | (repeat' (first | exact trivial | apply Le.aggs | apply Le.tups | apply Le.fns | exact Le.refl _ | refine ⟨?_, ?_⟩))))
      | ((with_reducible refine (?_ : Sc _ (AllRen _ _ _))); refine Sc.of ?_; first | (repeat' (first | exact trivial | apply Le.aggs | apply Le.tups | apply Le.fns | exact Le.refl _ | refine ⟨?_, ?_⟩)))
      | ((with_reducible refine (?_ : (List.all _ _) = true)); rfl)
      | ((with_reducible refine (?_ : (and _ _) = true)); rfl)
      | ((with_reducible refine (?_ : List.Nodup _)); exact nodupB_spec rfl)
      | ((with_reducible refine (?_ : @Eq Nat _ _)); rfl)
      | ((with_reducible refine (?_ : @Eq (List (Option HObj)) _ _)); kernel_rfl)
      | ((with_reducible refine (?_ : LeOks _ _ _)); first | exact trivial | exact ⟨.refl _, trivial⟩ | exact ⟨.refl _, .refl _, trivial⟩)
      | ((fail_if_success with_reducible refine Stop.go ?_); (first | with_reducible refine And.intro ?_ ?_ | with_reducible refine Cut.go ?_ | (with_reducible (refine impI ?_; intro _)) | (with_reducible refine (?_ : footOK _ _ = true); kernel_rfl) | ((with_reducible refine propI ?_); conv => whnf))))
    all_goals try (exact .of (Nat.le_of_ble_eq_true rfl))
    all_goals try (rename_i q1; have q1 := of_decide_eq_true q1; exact .of ⟨by omega, by omega⟩)
    all_goals try (rename_i q1 q2; have q1 := of_decide_eq_true q1; first
        | (have hne : cntE t l i ≠ 0 := by unfold cntE; exact bne_iff_ne.1 q2
           have w := step_hit hh (by omega) h0 rfl hne
           exact .mk [] [] _ rfl (.le (.tups ⟨⟨trivial, .intI w.2.symm⟩, .intI (by rw [w.1]; unfold cntE; rfl)⟩)) trivial rfl)
        | (have hz : cntE t l i = 0 := by unfold cntE; exact bne_eq_false_iff_eq.1 q2
           have ck := c_ok ht hc hz
           have r1 := ck.r; have r2 := ck.m1; have r3 := ck.m2; have r4 := ck.s1; have r5 := ck.s2
           first
             | exact ⟨i + 1, ⟨by omega, all_lt h0 hz⟩, by show l.length - (i + 1) < l.length - i; omega, .le ⟨rfl, ⟨.refl _, trivial⟩, ⟨.refl _, .refl _, .refl _, .refl _, .refl _, .refl _, .refl _, trivial⟩⟩⟩
             | (refine Sc.of ?_; (try simp only [Int.toNat_natCast]); exact ⟨by omega, by omega⟩)))
    all_goals (rename_i q1; have q1 := of_decide_eq_false q1; obtain rfl : i = l.length := by omega)
    all_goals (have du := mul_bd (A := 999999999) (B := 100000) (by omega) hu.2 (by omega) hc.2; have dp := Int.mul_pos (show 0 < t.unit by omega) (show 0 < c by omega); have qb := quo_bd hb.1 hb.2 dp)
    all_goals first
      | exact .of ⟨by omega, by omega⟩
      | exact .of (by omega)
      | (have w := step_none hh h0
         exact .mk [] [] _ rfl (.le (.tups ⟨⟨trivial, .intI w.2.symm⟩, .intI w.1.symm⟩)) trivial rfl)

end
end Go.Fx

/-
  What was counted in a trip, and its fare.
-/
namespace Go.Fx
open Go.Proofs

def inT (j : Int) (p : Pc) : Bool := bif p.tr == j then p.ps != 0 else false
def addC (c : Cnt) (p : Pc) : Cnt := bif p.ps == 3 then c else bif p.tm then { c with s := c.s + p.tk } else { c with p := c.p + p.pu * max 1 p.tk }
def rlP (p : Pc) : Nat := (max 0 p.ru).toNat
def ctB (j : Int) (r : Nat) (p : Pc) : Bool := bif inT j p then decide (rlP p = r) else false
def ctN (j : Int) (l : List Pc) (r : Nat) : Nat → Cnt
  | 0 => cnt0
  | i + 1 => bif ctB j r (l.getD i pc0) then addC (ctN j l r i) (l.getD i pc0) else ctN j l r i
def ouB (c : Cnt) : Bool := bif decide (0 < c.p) then true else decide (0 < c.s)
def ouC (j : Int) (l : List Pc) (r : Nat) : Cnt := { ctN j l r l.length with r := r }
def ouN (j : Int) (l : List Pc) : Nat → List Cnt
  | 0 => []
  | r + 1 => bif ouB (ouC j l r) then ouN j l r ++ [ouC j l r] else ouN j l r
def vP (t : Trf) (l : Log) (p : Pc) : Int := bif p.ps == 3 then 0 else bif p.tm then l.c * (ruA t p.ru).se * p.tk else 1000 * (ruA t p.ru).me * (p.pu * max 1 p.tk)
def suV (t : Trf) (l : Log) (j : Int) (q : List Pc) : Nat → Int
  | 0 => 0
  | i + 1 => suV t l j q i + (bif inT j (q.getD i pc0) then vP t l (q.getD i pc0) else 0)
def suW (f : Nat → Int) : Nat → Int
  | 0 => 0
  | r + 1 => suW f r + f r
def suQ (q : List Pc) : Nat → Int
  | 0 => 0
  | i + 1 => suQ q i + (q.getD i pc0).pu * max 1 (q.getD i pc0).tk
def suT (q : List Pc) : Nat → Int
  | 0 => 0
  | i + 1 => suT q i + (q.getD i pc0).tk

theorem suW_same {f g : Nat → Int} : ∀ n, (∀ r, r < n → g r = f r) → suW g n = suW f n
  | 0, _ => rfl
  | n + 1, h => by simp only [suW]; rw [suW_same n fun r hr => h r (by omega), h n (by omega)]
theorem suW_upd {f g : Nat → Int} {r0 : Nat} {d : Int} (h : ∀ r, r ≠ r0 → g r = f r) (h0 : g r0 = f r0 + d) : ∀ n, r0 < n → suW g n = suW f n + d
  | 0, hn => absurd hn (Nat.not_lt_zero _)
  | n + 1, hn => by
    simp only [suW]
    by_cases e : r0 = n
    · subst e; rw [h0, suW_same r0 fun r hr => h r (by omega)]; omega
    · rw [suW_upd h h0 n (by omega), h n (fun q => e q.symm)]; omega
section
variable {t : Trf} {l : Log} {q : List Pc} {j : Int}
def wR (t : Trf) (l : Log) (j : Int) (q : List Pc) (i r : Nat) : Int := 1000 * (t.rules.getD r rul0).me * (ctN j q r i).p + l.c * (t.rules.getD r rul0).se * (ctN j q r i).s
theorem wR_sum {n : Nat} : ∀ i, (∀ k, k < i → inT j (q.getD k pc0) = true → rlP (q.getD k pc0) < n) → suW (wR t l j q i) n = suV t l j q i
  | 0, _ => by
    have : ∀ n, suW (wR t l j q 0) n = 0 := by
      intro n
      induction n with
      | zero => rfl
      | succ n ih => simp only [suW]; rw [ih]; show 0 + (_ * 0 + _ * 0) = (0 : Int); simp
    exact this n
  | i + 1, h => by
    have ih := wR_sum (n := n) i fun k hk => h k (by omega)
    simp only [suV]
    rw [← ih]
    cases e : inT j (q.getD i pc0) with
    | false =>
      show _ = _ + (0 : Int)
      rw [Int.add_zero]
      refine suW_same n fun r _ => ?_
      unfold wR
      simp only [ctN]
      rw [show ctB j r (q.getD i pc0) = false by unfold ctB; rw [e]; rfl]; rfl
    | true =>
      have hr := h i (by omega) e
      have er : ruA t (q.getD i pc0).ru = t.rules.getD (rlP (q.getD i pc0)) rul0 := by unfold ruA rlP; rw [show (max 0 (q.getD i pc0).ru).toNat = (q.getD i pc0).ru.toNat by omega]
      refine suW_upd (r0 := rlP (q.getD i pc0)) (fun r hne => ?_) ?_ n hr
      · unfold wR
        simp only [ctN]
        rw [show ctB j r (q.getD i pc0) = false by unfold ctB; rw [e, decide_eq_false (fun c => hne c.symm)]; rfl]; rfl
      · unfold wR
        simp only [ctN]
        rw [show ctB j (rlP (q.getD i pc0)) (q.getD i pc0) = true by unfold ctB; rw [e, decide_eq_true rfl]; rfl]
        unfold vP addC
        rw [er]
        generalize q.getD i pc0 = p at *
        generalize t.rules.getD (rlP p) rul0 = R at *
        generalize ctN j q (rlP p) i = C at *
        by_cases h3 : p.ps = 3
        · rw [h3]; show _ = _ + (0 : Int); rw [Int.add_zero]; rfl
        · rw [beq_false_of_ne h3]
          cases p.tm
          · show 1000 * R.me * (C.p + p.pu * max 1 p.tk) + l.c * R.se * C.s = 1000 * R.me * C.p + l.c * R.se * C.s + 1000 * R.me * (p.pu * max 1 p.tk)
            rw [Int.mul_add]; omega
          · show 1000 * R.me * C.p + l.c * R.se * (C.s + p.tk) = 1000 * R.me * C.p + l.c * R.se * C.s + l.c * R.se * p.tk
            rw [Int.mul_add]; omega
theorem acc_push {c : Int} (a : List Cnt) (x : Cnt) : accW t c (a ++ [x]) (a ++ [x]).length = accW t c a a.length + wOf t c x := by
  have e : ∀ i, i ≤ a.length → accW t c (a ++ [x]) i = accW t c a i := by
    intro i
    induction i with
    | zero => exact fun _ => rfl
    | succ i ih =>
      intro hi
      simp only [accW]
      rw [ih (by omega)]
      simp only [List.getD_eq_getElem?_getD]
      rw [List.getElem?_append_left (by omega)]
  rw [show (a ++ [x]).length = a.length + 1 by simp]
  simp only [accW]
  rw [e _ (Nat.le_refl _)]
  simp [List.getD_eq_getElem?_getD]
structure PcO (t : Trf) (n : Int) (p : Pc) : Prop where
  tr : p.tr ≤ n
  tk : 0 ≤ p.tk
  pu : 0 ≤ p.pu
  ru : p.ps ≠ 0 → rlP p < t.rules.length
theorem ct_bd {n : Int} {r : Nat} : ∀ i, (∀ k, k < i → PcO t n (q.getD k pc0)) → (0 ≤ (ctN j q r i).p ∧ (ctN j q r i).p ≤ suQ q i) ∧ (0 ≤ (ctN j q r i).s ∧ (ctN j q r i).s ≤ suT q i)
  | 0, _ => ⟨⟨Int.le_refl _, Int.le_refl _⟩, ⟨Int.le_refl _, Int.le_refl _⟩⟩
  | i + 1, h => by
    have ih := ct_bd (r := r) i fun k hk => h k (by omega)
    have o := h i (by omega)
    have o1 := o.tk; have o2 := o.pu
    have o3 : 0 ≤ (q.getD i pc0).pu * max 1 (q.getD i pc0).tk := Int.mul_nonneg o2 (by omega)
    simp only [ctN, suQ, suT]
    cases ctB j r (q.getD i pc0)
    · show (0 ≤ (ctN j q r i).p ∧ (ctN j q r i).p ≤ _) ∧ (0 ≤ (ctN j q r i).s ∧ (ctN j q r i).s ≤ _)
      omega
    · show (0 ≤ (addC _ _).p ∧ (addC _ _).p ≤ _) ∧ (0 ≤ (addC _ _).s ∧ (addC _ _).s ≤ _)
      unfold addC
      cases (q.getD i pc0).ps == 3
      · cases (q.getD i pc0).tm
        · show (0 ≤ (ctN j q r i).p + _ ∧ (ctN j q r i).p + _ ≤ _) ∧ (0 ≤ (ctN j q r i).s ∧ (ctN j q r i).s ≤ _)
          omega
        · show (0 ≤ (ctN j q r i).p ∧ (ctN j q r i).p ≤ _) ∧ (0 ≤ (ctN j q r i).s + _ ∧ (ctN j q r i).s + _ ≤ _)
          omega
      · show (0 ≤ (ctN j q r i).p ∧ (ctN j q r i).p ≤ _) ∧ (0 ≤ (ctN j q r i).s ∧ (ctN j q r i).s ≤ _)
        omega
theorem ou_acc {n : Int} (h : ∀ k, k < q.length → PcO t n (q.getD k pc0)) : ∀ r, accW t l.c (ouN j q r) (ouN j q r).length = suW (wR t l j q q.length) r
  | 0 => rfl
  | r + 1 => by
    have ih := ou_acc h r
    simp only [ouN, suW]
    cases e : ouB (ouC j q r) with
    | true =>
      show accW t l.c (ouN j q r ++ [ouC j q r]) (ouN j q r ++ [ouC j q r]).length = _
      rw [acc_push, ih]
      unfold wOf wR ouC
      rw [show ((r : Int)).toNat = r from Int.toNat_natCast r]
    | false =>
      show accW t l.c (ouN j q r) (ouN j q r).length = _
      rw [ih]
      have b := ct_bd (j := j) (r := r) q.length h
      unfold ouB at e
      have e1 : (ctN j q r q.length).p = 0 := by
        by_cases c : 0 < (ouC j q r).p
        · rw [decide_eq_true c] at e; cases e
        · have c : ¬ 0 < (ctN j q r q.length).p := c; omega
      have e2 : (ctN j q r q.length).s = 0 := by
        by_cases c : 0 < (ouC j q r).p
        · rw [decide_eq_true c] at e; cases e
        · rw [decide_eq_false c] at e
          have c := of_decide_eq_false e
          have c : ¬ 0 < (ctN j q r q.length).s := c; omega
      unfold wR
      rw [e1, e2]; simp
theorem ou_len : ∀ r, (ouN j q r).length ≤ r
  | 0 => Nat.le_refl 0
  | r + 1 => by
    have ih := ou_len r
    simp only [ouN]
    cases ouB (ouC j q r)
    · show (ouN j q r).length ≤ _; omega
    · show (ouN j q r ++ [_]).length ≤ _; simp; omega
theorem cntE_ok {a : List Cnt} {i : Nat} (h1 : 0 ≤ (a.getD i cnt0).r ∧ (a.getD i cnt0).r < t.rules.length) (h2 : befC a i < (a.getD i cnt0).r) (h3 : 0 ≤ (a.getD i cnt0).p ∧ (a.getD i cnt0).p ≤ 20000000) (h4 : 0 ≤ (a.getD i cnt0).s ∧ (a.getD i cnt0).s ≤ 1000000) : cntE t a i = 0 := by
  unfold cntE
  rw [inB_iff.2 (show 0 ≤ (a.getD i cnt0).r ∧ (a.getD i cnt0).r ≤ (t.rules.length : Int) - 1 by omega), decide_eq_true h2, inB_iff.2 h3, inB_iff.2 h4]; rfl
theorem ou_ok {n : Int} (h : ∀ k, k < q.length → PcO t n (q.getD k pc0)) (h1 : suQ q q.length ≤ 20000000) (h2 : suT q q.length ≤ 1000000) : ∀ r, r ≤ t.rules.length →
    ∀ i, i < (ouN j q r).length → (0 ≤ ((ouN j q r).getD i cnt0).r ∧ ((ouN j q r).getD i cnt0).r < r) ∧ cntE t (ouN j q r) i = 0
  | 0, _, i, hi => absurd hi (Nat.not_lt_zero i)
  | r + 1, hr, i, hi => by
    have ih := ou_ok h h1 h2 r (by omega)
    simp only [ouN] at hi ⊢
    revert hi
    cases e : ouB (ouC j q r) with
    | false =>
      show i < (ouN j q r).length → _
      intro hi
      have w := ih i hi
      exact ⟨⟨w.1.1, by have := w.1.2; show ((ouN j q r).getD i cnt0).r < _; omega⟩, w.2⟩
    | true =>
      show i < (ouN j q r ++ [ouC j q r]).length → (0 ≤ ((ouN j q r ++ [ouC j q r]).getD i cnt0).r ∧ ((ouN j q r ++ [ouC j q r]).getD i cnt0).r < _) ∧ cntE t (ouN j q r ++ [ouC j q r]) i = 0
      intro hi
      simp only [List.length_append, List.length_cons, List.length_nil] at hi
      have lo : ∀ k, k < (ouN j q r).length → (ouN j q r ++ [ouC j q r]).getD k cnt0 = (ouN j q r).getD k cnt0 := fun k hk => by
        simp only [List.getD_eq_getElem?_getD]; rw [List.getElem?_append_left hk]
      have bf : ∀ k, k ≤ (ouN j q r).length → befC (ouN j q r ++ [ouC j q r]) k = befC (ouN j q r) k := fun k hk => by
        cases k with
        | zero => rfl
        | succ k => show ((ouN j q r ++ [ouC j q r]).getD k cnt0).r = ((ouN j q r).getD k cnt0).r; rw [lo k (by omega)]
      by_cases c : i < (ouN j q r).length
      · have w := ih i c
        refine ⟨by rw [lo i c]; have := w.1; omega, ?_⟩
        have w2 := w.2
        unfold cntE at w2 ⊢
        rw [lo i c, bf i (by omega)]; exact w2
      · obtain rfl : i = (ouN j q r).length := by omega
        have ea : (ouN j q r ++ [ouC j q r]).getD (ouN j q r).length cnt0 = ouC j q r := by simp [List.getD_eq_getElem?_getD]
        have b := ct_bd (j := j) (r := r) q.length h
        refine ⟨by rw [ea]; show 0 ≤ (r : Int) ∧ (r : Int) < _; omega, cntE_ok ?_ ?_ ?_ ?_⟩
        · rw [ea]; show 0 ≤ (r : Int) ∧ (r : Int) < _; omega
        · rw [ea, bf _ (Nat.le_refl _)]
          show befC (ouN j q r) (ouN j q r).length < (r : Int)
          generalize hm : (ouN j q r).length = m at *
          cases m with
          | zero => show (-1 : Int) < r; omega
          | succ m => show ((ouN j q r).getD m cnt0).r < (r : Int); exact (ih m (by omega)).1.2
        · rw [ea]; show 0 ≤ (ctN j q r q.length).p ∧ (ctN j q r q.length).p ≤ _; omega
        · rw [ea]; show 0 ≤ (ctN j q r q.length).s ∧ (ctN j q r q.length).s ≤ _; omega
theorem ou_step {n : Int} (g : Gd t l) (h : ∀ k, k < q.length → PcO t n (q.getD k pc0)) (h1 : suQ q q.length ≤ 20000000) (h2 : suT q q.length ≤ 1000000) :
    stepE t l.c (ouN j q t.rules.length) = 0 ∧ stepN t l.c (ouN j q t.rules.length) = (suV t l j q q.length).tdiv (t.unit * l.c) := by
  have gh := gd_head g.al
  have rl := rules_len g.trf
  have le := ou_len (q := q) (j := j) t.rules.length
  have ok := ou_ok (j := j) h h1 h2 t.rules.length (Nat.le_refl _)
  have sh : stepH t l.c (ouN j q t.rules.length).length = 0 := by
    unfold stepH
    rw [g.trf, inB_iff.2 gh.1, decide_eq_true (show ((ouN j q t.rules.length).length : Int) ≤ 12 by omega)]; rfl
  have w := step_none (t := t) (c := l.c) (l := ouN j q t.rules.length) sh fun i hi => (ok i hi).2
  refine ⟨w.1, ?_⟩
  rw [w.2, ou_acc h, wR_sum q.length fun k hk e => ?_]
  have o := h k hk
  refine o.ru ?_
  unfold inT at e
  have e := (and_t e).2
  exact bne_iff_ne.1 e
end

structure TrO (t : Trf) (l : Log) (q : List Pc) (j : Nat) (x : Mtp) : Prop where
  sp : x.sp = (suV t l j q q.length).tdiv (t.unit * l.c)
  sp0 : 0 ≤ x.sp
  exl : x.ex.length = t.extras.length
  ex : ∀ i, 0 ≤ x.ex.getD i 0 ∧ x.ex.getD i 0 ≤ 20
  st : 0 ≤ x.st ∧ x.st ≤ 100000
  fa : x.fa = x.st + mxA t x.ex x.ex.length + (bif decide (0 < t.step) then x.sp * t.step else 0)
  fb : 0 ≤ x.fa ∧ x.fa ≤ 1000000000
structure Iv (t : Trf) (l : Log) (s : Mc) : Prop where
  pk : ∀ i, i < s.pc.length → PcO t s.tr.length (s.pc.getD i pc0)
  qq : suQ s.pc s.pc.length ≤ s.pu - s.si
  tt : suT s.pc s.pc.length ≤ s.tk
  pa : s.ps ≠ 0 → suV t l s.tr.length s.pc s.pc.length = s.pa
  fr : s.ps = 0 → ∀ i, i < s.pc.length → inT s.tr.length (s.pc.getD i pc0) = false
  rl : s.ps ≠ 0 → 0 < t.rules.length
  tr : ∀ j, j < s.tr.length → TrO t l s.pc j (s.tr.getD j mtp0)
theorem suV_ext {t : Trf} {l : Log} {j : Int} {q : List Pc} {p : Pc} : ∀ i, i ≤ q.length → suV t l j (q ++ [p]) i = suV t l j q i
  | 0, _ => rfl
  | i + 1, hi => by
    simp only [suV]
    rw [suV_ext i (by omega)]
    simp only [List.getD_eq_getElem?_getD]
    rw [List.getElem?_append_left (by omega)]
theorem suV_push {t : Trf} {l : Log} {j : Int} {q : List Pc} {p : Pc} : suV t l j (q ++ [p]) (q ++ [p]).length = suV t l j q q.length + (bif inT j p then vP t l p else 0) := by
  rw [show (q ++ [p]).length = q.length + 1 by simp]
  simp only [suV]
  rw [suV_ext _ (Nat.le_refl _)]
  simp [List.getD_eq_getElem?_getD]
theorem suQ_push {q : List Pc} {p : Pc} : suQ (q ++ [p]) (q ++ [p]).length = suQ q q.length + p.pu * max 1 p.tk := by
  have e : ∀ i, i ≤ q.length → suQ (q ++ [p]) i = suQ q i := by
    intro i
    induction i with
    | zero => exact fun _ => rfl
    | succ i ih => intro hi; simp only [suQ]; rw [ih (by omega)]; simp only [List.getD_eq_getElem?_getD]; rw [List.getElem?_append_left (by omega)]
  rw [show (q ++ [p]).length = q.length + 1 by simp]
  simp only [suQ]
  rw [e _ (Nat.le_refl _)]
  simp [List.getD_eq_getElem?_getD]
theorem suT_push {q : List Pc} {p : Pc} : suT (q ++ [p]) (q ++ [p]).length = suT q q.length + p.tk := by
  have e : ∀ i, i ≤ q.length → suT (q ++ [p]) i = suT q i := by
    intro i
    induction i with
    | zero => exact fun _ => rfl
    | succ i ih => intro hi; simp only [suT]; rw [ih (by omega)]; simp only [List.getD_eq_getElem?_getD]; rw [List.getElem?_append_left (by omega)]
  rw [show (q ++ [p]).length = q.length + 1 by simp]
  simp only [suT]
  rw [e _ (Nat.le_refl _)]
  simp [List.getD_eq_getElem?_getD]
theorem pc_last {q : List Pc} {p : Pc} : ∀ i, i < (q ++ [p]).length → i < q.length ∧ (q ++ [p]).getD i pc0 = q.getD i pc0 ∨ (q ++ [p]).getD i pc0 = p := fun i hi => by
  simp only [List.length_append, List.length_cons, List.length_nil] at hi
  rcases Nat.lt_or_ge i q.length with c | c
  · left; refine ⟨c, ?_⟩; simp only [List.getD_eq_getElem?_getD]; rw [List.getElem?_append_left c]
  · right; obtain rfl : i = q.length := by omega
    simp [List.getD_eq_getElem?_getD]
theorem iv_note {t : Trf} {l : Log} {s s' : Mc} {p : Pc} (h : Iv t l s) (hpc : s'.pc = s.pc ++ [p]) (hp : PcO t s.tr.length p) (htr : s'.tr = s.tr) (hps : s'.ps = s.ps) (p1 : p.tr = s.tr.length) (p2 : p.ps = s.ps)
    (hq : suQ s.pc s.pc.length + p.pu * max 1 p.tk ≤ s'.pu - s'.si) (ht : suT s.pc s.pc.length + p.tk ≤ s'.tk) (hv : s.ps ≠ 0 → s'.pa = s.pa + vP t l p) : Iv t l s' := by
  have i0 : s.ps ≠ 0 → inT s.tr.length p = true := fun h0 => by unfold inT; rw [p1, p2, beq_self_eq_true, bne_iff_ne.2 h0]; rfl
  refine ⟨?_, ?_, ?_, ?_, ?_, ?_, ?_⟩
  · rw [hpc, htr]; intro i hi
    rcases pc_last i hi with ⟨c, e⟩ | e
    · rw [e]; exact h.pk i c
    · rw [e]; exact hp
  · rw [hpc, suQ_push]; exact hq
  · rw [hpc, suT_push]; exact ht
  · rw [hpc, htr, hps]; intro h0; rw [suV_push, h.pa h0, i0 h0, hv h0]; rfl
  · rw [hpc, htr, hps]; intro h0 i hi
    rcases pc_last i hi with ⟨c, e⟩ | e
    · rw [e]; exact h.fr h0 i c
    · rw [e]; unfold inT; rw [p2, h0]; cases p.tr == (s.tr.length : Int) <;> rfl
  · rw [hps]; exact h.rl
  · rw [hpc, htr]; intro j hj
    have w := h.tr j hj
    refine ⟨?_, w.sp0, w.exl, w.ex, w.st, w.fa, w.fb⟩
    rw [suV_push, show inT (j : Int) p = false by unfold inT; rw [p1, beq_false_of_ne (by omega)]; rfl]
    show _ = ((_ + (0 : Int))).tdiv _
    rw [Int.add_zero]; exact w.sp
theorem vP_nt {t : Trf} {l : Log} {s : Mc} {ru pu tk : Int} (h0 : s.ps ≠ 0) (h3 : 0 ≤ s.ps ∧ s.ps ≤ 3) (htk : 0 ≤ tk) : ntA t l s ru pu tk = s.pa + vP t l (ntP t l s ru pu tk) := by
  unfold ntA vP ntP
  cases hr : rnB s with
  | false =>
    have e3 : s.ps = 3 := by
      have hn : ¬ (s.ps = 1 ∨ s.ps = 2) := fun e => by rw [rn_iff.2 e] at hr; cases hr
      omega
    show s.pa = s.pa + (bif s.ps == 3 then 0 else _)
    rw [e3]; show s.pa = s.pa + 0; omega
  | true =>
    have e := rn_iff.1 hr
    show s.pa + (bif tmB t l s ru pu tk then scnQ t l ru else dstQ t ru pu) * max 1 tk = s.pa + (bif s.ps == 3 then 0 else bif tmB t l s ru pu tk then l.c * (ruA t ru).se * tk else 1000 * (ruA t ru).me * (pu * max 1 tk))
    rw [beq_false_of_ne (show s.ps ≠ 3 by omega)]
    cases ht : tmB t l s ru pu tk with
    | false => show s.pa + dstQ t ru pu * max 1 tk = s.pa + 1000 * (ruA t ru).me * (pu * max 1 tk); unfold dstQ; rw [Int.mul_assoc]
    | true =>
      have k : 0 < tk := by
        unfold tmB at ht
        have a := (and_t ht).1
        exact of_decide_eq_true (and_t a).1
      show s.pa + scnQ t l ru * max 1 tk = s.pa + l.c * (ruA t ru).se * tk
      rw [show max 1 tk = tk by omega]; rfl
end Go.Fx

/-
  What was counted in a trip, and its fare: true of every machine.
-/
namespace Go.Fx
open Go.Proofs

section
variable {t : Trf} {l : Log}
theorem iv0 : Iv t l mc0 := by
  refine ⟨fun i hi => ?_, Int.le_refl _, Int.le_refl _, fun h => absurd rfl h, fun _ i hi => ?_, fun h => absurd rfl h, fun j hj => ?_⟩
  · exact absurd hi (Nat.not_lt_zero i)
  · exact absurd hi (Nat.not_lt_zero i)
  · exact absurd hj (Nat.not_lt_zero j)
theorem iv_ch {s : Mc} (hm : Hm t l s) (h : Iv t l s) (he : chE_ t l s = 0) : Iv t l (chS t l s) := by
  have si := hm.m.si
  cases q : chgB s with
  | false =>
    rw [chS_f q]
    exact ⟨h.pk, by have := h.qq; show suQ s.pc s.pc.length ≤ s.pu - 0; omega, h.tt, h.pa, h.fr, h.rl, h.tr⟩
  | true =>
    rw [chE_t q] at he
    have hr := (chg_iff.1 q).1
    have e12 := rn_iff.1 hr
    have ru := mr_ok he
    rw [chS_t q he, nt_eq]
    refine iv_note (p := ntP t l s (mrN t l s) s.si 0) h rfl ⟨Int.le_refl _, Int.le_refl 0, si.1, fun _ => ?_⟩ rfl rfl rfl rfl ?_ ?_ fun h0 => vP_nt h0 hm.m.ps (Int.le_refl 0)
    · show (max 0 (mrN t l s)).toNat < _; omega
    · have := h.qq; show suQ s.pc s.pc.length + s.si * max 1 0 ≤ s.pu - 0; rw [show max (1 : Int) 0 = 1 from rfl, Int.mul_one]; omega
    · have := h.tt; show suT s.pc s.pc.length + 0 ≤ s.tk; omega
theorem iv_rd {s : Mc} {n : Int} (hm : Hm t l s) (h : Iv t l s) (he : rdE t l s = 0) (hn : 0 < n) : Iv t l (rdS t l s n) := by
  have si := hm.m.si
  have b := rdK_bd (t := t) (l := l) (s := s) hn
  rw [rdS_eq, nt_eq]
  refine iv_note (p := ntP t l s (bif rnB s then mrN t l s else 0) (bif rnB s then s.si else 0) (rdK t l s n)) h rfl ⟨Int.le_refl _, by show 0 ≤ rdK t l s n; omega, ?_, fun h0 => ?_⟩ rfl rfl rfl rfl ?_ ?_ fun h0 => vP_nt h0 hm.m.ps (by omega)
  · show 0 ≤ bif rnB s then s.si else 0
    cases rnB s
    · exact Int.le_refl 0
    · exact si.1
  · show (max 0 (bif rnB s then mrN t l s else 0)).toNat < t.rules.length
    cases q : rnB s with
    | false => exact h.rl h0
    | true =>
      have ru := mr_ok ((rdE_t q).symm.trans he)
      show (max 0 (mrN t l s)).toNat < _; omega
  · have := h.qq
    show suQ s.pc s.pc.length + (bif rnB s then s.si else 0) * max 1 (rdK t l s n) ≤ s.pu - 0
    cases q : rnB s with
    | false => show _ + 0 * _ ≤ _; rw [Int.zero_mul]; omega
    | true =>
      show suQ s.pc s.pc.length + s.si * max 1 (rdK t l s n) ≤ _
      by_cases k : 1 < rdK t l s n
      · have z : s.si = 0 := by have := b.2.2 q k; omega
        rw [z, Int.zero_mul]; omega
      · rw [show max 1 (rdK t l s n) = 1 by omega, Int.mul_one]; omega
  · have := h.tt
    show suT s.pc s.pc.length + rdK t l s n ≤ s.tk + rdK t l s n; omega
theorem iv_tkF {k : Int} (g : Gd t l) (hk : k ≤ 201) : ∀ (f : Nat) (s : Mc) (n : Int), MOk t k s → s.tk + n ≤ 3600 * k → Iv t l s → (tkF t l f s n).2 = 0 → Iv t l (tkF t l f s n).1
  | 0, s, n, _, _, h, _ => h
  | f + 1, s, n, m, hn, h, h0 => by
    unfold tkF at h0 ⊢
    by_cases q : 0 < n
    · rw [decide_eq_true q] at h0 ⊢
      by_cases e : rdE t l s = 0
      · have w := rd_ok g m hk e q hn
        have b := rdK_bd (t := t) (l := l) (s := s) q
        have v := iv_rd (n := n) ⟨g, m.mono hk⟩ h e q
        rw [e] at h0 ⊢
        by_cases c : 1000000000 < mFare t l (rdS t l s n)
        · rw [decide_eq_true c] at h0; cases h0
        · rw [decide_eq_false c] at h0 ⊢
          exact iv_tkF g hk f _ _ w.1 (by rw [w.2]; omega) v h0
      · rw [decide_eq_false e] at h0; exact absurd h0 e
    · rw [decide_eq_false q]; exact h
theorem ex_same {s s' : Mc} (h : Iv t l s) (h1 : s'.pc = s.pc) (h2 : s'.tr = s.tr) (h3 : s'.pu = s.pu) (h4 : s'.si = s.si) (h5 : s'.tk = s.tk) (h6 : s'.ps = s.ps) (h7 : s'.pa = s.pa) : Iv t l s' := by
  refine ⟨?_, ?_, ?_, ?_, ?_, ?_, ?_⟩
  · rw [h1, h2]; exact h.pk
  · rw [h1, h3, h4]; exact h.qq
  · rw [h1, h5]; exact h.tt
  · rw [h1, h2, h6, h7]; exact h.pa
  · rw [h1, h2, h6]; exact h.fr
  · rw [h6]; exact h.rl
  · rw [h1, h2]; exact h.tr
theorem fare_end {s : Mc} (hm : Hm t l s) (h0 : s.ps ≠ 0) (hf : mFare t l s ≤ 1000000000) : mFare t l s = s.st + mxA t s.ex s.ex.length + (bif decide (0 < t.step) then mStp t l s * t.step else 0) := by
  have n := hm.nums
  have st := hm.m.st
  have el := hm.m.exl h0
  have a := mxA_bd hm.g.trf hm.m.ex s.ex.length (by omega)
  by_cases hp : 0 < t.step
  · rw [fare_1 h0 hp] at hf ⊢
    rw [decide_eq_true hp]
    have e : (1000000000 : Int).tdiv t.step = 1000000000 / t.step := Int.tdiv_eq_ediv_of_nonneg (by omega)
    by_cases c : mStp t l s ≤ (1000000000 : Int).tdiv t.step + 1
    · rw [show min (mStp t l s) ((1000000000 : Int).tdiv t.step + 1) = mStp t l s by omega]; rfl
    · exfalso
      rw [show min (mStp t l s) ((1000000000 : Int).tdiv t.step + 1) = (1000000000 : Int).tdiv t.step + 1 by omega, e] at hf
      have b := Int.lt_mul_ediv_self_add (x := 1000000000) hp
      rw [Int.add_mul, Int.one_mul, Int.mul_comm (1000000000 / t.step)] at hf
      omega
  · rw [fare_2 h0 hp, decide_eq_false hp]; show _ = _ + (0 : Int); omega
theorem iv_po {s : Mc} {i p : Int} (hm : Hm t l s) (h : Iv t l s) (hf : mFare t l s ≤ 1000000000) (he : poE t l s i p = 0) : Iv t l (poS t l s i p) := by
  have sm := ch_same t l s
  cases q : goB s.ps p with
  | false => rw [(po_no (t := t) (l := l) (i := i) q).1] at he; cases he
  | true =>
    by_cases e : chE_ t l s = 0
    · have c := iv_ch hm h e
      have hp := go_bd q
      by_cases h0 : s.ps = 0
      · have p0 : p ≠ 0 := by
          unfold goB at q
          rw [show (s.ps == 0) = true by simp [h0]] at q
          have := eq_of_beq (show (p == 1) = true from q); omega
        by_cases r : mrE t l (chS t l s) = 0
        · rw [(po_bg q e h0 r).2]
          have ru := mr_ok r
          have c0 : (chS t l s).ps = 0 := sm.1.trans h0
          have z : ∀ k, k ≤ (chS t l s).pc.length → suV t l (chS t l s).tr.length (chS t l s).pc k = 0 := by
            intro k
            induction k with
            | zero => exact fun _ => rfl
            | succ k ih => intro hk; simp only [suV]; rw [ih (by omega), c.fr c0 k hk]; rfl
          exact ⟨c.pk, c.qq, c.tt, fun _ => z _ (Nat.le_refl _), fun h => absurd h p0, fun _ => by omega, c.tr⟩
        · rw [(po_bgE (i := i) q e h0 r).1] at he; exact absurd he r
      · have c0 : (chS t l s).ps ≠ 0 := by rw [sm.1]; exact h0
        by_cases hz : p = 0
        · rw [(po_ed q e h0 hz).2]
          have e12 := go_end q h0 hz
          have hrn : rnB s = false := rn_f fun q => by rcases rn_iff.1 q with q | q; exact e12.1 q; exact e12.2 q
          have hcg : chgB s = false := by unfold chgB; rw [hrn]; rfl
          have hm' := si_ok hm
          have fe := fare_end hm h0 hf
          have fb := fare_bd hm
          have sb := stp_bd hm
          rw [chS_f hcg] at c ⊢
          have f1 : mFare t l { s with si := 0 } = mFare t l s := by unfold mFare mStp; rfl
          have s1 : mStp t l { s with si := 0 } = mStp t l s := by unfold mStp; rfl
          have tl : (({ s with si := 0 } : Mc).tr ++ [(⟨s.fe, i, s.ad, s.at_, s.st, mStp t l { s with si := 0 }, s.ex, mFare t l { s with si := 0 }⟩ : Mtp)]).length = s.tr.length + 1 := by simp
          refine ⟨fun k hk => ?_, c.qq, c.tt, fun h => absurd hz h, fun _ k hk => ?_, fun h => absurd hz h, fun j hj => ?_⟩
          · have o := h.pk k hk
            exact ⟨by show (s.pc.getD k pc0).tr ≤ ((({ s with si := 0 } : Mc).tr ++ [_]).length : Int); rw [tl]; have := o.tr; omega, o.tk, o.pu, o.ru⟩
          · have o := h.pk k hk
            show inT ((({ s with si := 0 } : Mc).tr ++ [_]).length : Int) (s.pc.getD k pc0) = false
            rw [tl]
            unfold inT
            rw [beq_false_of_ne (by have := o.tr; omega)]; rfl
          · have hj : j < (({ s with si := 0 } : Mc).tr ++ [_]).length := hj
            rw [tl] at hj
            show TrO t l s.pc j ((s.tr ++ [(⟨s.fe, i, s.ad, s.at_, s.st, mStp t l { s with si := 0 }, s.ex, mFare t l { s with si := 0 }⟩ : Mtp)]).getD j mtp0)
            by_cases c1 : j < s.tr.length
            · simp only [List.getD_eq_getElem?_getD]
              rw [List.getElem?_append_left c1]
              have w := h.tr j c1
              simpa only [List.getD_eq_getElem?_getD] using w
            · obtain rfl : j = s.tr.length := by omega
              have ge : (s.tr ++ [(⟨s.fe, i, s.ad, s.at_, s.st, mStp t l { s with si := 0 }, s.ex, mFare t l { s with si := 0 }⟩ : Mtp)]).getD s.tr.length mtp0 = ⟨s.fe, i, s.ad, s.at_, s.st, mStp t l { s with si := 0 }, s.ex, mFare t l { s with si := 0 }⟩ := by simp [List.getD_eq_getElem?_getD]
              rw [ge, f1, s1]
              refine ⟨?_, sb.1, hm.m.exl h0, hm.m.ex, hm.m.st, fe, fb.1, hf⟩
              show mStp t l s = _
              rw [h.pa h0]; unfold mStp; rfl
        · rw [(po_mv (i := i) q e h0 hz).2]
          exact ⟨c.pk, c.qq, c.tt, fun _ => c.pa c0, fun h => absurd h hz, fun _ => c.rl c0, c.tr⟩
    · rw [(po_ch (i := i) q e).1] at he; exact absurd he e
theorem iv_ev (g : Gd t l) {k : Nat} (hk : k < l.ev.length) (h : Iv t l (mcN t l k)) (hf : mFare t l (mcN t l k) ≤ 1000000000) (h0 : mcE t l k = 0) : Iv t l (mcN t l (k + 1)) ∧ mFare t l (mcN t l (k + 1)) ≤ 1000000000 := by
  have hm := mcN_hm g (show k ≤ l.ev.length by omega)
  have mo := mcN_ok g k (by omega)
  have gh := gd_head g.al
  have ee := ev_ok (gh.2.2.2.2 k hk)
  revert h0
  show mcE t l k = 0 → Iv t l (evS_ t l (mcN t l k) k) ∧ mFare t l (evS_ t l (mcN t l k) k) ≤ 1000000000
  unfold mcE evF
  intro h0
  have z1 : isOk (decide (mFare t l (evS_ t l (mcN t l k) k) ≤ 1000000000)) 8 = 0 := firstS_zero h0 _ (by simp)
  refine ⟨?_, of_decide_eq_true (isOk_0 z1 (by decide))⟩
  have hE : evH t l (mcN t l k) k (l.ev.getD k ev0) = 0 := firstS_zero h0 _ (by simp)
  clear h0 z1
  rw [evS_eq]
  generalize hs : mcN t l k = s at *
  generalize l.ev.getD k ev0 = v at *
  by_cases q0 : v.k = 0
  · rw [(evG_0 q0).1]
    have e1 := ee.2.1 q0
    exact ⟨h.pk, by have := h.qq; show suQ s.pc s.pc.length ≤ s.pu + v.n - (s.si + v.n); omega, h.tt, h.pa, h.fr, h.rl, h.tr⟩
  by_cases q1 : v.k = 1
  · rw [(evG_1 q1).1]
    rw [(evG_1 q1).2] at hE
    have w := ee.2.2.1 q1
    have b := mo.tk
    unfold tkS
    unfold tkE at hE
    exact iv_tkF g (k := (k : Int) + 1) (by have := gh.2.2.2.1; omega) _ s v.n (mo.mono (by omega)) (by omega) h hE
  by_cases q2 : v.k = 2
  · rw [(evG_2 q2).1]; rw [(evG_2 q2).2] at hE; exact iv_po hm h hf hE
  by_cases q3 : v.k = 3
  · by_cases c : v.n < t.zones.length
    · rw [(evG_3 q3 c).1]; rw [(evG_3 q3 c).2] at hE
      exact ex_same (iv_ch hm h hE) rfl rfl rfl rfl rfl rfl rfl
    · rw [(evG_3' q3 c).2] at hE; cases hE
  by_cases q4 : v.k = 4
  · rw [(evG_4 q4).1]
    unfold mxU
    cases decide (mxE t s v.n = 0)
    · exact h
    · exact ex_same h rfl rfl rfl rfl rfl rfl rfl
  rw [(evG_5 q0 q1 q2 q3 q4).1]; exact h
theorem mcN_iv (g : Gd t l) (h0 : ∀ j, j < l.ev.length → mcE t l j = 0) : ∀ k, k ≤ l.ev.length → Iv t l (mcN t l k) ∧ mFare t l (mcN t l k) ≤ 1000000000
  | 0, _ => ⟨iv0, by rw [fare_0 (by rfl : (mcN t l 0).ps = 0)]; decide⟩
  | k + 1, hk => by
    have ih := mcN_iv g h0 k (by omega)
    exact iv_ev g (by omega) ih.1 ih.2 (h0 k (by omega))
theorem suQ_le {q : List Pc} {n : Int} (h : ∀ k, k < q.length → PcO t n (q.getD k pc0)) : ∀ i j, i ≤ j → j ≤ q.length → suQ q i ≤ suQ q j ∧ suT q i ≤ suT q j := by
  intro i j hij
  induction j with
  | zero => intro _; have : i = 0 := by omega
            subst this; exact ⟨Int.le_refl _, Int.le_refl _⟩
  | succ j ih =>
    intro hj
    by_cases e : i = j + 1
    · subst e; exact ⟨Int.le_refl _, Int.le_refl _⟩
    · have w := ih (by omega) (by omega)
      have o := h j (by omega)
      have o3 : 0 ≤ (q.getD j pc0).pu * max 1 (q.getD j pc0).tk := Int.mul_nonneg o.pu (by omega)
      have o1 := o.tk
      simp only [suQ, suT]; omega
end
end Go.Fx
