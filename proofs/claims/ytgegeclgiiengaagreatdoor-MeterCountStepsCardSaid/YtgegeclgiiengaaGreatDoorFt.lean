/-
  Counts: their steps; the body of MeterCountSteps.
-/
import Derived.Test.YtgegeclgiiengaaGreatDoorFs

set_option linter.all false

/-
  The steps of counts.
-/
namespace Go.Fx
open Go.Proofs Go.RowKit

structure Cnt where
  r : Int
  p : Int
  s : Int
def cnt0 : Cnt := ⟨0, 0, 0⟩
def cntC (x : Cnt) : List AV := [.int .i64 x.r, .int .i64 x.p, .int .i64 x.s]
def cntS (l : List Cnt) : AV := .slc 3 l.length (fun i j => tbl (cntC (l.getD i cnt0)) j)

theorem firstS_zero : ∀ {l : List Int}, firstS l = 0 → ∀ x ∈ l, x = 0
  | [], _, x, hx => by simp at hx
  | a :: l, h, x, hx => by
    by_cases ha : a = 0
    · simp only [firstS, ha, decide_true, cond_true] at h
      rcases List.mem_cons.1 hx with h1 | h1
      · rw [h1, ha]
      · exact firstS_zero h x h1
    · simp only [firstS, decide_eq_false ha, cond_false] at h
      exact absurd h ha
theorem isOk_0 {b : Bool} {e : Int} (h : isOk b e = 0) (he : e ≠ 0) : b = true := by
  cases b with
  | true => rfl
  | false => exact absurd h he
theorem from_0 (t : Trf) : ∀ (k b : Nat), fromE t b k = 0 → ∀ q, b ≤ q → q < b + k → pE t q = 0
  | 0, b, _, q, h1, h2 => by omega
  | k + 1, b, h, q, h1, h2 => by
    by_cases hb : pE t b = 0
    · simp only [fromE, hb, decide_true, cond_true] at h
      by_cases e : q = b
      · rw [e]; exact hb
      · exact from_0 t k (b + 1) h q (by omega) (by omega)
    · simp only [fromE, decide_eq_false hb, cond_false] at h
      exact absurd h hb
theorem trf_0 {t : Trf} (h : trfE t = 0) : topE t = 0 ∧ ∀ q, q < 5 → pE t q = 0 := by
  unfold trfE at h
  by_cases h0 : topE t = 0
  · rw [h0] at h
    exact ⟨h0, fun q hq => from_0 t 5 0 h q (Nat.zero_le _) (by omega)⟩
  · rw [decide_eq_false h0] at h
    exact absurd h h0
theorem pE_0 {t : Trf} {p : Nat} (h : pE t p = 0) : partN t p ≤ partM p ∧ ∀ j, j < partN t p → partE t p j = 0 := by
  unfold pE at h
  by_cases h0 : partM p < partN t p
  · rw [decide_eq_true h0] at h; cases h
  · rw [decide_eq_false h0] at h
    refine ⟨by omega, fun j hj => ?_⟩
    have := scan_zero (g := partE t p) (d := 0) (l := List.range (partN t p)) h j (by simpa using hj)
    rwa [range_at hj] at this
/-- A right rule; a right tariff. -/
structure ROk (nz : Int) (r : Rul) : Prop where
  fr : 0 ≤ r.fr ∧ r.fr ≤ 100000
  tt : 0 ≤ r.tt ∧ r.tt ≤ 100000
  ord : r.fr ≤ r.tt
  bg : 0 ≤ r.bg ∧ r.bg ≤ 86399
  en : 0 ≤ r.en ∧ r.en ≤ 86400
  st : 0 ≤ r.st ∧ r.st ≤ 100000
  me : 0 ≤ r.me ∧ r.me ≤ 1000000
  se : 0 ≤ r.se ∧ r.se ≤ 1000000
theorem and_t {a b : Bool} (h : (bif a then b else false) = true) : a = true ∧ b = true := by cases a <;> cases b <;> simp_all
theorem rule_0 {nz : Int} {r : Rul} (h : ruleE nz r = 0) : ROk nz r := by
  unfold ruleE at h
  have z := firstS_zero h
  have z0 := and_t (isOk_0 (z _ (by simp)) (e := 2) (b := bif inB r.fr 0 100000 then inB r.tt 0 100000 else false) (by decide))
  have z1 := isOk_0 (b := decide (r.fr ≤ r.tt)) (e := 9) (z _ (by simp)) (by decide)
  have z5 := and_t (isOk_0 (b := bif (bif inB r.bg 0 86399 then inB r.en 0 86400 else false) then (bif (bif inB r.st 0 100000 then inB r.me 0 1000000 else false) then inB r.se 0 1000000 else false) else false) (e := 2) (z _ (by simp)) (by decide))
  have z6 := and_t z5.1
  have z7 := and_t z5.2
  have z8 := and_t z7.1
  exact ⟨inB_iff.1 z0.1, inB_iff.1 z0.2, of_decide_eq_true z1, inB_iff.1 z6.1, inB_iff.1 z6.2, inB_iff.1 z8.1, inB_iff.1 z8.2, inB_iff.1 z7.2⟩
theorem trf_rule {t : Trf} (h : trfE t = 0) {k : Nat} (hk : k < t.rules.length) : ROk t.zones.length (t.rules.getD k rul0) := by
  have h1 : ruliE t k = 0 := (pE_0 ((trf_0 h).2 2 (by decide))).2 k hk
  unfold ruliE at h1
  cases b1 : nameB (t.rules.getD k rul0).name <;> rw [b1] at h1
  · cases h1
  · cases b2 : (List.range k).any (fun j => decide ((t.rules.getD j rul0).name = (t.rules.getD k rul0).name)) <;> rw [b2] at h1
    · exact rule_0 h1
    · cases h1
theorem trf_unit {t : Trf} (h : trfE t = 0) : (1 ≤ t.unit ∧ t.unit ≤ 999999999) ∧ (0 ≤ t.step ∧ t.step ≤ 100000) := by
  have h0 := (trf_0 h).1
  unfold topE at h0
  cases b1 : nameB t.name <;> cases b2 : inB t.unit 1 999999999 <;> cases b3 : inB t.step 0 100000 <;> rw [b1, b2, b3] at h0 <;> first | (cases h0; done) | exact ⟨inB_iff.1 b2, inB_iff.1 b3⟩

def wOf (t : Trf) (c : Int) (x : Cnt) : Int := 1000 * (t.rules.getD x.r.toNat rul0).me * x.p + c * (t.rules.getD x.r.toNat rul0).se * x.s
def befC (l : List Cnt) (i : Nat) : Int := match i with | 0 => -1 | i + 1 => (l.getD i cnt0).r
@[irreducible] def cntE (t : Trf) (l : List Cnt) (i : Nat) : Int := firstS [isOk (inB (l.getD i cnt0).r 0 (t.rules.length - 1)) 6, isOk (decide (befC l i < (l.getD i cnt0).r)) 9, isOk (bif inB (l.getD i cnt0).p 0 20000000 then inB (l.getD i cnt0).s 0 1000000 else false) 2]
def accW (t : Trf) (c : Int) (l : List Cnt) : Nat → Int
  | 0 => 0
  | i + 1 => accW t c l i + wOf t c (l.getD i cnt0)
def stepH (t : Trf) (c : Int) (n : Nat) : Int := firstS [trfE t, isOk (inB c 1 100000) 2, isOk (decide ((n : Int) ≤ 12)) 8]
@[irreducible] def stepE (t : Trf) (c : Int) (l : List Cnt) : Int := bif decide (stepH t c l.length = 0) then scanE (cntE t l) (List.range l.length) else stepH t c l.length
@[irreducible] def stepN (t : Trf) (c : Int) (l : List Cnt) : Int := bif decide (stepE t c l = 0) then (accW t c l l.length).tdiv (t.unit * c) else 0
theorem step_bad {t : Trf} {c : Int} {l : List Cnt} {e : Int} (h : stepE t c l = e) (h0 : e ≠ 0) : stepN t c l = 0 := by unfold stepN; rw [h, decide_eq_false h0]; rfl
theorem step_ok {t : Trf} {c : Int} {l : List Cnt} (h : stepE t c l = 0) : stepN t c l = (accW t c l l.length).tdiv (t.unit * c) := by unfold stepN; rw [h]; rfl
theorem step_h {t : Trf} {c : Int} {l : List Cnt} {e : Int} (h : stepH t c l.length = e) (h0 : e ≠ 0) : stepE t c l = e ∧ stepN t c l = 0 := by
  have : stepE t c l = e := by unfold stepE; rw [h, decide_eq_false h0]; rfl
  exact ⟨this, step_bad this h0⟩
theorem step_hit {t : Trf} {c : Int} {l : List Cnt} (h : stepH t c l.length = 0) {i : Nat} (hi : i < l.length) (h0 : ∀ j, j < i → cntE t l j = 0) {e : Int} (he : cntE t l i = e) (hne : e ≠ 0) : stepE t c l = e ∧ stepN t c l = 0 := by
  have w := scan_hit (g := cntE t l) (d := 0) (l := List.range l.length) (i := i) (by simpa using hi) (fun j hj => by rw [range_at (by omega)]; exact h0 j hj) (by rw [range_at hi, he]; exact hne)
  have : stepE t c l = e := by unfold stepE; rw [h, w.1, range_at hi, he]; rfl
  exact ⟨this, step_bad this hne⟩
theorem step_none {t : Trf} {c : Int} {l : List Cnt} (h : stepH t c l.length = 0) (h0 : ∀ j, j < l.length → cntE t l j = 0) : stepE t c l = 0 ∧ stepN t c l = (accW t c l l.length).tdiv (t.unit * c) := by
  have w := scan_none (g := cntE t l) (d := 0) (l := List.range l.length) (fun j hj => by rw [range_at (by simpa using hj)]; exact h0 j (by simpa using hj))
  have : stepE t c l = 0 := by unfold stepE; rw [h, w.1]; rfl
  exact ⟨this, step_ok this⟩
/-- What is known of a right count. -/
structure COk (t : Trf) (c : Int) (x : Cnt) : Prop where
  r : 0 ≤ x.r ∧ x.r < t.rules.length
  m1 : 0 ≤ 1000 * (t.rules.getD x.r.toNat rul0).me ∧ 1000 * (t.rules.getD x.r.toNat rul0).me ≤ 1000000000
  m2 : 0 ≤ 1000 * (t.rules.getD x.r.toNat rul0).me * x.p ∧ 1000 * (t.rules.getD x.r.toNat rul0).me * x.p ≤ 1000000000 * 20000000
  s1 : 0 ≤ c * (t.rules.getD x.r.toNat rul0).se ∧ c * (t.rules.getD x.r.toNat rul0).se ≤ 100000 * 1000000
  s2 : 0 ≤ c * (t.rules.getD x.r.toNat rul0).se * x.s ∧ c * (t.rules.getD x.r.toNat rul0).se * x.s ≤ 100000 * 1000000 * 1000000
theorem c_ok {t : Trf} {c : Int} {l : List Cnt} {i : Nat} (ht : trfE t = 0) (hc : 1 ≤ c ∧ c ≤ 100000) (h : cntE t l i = 0) : COk t c (l.getD i cnt0) := by
  unfold cntE at h
  have z := firstS_zero h
  have z0 := inB_iff.1 (isOk_0 (b := inB (l.getD i cnt0).r 0 (t.rules.length - 1)) (e := 6) (z _ (by simp)) (by decide))
  have z2 := and_t (isOk_0 (b := bif inB (l.getD i cnt0).p 0 20000000 then inB (l.getD i cnt0).s 0 1000000 else false) (e := 2) (z _ (by simp)) (by decide))
  have z3 := inB_iff.1 z2.1
  have z4 := inB_iff.1 z2.2
  have hr := trf_rule ht (k := (l.getD i cnt0).r.toNat) (by omega)
  have hm := hr.me
  have hse := hr.se
  have m1 : 0 ≤ 1000 * (t.rules.getD (l.getD i cnt0).r.toNat rul0).me ∧ 1000 * (t.rules.getD (l.getD i cnt0).r.toNat rul0).me ≤ 1000000000 := by omega
  have s1 := mul_bd (A := 100000) (B := 1000000) (show 0 ≤ c by omega) hc.2 hse.1 hse.2
  exact ⟨by omega, m1, mul_bd m1.1 m1.2 z3.1 z3.2, s1, mul_bd s1.1 s1.2 z4.1 z4.2⟩
theorem quo_bd {a d B : Int} (h0 : 0 ≤ a) (h1 : a ≤ B) (hd : 0 < d) : 0 ≤ a.tdiv d ∧ a.tdiv d ≤ B := by
  rw [Int.tdiv_eq_ediv_of_nonneg h0]
  exact ⟨Int.ediv_nonneg h0 (by omega), Int.le_trans (Int.ediv_le_self d h0) h1⟩
theorem acc_bd {t : Trf} {c : Int} {l : List Cnt} (ht : trfE t = 0) (hc : 1 ≤ c ∧ c ≤ 100000) : ∀ (i : Nat), (∀ j, j < i → cntE t l j = 0) → 0 ≤ accW t c l i ∧ accW t c l i ≤ 120000000000000000 * i
  | 0, _ => by simp [accW]
  | i + 1, h => by
    have ih := acc_bd ht hc i fun j hj => h j (by omega)
    have w := c_ok ht hc (h i (by omega))
    have h1 := w.m2; have h2 := w.s2
    simp only [accW, wOf]
    omega

theorem bef_eq {t : Trf} {l : List Cnt} {i : Nat} (h : (!inB (l.getD (i : Int).toNat cnt0).r 0 (t.rules.length - 1)) = false) : decide (befC l i < (l.getD i cnt0).r) = !(bif decide (0 < (i : Int)) then decide ((l.getD (i : Int).toNat cnt0).r ≤ (l.getD ((i : Int) - 1).toNat cnt0).r) else false) := by
  simp only [Int.toNat_natCast] at h ⊢
  simp only [Bool.not_eq_false'] at h
  have hb := inB_iff.1 h
  cases i with
  | zero =>
    have e : befC l 0 < (l.getD 0 cnt0).r := by show -1 < (l.getD 0 cnt0).r; have := hb.1; omega
    rw [decide_eq_true e, decide_eq_false (show ¬ (0 : Int) < ((0 : Nat) : Int) by decide)]; rfl
  | succ k =>
    rw [decide_eq_true (show 0 < ((k + 1 : Nat) : Int) by omega), show (((k + 1 : Nat) : Int) - 1).toNat = k by omega]
    by_cases c : befC l (k + 1) < (l.getD (k + 1) cnt0).r
    · have d : (l.getD k cnt0).r < (l.getD (k + 1) cnt0).r := c
      rw [decide_eq_true c, cond_true, decide_eq_false (by omega)]; rfl
    · have d : ¬ (l.getD k cnt0).r < (l.getD (k + 1) cnt0).r := c
      rw [decide_eq_false c, cond_true, decide_eq_true (by omega)]; rfl
theorem cnt_6 {t : Trf} {l : List Cnt} {i : Nat} (h : (!inB (l.getD (i : Int).toNat cnt0).r 0 (t.rules.length - 1)) = true) : cntE t l i = 6 := by
  simp only [Int.toNat_natCast, Bool.not_eq_true'] at h
  unfold cntE; rw [h]; rfl
theorem cnt_9 {t : Trf} {l : List Cnt} {i : Nat} (h : (!inB (l.getD (i : Int).toNat cnt0).r 0 (t.rules.length - 1)) = false) (h9 : (bif decide (0 < (i : Int)) then decide ((l.getD (i : Int).toNat cnt0).r ≤ (l.getD ((i : Int) - 1).toNat cnt0).r) else false) = true) : cntE t l i = 9 := by
  have hb := bef_eq h
  simp only [Int.toNat_natCast, Bool.not_eq_false'] at h
  unfold cntE; rw [h, hb, h9]; rfl
theorem cnt_2 {t : Trf} {l : List Cnt} {i : Nat} (h : (!inB (l.getD (i : Int).toNat cnt0).r 0 (t.rules.length - 1)) = false) (h9 : (bif decide (0 < (i : Int)) then decide ((l.getD (i : Int).toNat cnt0).r ≤ (l.getD ((i : Int) - 1).toNat cnt0).r) else false) = false) (h2 : (bif !inB (l.getD (i : Int).toNat cnt0).p 0 20000000 then true else !inB (l.getD (i : Int).toNat cnt0).s 0 1000000) = true) : cntE t l i = 2 := by
  have hb := bef_eq h
  simp only [Int.toNat_natCast, Bool.not_eq_false'] at h h2
  unfold cntE; rw [h, hb, h9]
  cases c1 : inB (l.getD i cnt0).p 0 20000000 <;> cases c2 : inB (l.getD i cnt0).s 0 1000000 <;> rw [c1, c2] at h2 <;> first | rfl | cases h2
theorem cnt_0 {t : Trf} {l : List Cnt} {i : Nat} (h : (!inB (l.getD (i : Int).toNat cnt0).r 0 (t.rules.length - 1)) = false) (h9 : (bif decide (0 < (i : Int)) then decide ((l.getD (i : Int).toNat cnt0).r ≤ (l.getD ((i : Int) - 1).toNat cnt0).r) else false) = false) (h2 : (bif !inB (l.getD (i : Int).toNat cnt0).p 0 20000000 then true else !inB (l.getD (i : Int).toNat cnt0).s 0 1000000) = false) : cntE t l i = 0 := by
  have hb := bef_eq h
  simp only [Int.toNat_natCast, Bool.not_eq_false'] at h h2
  unfold cntE; rw [h, hb, h9]
  cases c1 : inB (l.getD i cnt0).p 0 20000000 <;> cases c2 : inB (l.getD i cnt0).s 0 1000000 <;> rw [c1, c2] at h2 <;> first | rfl | cases h2
section
variable {W0 : World} {G : Nat → Option AV} (hX : (Xc W0 G).Good)
include hX
theorem c25 (t : Trf) (c : Int) (l : List Cnt) (hs : Side (TOk t)) (hl : Side (l.length ≤ 1000)) : Pure (Xc W0 G) 25 [trfA t, .int .i64 c, cntS l] (.tup 2 (tbl [.int .i64 (stepN t c l), .int .i64 (stepE t c l)])) := by
  have ok := hs.get
  have hl := hl.get
  have kr := ok.rules
  refine mut_of' hX (show FnIs (Xc W0 G) 25 Tryz.f25 (codeOf Tryz.f25) from ⟨by kernel_rfl, by kernel_rfl, by kernel_rfl, by kernel_rfl⟩) rfl ?_
  repeat' (first
    | ((with_reducible refine (?_ : Alt _ _)); first | (with_reducible apply callAlt (c66 hX t hs)) | (with_reducible apply callAlt (c67 hX _)) | (with_reducible apply callAlt (c48 hX _ _)) | (with_reducible apply callAlt (c47t hX _ _ _)) | (with_reducible refine Alt.one ?_))
    | ((with_reducible refine (?_ : AllLe _ _)); first | exact ⟨le_slc3 rfl rfl rfl, trivial⟩ | (first | exact AllLe.refl _ | (repeat' (first | exact trivial | apply Le.aggs | apply Le.tups | apply Le.fns | exact Le.refl _ | refine ⟨?_, ?_⟩))))
    | ((with_reducible refine (?_ : Sc _ (AllRen _ _ _))); refine Sc.of ?_; first | (repeat' (first | exact trivial | apply Le.aggs | apply Le.tups | apply Le.fns | exact Le.refl _ | refine ⟨?_, ?_⟩)))
    | ((with_reducible refine (?_ : (List.all _ _) = true)); rfl)
    | ((with_reducible refine (?_ : (and _ _) = true)); rfl)
    | ((with_reducible refine (?_ : List.Nodup _)); exact nodupB_spec rfl)
    | ((with_reducible refine (?_ : @Eq Nat _ _)); rfl)
    | ((with_reducible refine (?_ : LeOks _ _ _)); first | exact trivial | exact ⟨.refl _, trivial⟩ | exact ⟨.refl _, .refl _, trivial⟩)
    | ((fail_if_success with_reducible refine (?_ : False)); (fail_if_success with_reducible refine (?_ : Nat)); (fail_if_success with_reducible refine (?_ : Nat → Nat → AV)); (fail_if_success with_reducible refine (?_ : Sc _ _)); (fail_if_success with_reducible refine (?_ : Side _)); (fail_if_success with_reducible refine (?_ : Exists _)); (fail_if_success with_reducible refine (?_ : Ends _ _ _ _ _ _ _)); (fail_if_success with_reducible refine (?_ : Alt _ _)); (fail_if_success with_reducible refine (?_ : Le _ _)); (fail_if_success with_reducible refine (?_ : LeAll _ _ _)); (first | with_reducible refine And.intro ?_ ?_ | with_reducible refine Cut.go ?_ | (with_reducible (refine impI ?_; intro _)) | (with_reducible refine (?_ : footOK _ _ = true); kernel_rfl) | ((with_reducible refine propI ?_); conv => whnf))))
  all_goals try (exact .of (Nat.le_of_ble_eq_true rfl))
  all_goals (rename_i h)
  · have h : stepH t c l.length ≠ 0 := bne_iff_ne.1 h
    have w := step_h (l := l) rfl h
    exact .mk [] [] _ rfl (.le (.tups ⟨⟨trivial, .intI w.2.symm⟩, .intI w.1.symm⟩)) trivial rfl
  · have hh : stepH t c l.length = 0 := bne_eq_false_iff_eq.1 h
    have z := firstS_zero hh
    have ht : trfE t = 0 := z _ (by simp)
    have hc := inB_iff.1 (isOk_0 (b := inB c 1 100000) (e := 2) (z _ (by simp)) (by decide))
    have hn := of_decide_eq_true (isOk_0 (b := decide ((l.length : Int) ≤ 12)) (e := 8) (z _ (by simp)) (by decide))
    have hu := (trf_unit ht).1
    refine ⟨Nat, fun i => ([(1, .int .i64 c), (3, .ptr 0 0), (10, .int .i64 (accW t c l i)), (11, .int .i64 (befC l i)), (33, cntS l), (34, .int .i64 l.length), (35, .int .i64 i)], [.box (trfC t)]), fun i => i ≤ l.length ∧ ∀ j, j < i → cntE t l j = 0, fun i => l.length - i, ⟨0, ⟨Nat.zero_le _, fun _ h => by omega⟩, .le ⟨rfl, ⟨.refl _, trivial⟩, ⟨.refl _, .refl _, .refl _, .refl _, .refl _, .refl _, .refl _, trivial⟩⟩⟩, fun i ⟨hi, h0⟩ => ?_⟩
    have hb := acc_bd ht hc i h0
    repeat' (first
      | ((with_reducible refine (?_ : Alt _ _)); first | (with_reducible apply callAlt (c49 hX _ _ _)) | (with_reducible apply callAlt (c48 hX _ _)) | (with_reducible apply callAlt (c47t hX _ _ _)) | (with_reducible refine Alt.one ?_))
      | ((with_reducible refine (?_ : AllLe _ _)); first | exact ⟨le_slc3 rfl rfl rfl, trivial⟩ | (first | exact AllLe.refl _ | (repeat' (first | exact trivial | apply Le.aggs | apply Le.tups | apply Le.fns | exact Le.refl _ | refine ⟨?_, ?_⟩))))
      | ((with_reducible refine (?_ : Sc _ (AllRen _ _ _))); refine Sc.of ?_; first | (repeat' (first | exact trivial | apply Le.aggs | apply Le.tups | apply Le.fns | exact Le.refl _ | refine ⟨?_, ?_⟩)))
      | ((with_reducible refine (?_ : (List.all _ _) = true)); rfl)
      | ((with_reducible refine (?_ : (and _ _) = true)); rfl)
      | ((with_reducible refine (?_ : List.Nodup _)); exact nodupB_spec rfl)
      | ((with_reducible refine (?_ : @Eq Nat _ _)); rfl)
      | ((with_reducible refine (?_ : LeOks _ _ _)); first | exact trivial | exact ⟨.refl _, trivial⟩ | exact ⟨.refl _, .refl _, trivial⟩)
      | ((fail_if_success with_reducible refine (?_ : False)); (fail_if_success with_reducible refine (?_ : Nat)); (fail_if_success with_reducible refine (?_ : Nat → Nat → AV)); (fail_if_success with_reducible refine (?_ : Sc _ _)); (fail_if_success with_reducible refine (?_ : Side _)); (fail_if_success with_reducible refine (?_ : Exists _)); (fail_if_success with_reducible refine (?_ : Ends _ _ _ _ _ _ _)); (fail_if_success with_reducible refine (?_ : Alt _ _)); (fail_if_success with_reducible refine (?_ : Le _ _)); (fail_if_success with_reducible refine (?_ : LeAll _ _ _)); (first | with_reducible refine And.intro ?_ ?_ | with_reducible refine Cut.go ?_ | (with_reducible (refine impI ?_; intro _)) | (with_reducible refine (?_ : footOK _ _ = true); kernel_rfl) | ((with_reducible refine propI ?_); conv => whnf))))
    all_goals try (exact .of (Nat.le_of_ble_eq_true rfl))
    all_goals try (rename_i q1; have q1 := of_decide_eq_true q1; exact .of ⟨by omega, by omega⟩)
    all_goals try (rename_i q1 q2; have q1 := of_decide_eq_true q1; first
        | (have hne : cntE t l i ≠ 0 := by unfold cntE; exact bne_iff_ne.1 q2
           have w := step_hit hh (by omega) h0 rfl hne
           exact .mk [] [] _ rfl (.le (.tups ⟨⟨trivial, .intI w.2.symm⟩, .intI (by rw [w.1]; unfold cntE; rfl)⟩)) trivial rfl)
        | (have hz : cntE t l i = 0 := by unfold cntE; exact bne_eq_false_iff_eq.1 q2
           have ck := c_ok ht hc hz
           have r1 := ck.r; have r2 := ck.m1; have r3 := ck.m2; have r4 := ck.s1; have r5 := ck.s2
           first
             | exact ⟨i + 1, ⟨by omega, all_lt h0 hz⟩, by show l.length - (i + 1) < l.length - i; omega, .le ⟨rfl, ⟨.refl _, trivial⟩, ⟨.refl _, .refl _, .refl _, .refl _, .refl _, .refl _, .refl _, trivial⟩⟩⟩
             | (refine Sc.of ?_; (try simp only [Int.toNat_natCast]); exact ⟨by omega, by omega⟩)))
    all_goals (rename_i q1; have q1 := of_decide_eq_false q1; obtain rfl : i = l.length := by omega)
    all_goals (have du := mul_bd (A := 999999999) (B := 100000) (by omega) hu.2 (by omega) hc.2; have dp := Int.mul_pos (show 0 < t.unit by omega) (show 0 < c by omega); have qb := quo_bd hb.1 hb.2 dp)
    all_goals first
      | exact .of ⟨by omega, by omega⟩
      | exact .of (by omega)
      | (have w := step_none hh h0
         exact .mk [] [] _ rfl (.le (.tups ⟨⟨trivial, .intI w.2.symm⟩, .intI w.1.symm⟩)) trivial rfl)
theorem c27 (t : Trf) (c : Int) (l : List Cnt) (hs : Side (TOk t)) (hl : Side (l.length ≤ 1000)) : Pure (Xc W0 G) 27 [trfA t, .int .i64 c, cntS l] (.tup 2 (tbl [.int .i64 (stepN t c l), .int .i64 (stepE t c l)])) := by
  have ok := hs.get
  have hl := hl.get
  have kr := ok.rules
  refine mut_of' hX (show FnIs (Xc W0 G) 27 Tryz.f27 (codeOf Tryz.f27) from ⟨by kernel_rfl, by kernel_rfl, by kernel_rfl, by kernel_rfl⟩) rfl ?_
  repeat' (first
    | ((with_reducible refine (?_ : Alt _ _)); first | (with_reducible apply callAlt (c68 hX t hs)) | (with_reducible apply callAlt (c38 hX _)) | (with_reducible refine Alt.one ?_))
    | ((with_reducible refine (?_ : AllLe _ _)); first | (first | exact AllLe.refl _ | (repeat' (first | exact trivial | apply Le.aggs | apply Le.tups | apply Le.fns | exact Le.refl _ | refine ⟨?_, ?_⟩))))
    | ((with_reducible refine (?_ : Sc _ (AllRen _ _ _))); refine Sc.of ?_; first | (repeat' (first | exact trivial | apply Le.aggs | apply Le.tups | apply Le.fns | exact Le.refl _ | refine ⟨?_, ?_⟩)))
    | ((with_reducible refine (?_ : (List.all _ _) = true)); rfl)
    | ((with_reducible refine (?_ : (and _ _) = true)); rfl)
    | ((with_reducible refine (?_ : List.Nodup _)); exact nodupB_spec rfl)
    | ((with_reducible refine (?_ : @Eq Nat _ _)); rfl)
    | ((with_reducible refine (?_ : LeOks _ _ _)); first | exact trivial | exact ⟨.refl _, trivial⟩ | exact ⟨.refl _, .refl _, trivial⟩)
    | ((fail_if_success with_reducible refine (?_ : False)); (fail_if_success with_reducible refine (?_ : Nat)); (fail_if_success with_reducible refine (?_ : Nat → Nat → AV)); (fail_if_success with_reducible refine (?_ : Sc _ _)); (fail_if_success with_reducible refine (?_ : Side _)); (fail_if_success with_reducible refine (?_ : Exists _)); (fail_if_success with_reducible refine (?_ : Ends _ _ _ _ _ _ _)); (fail_if_success with_reducible refine (?_ : Alt _ _)); (fail_if_success with_reducible refine (?_ : Le _ _)); (fail_if_success with_reducible refine (?_ : LeAll _ _ _)); (first | with_reducible refine And.intro ?_ ?_ | with_reducible refine Cut.go ?_ | (with_reducible (refine impI ?_; intro _)) | (with_reducible refine (?_ : footOK _ _ = true); kernel_rfl) | ((with_reducible refine propI ?_); conv => whnf))))
  all_goals try (exact .of (Nat.le_of_ble_eq_true rfl))
  all_goals (rename_i hx)
  · have hx := bne_iff_ne.1 hx
    have w := step_h (l := l) (show stepH t c l.length = trfE t by unfold stepH; simp only [firstS, decide_eq_false hx, cond_false]) hx
    exact .mk [] [] _ rfl (.le (.tups ⟨⟨trivial, .intI w.2.symm⟩, .intI w.1.symm⟩)) trivial rfl
  · rename_i ht; have ht : trfE t = 0 := bne_eq_false_iff_eq.1 ht
    have hx : isOk (inB c 1 100000) 2 ≠ 0 := bne_iff_ne.1 hx
    have w := step_h (l := l) (show stepH t c l.length = isOk (inB c 1 100000) 2 by unfold stepH; simp only [firstS, ht, decide_true, cond_true, decide_eq_false hx, cond_false]) hx
    exact .mk [] [] _ rfl (.le (.tups ⟨⟨trivial, .intI w.2.symm⟩, .intI w.1.symm⟩)) trivial rfl
  · rename_i ht hc; have ht : trfE t = 0 := bne_eq_false_iff_eq.1 ht
    have hc : isOk (inB c 1 100000) 2 = 0 := bne_eq_false_iff_eq.1 hc
    have hx := of_decide_eq_true hx
    have w := step_h (l := l) (show stepH t c l.length = 8 by unfold stepH; simp only [firstS, ht, hc, decide_true, cond_true, decide_eq_false (show ¬ (l.length : Int) ≤ 12 by omega)]; rfl) (by decide)
    exact .mk [] [] _ rfl (.le (.tups ⟨⟨trivial, .intI w.2.symm⟩, .intI w.1.symm⟩)) trivial rfl
  · rename_i ht hc; have ht : trfE t = 0 := bne_eq_false_iff_eq.1 ht
    have hc : isOk (inB c 1 100000) 2 = 0 := bne_eq_false_iff_eq.1 hc
    have hn := of_decide_eq_false hx
    have hh : stepH t c l.length = 0 := by unfold stepH; simp only [firstS, ht, hc, decide_true, cond_true, decide_eq_true (show (l.length : Int) ≤ 12 by omega)]; rfl
    have hc := inB_iff.1 (isOk_0 (b := inB c 1 100000) (e := 2) hc (by decide))
    have hu := (trf_unit ht).1
    refine ⟨Nat, fun i => ([(1, .int .i64 c), (2, cntS l), (3, .ptr 0 0), (10, .int .i64 (accW t c l i)), (11, .int .i64 i)], [.box (trfC t)]), fun i => i ≤ l.length ∧ ∀ j, j < i → cntE t l j = 0, fun i => l.length - i, ⟨0, ⟨Nat.zero_le _, fun _ h => by omega⟩, .le ⟨rfl, ⟨.refl _, trivial⟩, ⟨.refl _, .refl _, .refl _, .refl _, .refl _, trivial⟩⟩⟩, fun i ⟨hi, h0⟩ => ?_⟩
    have hb := acc_bd ht hc i h0
    repeat' (first
      | ((with_reducible refine (?_ : Alt _ _)); first | (with_reducible apply callAlt (c13 hX _ _ _)) | (with_reducible refine Alt.one ?_))
      | ((with_reducible refine (?_ : AllLe _ _)); first | (first | exact AllLe.refl _ | (repeat' (first | exact trivial | apply Le.aggs | apply Le.tups | apply Le.fns | exact Le.refl _ | refine ⟨?_, ?_⟩))))
      | ((with_reducible refine (?_ : Sc _ (AllRen _ _ _))); refine Sc.of ?_; first | (repeat' (first | exact trivial | apply Le.aggs | apply Le.tups | apply Le.fns | exact Le.refl _ | refine ⟨?_, ?_⟩)))
      | ((with_reducible refine (?_ : (List.all _ _) = true)); rfl)
      | ((with_reducible refine (?_ : (and _ _) = true)); rfl)
      | ((with_reducible refine (?_ : List.Nodup _)); exact nodupB_spec rfl)
      | ((with_reducible refine (?_ : @Eq Nat _ _)); rfl)
      | ((with_reducible refine (?_ : LeOks _ _ _)); first | exact trivial | exact ⟨.refl _, trivial⟩ | exact ⟨.refl _, .refl _, trivial⟩)
      | ((fail_if_success with_reducible refine (?_ : False)); (fail_if_success with_reducible refine (?_ : Nat)); (fail_if_success with_reducible refine (?_ : Nat → Nat → AV)); (fail_if_success with_reducible refine (?_ : Sc _ _)); (fail_if_success with_reducible refine (?_ : Side _)); (fail_if_success with_reducible refine (?_ : Exists _)); (fail_if_success with_reducible refine (?_ : Ends _ _ _ _ _ _ _)); (fail_if_success with_reducible refine (?_ : Alt _ _)); (fail_if_success with_reducible refine (?_ : Le _ _)); (fail_if_success with_reducible refine (?_ : LeAll _ _ _)); (first | with_reducible refine And.intro ?_ ?_ | with_reducible refine Cut.go ?_ | (with_reducible (refine impI ?_; intro _)) | (with_reducible refine (?_ : footOK _ _ = true); kernel_rfl) | ((with_reducible refine propI ?_); conv => whnf))))
    all_goals try (exact .of (Nat.le_of_ble_eq_true rfl))
    all_goals try (exact .of (Nat.le_of_ble_eq_true rfl))
    all_goals try (rename_i q1; have q1 := of_decide_eq_true q1; exact .of ⟨by omega, by omega⟩)
    all_goals try (rename_i q1; have q1 := of_decide_eq_true q1; exact .of (by unfold inK; exact ⟨by omega, by omega⟩))
    all_goals try (rename_i q1 q2; have q1 := of_decide_eq_true q1; first
        | (have w := step_hit hh (by omega) h0 (cnt_6 q2) (by decide)
           exact .mk [] [] _ rfl (.le (.tups ⟨⟨trivial, .intI w.2.symm⟩, .intI w.1.symm⟩)) trivial rfl)
        | (refine Sc.imp fun g => ?_; have g := of_decide_eq_true g; exact ⟨by omega, by omega⟩))
    all_goals try (rename_i q1 q2 q3; have q1 := of_decide_eq_true q1; first
        | (have w := step_hit hh (by omega) h0 (cnt_9 q2 q3) (by decide)
           exact .mk [] [] _ rfl (.le (.tups ⟨⟨trivial, .intI w.2.symm⟩, .intI w.1.symm⟩)) trivial rfl)
        | exact .of ⟨by omega, by omega⟩
        | exact Sc.imp fun _ => ⟨by omega, by omega⟩)
    all_goals try (rename_i q1 q2 q3 q4; have q1 := of_decide_eq_true q1; first
        | (have w := step_hit hh (by omega) h0 (cnt_2 q2 q3 q4) (by decide)
           exact .mk [] [] _ rfl (.le (.tups ⟨⟨trivial, .intI w.2.symm⟩, .intI w.1.symm⟩)) trivial rfl)
        | (have hz : cntE t l i = 0 := cnt_0 q2 q3 q4
           have ck := c_ok ht hc hz
           have r1 := ck.r; have r2 := ck.m1; have r3 := ck.m2; have r4 := ck.s1; have r5 := ck.s2
           first
             | exact ⟨i + 1, ⟨by omega, all_lt h0 hz⟩, by show l.length - (i + 1) < l.length - i; omega, .le ⟨rfl, ⟨.refl _, trivial⟩, ⟨.refl _, .refl _, .refl _, .intI (by simp only [accW, wOf, Int.toNat_natCast]; omega), .refl _, trivial⟩⟩⟩
             | exact ⟨i + 1, ⟨by omega, all_lt h0 hz⟩, by show l.length - (i + 1) < l.length - i; omega, .le ⟨rfl, ⟨.refl _, trivial⟩, ⟨.refl _, .refl _, .refl _, .refl _, .refl _, trivial⟩⟩⟩
             | (refine Sc.of ?_; (try simp only [Int.toNat_natCast]); exact ⟨by omega, by omega⟩)))
    all_goals (rename_i q1; have q1 := of_decide_eq_false q1; obtain rfl : i = l.length := by omega)
    all_goals (have du := mul_bd (A := 999999999) (B := 100000) (by omega) hu.2 (by omega) hc.2; have dp := Int.mul_pos (show 0 < t.unit by omega) (show 0 < c by omega); have qb := quo_bd hb.1 hb.2 dp)
    all_goals first
      | exact .of ⟨by omega, by omega⟩
      | exact .of (by omega)
      | (have w := step_none hh h0
         exact .mk [] [] _ rfl (.le (.tups ⟨⟨trivial, .intI w.2.symm⟩, .intI w.1.symm⟩)) trivial rfl)
end
end Go.Fx

/-
  Copies of counts.
-/
namespace Go.Fx
open Go.Proofs Go.RowKit
section
variable {W0 : World} {G : Nat → Option AV} (hX : (Xc W0 G).Good)
include hX
theorem c26 (l : List Cnt) (hs : Side (l.length ≤ 1000)) : Pure (Xc W0 G) 26 [cntS l] (cntS l) := by
  have hs := hs.get
  refine mut_of' hX (show FnIs (Xc W0 G) 26 Tryz.f26 (codeOf Tryz.f26) from ⟨by kernel_rfl, by kernel_rfl, by kernel_rfl, by kernel_rfl⟩) rfl ?_
  repeat' (first
    | ((with_reducible refine (?_ : Alt _ _)); first | fail | (with_reducible refine Alt.one ?_))
    | ((with_reducible refine (?_ : AllLe _ _)); first | (first | exact AllLe.refl _ | (repeat' (first | exact trivial | apply Le.aggs | apply Le.tups | apply Le.fns | exact Le.refl _ | refine ⟨?_, ?_⟩))))
    | ((with_reducible refine (?_ : Sc _ (AllRen _ _ _))); refine Sc.of ?_; first | (repeat' (first | exact trivial | apply Le.aggs | apply Le.tups | apply Le.fns | exact Le.refl _ | refine ⟨?_, ?_⟩)))
    | ((with_reducible refine (?_ : (List.all _ _) = true)); rfl)
    | ((with_reducible refine (?_ : (and _ _) = true)); rfl)
    | ((with_reducible refine (?_ : List.Nodup _)); exact nodupB_spec rfl)
    | ((with_reducible refine (?_ : @Eq Nat _ _)); rfl)
    | ((with_reducible refine (?_ : LeOks _ _ _)); first | exact trivial | exact ⟨.refl _, trivial⟩ | exact ⟨.refl _, .refl _, trivial⟩)
    | ((fail_if_success with_reducible refine (?_ : False)); (fail_if_success with_reducible refine (?_ : Nat)); (fail_if_success with_reducible refine (?_ : Nat → Nat → AV)); (fail_if_success with_reducible refine (?_ : Sc _ _)); (fail_if_success with_reducible refine (?_ : Side _)); (fail_if_success with_reducible refine (?_ : Exists _)); (fail_if_success with_reducible refine (?_ : Ends _ _ _ _ _ _ _)); (fail_if_success with_reducible refine (?_ : Alt _ _)); (fail_if_success with_reducible refine (?_ : Le _ _)); (fail_if_success with_reducible refine (?_ : LeAll _ _ _)); (first | with_reducible refine And.intro ?_ ?_ | with_reducible refine Cut.go ?_ | (with_reducible (refine impI ?_; intro _)) | (with_reducible refine (?_ : footOK _ _ = true); kernel_rfl) | ((with_reducible refine propI ?_); conv => whnf))))
  all_goals try (exact .of (Nat.le_of_ble_eq_true rfl))
  all_goals first
    | (refine Sc.of ⟨?_, by omega⟩; show l.length * 24 ≤ 140737488355328; omega)
    | exact .mk [] [0] _ rfl (.own rfl fun _ _ _ _ => .refl _) trivial rfl
end
end Go.Fx

/-
  The body of MeterCountSteps.
-/
namespace Go.Fx
open Go.Proofs Go.RowKit
theorem few_n {n : Nat} {b : Bool} (h : (bif !b then true else decide (14 < (n : Int))) = false) : b = true ∧ n ≤ 14 := by
  cases b with
  | false => cases h
  | true => exact ⟨rfl, by have := of_decide_eq_false (show decide (14 < (n : Int)) = false from h); omega⟩
section
variable {W0 : World} (hX : (Xc W0 Gt).Good) (haw : Pure (Xc W0 Gt) 10 [] (.bool true))
include hX haw
theorem c6 (t : Trf) (c : Int) (l : List Cnt) : Pure (Xc W0 Gt) 6 [trfA t, .int .i64 c, cntS l] (.bool true) := by
  refine mut_of' hX (show FnIs (Xc W0 Gt) 6 Tryz.f6 (codeOf Tryz.f6) from ⟨by kernel_rfl, by kernel_rfl, by kernel_rfl, by kernel_rfl⟩) rfl ?_
  repeat' (first
    | ((with_reducible refine (?_ : Alt _ _)); first | (with_reducible apply callAlt (haw)) | (with_reducible apply callAlt (c11 hX t)) | (with_reducible apply callAlt (c16 hX t ?_)) | (with_reducible apply callAlt (c26 hX l ?_)) | (with_reducible apply callAlt (c25 hX t c l ?_ ?_)) | (with_reducible apply callAlt (c27 hX t c l ?_ ?_)) | (with_reducible refine Alt.one ?_))
    | ((with_reducible refine (?_ : AllLe _ _)); first | (first | exact AllLe.refl _ | (repeat' (first | exact trivial | apply Le.aggs | apply Le.tups | apply Le.fns | exact Le.refl _ | refine ⟨?_, ?_⟩))))
    | ((with_reducible refine (?_ : Sc _ (AllRen _ _ _))); refine Sc.of ?_; first | (repeat' (first | exact trivial | apply Le.aggs | apply Le.tups | apply Le.fns | exact Le.refl _ | refine ⟨?_, ?_⟩)))
    | ((with_reducible refine (?_ : (List.all _ _) = true)); rfl)
    | ((with_reducible refine (?_ : (and _ _) = true)); rfl)
    | ((with_reducible refine (?_ : List.Nodup _)); exact nodupB_spec rfl)
    | ((with_reducible refine (?_ : @Eq Nat _ _)); rfl)
    | ((with_reducible refine (?_ : LeOks _ _ _)); first | exact trivial | exact ⟨.refl _, trivial⟩ | exact ⟨.refl _, .refl _, trivial⟩)
    | ((fail_if_success with_reducible refine (?_ : False)); (fail_if_success with_reducible refine (?_ : Nat)); (fail_if_success with_reducible refine (?_ : Nat → Nat → AV)); (fail_if_success with_reducible refine (?_ : Sc _ _)); (fail_if_success with_reducible refine (?_ : Side _)); (fail_if_success with_reducible refine (?_ : Exists _)); (fail_if_success with_reducible refine (?_ : Ends _ _ _ _ _ _ _)); (fail_if_success with_reducible refine (?_ : Alt _ _)); (fail_if_success with_reducible refine (?_ : Le _ _)); (fail_if_success with_reducible refine (?_ : LeAll _ _ _)); (first | with_reducible refine And.intro ?_ ?_ | with_reducible refine Cut.go ?_ | (with_reducible (refine impI ?_; intro _)) | (with_reducible refine (?_ : footOK _ _ = true); kernel_rfl) | ((with_reducible refine propI ?_); conv => whnf))))
  all_goals try (exact .of (Nat.le_of_ble_eq_true rfl))
  all_goals try (rename_i h; first | exact absurd h (by decide) | (cases h; done))
  all_goals (rename_i h)
  · exact .mk [] [] _ rfl (.le (.refl _)) trivial rfl
  all_goals (have hb := few_n h; have hc := few_ok hb.1)
  · exact .mk [] [] _ rfl (.boolT (by simp)) trivial rfl
  all_goals first | exact .mk hc.1 | exact .mk (by omega)
end
end Go.Fx
