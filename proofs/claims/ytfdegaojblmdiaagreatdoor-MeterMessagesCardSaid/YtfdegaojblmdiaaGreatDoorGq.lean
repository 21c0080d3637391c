/-
  Tariffs: what is wrong with one (part 2); copies.
-/
import Derived.Test.YtfdegaojblmdiaaGreatDoorGp

set_option linter.all false

/-
  What is wrong with a tariff.
-/
namespace Go.Fx
open Go.Proofs Go.RowKit

section
variable {W0 : World} {G : Nat → Option AV} (hX : (Xc W0 G).Good)
include hX
end
end Go.Fx

/-
  What is wrong with a tariff, by the reference.
-/
namespace Go.Fx
open Go.Proofs Go.RowKit

section
variable {W0 : World} {G : Nat → Option AV} (hX : (Xc W0 G).Good)
include hX
end
end Go.Fx

/-
  Copies of tariffs; few parts.
-/
namespace Go.Fx
open Go.Proofs Go.RowKit

theorem Le.ofEq {a b : AV} (h : a = b) : Le a b := by rw [h]; exact .refl _
theorem put_same {l : List Rul} {i a j : Nat} : putF i 4 [iRow (l.getD i rul0).days] (putF i 3 [iRow (l.getD i rul0).zones] (fun i j => tbl (rulC (l.getD i rul0)) j)) a j = tbl (rulC (l.getD a rul0)) j := by
  unfold putF
  by_cases h : a = i
  · subst h
    by_cases h4 : j = 4
    · subst h4; simp [tbl, rulC]
    · by_cases h3 : j = 3
      · subst h3; simp [tbl, rulC]
      · rw [if_neg (fun q => h4 (by have := q.2; simp only [List.length_cons, List.length_nil] at this; omega)), if_neg (fun q => h3 (by have := q.2; simp only [List.length_cons, List.length_nil] at this; omega))]
  · simp [h]
def manyB (n few most : Int) : Bool := bif (bif decide (few < n) then decide (n ≤ most) else false) then true else decide (most + 2 < n)
def fewH (t : Trf) : Bool := bif (bif (bif (bif (bif decide (20 < (t.name.size : Int)) then true else manyB t.zones.length 3 6) then true else manyB t.hol.length 5 20) then true else manyB t.rules.length 4 12) then true else manyB t.extras.length 3 6) then true else manyB t.fixed.length 5 16
def fewZ (t : Trf) (i : Nat) : Bool := decide (20 < ((t.zones.getD i bs0).size : Int))
def fewR (t : Trf) (i : Nat) : Bool := bif (bif decide (20 < ((t.rules.getD i rul0).name.size : Int)) then true else decide (8 < ((t.rules.getD i rul0).zones.length : Int))) then true else decide (10 < ((t.rules.getD i rul0).days.length : Int))
def fewX (t : Trf) (i : Nat) : Bool := decide (20 < ((t.extras.getD i ext0).name.size : Int))
@[irreducible] def fewB (t : Trf) : Bool := bif fewH t then false else bif (List.range t.zones.length).any (fewZ t) then false else bif (List.range t.rules.length).any (fewR t) then false else !(List.range t.extras.length).any (fewX t)
section
variable {W0 : World} {G : Nat → Option AV} (hX : (Xc W0 G).Good)
include hX
theorem c46 (n few most : Int) (hs : Side (0 ≤ most ∧ most ≤ 1000)) : Pure (Xc W0 G) 46 [.int .i64 n, .int .i64 few, .int .i64 most] (.bool (manyB n few most)) := by
  have hs := hs.get
  refine mut_of' hX (show FnIs (Xc W0 G) 46 Tryz.f46 (codeOf Tryz.f46) from ⟨by kernel_rfl, by kernel_rfl, by kernel_rfl, by kernel_rfl⟩) rfl ?_
  repeat' (first
    | ((with_reducible refine (?_ : Alt _ _)); first | fail | (with_reducible refine Alt.one ?_))
    | ((with_reducible refine (?_ : AllLe _ _)); first | (first | exact AllLe.refl _ | (repeat' (first | exact trivial | apply Le.aggs | apply Le.tups | apply Le.fns | exact Le.refl _ | refine ⟨?_, ?_⟩))))
    | ((with_reducible refine (?_ : Sc _ (AllRen _ _ _))); refine Sc.of ?_; first | (repeat' (first | exact trivial | apply Le.aggs | apply Le.tups | apply Le.fns | exact Le.refl _ | refine ⟨?_, ?_⟩)))
    | ((with_reducible refine (?_ : (List.all _ _) = true)); rfl)
    | ((with_reducible refine (?_ : (and _ _) = true)); rfl)
    | ((with_reducible refine (?_ : List.Nodup _)); exact nodupB_spec rfl)
    | ((with_reducible refine (?_ : @Eq Nat _ _)); rfl)
    | ((with_reducible refine (?_ : @Eq (List (Option HObj)) _ _)); kernel_rfl)
    | ((with_reducible refine (?_ : LeOks _ _ _)); first | exact trivial | exact ⟨.refl _, trivial⟩ | exact ⟨.refl _, .refl _, trivial⟩)
    | ((fail_if_success with_reducible refine Stop.go ?_); (first | with_reducible refine And.intro ?_ ?_ | with_reducible refine Cut.go ?_ | (with_reducible (refine impI ?_; intro _)) | (with_reducible refine (?_ : footOK _ _ = true); kernel_rfl) | ((with_reducible refine propI ?_); conv => whnf))))
  all_goals try (exact .of (Nat.le_of_ble_eq_true rfl))
  all_goals first | exact .of ⟨by omega, by omega⟩ | exact .mk [] [] _ rfl (.le (.refl _)) trivial rfl
end
end Go.Fx

/-
  What a right tariff is.
-/
namespace Go.Fx
open Go.Proofs Go.RowKit

theorem firstS_zero : ∀ {l : List Int}, firstS l = 0 → ∀ x ∈ l, x = 0
  | [], _, x, hx => by simp at hx
  | a :: l, h, x, hx => by
    by_cases ha : a = 0
    · simp only [firstS, ha, decide_true, cond_true] at h
      rcases List.mem_cons.1 hx with h1 | h1
      · rw [h1, ha]
      · exact firstS_zero h x h1
    · simp only [firstS, decide_eq_false ha, cond_false] at h
      exact absurd h ha
theorem isOk_0 {b : Bool} {e : Int} (h : isOk b e = 0) (he : e ≠ 0) : b = true := by
  cases b with
  | true => rfl
  | false => exact absurd h he
theorem from_0 (t : Trf) : ∀ (k b : Nat), fromE t b k = 0 → ∀ q, b ≤ q → q < b + k → pE t q = 0
  | 0, b, _, q, h1, h2 => by omega
  | k + 1, b, h, q, h1, h2 => by
    by_cases hb : pE t b = 0
    · simp only [fromE, hb, decide_true, cond_true] at h
      by_cases e : q = b
      · rw [e]; exact hb
      · exact from_0 t k (b + 1) h q (by omega) (by omega)
    · simp only [fromE, decide_eq_false hb, cond_false] at h
      exact absurd h hb
theorem trf_0 {t : Trf} (h : trfE t = 0) : topE t = 0 ∧ ∀ q, q < 5 → pE t q = 0 := by
  unfold trfE at h
  by_cases h0 : topE t = 0
  · rw [h0] at h
    exact ⟨h0, fun q hq => from_0 t 5 0 h q (Nat.zero_le _) (by omega)⟩
  · rw [decide_eq_false h0] at h
    exact absurd h h0
theorem pE_0 {t : Trf} {p : Nat} (h : pE t p = 0) : partN t p ≤ partM p ∧ ∀ j, j < partN t p → partE t p j = 0 := by
  unfold pE at h
  by_cases h0 : partM p < partN t p
  · rw [decide_eq_true h0] at h; cases h
  · rw [decide_eq_false h0] at h
    refine ⟨by omega, fun j hj => ?_⟩
    have := scan_zero (g := partE t p) (d := 0) (l := List.range (partN t p)) h j (by simpa using hj)
    rwa [range_at hj] at this
/-- A right rule; a right tariff. -/
structure ROk (nz : Int) (r : Rul) : Prop where
  fr : 0 ≤ r.fr ∧ r.fr ≤ 100000
  tt : 0 ≤ r.tt ∧ r.tt ≤ 100000
  ord : r.fr ≤ r.tt
  bg : 0 ≤ r.bg ∧ r.bg ≤ 86399
  en : 0 ≤ r.en ∧ r.en ≤ 86400
  st : 0 ≤ r.st ∧ r.st ≤ 100000
  me : 0 ≤ r.me ∧ r.me ≤ 1000000
  se : 0 ≤ r.se ∧ r.se ≤ 1000000
theorem and_t {a b : Bool} (h : (bif a then b else false) = true) : a = true ∧ b = true := by cases a <;> cases b <;> simp_all
theorem rule_0 {nz : Int} {r : Rul} (h : ruleE nz r = 0) : ROk nz r := by
  unfold ruleE at h
  have z := firstS_zero h
  have z0 := and_t (isOk_0 (z _ (by simp)) (e := 2) (b := bif inB r.fr 0 100000 then inB r.tt 0 100000 else false) (by decide))
  have z1 := isOk_0 (b := decide (r.fr ≤ r.tt)) (e := 9) (z _ (by simp)) (by decide)
  have z5 := and_t (isOk_0 (b := bif (bif inB r.bg 0 86399 then inB r.en 0 86400 else false) then (bif (bif inB r.st 0 100000 then inB r.me 0 1000000 else false) then inB r.se 0 1000000 else false) else false) (e := 2) (z _ (by simp)) (by decide))
  have z6 := and_t z5.1
  have z7 := and_t z5.2
  have z8 := and_t z7.1
  exact ⟨inB_iff.1 z0.1, inB_iff.1 z0.2, of_decide_eq_true z1, inB_iff.1 z6.1, inB_iff.1 z6.2, inB_iff.1 z8.1, inB_iff.1 z8.2, inB_iff.1 z7.2⟩
theorem trf_rule {t : Trf} (h : trfE t = 0) {k : Nat} (hk : k < t.rules.length) : ROk t.zones.length (t.rules.getD k rul0) := by
  have h1 : ruliE t k = 0 := (pE_0 ((trf_0 h).2 2 (by decide))).2 k hk
  unfold ruliE at h1
  cases b1 : nameB (t.rules.getD k rul0).name <;> rw [b1] at h1
  · cases h1
  · cases b2 : (List.range k).any (fun j => decide ((t.rules.getD j rul0).name = (t.rules.getD k rul0).name)) <;> rw [b2] at h1
    · exact rule_0 h1
    · cases h1
theorem trf_unit {t : Trf} (h : trfE t = 0) : (1 ≤ t.unit ∧ t.unit ≤ 999999999) ∧ (0 ≤ t.step ∧ t.step ≤ 100000) := by
  have h0 := (trf_0 h).1
  unfold topE at h0
  cases b1 : nameB t.name <;> cases b2 : inB t.unit 1 999999999 <;> cases b3 : inB t.step 0 100000 <;> rw [b1, b2, b3] at h0 <;> first | (cases h0; done) | exact ⟨inB_iff.1 b2, inB_iff.1 b3⟩


/-- Strictly rising. -/
def SortI (l : List Int) : Prop := ∀ i j, i < j → j < l.length → l.getD i 0 < l.getD j 0
theorem quo_bd {a d B : Int} (h0 : 0 ≤ a) (h1 : a ≤ B) (hd : 0 < d) : 0 ≤ a.tdiv d ∧ a.tdiv d ≤ B := by
  rw [Int.tdiv_eq_ediv_of_nonneg h0]
  exact ⟨Int.ediv_nonneg h0 (by omega), Int.le_trans (Int.ediv_le_self d h0) h1⟩
end Go.Fx
