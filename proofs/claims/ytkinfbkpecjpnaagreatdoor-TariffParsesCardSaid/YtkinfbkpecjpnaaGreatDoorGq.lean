/-
 Tariffs: what is wrong with one (part 2); copies.
-/
import Derived.Test.YtkinfbkpecjpnaaGreatDoorGp
set_option linter.all false
/-
 What is wrong with a tariff.
-/
namespace Go.Fx
open Go.Proofs Go.RowKit
theorem top_ne {t : Trf} {e : Int} (h : topE t = e) (h0 : e ≠ 0) : trfE t = e /\ trfL t = 0 /\ trfN t = 0 := by
 unfold trfE trfL trfN
 rw [h, decide_eq_false h0]
 exact ⟨rfl, rfl, rfl⟩
theorem from_hit (t : Trf) : ∀ (k b p : Nat), b <= p -> p < b + k -> (∀ q, b <= q -> q < p -> pE t q = 0) -> pE t p ≠ 0 -> fromE t b k = pE t p /\ fromL t b k = pL t p /\ fromN t b k = pN t p
 | 0, b, p, h1, h2, _, _ => by omega
 | k + 1, b, p, h1, h2, h, hp => by
  by_cases hb : b = p
  ·subst hb
   simp only [fromE, fromL, fromN, decide_eq_false hp]
   exact ⟨rfl, rfl, rfl⟩
  ·have hz := h b (Nat.le_refl _) (by omega)
   simp only [fromE, fromL, fromN, hz, decide_true, cond_true]
   exact from_hit t k (b + 1) p (by omega) (by omega) (fun q q1 q2 => h q (by omega) q2) hp
theorem from_none (t : Trf) : ∀ (k b : Nat), (∀ q, b <= q -> q < b + k -> pE t q = 0) -> fromE t b k = 0 /\ fromL t b k = 0 /\ fromN t b k = 0
 | 0, b, _ => ⟨rfl, rfl, rfl⟩
 | k + 1, b, h => by
  have hz := h b (Nat.le_refl _) (by omega)
  simp only [fromE, fromL, fromN, hz, decide_true, cond_true]
  exact from_none t k (b + 1) fun q q1 q2 => h q (by omega) (by omega)
theorem part_hit {t : Trf} (h0 : topE t = 0) {p : Nat} (hp : p < 5) (h : ∀ q, q < p -> pE t q = 0) {e l m : Int} (he : pE t p = e) (hl : pL t p = l) (hm : pN t p = m) (hne : e ≠ 0) : trfE t = e /\ trfL t = l /\ trfN t = m := by
 have w := from_hit t 5 0 p (Nat.zero_le _) (by omega) (fun q _ hq => h q hq) (by rw [he]; exact hne)
 unfold trfE trfL trfN
 rw [h0, w.1, w.2.1, w.2.2, he, hl, hm]
 exact ⟨rfl, rfl, rfl⟩
theorem part_none {t : Trf} (h0 : topE t = 0) (h : ∀ q, q < 5 -> pE t q = 0) : trfE t = 0 /\ trfL t = 0 /\ trfN t = 0 := by
 have w := from_none t 5 0 (fun q _ hq => h q (by omega))
 unfold trfE trfL trfN
 rw [h0, w.1, w.2.1, w.2.2]
 exact ⟨rfl, rfl, rfl⟩
theorem p_large {t : Trf} {p : Nat} (h : partM p < partN t p) : pE t p = 8 /\ pL t p = 0 /\ pN t p = 0 := by
 unfold pE pL pN
 rw [decide_eq_true h]
 exact ⟨rfl, rfl, rfl⟩
theorem p_hit {t : Trf} {p i : Nat} (h : ¬ partM p < partN t p) (hi : i < partN t p) (h0 : ∀ j, j < i -> partE t p j = 0) (hne : partE t p i ≠ 0) : pE t p = partE t p i /\ pL t p = (p : Int) + 1 /\ pN t p = i := by
 have w := scan_hit (g := partE t p) (d := 0) (l := List.range (partN t p)) (i := i) (by simpa using hi) (fun j hj => by rw [range_at (by omega)]; exact h0 j hj) (by rw [range_at hi]; exact hne)
 unfold pE pL pN
 rw [decide_eq_false h]
 exact ⟨by rw [cond_false, w.1, range_at hi], rfl, w.2⟩
theorem p_none {t : Trf} {p : Nat} (h : ¬ partM p < partN t p) (h0 : ∀ j, j < partN t p -> partE t p j = 0) : pE t p = 0 := by
 have w := scan_none (g := partE t p) (d := 0) (l := List.range (partN t p)) (fun j hj => by rw [range_at (by simpa using hj)]; exact h0 j (by simpa using hj))
 unfold pE
 rw [decide_eq_false h]
 exact w.1
theorem lt_5 {t : Trf} {p : Nat} (h : ∀ q, q < p -> pE t q = 0) (hp : pE t p = 0) : ∀ q, q < p + 1 -> pE t q = 0 := all_lt h hp
theorem top_eq (t : Trf) : topE t = firstS [firstS [isOk (nameB t.name) 4, isOk (!false) 5], isOk (bif inB t.unit 1 999999999 then inB t.step 0 100000 else false) 2, isOk (decide (0 < (t.zones.length : Int))) 10] := by
 unfold topE
 cases nameB t.name <;> cases (bif inB t.unit 1 999999999 then inB t.step 0 100000 else false) <;> cases decide (0 < (t.zones.length : Int)) <;> rfl
def trfR (t : Trf) : AV := .tup 2 (tbl [.agg 2 (tbl [.int .i64 (trfL t), .int .i64 (trfN t)]), .int .i64 (trfE t)])
section
variable {W0 : World} {G : Nat -> Option AV} (hX : (Xc W0 G).Good)
include hX
set_option maxHeartbeats 2000000 in
theorem c41 (t : Trf) (hs : Side (TOk t)) : Pure (Xc W0 G) 41 [trfA t] (trfR t) := by
 have ok := hs.get
 refine mut_of' hX (fnI Tryz.f41) rfl ?_
 repeat' (first
  | (refine Ax.go ?_; first | (with_reducible apply callAlt (c83 hX _ _ _)) | (with_reducible apply callAlt (c84 hX _)) | (with_reducible apply callAlt (c85 hX [] t.name (Side.mk (by decide)) (Side.mk ok.name))) | (with_reducible apply callAlt (c73 hX _ _)) | (with_reducible apply callAlt (c55_3 hX _ _ _)) | (with_reducible apply Alt.one))
  | ((with_reducible refine Ar.go ?_); first | exact ⟨.refl _, .slc0 _ _, trivial⟩ | exact ⟨le_slc3 rfl rfl rfl, trivial⟩)
  | exact Cl.go
  | ((fail_if_success refine Stop.go ?_); first | (with_reducible first | apply And.intro | apply Cut.go | (refine impI ?_; intro _)) | (refine propI ?_; conv => whnf)))
 all_goals try exact nbZ
 all_goals (rename_i h; rw [hasB_nil, <- top_eq] at h; simp only [decide_eq_true_eq, decide_eq_false_iff_not, beq_iff_eq, bne_iff_ne, beq_eq_false_iff_ne, bne_eq_false_iff_eq, ne_eq, Int.not_lt, Int.not_le, Nat.not_lt, Nat.not_le, Decidable.not_not, Int.toNat_natCast] at h)
 ·have w := top_ne rfl h
  rw [show firstS [firstS [isOk (nameB t.name) 4, isOk (!hasB ([] : List ByteArray) ([] : List ByteArray).length t.name) 5], isOk (bif inB t.unit 1 999999999 then inB t.step 0 100000 else false) 2, isOk (decide (0 < (t.zones.length : Int))) 10] = topE t by rw [hasB_nil, <- top_eq]]
  exact .mk [] [] _ rfl (.le (.tups ⟨⟨trivial, .aggs ⟨⟨trivial, .intI w.2.1.symm⟩, .intI w.2.2.symm⟩⟩, .intI w.1.symm⟩)) trivial rfl
 ·have h0t := h
  refine ⟨Nat, fun p => ([(2, .ptr 1 0), (61, .agg 20 (tbl [.int .i64 1, .int .i64 t.zones.length, .int .i64 6, .fn 86 1 (tbl [.ptr 0 0]), .int .i64 2, .int .i64 t.hol.length, .int .i64 20, .fn 87 1 (tbl [.ptr 0 0]), .int .i64 3, .int .i64 t.rules.length, .int .i64 12, .fn 90 1 (tbl [.ptr 0 0]), .int .i64 4, .int .i64 t.extras.length, .int .i64 6, .fn 94 1 (tbl [.ptr 0 0]), .int .i64 5, .int .i64 t.fixed.length, .int .i64 16, .fn 97 1 (tbl [.ptr 0 0])])), (62, .int .i64 p)], [.box (trfC t), .box [.int .i64 0, .int .i64 0]]), fun p => p <= 5 /\ ∀ q, q < p -> pE t q = 0, fun p => 5 - p, ⟨0, ⟨Nat.zero_le _, fun _ h => by omega⟩, .le ⟨rfl, ⟨.refl _, .refl _, trivial⟩, ⟨.refl _, .aggs ⟨⟨⟨⟨⟨⟨⟨⟨⟨⟨⟨⟨⟨⟨⟨⟨⟨⟨⟨⟨trivial, .refl _⟩, .refl _⟩, .refl _⟩, .fns ⟨trivial, .refl _⟩⟩, .refl _⟩, .refl _⟩, .refl _⟩, .fns ⟨trivial, .refl _⟩⟩, .refl _⟩, .refl _⟩, .refl _⟩, .fns ⟨trivial, .refl _⟩⟩, .refl _⟩, .refl _⟩, .refl _⟩, .fns ⟨trivial, .refl _⟩⟩, .refl _⟩, .refl _⟩, .refl _⟩, .fns ⟨trivial, .refl _⟩⟩, .refl _, trivial⟩⟩⟩, fun p ⟨hp, hz⟩ => ?_⟩
  rcases (show p = 0 \/ p = 1 \/ p = 2 \/ p = 3 \/ p = 4 \/ p = 5 by omega) with rfl | rfl | rfl | rfl | rfl | rfl
  ·
   repeat' (first
    | (refine Ax.go ?_; first | (with_reducible apply Alt.one))
    | exact Cl.go
    | ((fail_if_success refine Stop.go ?_); first | (with_reducible first | apply And.intro | apply Cut.go | (refine impI ?_; intro _)) | (refine propI ?_; conv => whnf)))
   all_goals try (rename_i h; exact absurd h (by decide))
   all_goals try (exact .of (Nat.le_of_ble_eq_true rfl))
   all_goals try (exact .of (by decide))
   all_goals (rename_i h)
   ·have h := of_decide_eq_true h
    have w := p_large (t := t) (p := 0) (by show 6 < t.zones.length; omega)
    have w := part_hit h0t (by decide) hz w.1 w.2.1 w.2.2 (by decide)
    exact .mk [] [] _ rfl (.le (.tups ⟨⟨trivial, .aggs ⟨⟨trivial, .intI w.2.1.symm⟩, .intI w.2.2.symm⟩⟩, .intI w.1.symm⟩)) trivial rfl
   ·have h := of_decide_eq_false h
    have hl : ¬ partM 0 < partN t 0 := by show ¬ 6 < t.zones.length; omega
    refine ⟨Nat, fun i => ([(2, .ptr 1 0), (8, .ptr 2 0), (61, .agg 20 (tbl [.int .i64 1, .int .i64 t.zones.length, .int .i64 6, .fn 86 1 (tbl [.ptr 0 0]), .int .i64 2, .int .i64 t.hol.length, .int .i64 20, .fn 87 1 (tbl [.ptr 0 0]), .int .i64 3, .int .i64 t.rules.length, .int .i64 12, .fn 90 1 (tbl [.ptr 0 0]), .int .i64 4, .int .i64 t.extras.length, .int .i64 6, .fn 94 1 (tbl [.ptr 0 0]), .int .i64 5, .int .i64 t.fixed.length, .int .i64 16, .fn 97 1 (tbl [.ptr 0 0])])), (62, .int .i64 0), (72, .int .i64 t.zones.length), (73, .int .i64 i)], [.box (trfC t), .box [.int .i64 0, .int .i64 0], .box [.int .i64 1, .int .i64 t.zones.length, .int .i64 6, .fn 86 1 (tbl [.ptr 0 0])]]), fun i => i <= t.zones.length /\ ∀ j, j < i -> zoneE t j = 0, fun i => t.zones.length - i, ⟨0, ⟨Nat.zero_le _, fun _ h => by omega⟩, .le ⟨rfl, rfZ, rfZ⟩⟩, fun i ⟨hi, h0⟩ => ?_⟩
    repeat' (first
     | (refine Ax.go ?_; first | (with_reducible (apply altM (ks := [0]) (m := 0); apply And.intro; apply Sc.of; apply (c86 hX t hs i ?_))) | (with_reducible apply Alt.one))
     | exact Cl.go
     | ((fail_if_success refine Stop.go ?_); first | (with_reducible first | apply And.intro | apply Cut.go | (refine impI ?_; intro _)) | (refine propI ?_; conv => whnf)))
    all_goals try exact nbZ
    all_goals (rename_i h2)
    all_goals first
     | exact .of ⟨by decide, by decide⟩
     | (have h2 := of_decide_eq_true h2; exact Side.mk (by omega))
     | (have h2 := of_decide_eq_false h2
        exact ⟨0 + 1, ⟨by decide, lt_5 hz (p_none hl (fun j hj => h0 j (by show j < i; have hj : j < t.zones.length := hj; omega)))⟩, by decide, .le ⟨rfl, ⟨.refl _, .refl _, trivial⟩, rfZ⟩⟩)
     | (rename_i h1; have h1 := of_decide_eq_true h1; simp only [decide_eq_true_eq, decide_eq_false_iff_not, beq_iff_eq, bne_iff_ne, beq_eq_false_iff_ne, bne_eq_false_iff_eq, ne_eq, Int.not_lt, Int.not_le, Nat.not_lt, Nat.not_le, Decidable.not_not, Int.toNat_natCast] at h2
        first
         | exact .of ⟨by omega, by omega⟩
         | exact ⟨i + 1, ⟨by omega, all_lt h0 h2⟩, by show t.zones.length - (i + 1) < t.zones.length - i; omega, .le ⟨rfl, rfZ, rfZ⟩⟩
         | (have w := p_hit (p := 0) hl (show i < t.zones.length by omega) h0 h2
            have w := part_hit h0t (by decide) hz w.1 w.2.1 w.2.2 h2
            exact .mk [] [] _ rfl (.le (.tups ⟨⟨trivial, .aggs ⟨⟨trivial, .intI w.2.1.symm⟩, .intI w.2.2.symm⟩⟩, .intI w.1.symm⟩)) trivial rfl))
  ·
   repeat' (first
    | (refine Ax.go ?_; first | (with_reducible apply Alt.one))
    | exact Cl.go
    | ((fail_if_success refine Stop.go ?_); first | (with_reducible first | apply And.intro | apply Cut.go | (refine impI ?_; intro _)) | (refine propI ?_; conv => whnf)))
   all_goals try (rename_i h; exact absurd h (by decide))
   all_goals try (exact .of (Nat.le_of_ble_eq_true rfl))
   all_goals try (exact .of (by decide))
   all_goals (rename_i h)
   ·have h := of_decide_eq_true h
    have w := p_large (t := t) (p := 1) (by show 20 < t.hol.length; omega)
    have w := part_hit h0t (by decide) hz w.1 w.2.1 w.2.2 (by decide)
    exact .mk [] [] _ rfl (.le (.tups ⟨⟨trivial, .aggs ⟨⟨trivial, .intI w.2.1.symm⟩, .intI w.2.2.symm⟩⟩, .intI w.1.symm⟩)) trivial rfl
   ·have h := of_decide_eq_false h
    have hl : ¬ partM 1 < partN t 1 := by show ¬ 20 < t.hol.length; omega
    refine ⟨Nat, fun i => ([(2, .ptr 1 0), (8, .ptr 2 0), (61, .agg 20 (tbl [.int .i64 1, .int .i64 t.zones.length, .int .i64 6, .fn 86 1 (tbl [.ptr 0 0]), .int .i64 2, .int .i64 t.hol.length, .int .i64 20, .fn 87 1 (tbl [.ptr 0 0]), .int .i64 3, .int .i64 t.rules.length, .int .i64 12, .fn 90 1 (tbl [.ptr 0 0]), .int .i64 4, .int .i64 t.extras.length, .int .i64 6, .fn 94 1 (tbl [.ptr 0 0]), .int .i64 5, .int .i64 t.fixed.length, .int .i64 16, .fn 97 1 (tbl [.ptr 0 0])])), (62, .int .i64 1), (72, .int .i64 t.hol.length), (73, .int .i64 i)], [.box (trfC t), .box [.int .i64 0, .int .i64 0], .box [.int .i64 2, .int .i64 t.hol.length, .int .i64 20, .fn 87 1 (tbl [.ptr 0 0])]]), fun i => i <= t.hol.length /\ ∀ j, j < i -> holE t j = 0, fun i => t.hol.length - i, ⟨0, ⟨Nat.zero_le _, fun _ h => by omega⟩, .le ⟨rfl, rfZ, rfZ⟩⟩, fun i ⟨hi, h0⟩ => ?_⟩
    repeat' (first
     | (refine Ax.go ?_; first | (with_reducible (apply altM (ks := [0]) (m := 0); apply And.intro; apply Sc.of; apply (c87 hX t hs i ?_ (fun j hj => h0 j hj)))) | (with_reducible apply Alt.one))
     | exact Cl.go
     | ((fail_if_success refine Stop.go ?_); first | (with_reducible first | apply And.intro | apply Cut.go | (refine impI ?_; intro _)) | (refine propI ?_; conv => whnf)))
    all_goals try exact nbZ
    all_goals (rename_i h2)
    all_goals first
     | exact .of ⟨by decide, by decide⟩
     | (have h2 := of_decide_eq_true h2; exact Side.mk (by omega))
     | (have h2 := of_decide_eq_false h2
        exact ⟨1 + 1, ⟨by decide, lt_5 hz (p_none hl (fun j hj => h0 j (by show j < i; have hj : j < t.hol.length := hj; omega)))⟩, by decide, .le ⟨rfl, ⟨.refl _, .refl _, trivial⟩, rfZ⟩⟩)
     | (rename_i h1; have h1 := of_decide_eq_true h1; simp only [decide_eq_true_eq, decide_eq_false_iff_not, beq_iff_eq, bne_iff_ne, beq_eq_false_iff_ne, bne_eq_false_iff_eq, ne_eq, Int.not_lt, Int.not_le, Nat.not_lt, Nat.not_le, Decidable.not_not, Int.toNat_natCast] at h2
        first
         | exact .of ⟨by omega, by omega⟩
         | exact ⟨i + 1, ⟨by omega, all_lt h0 h2⟩, by show t.hol.length - (i + 1) < t.hol.length - i; omega, .le ⟨rfl, rfZ, rfZ⟩⟩
         | (have w := p_hit (p := 1) hl (show i < t.hol.length by omega) h0 h2
            have w := part_hit h0t (by decide) hz w.1 w.2.1 w.2.2 h2
            exact .mk [] [] _ rfl (.le (.tups ⟨⟨trivial, .aggs ⟨⟨trivial, .intI w.2.1.symm⟩, .intI w.2.2.symm⟩⟩, .intI w.1.symm⟩)) trivial rfl))
  ·
   repeat' (first
    | (refine Ax.go ?_; first | (with_reducible apply Alt.one))
    | exact Cl.go
    | ((fail_if_success refine Stop.go ?_); first | (with_reducible first | apply And.intro | apply Cut.go | (refine impI ?_; intro _)) | (refine propI ?_; conv => whnf)))
   all_goals try (rename_i h; exact absurd h (by decide))
   all_goals try (exact .of (Nat.le_of_ble_eq_true rfl))
   all_goals try (exact .of (by decide))
   all_goals (rename_i h)
   ·have h := of_decide_eq_true h
    have w := p_large (t := t) (p := 2) (by show 12 < t.rules.length; omega)
    have w := part_hit h0t (by decide) hz w.1 w.2.1 w.2.2 (by decide)
    exact .mk [] [] _ rfl (.le (.tups ⟨⟨trivial, .aggs ⟨⟨trivial, .intI w.2.1.symm⟩, .intI w.2.2.symm⟩⟩, .intI w.1.symm⟩)) trivial rfl
   ·have h := of_decide_eq_false h
    have hl : ¬ partM 2 < partN t 2 := by show ¬ 12 < t.rules.length; omega
    refine ⟨Nat, fun i => ([(2, .ptr 1 0), (8, .ptr 2 0), (61, .agg 20 (tbl [.int .i64 1, .int .i64 t.zones.length, .int .i64 6, .fn 86 1 (tbl [.ptr 0 0]), .int .i64 2, .int .i64 t.hol.length, .int .i64 20, .fn 87 1 (tbl [.ptr 0 0]), .int .i64 3, .int .i64 t.rules.length, .int .i64 12, .fn 90 1 (tbl [.ptr 0 0]), .int .i64 4, .int .i64 t.extras.length, .int .i64 6, .fn 94 1 (tbl [.ptr 0 0]), .int .i64 5, .int .i64 t.fixed.length, .int .i64 16, .fn 97 1 (tbl [.ptr 0 0])])), (62, .int .i64 2), (72, .int .i64 t.rules.length), (73, .int .i64 i)], [.box (trfC t), .box [.int .i64 0, .int .i64 0], .box [.int .i64 3, .int .i64 t.rules.length, .int .i64 12, .fn 90 1 (tbl [.ptr 0 0])]]), fun i => i <= t.rules.length /\ ∀ j, j < i -> ruliE t j = 0, fun i => t.rules.length - i, ⟨0, ⟨Nat.zero_le _, fun _ h => by omega⟩, .le ⟨rfl, rfZ, rfZ⟩⟩, fun i ⟨hi, h0⟩ => ?_⟩
    repeat' (first
     | (refine Ax.go ?_; first | (with_reducible (apply altM (ks := [0]) (m := 0); apply And.intro; apply Sc.of; apply (c90 hX t hs i ?_))) | (with_reducible apply Alt.one))
     | exact Cl.go
     | ((fail_if_success refine Stop.go ?_); first | (with_reducible first | apply And.intro | apply Cut.go | (refine impI ?_; intro _)) | (refine propI ?_; conv => whnf)))
    all_goals try exact nbZ
    all_goals (rename_i h2)
    all_goals first
     | exact .of ⟨by decide, by decide⟩
     | (have h2 := of_decide_eq_true h2; exact Side.mk (by omega))
     | (have h2 := of_decide_eq_false h2
        exact ⟨2 + 1, ⟨by decide, lt_5 hz (p_none hl (fun j hj => h0 j (by show j < i; have hj : j < t.rules.length := hj; omega)))⟩, by decide, .le ⟨rfl, ⟨.refl _, .refl _, trivial⟩, rfZ⟩⟩)
     | (rename_i h1; have h1 := of_decide_eq_true h1; simp only [decide_eq_true_eq, decide_eq_false_iff_not, beq_iff_eq, bne_iff_ne, beq_eq_false_iff_ne, bne_eq_false_iff_eq, ne_eq, Int.not_lt, Int.not_le, Nat.not_lt, Nat.not_le, Decidable.not_not, Int.toNat_natCast] at h2
        first
         | exact .of ⟨by omega, by omega⟩
         | exact ⟨i + 1, ⟨by omega, all_lt h0 h2⟩, by show t.rules.length - (i + 1) < t.rules.length - i; omega, .le ⟨rfl, rfZ, rfZ⟩⟩
         | (have w := p_hit (p := 2) hl (show i < t.rules.length by omega) h0 h2
            have w := part_hit h0t (by decide) hz w.1 w.2.1 w.2.2 h2
            exact .mk [] [] _ rfl (.le (.tups ⟨⟨trivial, .aggs ⟨⟨trivial, .intI w.2.1.symm⟩, .intI w.2.2.symm⟩⟩, .intI w.1.symm⟩)) trivial rfl))
  ·
   repeat' (first
    | (refine Ax.go ?_; first | (with_reducible apply Alt.one))
    | exact Cl.go
    | ((fail_if_success refine Stop.go ?_); first | (with_reducible first | apply And.intro | apply Cut.go | (refine impI ?_; intro _)) | (refine propI ?_; conv => whnf)))
   all_goals try (rename_i h; exact absurd h (by decide))
   all_goals try (exact .of (Nat.le_of_ble_eq_true rfl))
   all_goals try (exact .of (by decide))
   all_goals (rename_i h)
   ·have h := of_decide_eq_true h
    have w := p_large (t := t) (p := 3) (by show 6 < t.extras.length; omega)
    have w := part_hit h0t (by decide) hz w.1 w.2.1 w.2.2 (by decide)
    exact .mk [] [] _ rfl (.le (.tups ⟨⟨trivial, .aggs ⟨⟨trivial, .intI w.2.1.symm⟩, .intI w.2.2.symm⟩⟩, .intI w.1.symm⟩)) trivial rfl
   ·have h := of_decide_eq_false h
    have hl : ¬ partM 3 < partN t 3 := by show ¬ 6 < t.extras.length; omega
    refine ⟨Nat, fun i => ([(2, .ptr 1 0), (8, .ptr 2 0), (61, .agg 20 (tbl [.int .i64 1, .int .i64 t.zones.length, .int .i64 6, .fn 86 1 (tbl [.ptr 0 0]), .int .i64 2, .int .i64 t.hol.length, .int .i64 20, .fn 87 1 (tbl [.ptr 0 0]), .int .i64 3, .int .i64 t.rules.length, .int .i64 12, .fn 90 1 (tbl [.ptr 0 0]), .int .i64 4, .int .i64 t.extras.length, .int .i64 6, .fn 94 1 (tbl [.ptr 0 0]), .int .i64 5, .int .i64 t.fixed.length, .int .i64 16, .fn 97 1 (tbl [.ptr 0 0])])), (62, .int .i64 3), (72, .int .i64 t.extras.length), (73, .int .i64 i)], [.box (trfC t), .box [.int .i64 0, .int .i64 0], .box [.int .i64 4, .int .i64 t.extras.length, .int .i64 6, .fn 94 1 (tbl [.ptr 0 0])]]), fun i => i <= t.extras.length /\ ∀ j, j < i -> extE t j = 0, fun i => t.extras.length - i, ⟨0, ⟨Nat.zero_le _, fun _ h => by omega⟩, .le ⟨rfl, rfZ, rfZ⟩⟩, fun i ⟨hi, h0⟩ => ?_⟩
    repeat' (first
     | (refine Ax.go ?_; first | (with_reducible (apply altM (ks := [0]) (m := 0); apply And.intro; apply Sc.of; apply (c94 hX t hs i ?_))) | (with_reducible apply Alt.one))
     | exact Cl.go
     | ((fail_if_success refine Stop.go ?_); first | (with_reducible first | apply And.intro | apply Cut.go | (refine impI ?_; intro _)) | (refine propI ?_; conv => whnf)))
    all_goals try exact nbZ
    all_goals (rename_i h2)
    all_goals first
     | exact .of ⟨by decide, by decide⟩
     | (have h2 := of_decide_eq_true h2; exact Side.mk (by omega))
     | (have h2 := of_decide_eq_false h2
        exact ⟨3 + 1, ⟨by decide, lt_5 hz (p_none hl (fun j hj => h0 j (by show j < i; have hj : j < t.extras.length := hj; omega)))⟩, by decide, .le ⟨rfl, ⟨.refl _, .refl _, trivial⟩, rfZ⟩⟩)
     | (rename_i h1; have h1 := of_decide_eq_true h1; simp only [decide_eq_true_eq, decide_eq_false_iff_not, beq_iff_eq, bne_iff_ne, beq_eq_false_iff_ne, bne_eq_false_iff_eq, ne_eq, Int.not_lt, Int.not_le, Nat.not_lt, Nat.not_le, Decidable.not_not, Int.toNat_natCast] at h2
        first
         | exact .of ⟨by omega, by omega⟩
         | exact ⟨i + 1, ⟨by omega, all_lt h0 h2⟩, by show t.extras.length - (i + 1) < t.extras.length - i; omega, .le ⟨rfl, rfZ, rfZ⟩⟩
         | (have w := p_hit (p := 3) hl (show i < t.extras.length by omega) h0 h2
            have w := part_hit h0t (by decide) hz w.1 w.2.1 w.2.2 h2
            exact .mk [] [] _ rfl (.le (.tups ⟨⟨trivial, .aggs ⟨⟨trivial, .intI w.2.1.symm⟩, .intI w.2.2.symm⟩⟩, .intI w.1.symm⟩)) trivial rfl))
  ·
   repeat' (first
    | (refine Ax.go ?_; first | (with_reducible apply Alt.one))
    | exact Cl.go
    | ((fail_if_success refine Stop.go ?_); first | (with_reducible first | apply And.intro | apply Cut.go | (refine impI ?_; intro _)) | (refine propI ?_; conv => whnf)))
   all_goals try (rename_i h; exact absurd h (by decide))
   all_goals try (exact .of (Nat.le_of_ble_eq_true rfl))
   all_goals try (exact .of (by decide))
   all_goals (rename_i h)
   ·have h := of_decide_eq_true h
    have w := p_large (t := t) (p := 4) (by show 16 < t.fixed.length; omega)
    have w := part_hit h0t (by decide) hz w.1 w.2.1 w.2.2 (by decide)
    exact .mk [] [] _ rfl (.le (.tups ⟨⟨trivial, .aggs ⟨⟨trivial, .intI w.2.1.symm⟩, .intI w.2.2.symm⟩⟩, .intI w.1.symm⟩)) trivial rfl
   ·have h := of_decide_eq_false h
    have hl : ¬ partM 4 < partN t 4 := by show ¬ 16 < t.fixed.length; omega
    refine ⟨Nat, fun i => ([(2, .ptr 1 0), (8, .ptr 2 0), (61, .agg 20 (tbl [.int .i64 1, .int .i64 t.zones.length, .int .i64 6, .fn 86 1 (tbl [.ptr 0 0]), .int .i64 2, .int .i64 t.hol.length, .int .i64 20, .fn 87 1 (tbl [.ptr 0 0]), .int .i64 3, .int .i64 t.rules.length, .int .i64 12, .fn 90 1 (tbl [.ptr 0 0]), .int .i64 4, .int .i64 t.extras.length, .int .i64 6, .fn 94 1 (tbl [.ptr 0 0]), .int .i64 5, .int .i64 t.fixed.length, .int .i64 16, .fn 97 1 (tbl [.ptr 0 0])])), (62, .int .i64 4), (72, .int .i64 t.fixed.length), (73, .int .i64 i)], [.box (trfC t), .box [.int .i64 0, .int .i64 0], .box [.int .i64 5, .int .i64 t.fixed.length, .int .i64 16, .fn 97 1 (tbl [.ptr 0 0])]]), fun i => i <= t.fixed.length /\ ∀ j, j < i -> fxdE t j = 0, fun i => t.fixed.length - i, ⟨0, ⟨Nat.zero_le _, fun _ h => by omega⟩, .le ⟨rfl, rfZ, rfZ⟩⟩, fun i ⟨hi, h0⟩ => ?_⟩
    repeat' (first
     | (refine Ax.go ?_; first | (with_reducible (apply altM (ks := [0]) (m := 0); apply And.intro; apply Sc.of; apply (c97 hX t hs i ?_))) | (with_reducible apply Alt.one))
     | exact Cl.go
     | ((fail_if_success refine Stop.go ?_); first | (with_reducible first | apply And.intro | apply Cut.go | (refine impI ?_; intro _)) | (refine propI ?_; conv => whnf)))
    all_goals try exact nbZ
    all_goals (rename_i h2)
    all_goals first
     | exact .of ⟨by decide, by decide⟩
     | (have h2 := of_decide_eq_true h2; exact Side.mk (by omega))
     | (have h2 := of_decide_eq_false h2
        exact ⟨4 + 1, ⟨by decide, lt_5 hz (p_none hl (fun j hj => h0 j (by show j < i; have hj : j < t.fixed.length := hj; omega)))⟩, by decide, .le ⟨rfl, ⟨.refl _, .refl _, trivial⟩, rfZ⟩⟩)
     | (rename_i h1; have h1 := of_decide_eq_true h1; simp only [decide_eq_true_eq, decide_eq_false_iff_not, beq_iff_eq, bne_iff_ne, beq_eq_false_iff_ne, bne_eq_false_iff_eq, ne_eq, Int.not_lt, Int.not_le, Nat.not_lt, Nat.not_le, Decidable.not_not, Int.toNat_natCast] at h2
        first
         | exact .of ⟨by omega, by omega⟩
         | exact ⟨i + 1, ⟨by omega, all_lt h0 h2⟩, by show t.fixed.length - (i + 1) < t.fixed.length - i; omega, .le ⟨rfl, rfZ, rfZ⟩⟩
         | (have w := p_hit (p := 4) hl (show i < t.fixed.length by omega) h0 h2
            have w := part_hit h0t (by decide) hz w.1 w.2.1 w.2.2 h2
            exact .mk [] [] _ rfl (.le (.tups ⟨⟨trivial, .aggs ⟨⟨trivial, .intI w.2.1.symm⟩, .intI w.2.2.symm⟩⟩, .intI w.1.symm⟩)) trivial rfl))
  ·
   repeat' (first
    | (refine Ax.go ?_; first | (with_reducible apply Alt.one))
    | exact Cl.go
    | ((fail_if_success refine Stop.go ?_); first | (with_reducible first | apply And.intro | apply Cut.go | (refine impI ?_; intro _)) | (refine propI ?_; conv => whnf)))
   all_goals try exact nbZ
   all_goals try (rename_i h; exact absurd h (by decide))
   have w := part_none h0t hz
   exact .mk [] [] _ rfl (.le (.tups ⟨⟨trivial, .aggs ⟨⟨trivial, .intI w.2.1.symm⟩, .intI w.2.2.symm⟩⟩, .intI w.1.symm⟩)) trivial rfl
end
end Go.Fx
/-
 What is wrong with a tariff, by the reference.
-/
namespace Go.Fx
open Go.Proofs Go.RowKit
theorem zone_4 {t : Trf} {i : Nat} (h : nameB (t.zones.getD i bs0) = false) : zoneE t i = 4 := by unfold zoneE; rw [h]; rfl
theorem zone_x {t : Trf} {i : Nat} {b : Bool} (h : nameB (t.zones.getD i bs0) = true) (h2 : hasB (t.zones.take i) (t.zones.take i).length (t.zones.getD i bs0) = b) (hi : i < t.zones.length) : zoneE t i = bif b then 5 else 0 := by
 rw [hasB_take (by omega)] at h2
 unfold zoneE; rw [h, h2]; rfl
theorem hol_take {t : Trf} {i : Nat} (hi : i < t.hol.length) (h0 : ∀ j, j < i -> holE t j = 0) : riseE 0 100000 2 (t.hol.take (i + 1)) = holE t i := by
 have e : ∀ j, j < i + 1 -> riseAt 0 100000 2 (t.hol.take (i + 1)) j = holE t j := fun j hj => by
  unfold holE riseAt
  rw [take_of hj, take_of (show j - 1 < i + 1 by omega)]
 have hl : (t.hol.take (i + 1)).length = i + 1 := by rw [List.length_take]; omega
 by_cases hz : holE t i = 0
 ·rw [hz]
  refine rise_none fun j hj => ?_
  rw [e j (by omega)]
  rcases Nat.lt_succ_iff_lt_or_eq.1 (show j < i + 1 by omega) with h | h
  ·exact h0 j h
  ·rw [h]; exact hz
 ·rw [rise_hit (i := i) (by omega) (fun j hj => by rw [e j (by omega)]; exact h0 j hj) (by rw [e i (by omega)]; exact hz), e i (by omega)]
theorem ruli_4 {t : Trf} {i : Nat} (h : nameB (t.rules.getD i rul0).name = false) : ruliE t i = 4 := by unfold ruliE; rw [h]; rfl
theorem ruli_5 {t : Trf} {i k : Nat} (h : nameB (t.rules.getD i rul0).name = true) (hk : k < i) (h2 : decide ((t.rules.getD k rul0).name = (t.rules.getD i rul0).name) = true) : ruliE t i = 5 := by
 unfold ruliE; rw [h, any_hit (p := fun k => decide ((t.rules.getD k rul0).name = (t.rules.getD i rul0).name)) hk h2]; rfl
theorem ruli_e {t : Trf} {i : Nat} (h : nameB (t.rules.getD i rul0).name = true) (h2 : ∀ k, k < i -> decide ((t.rules.getD k rul0).name = (t.rules.getD i rul0).name) = false) : ruliE t i = ruleE t.zones.length (t.rules.getD i rul0) := by
 unfold ruliE; rw [h, any_none (p := fun k => decide ((t.rules.getD k rul0).name = (t.rules.getD i rul0).name)) h2]; rfl
theorem ext_4 {t : Trf} {i : Nat} (h : nameB (t.extras.getD i ext0).name = false) : extE t i = 4 := by unfold extE; rw [h]; rfl
theorem ext_5 {t : Trf} {i k : Nat} (h : nameB (t.extras.getD i ext0).name = true) (hk : k < i) (h2 : decide ((t.extras.getD k ext0).name = (t.extras.getD i ext0).name) = true) : extE t i = 5 := by
 unfold extE; rw [h, any_hit (p := fun k => decide ((t.extras.getD k ext0).name = (t.extras.getD i ext0).name)) hk h2]; rfl
theorem ext_e {t : Trf} {i : Nat} (h : nameB (t.extras.getD i ext0).name = true) (h2 : ∀ k, k < i -> decide ((t.extras.getD k ext0).name = (t.extras.getD i ext0).name) = false) : extE t i = isOk (inB (t.extras.getD i ext0).am 0 100000) 2 := by
 unfold extE; rw [h, any_none (p := fun k => decide ((t.extras.getD k ext0).name = (t.extras.getD i ext0).name)) h2]; rfl
abbrev sameF (t : Trf) (i k : Nat) : Bool := bif (t.fixed.getD k fxd0).fr == (t.fixed.getD i fxd0).fr then (t.fixed.getD k fxd0).tt == (t.fixed.getD i fxd0).tt else false
theorem fxd_6 {t : Trf} {i : Nat} (h : (bif !zoneIn t (t.fixed.getD i fxd0).fr then true else !zoneIn t (t.fixed.getD i fxd0).tt) = true) : fxdE t i = 6 := by
 unfold fxdE; rw [both_eq, h]; rfl
theorem fxd_2 {t : Trf} {i : Nat} (h : (bif !zoneIn t (t.fixed.getD i fxd0).fr then true else !zoneIn t (t.fixed.getD i fxd0).tt) = false) (h2 : isOk (inB (t.fixed.getD i fxd0).am 0 100000) 2 ≠ 0) : fxdE t i = isOk (inB (t.fixed.getD i fxd0).am 0 100000) 2 := by
 unfold fxdE; rw [both_eq, h]
 cases hb : inB (t.fixed.getD i fxd0).am 0 100000 with
 | true => rw [hb] at h2; exact absurd rfl h2
 | false => rfl
theorem am_ok {n : Int} (h : isOk (inB n 0 100000) 2 = 0) : inB n 0 100000 = true := by
 cases hb : inB n 0 100000 with
 | true => rfl
 | false => rw [hb] at h; cases h
theorem fxd_5 {t : Trf} {i k : Nat} (h : (bif !zoneIn t (t.fixed.getD i fxd0).fr then true else !zoneIn t (t.fixed.getD i fxd0).tt) = false) (h2 : isOk (inB (t.fixed.getD i fxd0).am 0 100000) 2 = 0) (hk : k < i) (h3 : sameF t i k = true) : fxdE t i = 5 := by
 unfold fxdE; rw [both_eq, h, am_ok h2, any_hit (p := sameF t i) hk h3]; rfl
theorem fxd_0 {t : Trf} {i : Nat} (h : (bif !zoneIn t (t.fixed.getD i fxd0).fr then true else !zoneIn t (t.fixed.getD i fxd0).tt) = false) (h2 : isOk (inB (t.fixed.getD i fxd0).am 0 100000) 2 = 0) (h3 : ∀ k, k < i -> sameF t i k = false) : fxdE t i = 0 := by
 unfold fxdE; rw [both_eq, h, am_ok h2, any_none (p := sameF t i) h3]; rfl
theorem hit_out {t : Trf} (h0t : topE t = 0) {p : Nat} (hz : ∀ q, q < p -> pE t q = 0) (hp : p < 5) (hl : ¬ partM p < partN t p) {i : Nat} (hi : i < partN t p) (h0 : ∀ j, j < i -> partE t p j = 0) {e : Int} (he : partE t p i = e) (hne : e ≠ 0) : trfE t = e /\ trfL t = (p : Int) + 1 /\ trfN t = i := by
 have w := p_hit (p := p) hl hi h0 (by rw [he]; exact hne)
 exact part_hit h0t hp hz (w.1.trans he) w.2.1 w.2.2 hne
theorem top_4 {t : Trf} (h : nameB t.name = false) : topE t = 4 := by unfold topE; rw [h]; rfl
theorem top_2 {t : Trf} (h : nameB t.name = true) (h2 : (bif !inB t.unit 1 999999999 then true else isOk (inB t.step 0 100000) 2 != 0) = true) : topE t = 2 := by
 unfold topE; rw [h]
 cases h3 : inB t.unit 1 999999999 <;> cases h4 : inB t.step 0 100000 <;> simp_all [isOk]
theorem top_x {t : Trf} {b : Bool} (h : nameB t.name = true) (h2 : (bif !inB t.unit 1 999999999 then true else isOk (inB t.step 0 100000) 2 != 0) = false) (h3 : ((t.zones.length : Int) == 0) = b) : topE t = bif b then 10 else 0 := by
 unfold topE; rw [h, pos_eq, h3]
 cases h3 : inB t.unit 1 999999999 <;> cases h4 : inB t.step 0 100000 <;> cases b <;> simp_all [isOk]
section
variable {W0 : World} {G : Nat -> Option AV} (hX : (Xc W0 G).Good)
include hX
theorem c107 (t : Trf) (n : Int) (hs : Side (t.zones.length <= 1000)) : Pure (Xc W0 G) 107 [trfA t, .int .i64 n] (.bool (zoneIn t n)) := by
 have hs := hs.get
 refine mut_of' hX (fnI Tryz.f107) rfl ?_
 repeat' (first
  | (refine Ax.go ?_; first | (with_reducible apply callAlt (c103 hX _ _ _)) | (with_reducible apply Alt.one))
  | exact Cl.go
  | ((fail_if_success refine Stop.go ?_); first | (with_reducible first | apply And.intro | apply Cut.go | (refine impI ?_; intro _)) | (refine propI ?_; conv => whnf)))
 all_goals try exact nbZ
 all_goals first | exact .mk [] [] _ rfl (.le (.refl _)) trivial rfl | exact .of ⟨by omega, by omega⟩
set_option maxHeartbeats 4000000 in
theorem c46 (t : Trf) (hs : Side (TOk t)) : Pure (Xc W0 G) 46 [trfA t] (trfR t) := by
 have ok := hs.get
 refine mut_of' hX (fnI Tryz.f46) rfl ?_
 repeat' (first
  | (refine Ax.go ?_; first | (with_reducible apply callAlt (c101 hX t.name (Side.mk (ok.name)))) | (with_reducible apply callAlt (c103 hX _ _ _)) | (with_reducible apply callAlt (c104 hX _)) | (with_reducible apply Alt.one))
  | exact Cl.go
  | ((fail_if_success refine Stop.go ?_); first | (with_reducible first | apply And.intro | apply Cut.go | (refine impI ?_; intro _)) | (refine propI ?_; conv => whnf)))
 all_goals try exact nbZ
 all_goals (rename_i hd)
 ·simp only [Bool.not_eq_true', Bool.not_eq_false', Int.toNat_natCast, bne_iff_ne, bne_eq_false_iff_eq, ne_eq] at hd
  have w := top_ne (top_4 hd) (by decide)
  exact .mk [] [] _ rfl (.le (.tups ⟨⟨trivial, .aggs ⟨⟨trivial, .intI w.2.1.symm⟩, .intI w.2.2.symm⟩⟩, .intI w.1.symm⟩)) trivial rfl
 ·rename_i h1; simp only [Bool.not_eq_true', Bool.not_eq_false', Int.toNat_natCast, bne_iff_ne, bne_eq_false_iff_eq, ne_eq] at h1
  have w := top_ne (top_2 h1 hd) (by decide)
  exact .mk [] [] _ rfl (.le (.tups ⟨⟨trivial, .aggs ⟨⟨trivial, .intI w.2.1.symm⟩, .intI w.2.2.symm⟩⟩, .intI w.1.symm⟩)) trivial rfl
 ·rename_i h1 h2; simp only [Bool.not_eq_true', Bool.not_eq_false', Int.toNat_natCast, bne_iff_ne, bne_eq_false_iff_eq, ne_eq] at h1
  have w := top_ne (top_x h1 h2 hd) (by decide)
  exact .mk [] [] _ rfl (.le (.tups ⟨⟨trivial, .aggs ⟨⟨trivial, .intI w.2.1.symm⟩, .intI w.2.2.symm⟩⟩, .intI w.1.symm⟩)) trivial rfl
 ·rename_i h1 h2 h3; simp only [Bool.not_eq_true', Bool.not_eq_false', Int.toNat_natCast, bne_iff_ne, bne_eq_false_iff_eq, ne_eq] at h1
  have h0t : topE t = 0 := top_x h1 h2 h3
  have hd := of_decide_eq_true hd
  have w := p_large (t := t) (p := 0) (by show 6 < t.zones.length; omega)
  have w := part_hit h0t (by decide) (fun q hq => absurd hq (Nat.not_lt_zero _)) w.1 w.2.1 w.2.2 (by decide)
  exact .mk [] [] _ rfl (.le (.tups ⟨⟨trivial, .aggs ⟨⟨trivial, .intI w.2.1.symm⟩, .intI w.2.2.symm⟩⟩, .intI w.1.symm⟩)) trivial rfl
 ·rename_i h1 h2 h3; simp only [Bool.not_eq_true', Bool.not_eq_false', Int.toNat_natCast, bne_iff_ne, bne_eq_false_iff_eq, ne_eq] at h1
  have h0t : topE t = 0 := top_x h1 h2 h3
  have hz : ∀ q, q < 0 -> pE t q = 0 := fun q hq => absurd hq (Nat.not_lt_zero _)
  have hb0 : t.zones.length <= 1000 := ok.zones
  have hl : ¬ partM 0 < partN t 0 := by show ¬ 6 < t.zones.length; have h := of_decide_eq_false hd; omega
  refine ⟨Nat, fun i => ([(1, .ptr 0 0), (2, .ptr 1 0), (4, .ptr 2 0), (5, .int .i64 8), (6, .int .i64 i)], [.box (trfC t), .box [.int .i64 0, .int .i64 0], .box [.int .i64 0, .int .i64 0]]), fun i => i <= t.zones.length /\ ∀ j, j < i -> zoneE t j = 0, fun i => t.zones.length - i, ⟨0, ⟨Nat.zero_le _, fun _ h => by omega⟩, .le ⟨rfl, rfZ, rfZ⟩⟩, fun i ⟨hi, h0⟩ => ?_⟩
  repeat' (first
   | (refine Ax.go ?_; first | (with_reducible apply callAlt (c101 hX (t.zones.getD i bs0) (Side.mk (ok.zone i)))) | (with_reducible apply callAlt (c43 hX (t.zones.take i) (t.zones.getD i bs0) (Side.mk (by rw [List.length_take]; have := ok.zones; omega)))) | (with_reducible apply Alt.one))
   | ((with_reducible refine Ar.go ?_); first | exact ⟨le_preI (es := 1) (n := (t.zones.take i).length) (by rw [List.length_take]; simp only [Int.toNat_natCast, Int.toNat_zero]; omega) (fun a j ha => by show AV.str (t.zones.getD (0 + a) bs0) = AV.str ((t.zones.take i).getD a bs0); rw [Nat.zero_add, take_of (by simp only [Int.toNat_natCast, Int.toNat_zero] at ha; omega)]), .refl _, trivial⟩)
   | exact Cl.go
   | ((fail_if_success refine Stop.go ?_); first | (with_reducible first | apply And.intro | apply Cut.go | (refine impI ?_; intro _)) | (refine propI ?_; conv => whnf)))
  all_goals try (exact .of (Nat.le_of_ble_eq_true rfl))
  all_goals try (rename_i h1; have h1 := of_decide_eq_true h1; first | exact .of ⟨by omega, by omega⟩ | exact .of ⟨by omega, by omega, by omega⟩)
  all_goals try (rename_i h1 h2; have h1 := of_decide_eq_true h1; simp only [Bool.not_eq_true', Bool.not_eq_false', Int.toNat_natCast, bne_iff_ne, bne_eq_false_iff_eq, ne_eq] at h2; first | exact .of ⟨by omega, by omega⟩ | exact .of ⟨by omega, by omega, by omega⟩ | (have w := hit_out h0t hz (by decide) hl (show i < t.zones.length by omega) h0 (zone_4 h2) (by decide); exact .mk [] [] _ rfl (.le (.tups ⟨⟨trivial, .aggs ⟨⟨trivial, .intI w.2.1.symm⟩, .intI w.2.2.symm⟩⟩, .intI w.1.symm⟩)) trivial rfl))
  all_goals try (rename_i h1 h2 h3; have h1 := of_decide_eq_true h1; simp only [Bool.not_eq_true', Bool.not_eq_false', Int.toNat_natCast, bne_iff_ne, bne_eq_false_iff_eq, ne_eq] at h2 h3; first | exact .of ⟨by omega, by omega⟩ | exact .of ⟨by omega, by omega, by omega⟩ | exact ⟨i + 1, ⟨by omega, all_lt h0 (zone_x h2 h3 (by omega))⟩, by show t.zones.length - (i + 1) < t.zones.length - i; omega, .le ⟨rfl, rfZ, rfZ⟩⟩ | (have w := hit_out h0t hz (by decide) hl (show i < t.zones.length by omega) h0 (zone_x h2 h3 (by omega)) (by decide); exact .mk [] [] _ rfl (.le (.tups ⟨⟨trivial, .aggs ⟨⟨trivial, .intI w.2.1.symm⟩, .intI w.2.2.symm⟩⟩, .intI w.1.symm⟩)) trivial rfl))
  all_goals (rename_i hx)
  ·rename_i he
   have he := of_decide_eq_false he
   have hx := of_decide_eq_true hx
   have hzp := lt_5 hz (p_none (p := 0) hl (fun j hj => h0 j (by have hj : j < t.zones.length := hj; omega)))
   have w := p_large (t := t) (p := 1) (by show 20 < t.hol.length; omega)
   have w := part_hit h0t (by decide) hzp w.1 w.2.1 w.2.2 (by decide)
   exact .mk [] [] _ rfl (.le (.tups ⟨⟨trivial, .aggs ⟨⟨trivial, .intI w.2.1.symm⟩, .intI w.2.2.symm⟩⟩, .intI w.1.symm⟩)) trivial rfl
  ·rename_i he
   have he := of_decide_eq_false he
   have hzp := lt_5 hz (p_none (p := 0) hl (fun j hj => h0 j (by have hj : j < t.zones.length := hj; omega)))
   clear hz h0 hl hi
   have hz := hzp
   have hd := hx
   have hb1 : t.hol.length <= 1000 := ok.hol
   have hl : ¬ partM 1 < partN t 1 := by show ¬ 20 < t.hol.length; have h := of_decide_eq_false hd; omega
   refine ⟨Nat, fun i => ([(1, .ptr 0 0), (2, .ptr 1 0), (4, .ptr 2 0), (5, .int .i64 8), (8, .int .i64 i)], [.box (trfC t), .box [.int .i64 0, .int .i64 0], .box [.int .i64 0, .int .i64 0]]), fun i => i <= t.hol.length /\ ∀ j, j < i -> holE t j = 0, fun i => t.hol.length - i, ⟨0, ⟨Nat.zero_le _, fun _ h => by omega⟩, .le ⟨rfl, rfZ, rfZ⟩⟩, fun i ⟨hi, h0⟩ => ?_⟩
   repeat' (first
    | (refine Ax.go ?_; first | (with_reducible apply callAlt (c105 hX 0 100000 2 (t.hol.take (i + 1)) (by decide) (Side.mk (by rw [List.length_take]; have := ok.hol; omega)))) | (with_reducible apply Alt.one))
    | ((with_reducible refine Ar.go ?_); first | exact ⟨le_preI (es := 1) (n := (t.hol.take (i + 1)).length) (by have q := of_decide_eq_true ‹decide ((i : Int) < (t.hol.length : Int)) = true›; rw [List.length_take]; show ((i : Int) + 1).toNat - 0 = _; omega) (fun a j ha => by show AV.int .i64 (t.hol.getD (0 + a) 0) = AV.int .i64 ((t.hol.take (i + 1)).getD a 0); have ha : a < ((i : Int) + 1).toNat - 0 := ha; rw [Nat.zero_add, take_of (by omega)]), .refl _, .refl _, .refl _, trivial⟩)
    | exact Cl.go
    | ((fail_if_success refine Stop.go ?_); first | (with_reducible first | apply And.intro | apply Cut.go | (refine impI ?_; intro _)) | (refine propI ?_; conv => whnf)))
   all_goals try (exact .of (Nat.le_of_ble_eq_true rfl))
   all_goals try (rename_i h1; have h1 := of_decide_eq_true h1; first | exact .of ⟨by omega, by omega⟩ | exact .of ⟨by omega, by omega, by omega⟩)
   all_goals try (rename_i h1 h2; have h1 := of_decide_eq_true h1; simp only [Bool.not_eq_true', Bool.not_eq_false', Int.toNat_natCast, bne_iff_ne, bne_eq_false_iff_eq, ne_eq] at h2; rw [hol_take (by omega) h0] at h2; first | exact .of ⟨by omega, by omega⟩ | exact .of ⟨by omega, by omega, by omega⟩ | exact ⟨i + 1, ⟨by omega, all_lt h0 (h2)⟩, by show t.hol.length - (i + 1) < t.hol.length - i; omega, .le ⟨rfl, rfZ, rfZ⟩⟩ | (rw [hol_take (by omega) h0]; (have w := hit_out h0t hz (by decide) hl (show i < t.hol.length by omega) h0 (rfl) h2; exact .mk [] [] _ rfl (.le (.tups ⟨⟨trivial, .aggs ⟨⟨trivial, .intI w.2.1.symm⟩, .intI w.2.2.symm⟩⟩, .intI w.1.symm⟩)) trivial rfl)))
   all_goals (rename_i hx)
   ·rename_i he
    have he := of_decide_eq_false he
    have hx := of_decide_eq_true hx
    have hzp := lt_5 hz (p_none (p := 1) hl (fun j hj => h0 j (by have hj : j < t.hol.length := hj; omega)))
    have w := p_large (t := t) (p := 2) (by show 12 < t.rules.length; omega)
    have w := part_hit h0t (by decide) hzp w.1 w.2.1 w.2.2 (by decide)
    exact .mk [] [] _ rfl (.le (.tups ⟨⟨trivial, .aggs ⟨⟨trivial, .intI w.2.1.symm⟩, .intI w.2.2.symm⟩⟩, .intI w.1.symm⟩)) trivial rfl
   ·rename_i he
    have he := of_decide_eq_false he
    have hzp := lt_5 hz (p_none (p := 1) hl (fun j hj => h0 j (by have hj : j < t.hol.length := hj; omega)))
    clear hz h0 hl hi
    have hz := hzp
    have hd := hx
    have hb2 : t.rules.length <= 1000 := ok.rules
    have hl : ¬ partM 2 < partN t 2 := by show ¬ 12 < t.rules.length; have h := of_decide_eq_false hd; omega
    refine ⟨Nat, fun i => ([(1, .ptr 0 0), (2, .ptr 1 0), (4, .ptr 2 0), (5, .int .i64 8), (10, .int .i64 i)], [.box (trfC t), .box [.int .i64 0, .int .i64 0], .box [.int .i64 0, .int .i64 0]]), fun i => i <= t.rules.length /\ ∀ j, j < i -> ruliE t j = 0, fun i => t.rules.length - i, ⟨0, ⟨Nat.zero_le _, fun _ h => by omega⟩, .le ⟨rfl, rfZ, rfZ⟩⟩, fun i ⟨hi, h0⟩ => ?_⟩
    repeat' (first
     | (refine Ax.go ?_; first | (with_reducible apply callAlt (c101 hX (t.rules.getD i rul0).name (Side.mk (ok.rname i)))) | (with_reducible apply callAlt (c106 hX t (t.rules.getD i rul0) (Side.mk ⟨ok.zones, ok.rzones i, ok.rdays i⟩))) | (with_reducible apply Alt.one))
     | exact Cl.go
     | ((fail_if_success refine Stop.go ?_); first | (with_reducible first | apply And.intro | apply Cut.go | (refine impI ?_; intro _)) | (refine propI ?_; conv => whnf)))
    all_goals try (exact .of (Nat.le_of_ble_eq_true rfl))
    all_goals try (rename_i h1; have h1 := of_decide_eq_true h1; first | exact .of ⟨by omega, by omega⟩ | exact .of ⟨by omega, by omega, by omega⟩)
    all_goals try (rename_i h1 h2; have h1 := of_decide_eq_true h1; simp only [Bool.not_eq_true', Bool.not_eq_false', Int.toNat_natCast, bne_iff_ne, bne_eq_false_iff_eq, ne_eq] at h2; first | exact .of ⟨by omega, by omega⟩ | exact .of ⟨by omega, by omega, by omega⟩ | (have w := hit_out h0t hz (by decide) hl (show i < t.rules.length by omega) h0 (ruli_4 h2) (by decide); exact .mk [] [] _ rfl (.le (.tups ⟨⟨trivial, .aggs ⟨⟨trivial, .intI w.2.1.symm⟩, .intI w.2.2.symm⟩⟩, .intI w.1.symm⟩)) trivial rfl))
    ·rename_i g1 g2
     have g1 := of_decide_eq_true g1
     simp only [Bool.not_eq_true', Bool.not_eq_false', Int.toNat_natCast, bne_iff_ne, bne_eq_false_iff_eq, ne_eq] at g2
     refine ⟨Nat, fun k => ([(1, .ptr 0 0), (2, .ptr 1 0), (4, .ptr 2 0), (5, .int .i64 8), (10, .int .i64 i), (11, .ptr 3 0), (12, .int .i64 k)], [.box (trfC t), .box [.int .i64 0, .int .i64 0], .box [.int .i64 0, .int .i64 0], .box [.int .i64 3, .int .i64 i]]), fun k => k <= i /\ ∀ k', k' < k -> (fun k => decide ((t.rules.getD k rul0).name = (t.rules.getD i rul0).name)) k' = false, fun k => i - k, ⟨0, ⟨Nat.zero_le _, fun _ h => by omega⟩, .le ⟨rfl, rfZ, rfZ⟩⟩, fun k ⟨hk, k0⟩ => ?_⟩
     repeat' (first
      | (refine Ax.go ?_; first | (with_reducible apply callAlt (c101 hX (t.rules.getD i rul0).name (Side.mk (ok.rname i)))) | (with_reducible apply callAlt (c106 hX t (t.rules.getD i rul0) (Side.mk ⟨ok.zones, ok.rzones i, ok.rdays i⟩))) | (with_reducible apply Alt.one))
      | exact Cl.go
      | ((fail_if_success refine Stop.go ?_); first | (with_reducible first | apply And.intro | apply Cut.go | (refine impI ?_; intro _)) | (refine propI ?_; conv => whnf)))
     all_goals try (exact .of (Nat.le_of_ble_eq_true rfl))
     all_goals try (rename_i q1; have q1 := of_decide_eq_true q1; first | exact .of ⟨by omega, by omega⟩ | exact .of ⟨by omega, by omega, by omega⟩ | exact Sc.imp fun _ => ⟨by omega, by omega⟩)
     all_goals try (rename_i q1 q2; have q1 := of_decide_eq_true q1; simp only [Int.toNat_natCast] at q2; first | exact .of ⟨by omega, by omega⟩ | exact .of ⟨by omega, by omega, by omega⟩ | exact ⟨k + 1, ⟨by omega, all_lt k0 q2⟩, by show i - (k + 1) < i - k; omega, .le ⟨rfl, rfZ, rfZ⟩⟩ | (have w := hit_out h0t hz (by decide) hl (show i < t.rules.length by omega) h0 (ruli_5 g2 (by omega) q2) (by decide); exact .mk [] [] _ rfl (.le (.tups ⟨⟨trivial, .aggs ⟨⟨trivial, .intI w.2.1.symm⟩, .intI w.2.2.symm⟩⟩, .intI w.1.symm⟩)) trivial rfl))
     all_goals try (rename_i q1; have q1 := of_decide_eq_false q1; first | exact .of ⟨by omega, by omega⟩ | exact .of ⟨by omega, by omega, by omega⟩)
     all_goals (rename_i q1 q2; have q1 := of_decide_eq_false q1; simp only [Bool.not_eq_true', Bool.not_eq_false', Int.toNat_natCast, bne_iff_ne, bne_eq_false_iff_eq, ne_eq] at q2; first | exact .of ⟨by omega, by omega⟩ | exact .of ⟨by omega, by omega, by omega⟩ | exact ⟨i + 1, ⟨by omega, all_lt h0 ((ruli_e g2 (fun k' hk' => k0 k' (by omega))).trans q2)⟩, by show t.rules.length - (i + 1) < t.rules.length - i; omega, .le ⟨rfl, rfZ, rfZ⟩⟩ | (have w := hit_out h0t hz (by decide) hl (show i < t.rules.length by omega) h0 (ruli_e g2 (fun k' hk' => k0 k' (by omega))) q2; exact .mk [] [] _ rfl (.le (.tups ⟨⟨trivial, .aggs ⟨⟨trivial, .intI w.2.1.symm⟩, .intI w.2.2.symm⟩⟩, .intI w.1.symm⟩)) trivial rfl))
    all_goals (rename_i hx)
    ·rename_i he
     have he := of_decide_eq_false he
     have hx := of_decide_eq_true hx
     have hzp := lt_5 hz (p_none (p := 2) hl (fun j hj => h0 j (by have hj : j < t.rules.length := hj; omega)))
     have w := p_large (t := t) (p := 3) (by show 6 < t.extras.length; omega)
     have w := part_hit h0t (by decide) hzp w.1 w.2.1 w.2.2 (by decide)
     exact .mk [] [] _ rfl (.le (.tups ⟨⟨trivial, .aggs ⟨⟨trivial, .intI w.2.1.symm⟩, .intI w.2.2.symm⟩⟩, .intI w.1.symm⟩)) trivial rfl
    ·rename_i he
     have he := of_decide_eq_false he
     have hzp := lt_5 hz (p_none (p := 2) hl (fun j hj => h0 j (by have hj : j < t.rules.length := hj; omega)))
     clear hz h0 hl hi
     have hz := hzp
     have hd := hx
     have hb3 : t.extras.length <= 1000 := ok.extras
     have hl : ¬ partM 3 < partN t 3 := by show ¬ 6 < t.extras.length; have h := of_decide_eq_false hd; omega
     refine ⟨Nat, fun i => ([(1, .ptr 0 0), (2, .ptr 1 0), (4, .ptr 2 0), (5, .int .i64 8), (14, .int .i64 i)], [.box (trfC t), .box [.int .i64 0, .int .i64 0], .box [.int .i64 0, .int .i64 0]]), fun i => i <= t.extras.length /\ ∀ j, j < i -> extE t j = 0, fun i => t.extras.length - i, ⟨0, ⟨Nat.zero_le _, fun _ h => by omega⟩, .le ⟨rfl, rfZ, rfZ⟩⟩, fun i ⟨hi, h0⟩ => ?_⟩
     repeat' (first
      | (refine Ax.go ?_; first | (with_reducible apply callAlt (c101 hX (t.extras.getD i ext0).name (Side.mk (ok.ename i)))) | (with_reducible apply callAlt (c104 hX _)) | (with_reducible apply Alt.one))
      | exact Cl.go
      | ((fail_if_success refine Stop.go ?_); first | (with_reducible first | apply And.intro | apply Cut.go | (refine impI ?_; intro _)) | (refine propI ?_; conv => whnf)))
     all_goals try (exact .of (Nat.le_of_ble_eq_true rfl))
     all_goals try (rename_i h1; have h1 := of_decide_eq_true h1; first | exact .of ⟨by omega, by omega⟩ | exact .of ⟨by omega, by omega, by omega⟩)
     all_goals try (rename_i h1 h2; have h1 := of_decide_eq_true h1; simp only [Bool.not_eq_true', Bool.not_eq_false', Int.toNat_natCast, bne_iff_ne, bne_eq_false_iff_eq, ne_eq] at h2; first | exact .of ⟨by omega, by omega⟩ | exact .of ⟨by omega, by omega, by omega⟩ | (have w := hit_out h0t hz (by decide) hl (show i < t.extras.length by omega) h0 (ext_4 h2) (by decide); exact .mk [] [] _ rfl (.le (.tups ⟨⟨trivial, .aggs ⟨⟨trivial, .intI w.2.1.symm⟩, .intI w.2.2.symm⟩⟩, .intI w.1.symm⟩)) trivial rfl))
     ·rename_i g1 g2
      have g1 := of_decide_eq_true g1
      simp only [Bool.not_eq_true', Bool.not_eq_false', Int.toNat_natCast, bne_iff_ne, bne_eq_false_iff_eq, ne_eq] at g2
      refine ⟨Nat, fun k => ([(1, .ptr 0 0), (2, .ptr 1 0), (4, .ptr 2 0), (5, .int .i64 8), (14, .int .i64 i), (15, .ptr 3 0), (16, .int .i64 k)], [.box (trfC t), .box [.int .i64 0, .int .i64 0], .box [.int .i64 0, .int .i64 0], .box [.int .i64 4, .int .i64 i]]), fun k => k <= i /\ ∀ k', k' < k -> (fun k => decide ((t.extras.getD k ext0).name = (t.extras.getD i ext0).name)) k' = false, fun k => i - k, ⟨0, ⟨Nat.zero_le _, fun _ h => by omega⟩, .le ⟨rfl, rfZ, rfZ⟩⟩, fun k ⟨hk, k0⟩ => ?_⟩
      repeat' (first
       | (refine Ax.go ?_; first | (with_reducible apply callAlt (c101 hX (t.extras.getD i ext0).name (Side.mk (ok.ename i)))) | (with_reducible apply callAlt (c104 hX _)) | (with_reducible apply Alt.one))
       | exact Cl.go
       | ((fail_if_success refine Stop.go ?_); first | (with_reducible first | apply And.intro | apply Cut.go | (refine impI ?_; intro _)) | (refine propI ?_; conv => whnf)))
      all_goals try (exact .of (Nat.le_of_ble_eq_true rfl))
      all_goals try (rename_i q1; have q1 := of_decide_eq_true q1; first | exact .of ⟨by omega, by omega⟩ | exact .of ⟨by omega, by omega, by omega⟩ | exact Sc.imp fun _ => ⟨by omega, by omega⟩)
      all_goals try (rename_i q1 q2; have q1 := of_decide_eq_true q1; simp only [Int.toNat_natCast] at q2; first | exact .of ⟨by omega, by omega⟩ | exact .of ⟨by omega, by omega, by omega⟩ | exact ⟨k + 1, ⟨by omega, all_lt k0 q2⟩, by show i - (k + 1) < i - k; omega, .le ⟨rfl, rfZ, rfZ⟩⟩ | (have w := hit_out h0t hz (by decide) hl (show i < t.extras.length by omega) h0 (ext_5 g2 (by omega) q2) (by decide); exact .mk [] [] _ rfl (.le (.tups ⟨⟨trivial, .aggs ⟨⟨trivial, .intI w.2.1.symm⟩, .intI w.2.2.symm⟩⟩, .intI w.1.symm⟩)) trivial rfl))
      all_goals try (rename_i q1; have q1 := of_decide_eq_false q1; first | exact .of ⟨by omega, by omega⟩ | exact .of ⟨by omega, by omega, by omega⟩)
      all_goals (rename_i q1 q2; have q1 := of_decide_eq_false q1; simp only [Bool.not_eq_true', Bool.not_eq_false', Int.toNat_natCast, bne_iff_ne, bne_eq_false_iff_eq, ne_eq] at q2; first | exact .of ⟨by omega, by omega⟩ | exact .of ⟨by omega, by omega, by omega⟩ | exact ⟨i + 1, ⟨by omega, all_lt h0 ((ext_e g2 (fun k' hk' => k0 k' (by omega))).trans q2)⟩, by show t.extras.length - (i + 1) < t.extras.length - i; omega, .le ⟨rfl, rfZ, rfZ⟩⟩ | (have w := hit_out h0t hz (by decide) hl (show i < t.extras.length by omega) h0 (ext_e g2 (fun k' hk' => k0 k' (by omega))) q2; exact .mk [] [] _ rfl (.le (.tups ⟨⟨trivial, .aggs ⟨⟨trivial, .intI w.2.1.symm⟩, .intI w.2.2.symm⟩⟩, .intI w.1.symm⟩)) trivial rfl))
     all_goals (rename_i hx)
     ·rename_i he
      have he := of_decide_eq_false he
      have hx := of_decide_eq_true hx
      have hzp := lt_5 hz (p_none (p := 3) hl (fun j hj => h0 j (by have hj : j < t.extras.length := hj; omega)))
      have w := p_large (t := t) (p := 4) (by show 16 < t.fixed.length; omega)
      have w := part_hit h0t (by decide) hzp w.1 w.2.1 w.2.2 (by decide)
      exact .mk [] [] _ rfl (.le (.tups ⟨⟨trivial, .aggs ⟨⟨trivial, .intI w.2.1.symm⟩, .intI w.2.2.symm⟩⟩, .intI w.1.symm⟩)) trivial rfl
     ·rename_i he
      have he := of_decide_eq_false he
      have hzp := lt_5 hz (p_none (p := 3) hl (fun j hj => h0 j (by have hj : j < t.extras.length := hj; omega)))
      clear hz h0 hl hi
      have hz := hzp
      have hd := hx
      have hb4 : t.fixed.length <= 1000 := ok.fixed
      have hl : ¬ partM 4 < partN t 4 := by show ¬ 16 < t.fixed.length; have h := of_decide_eq_false hd; omega
      refine ⟨Nat, fun i => ([(1, .ptr 0 0), (2, .ptr 1 0), (4, .ptr 2 0), (18, .int .i64 i)], [.box (trfC t), .box [.int .i64 0, .int .i64 0], .box [.int .i64 0, .int .i64 0]]), fun i => i <= t.fixed.length /\ ∀ j, j < i -> fxdE t j = 0, fun i => t.fixed.length - i, ⟨0, ⟨Nat.zero_le _, fun _ h => by omega⟩, .le ⟨rfl, rfZ, rfZ⟩⟩, fun i ⟨hi, h0⟩ => ?_⟩
      repeat' (first
       | (refine Ax.go ?_; first | (with_reducible apply callAlt (c107 hX t _ (Side.mk ok.zones))) | (with_reducible apply callAlt (c104 hX _)) | (with_reducible apply Alt.one))
       | exact Cl.go
       | ((fail_if_success refine Stop.go ?_); first | (with_reducible first | apply And.intro | apply Cut.go | (refine impI ?_; intro _)) | (refine propI ?_; conv => whnf)))
      all_goals try (exact .of (Nat.le_of_ble_eq_true rfl))
      all_goals try (rename_i h1; have h1 := of_decide_eq_true h1; first | exact .of ⟨by omega, by omega⟩ | exact .of ⟨by omega, by omega, by omega⟩)
      all_goals try (rename_i h1 h2; have h1 := of_decide_eq_true h1; simp only [Bool.not_eq_true', Bool.not_eq_false', Int.toNat_natCast, bne_iff_ne, bne_eq_false_iff_eq, ne_eq] at h2; first | exact .of ⟨by omega, by omega⟩ | exact .of ⟨by omega, by omega, by omega⟩ | (have w := hit_out h0t hz (by decide) hl (show i < t.fixed.length by omega) h0 (fxd_6 h2) (by decide); exact .mk [] [] _ rfl (.le (.tups ⟨⟨trivial, .aggs ⟨⟨trivial, .intI w.2.1.symm⟩, .intI w.2.2.symm⟩⟩, .intI w.1.symm⟩)) trivial rfl))
      all_goals try (rename_i h1 h2 h3; have h1 := of_decide_eq_true h1; simp only [Bool.not_eq_true', Bool.not_eq_false', Int.toNat_natCast, bne_iff_ne, bne_eq_false_iff_eq, ne_eq] at h2 h3; first | exact .of ⟨by omega, by omega⟩ | exact .of ⟨by omega, by omega, by omega⟩ | (have w := hit_out h0t hz (by decide) hl (show i < t.fixed.length by omega) h0 (fxd_2 h2 h3) h3; exact .mk [] [] _ rfl (.le (.tups ⟨⟨trivial, .aggs ⟨⟨trivial, .intI w.2.1.symm⟩, .intI w.2.2.symm⟩⟩, .intI w.1.symm⟩)) trivial rfl))
      ·rename_i g1 g2 g3
       have g1 := of_decide_eq_true g1
       simp only [Bool.not_eq_true', Bool.not_eq_false', Int.toNat_natCast, bne_iff_ne, bne_eq_false_iff_eq, ne_eq] at g2 g3
       refine ⟨Nat, fun k => ([(1, .ptr 0 0), (2, .ptr 1 0), (4, .ptr 2 0), (18, .int .i64 i), (19, .ptr 3 0), (20, .ptr 4 0), (22, .int .i64 k)], [.box (trfC t), .box [.int .i64 0, .int .i64 0], .box [.int .i64 0, .int .i64 0], .box [.int .i64 5, .int .i64 i], .box (fxdC (t.fixed.getD i fxd0))]), fun k => k <= i /\ ∀ k', k' < k -> (fun k => sameF t i k) k' = false, fun k => i - k, ⟨0, ⟨Nat.zero_le _, fun _ h => by omega⟩, .le ⟨rfl, rfZ, rfZ⟩⟩, fun k ⟨hk, k0⟩ => ?_⟩
       repeat' (first
        | (refine Ax.go ?_; first | (with_reducible apply callAlt (c107 hX t _ (Side.mk ok.zones))) | (with_reducible apply callAlt (c104 hX _)) | (with_reducible apply Alt.one))
        | exact Cl.go
        | ((fail_if_success refine Stop.go ?_); first | (with_reducible first | apply And.intro | apply Cut.go | (refine impI ?_; intro _)) | (refine propI ?_; conv => whnf)))
       all_goals try (exact .of (Nat.le_of_ble_eq_true rfl))
       all_goals try (rename_i q1; have q1 := of_decide_eq_true q1; first | exact .of ⟨by omega, by omega⟩ | exact .of ⟨by omega, by omega, by omega⟩ | exact Sc.imp fun _ => ⟨by omega, by omega⟩)
       all_goals try (rename_i q1 q2; have q1 := of_decide_eq_true q1; simp only [Int.toNat_natCast] at q2; first | exact .of ⟨by omega, by omega⟩ | exact .of ⟨by omega, by omega, by omega⟩ | exact ⟨k + 1, ⟨by omega, all_lt k0 q2⟩, by show i - (k + 1) < i - k; omega, .le ⟨rfl, rfZ, rfZ⟩⟩ | (have w := hit_out h0t hz (by decide) hl (show i < t.fixed.length by omega) h0 (fxd_5 g2 g3 (by omega) q2) (by decide); exact .mk [] [] _ rfl (.le (.tups ⟨⟨trivial, .aggs ⟨⟨trivial, .intI w.2.1.symm⟩, .intI w.2.2.symm⟩⟩, .intI w.1.symm⟩)) trivial rfl))
       all_goals (rename_i q1; have q1 := of_decide_eq_false q1; first | exact .of ⟨by omega, by omega⟩ | exact .of ⟨by omega, by omega, by omega⟩ | exact ⟨i + 1, ⟨by omega, all_lt h0 (fxd_0 g2 g3 (fun k' hk' => k0 k' (by omega)))⟩, by show t.fixed.length - (i + 1) < t.fixed.length - i; omega, .le ⟨rfl, rfZ, rfZ⟩⟩)
      all_goals (rename_i hx)
      have he := of_decide_eq_false hx
      have hzp := lt_5 hz (p_none (p := 4) hl (fun j hj => h0 j (by have hj : j < t.fixed.length := hj; omega)))
      have w := part_none h0t hzp
      exact .mk [] [] _ rfl (.le (.tups ⟨⟨trivial, .aggs ⟨⟨trivial, .intI w.2.1.symm⟩, .intI w.2.2.symm⟩⟩, .intI w.1.symm⟩)) trivial rfl
end
end Go.Fx
/-
 Copies of tariffs; few parts.
-/
namespace Go.Fx
open Go.Proofs Go.RowKit
theorem Le.ofEq {a b : AV} (h : a = b) : Le a b := by rw [h]; exact .refl _
theorem put_same {l : List Rul} {i a j : Nat} : putF i 4 [iRow (l.getD i rul0).days] (putF i 3 [iRow (l.getD i rul0).zones] (fun i j => tbl (rulC (l.getD i rul0)) j)) a j = tbl (rulC (l.getD a rul0)) j := by
 unfold putF
 by_cases h : a = i
 ·subst h
  by_cases h4 : j = 4
  ·subst h4; simp [tbl, rulC]
  ·by_cases h3 : j = 3
   ·subst h3; simp [tbl, rulC]
   ·rw [if_neg (fun q => h4 (by have := q.2; simp only [List.length_cons, List.length_nil] at this; omega)), if_neg (fun q => h3 (by have := q.2; simp only [List.length_cons, List.length_nil] at this; omega))]
 ·simp [h]
def manyB (n few most : Int) : Bool := bif (bif decide (few < n) then decide (n <= most) else false) then true else decide (most + 2 < n)
theorem many_no {n few most : Int} (h : manyB n few most = false) (h1 : few <= most + 2) : n <= most + 2 := by
 unfold manyB at h
 by_cases q : most + 2 < n
 ·simp [q] at h
 ·omega
def fewH (t : Trf) : Bool := bif (bif (bif (bif (bif decide (20 < (t.name.size : Int)) then true else manyB t.zones.length 3 6) then true else manyB t.hol.length 5 20) then true else manyB t.rules.length 4 12) then true else manyB t.extras.length 3 6) then true else manyB t.fixed.length 5 16
def fewZ (t : Trf) (i : Nat) : Bool := decide (20 < ((t.zones.getD i bs0).size : Int))
def fewR (t : Trf) (i : Nat) : Bool := bif (bif decide (20 < ((t.rules.getD i rul0).name.size : Int)) then true else decide (8 < ((t.rules.getD i rul0).zones.length : Int))) then true else decide (10 < ((t.rules.getD i rul0).days.length : Int))
def fewX (t : Trf) (i : Nat) : Bool := decide (20 < ((t.extras.getD i ext0).name.size : Int))
@[irreducible] def fewB (t : Trf) : Bool := bif fewH t then false else bif (List.range t.zones.length).any (fewZ t) then false else bif (List.range t.rules.length).any (fewR t) then false else !(List.range t.extras.length).any (fewX t)
theorem fewH_no {t : Trf} (h : fewH t = false) : t.name.size <= 20 /\ t.zones.length <= 8 /\ t.hol.length <= 22 /\ t.rules.length <= 14 /\ t.extras.length <= 8 /\ t.fixed.length <= 18 := by
 unfold fewH at h
 cases a0 : decide (20 < (t.name.size : Int)) <;> cases a1 : manyB t.zones.length 3 6 <;> cases a2 : manyB t.hol.length 5 20 <;> cases a3 : manyB t.rules.length 4 12 <;> cases a4 : manyB t.extras.length 3 6 <;> cases a5 : manyB t.fixed.length 5 16 <;> simp [a0, a1, a2, a3, a4, a5] at h
 have b0 := of_decide_eq_false a0
 have b1 := many_no a1 (by decide); have b2 := many_no a2 (by decide); have b3 := many_no a3 (by decide); have b4 := many_no a4 (by decide); have b5 := many_no a5 (by decide)
 exact ⟨by omega, by omega, by omega, by omega, by omega, by omega⟩
theorem any_no {p : Nat -> Bool} {n : Nat} (h : (List.range n).any p = false) {j : Nat} (hj : j < n) : p j = false := by
 rw [List.any_eq_false] at h
 have := h j (List.mem_range.2 hj)
 simpa using this
theorem getD_out {α : Type} {l : List α} {i : Nat} {d : α} (h : l.length <= i) : l.getD i d = d := by rw [List.getD_eq_getElem?_getD, List.getElem?_eq_none h]; rfl
theorem few_ok {t : Trf} (h : fewB t = true) : TOk t /\ t.rules.length <= 14 /\ t.extras.length <= 8 /\ t.zones.length <= 8 := by
 unfold fewB at h
 cases a0 : fewH t <;> rw [a0] at h <;> simp only [cond_true, cond_false] at h <;> first | (cases h; done) | skip
 obtain ⟨b0, b1, b2, b3, b4, b5⟩ := fewH_no a0
 cases a1 : (List.range t.zones.length).any (fewZ t) <;> rw [a1] at h <;> simp only [cond_true, cond_false] at h <;> first | (cases h; done) | skip
 cases a2 : (List.range t.rules.length).any (fewR t) <;> rw [a2] at h <;> simp only [cond_true, cond_false] at h <;> first | (cases h; done) | skip
 have a3 : (List.range t.extras.length).any (fewX t) = false := by simpa using h
 have hr : ∀ j, (t.rules.getD j rul0).name.size <= 1000 /\ (t.rules.getD j rul0).zones.length <= 1000 /\ (t.rules.getD j rul0).days.length <= 1000 := fun j => by
  rcases Nat.lt_or_ge j t.rules.length with hj | hj
  ·have := any_no a2 hj
   unfold fewR at this
   cases c0 : decide (20 < ((t.rules.getD j rul0).name.size : Int)) <;> cases c1 : decide (8 < ((t.rules.getD j rul0).zones.length : Int)) <;> cases c2 : decide (10 < ((t.rules.getD j rul0).days.length : Int)) <;> rw [c0, c1, c2] at this <;> first | (cases this; done) | skip
   have := of_decide_eq_false c0; have := of_decide_eq_false c1; have := of_decide_eq_false c2
   exact ⟨by omega, by omega, by omega⟩
  ·rw [getD_out hj]; decide
 refine ⟨⟨by omega, by omega, by omega, by omega, by omega, by omega, fun j => ?_, fun j => (hr j).1, fun j => (hr j).2.1, fun j => (hr j).2.2, fun j => ?_⟩, b3, b4, b1⟩
 ·rcases Nat.lt_or_ge j t.zones.length with hj | hj
  ·have := of_decide_eq_false (any_no a1 hj); omega
  ·rw [getD_out hj]; decide
 ·rcases Nat.lt_or_ge j t.extras.length with hj | hj
  ·have := of_decide_eq_false (any_no a3 hj); omega
  ·rw [getD_out hj]; decide
section
variable {W0 : World} {G : Nat -> Option AV} (hX : (Xc W0 G).Good)
include hX
set_option maxHeartbeats 1000000 in
theorem c27 (l : List Int) (hs : Side (l.length <= 1000)) : Pure (Xc W0 G) 27 [iRow l] (iRow l) := by
 have hs := hs.get
 refine mut_of' hX (fnI Tryz.f27) rfl ?_
 repeat' (first
  | (refine Ax.go ?_; first | (with_reducible apply Alt.one))
  | exact Cl.go
  | ((fail_if_success refine Stop.go ?_); first | (with_reducible first | apply And.intro | apply Cut.go | (refine impI ?_; intro _)) | (refine propI ?_; conv => whnf)))
 all_goals try exact nbZ
 all_goals first
  | (refine Sc.of ⟨?_, by omega⟩; show l.length * 8 <= 140737488355328; omega)
  | exact .mk [] [0] _ rfl (.own rfl fun _ _ _ _ => .refl _) trivial rfl
end
end Go.Fx
/-
 What a right tariff is.
-/
namespace Go.Fx
open Go.Proofs Go.RowKit
theorem firstS_zero : ∀ {l : List Int}, firstS l = 0 -> ∀ x ∈ l, x = 0
 | [], _, x, hx => by simp at hx
 | a :: l, h, x, hx => by
  by_cases ha : a = 0
  ·simp only [firstS, ha, decide_true, cond_true] at h
   rcases List.mem_cons.1 hx with h1 | h1
   ·rw [h1, ha]
   ·exact firstS_zero h x h1
  ·simp only [firstS, decide_eq_false ha, cond_false] at h
   exact absurd h ha
theorem isOk_0 {b : Bool} {e : Int} (h : isOk b e = 0) (he : e ≠ 0) : b = true := by
 cases b with
 | true => rfl
 | false => exact absurd h he
theorem from_0 (t : Trf) : ∀ (k b : Nat), fromE t b k = 0 -> ∀ q, b <= q -> q < b + k -> pE t q = 0
 | 0, b, _, q, h1, h2 => by omega
 | k + 1, b, h, q, h1, h2 => by
  by_cases hb : pE t b = 0
  ·simp only [fromE, hb, decide_true, cond_true] at h
   by_cases e : q = b
   ·rw [e]; exact hb
   ·exact from_0 t k (b + 1) h q (by omega) (by omega)
  ·simp only [fromE, decide_eq_false hb, cond_false] at h
   exact absurd h hb
theorem trf_0 {t : Trf} (h : trfE t = 0) : topE t = 0 /\ ∀ q, q < 5 -> pE t q = 0 := by
 unfold trfE at h
 by_cases h0 : topE t = 0
 ·rw [h0] at h
  exact ⟨h0, fun q hq => from_0 t 5 0 h q (Nat.zero_le _) (by omega)⟩
 ·rw [decide_eq_false h0] at h
  exact absurd h h0
theorem pE_0 {t : Trf} {p : Nat} (h : pE t p = 0) : partN t p <= partM p /\ ∀ j, j < partN t p -> partE t p j = 0 := by
 unfold pE at h
 by_cases h0 : partM p < partN t p
 ·rw [decide_eq_true h0] at h; cases h
 ·rw [decide_eq_false h0] at h
  refine ⟨by omega, fun j hj => ?_⟩
  have := scan_zero (g := partE t p) (d := 0) (l := List.range (partN t p)) h j (by simpa using hj)
  rwa [range_at hj] at this
structure ROk (nz : Int) (r : Rul) : Prop where
 fr : 0 <= r.fr /\ r.fr <= 100000
 tt : 0 <= r.tt /\ r.tt <= 100000
 ord : r.fr <= r.tt
 bg : 0 <= r.bg /\ r.bg <= 86399
 en : 0 <= r.en /\ r.en <= 86400
 st : 0 <= r.st /\ r.st <= 100000
 me : 0 <= r.me /\ r.me <= 1000000
 se : 0 <= r.se /\ r.se <= 1000000
theorem and_t {a b : Bool} (h : (bif a then b else false) = true) : a = true /\ b = true := by cases a <;> cases b <;> simp_all
theorem rule_0 {nz : Int} {r : Rul} (h : ruleE nz r = 0) : ROk nz r := by
 unfold ruleE at h
 have z := firstS_zero h
 have z0 := and_t (isOk_0 (z _ (by simp)) (e := 2) (b := bif inB r.fr 0 100000 then inB r.tt 0 100000 else false) (by decide))
 have z1 := isOk_0 (b := decide (r.fr <= r.tt)) (e := 9) (z _ (by simp)) (by decide)
 have z5 := and_t (isOk_0 (b := bif (bif inB r.bg 0 86399 then inB r.en 0 86400 else false) then (bif (bif inB r.st 0 100000 then inB r.me 0 1000000 else false) then inB r.se 0 1000000 else false) else false) (e := 2) (z _ (by simp)) (by decide))
 have z6 := and_t z5.1
 have z7 := and_t z5.2
 have z8 := and_t z7.1
 exact ⟨inB_iff.1 z0.1, inB_iff.1 z0.2, of_decide_eq_true z1, inB_iff.1 z6.1, inB_iff.1 z6.2, inB_iff.1 z8.1, inB_iff.1 z8.2, inB_iff.1 z7.2⟩
theorem trf_rule {t : Trf} (h : trfE t = 0) {k : Nat} (hk : k < t.rules.length) : ROk t.zones.length (t.rules.getD k rul0) := by
 have h1 : ruliE t k = 0 := (pE_0 ((trf_0 h).2 2 (by decide))).2 k hk
 unfold ruliE at h1
 cases b1 : nameB (t.rules.getD k rul0).name <;> rw [b1] at h1
 ·cases h1
 ·cases b2 : (List.range k).any (fun j => decide ((t.rules.getD j rul0).name = (t.rules.getD k rul0).name)) <;> rw [b2] at h1
  ·exact rule_0 h1
  ·cases h1
def SortI (l : List Int) : Prop := ∀ i j, i < j -> j < l.length -> l.getD i 0 < l.getD j 0
theorem sort_next {l : List Int} (h : ∀ j, j + 1 < l.length -> l.getD j 0 < l.getD (j + 1) 0) : SortI l := by
 intro i j hij hj
 induction j with
 | zero => omega
 | succ j ih =>
  have h1 := h j hj
  rcases Nat.lt_or_ge i j with c | c
  ·have := ih c (by omega); omega
  ·obtain rfl : i = j := by omega
   exact h1
theorem trf_sort {t : Trf} (h : trfE t = 0) : SortI t.hol := by
 have h1 := (pE_0 ((trf_0 h).2 1 (by decide))).2
 refine sort_next fun j hj => ?_
 have h2 : holE t (j + 1) = 0 := h1 (j + 1) hj
 unfold holE riseAt at h2
 cases b1 : inB (t.hol.getD (j + 1) 0) 0 100000 <;> rw [b1] at h2
 ·exact absurd (show (2 : Int) = 0 from h2) (by decide)
 ·rw [decide_eq_true (Nat.succ_pos j)] at h2
  by_cases c : t.hol.getD (j + 1) 0 <= t.hol.getD j 0
  ·rw [Nat.add_sub_cancel, decide_eq_true c] at h2; exact absurd (show (9 : Int) = 0 from h2) (by decide)
  ·omega
end Go.Fx
