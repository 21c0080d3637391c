/-
  Logs: what is wrong with one, check sums.
-/
import Derived.Test.YtfdegaojblmdiaaGreatDoorGp
import Derived.Test.YtfdegaojblmdiaaGreatDoorGf

set_option linter.all false

/-
  Small functions of the meter.
-/
namespace Go.Fx
open Go.Proofs Go.RowKit

section
variable {W0 : World} {G : Nat → Option AV} (hX : (Xc W0 G).Good)
include hX
theorem c50 (n lo hi : Int) : Pure (Xc W0 G) 50 [.int .i64 n, .int .i64 lo, .int .i64 hi] (.bool (inB n lo hi)) := by
  refine mut_of' hX (fnI Tryz.f50) rfl ?_
  repeat' (first
    | (refine Ax.go ?_; refine Alt.one ?_)
    | exact Cl.go
    | exact Ck.go
    | ((fail_if_success refine Stop.go ?_); (first | (with_reducible first | refine And.intro ?_ ?_ | refine Cut.go ?_ | (refine impI ?_; intro _)) | (refine propI ?_; conv => whnf))))
  all_goals exact .mk [] [] _ rfl (.le (.refl _)) trivial rfl
theorem c49 (b : Bool) (e : Int) : Pure (Xc W0 G) 49 [.bool b, .int .i64 e] (.int .i64 (bif b then 0 else e)) := by
  refine mut_of' hX (fnI Tryz.f49) rfl ?_
  repeat' (first
    | (refine Ax.go ?_; refine Alt.one ?_)
    | exact Cl.go
    | exact Ck.go
    | ((fail_if_success refine Stop.go ?_); (first | (with_reducible first | refine And.intro ?_ ?_ | refine Cut.go ?_ | (refine impI ?_; intro _)) | (refine propI ?_; conv => whnf))))
  · rename_i h; subst h; exact .mk [] [] _ rfl (.le (.refl _)) trivial rfl
  · rename_i h; subst h; exact .mk [] [] _ rfl (.le (.refl _)) trivial rfl
theorem c48 (l : List Int) (hn : l.length < 1000000) : Pure (Xc W0 G) 48 [.slc 1 l.length (fun i _ => .int .i64 (l.getD i 0))] (.int .i64 (firstS l)) := by
  refine mut_of' hX (fnI Tryz.f48) rfl ?_
  repeat' (first
    | (refine Ax.go ?_; refine Alt.one ?_)
    | exact Cl.go
    | exact Ck.go
    | ((fail_if_success refine Stop.go ?_); (first | (with_reducible first | refine And.intro ?_ ?_ | refine Cut.go ?_ | (refine impI ?_; intro _)) | (refine propI ?_; conv => whnf))))
  refine ⟨Nat, fun i => ([(7, .int .i64 i), (6, .int .i64 l.length), (5, .slc 1 l.length (fun i _ => .int .i64 (l.getD i 0)))], []), fun i => i ≤ l.length ∧ ∀ j, j < i → l.getD j 0 = 0, fun i => l.length - i, ⟨0, ⟨Nat.zero_le _, fun _ h => by omega⟩, .le ⟨rfl, trivial, ⟨.refl _, .refl _, .refl _, trivial⟩⟩⟩, fun i ⟨hi, h0⟩ => ?_⟩
  repeat' (first
    | (refine Ax.go ?_; refine Alt.one ?_)
    | exact Cl.go
    | exact Ck.go
    | ((fail_if_success refine Stop.go ?_); (first | (with_reducible first | refine And.intro ?_ ?_ | refine Cut.go ?_ | (refine impI ?_; intro _)) | (refine propI ?_; conv => whnf))))
  all_goals (rename_i h)
  all_goals first
    | exact .of (Nat.le_of_ble_eq_true rfl)
    | (have h := of_decide_eq_true h; exact .of ⟨by omega, by omega⟩)
    | (have h := of_decide_eq_false h; rw [firstS_none (fun j hj => h0 j (by omega))]; exact .mk [] [] _ rfl (.le (.refl _)) trivial rfl)
    | (rename_i h1; have h1 := of_decide_eq_true h1
       simp only [decide_eq_true_eq, decide_eq_false_iff_not, beq_iff_eq, bne_iff_ne, beq_eq_false_iff_ne, bne_eq_false_iff_eq, ne_eq, Int.not_lt, Int.not_le, Nat.not_lt, Nat.not_le, Decidable.not_not, Int.toNat_natCast] at h
       first
         | exact .of ⟨by omega, by omega⟩
         | exact ⟨i + 1, ⟨by omega, all_lt h0 h⟩, by show l.length - (i + 1) < l.length - i; omega, .le ⟨rfl, trivial, ⟨.refl _, .refl _, .refl _, trivial⟩⟩⟩
         | (rw [firstS_hit (by omega) h0 h]; exact .mk [] [] _ rfl (.le (.refl _)) trivial rfl))
theorem c48_2 (a b : Int) : Pure (Xc W0 G) 48 [.slc 1 [a, b].length (fun i _ => .int .i64 ([a, b].getD i 0))] (.int .i64 (firstS [a, b])) := c48 hX [a, b] (show 2 < 1000000 by decide)
theorem c48_3 (a b c : Int) : Pure (Xc W0 G) 48 [.slc 1 [a, b, c].length (fun i _ => .int .i64 ([a, b, c].getD i 0))] (.int .i64 (firstS [a, b, c])) := c48 hX [a, b, c] (show 3 < 1000000 by decide)
theorem c69 (a : Int) : Pure (Xc W0 G) 69 [.int .i64 a] (.int .i64 (bif inB a 1 100000 then 0 else 2)) := by
  refine mut_of' hX (fnI Tryz.f69) rfl ?_
  repeat' (first
    | (refine Ax.go ?_; first | (with_reducible apply callAlt (c50 hX _ _ _)) | (with_reducible apply callAlt (c49 hX _ _)) | refine Alt.one ?_)
    | exact Cl.go
    | exact Ck.go
    | ((fail_if_success refine Stop.go ?_); (first | (with_reducible first | refine And.intro ?_ ?_ | refine Cut.go ?_ | (refine impI ?_; intro _)) | (refine propI ?_; conv => whnf))))
  all_goals exact .mk [] [] _ rfl (.le (.refl _)) trivial rfl
end
end Go.Fx

/-
  Logs: what is wrong with one, check sums, seals.
-/
namespace Go.Fx
open Go.Proofs
theorem alone_ne {l : Log} {e : Int} (h : headE l = e) (h0 : e ≠ 0) : aloneE l = e ∧ aloneN l = 0 := by
  unfold aloneE aloneN
  rw [h, decide_eq_false h0]
  exact ⟨rfl, rfl⟩
theorem alone_eq {l : Log} (h : headE l = 0) : aloneE l = scanE evE l.ev ∧ aloneN l = scanN evE l.ev := by
  unfold aloneE aloneN
  rw [h]
  exact ⟨rfl, rfl⟩
theorem head_2 {l : Log} (h : (bif inB l.c 1 100000 then 0 else 2 : Int) = 0) (h2 : momE l.d l.t ≠ 0) : headE l = momE l.d l.t := by
  unfold headE; simp only [firstS, h, decide_true, cond_true, decide_eq_false h2, cond_false]
theorem head_0 {l : Log} (h : headE l = 0) : l.ev.length ≤ 200 := by
  unfold headE at h
  by_cases h1 : (bif inB l.c 1 100000 then 0 else 2 : Int) = 0
  · by_cases h2 : momE l.d l.t = 0
    · by_cases h3 : (l.ev.length : Int) ≤ 200
      · omega
      · simp [firstS, h1, h2, h3] at h
    · simp [firstS, h1, h2] at h
  · simp only [firstS, decide_eq_false h1, cond_false] at h
    exact absurd h h1
theorem evE15 {e : Ev} (h : inB e.k 0 6 = false) : evE e = 15 := by unfold evE; rw [h]; rfl
theorem evE2 {e : Ev} {i j : Nat} {b : Bool} (hi : i = e.k.toNat * 2) (hj : j = e.k.toNat * 2 + 1) (h1 : inB e.k 0 6 = true) (h : inB e.n (rangesL.getD i 0) (rangesL.getD j 0) = b) : evE e = bif b then 0 else 2 := by
  subst hi hj
  unfold evE evLo evHi; rw [h1, h]; rfl
theorem head_fold {l : Log} : firstS [bif inB l.c 1 100000 then 0 else 2, bif (bif inB l.d 0 100000 then inB l.t 0 86399 else false) then 0 else 2, bif decide ((l.ev.length : Int) ≤ 200) then 0 else 8] = headE l := by
  unfold headE momE
  cases inB l.d 0 100000 <;> cases inB l.t 0 86399 <;> rfl
section
variable {W0 : World} {G : Nat → Option AV} (hX : (Xc W0 G).Good)
include hX
end
section
variable {W0 : World} (hX : (Xc W0 Gt).Good)
include hX
theorem c61 (l : Log) : Pure (Xc W0 Gt) 61 [lgA l] (.tup 2 (tbl [.int .i64 (aloneN l), .int .i64 (aloneE l)])) := by
  refine mut_of' hX (fnI Tryz.f61) rfl ?_
  repeat' (first
    | (refine Ax.go ?_; first | (with_reducible apply callAlt (c50 hX _ _ _)) | (with_reducible apply callAlt (c69 hX _)) | (with_reducible apply callAlt (c49 hX _ _)) | (with_reducible apply callAlt (c48_3 hX _ _ _)) | refine Alt.one ?_)
    | ((with_reducible refine Ar.go ?_); first | exact ⟨le_slc2 rfl rfl, trivial⟩ | exact ⟨le_slc3 rfl rfl rfl, trivial⟩ | exact AllLe.refl _ | (repeat' (first | exact trivial | apply Le.aggs | apply Le.tups | apply Le.fns | exact Le.refl _ | refine ⟨?_, ?_⟩)))
    | exact Cl.go
    | exact Ck.go
    | ((fail_if_success refine Stop.go ?_); (first | (with_reducible first | refine And.intro ?_ ?_ | refine Cut.go ?_ | (refine impI ?_; intro _)) | (refine propI ?_; conv => whnf))))
  all_goals try (exact .of (Nat.le_of_ble_eq_true rfl))
  all_goals (rename_i h; simp only [decide_eq_true_eq, decide_eq_false_iff_not, beq_iff_eq, bne_iff_ne, beq_eq_false_iff_ne, bne_eq_false_iff_eq, ne_eq, Int.not_lt, Int.not_le, Nat.not_lt, Nat.not_le, Decidable.not_not, Int.toNat_natCast] at h; rw [head_fold] at h)
  · have e := alone_ne rfl h; rw [head_fold]; exact .mk [] [] _ rfl (.le (.tups ⟨⟨trivial, .intI e.2.symm⟩, .intI e.1.symm⟩)) trivial rfl
  · obtain ⟨e1, e2⟩ := alone_eq h
    have hb := head_0 h
    refine ⟨Nat, fun i => ([(34, evS l.ev), (35, .int .i64 l.ev.length), (36, .int .i64 i)], []), fun i => i ≤ List.length l.ev ∧ ∀ j, j < i → evE (l.ev.getD j ev0) = 0, fun i => List.length l.ev - i, ⟨0, ⟨Nat.zero_le _, fun _ h => by omega⟩, .le ⟨rfl, trivial, ⟨.refl _, .refl _, .refl _, trivial⟩⟩⟩, fun i ⟨hi, h0⟩ => ?_⟩
    repeat' (first
      | (refine Ax.go ?_; first | (with_reducible apply callAlt (c50 hX _ _ _)) | refine Alt.one ?_)
      | exact Cl.go
      | exact Ck.go
      | ((fail_if_success refine Stop.go ?_); (first | (with_reducible first | refine And.intro ?_ ?_ | refine Cut.go ?_ | (refine impI ?_; intro _)) | (refine propI ?_; conv => whnf))))
    all_goals try (exact .of (Nat.le_of_ble_eq_true rfl))
    all_goals try (exact .of (by decide))
    all_goals (rename_i h; simp only [Int.toNat_natCast, Bool.not_eq_true', Bool.not_eq_false', decide_eq_true_eq, decide_eq_false_iff_not, beq_iff_eq, bne_iff_ne, beq_eq_false_iff_ne, bne_eq_false_iff_eq, ne_eq, Int.not_lt, Int.not_le, Nat.not_lt, Nat.not_le, Decidable.not_not, Int.toNat_natCast] at h)
    all_goals first
      | (refine Sc.of ?_; exact ⟨by omega, by omega⟩)
      | (refine Sc.of ?_; simp only [Int.toNat_natCast]; have hk := inB_iff.1 h; exact ⟨hk.1, by have := hk.2; omega⟩)
      | (have w := scan_none (g := evE) (d := ev0) (l := l.ev) (fun j hj => h0 j (by omega)); obtain ⟨w1, w2⟩ := w; exact .mk [] [] _ rfl (.le (.tups ⟨⟨trivial, .intI (by rw [e2, w2])⟩, .intI (by rw [e1, w1])⟩)) trivial rfl)
      | (rename_i ha; simp only [decide_eq_true_eq, decide_eq_false_iff_not, beq_iff_eq, bne_iff_ne, beq_eq_false_iff_ne, bne_eq_false_iff_eq, ne_eq, Int.not_lt, Int.not_le, Nat.not_lt, Nat.not_le, Decidable.not_not, Int.toNat_natCast] at ha; have w := scan_hit (g := evE) (d := ev0) (l := l.ev) (by omega) h0 (by rw [evE15 h]; decide); obtain ⟨w1, w2⟩ := w; exact .mk [] [] _ rfl (.le (.tups ⟨⟨trivial, .intI (by rw [e2, w2])⟩, .intI (by rw [e1, w1, evE15 h])⟩)) trivial rfl)
      | (rename_i hb ha; simp only [Int.toNat_natCast, Bool.not_eq_true', Bool.not_eq_false', decide_eq_true_eq, decide_eq_false_iff_not, beq_iff_eq, bne_iff_ne, beq_eq_false_iff_ne, bne_eq_false_iff_eq, ne_eq, Int.not_lt, Int.not_le, Nat.not_lt, Nat.not_le, Decidable.not_not, Int.toNat_natCast] at ha hb
         have hh := evE2 (by simp) (by simp) ha h
         first
           | (exact ⟨i + 1, ⟨by omega, all_lt h0 hh⟩, by show List.length l.ev - (i + 1) < List.length l.ev - i; omega, .le ⟨rfl, trivial, ⟨.refl _, .refl _, .refl _, trivial⟩⟩⟩)
           | (have w := scan_hit (g := evE) (d := ev0) (l := l.ev) (by omega) h0 (by rw [hh]; decide); obtain ⟨w1, w2⟩ := w; exact .mk [] [] _ rfl (.le (.tups ⟨⟨trivial, .intI (by rw [e2, w2])⟩, .intI (by rw [e1, w1, hh]; rfl)⟩)) trivial rfl))
end
end Go.Fx

/-
  Logs: check sums, seals.
-/
namespace Go.Fx
open Go.Proofs
section
variable {W0 : World} (hX : (Xc W0 Gt).Good)
include hX
theorem c16 (l : Log) (hs : Side (l.ev.length ≤ 1000000)) : Pure (Xc W0 Gt) 16 [lgA l] (lgA l) := by
  refine mut_of' hX (fnI Tryz.f16) rfl ?_
  repeat' (first
    | (refine Ax.go ?_; refine Alt.one ?_)
    | exact Cl.go
    | exact Ck.go
    | ((fail_if_success refine Stop.go ?_); (first | (with_reducible first | refine And.intro ?_ ?_ | refine Cut.go ?_ | (refine impI ?_; intro _)) | (refine propI ?_; conv => whnf))))
  all_goals try (exact .of (Nat.le_of_ble_eq_true rfl))
  all_goals first
    | (refine Sc.of ?_; have := hs.get; exact ⟨by show (l.ev.length : Nat) * 16 ≤ _; omega, by omega⟩)
    | exact .mk [] [2] _ rfl (.aggs ⟨⟨⟨⟨trivial, .le (.refl _)⟩, .le (.refl _)⟩, .le (.refl _)⟩, .own rfl fun _ _ _ _ => .refl _⟩) trivial rfl
end
end Go.Fx

/-
  Logs: check sums, or the errors; seals.
-/
namespace Go.Fx
open Go.Proofs Go.RowKit
theorem LeH.ownM {H : List HObj} {k ver e es n m : Nat} {f g : Nat → Nat → AV} (hk : H[k]? = some (.list e es n f ver)) (hm : n = m) (h : ∀ i j, i < n → j < es → Le (f i j) (g i j)) : LeH H (.own k ver) (.slc es m g) := by subst hm; exact .own hk h
@[irreducible] def sumE (l : Log) (n : Int) : Int := firstS [aloneE l, bif inB n 0 l.ev.length then 0 else 2]
@[irreducible] def sumN (l : Log) (n : Int) : Int := bif decide (sumE l n = 0) then sumL 1 (l.ev.take n.toNat) else 0
@[irreducible] def sealE (l : Log) : Int := firstS [aloneE l, bif decide ((l.ev.length : Int) < 200) then 0 else 16]
@[irreducible] def sealL (l : Log) : Log := bif decide (sealE l = 0) then { l with ev := l.ev ++ [⟨6, sumL 1 l.ev⟩] } else log0
section
variable {W0 : World} (hX : (Xc W0 Gt).Good)
include hX
end
end Go.Fx

/-
  Brief logs.
-/
namespace Go.Fx
open Go.Proofs Go.RowKit

def brC (e : Ev) : Bool := bif e.k == 1 then inB e.n 1 3600 else false
def brA (l : Log) : Nat → Int
  | 0 => 0
  | i + 1 => bif brC (l.ev.getD i ev0) then brA l i + (l.ev.getD i ev0).n else brA l i
def brL (l : Log) : Bool := bif (bif decide (30 < (l.ev.length : Int)) then decide ((l.ev.length : Int) ≤ 200) else false) then true else decide (202 < (l.ev.length : Int))
@[irreducible] def briefB (l : Log) : Bool := bif brL l then false else decide (brA l l.ev.length ≤ 400)
section
variable {W0 : World} {G : Nat → Option AV} (hX : (Xc W0 G).Good)
include hX
end
end Go.Fx
