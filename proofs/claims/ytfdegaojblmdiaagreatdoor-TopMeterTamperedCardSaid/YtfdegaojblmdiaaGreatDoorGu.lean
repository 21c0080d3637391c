/-
 Logs: what is wrong with one, check sums.
-/
import Derived.Test.YtfdegaojblmdiaaGreatDoorGp
set_option linter.all false
namespace Go.Fx
open Go.Proofs Go.RowKit
section
variable {W0 : World} {G : Nat -> Option AV} (hX : (Xc W0 G).Good)
include hX
theorem c50 (n lo hi : Int) : Pure (Xc W0 G) 50 [.int .i64 n, .int .i64 lo, .int .i64 hi] (.bool (inB n lo hi)) := by
 refine mut_of' hX (fnI Tryz.f50) rfl ?_
 repeat' (first
  | (refine Ax.go ?_; apply Alt.one)
  | exact Cz.go
  | ((fail_if_success refine Stop.go ?_); first | (with_reducible first | apply And.intro | apply Cut.go | (refine impI ?_; intro _)) | (refine propI ?_; conv => whnf)))
 all_goals exact .mk [] [] _ rfl (.le (.refl _)) trivial rfl
theorem c49 (b : Bool) (e : Int) : Pure (Xc W0 G) 49 [.bool b, .int .i64 e] (.int .i64 (bif b then 0 else e)) := by
 refine mut_of' hX (fnI Tryz.f49) rfl ?_
 repeat' (first
  | (refine Ax.go ?_; apply Alt.one)
  | exact Cz.go
  | ((fail_if_success refine Stop.go ?_); first | (with_reducible first | apply And.intro | apply Cut.go | (refine impI ?_; intro _)) | (refine propI ?_; conv => whnf)))
 ·rename_i h; subst h; exact .mk [] [] _ rfl (.le (.refl _)) trivial rfl
 ·rename_i h; subst h; exact .mk [] [] _ rfl (.le (.refl _)) trivial rfl
theorem c48 (l : List Int) (hn : l.length < 1000000) : Pure (Xc W0 G) 48 [.slc 1 l.length (fun i _ => .int .i64 (l.getD i 0))] (.int .i64 (firstS l)) := by
 refine mut_of' hX (fnI Tryz.f48) rfl ?_
 repeat' (first
  | (refine Ax.go ?_; apply Alt.one)
  | exact Cz.go
  | ((fail_if_success refine Stop.go ?_); first | (with_reducible first | apply And.intro | apply Cut.go | (refine impI ?_; intro _)) | (refine propI ?_; conv => whnf)))
 refine ⟨Nat, fun i => ([(7, .int .i64 i), (6, .int .i64 l.length), (5, .slc 1 l.length (fun i _ => .int .i64 (l.getD i 0)))], []), fun i => i <= l.length /\ ∀ j, j < i -> l.getD j 0 = 0, fun i => l.length - i, ⟨0, ⟨Nat.zero_le _, fun _ h => by omega⟩, .le ⟨rfl, trivial, ⟨.refl _, .refl _, .refl _, trivial⟩⟩⟩, fun i ⟨hi, h0⟩ => ?_⟩
 repeat' (first
  | (refine Ax.go ?_; apply Alt.one)
  | exact Cz.go
  | ((fail_if_success refine Stop.go ?_); first | (with_reducible first | apply And.intro | apply Cut.go | (refine impI ?_; intro _)) | (refine propI ?_; conv => whnf)))
 all_goals (rename_i h)
 all_goals first
  | exact .of (Nat.le_of_ble_eq_true rfl)
  | (have h := of_decide_eq_true h; exact owZ)
  | (have h := of_decide_eq_false h; rw [firstS_none (fun j hj => h0 j (by omega))]; exact .mk [] [] _ rfl (.le (.refl _)) trivial rfl)
  | (rename_i h1; have h1 := of_decide_eq_true h1
     simp only [decide_eq_true_eq, decide_eq_false_iff_not, beq_iff_eq, bne_iff_ne, beq_eq_false_iff_ne, bne_eq_false_iff_eq, ne_eq, Int.not_lt, Int.not_le, Nat.not_lt, Nat.not_le, Decidable.not_not, Int.toNat_natCast] at h
     first
      | exact owZ
      | exact ⟨i + 1, ⟨by omega, all_lt h0 h⟩, by show l.length - (i + 1) < l.length - i; omega, .le ⟨rfl, trivial, ⟨.refl _, .refl _, .refl _, trivial⟩⟩⟩
      | (rw [firstS_hit (by omega) h0 h]; exact .mk [] [] _ rfl (.le (.refl _)) trivial rfl))
theorem c48_2 (a b : Int) : Pure (Xc W0 G) 48 [.slc 1 [a, b].length (fun i _ => .int .i64 ([a, b].getD i 0))] (.int .i64 (firstS [a, b])) := c48 hX [a, b] (show 2 < 1000000 by decide)
theorem c48_3 (a b c : Int) : Pure (Xc W0 G) 48 [.slc 1 [a, b, c].length (fun i _ => .int .i64 ([a, b, c].getD i 0))] (.int .i64 (firstS [a, b, c])) := c48 hX [a, b, c] (show 3 < 1000000 by decide)
theorem c69 (a : Int) : Pure (Xc W0 G) 69 [.int .i64 a] (.int .i64 (bif inB a 1 100000 then 0 else 2)) := by
 refine mut_of' hX (fnI Tryz.f69) rfl ?_
 repeat' (first
  | (refine Ax.go ?_; with_reducible first | apply callAlt (c50 hX _ _ _) | apply callAlt (c49 hX _ _) | apply Alt.one)
  | exact Cz.go
  | ((fail_if_success refine Stop.go ?_); first | (with_reducible first | apply And.intro | apply Cut.go | (refine impI ?_; intro _)) | (refine propI ?_; conv => whnf)))
 all_goals exact .mk [] [] _ rfl (.le (.refl _)) trivial rfl
theorem c138 (a : Int) : Pure (Xc W0 G) 138 [.int .i64 a] (.int .i64 (bif inB a 1 100000 then 0 else 2)) := by
 refine mut_of' hX (fnI Tryz.f138) rfl ?_
 repeat' (first
  | (refine Ax.go ?_; with_reducible first | apply callAlt (c15 hX _ _ _) | apply Alt.one)
  | exact Cz.go
  | ((fail_if_success refine Stop.go ?_); first | (with_reducible first | apply And.intro | apply Cut.go | (refine impI ?_; intro _)) | (refine propI ?_; conv => whnf)))
 ·rename_i h; have h := (Bool.not_eq_true' _).mp h; rw [h]; exact .mk [] [] _ rfl (.le (.refl _)) trivial rfl
 ·rename_i h; have h := (Bool.not_eq_false' _).mp h; rw [h]; exact .mk [] [] _ rfl (.le (.refl _)) trivial rfl
end
open Go.Proofs
theorem evE_k {e : Ev} {k lo hi : Int} {b : Bool} (hk : e.k = k) (hb : inB e.n lo hi = b) (h1 : inB k 0 6 = true) (h2 : evLo k = lo) (h3 : evHi k = hi) : evE e = bif b then 0 else 2 := by
 unfold evE
 rw [hk, h1, h2, h3, hb]; rfl
theorem evE_bad {e : Ev} (h : ¬ (0 <= e.k /\ e.k <= 6)) : evE e = 15 := by
 have h1 : inB e.k 0 6 = false := by
  cases hb : inB e.k 0 6 with
  | true => exact absurd (inB_iff.1 hb) h
  | false => rfl
 unfold evE
 rw [h1]; rfl
theorem alone_ne {l : Log} {e : Int} (h : headE l = e) (h0 : e ≠ 0) : aloneE l = e /\ aloneN l = 0 := by
 unfold aloneE aloneN
 rw [h, decide_eq_false h0]
 exact ⟨rfl, rfl⟩
theorem alone_eq {l : Log} (h : headE l = 0) : aloneE l = scanE evE l.ev /\ aloneN l = scanN evE l.ev := by
 unfold aloneE aloneN
 rw [h]
 exact ⟨rfl, rfl⟩
theorem head_1 {l : Log} (h : (bif inB l.c 1 100000 then 0 else 2 : Int) ≠ 0) : headE l = bif inB l.c 1 100000 then 0 else 2 := by
 unfold headE; simp only [firstS, decide_eq_false h, cond_false]
theorem head_2 {l : Log} (h : (bif inB l.c 1 100000 then 0 else 2 : Int) = 0) (h2 : momE l.d l.t ≠ 0) : headE l = momE l.d l.t := by
 unfold headE; simp only [firstS, h, decide_true, cond_true, decide_eq_false h2, cond_false]
theorem head_3 {l : Log} (h : (bif inB l.c 1 100000 then 0 else 2 : Int) = 0) (h2 : momE l.d l.t = 0) (h3 : ¬ (l.ev.length : Int) <= 200) : headE l = 8 := by
 unfold headE; simp only [firstS, h, h2, decide_true, cond_true, decide_eq_false h3, cond_false]; rfl
theorem head_4 {l : Log} (h : (bif inB l.c 1 100000 then 0 else 2 : Int) = 0) (h2 : momE l.d l.t = 0) (h3 : (l.ev.length : Int) <= 200) : headE l = 0 := by
 unfold headE; simp only [firstS, h, h2, decide_true, cond_true, h3]
theorem head_0 {l : Log} (h : headE l = 0) : l.ev.length <= 200 := by
 unfold headE at h
 by_cases h1 : (bif inB l.c 1 100000 then 0 else 2 : Int) = 0
 ·by_cases h2 : momE l.d l.t = 0
  ·by_cases h3 : (l.ev.length : Int) <= 200
   ·omega
   ·simp [firstS, h1, h2, h3] at h
  ·simp [firstS, h1, h2] at h
 ·simp only [firstS, decide_eq_false h1, cond_false] at h
  exact absurd h h1
theorem evE15 {e : Ev} (h : inB e.k 0 6 = false) : evE e = 15 := by unfold evE; rw [h]; rfl
theorem evE2 {e : Ev} {i j : Nat} {b : Bool} (hi : i = e.k.toNat * 2) (hj : j = e.k.toNat * 2 + 1) (h1 : inB e.k 0 6 = true) (h : inB e.n (rangesL.getD i 0) (rangesL.getD j 0) = b) : evE e = bif b then 0 else 2 := by
 subst hi hj
 unfold evE evLo evHi; rw [h1, h]; rfl
theorem head_fold {l : Log} : firstS [bif inB l.c 1 100000 then 0 else 2, bif (bif inB l.d 0 100000 then inB l.t 0 86399 else false) then 0 else 2, bif decide ((l.ev.length : Int) <= 200) then 0 else 8] = headE l := by
 unfold headE momE
 cases inB l.d 0 100000 <;> cases inB l.t 0 86399 <;> rfl
section
variable {W0 : World} {G : Nat -> Option AV} (hX : (Xc W0 G).Good)
include hX
theorem c139m (d t : Int) : Pure (Xc W0 G) 139 [.agg 2 (tbl [.int .i64 d, .int .i64 t])] (.int .i64 (momE d t)) := by
 refine mut_of' hX (fnI Tryz.f139) rfl ?_
 repeat' (first
  | (refine Ax.go ?_; with_reducible first | apply callAlt (c15 hX _ _ _) | apply Alt.one)
  | exact Cz.go
  | ((fail_if_success refine Stop.go ?_); first | (with_reducible first | apply And.intro | apply Cut.go | (refine impI ?_; intro _)) | (refine propI ?_; conv => whnf)))
 all_goals (cases q1 : inB d 0 100000 <;> cases q2 : inB t 0 86399)
 all_goals try (exfalso; simp_all; done)
 all_goals try exact nbZ
 all_goals (unfold momE; simp only [q1, q2]; exact .mk [] [] _ rfl (.le (.refl _)) trivial rfl)
theorem c140 (e : Ev) : Pure (Xc W0 G) 140 [evA e] (.int .i64 (evE e)) := by
 refine mut_of' hX (fnI Tryz.f140) rfl ?_
 repeat' (first
  | (refine Ax.go ?_; with_reducible first | apply callAlt (c15 hX _ _ _) | apply Alt.one)
  | exact Cz.go
  | ((fail_if_success refine Stop.go ?_); first | (with_reducible first | apply And.intro | apply Cut.go | (refine impI ?_; intro _)) | (refine propI ?_; conv => whnf)))
 all_goals try exact nbZ
 all_goals try (exfalso; simp_all; done)
 all_goals (refine .mk [] [] _ rfl (.le (.intI ?_)) trivial rfl)
 all_goals (simp only [beq_iff_eq, beq_eq_false_iff_ne, Bool.not_eq_true', Bool.not_eq_false'] at *)
 all_goals first
  | (rename_i hk hb; exact (evE_k hk hb rfl rfl rfl).symm)
  | (rw [evE_bad (by omega)])
theorem c92 (l : Log) : Pure (Xc W0 G) 92 [lgA l] (.tup 2 (tbl [.int .i64 (aloneN l), .int .i64 (aloneE l)])) := by
 refine mut_of' hX (fnI Tryz.f92) rfl ?_
 repeat' (first
  | (refine Ax.go ?_; with_reducible first | apply callAlt (c138 hX _) | apply callAlt (c139m hX _ _) | apply callAlt (c140 hX _) | apply Alt.one)
  | exact Cz.go
  | ((fail_if_success refine Stop.go ?_); first | (with_reducible first | apply And.intro | apply Cut.go | (refine impI ?_; intro _)) | (refine propI ?_; conv => whnf)))
 all_goals try exact nbZ
 all_goals (simp only [decide_eq_true_eq, decide_eq_false_iff_not, beq_iff_eq, bne_iff_ne, beq_eq_false_iff_ne, bne_eq_false_iff_eq, ne_eq, Int.not_lt, Int.not_le, Nat.not_lt, Nat.not_le, Decidable.not_not, Int.toNat_natCast] at *)
 ·rename_i h; have e := alone_ne (head_1 h) h; exact .mk [] [] _ rfl (.le (.tups ⟨⟨trivial, .intI e.2.symm⟩, .intI e.1.symm⟩)) trivial rfl
 ·rename_i h1 h; have e := alone_ne (head_2 h1 h) h; exact .mk [] [] _ rfl (.le (.tups ⟨⟨trivial, .intI e.2.symm⟩, .intI e.1.symm⟩)) trivial rfl
 ·rename_i h1 h2 h; have e := alone_ne (head_3 h1 h2 (by omega)) (by decide); exact .mk [] [] _ rfl (.le (.tups ⟨⟨trivial, .intI e.2.symm⟩, .intI e.1.symm⟩)) trivial rfl
 ·rename_i h1 h2 h; obtain ⟨e1, e2⟩ := alone_eq (head_4 h1 h2 (by omega))
  refine ⟨Nat, fun i => ([(1, .ptr 0 0), (6, .int .i64 i)], [.box (logC l (evS l.ev))]), fun i => i <= List.length l.ev /\ ∀ j, j < i -> evE (l.ev.getD j ev0) = 0, fun i => List.length l.ev - i, ⟨0, ⟨Nat.zero_le _, fun _ h => by omega⟩, .le ⟨rfl, ⟨.refl _, trivial⟩, ⟨.refl _, .refl _, trivial⟩⟩⟩, fun i ⟨hi, h0⟩ => ?_⟩
  repeat' (first
   | (refine Ax.go ?_; with_reducible first | apply callAlt (c140 hX _) | apply Alt.one)
   | exact Cz.go
   | ((fail_if_success refine Stop.go ?_); first | (with_reducible first | apply And.intro | apply Cut.go | (refine impI ?_; intro _)) | (refine propI ?_; conv => whnf)))
  all_goals try ((with_reducible refine (?_ : Sc _ _)); first
   | exact .of (Nat.le_of_ble_eq_true rfl)
   | exact .of (by decide)
   | ((with_reducible refine Sc.of ?_); (try simp only [decide_eq_true_eq, decide_eq_false_iff_not, beq_iff_eq, bne_iff_ne, beq_eq_false_iff_ne, bne_eq_false_iff_eq, ne_eq, Int.not_lt, Int.not_le, Nat.not_lt, Nat.not_le, Decidable.not_not, Int.toNat_natCast] at *); first | omega | exact ⟨by omega, by omega⟩))
  all_goals first
   | (rename_i ha hb; simp only [decide_eq_true_eq, decide_eq_false_iff_not, beq_iff_eq, bne_iff_ne, beq_eq_false_iff_ne, bne_eq_false_iff_eq, ne_eq, Int.not_lt, Int.not_le, Nat.not_lt, Nat.not_le, Decidable.not_not, Int.toNat_natCast] at ha hb; have w := scan_hit (g := evE) (d := ev0) (l := l.ev) (by omega) h0 hb; obtain ⟨w1, w2⟩ := w; exact .mk [] [] _ rfl (.le (.tups ⟨⟨trivial, .intI (by rw [e2, w2])⟩, .intI (by simp only [Int.toNat_natCast]; rw [e1, w1])⟩)) trivial rfl)
   | (rename_i ha hb; simp only [decide_eq_true_eq, decide_eq_false_iff_not, beq_iff_eq, bne_iff_ne, beq_eq_false_iff_ne, bne_eq_false_iff_eq, ne_eq, Int.not_lt, Int.not_le, Nat.not_lt, Nat.not_le, Decidable.not_not, Int.toNat_natCast] at ha hb; exact ⟨i + 1, ⟨by omega, all_lt h0 hb⟩, by show List.length l.ev - (i + 1) < List.length l.ev - i; omega, .le ⟨rfl, ⟨.refl _, trivial⟩, ⟨.refl _, .refl _, trivial⟩⟩⟩)
   | (rename_i ha; simp only [decide_eq_true_eq, decide_eq_false_iff_not, beq_iff_eq, bne_iff_ne, beq_eq_false_iff_ne, bne_eq_false_iff_eq, ne_eq, Int.not_lt, Int.not_le, Nat.not_lt, Nat.not_le, Decidable.not_not, Int.toNat_natCast] at ha; have w := scan_none (g := evE) (d := ev0) (l := l.ev) (fun j hj => h0 j (by omega)); obtain ⟨w1, w2⟩ := w; exact .mk [] [] _ rfl (.le (.tups ⟨⟨trivial, .intI (by rw [e2, w2])⟩, .intI (by rw [e1, w1])⟩)) trivial rfl)
end
section
variable {W0 : World} (hX : (Xc W0 Gt).Good)
include hX
theorem c61 (l : Log) : Pure (Xc W0 Gt) 61 [lgA l] (.tup 2 (tbl [.int .i64 (aloneN l), .int .i64 (aloneE l)])) := by
 refine mut_of' hX (fnI Tryz.f61) rfl ?_
 repeat' (first
  | (refine Ax.go ?_; with_reducible first | apply callAlt (c50 hX _ _ _) | apply callAlt (c69 hX _) | apply callAlt (c49 hX _ _) | apply callAlt (c48_3 hX _ _ _) | apply Alt.one)
  | ((with_reducible refine Ar.go ?_); first | exact ⟨le_slc2 rfl rfl, trivial⟩ | exact ⟨le_slc3 rfl rfl rfl, trivial⟩ | exact AllLe.refl _ | (repeat' (first | exact trivial | apply Le.aggs | apply Le.tups | apply Le.fns | exact Le.refl _ | refine ⟨?_, ?_⟩)))
  | exact Cz.go
  | ((fail_if_success refine Stop.go ?_); first | (with_reducible first | apply And.intro | apply Cut.go | (refine impI ?_; intro _)) | (refine propI ?_; conv => whnf)))
 all_goals try exact nbZ
 all_goals (rename_i h; simp only [decide_eq_true_eq, decide_eq_false_iff_not, beq_iff_eq, bne_iff_ne, beq_eq_false_iff_ne, bne_eq_false_iff_eq, ne_eq, Int.not_lt, Int.not_le, Nat.not_lt, Nat.not_le, Decidable.not_not, Int.toNat_natCast] at h; rw [head_fold] at h)
 ·have e := alone_ne rfl h; rw [head_fold]; exact .mk [] [] _ rfl (.le (.tups ⟨⟨trivial, .intI e.2.symm⟩, .intI e.1.symm⟩)) trivial rfl
 ·obtain ⟨e1, e2⟩ := alone_eq h
  have hb := head_0 h
  refine ⟨Nat, fun i => ([(34, evS l.ev), (35, .int .i64 l.ev.length), (36, .int .i64 i)], []), fun i => i <= List.length l.ev /\ ∀ j, j < i -> evE (l.ev.getD j ev0) = 0, fun i => List.length l.ev - i, ⟨0, ⟨Nat.zero_le _, fun _ h => by omega⟩, .le ⟨rfl, trivial, ⟨.refl _, .refl _, .refl _, trivial⟩⟩⟩, fun i ⟨hi, h0⟩ => ?_⟩
  repeat' (first
   | (refine Ax.go ?_; with_reducible first | apply callAlt (c50 hX _ _ _) | apply Alt.one)
   | exact Cz.go
   | ((fail_if_success refine Stop.go ?_); first | (with_reducible first | apply And.intro | apply Cut.go | (refine impI ?_; intro _)) | (refine propI ?_; conv => whnf)))
  all_goals try exact nbZ
  all_goals try (exact .of (by decide))
  all_goals (rename_i h; simp only [Int.toNat_natCast, Bool.not_eq_true', Bool.not_eq_false', decide_eq_true_eq, decide_eq_false_iff_not, beq_iff_eq, bne_iff_ne, beq_eq_false_iff_ne, bne_eq_false_iff_eq, ne_eq, Int.not_lt, Int.not_le, Nat.not_lt, Nat.not_le, Decidable.not_not, Int.toNat_natCast] at h)
  all_goals first
   | (refine Sc.of ?_; exact ⟨by omega, by omega⟩)
   | (refine Sc.of ?_; simp only [Int.toNat_natCast]; have hk := inB_iff.1 h; exact ⟨hk.1, by have := hk.2; omega⟩)
   | (have w := scan_none (g := evE) (d := ev0) (l := l.ev) (fun j hj => h0 j (by omega)); obtain ⟨w1, w2⟩ := w; exact .mk [] [] _ rfl (.le (.tups ⟨⟨trivial, .intI (by rw [e2, w2])⟩, .intI (by rw [e1, w1])⟩)) trivial rfl)
   | (rename_i ha; simp only [decide_eq_true_eq, decide_eq_false_iff_not, beq_iff_eq, bne_iff_ne, beq_eq_false_iff_ne, bne_eq_false_iff_eq, ne_eq, Int.not_lt, Int.not_le, Nat.not_lt, Nat.not_le, Decidable.not_not, Int.toNat_natCast] at ha; have w := scan_hit (g := evE) (d := ev0) (l := l.ev) (by omega) h0 (by rw [evE15 h]; decide); obtain ⟨w1, w2⟩ := w; exact .mk [] [] _ rfl (.le (.tups ⟨⟨trivial, .intI (by rw [e2, w2])⟩, .intI (by rw [e1, w1, evE15 h])⟩)) trivial rfl)
   | (rename_i hb ha; simp only [Int.toNat_natCast, Bool.not_eq_true', Bool.not_eq_false', decide_eq_true_eq, decide_eq_false_iff_not, beq_iff_eq, bne_iff_ne, beq_eq_false_iff_ne, bne_eq_false_iff_eq, ne_eq, Int.not_lt, Int.not_le, Nat.not_lt, Nat.not_le, Decidable.not_not, Int.toNat_natCast] at ha hb
      have hh := evE2 (by simp) (by simp) ha h
      first
       | (exact ⟨i + 1, ⟨by omega, all_lt h0 hh⟩, by show List.length l.ev - (i + 1) < List.length l.ev - i; omega, .le ⟨rfl, trivial, ⟨.refl _, .refl _, .refl _, trivial⟩⟩⟩)
       | (have w := scan_hit (g := evE) (d := ev0) (l := l.ev) (by omega) h0 (by rw [hh]; decide); obtain ⟨w1, w2⟩ := w; exact .mk [] [] _ rfl (.le (.tups ⟨⟨trivial, .intI (by rw [e2, w2])⟩, .intI (by rw [e1, w1, hh]; rfl)⟩)) trivial rfl))
end
open Go.Proofs
theorem sum_take {l : List Ev} {i : Nat} {o : Int} (h : i < l.length) : sumL o (l.drop i) = sumL (sumStep (sumStep o (l.getD i ev0).k) (l.getD i ev0).n) (l.drop (i + 1)) := by rw [drop_at (d := ev0) h]; rfl
theorem step_lt (o n : Int) : -998244353 < sumStep o n /\ sumStep o n < 998244353 := tmod_lt _
def sum2 (o : Int) (e : Ev) : Nat -> Int
 | 0 => o
 | 1 => sumStep o e.k
 | _ => sumStep (sumStep o e.k) e.n
theorem take_at {α : Type} {l : List α} {n i : Nat} {d : α} (h : i < n) : (l.take n).getD i d = l.getD i d := by
 rw [List.getD_eq_getElem?_getD, List.getD_eq_getElem?_getD, List.getElem?_take_of_lt h]
theorem le_take {l : List Ev} {n : Int} {f : Nat -> Nat -> AV} {m : Nat} (hm : m = n.toNat) (h1 : n <= l.length) (hf : ∀ i j, f i j = tbl (evC (l.getD i ev0)) j) : Le (.slc 2 m f) (evS (l.take n.toNat)) := by
 subst hm
 have : (l.take n.toNat).length = n.toNat := by rw [List.length_take]; omega
 refine .slcN this.symm fun i j hi hj => ?_
 rw [hf, take_at hi]
 exact .refl _
def Kinds (l : List Ev) : Prop := ∀ j, j < l.length -> 0 <= (l.getD j ev0).k /\ (l.getD j ev0).k <= 6
theorem kinds_of {l : List Ev} (h : scanE evE l = 0) : Kinds l := fun j hj => by
 have h := scan_zero (d := ev0) h j hj
 cases hb : inB (l.getD j ev0).k 0 6 with
 | true => exact inB_iff.1 hb
 | false => rw [evE15 hb] at h; cases h
section
variable {W0 : World} (hX : (Xc W0 Gt).Good)
include hX
theorem c57 (l : List Ev) (hn : Side (l.length <= 1000000)) : Pure (Xc W0 Gt) 57 [evS l] (.int .i64 (sumL 1 l)) := by
 have hn := hn.get
 refine mut_of' hX (fnI Tryz.f57) rfl ?_
 repeat' (first
  | (refine Ax.go ?_; apply Alt.one)
  | exact Cz.go
  | ((fail_if_success refine Stop.go ?_); first | (with_reducible first | apply And.intro | apply Cut.go | (refine impI ?_; intro _)) | (refine propI ?_; conv => whnf)))
 refine ⟨Nat × Int, fun y => ([(3, .int .i64 y.2), (8, evS l), (9, .int .i64 l.length), (10, .int .i64 y.1)], []), fun y => y.1 <= l.length /\ -998244353 < y.2 /\ y.2 < 998244353 /\ sumL y.2 (l.drop y.1) = sumL 1 l, fun y => l.length - y.1, ⟨(0, 1), ⟨Nat.zero_le _, by decide, by decide, rfl⟩, .le ⟨rfl, trivial, ⟨.refl _, .refl _, .refl _, .refl _, trivial⟩⟩⟩, fun ⟨i, o⟩ ⟨hi, h1, h2, h3⟩ => ?_⟩
 simp only at hi h1 h2 h3
 repeat' (first
  | (refine Ax.go ?_; apply Alt.one)
  | exact Cz.go
  | ((fail_if_success refine Stop.go ?_); first | (with_reducible first | apply And.intro | apply Cut.go | (refine impI ?_; intro _)) | (refine propI ?_; conv => whnf)))
 all_goals try exact nbZ
 ·rename_i h; have h := of_decide_eq_true h; exact owZ
 ·rename_i h
  have h := of_decide_eq_true h
  have hi : i < l.length := by simpa using h
  clear h
  have b1 := step_lt o (l.getD i ev0).k
  have b2 := step_lt (sumStep o (l.getD i ev0).k) (l.getD i ev0).n
  have t1 := tmod_lt (l.getD i ev0).k
  have t2 := tmod_lt (l.getD i ev0).n
  have hp : prime = 998244353 := rfl
  rw [hp] at t1 t2
  refine ⟨Nat, fun j => ([(3, .int .i64 (sum2 o (l.getD i ev0) j)), (8, evS l), (9, .int .i64 l.length), (10, .int .i64 i), (18, .agg 2 (tbl [.int .i64 (l.getD i ev0).k, .int .i64 (l.getD i ev0).n])), (19, .int .i64 j)], []), fun j => j <= 2, fun j => 2 - j, ⟨0, by decide, .le ⟨rfl, trivial, ⟨.refl _, .refl _, .refl _, .refl _, .refl _, .refl _, trivial⟩⟩⟩, fun j hj => ?_⟩
  rcases (show j = 0 \/ j = 1 \/ j = 2 by omega) with rfl | rfl | rfl
  repeat' (first
   | (refine Ax.go ?_; apply Alt.one)
   | exact Cz.go
   | ((fail_if_success refine Stop.go ?_); first | (with_reducible first | apply And.intro | apply Cut.go | (refine impI ?_; intro _)) | (refine propI ?_; conv => whnf)))
  all_goals try (rename_i h; exact absurd h (by decide))
  all_goals try (exact .of (by decide))
  all_goals try (refine Sc.of ?_; (try simp only [sum2]); exact ⟨by omega, by omega⟩)
  ·exact ⟨1, by decide, by decide, .le ⟨rfl, trivial, ⟨.refl _, .refl _, .refl _, .refl _, .refl _, .refl _, trivial⟩⟩⟩
  ·exact ⟨2, by decide, by decide, .le ⟨rfl, trivial, ⟨.refl _, .refl _, .refl _, .refl _, .refl _, .refl _, trivial⟩⟩⟩
  ·refine ⟨(i + 1, sum2 o (l.getD i ev0) 2), ⟨by show i + 1 <= l.length; omega, b2.1, b2.2, ?_⟩, by show l.length - (i + 1) < l.length - i; omega, .le ⟨rfl, trivial, ⟨.refl _, .refl _, .refl _, .refl _, trivial⟩⟩⟩
   rw [<- h3, sum_take hi]; rfl
 ·rename_i h; have h := of_decide_eq_false h
  have : i = l.length := by simp only at h; omega
  subst this
  rw [List.drop_length] at h3
  exact .mk [] [] _ rfl (.le (.intI h3)) trivial rfl
theorem c16 (l : Log) (hs : Side (l.ev.length <= 1000000)) : Pure (Xc W0 Gt) 16 [lgA l] (lgA l) := by
 refine mut_of' hX (fnI Tryz.f16) rfl ?_
 repeat' (first
  | (refine Ax.go ?_; apply Alt.one)
  | exact Cz.go
  | ((fail_if_success refine Stop.go ?_); first | (with_reducible first | apply And.intro | apply Cut.go | (refine impI ?_; intro _)) | (refine propI ?_; conv => whnf)))
 all_goals try exact nbZ
 all_goals first
  | (refine Sc.of ?_; have := hs.get; exact ⟨by show (l.ev.length : Nat) * 16 <= _; omega, by omega⟩)
  | exact .mk [] [2] _ rfl (.aggs ⟨⟨⟨⟨trivial, .le (.refl _)⟩, .le (.refl _)⟩, .le (.refl _)⟩, .own rfl fun _ _ _ _ => .refl _⟩) trivial rfl
theorem c16o (l : Log) (hs : Side (l.ev.length <= 1000000)) : Mut (Xc W0 Gt) 16 [lgA l] [] (.agg 4 (tbl (logC l (.own 0 1)))) [.list 41 2 l.ev.length (fun i j => tbl (evC (l.ev.getD i ev0)) j) 1] := by
 refine mut_of' hX (fnI Tryz.f16) rfl ?_
 repeat' (first
  | (refine Ax.go ?_; apply Alt.one)
  | exact Cz.go
  | ((fail_if_success refine Stop.go ?_); first | (with_reducible first | apply And.intro | apply Cut.go | (refine impI ?_; intro _)) | (refine propI ?_; conv => whnf)))
 all_goals try exact nbZ
 all_goals first
  | (refine Sc.of ?_; have := hs.get; exact ⟨by show (l.ev.length : Nat) * 16 <= _; omega, by omega⟩)
  | exact .mk [2] [] _ rfl (.aggs ⟨⟨⟨⟨trivial, .le (.refl _)⟩, .le (.refl _)⟩, .le (.refl _)⟩, .le (.refl _)⟩) ⟨.le (.refl _), trivial⟩ rfl
theorem c62 (l : Log) (e es n : Nat) (f : Nat -> Nat -> AV) (v : Nat) : Mut (Xc W0 Gt) 62 [lgA l, .own 0 v] [.list e es n f v] (.agg 4 (tbl (logC l (.own 0 v)))) [.list e es n f v] := by
 refine mut_of' hX (fnI Tryz.f62) rfl ?_
 repeat' (first
  | (refine Ax.go ?_; apply Alt.one)
  | exact Cz.go
  | ((fail_if_success refine Stop.go ?_); first | (with_reducible first | apply And.intro | apply Cut.go | (refine impI ?_; intro _)) | (refine propI ?_; conv => whnf)))
 all_goals try exact nbZ
 all_goals exact .mk [] [] _ rfl (.aggs ⟨⟨⟨⟨trivial, .le (.refl _)⟩, .le (.refl _)⟩, .le (.refl _)⟩, .le (.refl _)⟩) ⟨.le (.refl _), trivial⟩ rfl
end
open Go.Proofs Go.RowKit
theorem LeH.ownM {H : List HObj} {k ver e es n m : Nat} {f g : Nat -> Nat -> AV} (hk : H[k]? = some (.list e es n f ver)) (hm : n = m) (h : ∀ i j, i < n -> j < es -> Le (f i j) (g i j)) : LeH H (.own k ver) (.slc es m g) := by subst hm; exact .own hk h
@[irreducible] def sumE (l : Log) (n : Int) : Int := firstS [aloneE l, bif inB n 0 l.ev.length then 0 else 2]
@[irreducible] def sumN (l : Log) (n : Int) : Int := bif decide (sumE l n = 0) then sumL 1 (l.ev.take n.toNat) else 0
@[irreducible] def sealE (l : Log) : Int := firstS [aloneE l, bif decide ((l.ev.length : Int) < 200) then 0 else 16]
@[irreducible] def sealL (l : Log) : Log := bif decide (sealE l = 0) then { l with ev := l.ev ++ [⟨6, sumL 1 l.ev⟩] } else log0
theorem sum_bad {l : Log} {n e : Int} (h : sumE l n = e) (h0 : e ≠ 0) : sumN l n = 0 := by unfold sumN; rw [h, decide_eq_false h0]; rfl
theorem sum_ok {l : Log} {n : Int} (h : sumE l n = 0) : sumN l n = sumL 1 (l.ev.take n.toNat) := by unfold sumN; rw [h]; rfl
theorem seal_bad {l : Log} {e : Int} (h : sealE l = e) (h0 : e ≠ 0) : sealL l = log0 := by unfold sealL; rw [h, decide_eq_false h0]; rfl
theorem seal_ok {l : Log} (h : sealE l = 0) : sealL l = { l with ev := l.ev ++ [⟨6, sumL 1 l.ev⟩] } := by unfold sealL; rw [h]; rfl
theorem alone_0 {l : Log} (h : aloneE l = 0) : l.ev.length <= 200 /\ Kinds l.ev := by
 by_cases hh : headE l = 0
 ·exact ⟨head_0 hh, kinds_of (by rw [<- (alone_eq hh).1]; exact h)⟩
 ·exact absurd ((alone_ne rfl hh).1.symm.trans h) hh
theorem push_at {l : List Ev} {x : Ev} {i j : Nat} {f : Nat -> Nat -> AV} (hf : ∀ j, f 0 j = tbl (evC x) j) (hi : i < l.length + 1) : joinF l.length (fun i j => tbl (evC (l.getD i ev0)) j) f i j = tbl (evC ((l ++ [x]).getD i ev0)) j := by
 unfold joinF
 by_cases h : i < l.length
 ·rw [if_pos h]
  show tbl (evC (l.getD i ev0)) j = _
  rw [List.getD_eq_getElem?_getD, List.getD_eq_getElem?_getD, List.getElem?_append_left h]
 ·obtain rfl : i = l.length := by omega
  rw [if_neg h, Nat.sub_self, hf]
  simp
section
variable {W0 : World} (hX : (Xc W0 Gt).Good)
include hX
theorem c63o (l : List Ev) (hs : Side (l.length <= 1000000)) : Mut (Xc W0 Gt) 63 [evS l] [] (.own 0 1) [.list 41 2 l.length (fun i j => tbl (evC (l.getD i ev0)) j) 1] := by
 have hs := hs.get
 rcases Nat.eq_zero_or_pos l.length with h0 | h0
 ·obtain rfl := List.eq_nil_of_length_eq_zero h0
  refine Mut.vals (fun v => ∃ a cap, v = .slice a 0 cap) ⟨_, (fnI Tryz.f63).1, by kernel_rfl, by kernel_rfl⟩ (fun g I w m v ⟨a, cap, hv, _⟩ => ⟨a, cap, hv⟩) fun v ⟨a, cap, hv⟩ => ?_
  subst hv
  cases a with
  | none =>
   refine Mut.slc0_own ?_
   refine mut_of' hX (fnI Tryz.f63) rfl ?_
   repeat' (first
    | (refine Ax.go ?_; apply Alt.one)
    | exact Cz.go
    | ((fail_if_success refine Stop.go ?_); first | (with_reducible first | apply And.intro | apply Cut.go | (refine impI ?_; intro _)) | (refine propI ?_; conv => whnf)))
   all_goals try (rename_i h; first | exact absurd h (by decide) | (cases h; done))
   all_goals first | exact .of (by decide) | exact .mk [] [] _ rfl (.le (.refl _)) trivial rfl
  | some a =>
   refine mut_of' hX (fnI Tryz.f63) rfl ?_
   repeat' (first
    | (refine Ax.go ?_; apply Alt.one)
    | exact Cz.go
    | ((fail_if_success refine Stop.go ?_); first | (with_reducible first | apply And.intro | apply Cut.go | (refine impI ?_; intro _)) | (refine propI ?_; conv => whnf)))
   all_goals try (rename_i h; first | exact absurd h (by decide) | (cases h; done))
   all_goals first | exact .of ⟨by decide, by decide⟩ | exact .mk [0] [] _ rfl (.le (.refl _)) ⟨.le (.list fun i j hi => absurd hi (Nat.not_lt_zero _)), trivial⟩ rfl
 ·refine mut_of' hX (fnI Tryz.f63) rfl ?_
  repeat' (first
   | (refine Ax.go ?_; apply Alt.one)
   | exact Cz.go
   | ((fail_if_success refine Stop.go ?_); first | (with_reducible first | apply And.intro | apply Cut.go | (refine impI ?_; intro _)) | (refine propI ?_; conv => whnf)))
  all_goals try (rename_i h; first | exact absurd h (by decide) | (cases h; done))
  all_goals first | exact .of h0 | (refine Sc.of ?_; exact ⟨by show (l.length : Nat) * 16 <= _; omega, by omega⟩) | exact .mk [0] [] _ rfl (.le (.refl _)) ⟨.le (.refl _), trivial⟩ rfl
theorem c23 (l : Log) (n : Int) : Pure (Xc W0 Gt) 23 [lgA l, .int .i64 n] (.tup 2 (tbl [.int .i64 (sumN l n), .int .i64 (sumE l n)])) := by
 refine mut_of' hX (fnI Tryz.f23) rfl ?_
 repeat' (first
  | (refine Ax.go ?_; with_reducible first | apply callAlt (c61 hX _) | apply callAlt (c50 hX _ _ _) | apply callAlt (c49 hX _ _) | apply callAlt (c48_2 hX _ _) | apply callAlt (c57 hX (l.ev.take n.toNat) ?_) | apply Alt.one)
  | ((with_reducible refine Ar.go ?_); first | exact ⟨le_slc2 rfl rfl, trivial⟩ | exact AllLe.refl _ | (repeat' (first | exact trivial | apply Le.aggs | apply Le.tups | apply Le.fns | exact Le.refl _ | refine ⟨?_, ?_⟩)))
  | exact Cz.go
  | ((fail_if_success refine Stop.go ?_); first | (with_reducible first | apply And.intro | apply Cut.go | (refine impI ?_; intro _)) | (refine propI ?_; conv => whnf)))
 all_goals try exact nbZ
 all_goals (rename_i h; simp only [decide_eq_true_eq, decide_eq_false_iff_not, beq_iff_eq, bne_iff_ne, beq_eq_false_iff_ne, bne_eq_false_iff_eq, ne_eq, Int.not_lt, Int.not_le, Nat.not_lt, Nat.not_le, Decidable.not_not, Int.toNat_natCast] at h)
 ·have e : sumE l n = firstS [aloneE l, bif inB n 0 l.ev.length then 0 else 2] := by unfold sumE; rfl
  exact .mk [] [] _ rfl (.le (.tups ⟨⟨trivial, .intI (sum_bad e h).symm⟩, .intI e.symm⟩)) trivial rfl
 all_goals (have e : sumE l n = 0 := by unfold sumE; exact h)
 all_goals (have w := firstS_two h; obtain ⟨a1, a2⟩ := w; have w := alone_0 a1; obtain ⟨b1, b2⟩ := w; have b3 : inB n 0 l.ev.length = true := by cases hc : inB n 0 l.ev.length <;> simp_all)
 all_goals (have b4 := inB_iff.1 b3)
 all_goals first
  | exact .mk (by rw [List.length_take]; omega)
  | exact owZ
  | exact le_take (l := l.ev) (by simp) (by omega) (fun i j => by simp)
  | exact ⟨le_take (l := l.ev) (by simp) (by omega) (fun i j => by simp), trivial⟩
  | exact .mk [] [] _ rfl (.le (.tups ⟨⟨trivial, .intI (sum_ok e).symm⟩, .intI e.symm⟩)) trivial rfl
theorem c21 (l : Log) : Pure (Xc W0 Gt) 21 [lgA l] (.tup 2 (tbl [lgA (sealL l), .int .i64 (sealE l)])) := by
 refine mut_of' hX (fnI Tryz.f21) rfl ?_
 repeat' (first
  | (refine Ax.go ?_; with_reducible first | apply callAlt (c61 hX _) | apply callAlt (c49 hX _ _) | apply callAlt (c48_2 hX _ _) | (apply altM (ks := []) (m := 1); apply And.intro; apply Sc.of; apply (c63o hX l.ev ?_)) | apply callAlt (c57 hX l.ev ?_) | (apply altM (ks := [2]) (m := 0); apply And.intro; apply Sc.of; apply (c62 hX l)) | apply Alt.one)
  | ((with_reducible refine Ar.go ?_); first | exact ⟨le_slc2 rfl rfl, trivial⟩ | exact AllLe.refl _ | (repeat' (first | exact trivial | apply Le.aggs | apply Le.tups | apply Le.fns | exact Le.refl _ | refine ⟨?_, ?_⟩)))
  | exact Cz.go
  | ((fail_if_success refine Stop.go ?_); first | (with_reducible first | apply And.intro | apply Cut.go | (refine impI ?_; intro _)) | (refine propI ?_; conv => whnf)))
 all_goals try exact nbZ
 all_goals (rename_i h; simp only [decide_eq_true_eq, decide_eq_false_iff_not, beq_iff_eq, bne_iff_ne, beq_eq_false_iff_ne, bne_eq_false_iff_eq, ne_eq, Int.not_lt, Int.not_le, Nat.not_lt, Nat.not_le, Decidable.not_not, Int.toNat_natCast] at h)
 ·have e : sealE l = firstS [aloneE l, bif decide ((l.ev.length : Int) < 200) then 0 else 16] := by unfold sealE; rfl
  rw [seal_bad e h, e]
  exact .mk [] [] _ rfl (.le (.tups ⟨⟨trivial, .aggs ⟨⟨⟨⟨trivial, .refl _⟩, .refl _⟩, .refl _⟩, .slc0 _ _⟩⟩, .refl _⟩)) trivial rfl
 all_goals (have e : sealE l = 0 := by unfold sealE; exact h)
 all_goals (have w := firstS_two h; obtain ⟨a1, a2⟩ := w; have w := alone_0 a1; obtain ⟨b1, b2⟩ := w)
 all_goals try (first | exact Side.mk (by omega) | (refine Sc.of ?_; exact ⟨by show (l.ev.length + (0 + 1) : Nat) * 16 <= 140737488355328; omega, by omega⟩))
 ·refine Sc.of ⟨?_, ?_⟩
  ·show (l.ev.length + 1 : Nat) * 16 <= 140737488355328; omega
  ·show (l.ev.length + 1 : Nat) <= 9223372036854775807; omega
 ·rw [seal_ok e, e]
  exact .mk [] [2] _ rfl (.tups ⟨⟨trivial, .aggs ⟨⟨⟨⟨trivial, .le (.refl _)⟩, .le (.refl _)⟩, .le (.refl _)⟩, .ownM rfl (by simp) (fun i j hi _ => by rw [push_at (x := ⟨6, sumL 1 l.ev⟩) (fun j => by show List.getD _ (0 * 2 + j) _ = _; rw [Nat.zero_mul, Nat.zero_add]; rfl) hi]; exact .refl _)⟩⟩, .le (.refl _)⟩) trivial rfl
end
open Go.Proofs Go.RowKit
def brC (e : Ev) : Bool := bif e.k == 1 then inB e.n 1 3600 else false
def brA (l : Log) : Nat -> Int
 | 0 => 0
 | i + 1 => bif brC (l.ev.getD i ev0) then brA l i + (l.ev.getD i ev0).n else brA l i
def brL (l : Log) : Bool := bif (bif decide (30 < (l.ev.length : Int)) then decide ((l.ev.length : Int) <= 200) else false) then true else decide (202 < (l.ev.length : Int))
@[irreducible] def briefB (l : Log) : Bool := bif brL l then false else decide (brA l l.ev.length <= 400)
theorem brL_len {l : Log} (h : brL l = false) : l.ev.length <= 202 := by
 unfold brL at h
 cases a : decide (30 < (l.ev.length : Int)) <;> cases b : decide ((l.ev.length : Int) <= 200) <;> cases c : decide (202 < (l.ev.length : Int)) <;> rw [a, b, c] at h <;> first | (cases h; done) | (have := of_decide_eq_false c; omega)
theorem and_tt {a b : Bool} (h : (bif a then b else false) = true) : a = true /\ b = true := by cases a <;> cases b <;> simp_all
theorem brA_bd (l : Log) : ∀ i : Nat, 0 <= brA l i /\ brA l i <= 3600 * i
 | 0 => by simp [brA]
 | i + 1 => by
  have ih := brA_bd l i
  simp only [brA]
  cases q : brC (l.ev.getD i ev0) with
  | false => show 0 <= brA l i /\ brA l i <= _; omega
  | true =>
   unfold brC at q
   have w := inB_iff.1 (and_tt q).2
   show 0 <= brA l i + _ /\ brA l i + _ <= _; omega
section
variable {W0 : World} {G : Nat -> Option AV} (hX : (Xc W0 G).Good)
include hX
theorem c14 (l : Log) : Pure (Xc W0 G) 14 [lgA l] (.bool (briefB l)) := by
 refine mut_of' hX (fnI Tryz.f14) rfl ?_
 repeat' (first
  | (refine Ax.go ?_; with_reducible first | apply callAlt (c15 hX _ _ _) | apply Alt.one)
  | exact Cz.go
  | ((fail_if_success refine Stop.go ?_); first | (with_reducible first | apply And.intro | apply Cut.go | (refine impI ?_; intro _)) | (refine propI ?_; conv => whnf)))
 all_goals try exact nbZ
 ·rename_i h; replace h : brL l = true := h; exact .mk [] [] _ rfl (.le (.boolT (by unfold briefB; rw [h]; rfl))) trivial rfl
 rename_i h; replace h : brL l = false := h
 have el := brL_len h
 refine ⟨Nat, fun i => ([(1, .ptr 0 0), (3, .int .i64 (brA l i)), (4, .int .i64 i)], [.box (logC l (evS l.ev))]), fun i => i <= l.ev.length, fun i => l.ev.length - i, ⟨0, Nat.zero_le _, .le ⟨rfl, ⟨.refl _, trivial⟩, ⟨.refl _, .refl _, .refl _, trivial⟩⟩⟩, fun i hi => ?_⟩
 replace hi : i <= l.ev.length := hi
 have bb := brA_bd l i
 repeat' (first
  | (refine Ax.go ?_; with_reducible first | apply callAlt (c15 hX _ _ _) | apply Alt.one)
  | exact Cz.go
  | ((fail_if_success refine Stop.go ?_); first | (with_reducible first | apply And.intro | apply Cut.go | (refine impI ?_; intro _)) | (refine propI ?_; conv => whnf)))
 all_goals try exact nbZ
 all_goals try (rename_i q r; have q := of_decide_eq_true q; replace r : brC (l.ev.getD i ev0) = _ := r; have bc := brA_bd l (i + 1); simp only [brA] at bc; rw [r] at bc; replace bc : 0 <= brA l i + (l.ev.getD i ev0).n /\ brA l i + (l.ev.getD i ev0).n <= 3600 * ((i + 1 : Nat) : Int) := bc; exact Sc.of ⟨by show _ <= brA l i + _; simp only [Int.toNat_natCast]; omega, by show brA l i + _ <= _; simp only [Int.toNat_natCast]; omega⟩)
 all_goals try (rename_i q; have q := of_decide_eq_true q; first | exact owZ | exact Sc.imp fun _ => ⟨by omega, by omega⟩)
 all_goals try (rename_i q r; have q := of_decide_eq_true q; first | exact owZ | exact Sc.imp fun _ => ⟨by omega, by omega⟩)
 all_goals try (rename_i q r; have q := of_decide_eq_true q; replace r : brC (l.ev.getD i ev0) = _ := r; exact ⟨i + 1, by show i + 1 <= _; omega, by show l.ev.length - (i + 1) < l.ev.length - i; omega, .le ⟨rfl, ⟨.refl _, trivial⟩, ⟨.refl _, .intI (by simp only [brA]; rw [r]; rfl), .intI (by omega), trivial⟩⟩⟩)
 rename_i q; have q := of_decide_eq_false q
 ·obtain rfl : i = l.ev.length := by omega
  exact .mk [] [] _ rfl (.le (.boolT (by unfold briefB; rw [h]; rfl))) trivial rfl
end
end Go.Fx
