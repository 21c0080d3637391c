/-
 The first show or seal that is not right.
-/
import Derived.Test.YtfdegaojblmdiaaGreatDoorGm
set_option linter.all false
namespace Go.Fx
open Go.Proofs Go.RowKit
theorem bh_t {l : Log} {i : Nat} (h : decide (0 <= bhI l i) = true) : bhN l i = bhI l i + ((i : Int) + 1) := by unfold bhN; rw [h]; rfl
theorem bh_f {l : Log} {i : Nat} (h : decide (0 <= bhI l i) = false) : bhN l i = bhI l i := by unfold bhN; rw [h]; rfl
theorem find_bd {p : Nat -> Bool} {n : Nat} : findI p n = -1 \/ (0 <= findI p n /\ findI p n < n) := by
 by_cases q : 0 <= findI p n
 ·obtain ⟨i, hi, e, _⟩ := find_is q
  right; omega
 ·by_cases c : ∃ j, j < n /\ p j = true
  ·obtain ⟨j, hj, hp⟩ := c
   exact absurd (of_decide_eq_true (find_any hj hp)) q
  ·left; exact findI_none fun j hj => by cases e : p j with
    | false => rfl
    | true => exact absurd ⟨j, hj, e⟩ c
section
variable {W0 : World} (hX : (Xc W0 Gt).Good)
include hX
theorem c59 (v : Ev) : Pure (Xc W0 Gt) 59 [evA v] (.bool (v.k == 6)) := by
 refine mut_of' hX (fnI Tryz.f59) rfl ?_
 repeat' (first
  | (refine Ax.go ?_; apply Alt.one)
  | exact Cl.go
  | exact Ce.go
  | ((fail_if_success refine Stop.go ?_); first | (with_reducible first | apply And.intro | apply Cut.go | (refine impI ?_; intro _)) | (refine propI ?_; conv => whnf)))
 all_goals try exact nbZ
 all_goals (exact .mk [] [] _ rfl (.le (.refl _)) trivial rfl)
theorem c58 (m : Nat) (g : Nat -> Ev) (hm : Side (m <= 1000)) : Pure (Xc W0 Gt) 58 [.slc 2 m (fun i j => tbl (evC (g i)) j), .fn 59 0 (fun _ => .any)] (.int .i64 (findI (fun i => (g i).k == 6) m)) := by
 have hm := hm.get
 refine mut_of' hX (fnI Tryz.f58) rfl ?_
 repeat' (first
  | (refine Ax.go ?_; apply Alt.one)
  | exact Cl.go
  | exact Ce.go
  | ((fail_if_success refine Stop.go ?_); first | (with_reducible first | apply And.intro | apply Cut.go | (refine impI ?_; intro _)) | (refine propI ?_; conv => whnf)))
 refine ⟨Nat, fun i => ([(0, .slc 2 m (fun i j => tbl (evC (g i)) j)), (1, .fn 59 0 (fun _ => .any)), (7, .int .i64 m), (8, .int .i64 ((i : Nat)))], []), fun i => i <= m /\ ∀ j, j < i -> ((g j).k == 6) = false, fun i => m - i, ⟨0, ⟨Nat.zero_le _, fun _ h => by omega⟩, .le ⟨rfl, trivial, ⟨.refl _, .refl _, .refl _, .refl _, trivial⟩⟩⟩, fun i ⟨hi, h0⟩ => ?_⟩
 repeat' (first
  | (refine Ax.go ?_; with_reducible first | apply callAlt (c59 hX _) | apply Alt.one)
  | exact Cl.go
  | exact Ce.go
  | ((fail_if_success refine Stop.go ?_); first | (with_reducible first | apply And.intro | apply Cut.go | (refine impI ?_; intro _)) | (refine propI ?_; conv => whnf)))
 all_goals try exact nbZ
 all_goals try (rename_i h; have h := of_decide_eq_true h; exact owZ)
 all_goals try (rename_i h; have h := of_decide_eq_false h; exact .mk [] [] _ rfl (.le (.intI (findI_none (fun j hj => h0 j (by omega))).symm)) trivial rfl)
 all_goals (rename_i h1 h; have h1 := of_decide_eq_true h1; simp only [Int.toNat_natCast] at h)
 all_goals first
  | exact owZ
  | exact ⟨i + 1, ⟨by omega, all_lt h0 h⟩, by show m - (i + 1) < m - i; omega, .le ⟨rfl, trivial, ⟨.refl _, .refl _, .refl _, .refl _, trivial⟩⟩⟩
  | (exact .mk [] [] _ rfl (.le (.intI (findI_hit (by omega) h0 h).symm)) trivial rfl)
theorem c19e (t : Trf) (l : Log) (hs : Side (TOk t)) (hr : rnE t l ≠ 0) : Pure (Xc W0 Gt) 19 [trfA t, lgA l] (.tup 2 (tbl [.agg 3 (tbl [.int .i64 (ffZ t l (ffI t l)), .int .i64 (ffZ t l (slN l (ffI t l).toNat)), .int .i64 (ffZ t l (bhN l (ffI t l).toNat))]), .int .i64 (ffE t l)])) := by
 have hx0 : (rnE t l != 0) = false -> False := fun q => hr (bne_eq_false_iff_eq.1 q)
 refine mut_of' hX (fnI Tryz.f19) rfl ?_
 repeat' (first
  | (refine Ax.go ?_; with_reducible first | apply callAlt (c47e hX t l hs hr) | apply Alt.one)
  | exact Cl.go
  | exact Ce.go
  | ((fail_if_success refine Stop.go ?_); (first | exact (hx0 ‹_›).elim | (with_reducible first | apply And.intro | apply Cut.go | (refine impI ?_; intro _)) | (refine propI ?_; conv => whnf))))
 all_goals try exact nbZ
 have w := ff_bad hr
 exact .mk [] [] _ rfl (.le (.tups ⟨⟨trivial, .aggs (n := 3) ⟨⟨⟨trivial, .intI (w.2 _).symm⟩, .intI (w.2 _).symm⟩, .intI (w.2 _).symm⟩⟩, .intI w.1.symm⟩)) trivial rfl
set_option maxHeartbeats 1000000 in
theorem c19k (t : Trf) (l : Log) (hs : Side (TOk t)) (hr : rnE t l = 0) : Pure (Xc W0 Gt) 19 [trfA t, lgA l] (.tup 2 (tbl [.agg 3 (tbl [.int .i64 (ffZ t l (ffI t l)), .int .i64 (ffZ t l (slN l (ffI t l).toNat)), .int .i64 (ffZ t l (bhN l (ffI t l).toNat))]), .int .i64 (ffE t l)])) := by
 have g := (rn_gd hs.get hr).1
 have el := (gd_head g.al).2.2.2.1
 have hx0 : ((0 : Int) != 0) = true -> False := fun q => by cases q
 refine mut_of' hX (fnI Tryz.f19) rfl ?_
 repeat' (first
  | (refine Ax.go ?_; with_reducible first | (apply altM (ks := []) (m := 5); apply And.intro; apply Sc.of; apply (c47 hX t l hs hr)) | (apply altM (ks := []) (m := 5); apply And.intro; apply Sc.of; apply (c51 hX t l ?_)) | apply Alt.one)
  | exact Cl.go
  | exact Ce.go
  | ((fail_if_success refine Stop.go ?_); (first | exact (hx0 ‹_›).elim | (with_reducible first | apply And.intro | apply Cut.go | (refine impI ?_; intro _)) | (refine propI ?_; conv => whnf))))
 all_goals try exact nbZ
 all_goals try (exact Side.mk g)
 refine ⟨Nat, fun i => ([(3, .ptr 1 0), (4, .ptr 2 0), (8, .ptr 8 0), (9, .int .i64 (slN l (i))), (28, evS l.ev), (29, .int .i64 l.ev.length), (30, .int .i64 (((i) : Nat)))], (.dead :: .box (logC l (evS l.ev)) :: .box [.int .i64 0, .int .i64 0, .int .i64 0] :: .dead :: .dead :: .dead :: .dead :: .dead :: (mcO t l (mcN t l (i))).map (renO (numOf [8, 9, 10, 11, 12])))), fun i => i <= l.ev.length /\ ∀ j, j < i -> wrB t l j = false, fun i => l.ev.length - i, ⟨0, ⟨Nat.zero_le _, fun _ h => absurd h (Nat.not_lt_zero _)⟩, .le ⟨by kernel_rfl, ⟨.dead _, .refl _, .refl _, .dead _, .dead _, .dead _, .dead _, .dead _, HLe.ofEq (by kernel_rfl)⟩, ⟨.refl _, .refl _, .refl _, .refl _, .refl _, .refl _, .refl _, trivial⟩⟩⟩, fun i hy => ?_⟩
 have hi : i <= l.ev.length := hy.1
 have h0 : ∀ j, j < i -> wrB t l j = false := hy.2
 clear hy
 have hy : Side (Hm t l (mcN t l i)) := Side.mk (mcN_hm g hi)
 repeat' (first
  | (refine Ax.go ?_; first | (with_reducible (apply altK (ks := [8, 9, 10, 11, 12]); apply And.intro; apply Sc.of; apply (c56 hX t l (mcN t l i) hy))) | (with_reducible (apply altM (ks := [8, 9, 10, 11, 12]) (m := 0); apply And.intro; apply Sc.of; apply (c52 hX t l (mcN t l i) hy i ?_))) | ((with_reducible apply callAlt (c57 hX (l.ev.take i) ?_)); case hl => exact ⟨le_take (l := l.ev) (n := (i : Int)) (by simp) (by omega) (fun i j => by simp), trivial⟩) | ((with_reducible apply callAlt (c58 hX (l.ev.length - (i + 1)) (fun j => l.ev.getD (i + 1 + j) ev0) ?_)); case hl => exact ⟨.slcN (by simp) (fun a j _ _ => .ofEq (by simp)), .refl _, trivial⟩) | apply Alt.one)
  | exact Cl.go
  | exact Ce.go
  | ((fail_if_success refine Stop.go ?_); first | (with_reducible first | apply And.intro | apply Cut.go | (refine impI ?_; intro _)) | (refine propI ?_; conv => whnf)))
 all_goals try exact nbZ
 all_goals try (obtain rfl : i = l.ev.length := (by have q := of_decide_eq_false ‹decide ((i : Int) < (l.ev.length : Int)) = false›; omega); have w := ff_none hr h0; exact .mk [] [] _ rfl (.le (.tups ⟨⟨trivial, .aggs (n := 3) ⟨⟨⟨trivial, .intI (w.2 _).symm⟩, .intI (w.2 _).symm⟩, .intI (w.2 _).symm⟩⟩, .intI w.1.symm⟩)) trivial rfl)
 all_goals (have lt : i < l.ev.length := (by have q := of_decide_eq_true ‹decide ((i : Int) < (l.ev.length : Int)) = true›; omega))
 all_goals try (exact owZ)
 all_goals try (exact .of ⟨by omega, by omega, by omega⟩)
 all_goals try (exact Sc.imp fun _ => ⟨by omega, by omega, by omega⟩)
 all_goals try (exact Side.mk ⟨mcN_ok g i hi, lt⟩)
 all_goals try (exact Side.mk (by omega))
 all_goals try (exact Side.mk (by rw [List.length_take]; omega))
 all_goals try (have fb := find_bd (p := fun j => (l.ev.getD (i + 1 + j) ev0).k == 6) (n := l.ev.length - (i + 1)); exact owZ)
 all_goals try (have fb := find_bd (p := fun j => (l.ev.getD (i + 1 + j) ev0).k == 6) (n := l.ev.length - (i + 1)); have q := of_decide_eq_true ‹decide (0 <= findI (fun j => (l.ev.getD (i + 1 + j) ev0).k == 6) (l.ev.length - (i + 1))) = true›; exact owZ)
 all_goals try (have w : wrB t l i = true := ‹_›; have f := ff_hit hr lt h0 w; have b := bh_t (l := l) (i := i) ‹decide (0 <= findI (fun j => (l.ev.getD (i + 1 + j) ev0).k == 6) (l.ev.length - (i + 1))) = true›; exact .mk [] [] _ rfl (.le (.tups ⟨⟨trivial, .aggs (n := 3) ⟨⟨⟨trivial, .intI (by rw [f.2.2, f.1])⟩, .intI (by rw [f.2.2, f.1, Int.toNat_natCast])⟩, .intI (by rw [f.2.2, f.1, Int.toNat_natCast]; exact b.symm)⟩⟩, .intI f.2.1.symm⟩)) trivial rfl)
 all_goals try (have w : wrB t l i = true := ‹_›; have f := ff_hit hr lt h0 w; have b := bh_f (l := l) (i := i) ‹decide (0 <= findI (fun j => (l.ev.getD (i + 1 + j) ev0).k == 6) (l.ev.length - (i + 1))) = false›; exact .mk [] [] _ rfl (.le (.tups ⟨⟨trivial, .aggs (n := 3) ⟨⟨⟨trivial, .intI (by rw [f.2.2, f.1])⟩, .intI (by rw [f.2.2, f.1, Int.toNat_natCast])⟩, .intI (by rw [f.2.2, f.1, Int.toNat_natCast]; exact b.symm)⟩⟩, .intI f.2.1.symm⟩)) trivial rfl)
 all_goals try (have w : wrB t l i = false := ‹_›; have k6 : ((l.ev.getD i ev0).k == 6) = true := ‹_›; exact ⟨i + 1, ⟨lt, all_lt h0 w⟩, by show l.ev.length - (i + 1) < l.ev.length - i; omega, .le ⟨by kernel_rfl, ⟨.dead _, .refl _, .refl _, .dead _, .dead _, .dead _, .dead _, .dead _, HLe.ofEq (by kernel_rfl)⟩, ⟨.refl _, .refl _, .refl _, .intI (by simp only [slN]; rw [k6]; rfl), .refl _, .refl _, .intI (by omega), trivial⟩⟩⟩)
 all_goals try (have w : wrB t l i = false := ‹_›; have k6 : ((l.ev.getD i ev0).k == 6) = false := ‹_›; exact ⟨i + 1, ⟨lt, all_lt h0 w⟩, by show l.ev.length - (i + 1) < l.ev.length - i; omega, .le ⟨by kernel_rfl, ⟨.dead _, .refl _, .refl _, .dead _, .dead _, .dead _, .dead _, .dead _, HLe.ofEq (by kernel_rfl)⟩, ⟨.refl _, .refl _, .refl _, .intI (by simp only [slN]; rw [k6]; rfl), .refl _, .refl _, .intI (by omega), trivial⟩⟩⟩)
end
end Go.Fx
