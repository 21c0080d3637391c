/-
  The fare of a trip.
-/
import Derived.Test.YtfdegaojblmdiaaGreatDoorGi
import Derived.Test.YtfdegaojblmdiaaGreatDoorGs

set_option linter.all false

/-
  The fare of a trip.
-/
namespace Go.Fx
open Go.Proofs Go.RowKit

def fixA (t : Trf) (x : Trp) : Int := bif decide (fixI t x < 0) then 0 else (t.fixed.getD (fixI t x).toNat fxd0).am
@[irreducible] def fixJ (t : Trf) (x : Trp) : Int := fixI t x
theorem fixJ_eq {t : Trf} {x : Trp} : fixJ t x = fixI t x := by unfold fixJ; rfl
def fixR (t : Trf) (x : Trp) : Int := bif decide (fixI t x < 0) then 12 else 0
section
variable {W0 : World} {G : Nat → Option AV} (hX : (Xc W0 G).Good)
include hX
theorem c159 (a b : Int) (x : Fxd) : Mut (Xc W0 G) 159 [fxdA x, .ptr 0 0, .ptr 1 0] [.box [.int .i64 a], .box [.int .i64 b]] (.bool (bif x.fr == a then x.tt == b else false)) [.box [.int .i64 a], .box [.int .i64 b]] := by
  refine mut_of' hX (fnI Tryz.f159) rfl ?_
  repeat' (first
    | (refine Ax.go ?_; refine Alt.one ?_)
    | exact Cl.go
    | exact Ck.go
    | ((fail_if_success refine Stop.go ?_); (first | (with_reducible first | refine And.intro ?_ ?_ | refine Cut.go ?_ | (refine impI ?_; intro _)) | (refine propI ?_; conv => whnf))))
  all_goals try (exact .of (Nat.le_of_ble_eq_true rfl))
  all_goals exact .mk [] [] _ rfl (.le (.boolT rfl)) ⟨.le (.refl _), .le (.refl _), trivial⟩ rfl
theorem c154f (a b : Int) (m : Nat) (g : Nat → Fxd) (hm : Side (m ≤ 1000)) : Mut (Xc W0 G) 154 [.slc 3 m (fun i j => tbl (fxdC (g i)) j), .fn 159 2 (tbl [.ptr 0 0, .ptr 1 0])] [.box [.int .i64 a], .box [.int .i64 b]] (.int .i64 (findI (fun i => bif (g i).fr == a then (g i).tt == b else false) m)) [.box [.int .i64 a], .box [.int .i64 b]] := by
  have hm := hm.get
  refine mut_of' hX (fnI Tryz.f154) rfl ?_
  repeat' (first
    | (refine Ax.go ?_; refine Alt.one ?_)
    | exact Cl.go
    | exact Ck.go
    | ((fail_if_success refine Stop.go ?_); (first | (with_reducible first | refine And.intro ?_ ?_ | refine Cut.go ?_ | (refine impI ?_; intro _)) | (refine propI ?_; conv => whnf))))
  refine ⟨Nat, fun i => ([(0, .slc 3 m (fun i j => tbl (fxdC (g i)) j)), (1, .fn 159 2 (tbl [.ptr 0 0, .ptr 1 0])), (7, .int .i64 m), (8, .int .i64 i)], [.box [.int .i64 a], .box [.int .i64 b]]), fun i => i ≤ m ∧ ∀ j : Nat, j < i → (fun i => bif (g i).fr == a then (g i).tt == b else false) j = false, fun i => m - i, ⟨0, ⟨Nat.zero_le _, fun _ h => by omega⟩, .le ⟨rfl, ⟨.refl _, .refl _, trivial⟩, ⟨.refl _, .refl _, .refl _, .refl _, trivial⟩⟩⟩, fun i ⟨hi, h0⟩ => ?_⟩
  repeat' (first
    | (refine Ax.go ?_; first | (with_reducible (apply altM (ks := [0, 1]) (m := 0); apply And.intro; apply Sc.of; apply (c159 hX a b))) | refine Alt.one ?_)
    | exact Cl.go
    | exact Ck.go
    | ((fail_if_success refine Stop.go ?_); (first | (with_reducible first | refine And.intro ?_ ?_ | refine Cut.go ?_ | (refine impI ?_; intro _)) | (refine propI ?_; conv => whnf))))
  all_goals first
    | exact .of (Nat.le_of_ble_eq_true rfl)
    | (rename_i h; have h := of_decide_eq_true h; exact .of ⟨by omega, by omega⟩)
    | (rename_i h; have h := of_decide_eq_false h; exact .mk [] [] _ rfl (.le (.intI (findI_none (fun j hj => h0 j (by omega))).symm)) ⟨.le (.refl _), .le (.refl _), trivial⟩ rfl)
    | (rename_i h1 h; have h1 := of_decide_eq_true h1
       simp only [Int.toNat_natCast] at h
       first
         | exact .of ⟨by omega, by omega⟩
         | exact ⟨i + 1, ⟨by omega, all_lt h0 h⟩, by show m - (i + 1) < m - i; omega, .le ⟨rfl, ⟨.refl _, .refl _, trivial⟩, ⟨.refl _, .refl _, .refl _, .refl _, trivial⟩⟩⟩
         | (exact .mk [] [] _ rfl (.le (.intI (findI_hit (by omega) h0 h).symm)) ⟨.le (.refl _), .le (.refl _), trivial⟩ rfl))
theorem c154x (t : Trf) (x : Trp) (hm : Side (t.fixed.length ≤ 1000)) : Mut (Xc W0 G) 154 [fxdS t.fixed, .fn 159 2 (tbl [.ptr 0 0, .ptr 1 0])] [.box [.int .i64 (sgx x 0).z], .box [.int .i64 (x.sg.getD ((x.sg.length : Int) - 1).toNat seg0).z]] (.int .i64 (fixJ t x)) [.box [.int .i64 (sgx x 0).z], .box [.int .i64 (x.sg.getD ((x.sg.length : Int) - 1).toNat seg0).z]] := by
  rw [fixJ_eq, show ((x.sg.length : Int) - 1).toNat = x.sg.length - 1 by omega]
  exact c154f hX (sgx x 0).z (sgx x (x.sg.length - 1)).z t.fixed.length (fun i => t.fixed.getD i fxd0) hm
set_option maxHeartbeats 400000 in
theorem c120 (t : Trf) (x : Trp) (hs : Side (TOk t ∧ XOk x)) (hr : rideE t x = 0) : Pure (Xc W0 G) 120 [.agg 14 (tbl (rideC t x))] (.tup 2 (tbl [.int .i64 (fixA t x), .int .i64 (fixR t x)])) := by
  have hs := hs.get
  have tk := hs.1
  obtain ⟨T, hseg⟩ := ride_0 hr
  have l60 := T.len
  have l1 := T.pos
  refine mut_of' hX (fnI Tryz.f120) rfl ?_
  repeat' (first
    | (refine Ax.go ?_; first | (with_reducible (apply altM (ks := [1, 2]) (m := 0); apply And.intro; apply Sc.of; apply (c154x hX t x ?_))) | refine Alt.one ?_)
    | exact Cl.go
    | exact Ck.go
    | ((fail_if_success refine Stop.go ?_); (first | (with_reducible first | refine And.intro ?_ ?_ | refine Cut.go ?_ | (refine impI ?_; intro _)) | (refine propI ?_; conv => whnf))))
  all_goals try (exact .of (Nat.le_of_ble_eq_true rfl))
  all_goals try (exact Side.mk (by have := fixed_len T.trf; omega))
  all_goals try (exact .of ⟨by omega, by omega⟩)
  all_goals first
    | (rename_i q; have q := of_decide_eq_true q; rw [fixJ_eq] at q; exact .mk [] [] _ rfl (.le (.tups ⟨⟨trivial, .intI (by unfold fixA; rw [decide_eq_true q]; rfl)⟩, .intI (by unfold fixR; rw [decide_eq_true q]; rfl)⟩)) trivial rfl)
    | (rename_i q; have q := of_decide_eq_false q; have b := fixI_bd t x; rw [fixJ_eq] at *; exact .of ⟨by omega, by omega⟩)
    | (rename_i q; have q := of_decide_eq_false q; rw [fixJ_eq] at q; exact .mk [] [] _ rfl (.le (.tups ⟨⟨trivial, .intI (by unfold fixA; rw [decide_eq_false q, fixJ_eq]; rfl)⟩, .intI (by unfold fixR; rw [decide_eq_false q]; rfl)⟩)) trivial rfl)

end
end Go.Fx

/-
  The fare of a trip, as the program reckons it.
-/
namespace Go.Fx
open Go.Proofs Go.RowKit

theorem fix_bad {t : Trf} {x : Trp} {f : Nat → Int} (hx : x.fx = true) (h : (fixR t x != 0) = true) : fixR t x = 12 ∧ fareE t x f = 12 := by
  unfold fixR at h ⊢
  by_cases b : fixI t x < 0
  · rw [decide_eq_true b]; exact ⟨rfl, fare_none hx b⟩
  · rw [decide_eq_false b] at h; exact absurd h (by decide)
theorem fix_ok {t : Trf} {x : Trp} {f : Nat → Int} (hx : x.fx = true) (h : (fixR t x != 0) = false) : ¬ fixI t x < 0 ∧ drvQ t x f = fixA t x ∧ staQ t x = 0 ∧ totQ t x f = 0 + fixA t x + exS t x x.ex.length := by
  unfold fixR at h
  by_cases b : fixI t x < 0
  · rw [decide_eq_true b] at h; exact absurd h (by decide)
  · have d := drv_fx (t := t) (f := f) hx
    have e : fixA t x = (t.fixed.getD (fixI t x).toNat fxd0).am := by unfold fixA; rw [decide_eq_false b]; rfl
    exact ⟨b, by rw [d.1, e], d.2, by unfold totQ; rw [d.1, d.2, e]⟩
theorem fixA_bd {t : Trf} {x : Trp} (T : TripOk t x) : 0 ≤ fixA t x ∧ fixA t x ≤ 100000 := by
  unfold fixA
  by_cases b : fixI t x < 0
  · rw [decide_eq_true b]; show (0 : Int) ≤ 0 ∧ (0 : Int) ≤ 100000; omega
  · rw [decide_eq_false b]
    rcases fixI_bd t x with h | h
    · omega
    · exact (fxd_ok0 T.trf (by omega)).1
section
variable {W0 : World} {G : Nat → Option AV} (hX : (Xc W0 G).Good)
include hX
set_option maxHeartbeats 400000 in
theorem c75p (t : Trf) (x : Trp) (hs : Side (TOk t ∧ XOk x)) (hr : rideE t x = 0) : Pure (Xc W0 G) 75 [.agg 14 (tbl (rideC t x)), .fn 76 0 (fun _ => .any)] (.tup 2 (tbl [fareA t x (ptX t x), .int .i64 (fareE t x (ptX t x))])) := by
  have hs0 := hs
  have hs := hs.get
  have tk := hs.1
  have hr0 := hr
  obtain ⟨T, hseg⟩ := ride_0 hr
  have l60 := T.len
  have l1 := T.pos
  have hf : ∀ k, k < x.sg.length → 0 ≤ ptX t x k ∧ ptX t x k ≤ 136000000000 := fun k hk => ptX_bd T hk (hseg k hk)
  refine mut_of' hX (fnI Tryz.f75) rfl ?_
  repeat' (first
    | (refine Ax.go ?_; refine Alt.one ?_)
    | exact Cl.go
    | exact Ck.go
    | ((fail_if_success refine Stop.go ?_); (first | (with_reducible first | refine And.intro ?_ ?_ | refine Cut.go ?_ | (refine impI ?_; intro _)) | (refine propI ?_; conv => whnf))))
  all_goals try (exact .of (Nat.le_of_ble_eq_true rfl))
  refine ⟨Nat, fun i => ([(1, .fn 76 0 (fun _ => .any)), (2, .ptr 0 0), (4, .ptr 1 0), (6, .ptr 2 0), (16, iRow x.ex), (17, .int .i64 x.ex.length), (18, .int .i64 ((i : Nat)))], [.box (rideC t x), .box [.int .i64 0, .int .i64 0, .int .i64 0, .int .i64 0], .box [.int .i64 0, .int .i64 0, .int .i64 (exS t x i), .int .i64 0]]), fun i => i ≤ x.ex.length, fun i => x.ex.length - i, ⟨0, Nat.zero_le _, .le ⟨rfl, ⟨.refl _, .refl _, .refl _, trivial⟩, ⟨.refl _, .refl _, .refl _, .refl _, .refl _, .refl _, .refl _, trivial⟩⟩⟩, fun i hi => ?_⟩
  replace hi : i ≤ x.ex.length := hi
  repeat' (first
    | (refine Ax.go ?_; first | (with_reducible apply callAlt (c76 hX _ _ _ _)) | (with_reducible apply callAlt (c120 hX t x hs0 hr0)) | refine Alt.one ?_)
    | exact Cl.go
    | exact Ck.go
    | ((fail_if_success refine Stop.go ?_); (first | (with_reducible first | refine And.intro ?_ ?_ | refine Cut.go ?_ | (refine impI ?_; intro _)) | (refine propI ?_; conv => whnf))))
  all_goals try (exact .of (Nat.le_of_ble_eq_true rfl))
  all_goals try (rename_i q; have q := of_decide_eq_true q; have el := T.exl; have e6 := ext_len T.trf; have b0 := exS_bd T i hi; have b1 := exS_bd T (i + 1) (by omega); have e : exS t x (i + 1) = exS t x i + x.ex.getD i 0 * (t.extras.getD i ext0).am := rfl; first | exact .of ⟨by omega, by omega⟩ | exact .of (show -9223372036854775808 ≤ x.ex.getD i 0 * (t.extras.getD i ext0).am ∧ x.ex.getD i 0 * (t.extras.getD i ext0).am ≤ 9223372036854775807 from ⟨by omega, by omega⟩) | exact .of (show -9223372036854775808 ≤ exS t x i + x.ex.getD i 0 * (t.extras.getD i ext0).am ∧ exS t x i + x.ex.getD i 0 * (t.extras.getD i ext0).am ≤ 9223372036854775807 from ⟨by omega, by omega⟩) | exact ⟨i + 1, by show i + 1 ≤ _; omega, by show x.ex.length - (i + 1) < x.ex.length - i; omega, .le ⟨rfl, ⟨.refl _, .refl _, .refl _, trivial⟩, ⟨.refl _, .refl _, .refl _, .refl _, .refl _, .refl _, .refl _, trivial⟩⟩⟩)
  · rename_i q hx h; have w := fix_bad (f := ptX t x) hx h; have z := fun n => (fareZ_e (n := n) w.2 (by decide)).symm
    exact .mk [] [] _ rfl (.le (.tups ⟨⟨trivial, .aggs ⟨⟨⟨⟨trivial, .intI (z _)⟩, .intI (z _)⟩, .intI (z _)⟩, .intI (z _)⟩⟩, .intI (w.1.trans w.2.symm)⟩)) trivial rfl
  · have a := fixA_bd T; exact .of (show -9223372036854775808 ≤ 0 + fixA t x ∧ 0 + fixA t x ≤ 9223372036854775807 from ⟨by omega, by omega⟩)
  · have a := fixA_bd T; have el := T.exl; have e6 := ext_len T.trf; have b0 := exS_bd T i hi; exact .of (show -9223372036854775808 ≤ 0 + fixA t x + exS t x i ∧ 0 + fixA t x + exS t x i ≤ 9223372036854775807 from ⟨by omega, by omega⟩)
  · rename_i q hx h q2; have q := of_decide_eq_false q; have q2 := of_decide_eq_true q2; obtain rfl : i = x.ex.length := by omega
    have w := fix_ok (f := ptX t x) hx h; have e := fare_big (fun _ => w.1) (by rw [w.2.2.2]; exact q2); have z := fun n => (fareZ_e (n := n) e (by decide)).symm
    exact .mk [] [] _ rfl (.le (.tups ⟨⟨trivial, .aggs ⟨⟨⟨⟨trivial, .intI (z _)⟩, .intI (z _)⟩, .intI (z _)⟩, .intI (z _)⟩⟩, .intI e.symm⟩)) trivial rfl
  · rename_i q hx h q2; have q := of_decide_eq_false q; have q2 := of_decide_eq_false q2; obtain rfl : i = x.ex.length := by omega
    have w := fix_ok (f := ptX t x) hx h; have e := fare_fit (fun _ => w.1) (by rw [w.2.2.2]; exact q2); have z := fun n => fareZ_0 (n := n) e
    exact .mk [] [] _ rfl (.le (.tups ⟨⟨trivial, .aggs ⟨⟨⟨⟨trivial, .intI (by rw [z, w.2.2.1])⟩, .intI (by rw [z, w.2.1])⟩, .intI (by rw [z])⟩, .intI (by rw [z, w.2.2.2])⟩⟩, .intI e.symm⟩)) trivial rfl
  rename_i q hx; have q := of_decide_eq_false q; obtain rfl : i = x.ex.length := by omega
  have el := T.exl; have e6 := ext_len T.trf; have b0 := exS_bd T x.ex.length (Nat.le_refl _)
  refine ⟨Nat, fun i => ([(1, .fn 76 0 (fun _ => .any)), (2, .ptr 0 0), (4, .ptr 1 0), (6, .ptr 2 0), (11, .int .i64 (accP (ptX t x) i)), (53, ctdL t x x.sg.length), (54, .int .i64 x.sg.length), (55, .int .i64 ((i : Nat)))], [.box (rideC t x), .box [.int .i64 0, .int .i64 0, .int .i64 0, .int .i64 0], .box [.int .i64 0, .int .i64 0, .int .i64 (exS t x x.ex.length), .int .i64 0]]), fun i => i ≤ x.sg.length, fun i => x.sg.length - i, ⟨0, Nat.zero_le _, .le ⟨rfl, ⟨.refl _, .refl _, .refl _, trivial⟩, ⟨.refl _, .refl _, .refl _, .refl _, .refl _, .refl _, .refl _, .refl _, trivial⟩⟩⟩, fun i hi => ?_⟩
  replace hi : i ≤ x.sg.length := hi
  repeat' (first
    | (refine Ax.go ?_; first | (with_reducible apply callAlt (c76 hX _ _ _ _)) | refine Alt.one ?_)
    | exact Cl.go
    | exact Ck.go
    | ((fail_if_success refine Stop.go ?_); (first | (with_reducible first | refine And.intro ?_ ?_ | refine Cut.go ?_ | (refine impI ?_; intro _)) | (refine propI ?_; conv => whnf))))
  all_goals try (exact .of (Nat.le_of_ble_eq_true rfl))
  all_goals try (rename_i q; have q := of_decide_eq_true q; have p1 := pt_bd T (k := i) (by omega) (hseg i (by omega)); have a0 := accP_bd hf i hi; have a1 := accP_bd hf (i + 1) (by omega); have e : accP (ptX t x) (i + 1) = accP (ptX t x) i + mxI (ptM t x i) (ptS t x i) := rfl; first | fail | exact .of ⟨by omega, by omega⟩ | exact .of (show -9223372036854775808 ≤ accP (ptX t x) i + mxI (ptM t x i) (ptS t x i) ∧ accP (ptX t x) i + mxI (ptM t x i) (ptS t x i) ≤ 9223372036854775807 from ⟨by omega, by omega⟩) | exact ⟨i + 1, by show i + 1 ≤ _; omega, by show x.sg.length - (i + 1) < x.sg.length - i; omega, .le ⟨rfl, ⟨.refl _, .refl _, .refl _, trivial⟩, ⟨.refl _, .refl _, .refl _, .refl _, .refl _, .refl _, .refl _, .refl _, trivial⟩⟩⟩)
  all_goals replace hi : i = x.sg.length := by (have hi2 : i ≤ x.sg.length := hi); (have q1 : decide ((i : Int) < (x.sg.length : Int)) = false := by assumption); (have q := of_decide_eq_false q1); omega
  all_goals subst hi
  all_goals have d := drv_bd T hf
  all_goals have u := trf_unit T.trf
  all_goals have st := (seg_rule T.trf (hseg 0 l1)).st
  all_goals have m := drv_me (t := t) (f := ptX t x) hx
  · exact .of ⟨by omega, by omega⟩
  · exact .of (show t.unit ≠ 0 by omega)
  · exact .of (show -9223372036854775808 ≤ (accP (ptX t x) x.sg.length).tdiv t.unit ∧ (accP (ptX t x) x.sg.length).tdiv t.unit ≤ 9223372036854775807 from ⟨by omega, by omega⟩)
  · exact .of (show -9223372036854775808 ≤ (accP (ptX t x) x.sg.length).tdiv t.unit * t.step ∧ (accP (ptX t x) x.sg.length).tdiv t.unit * t.step ≤ 9223372036854775807 from ⟨by omega, by omega⟩)
  · exact .of (show -9223372036854775808 ≤ (segR t x 0).st + (accP (ptX t x) x.sg.length).tdiv t.unit * t.step ∧ (segR t x 0).st + (accP (ptX t x) x.sg.length).tdiv t.unit * t.step ≤ 9223372036854775807 from ⟨by omega, by omega⟩)
  · exact .of (show -9223372036854775808 ≤ (segR t x 0).st + (accP (ptX t x) x.sg.length).tdiv t.unit * t.step + exS t x x.ex.length ∧ (segR t x 0).st + (accP (ptX t x) x.sg.length).tdiv t.unit * t.step + exS t x x.ex.length ≤ 9223372036854775807 from ⟨by omega, by omega⟩)
  · rename_i q2; have q2 : 1000000000 < (segR t x 0).st + (accP (ptX t x) x.sg.length).tdiv t.unit * t.step + exS t x x.ex.length := of_decide_eq_true q2
    have hn : x.fx = true → ¬ fixI t x < 0 := fun h => by rw [hx] at h; cases h
    have e := fare_big (f := ptX t x) hn (by unfold totQ; rw [m.1, m.2]; exact q2); have z := fun n => (fareZ_e (n := n) e (by decide)).symm
    exact .mk [] [] _ rfl (.le (.tups ⟨⟨trivial, .aggs ⟨⟨⟨⟨trivial, .intI (z _)⟩, .intI (z _)⟩, .intI (z _)⟩, .intI (z _)⟩⟩, .intI e.symm⟩)) trivial rfl
  · rename_i q2; have q2 : ¬ 1000000000 < (segR t x 0).st + (accP (ptX t x) x.sg.length).tdiv t.unit * t.step + exS t x x.ex.length := of_decide_eq_false q2
    have hn : x.fx = true → ¬ fixI t x < 0 := fun h => by rw [hx] at h; cases h
    have e := fare_fit (f := ptX t x) hn (by unfold totQ; rw [m.1, m.2]; exact q2); have z := fun n => fareZ_0 (n := n) e
    exact .mk [] [] _ rfl (.le (.tups ⟨⟨trivial, .aggs ⟨⟨⟨⟨trivial, .intI (by rw [z, m.2]; rfl)⟩, .intI (by rw [z, m.1])⟩, .intI (by rw [z])⟩, .intI (by rw [z]; unfold totQ; rw [m.1, m.2]; rfl)⟩⟩, .intI e.symm⟩)) trivial rfl
set_option maxHeartbeats 400000 in
theorem c75b (t : Trf) (x : Trp) (hs : Side (TOk t ∧ XOk x)) (hr : rideE t x = 0) : Pure (Xc W0 G) 75 [.agg 14 (tbl (rideC t x)), .fn 121 0 (fun _ => .any)] (.tup 2 (tbl [fareA t x (ptB t x), .int .i64 (fareE t x (ptB t x))])) := by
  have hs0 := hs
  have hs := hs.get
  have tk := hs.1
  have hr0 := hr
  obtain ⟨T, hseg⟩ := ride_0 hr
  have l60 := T.len
  have l1 := T.pos
  have hf : ∀ k, k < x.sg.length → 0 ≤ ptB t x k ∧ ptB t x k ≤ 136000000000 := fun k hk => ptB_bd T hk (hseg k hk)
  refine mut_of' hX (fnI Tryz.f75) rfl ?_
  repeat' (first
    | (refine Ax.go ?_; refine Alt.one ?_)
    | exact Cl.go
    | exact Ck.go
    | ((fail_if_success refine Stop.go ?_); (first | (with_reducible first | refine And.intro ?_ ?_ | refine Cut.go ?_ | (refine impI ?_; intro _)) | (refine propI ?_; conv => whnf))))
  all_goals try (exact .of (Nat.le_of_ble_eq_true rfl))
  refine ⟨Nat, fun i => ([(1, .fn 121 0 (fun _ => .any)), (2, .ptr 0 0), (4, .ptr 1 0), (6, .ptr 2 0), (16, iRow x.ex), (17, .int .i64 x.ex.length), (18, .int .i64 ((i : Nat)))], [.box (rideC t x), .box [.int .i64 0, .int .i64 0, .int .i64 0, .int .i64 0], .box [.int .i64 0, .int .i64 0, .int .i64 (exS t x i), .int .i64 0]]), fun i => i ≤ x.ex.length, fun i => x.ex.length - i, ⟨0, Nat.zero_le _, .le ⟨rfl, ⟨.refl _, .refl _, .refl _, trivial⟩, ⟨.refl _, .refl _, .refl _, .refl _, .refl _, .refl _, .refl _, trivial⟩⟩⟩, fun i hi => ?_⟩
  replace hi : i ≤ x.ex.length := hi
  repeat' (first
    | (refine Ax.go ?_; first | (with_reducible apply callAlt (c121 hX _ _ _ _ ?_)) | (with_reducible apply callAlt (c120 hX t x hs0 hr0)) | refine Alt.one ?_)
    | exact Cl.go
    | exact Ck.go
    | ((fail_if_success refine Stop.go ?_); (first | (with_reducible first | refine And.intro ?_ ?_ | refine Cut.go ?_ | (refine impI ?_; intro _)) | (refine propI ?_; conv => whnf))))
  all_goals try (exact .of (Nat.le_of_ble_eq_true rfl))
  all_goals try (rename_i q; have q := of_decide_eq_true q; have el := T.exl; have e6 := ext_len T.trf; have b0 := exS_bd T i hi; have b1 := exS_bd T (i + 1) (by omega); have e : exS t x (i + 1) = exS t x i + x.ex.getD i 0 * (t.extras.getD i ext0).am := rfl; first | exact .of ⟨by omega, by omega⟩ | exact .of (show -9223372036854775808 ≤ x.ex.getD i 0 * (t.extras.getD i ext0).am ∧ x.ex.getD i 0 * (t.extras.getD i ext0).am ≤ 9223372036854775807 from ⟨by omega, by omega⟩) | exact .of (show -9223372036854775808 ≤ exS t x i + x.ex.getD i 0 * (t.extras.getD i ext0).am ∧ exS t x i + x.ex.getD i 0 * (t.extras.getD i ext0).am ≤ 9223372036854775807 from ⟨by omega, by omega⟩) | exact ⟨i + 1, by show i + 1 ≤ _; omega, by show x.ex.length - (i + 1) < x.ex.length - i; omega, .le ⟨rfl, ⟨.refl _, .refl _, .refl _, trivial⟩, ⟨.refl _, .refl _, .refl _, .refl _, .refl _, .refl _, .refl _, trivial⟩⟩⟩)
  · rename_i q hx h; have w := fix_bad (f := ptB t x) hx h; have z := fun n => (fareZ_e (n := n) w.2 (by decide)).symm
    exact .mk [] [] _ rfl (.le (.tups ⟨⟨trivial, .aggs ⟨⟨⟨⟨trivial, .intI (z _)⟩, .intI (z _)⟩, .intI (z _)⟩, .intI (z _)⟩⟩, .intI (w.1.trans w.2.symm)⟩)) trivial rfl
  · have a := fixA_bd T; exact .of (show -9223372036854775808 ≤ 0 + fixA t x ∧ 0 + fixA t x ≤ 9223372036854775807 from ⟨by omega, by omega⟩)
  · have a := fixA_bd T; have el := T.exl; have e6 := ext_len T.trf; have b0 := exS_bd T i hi; exact .of (show -9223372036854775808 ≤ 0 + fixA t x + exS t x i ∧ 0 + fixA t x + exS t x i ≤ 9223372036854775807 from ⟨by omega, by omega⟩)
  · rename_i q hx h q2; have q := of_decide_eq_false q; have q2 := of_decide_eq_true q2; obtain rfl : i = x.ex.length := by omega
    have w := fix_ok (f := ptB t x) hx h; have e := fare_big (fun _ => w.1) (by rw [w.2.2.2]; exact q2); have z := fun n => (fareZ_e (n := n) e (by decide)).symm
    exact .mk [] [] _ rfl (.le (.tups ⟨⟨trivial, .aggs ⟨⟨⟨⟨trivial, .intI (z _)⟩, .intI (z _)⟩, .intI (z _)⟩, .intI (z _)⟩⟩, .intI e.symm⟩)) trivial rfl
  · rename_i q hx h q2; have q := of_decide_eq_false q; have q2 := of_decide_eq_false q2; obtain rfl : i = x.ex.length := by omega
    have w := fix_ok (f := ptB t x) hx h; have e := fare_fit (fun _ => w.1) (by rw [w.2.2.2]; exact q2); have z := fun n => fareZ_0 (n := n) e
    exact .mk [] [] _ rfl (.le (.tups ⟨⟨trivial, .aggs ⟨⟨⟨⟨trivial, .intI (by rw [z, w.2.2.1])⟩, .intI (by rw [z, w.2.1])⟩, .intI (by rw [z])⟩, .intI (by rw [z, w.2.2.2])⟩⟩, .intI e.symm⟩)) trivial rfl
  rename_i q hx; have q := of_decide_eq_false q; obtain rfl : i = x.ex.length := by omega
  have el := T.exl; have e6 := ext_len T.trf; have b0 := exS_bd T x.ex.length (Nat.le_refl _)
  refine ⟨Nat, fun i => ([(1, .fn 121 0 (fun _ => .any)), (2, .ptr 0 0), (4, .ptr 1 0), (6, .ptr 2 0), (11, .int .i64 (accP (ptB t x) i)), (53, ctdL t x x.sg.length), (54, .int .i64 x.sg.length), (55, .int .i64 ((i : Nat)))], [.box (rideC t x), .box [.int .i64 0, .int .i64 0, .int .i64 0, .int .i64 0], .box [.int .i64 0, .int .i64 0, .int .i64 (exS t x x.ex.length), .int .i64 0]]), fun i => i ≤ x.sg.length, fun i => x.sg.length - i, ⟨0, Nat.zero_le _, .le ⟨rfl, ⟨.refl _, .refl _, .refl _, trivial⟩, ⟨.refl _, .refl _, .refl _, .refl _, .refl _, .refl _, .refl _, .refl _, trivial⟩⟩⟩, fun i hi => ?_⟩
  replace hi : i ≤ x.sg.length := hi
  repeat' (first
    | (refine Ax.go ?_; first | (with_reducible apply callAlt (c121 hX _ _ _ _ ?_)) | refine Alt.one ?_)
    | exact Cl.go
    | exact Ck.go
    | ((fail_if_success refine Stop.go ?_); (first | (with_reducible first | refine And.intro ?_ ?_ | refine Cut.go ?_ | (refine impI ?_; intro _)) | (refine propI ?_; conv => whnf))))
  all_goals try (exact .of (Nat.le_of_ble_eq_true rfl))
  all_goals try (rename_i q; have q := of_decide_eq_true q; have p1 := pt_bd T (k := i) (by omega) (hseg i (by omega)); have a0 := accP_bd hf i hi; have a1 := accP_bd hf (i + 1) (by omega); have e : accP (ptB t x) (i + 1) = accP (ptB t x) i + (ptM t x i + ptS t x i) := rfl; first | exact Side.mk (show -9223372036854775808 ≤ ptM t x i + ptS t x i ∧ ptM t x i + ptS t x i ≤ 9223372036854775807 from ⟨by omega, by omega⟩) | exact .of ⟨by omega, by omega⟩ | exact .of (show -9223372036854775808 ≤ accP (ptB t x) i + (ptM t x i + ptS t x i) ∧ accP (ptB t x) i + (ptM t x i + ptS t x i) ≤ 9223372036854775807 from ⟨by omega, by omega⟩) | exact ⟨i + 1, by show i + 1 ≤ _; omega, by show x.sg.length - (i + 1) < x.sg.length - i; omega, .le ⟨rfl, ⟨.refl _, .refl _, .refl _, trivial⟩, ⟨.refl _, .refl _, .refl _, .refl _, .refl _, .refl _, .refl _, .refl _, trivial⟩⟩⟩)
  all_goals replace hi : i = x.sg.length := by (have hi2 : i ≤ x.sg.length := hi); (have q1 : decide ((i : Int) < (x.sg.length : Int)) = false := by assumption); (have q := of_decide_eq_false q1); omega
  all_goals subst hi
  all_goals have d := drv_bd T hf
  all_goals have u := trf_unit T.trf
  all_goals have st := (seg_rule T.trf (hseg 0 l1)).st
  all_goals have m := drv_me (t := t) (f := ptB t x) hx
  · exact .of ⟨by omega, by omega⟩
  · exact .of (show t.unit ≠ 0 by omega)
  · exact .of (show -9223372036854775808 ≤ (accP (ptB t x) x.sg.length).tdiv t.unit ∧ (accP (ptB t x) x.sg.length).tdiv t.unit ≤ 9223372036854775807 from ⟨by omega, by omega⟩)
  · exact .of (show -9223372036854775808 ≤ (accP (ptB t x) x.sg.length).tdiv t.unit * t.step ∧ (accP (ptB t x) x.sg.length).tdiv t.unit * t.step ≤ 9223372036854775807 from ⟨by omega, by omega⟩)
  · exact .of (show -9223372036854775808 ≤ (segR t x 0).st + (accP (ptB t x) x.sg.length).tdiv t.unit * t.step ∧ (segR t x 0).st + (accP (ptB t x) x.sg.length).tdiv t.unit * t.step ≤ 9223372036854775807 from ⟨by omega, by omega⟩)
  · exact .of (show -9223372036854775808 ≤ (segR t x 0).st + (accP (ptB t x) x.sg.length).tdiv t.unit * t.step + exS t x x.ex.length ∧ (segR t x 0).st + (accP (ptB t x) x.sg.length).tdiv t.unit * t.step + exS t x x.ex.length ≤ 9223372036854775807 from ⟨by omega, by omega⟩)
  · rename_i q2; have q2 : 1000000000 < (segR t x 0).st + (accP (ptB t x) x.sg.length).tdiv t.unit * t.step + exS t x x.ex.length := of_decide_eq_true q2
    have hn : x.fx = true → ¬ fixI t x < 0 := fun h => by rw [hx] at h; cases h
    have e := fare_big (f := ptB t x) hn (by unfold totQ; rw [m.1, m.2]; exact q2); have z := fun n => (fareZ_e (n := n) e (by decide)).symm
    exact .mk [] [] _ rfl (.le (.tups ⟨⟨trivial, .aggs ⟨⟨⟨⟨trivial, .intI (z _)⟩, .intI (z _)⟩, .intI (z _)⟩, .intI (z _)⟩⟩, .intI e.symm⟩)) trivial rfl
  · rename_i q2; have q2 : ¬ 1000000000 < (segR t x 0).st + (accP (ptB t x) x.sg.length).tdiv t.unit * t.step + exS t x x.ex.length := of_decide_eq_false q2
    have hn : x.fx = true → ¬ fixI t x < 0 := fun h => by rw [hx] at h; cases h
    have e := fare_fit (f := ptB t x) hn (by unfold totQ; rw [m.1, m.2]; exact q2); have z := fun n => fareZ_0 (n := n) e
    exact .mk [] [] _ rfl (.le (.tups ⟨⟨trivial, .aggs ⟨⟨⟨⟨trivial, .intI (by rw [z, m.2]; rfl)⟩, .intI (by rw [z, m.1])⟩, .intI (by rw [z])⟩, .intI (by rw [z]; unfold totQ; rw [m.1, m.2]; rfl)⟩⟩, .intI e.symm⟩)) trivial rfl
end
end Go.Fx

/-
  Fares, and their ranges, as the program tells them.
-/
namespace Go.Fx
open Go.Proofs Go.RowKit

@[irreducible] def rngE (t : Trf) (x y : Trp) : Int := bif decide (fareE t x (ptX t x) = 0) then fareE t y (ptB t y) else fareE t x (ptX t x)
@[irreducible] def rngZ (t : Trf) (x y : Trp) (n : Int) : Int := bif decide (rngE t x y = 0) then n else 0
def rngA (t : Trf) (x y : Trp) : AV := .agg 2 (tbl [.int .i64 (rngZ t x y (totQ t x (ptX t x))), .int .i64 (rngZ t x y (totQ t y (ptB t y)))])
theorem rng_1 {t : Trf} {x y : Trp} (h : fareE t x (ptX t x) ≠ 0) : rngE t x y = fareE t x (ptX t x) ∧ ∀ n, rngZ t x y n = 0 := by
  have e : rngE t x y = fareE t x (ptX t x) := by unfold rngE; rw [decide_eq_false h]; rfl
  exact ⟨e, fun n => by unfold rngZ; rw [e, decide_eq_false h]; rfl⟩
theorem rng_2 {t : Trf} {x y : Trp} (h : fareE t x (ptX t x) = 0) (h2 : fareE t y (ptB t y) ≠ 0) : rngE t x y = fareE t y (ptB t y) ∧ ∀ n, rngZ t x y n = 0 := by
  have e : rngE t x y = fareE t y (ptB t y) := by unfold rngE; rw [decide_eq_true h]; rfl
  exact ⟨e, fun n => by unfold rngZ; rw [e, decide_eq_false h2]; rfl⟩
theorem rng_3 {t : Trf} {x y : Trp} (h : fareE t x (ptX t x) = 0) (h2 : fareE t y (ptB t y) = 0) : rngE t x y = 0 ∧ ∀ n, rngZ t x y n = n := by
  have e : rngE t x y = 0 := by unfold rngE; rw [decide_eq_true h, h2]; rfl
  exact ⟨e, fun n => by unfold rngZ; rw [e]; rfl⟩
section
variable {W0 : World} {G : Nat → Option AV} (hX : (Xc W0 G).Good)
include hX
theorem c33 (t : Trf) (x : Trp) (hs : Side (TOk t ∧ XOk x)) (hr : rideE t x = 0) : Pure (Xc W0 G) 33 [trfA t, trpA x] (.tup 2 (tbl [fareA t x (ptX t x), .int .i64 (fareE t x (ptX t x))])) := by
  refine mut_of' hX (fnI Tryz.f33) rfl ?_
  repeat' (first
    | (refine Ax.go ?_; first | (with_reducible apply callAlt (c74 hX t x hs hr)) | (with_reducible apply callAlt (c75p hX t x hs hr)) | refine Alt.one ?_)
    | exact Cl.go
    | exact Ck.go
    | ((fail_if_success refine Stop.go ?_); (first | (with_reducible first | refine And.intro ?_ ?_ | refine Cut.go ?_ | (refine impI ?_; intro _)) | (refine propI ?_; conv => whnf))))
  all_goals try (exact .of (Nat.le_of_ble_eq_true rfl))
  all_goals try (rename_i q; exfalso; simp at q; done)
  all_goals first | (exact .mk [] [] _ rfl (.le (.tups ⟨⟨trivial, .aggs ⟨⟨⟨⟨trivial, .refl _⟩, .refl _⟩, .refl _⟩, .refl _⟩⟩, .refl _⟩)) trivial rfl) | (exact .mk [] [] _ rfl (.le (.tups ⟨⟨trivial, .refl _⟩, .refl _⟩)) trivial rfl)
theorem c33e (t : Trf) (x : Trp) (hs : Side (TOk t ∧ XOk x)) (hr : rideE t x ≠ 0) : Pure (Xc W0 G) 33 [trfA t, trpA x] (.tup 2 (tbl [.agg 4 (tbl [.int .i64 0, .int .i64 0, .int .i64 0, .int .i64 0]), .int .i64 (rideE t x)])) := by
  refine mut_of' hX (fnI Tryz.f33) rfl ?_
  repeat' (first
    | (refine Ax.go ?_; first | (with_reducible apply callAlt (c74e hX t x hs hr)) | refine Alt.one ?_)
    | exact Cl.go
    | exact Ck.go
    | ((fail_if_success refine Stop.go ?_); (first | (with_reducible first | refine And.intro ?_ ?_ | refine Cut.go ?_ | (refine impI ?_; intro _)) | (refine propI ?_; conv => whnf))))
  all_goals try (exact .of (Nat.le_of_ble_eq_true rfl))
  all_goals try (rename_i q; exact absurd (bne1 q) hr)
  all_goals first | (exact .mk [] [] _ rfl (.le (.tups ⟨⟨trivial, .aggs ⟨⟨⟨⟨trivial, .refl _⟩, .refl _⟩, .refl _⟩, .refl _⟩⟩, .refl _⟩)) trivial rfl) | (exact .mk [] [] _ rfl (.le (.tups ⟨⟨trivial, .refl _⟩, .refl _⟩)) trivial rfl)
set_option maxHeartbeats 400000 in
theorem c80 (t : Trf) (x y : Trp) (hs : Side (TOk t ∧ XOk x)) (hr : rideE t x = 0) (hs2 : Side (TOk t ∧ XOk y)) (hr2 : rideE t y = 0) : Pure (Xc W0 G) 80 [.agg 14 (tbl (rideC t x)), .agg 14 (tbl (rideC t y))] (.tup 2 (tbl [rngA t x y, .int .i64 (rngE t x y)])) := by
  refine mut_of' hX (fnI Tryz.f80) rfl ?_
  repeat' (first
    | (refine Ax.go ?_; first | ((with_reducible apply callAlt (c75p hX t x hs hr)); case hl => (first | exact AllLe.refl _ | ((repeat' (first | exact trivial | apply Le.aggs | apply Le.tups | apply Le.fns | exact Le.refl _ | refine ⟨?_, ?_⟩)); done))) | ((with_reducible apply callAlt (c75b hX t y hs2 hr2)); case hl => (first | exact AllLe.refl _ | ((repeat' (first | exact trivial | apply Le.aggs | apply Le.tups | apply Le.fns | exact Le.refl _ | refine ⟨?_, ?_⟩)); done))) | refine Alt.one ?_)
    | exact Cl.go
    | exact Ck.go
    | ((fail_if_success refine Stop.go ?_); (first | (with_reducible first | refine And.intro ?_ ?_ | refine Cut.go ?_ | (refine impI ?_; intro _)) | (refine propI ?_; conv => whnf))))
  all_goals try (exact .of (Nat.le_of_ble_eq_true rfl))
  · rename_i q; have w := rng_1 (y := y) (bne0 q)
    exact .mk [] [] _ rfl (.le (.tups ⟨⟨trivial, .aggs ⟨⟨trivial, .intI (w.2 _).symm⟩, .intI (w.2 _).symm⟩⟩, .intI w.1.symm⟩)) trivial rfl
  · rename_i q q2; have w := rng_2 (bne1 q) (bne0 q2)
    exact .mk [] [] _ rfl (.le (.tups ⟨⟨trivial, .aggs ⟨⟨trivial, .intI (w.2 _).symm⟩, .intI (w.2 _).symm⟩⟩, .intI w.1.symm⟩)) trivial rfl
  · rename_i q q2; have w := rng_3 (bne1 q) (bne1 q2)
    exact .mk [] [] _ rfl (.le (.tups ⟨⟨trivial, .aggs ⟨⟨trivial, .intI (by rw [w.2, fareZ_0 (bne1 q)])⟩, .intI (by rw [w.2, fareZ_0 (bne1 q2)])⟩⟩, .intI w.1.symm⟩)) trivial rfl
theorem c40 (t : Trf) (x : Trp) (hs : Side (TOk t ∧ XOk x)) (hr : rideE t x = 0) : Pure (Xc W0 G) 40 [trfA t, trpA x] (.tup 2 (tbl [rngA t x x, .int .i64 (rngE t x x)])) := by
  refine mut_of' hX (fnI Tryz.f40) rfl ?_
  repeat' (first
    | (refine Ax.go ?_; first | (with_reducible apply callAlt (c74 hX t x hs hr)) | (with_reducible apply callAlt (c80 hX t x x hs hr hs hr)) | refine Alt.one ?_)
    | exact Cl.go
    | exact Ck.go
    | ((fail_if_success refine Stop.go ?_); (first | (with_reducible first | refine And.intro ?_ ?_ | refine Cut.go ?_ | (refine impI ?_; intro _)) | (refine propI ?_; conv => whnf))))
  all_goals try (exact .of (Nat.le_of_ble_eq_true rfl))
  all_goals try (rename_i q; exfalso; simp at q; done)
  all_goals first | (exact .mk [] [] _ rfl (.le (.tups ⟨⟨trivial, .aggs ⟨⟨trivial, .refl _⟩, .refl _⟩⟩, .refl _⟩)) trivial rfl) | (exact .mk [] [] _ rfl (.le (.tups ⟨⟨trivial, .refl _⟩, .refl _⟩)) trivial rfl)
end
end Go.Fx
