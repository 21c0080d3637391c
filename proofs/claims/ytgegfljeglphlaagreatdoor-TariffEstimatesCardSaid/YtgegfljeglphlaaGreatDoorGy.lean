/-
  The reference's rules, points and steps of a trip.
-/
import Derived.Test.YtgegfljeglphlaaGreatDoorGx

set_option linter.all false

/-
  The reference's rules, points and steps of a trip.
-/
namespace Go.Fx
open Go.Proofs Go.RowKit

theorem lat_mom {t : Trf} {x : Trp} (T : TripOk t x) {i : Nat} (hi : i ≤ x.sg.length) : laterE x.m (segT x i) = isOk (momB (segM x i)) 2 ∧ (momB (segM x i) = true → laterM x.m (segT x i) = segM x i) := by
  have e := (segM_eq T i hi).1
  have b := segT_bd T i hi
  have l := T.len
  have h2 : inB (segT x i) 0 100000000 = true := inB_iff.2 ⟨b.1, by omega⟩
  cases hb : momB (segM x i) with
  | true =>
    have h := lat_4 ⟨T.mom, h2⟩ (by rw [← e, hb]; rfl)
    exact ⟨by rw [h.1]; rfl, fun _ => by rw [h.2, e]⟩
  | false =>
    have h := lat_3 ⟨T.mom, h2⟩ (by rw [← e, hb]; rfl)
    exact ⟨by rw [h.1, ← e, hb], fun h => by cases h⟩
theorem lat_0 {t : Trf} {x : Trp} (T : TripOk t x) {i : Nat} (hi : i < x.sg.length) (h : segE t x i = 0) : laterE x.m (segT x i) = 0 ∧ laterM x.m (segT x i) = segM x i ∧ oneE (holdI t ⟨(sgx x i).z, laterM x.m (segT x i)⟩ t.rules.length) = 0 := by
  have w := seg_0 h
  have l := lat_mom T (Nat.le_of_lt hi)
  have e2 := l.2 w.1
  exact ⟨by rw [l.1, w.1]; rfl, e2, by rw [e2]; exact w.2⟩
section
variable {W0 : World} {G : Nat → Option AV} (hX : (Xc W0 G).Good)
include hX
set_option maxHeartbeats 1000000 in
theorem c41 (t : Trf) (x : Trp) (hs : Side (TOk t ∧ XOk x)) (hr : rideE t x = 0) : Pure (Xc W0 G) 41 [trfA t, trpA x] (.tup 2 (tbl [rowF (segN t x) x.sg.length, .int .i64 0])) := by
  have hs0 := hs
  have hs := hs.get
  have tk := hs.1
  have k3 := hs.2.sg
  obtain ⟨T, hseg⟩ := ride_0 hr
  have hT := ride_trip hr
  have l60 := T.len
  have hk : Side (HOk t) := .mk ⟨tk, trf_sort T.trf⟩
  refine mut_of' hX (show FnIs (Xc W0 G) 41 Tryz.f41 (codeOf Tryz.f41) from ⟨by kernel_rfl, by kernel_rfl, by kernel_rfl, by kernel_rfl⟩) rfl ?_
  repeat' (first
    | ((with_reducible refine (?_ : Alt _ _)); first | (with_reducible apply callAlt (c40 hX t x hs0)) | (with_reducible refine Alt.one ?_))
    | ((with_reducible refine (?_ : AllLe _ _)); first | (first | exact AllLe.refl _ | (repeat' (first | exact trivial | apply Le.aggs | apply Le.tups | apply Le.fns | exact Le.refl _ | refine ⟨?_, ?_⟩))))
    | ((with_reducible refine (?_ : Sc _ (AllRen _ _ _))); refine Sc.of ?_; first | (repeat' (first | exact trivial | apply Le.aggs | apply Le.tups | apply Le.fns | exact Le.refl _ | refine ⟨?_, ?_⟩)))
    | ((with_reducible refine (?_ : (List.all _ _) = true)); rfl)
    | ((with_reducible refine (?_ : (and _ _) = true)); rfl)
    | ((with_reducible refine (?_ : List.Nodup _)); exact nodupB_spec rfl)
    | ((with_reducible refine (?_ : @Eq Nat _ _)); rfl)
    | ((with_reducible refine (?_ : LeOks _ _ _)); first | exact trivial | exact ⟨.refl _, trivial⟩ | exact ⟨.refl _, .refl _, trivial⟩)
    | ((fail_if_success with_reducible refine Stop.go ?_); (first | with_reducible refine And.intro ?_ ?_ | with_reducible refine Cut.go ?_ | (with_reducible (refine impI ?_; intro _)) | (with_reducible refine (?_ : footOK _ _ = true); kernel_rfl) | ((with_reducible refine propI ?_); conv => whnf))))
  all_goals try (exact .of (Nat.le_of_ble_eq_true rfl))
  · rename_i q; exact absurd hT (bne0 q)
  refine ⟨Nat, fun i => match i with | 0 => ([(2, .ptr 0 0), (3, .ptr 1 0), (8, .slc0), (9, .int .i64 (segT x 0)), (10, .int .i64 ((0 : Nat)))], [.box (trfC t), .box (trpC x)]) | i + 1 => ([(2, .ptr 0 0), (3, .ptr 1 0), (8, .own 3 (i + 1)), (9, .int .i64 (segT x (i + 1))), (10, .int .i64 (((i + 1) : Nat)))], [.box (trfC t), .box (trpC x), HObj.dead, .list 3 1 (i + 1) (fun a _ => .int .i64 (segN t x a)) (i + 1)]), fun i => i ≤ x.sg.length, fun i => x.sg.length - i, ⟨0, Nat.zero_le _, .le ⟨rfl, ⟨.refl _, .refl _, trivial⟩, ⟨.refl _, .refl _, .refl _, .refl _, .refl _, trivial⟩⟩⟩, fun i hi => ?_⟩
  rcases i with _ | i
  · replace hi : 0 ≤ x.sg.length := hi
    repeat' (first
      | ((with_reducible refine (?_ : Alt _ _)); first | ((with_reducible apply callAlt (c26 hX x.m (segT x (0)))); case hl => (first | exact AllLe.refl _ | ((repeat' (first | exact trivial | apply Le.aggs | apply Le.tups | apply Le.fns | exact Le.refl _ | refine ⟨?_, ?_⟩)); done))) | ((with_reducible apply callAlt (c22 hX t ⟨(sgx x (0)).z, laterM x.m (segT x (0))⟩ hk)); case hl => (first | exact AllLe.refl _ | ((repeat' (first | exact trivial | apply Le.aggs | apply Le.tups | apply Le.fns | exact Le.refl _ | refine ⟨?_, ?_⟩)); done))) | (with_reducible refine Alt.one ?_))
      | ((with_reducible refine (?_ : AllLe _ _)); first | (first | exact AllLe.refl _ | (repeat' (first | exact trivial | apply Le.aggs | apply Le.tups | apply Le.fns | exact Le.refl _ | refine ⟨?_, ?_⟩))))
      | ((with_reducible refine (?_ : Sc _ (AllRen _ _ _))); refine Sc.of ?_; first | (repeat' (first | exact trivial | apply Le.aggs | apply Le.tups | apply Le.fns | exact Le.refl _ | refine ⟨?_, ?_⟩)))
      | ((with_reducible refine (?_ : (List.all _ _) = true)); rfl)
      | ((with_reducible refine (?_ : (and _ _) = true)); rfl)
      | ((with_reducible refine (?_ : List.Nodup _)); exact nodupB_spec rfl)
      | ((with_reducible refine (?_ : @Eq Nat _ _)); rfl)
      | ((with_reducible refine (?_ : LeOks _ _ _)); first | exact trivial | exact ⟨.refl _, trivial⟩ | exact ⟨.refl _, .refl _, trivial⟩)
      | ((fail_if_success with_reducible refine Stop.go ?_); (first | with_reducible refine And.intro ?_ ?_ | with_reducible refine Cut.go ?_ | (with_reducible (refine impI ?_; intro _)) | (with_reducible refine (?_ : footOK _ _ = true); kernel_rfl) | ((with_reducible refine propI ?_); conv => whnf))))
    all_goals try (exact .of (Nat.le_of_ble_eq_true rfl))
    all_goals try (rename_i q; have q := of_decide_eq_true q; first | exact .of ⟨by omega, by omega⟩ | exact .of (by decide) | (refine Sc.of ⟨show (0 + (0 + 1)) * 8 ≤ 140737488355328 by omega, show 0 + (0 + 1) ≤ 9223372036854775807 by omega⟩))
    all_goals try (rename_i q q2; have q := of_decide_eq_true q; have w := lat_0 T (i := 0) (by omega) (hseg 0 (by omega)); rw [w.1] at q2; exact absurd q2 (by decide))
    all_goals try (rename_i q q2 q3; have q := of_decide_eq_true q; have w := lat_0 T (i := 0) (by omega) (hseg 0 (by omega)); exact absurd w.2.2 (bne0 q3))
    all_goals try (rename_i q q2; have q := of_decide_eq_true q; exact .of ⟨by omega, by omega⟩)
    all_goals try (rename_i q q2 q3; have q := of_decide_eq_true q; have b := segT_bd T 0 (by omega); have s := T.se 0 (by omega); first | exact .of (show -9223372036854775808 ≤ segT x 0 + (sgx x 0).se ∧ segT x 0 + (sgx x 0).se ≤ 9223372036854775807 from ⟨by omega, by omega⟩) | exact .of ⟨by omega, by omega⟩ | exact .of (by decide) | (refine Sc.of ⟨show (0 + (0 + 1)) * 8 ≤ 140737488355328 by omega, show 0 + (0 + 1) ≤ 9223372036854775807 by omega⟩))
    · rename_i q q2 q3; have q := of_decide_eq_true q; have w := lat_0 T (i := 0) (by omega) (hseg 0 (by omega))
      refine ⟨0 + 1, by show 0 + 1 ≤ _; omega, by show x.sg.length - (0 + 1) < x.sg.length - (0); omega, .le ⟨rfl, ⟨.refl _, .refl _, .dead _, .list (fun a j ha hj => ?_), trivial⟩, ⟨.refl _, .refl _, .refl _, .refl _, .refl _, trivial⟩⟩⟩
      replace hj : j < 1 := hj
      obtain rfl : j = 0 := by omega
      replace ha : a < 1 := by omega
      obtain rfl : a = 0 := by omega
      exact Le.ofEq (by show AV.int .i64 (oneN (holdI t ⟨(sgx x 0).z, laterM x.m (segT x 0)⟩ t.rules.length)) = AV.int .i64 (segN t x 0); rw [w.2.1]; rfl)
    · rename_i q; have q := of_decide_eq_false q; have := T.pos; omega
  · replace hi : i + 1 ≤ x.sg.length := hi
    repeat' (first
      | ((with_reducible refine (?_ : Alt _ _)); first | ((with_reducible apply callAlt (c26 hX x.m (segT x ((i + 1))))); case hl => (first | exact AllLe.refl _ | ((repeat' (first | exact trivial | apply Le.aggs | apply Le.tups | apply Le.fns | exact Le.refl _ | refine ⟨?_, ?_⟩)); done))) | ((with_reducible apply callAlt (c22 hX t ⟨(sgx x ((i + 1))).z, laterM x.m (segT x ((i + 1)))⟩ hk)); case hl => (first | exact AllLe.refl _ | ((repeat' (first | exact trivial | apply Le.aggs | apply Le.tups | apply Le.fns | exact Le.refl _ | refine ⟨?_, ?_⟩)); done))) | (with_reducible refine Alt.one ?_))
      | ((with_reducible refine (?_ : AllLe _ _)); first | (first | exact AllLe.refl _ | (repeat' (first | exact trivial | apply Le.aggs | apply Le.tups | apply Le.fns | exact Le.refl _ | refine ⟨?_, ?_⟩))))
      | ((with_reducible refine (?_ : Sc _ (AllRen _ _ _))); refine Sc.of ?_; first | (repeat' (first | exact trivial | apply Le.aggs | apply Le.tups | apply Le.fns | exact Le.refl _ | refine ⟨?_, ?_⟩)))
      | ((with_reducible refine (?_ : (List.all _ _) = true)); rfl)
      | ((with_reducible refine (?_ : (and _ _) = true)); rfl)
      | ((with_reducible refine (?_ : List.Nodup _)); exact nodupB_spec rfl)
      | ((with_reducible refine (?_ : @Eq Nat _ _)); rfl)
      | ((with_reducible refine (?_ : LeOks _ _ _)); first | exact trivial | exact ⟨.refl _, trivial⟩ | exact ⟨.refl _, .refl _, trivial⟩)
      | ((fail_if_success with_reducible refine Stop.go ?_); (first | rw [beqvv (i + 1)] | rw [beqvv i] | with_reducible refine And.intro ?_ ?_ | with_reducible refine Cut.go ?_ | (with_reducible (refine impI ?_; intro _)) | (with_reducible refine (?_ : footOK _ _ = true); kernel_rfl) | ((with_reducible refine propI ?_); conv => whnf))))
    all_goals try (exact .of (Nat.le_of_ble_eq_true rfl))
    all_goals try (rename_i q; have q := of_decide_eq_true q; first | exact .of ⟨by omega, by omega⟩ | exact .of (by decide) | (refine Sc.of ⟨show ((i + 1) + (0 + 1)) * 8 ≤ 140737488355328 by omega, show (i + 1) + (0 + 1) ≤ 9223372036854775807 by omega⟩))
    all_goals try (rename_i q q2; have q := of_decide_eq_true q; have w := lat_0 T (i := (i + 1)) (by omega) (hseg (i + 1) (by omega)); rw [w.1] at q2; exact absurd q2 (by decide))
    all_goals try (rename_i q q2 q3; have q := of_decide_eq_true q; have w := lat_0 T (i := (i + 1)) (by omega) (hseg (i + 1) (by omega)); exact absurd w.2.2 (bne0 q3))
    all_goals try (rename_i q q2; have q := of_decide_eq_true q; exact .of ⟨by omega, by omega⟩)
    all_goals try (rename_i q q2 q3; have q := of_decide_eq_true q; have b := segT_bd T (i + 1) (by omega); have s := T.se (i + 1) (by omega); first | exact .of (show -9223372036854775808 ≤ segT x (i + 1) + (sgx x (i + 1)).se ∧ segT x (i + 1) + (sgx x (i + 1)).se ≤ 9223372036854775807 from ⟨by omega, by omega⟩) | exact .of ⟨by omega, by omega⟩ | exact .of (by decide) | (refine Sc.of ⟨show ((i + 1) + (0 + 1)) * 8 ≤ 140737488355328 by omega, show (i + 1) + (0 + 1) ≤ 9223372036854775807 by omega⟩))
    · rename_i q q2 q3; have q := of_decide_eq_true q; have w := lat_0 T (i := (i + 1)) (by omega) (hseg (i + 1) (by omega))
      refine ⟨(i + 1) + 1, by show (i + 1) + 1 ≤ _; omega, by show x.sg.length - ((i + 1) + 1) < x.sg.length - ((i + 1)); omega, .le ⟨rfl, ⟨.refl _, .refl _, .dead _, .list (fun a j ha hj => ?_), trivial⟩, ⟨.refl _, .refl _, .refl _, .refl _, .refl _, trivial⟩⟩⟩
      replace hj : j < 1 := hj
      obtain rfl : j = 0 := by omega
      skip
      exact Le.ofEq (push_f (by show AV.int .i64 (oneN (holdI t ⟨(sgx x (i + 1)).z, laterM x.m (segT x (i + 1))⟩ t.rules.length)) = AV.int .i64 (segN t x (i + 1)); rw [w.2.1]; rfl) ha)
      skip
    · rename_i q; have q := of_decide_eq_false q
      rw [show rowF (segN t x) x.sg.length = rowF (segN t x) (i + 1) from by rw [show x.sg.length = i + 1 by omega]]
      exact .mk [] [3] _ rfl (.tups ⟨⟨trivial, .own rfl fun _ _ _ _ => .refl _⟩, .le (.refl _)⟩) trivial rfl
end
end Go.Fx

/-
  The rules, points and steps of a trip, as the program's functions and their reference tell them.
-/
namespace Go.Fx
open Go.Proofs Go.RowKit
section
variable {W0 : World} {G : Nat → Option AV} (hX : (Xc W0 G).Good)
include hX
end
end Go.Fx

/-
  The reference's points and steps of a trip.
-/
namespace Go.Fx
open Go.Proofs Go.RowKit

section
variable {W0 : World} {G : Nat → Option AV} (hX : (Xc W0 G).Good)
include hX
set_option maxHeartbeats 1000000 in
theorem c110b (t : Trf) (x : Trp) (hs : Side (TOk t ∧ XOk x)) (hr : rideE t x = 0) : Pure (Xc W0 G) 110 [trfA t, trpA x, .bool true] (rowF (ptB t x) x.sg.length) := by
  have hs0 := hs
  have hs := hs.get
  have tk := hs.1
  have k3 := hs.2.sg
  obtain ⟨T, hseg⟩ := ride_0 hr
  have hT := ride_trip hr
  have l60 := T.len
  have hk : Side (HOk t) := .mk ⟨tk, trf_sort T.trf⟩
  refine mut_of' hX (show FnIs (Xc W0 G) 110 Tryz.f110 (codeOf Tryz.f110) from ⟨by kernel_rfl, by kernel_rfl, by kernel_rfl, by kernel_rfl⟩) rfl ?_
  repeat' (first
    | ((with_reducible refine (?_ : Alt _ _)); first | (with_reducible apply callAlt (c41 hX t x hs0 hr)) | (with_reducible refine Alt.one ?_))
    | ((with_reducible refine (?_ : AllLe _ _)); first | (first | exact AllLe.refl _ | (repeat' (first | exact trivial | apply Le.aggs | apply Le.tups | apply Le.fns | exact Le.refl _ | refine ⟨?_, ?_⟩))))
    | ((with_reducible refine (?_ : Sc _ (AllRen _ _ _))); refine Sc.of ?_; first | (repeat' (first | exact trivial | apply Le.aggs | apply Le.tups | apply Le.fns | exact Le.refl _ | refine ⟨?_, ?_⟩)))
    | ((with_reducible refine (?_ : (List.all _ _) = true)); rfl)
    | ((with_reducible refine (?_ : (and _ _) = true)); rfl)
    | ((with_reducible refine (?_ : List.Nodup _)); exact nodupB_spec rfl)
    | ((with_reducible refine (?_ : @Eq Nat _ _)); rfl)
    | ((with_reducible refine (?_ : LeOks _ _ _)); first | exact trivial | exact ⟨.refl _, trivial⟩ | exact ⟨.refl _, .refl _, trivial⟩)
    | ((fail_if_success with_reducible refine Stop.go ?_); (first | with_reducible refine And.intro ?_ ?_ | with_reducible refine Cut.go ?_ | (with_reducible (refine impI ?_; intro _)) | (with_reducible refine (?_ : footOK _ _ = true); kernel_rfl) | ((with_reducible refine propI ?_); conv => whnf))))
  all_goals try (exact .of (Nat.le_of_ble_eq_true rfl))
  refine ⟨Nat, fun i => match i with | 0 => ([(2, .bool true), (3, .ptr 0 0), (4, .ptr 1 0), (7, rowF (segN t x) x.sg.length), (9, .slc0), (10, .int .i64 ((0 : Nat)))], [.box (trfC t), .box (trpC x)]) | i + 1 => ([(2, .bool true), (3, .ptr 0 0), (4, .ptr 1 0), (7, rowF (segN t x) x.sg.length), (9, .own 2 (i + 1)), (10, .int .i64 (((i + 1) : Nat)))], [.box (trfC t), .box (trpC x), .list 3 1 (i + 1) (fun a _ => .int .i64 (ptB t x a)) (i + 1)]), fun i => i ≤ x.sg.length, fun i => x.sg.length - i, ⟨0, Nat.zero_le _, .le ⟨rfl, ⟨.refl _, .refl _, trivial⟩, ⟨.refl _, .refl _, .refl _, .refl _, .refl _, .refl _, trivial⟩⟩⟩, fun i hi => ?_⟩
  rcases i with _ | i
  · replace hi : 0 ≤ x.sg.length := hi
    repeat' (first
      | ((with_reducible refine (?_ : Alt _ _)); first | fail | (with_reducible refine Alt.one ?_))
      | ((with_reducible refine (?_ : AllLe _ _)); first | (first | exact AllLe.refl _ | (repeat' (first | exact trivial | apply Le.aggs | apply Le.tups | apply Le.fns | exact Le.refl _ | refine ⟨?_, ?_⟩))))
      | ((with_reducible refine (?_ : Sc _ (AllRen _ _ _))); refine Sc.of ?_; first | (repeat' (first | exact trivial | apply Le.aggs | apply Le.tups | apply Le.fns | exact Le.refl _ | refine ⟨?_, ?_⟩)))
      | ((with_reducible refine (?_ : (List.all _ _) = true)); rfl)
      | ((with_reducible refine (?_ : (and _ _) = true)); rfl)
      | ((with_reducible refine (?_ : List.Nodup _)); exact nodupB_spec rfl)
      | ((with_reducible refine (?_ : @Eq Nat _ _)); rfl)
      | ((with_reducible refine (?_ : LeOks _ _ _)); first | exact trivial | exact ⟨.refl _, trivial⟩ | exact ⟨.refl _, .refl _, trivial⟩)
      | ((fail_if_success with_reducible refine Stop.go ?_); (first | with_reducible refine And.intro ?_ ?_ | with_reducible refine Cut.go ?_ | (with_reducible (refine impI ?_; intro _)) | (with_reducible refine (?_ : footOK _ _ = true); kernel_rfl) | ((with_reducible refine propI ?_); conv => whnf))))
    all_goals try (exact .of (Nat.le_of_ble_eq_true rfl))
    all_goals try (rename_i q; have q := of_decide_eq_true q; first | exact .of ⟨by omega, by omega⟩ | exact .of (by decide) | (refine Sc.of ⟨show (0 + (0 + 1)) * 8 ≤ 140737488355328 by omega, show 0 + (0 + 1) ≤ 9223372036854775807 by omega⟩))
    all_goals try (rename_i q; cases q; done)
    all_goals try (rename_i q; have q := of_decide_eq_true q; have p0 := segN_bd (hseg 0 (by omega)); have p1 := pt_bd T (k := 0) (by omega) (hseg 0 (by omega)); first | exact .of ⟨p0.1, p0.2.1⟩ | exact .of ⟨by omega, by omega⟩ | exact .of (show -9223372036854775808 ≤ ptM t x 0 ∧ ptM t x 0 ≤ 9223372036854775807 from ⟨by omega, by omega⟩) | exact .of (show -9223372036854775808 ≤ ptS t x 0 ∧ ptS t x 0 ≤ 9223372036854775807 from ⟨by omega, by omega⟩) | exact .of (show -9223372036854775808 ≤ ptM t x 0 + ptS t x 0 ∧ ptM t x 0 + ptS t x 0 ≤ 9223372036854775807 from ⟨by omega, by omega⟩) | (refine Sc.of ⟨show (0 + (0 + 1)) * 8 ≤ 140737488355328 by omega, show 0 + (0 + 1) ≤ 9223372036854775807 by omega⟩))
    all_goals try (rename_i q q2; have q := of_decide_eq_true q; have p0 := segN_bd (hseg 0 (by omega)); have p1 := pt_bd T (k := 0) (by omega) (hseg 0 (by omega)); first | exact .of ⟨p0.1, p0.2.1⟩ | exact .of ⟨by omega, by omega⟩ | exact .of (show -9223372036854775808 ≤ ptM t x 0 ∧ ptM t x 0 ≤ 9223372036854775807 from ⟨by omega, by omega⟩) | exact .of (show -9223372036854775808 ≤ ptS t x 0 ∧ ptS t x 0 ≤ 9223372036854775807 from ⟨by omega, by omega⟩) | exact .of (show -9223372036854775808 ≤ ptM t x 0 + ptS t x 0 ∧ ptM t x 0 + ptS t x 0 ≤ 9223372036854775807 from ⟨by omega, by omega⟩) | (refine Sc.of ⟨show (0 + (0 + 1)) * 8 ≤ 140737488355328 by omega, show 0 + (0 + 1) ≤ 9223372036854775807 by omega⟩))
    · rename_i q q2; have q := of_decide_eq_true q
      refine ⟨0 + 1, by show 0 + 1 ≤ _; omega, by show x.sg.length - (0 + 1) < x.sg.length - (0); omega, .le ⟨rfl, ⟨.refl _, .refl _, .list (fun a j ha hj => ?_), trivial⟩, ⟨.refl _, .refl _, .refl _, .refl _, .refl _, .refl _, trivial⟩⟩⟩
      replace hj : j < 1 := hj
      obtain rfl : j = 0 := by omega
      replace ha : a < 1 := by omega
      obtain rfl : a = 0 := by omega
      exact Le.ofEq (rfl)
    · rename_i q; have q := of_decide_eq_false q; have := T.pos; omega
  · replace hi : i + 1 ≤ x.sg.length := hi
    repeat' (first
      | ((with_reducible refine (?_ : Alt _ _)); first | fail | (with_reducible refine Alt.one ?_))
      | ((with_reducible refine (?_ : AllLe _ _)); first | (first | exact AllLe.refl _ | (repeat' (first | exact trivial | apply Le.aggs | apply Le.tups | apply Le.fns | exact Le.refl _ | refine ⟨?_, ?_⟩))))
      | ((with_reducible refine (?_ : Sc _ (AllRen _ _ _))); refine Sc.of ?_; first | (repeat' (first | exact trivial | apply Le.aggs | apply Le.tups | apply Le.fns | exact Le.refl _ | refine ⟨?_, ?_⟩)))
      | ((with_reducible refine (?_ : (List.all _ _) = true)); rfl)
      | ((with_reducible refine (?_ : (and _ _) = true)); rfl)
      | ((with_reducible refine (?_ : List.Nodup _)); exact nodupB_spec rfl)
      | ((with_reducible refine (?_ : @Eq Nat _ _)); rfl)
      | ((with_reducible refine (?_ : LeOks _ _ _)); first | exact trivial | exact ⟨.refl _, trivial⟩ | exact ⟨.refl _, .refl _, trivial⟩)
      | ((fail_if_success with_reducible refine Stop.go ?_); (first | rw [beqvv (i + 1)] | rw [beqvv i] | with_reducible refine And.intro ?_ ?_ | with_reducible refine Cut.go ?_ | (with_reducible (refine impI ?_; intro _)) | (with_reducible refine (?_ : footOK _ _ = true); kernel_rfl) | ((with_reducible refine propI ?_); conv => whnf))))
    all_goals try (exact .of (Nat.le_of_ble_eq_true rfl))
    all_goals try (rename_i q; have q := of_decide_eq_true q; first | exact .of ⟨by omega, by omega⟩ | exact .of (by decide) | (refine Sc.of ⟨show ((i + 1) + (0 + 1)) * 8 ≤ 140737488355328 by omega, show (i + 1) + (0 + 1) ≤ 9223372036854775807 by omega⟩))
    all_goals try (rename_i q; cases q; done)
    all_goals try (rename_i q; have q := of_decide_eq_true q; have p0 := segN_bd (hseg (i + 1) (by omega)); have p1 := pt_bd T (k := (i + 1)) (by omega) (hseg (i + 1) (by omega)); first | exact .of ⟨p0.1, p0.2.1⟩ | exact .of ⟨by omega, by omega⟩ | exact .of (show -9223372036854775808 ≤ ptM t x (i + 1) ∧ ptM t x (i + 1) ≤ 9223372036854775807 from ⟨by omega, by omega⟩) | exact .of (show -9223372036854775808 ≤ ptS t x (i + 1) ∧ ptS t x (i + 1) ≤ 9223372036854775807 from ⟨by omega, by omega⟩) | exact .of (show -9223372036854775808 ≤ ptM t x (i + 1) + ptS t x (i + 1) ∧ ptM t x (i + 1) + ptS t x (i + 1) ≤ 9223372036854775807 from ⟨by omega, by omega⟩) | (refine Sc.of ⟨show ((i + 1) + (0 + 1)) * 8 ≤ 140737488355328 by omega, show (i + 1) + (0 + 1) ≤ 9223372036854775807 by omega⟩))
    all_goals try (rename_i q q2; have q := of_decide_eq_true q; have p0 := segN_bd (hseg (i + 1) (by omega)); have p1 := pt_bd T (k := (i + 1)) (by omega) (hseg (i + 1) (by omega)); first | exact .of ⟨p0.1, p0.2.1⟩ | exact .of ⟨by omega, by omega⟩ | exact .of (show -9223372036854775808 ≤ ptM t x (i + 1) ∧ ptM t x (i + 1) ≤ 9223372036854775807 from ⟨by omega, by omega⟩) | exact .of (show -9223372036854775808 ≤ ptS t x (i + 1) ∧ ptS t x (i + 1) ≤ 9223372036854775807 from ⟨by omega, by omega⟩) | exact .of (show -9223372036854775808 ≤ ptM t x (i + 1) + ptS t x (i + 1) ∧ ptM t x (i + 1) + ptS t x (i + 1) ≤ 9223372036854775807 from ⟨by omega, by omega⟩) | (refine Sc.of ⟨show ((i + 1) + (0 + 1)) * 8 ≤ 140737488355328 by omega, show (i + 1) + (0 + 1) ≤ 9223372036854775807 by omega⟩))
    · rename_i q q2; have q := of_decide_eq_true q
      refine ⟨(i + 1) + 1, by show (i + 1) + 1 ≤ _; omega, by show x.sg.length - ((i + 1) + 1) < x.sg.length - ((i + 1)); omega, .le ⟨rfl, ⟨.refl _, .refl _, .list (fun a j ha hj => ?_), trivial⟩, ⟨.refl _, .refl _, .refl _, .refl _, .refl _, .refl _, trivial⟩⟩⟩
      replace hj : j < 1 := hj
      obtain rfl : j = 0 := by omega
      skip
      exact Le.ofEq (push_f (rfl) ha)
      skip
    · rename_i q; have q := of_decide_eq_false q
      rw [show rowF (ptB t x) x.sg.length = rowF (ptB t x) (i + 1) from by rw [show x.sg.length = i + 1 by omega]]
      exact .mk [] [2] _ rfl (.own rfl fun _ _ _ _ => .refl _) trivial rfl
set_option maxHeartbeats 1000000 in
theorem c110x (t : Trf) (x : Trp) (hs : Side (TOk t ∧ XOk x)) (hr : rideE t x = 0) : Pure (Xc W0 G) 110 [trfA t, trpA x, .bool false] (rowF (ptX t x) x.sg.length) := by
  have hs0 := hs
  have hs := hs.get
  have tk := hs.1
  have k3 := hs.2.sg
  obtain ⟨T, hseg⟩ := ride_0 hr
  have hT := ride_trip hr
  have l60 := T.len
  have hk : Side (HOk t) := .mk ⟨tk, trf_sort T.trf⟩
  refine mut_of' hX (show FnIs (Xc W0 G) 110 Tryz.f110 (codeOf Tryz.f110) from ⟨by kernel_rfl, by kernel_rfl, by kernel_rfl, by kernel_rfl⟩) rfl ?_
  repeat' (first
    | ((with_reducible refine (?_ : Alt _ _)); first | (with_reducible apply callAlt (c41 hX t x hs0 hr)) | (with_reducible refine Alt.one ?_))
    | ((with_reducible refine (?_ : AllLe _ _)); first | (first | exact AllLe.refl _ | (repeat' (first | exact trivial | apply Le.aggs | apply Le.tups | apply Le.fns | exact Le.refl _ | refine ⟨?_, ?_⟩))))
    | ((with_reducible refine (?_ : Sc _ (AllRen _ _ _))); refine Sc.of ?_; first | (repeat' (first | exact trivial | apply Le.aggs | apply Le.tups | apply Le.fns | exact Le.refl _ | refine ⟨?_, ?_⟩)))
    | ((with_reducible refine (?_ : (List.all _ _) = true)); rfl)
    | ((with_reducible refine (?_ : (and _ _) = true)); rfl)
    | ((with_reducible refine (?_ : List.Nodup _)); exact nodupB_spec rfl)
    | ((with_reducible refine (?_ : @Eq Nat _ _)); rfl)
    | ((with_reducible refine (?_ : LeOks _ _ _)); first | exact trivial | exact ⟨.refl _, trivial⟩ | exact ⟨.refl _, .refl _, trivial⟩)
    | ((fail_if_success with_reducible refine Stop.go ?_); (first | with_reducible refine And.intro ?_ ?_ | with_reducible refine Cut.go ?_ | (with_reducible (refine impI ?_; intro _)) | (with_reducible refine (?_ : footOK _ _ = true); kernel_rfl) | ((with_reducible refine propI ?_); conv => whnf))))
  all_goals try (exact .of (Nat.le_of_ble_eq_true rfl))
  refine ⟨Nat, fun i => match i with | 0 => ([(2, .bool false), (3, .ptr 0 0), (4, .ptr 1 0), (7, rowF (segN t x) x.sg.length), (9, .slc0), (10, .int .i64 ((0 : Nat)))], [.box (trfC t), .box (trpC x)]) | i + 1 => ([(2, .bool false), (3, .ptr 0 0), (4, .ptr 1 0), (7, rowF (segN t x) x.sg.length), (9, .own 2 (i + 1)), (10, .int .i64 (((i + 1) : Nat)))], [.box (trfC t), .box (trpC x), .list 3 1 (i + 1) (fun a _ => .int .i64 (ptX t x a)) (i + 1)]), fun i => i ≤ x.sg.length, fun i => x.sg.length - i, ⟨0, Nat.zero_le _, .le ⟨rfl, ⟨.refl _, .refl _, trivial⟩, ⟨.refl _, .refl _, .refl _, .refl _, .refl _, .refl _, trivial⟩⟩⟩, fun i hi => ?_⟩
  rcases i with _ | i
  · replace hi : 0 ≤ x.sg.length := hi
    repeat' (first
      | ((with_reducible refine (?_ : Alt _ _)); first | fail | (with_reducible refine Alt.one ?_))
      | ((with_reducible refine (?_ : AllLe _ _)); first | (first | exact AllLe.refl _ | (repeat' (first | exact trivial | apply Le.aggs | apply Le.tups | apply Le.fns | exact Le.refl _ | refine ⟨?_, ?_⟩))))
      | ((with_reducible refine (?_ : Sc _ (AllRen _ _ _))); refine Sc.of ?_; first | (repeat' (first | exact trivial | apply Le.aggs | apply Le.tups | apply Le.fns | exact Le.refl _ | refine ⟨?_, ?_⟩)))
      | ((with_reducible refine (?_ : (List.all _ _) = true)); rfl)
      | ((with_reducible refine (?_ : (and _ _) = true)); rfl)
      | ((with_reducible refine (?_ : List.Nodup _)); exact nodupB_spec rfl)
      | ((with_reducible refine (?_ : @Eq Nat _ _)); rfl)
      | ((with_reducible refine (?_ : LeOks _ _ _)); first | exact trivial | exact ⟨.refl _, trivial⟩ | exact ⟨.refl _, .refl _, trivial⟩)
      | ((fail_if_success with_reducible refine Stop.go ?_); (first | with_reducible refine And.intro ?_ ?_ | with_reducible refine Cut.go ?_ | (with_reducible (refine impI ?_; intro _)) | (with_reducible refine (?_ : footOK _ _ = true); kernel_rfl) | ((with_reducible refine propI ?_); conv => whnf))))
    all_goals try (exact .of (Nat.le_of_ble_eq_true rfl))
    all_goals try (rename_i q; have q := of_decide_eq_true q; first | exact .of ⟨by omega, by omega⟩ | exact .of (by decide) | (refine Sc.of ⟨show (0 + (0 + 1)) * 8 ≤ 140737488355328 by omega, show 0 + (0 + 1) ≤ 9223372036854775807 by omega⟩))
    all_goals try (rename_i q; cases q; done)
    all_goals try (rename_i q; have q := of_decide_eq_true q; have p0 := segN_bd (hseg 0 (by omega)); have p1 := pt_bd T (k := 0) (by omega) (hseg 0 (by omega)); first | exact .of ⟨p0.1, p0.2.1⟩ | exact .of ⟨by omega, by omega⟩ | exact .of (show -9223372036854775808 ≤ ptM t x 0 ∧ ptM t x 0 ≤ 9223372036854775807 from ⟨by omega, by omega⟩) | exact .of (show -9223372036854775808 ≤ ptS t x 0 ∧ ptS t x 0 ≤ 9223372036854775807 from ⟨by omega, by omega⟩) | exact .of (show -9223372036854775808 ≤ ptM t x 0 + ptS t x 0 ∧ ptM t x 0 + ptS t x 0 ≤ 9223372036854775807 from ⟨by omega, by omega⟩) | (refine Sc.of ⟨show (0 + (0 + 1)) * 8 ≤ 140737488355328 by omega, show 0 + (0 + 1) ≤ 9223372036854775807 by omega⟩))
    all_goals try (rename_i q q2; have q := of_decide_eq_true q; have p0 := segN_bd (hseg 0 (by omega)); have p1 := pt_bd T (k := 0) (by omega) (hseg 0 (by omega)); first | exact .of ⟨p0.1, p0.2.1⟩ | exact .of ⟨by omega, by omega⟩ | exact .of (show -9223372036854775808 ≤ ptM t x 0 ∧ ptM t x 0 ≤ 9223372036854775807 from ⟨by omega, by omega⟩) | exact .of (show -9223372036854775808 ≤ ptS t x 0 ∧ ptS t x 0 ≤ 9223372036854775807 from ⟨by omega, by omega⟩) | exact .of (show -9223372036854775808 ≤ ptM t x 0 + ptS t x 0 ∧ ptM t x 0 + ptS t x 0 ≤ 9223372036854775807 from ⟨by omega, by omega⟩) | (refine Sc.of ⟨show (0 + (0 + 1)) * 8 ≤ 140737488355328 by omega, show 0 + (0 + 1) ≤ 9223372036854775807 by omega⟩))
    · rename_i q q2; have q := of_decide_eq_true q
      refine ⟨0 + 1, by show 0 + 1 ≤ _; omega, by show x.sg.length - (0 + 1) < x.sg.length - (0); omega, .le ⟨rfl, ⟨.refl _, .refl _, .list (fun a j ha hj => ?_), trivial⟩, ⟨.refl _, .refl _, .refl _, .refl _, .refl _, .refl _, trivial⟩⟩⟩
      replace hj : j < 1 := hj
      obtain rfl : j = 0 := by omega
      replace ha : a < 1 := by omega
      obtain rfl : a = 0 := by omega
      exact Le.ofEq (by show AV.int .i64 (max (ptM t x 0) (ptS t x 0)) = AV.int .i64 (ptX t x 0); rw [mx_eq]; rfl)
    · rename_i q; have q := of_decide_eq_false q; have := T.pos; omega
  · replace hi : i + 1 ≤ x.sg.length := hi
    repeat' (first
      | ((with_reducible refine (?_ : Alt _ _)); first | fail | (with_reducible refine Alt.one ?_))
      | ((with_reducible refine (?_ : AllLe _ _)); first | (first | exact AllLe.refl _ | (repeat' (first | exact trivial | apply Le.aggs | apply Le.tups | apply Le.fns | exact Le.refl _ | refine ⟨?_, ?_⟩))))
      | ((with_reducible refine (?_ : Sc _ (AllRen _ _ _))); refine Sc.of ?_; first | (repeat' (first | exact trivial | apply Le.aggs | apply Le.tups | apply Le.fns | exact Le.refl _ | refine ⟨?_, ?_⟩)))
      | ((with_reducible refine (?_ : (List.all _ _) = true)); rfl)
      | ((with_reducible refine (?_ : (and _ _) = true)); rfl)
      | ((with_reducible refine (?_ : List.Nodup _)); exact nodupB_spec rfl)
      | ((with_reducible refine (?_ : @Eq Nat _ _)); rfl)
      | ((with_reducible refine (?_ : LeOks _ _ _)); first | exact trivial | exact ⟨.refl _, trivial⟩ | exact ⟨.refl _, .refl _, trivial⟩)
      | ((fail_if_success with_reducible refine Stop.go ?_); (first | rw [beqvv (i + 1)] | rw [beqvv i] | with_reducible refine And.intro ?_ ?_ | with_reducible refine Cut.go ?_ | (with_reducible (refine impI ?_; intro _)) | (with_reducible refine (?_ : footOK _ _ = true); kernel_rfl) | ((with_reducible refine propI ?_); conv => whnf))))
    all_goals try (exact .of (Nat.le_of_ble_eq_true rfl))
    all_goals try (rename_i q; have q := of_decide_eq_true q; first | exact .of ⟨by omega, by omega⟩ | exact .of (by decide) | (refine Sc.of ⟨show ((i + 1) + (0 + 1)) * 8 ≤ 140737488355328 by omega, show (i + 1) + (0 + 1) ≤ 9223372036854775807 by omega⟩))
    all_goals try (rename_i q; cases q; done)
    all_goals try (rename_i q; have q := of_decide_eq_true q; have p0 := segN_bd (hseg (i + 1) (by omega)); have p1 := pt_bd T (k := (i + 1)) (by omega) (hseg (i + 1) (by omega)); first | exact .of ⟨p0.1, p0.2.1⟩ | exact .of ⟨by omega, by omega⟩ | exact .of (show -9223372036854775808 ≤ ptM t x (i + 1) ∧ ptM t x (i + 1) ≤ 9223372036854775807 from ⟨by omega, by omega⟩) | exact .of (show -9223372036854775808 ≤ ptS t x (i + 1) ∧ ptS t x (i + 1) ≤ 9223372036854775807 from ⟨by omega, by omega⟩) | exact .of (show -9223372036854775808 ≤ ptM t x (i + 1) + ptS t x (i + 1) ∧ ptM t x (i + 1) + ptS t x (i + 1) ≤ 9223372036854775807 from ⟨by omega, by omega⟩) | (refine Sc.of ⟨show ((i + 1) + (0 + 1)) * 8 ≤ 140737488355328 by omega, show (i + 1) + (0 + 1) ≤ 9223372036854775807 by omega⟩))
    all_goals try (rename_i q q2; have q := of_decide_eq_true q; have p0 := segN_bd (hseg (i + 1) (by omega)); have p1 := pt_bd T (k := (i + 1)) (by omega) (hseg (i + 1) (by omega)); first | exact .of ⟨p0.1, p0.2.1⟩ | exact .of ⟨by omega, by omega⟩ | exact .of (show -9223372036854775808 ≤ ptM t x (i + 1) ∧ ptM t x (i + 1) ≤ 9223372036854775807 from ⟨by omega, by omega⟩) | exact .of (show -9223372036854775808 ≤ ptS t x (i + 1) ∧ ptS t x (i + 1) ≤ 9223372036854775807 from ⟨by omega, by omega⟩) | exact .of (show -9223372036854775808 ≤ ptM t x (i + 1) + ptS t x (i + 1) ∧ ptM t x (i + 1) + ptS t x (i + 1) ≤ 9223372036854775807 from ⟨by omega, by omega⟩) | (refine Sc.of ⟨show ((i + 1) + (0 + 1)) * 8 ≤ 140737488355328 by omega, show (i + 1) + (0 + 1) ≤ 9223372036854775807 by omega⟩))
    · rename_i q q2; have q := of_decide_eq_true q
      refine ⟨(i + 1) + 1, by show (i + 1) + 1 ≤ _; omega, by show x.sg.length - ((i + 1) + 1) < x.sg.length - ((i + 1)); omega, .le ⟨rfl, ⟨.refl _, .refl _, .list (fun a j ha hj => ?_), trivial⟩, ⟨.refl _, .refl _, .refl _, .refl _, .refl _, .refl _, trivial⟩⟩⟩
      replace hj : j < 1 := hj
      obtain rfl : j = 0 := by omega
      skip
      exact Le.ofEq (push_f (by show AV.int .i64 (max (ptM t x (i + 1)) (ptS t x (i + 1))) = AV.int .i64 (ptX t x (i + 1)); rw [mx_eq]; rfl) ha)
      skip
    · rename_i q; have q := of_decide_eq_false q
      rw [show rowF (ptX t x) x.sg.length = rowF (ptX t x) (i + 1) from by rw [show x.sg.length = i + 1 by omega]]
      exact .mk [] [2] _ rfl (.own rfl fun _ _ _ _ => .refl _) trivial rfl
end
end Go.Fx
