/-
  Fares, the reference's.
-/
import Derived.Test.YtgegfljeglphlaaGreatDoorGi

set_option linter.all false

/-
  The fare of a trip, as the reference reckons it.
-/
namespace Go.Fx
open Go.Proofs Go.RowKit

theorem le_box4 {a b c c' d : Int} (h : c = c') : LeO (.box [.int .i64 a, .int .i64 b, .int .i64 c, .int .i64 d]) (.box [.int .i64 a, .int .i64 b, .int .i64 c', .int .i64 d]) := h ▸ .refl _
def lastF (t : Trf) (x : Trp) : Nat → Int
  | 0 => -1
  | i + 1 => bif fixP t x i then (i : Int) else lastF t x i
theorem lastF_spec (t : Trf) (x : Trp) : ∀ i, (lastF t x i = -1 ∧ ∀ j, j < i → fixP t x j = false) ∨ ∃ k, k < i ∧ lastF t x i = (k : Int) ∧ fixP t x k = true
  | 0 => .inl ⟨rfl, fun _ h => by omega⟩
  | i + 1 => by
    cases hp : fixP t x i
    · have e : lastF t x (i + 1) = lastF t x i := by show (bif fixP t x i then (i : Int) else lastF t x i) = _; rw [hp]; rfl
      rcases lastF_spec t x i with h | ⟨k, hk, h1, h2⟩
      · exact .inl ⟨e.trans h.1, fun j hj => by rcases Nat.lt_or_eq_of_le (Nat.le_of_lt_succ hj) with w | w; exact h.2 j w; rw [w]; exact hp⟩
      · exact .inr ⟨k, by omega, e.trans h1, h2⟩
    · exact .inr ⟨i, by omega, by show (bif fixP t x i then (i : Int) else lastF t x i) = _; rw [hp]; rfl, hp⟩
theorem lastF_eq {t : Trf} {x : Trp} (h : trfE t = 0) : lastF t x t.fixed.length = fixI t x := by
  rcases lastF_spec t x t.fixed.length with w | ⟨k, hk, h1, h2⟩
  · rw [w.1]; exact (findI_none w.2).symm
  · rw [h1]; exact (findI_hit hk (fun j hj => by
      cases hp : fixP t x j
      · rfl
      · have := fixP_one h (by omega) hk hp h2; omega) h2).symm
section
variable {W0 : World} {G : Nat → Option AV} (hX : (Xc W0 G).Good)
include hX
set_option maxHeartbeats 400000 in
theorem c108x (t : Trf) (x : Trp) (hs : Side (TOk t ∧ XOk x)) (hr : rideE t x = 0) : Pure (Xc W0 G) 108 [trfA t, trpA x, .bool false] (.tup 2 (tbl [fareA t x (ptX t x), .int .i64 (fareE t x (ptX t x))])) := by
  have hs0 := hs
  have hs := hs.get
  have tk := hs.1
  have hr0 := hr
  obtain ⟨T, hseg⟩ := ride_0 hr
  have l60 := T.len
  have l1 := T.pos
  have sb := segN_bd (hseg 0 l1)
  have u := trf_unit T.trf
  have st := (seg_rule T.trf (hseg 0 l1)).st
  have hf : ∀ k, k < x.sg.length → 0 ≤ ptX t x k ∧ ptX t x k ≤ 136000000000 := fun k hk => ptX_bd T hk (hseg k hk)
  have d := drv_bd T hf
  refine mut_of' hX (show FnIs (Xc W0 G) 108 Tryz.f108 (codeOf Tryz.f108) from ⟨by kernel_rfl, by kernel_rfl, by kernel_rfl, by kernel_rfl⟩) rfl ?_
  repeat' (first
    | ((with_reducible refine (?_ : Alt _ _)); first | (with_reducible apply callAlt (c41 hX t x hs0 hr0)) | (with_reducible apply callAlt (c110x hX t x hs0 hr0)) | (with_reducible refine Alt.one ?_))
    | ((with_reducible refine (?_ : AllLe _ _)); first | (first | exact AllLe.refl _ | (repeat' (first | exact trivial | apply Le.aggs | apply Le.tups | apply Le.fns | exact Le.refl _ | refine ⟨?_, ?_⟩))))
    | ((with_reducible refine (?_ : Sc _ (AllRen _ _ _))); refine Sc.of ?_; first | (repeat' (first | exact trivial | apply Le.aggs | apply Le.tups | apply Le.fns | exact Le.refl _ | refine ⟨?_, ?_⟩)))
    | ((with_reducible refine (?_ : (List.all _ _) = true)); rfl)
    | ((with_reducible refine (?_ : (and _ _) = true)); rfl)
    | ((with_reducible refine (?_ : List.Nodup _)); exact nodupB_spec rfl)
    | ((with_reducible refine (?_ : @Eq Nat _ _)); rfl)
    | ((with_reducible refine (?_ : LeOks _ _ _)); first | exact trivial | exact ⟨.refl _, trivial⟩ | exact ⟨.refl _, .refl _, trivial⟩)
    | ((fail_if_success with_reducible refine Stop.go ?_); (first | with_reducible refine And.intro ?_ ?_ | with_reducible refine Cut.go ?_ | (with_reducible (refine impI ?_; intro _)) | (with_reducible refine (?_ : footOK _ _ = true); kernel_rfl) | ((with_reducible refine propI ?_); conv => whnf))))
  all_goals try (exact .of (Nat.le_of_ble_eq_true rfl))
  all_goals try (first | exact .of ⟨by omega, by omega⟩ | exact .of ⟨sb.1, sb.2.1⟩)
  refine ⟨Nat, fun i => ([(3, .ptr 0 0), (4, .ptr 1 0), (6, .ptr 2 0), (10, .ptr 3 0), (11, rowF (ptX t x) x.sg.length), (12, .int .i64 (accP (ptX t x) i)), (13, .int .i64 ((i : Nat)))], [.box (trfC t), .box (trpC x), .box [.int .i64 0, .int .i64 0, .int .i64 0, .int .i64 0], .box [.int .i64 (segR t x 0).st, .int .i64 0, .int .i64 0, .int .i64 0]]), fun i => i ≤ x.sg.length, fun i => x.sg.length - i, ⟨0, Nat.zero_le _, .le ⟨rfl, ⟨.refl _, .refl _, .refl _, .refl _, trivial⟩, ⟨.refl _, .refl _, .refl _, .refl _, .refl _, .refl _, .refl _, trivial⟩⟩⟩, fun i hi => ?_⟩
  replace hi : i ≤ x.sg.length := hi
  repeat' (first
    | ((with_reducible refine (?_ : Alt _ _)); first | fail | (with_reducible refine Alt.one ?_))
    | ((with_reducible refine (?_ : AllLe _ _)); first | (first | exact AllLe.refl _ | (repeat' (first | exact trivial | apply Le.aggs | apply Le.tups | apply Le.fns | exact Le.refl _ | refine ⟨?_, ?_⟩))))
    | ((with_reducible refine (?_ : Sc _ (AllRen _ _ _))); refine Sc.of ?_; first | (repeat' (first | exact trivial | apply Le.aggs | apply Le.tups | apply Le.fns | exact Le.refl _ | refine ⟨?_, ?_⟩)))
    | ((with_reducible refine (?_ : (List.all _ _) = true)); rfl)
    | ((with_reducible refine (?_ : (and _ _) = true)); rfl)
    | ((with_reducible refine (?_ : List.Nodup _)); exact nodupB_spec rfl)
    | ((with_reducible refine (?_ : @Eq Nat _ _)); rfl)
    | ((with_reducible refine (?_ : LeOks _ _ _)); first | exact trivial | exact ⟨.refl _, trivial⟩ | exact ⟨.refl _, .refl _, trivial⟩)
    | ((fail_if_success with_reducible refine Stop.go ?_); (first | with_reducible refine And.intro ?_ ?_ | with_reducible refine Cut.go ?_ | (with_reducible (refine impI ?_; intro _)) | (with_reducible refine (?_ : footOK _ _ = true); kernel_rfl) | ((with_reducible refine propI ?_); conv => whnf))))
  all_goals try (exact .of (Nat.le_of_ble_eq_true rfl))
  all_goals try (rename_i q; have q := of_decide_eq_true q; have a0 := accP_bd hf i hi; have a1 := accP_bd hf (i + 1) (by omega); have e : accP (ptX t x) (i + 1) = accP (ptX t x) i + (ptX t x) i := rfl; first | exact .of ⟨by omega, by omega⟩ | exact .of (show -9223372036854775808 ≤ accP (ptX t x) i + (ptX t x) i ∧ accP (ptX t x) i + (ptX t x) i ≤ 9223372036854775807 from ⟨by omega, by omega⟩) | exact ⟨i + 1, by show i + 1 ≤ _; omega, by show x.sg.length - (i + 1) < x.sg.length - i; omega, .le ⟨rfl, ⟨.refl _, .refl _, .refl _, .refl _, trivial⟩, ⟨.refl _, .refl _, .refl _, .refl _, .refl _, .refl _, .refl _, trivial⟩⟩⟩)
  all_goals replace hi : i = x.sg.length := by (have hi2 : i ≤ x.sg.length := hi); (have q1 : decide ((i : Int) < (x.sg.length : Int)) = false := by assumption); (have q := of_decide_eq_false q1); omega
  all_goals subst hi
  · exact .of (show t.unit ≠ 0 by omega)
  · exact .of (show -9223372036854775808 ≤ (accP (ptX t x) x.sg.length).tdiv t.unit ∧ (accP (ptX t x) x.sg.length).tdiv t.unit ≤ 9223372036854775807 from ⟨by omega, by omega⟩)
  · exact .of (show -9223372036854775808 ≤ (accP (ptX t x) x.sg.length).tdiv t.unit * t.step ∧ (accP (ptX t x) x.sg.length).tdiv t.unit * t.step ≤ 9223372036854775807 from ⟨by omega, by omega⟩)
  · have hx : x.fx = true := by assumption
    refine ⟨Nat, fun i => ([(3, .ptr 0 0), (4, .ptr 1 0), (6, .ptr 2 0), (10, .ptr 3 0), (14, .int .i64 (lastF t x i)), (15, .int .i64 ((i : Nat)))], [.box (trfC t), .box (trpC x), .box [.int .i64 0, .int .i64 0, .int .i64 0, .int .i64 0], .box [.int .i64 (segR t x 0).st, .int .i64 ((accP (ptX t x) x.sg.length).tdiv t.unit * t.step), .int .i64 0, .int .i64 0]]), fun i => i ≤ t.fixed.length, fun i => t.fixed.length - i, ⟨0, Nat.zero_le _, .le ⟨rfl, ⟨.refl _, .refl _, .refl _, .refl _, trivial⟩, ⟨.refl _, .refl _, .refl _, .refl _, .refl _, .refl _, trivial⟩⟩⟩, fun i hi => ?_⟩
    replace hi : i ≤ t.fixed.length := hi
    repeat' (first
      | ((with_reducible refine (?_ : Alt _ _)); first | fail | (with_reducible refine Alt.one ?_))
      | ((with_reducible refine (?_ : AllLe _ _)); first | (first | exact AllLe.refl _ | (repeat' (first | exact trivial | apply Le.aggs | apply Le.tups | apply Le.fns | exact Le.refl _ | refine ⟨?_, ?_⟩))))
      | ((with_reducible refine (?_ : Sc _ (AllRen _ _ _))); refine Sc.of ?_; first | (repeat' (first | exact trivial | apply Le.aggs | apply Le.tups | apply Le.fns | exact Le.refl _ | refine ⟨?_, ?_⟩)))
      | ((with_reducible refine (?_ : (List.all _ _) = true)); rfl)
      | ((with_reducible refine (?_ : (and _ _) = true)); rfl)
      | ((with_reducible refine (?_ : List.Nodup _)); exact nodupB_spec rfl)
      | ((with_reducible refine (?_ : @Eq Nat _ _)); rfl)
      | ((with_reducible refine (?_ : LeOks _ _ _)); first | exact trivial | exact ⟨.refl _, trivial⟩ | exact ⟨.refl _, .refl _, trivial⟩)
      | ((fail_if_success with_reducible refine Stop.go ?_); (first | with_reducible refine And.intro ?_ ?_ | with_reducible refine Cut.go ?_ | (with_reducible (refine impI ?_; intro _)) | (with_reducible refine (?_ : footOK _ _ = true); kernel_rfl) | ((with_reducible refine propI ?_); conv => whnf))))
    all_goals try (exact .of (Nat.le_of_ble_eq_true rfl))
    all_goals have p0 : 0 < x.sg.length := l1
    all_goals have fl := fixed_len T.trf
    all_goals have zl : (((x.sg.length : Nat) : Int) - 1).toNat = x.sg.length - 1 := by omega
    all_goals try (have q1 : decide ((i : Int) < (t.fixed.length : Int)) = true := by assumption
                   have q := of_decide_eq_true q1
                   first | exact .of ⟨by omega, by omega⟩ | exact Sc.of (show -9223372036854775808 ≤ ((x.sg.length : Nat) : Int) - 1 ∧ ((x.sg.length : Nat) : Int) - 1 ≤ 9223372036854775807 from ⟨by omega, by omega⟩))
    · rename_i q1 q; have q1 := of_decide_eq_true q1
      rw [zl] at q
      have e : lastF t x (i + 1) = (i : Int) := by show (bif fixP t x i then (i : Int) else lastF t x i) = _; rw [show fixP t x i = true from q]; rfl
      exact ⟨i + 1, by show i + 1 ≤ _; omega, by show t.fixed.length - (i + 1) < t.fixed.length - i; omega, .le ⟨rfl, ⟨.refl _, .refl _, .refl _, .refl _, trivial⟩, ⟨.refl _, .refl _, .refl _, .refl _, .intI e.symm, .refl _, trivial⟩⟩⟩
    · rename_i q1 q; have q1 := of_decide_eq_true q1
      rw [zl] at q
      have e : lastF t x (i + 1) = lastF t x i := by show (bif fixP t x i then (i : Int) else lastF t x i) = _; rw [show fixP t x i = false from q]; rfl
      exact ⟨i + 1, by show i + 1 ≤ _; omega, by show t.fixed.length - (i + 1) < t.fixed.length - i; omega, .le ⟨rfl, ⟨.refl _, .refl _, .refl _, .refl _, trivial⟩, ⟨.refl _, .refl _, .refl _, .refl _, .intI e.symm, .refl _, trivial⟩⟩⟩
    all_goals replace hi : i = t.fixed.length := by (have hi2 : i ≤ t.fixed.length := hi); (have q1 : decide ((i : Int) < (t.fixed.length : Int)) = false := by assumption); (have q := of_decide_eq_false q1); omega
    all_goals subst hi
    all_goals have le := lastF_eq (x := x) T.trf
    all_goals have fb := fixI_bd t x
    · rename_i q; have q := of_decide_eq_true q; rw [le] at q
      have e := fare_none (f := ptX t x) hx q; have z := fun n => (fareZ_e (n := n) e (by decide)).symm
      exact .mk [] [] _ rfl (.le (.tups ⟨⟨trivial, .aggs ⟨⟨⟨⟨trivial, .intI (z _)⟩, .intI (z _)⟩, .intI (z _)⟩, .intI (z _)⟩⟩, .intI e.symm⟩)) trivial rfl
    · rename_i q; have q := of_decide_eq_false q; exact .of ⟨by omega, by omega⟩
    · rename_i q; have q := of_decide_eq_false q; rw [le] at q
      have m := drv_fx (t := t) (f := ptX t x) hx
      have hn : x.fx = true → ¬ fixI t x < 0 := fun _ => q
      have fa := (fxd_ok0 T.trf (k := (fixI t x).toNat) (by omega)).1
      have A0 : (0 : Int) ≤ 0 ∧ (0 : Int) ≤ 100000 := ⟨by decide, by decide⟩
      have TQ : totQ t x (ptX t x) = 0 + (t.fixed.getD (fixI t x).toNat fxd0).am + exS t x x.ex.length := by unfold totQ; rw [m.1, m.2]
      rw [le]
      have el := T.exl; have e6 := ext_len T.trf
      refine ⟨Nat, fun i => ([(3, .ptr 0 0), (4, .ptr 1 0), (6, .ptr 2 0), (10, .ptr 3 0), (16, .int .i64 ((i : Nat)))], [.box (trfC t), .box (trpC x), .box [.int .i64 0, .int .i64 0, .int .i64 0, .int .i64 0], .box [.int .i64 (0), .int .i64 ((t.fixed.getD (fixI t x).toNat fxd0).am), .int .i64 (exS t x i), .int .i64 0]]), fun i => i ≤ x.ex.length, fun i => x.ex.length - i, ⟨0, Nat.zero_le _, .le ⟨rfl, ⟨.refl _, .refl _, .refl _, .refl _, trivial⟩, ⟨.refl _, .refl _, .refl _, .refl _, .refl _, trivial⟩⟩⟩, fun i hi => ?_⟩
      replace hi : i ≤ x.ex.length := hi
      repeat' (first
        | ((with_reducible refine (?_ : Alt _ _)); first | fail | (with_reducible refine Alt.one ?_))
        | ((with_reducible refine (?_ : AllLe _ _)); first | (first | exact AllLe.refl _ | (repeat' (first | exact trivial | apply Le.aggs | apply Le.tups | apply Le.fns | exact Le.refl _ | refine ⟨?_, ?_⟩))))
        | ((with_reducible refine (?_ : Sc _ (AllRen _ _ _))); refine Sc.of ?_; first | (repeat' (first | exact trivial | apply Le.aggs | apply Le.tups | apply Le.fns | exact Le.refl _ | refine ⟨?_, ?_⟩)))
        | ((with_reducible refine (?_ : (List.all _ _) = true)); rfl)
        | ((with_reducible refine (?_ : (and _ _) = true)); rfl)
        | ((with_reducible refine (?_ : List.Nodup _)); exact nodupB_spec rfl)
        | ((with_reducible refine (?_ : @Eq Nat _ _)); rfl)
        | ((with_reducible refine (?_ : LeOks _ _ _)); first | exact trivial | exact ⟨.refl _, trivial⟩ | exact ⟨.refl _, .refl _, trivial⟩)
        | ((fail_if_success with_reducible refine Stop.go ?_); (first | with_reducible refine And.intro ?_ ?_ | with_reducible refine Cut.go ?_ | (with_reducible (refine impI ?_; intro _)) | (with_reducible refine (?_ : footOK _ _ = true); kernel_rfl) | ((with_reducible refine propI ?_); conv => whnf))))
      all_goals try (exact .of (Nat.le_of_ble_eq_true rfl))
      all_goals try (rename_i q; have q := of_decide_eq_true q; have b0 := exS_bd T i hi; have b1 := exS_bd T (i + 1) (by omega); have e : exS t x (i + 1) = exS t x i + (t.extras.getD i ext0).am * x.ex.getD i 0 := by rw [Int.mul_comm]; rfl
                     first | exact .of ⟨by omega, by omega⟩ | exact .of (show -9223372036854775808 ≤ (t.extras.getD i ext0).am * x.ex.getD i 0 ∧ (t.extras.getD i ext0).am * x.ex.getD i 0 ≤ 9223372036854775807 from ⟨by omega, by omega⟩) | exact .of (show -9223372036854775808 ≤ exS t x i + (t.extras.getD i ext0).am * x.ex.getD i 0 ∧ exS t x i + (t.extras.getD i ext0).am * x.ex.getD i 0 ≤ 9223372036854775807 from ⟨by omega, by omega⟩) | exact ⟨i + 1, by show i + 1 ≤ _; omega, by show x.ex.length - (i + 1) < x.ex.length - i; omega, .le ⟨rfl, ⟨.refl _, .refl _, .refl _, le_box4 e.symm, trivial⟩, ⟨.refl _, .refl _, .refl _, .refl _, .refl _, trivial⟩⟩⟩)
      all_goals replace hi : i = x.ex.length := by (have hi2 : i ≤ x.ex.length := hi); (have q1 : decide ((i : Int) < (x.ex.length : Int)) = false := by assumption); (have q := of_decide_eq_false q1); omega
      all_goals subst hi
      all_goals have b0 := exS_bd T x.ex.length (Nat.le_refl _)
      · exact .of (show -9223372036854775808 ≤ 0 + (t.fixed.getD (fixI t x).toNat fxd0).am ∧ 0 + (t.fixed.getD (fixI t x).toNat fxd0).am ≤ 9223372036854775807 from ⟨by omega, by omega⟩)
      · exact .of (show -9223372036854775808 ≤ 0 + (t.fixed.getD (fixI t x).toNat fxd0).am + exS t x x.ex.length ∧ 0 + (t.fixed.getD (fixI t x).toNat fxd0).am + exS t x x.ex.length ≤ 9223372036854775807 from ⟨by omega, by omega⟩)
      · rename_i q2; have q2 : 1000000000 < 0 + (t.fixed.getD (fixI t x).toNat fxd0).am + exS t x x.ex.length := of_decide_eq_true q2
        have e := fare_big (f := ptX t x) hn (by rw [TQ]; exact q2); have z := fun n => (fareZ_e (n := n) e (by decide)).symm
        exact .mk [] [] _ rfl (.le (.tups ⟨⟨trivial, .aggs ⟨⟨⟨⟨trivial, .intI (z _)⟩, .intI (z _)⟩, .intI (z _)⟩, .intI (z _)⟩⟩, .intI e.symm⟩)) trivial rfl
      · rename_i q2; have q2 : ¬ 1000000000 < 0 + (t.fixed.getD (fixI t x).toNat fxd0).am + exS t x x.ex.length := of_decide_eq_false q2
        have e := fare_fit (f := ptX t x) hn (by rw [TQ]; exact q2); have z := fun n => fareZ_0 (n := n) e
        exact .mk [] [] _ rfl (.le (.tups ⟨⟨trivial, .aggs ⟨⟨⟨⟨trivial, .intI (by rw [z, m.2])⟩, .intI (by rw [z, m.1])⟩, .intI (by rw [z])⟩, .intI (by rw [z, TQ])⟩⟩, .intI e.symm⟩)) trivial rfl
  · have hx : x.fx = false := by assumption
    have m := drv_me (t := t) (f := ptX t x) hx
    have hn : x.fx = true → ¬ fixI t x < 0 := fun h => by rw [hx] at h; cases h
    have A0 := st; have D0 := d.2
    have TQ : totQ t x (ptX t x) = (segR t x 0).st + (accP (ptX t x) x.sg.length).tdiv t.unit * t.step + exS t x x.ex.length := by unfold totQ; rw [m.1, m.2]
    have el := T.exl; have e6 := ext_len T.trf
    refine ⟨Nat, fun i => ([(3, .ptr 0 0), (4, .ptr 1 0), (6, .ptr 2 0), (10, .ptr 3 0), (16, .int .i64 ((i : Nat)))], [.box (trfC t), .box (trpC x), .box [.int .i64 0, .int .i64 0, .int .i64 0, .int .i64 0], .box [.int .i64 ((segR t x 0).st), .int .i64 ((accP (ptX t x) x.sg.length).tdiv t.unit * t.step), .int .i64 (exS t x i), .int .i64 0]]), fun i => i ≤ x.ex.length, fun i => x.ex.length - i, ⟨0, Nat.zero_le _, .le ⟨rfl, ⟨.refl _, .refl _, .refl _, .refl _, trivial⟩, ⟨.refl _, .refl _, .refl _, .refl _, .refl _, trivial⟩⟩⟩, fun i hi => ?_⟩
    replace hi : i ≤ x.ex.length := hi
    repeat' (first
      | ((with_reducible refine (?_ : Alt _ _)); first | fail | (with_reducible refine Alt.one ?_))
      | ((with_reducible refine (?_ : AllLe _ _)); first | (first | exact AllLe.refl _ | (repeat' (first | exact trivial | apply Le.aggs | apply Le.tups | apply Le.fns | exact Le.refl _ | refine ⟨?_, ?_⟩))))
      | ((with_reducible refine (?_ : Sc _ (AllRen _ _ _))); refine Sc.of ?_; first | (repeat' (first | exact trivial | apply Le.aggs | apply Le.tups | apply Le.fns | exact Le.refl _ | refine ⟨?_, ?_⟩)))
      | ((with_reducible refine (?_ : (List.all _ _) = true)); rfl)
      | ((with_reducible refine (?_ : (and _ _) = true)); rfl)
      | ((with_reducible refine (?_ : List.Nodup _)); exact nodupB_spec rfl)
      | ((with_reducible refine (?_ : @Eq Nat _ _)); rfl)
      | ((with_reducible refine (?_ : LeOks _ _ _)); first | exact trivial | exact ⟨.refl _, trivial⟩ | exact ⟨.refl _, .refl _, trivial⟩)
      | ((fail_if_success with_reducible refine Stop.go ?_); (first | with_reducible refine And.intro ?_ ?_ | with_reducible refine Cut.go ?_ | (with_reducible (refine impI ?_; intro _)) | (with_reducible refine (?_ : footOK _ _ = true); kernel_rfl) | ((with_reducible refine propI ?_); conv => whnf))))
    all_goals try (exact .of (Nat.le_of_ble_eq_true rfl))
    all_goals try (rename_i q; have q := of_decide_eq_true q; have b0 := exS_bd T i hi; have b1 := exS_bd T (i + 1) (by omega); have e : exS t x (i + 1) = exS t x i + (t.extras.getD i ext0).am * x.ex.getD i 0 := by rw [Int.mul_comm]; rfl
                   first | exact .of ⟨by omega, by omega⟩ | exact .of (show -9223372036854775808 ≤ (t.extras.getD i ext0).am * x.ex.getD i 0 ∧ (t.extras.getD i ext0).am * x.ex.getD i 0 ≤ 9223372036854775807 from ⟨by omega, by omega⟩) | exact .of (show -9223372036854775808 ≤ exS t x i + (t.extras.getD i ext0).am * x.ex.getD i 0 ∧ exS t x i + (t.extras.getD i ext0).am * x.ex.getD i 0 ≤ 9223372036854775807 from ⟨by omega, by omega⟩) | exact ⟨i + 1, by show i + 1 ≤ _; omega, by show x.ex.length - (i + 1) < x.ex.length - i; omega, .le ⟨rfl, ⟨.refl _, .refl _, .refl _, le_box4 e.symm, trivial⟩, ⟨.refl _, .refl _, .refl _, .refl _, .refl _, trivial⟩⟩⟩)
    all_goals replace hi : i = x.ex.length := by (have hi2 : i ≤ x.ex.length := hi); (have q1 : decide ((i : Int) < (x.ex.length : Int)) = false := by assumption); (have q := of_decide_eq_false q1); omega
    all_goals subst hi
    all_goals have b0 := exS_bd T x.ex.length (Nat.le_refl _)
    · exact .of (show -9223372036854775808 ≤ (segR t x 0).st + (accP (ptX t x) x.sg.length).tdiv t.unit * t.step ∧ (segR t x 0).st + (accP (ptX t x) x.sg.length).tdiv t.unit * t.step ≤ 9223372036854775807 from ⟨by omega, by omega⟩)
    · exact .of (show -9223372036854775808 ≤ (segR t x 0).st + (accP (ptX t x) x.sg.length).tdiv t.unit * t.step + exS t x x.ex.length ∧ (segR t x 0).st + (accP (ptX t x) x.sg.length).tdiv t.unit * t.step + exS t x x.ex.length ≤ 9223372036854775807 from ⟨by omega, by omega⟩)
    · rename_i q2; have q2 : 1000000000 < (segR t x 0).st + (accP (ptX t x) x.sg.length).tdiv t.unit * t.step + exS t x x.ex.length := of_decide_eq_true q2
      have e := fare_big (f := ptX t x) hn (by rw [TQ]; exact q2); have z := fun n => (fareZ_e (n := n) e (by decide)).symm
      exact .mk [] [] _ rfl (.le (.tups ⟨⟨trivial, .aggs ⟨⟨⟨⟨trivial, .intI (z _)⟩, .intI (z _)⟩, .intI (z _)⟩, .intI (z _)⟩⟩, .intI e.symm⟩)) trivial rfl
    · rename_i q2; have q2 : ¬ 1000000000 < (segR t x 0).st + (accP (ptX t x) x.sg.length).tdiv t.unit * t.step + exS t x x.ex.length := of_decide_eq_false q2
      have e := fare_fit (f := ptX t x) hn (by rw [TQ]; exact q2); have z := fun n => fareZ_0 (n := n) e
      exact .mk [] [] _ rfl (.le (.tups ⟨⟨trivial, .aggs ⟨⟨⟨⟨trivial, .intI (by rw [z, m.2])⟩, .intI (by rw [z, m.1])⟩, .intI (by rw [z])⟩, .intI (by rw [z, TQ])⟩⟩, .intI e.symm⟩)) trivial rfl
set_option maxHeartbeats 400000 in
theorem c108b (t : Trf) (x : Trp) (hs : Side (TOk t ∧ XOk x)) (hr : rideE t x = 0) : Pure (Xc W0 G) 108 [trfA t, trpA x, .bool true] (.tup 2 (tbl [fareA t x (ptB t x), .int .i64 (fareE t x (ptB t x))])) := by
  have hs0 := hs
  have hs := hs.get
  have tk := hs.1
  have hr0 := hr
  obtain ⟨T, hseg⟩ := ride_0 hr
  have l60 := T.len
  have l1 := T.pos
  have sb := segN_bd (hseg 0 l1)
  have u := trf_unit T.trf
  have st := (seg_rule T.trf (hseg 0 l1)).st
  have hf : ∀ k, k < x.sg.length → 0 ≤ ptB t x k ∧ ptB t x k ≤ 136000000000 := fun k hk => ptB_bd T hk (hseg k hk)
  have d := drv_bd T hf
  refine mut_of' hX (show FnIs (Xc W0 G) 108 Tryz.f108 (codeOf Tryz.f108) from ⟨by kernel_rfl, by kernel_rfl, by kernel_rfl, by kernel_rfl⟩) rfl ?_
  repeat' (first
    | ((with_reducible refine (?_ : Alt _ _)); first | (with_reducible apply callAlt (c41 hX t x hs0 hr0)) | (with_reducible apply callAlt (c110b hX t x hs0 hr0)) | (with_reducible refine Alt.one ?_))
    | ((with_reducible refine (?_ : AllLe _ _)); first | (first | exact AllLe.refl _ | (repeat' (first | exact trivial | apply Le.aggs | apply Le.tups | apply Le.fns | exact Le.refl _ | refine ⟨?_, ?_⟩))))
    | ((with_reducible refine (?_ : Sc _ (AllRen _ _ _))); refine Sc.of ?_; first | (repeat' (first | exact trivial | apply Le.aggs | apply Le.tups | apply Le.fns | exact Le.refl _ | refine ⟨?_, ?_⟩)))
    | ((with_reducible refine (?_ : (List.all _ _) = true)); rfl)
    | ((with_reducible refine (?_ : (and _ _) = true)); rfl)
    | ((with_reducible refine (?_ : List.Nodup _)); exact nodupB_spec rfl)
    | ((with_reducible refine (?_ : @Eq Nat _ _)); rfl)
    | ((with_reducible refine (?_ : LeOks _ _ _)); first | exact trivial | exact ⟨.refl _, trivial⟩ | exact ⟨.refl _, .refl _, trivial⟩)
    | ((fail_if_success with_reducible refine Stop.go ?_); (first | with_reducible refine And.intro ?_ ?_ | with_reducible refine Cut.go ?_ | (with_reducible (refine impI ?_; intro _)) | (with_reducible refine (?_ : footOK _ _ = true); kernel_rfl) | ((with_reducible refine propI ?_); conv => whnf))))
  all_goals try (exact .of (Nat.le_of_ble_eq_true rfl))
  all_goals try (first | exact .of ⟨by omega, by omega⟩ | exact .of ⟨sb.1, sb.2.1⟩)
  refine ⟨Nat, fun i => ([(3, .ptr 0 0), (4, .ptr 1 0), (6, .ptr 2 0), (10, .ptr 3 0), (11, rowF (ptB t x) x.sg.length), (12, .int .i64 (accP (ptB t x) i)), (13, .int .i64 ((i : Nat)))], [.box (trfC t), .box (trpC x), .box [.int .i64 0, .int .i64 0, .int .i64 0, .int .i64 0], .box [.int .i64 (segR t x 0).st, .int .i64 0, .int .i64 0, .int .i64 0]]), fun i => i ≤ x.sg.length, fun i => x.sg.length - i, ⟨0, Nat.zero_le _, .le ⟨rfl, ⟨.refl _, .refl _, .refl _, .refl _, trivial⟩, ⟨.refl _, .refl _, .refl _, .refl _, .refl _, .refl _, .refl _, trivial⟩⟩⟩, fun i hi => ?_⟩
  replace hi : i ≤ x.sg.length := hi
  repeat' (first
    | ((with_reducible refine (?_ : Alt _ _)); first | fail | (with_reducible refine Alt.one ?_))
    | ((with_reducible refine (?_ : AllLe _ _)); first | (first | exact AllLe.refl _ | (repeat' (first | exact trivial | apply Le.aggs | apply Le.tups | apply Le.fns | exact Le.refl _ | refine ⟨?_, ?_⟩))))
    | ((with_reducible refine (?_ : Sc _ (AllRen _ _ _))); refine Sc.of ?_; first | (repeat' (first | exact trivial | apply Le.aggs | apply Le.tups | apply Le.fns | exact Le.refl _ | refine ⟨?_, ?_⟩)))
    | ((with_reducible refine (?_ : (List.all _ _) = true)); rfl)
    | ((with_reducible refine (?_ : (and _ _) = true)); rfl)
    | ((with_reducible refine (?_ : List.Nodup _)); exact nodupB_spec rfl)
    | ((with_reducible refine (?_ : @Eq Nat _ _)); rfl)
    | ((with_reducible refine (?_ : LeOks _ _ _)); first | exact trivial | exact ⟨.refl _, trivial⟩ | exact ⟨.refl _, .refl _, trivial⟩)
    | ((fail_if_success with_reducible refine Stop.go ?_); (first | with_reducible refine And.intro ?_ ?_ | with_reducible refine Cut.go ?_ | (with_reducible (refine impI ?_; intro _)) | (with_reducible refine (?_ : footOK _ _ = true); kernel_rfl) | ((with_reducible refine propI ?_); conv => whnf))))
  all_goals try (exact .of (Nat.le_of_ble_eq_true rfl))
  all_goals try (rename_i q; have q := of_decide_eq_true q; have a0 := accP_bd hf i hi; have a1 := accP_bd hf (i + 1) (by omega); have e : accP (ptB t x) (i + 1) = accP (ptB t x) i + (ptB t x) i := rfl; first | exact .of ⟨by omega, by omega⟩ | exact .of (show -9223372036854775808 ≤ accP (ptB t x) i + (ptB t x) i ∧ accP (ptB t x) i + (ptB t x) i ≤ 9223372036854775807 from ⟨by omega, by omega⟩) | exact ⟨i + 1, by show i + 1 ≤ _; omega, by show x.sg.length - (i + 1) < x.sg.length - i; omega, .le ⟨rfl, ⟨.refl _, .refl _, .refl _, .refl _, trivial⟩, ⟨.refl _, .refl _, .refl _, .refl _, .refl _, .refl _, .refl _, trivial⟩⟩⟩)
  all_goals replace hi : i = x.sg.length := by (have hi2 : i ≤ x.sg.length := hi); (have q1 : decide ((i : Int) < (x.sg.length : Int)) = false := by assumption); (have q := of_decide_eq_false q1); omega
  all_goals subst hi
  · exact .of (show t.unit ≠ 0 by omega)
  · exact .of (show -9223372036854775808 ≤ (accP (ptB t x) x.sg.length).tdiv t.unit ∧ (accP (ptB t x) x.sg.length).tdiv t.unit ≤ 9223372036854775807 from ⟨by omega, by omega⟩)
  · exact .of (show -9223372036854775808 ≤ (accP (ptB t x) x.sg.length).tdiv t.unit * t.step ∧ (accP (ptB t x) x.sg.length).tdiv t.unit * t.step ≤ 9223372036854775807 from ⟨by omega, by omega⟩)
  · have hx : x.fx = true := by assumption
    refine ⟨Nat, fun i => ([(3, .ptr 0 0), (4, .ptr 1 0), (6, .ptr 2 0), (10, .ptr 3 0), (14, .int .i64 (lastF t x i)), (15, .int .i64 ((i : Nat)))], [.box (trfC t), .box (trpC x), .box [.int .i64 0, .int .i64 0, .int .i64 0, .int .i64 0], .box [.int .i64 (segR t x 0).st, .int .i64 ((accP (ptB t x) x.sg.length).tdiv t.unit * t.step), .int .i64 0, .int .i64 0]]), fun i => i ≤ t.fixed.length, fun i => t.fixed.length - i, ⟨0, Nat.zero_le _, .le ⟨rfl, ⟨.refl _, .refl _, .refl _, .refl _, trivial⟩, ⟨.refl _, .refl _, .refl _, .refl _, .refl _, .refl _, trivial⟩⟩⟩, fun i hi => ?_⟩
    replace hi : i ≤ t.fixed.length := hi
    repeat' (first
      | ((with_reducible refine (?_ : Alt _ _)); first | fail | (with_reducible refine Alt.one ?_))
      | ((with_reducible refine (?_ : AllLe _ _)); first | (first | exact AllLe.refl _ | (repeat' (first | exact trivial | apply Le.aggs | apply Le.tups | apply Le.fns | exact Le.refl _ | refine ⟨?_, ?_⟩))))
      | ((with_reducible refine (?_ : Sc _ (AllRen _ _ _))); refine Sc.of ?_; first | (repeat' (first | exact trivial | apply Le.aggs | apply Le.tups | apply Le.fns | exact Le.refl _ | refine ⟨?_, ?_⟩)))
      | ((with_reducible refine (?_ : (List.all _ _) = true)); rfl)
      | ((with_reducible refine (?_ : (and _ _) = true)); rfl)
      | ((with_reducible refine (?_ : List.Nodup _)); exact nodupB_spec rfl)
      | ((with_reducible refine (?_ : @Eq Nat _ _)); rfl)
      | ((with_reducible refine (?_ : LeOks _ _ _)); first | exact trivial | exact ⟨.refl _, trivial⟩ | exact ⟨.refl _, .refl _, trivial⟩)
      | ((fail_if_success with_reducible refine Stop.go ?_); (first | with_reducible refine And.intro ?_ ?_ | with_reducible refine Cut.go ?_ | (with_reducible (refine impI ?_; intro _)) | (with_reducible refine (?_ : footOK _ _ = true); kernel_rfl) | ((with_reducible refine propI ?_); conv => whnf))))
    all_goals try (exact .of (Nat.le_of_ble_eq_true rfl))
    all_goals have p0 : 0 < x.sg.length := l1
    all_goals have fl := fixed_len T.trf
    all_goals have zl : (((x.sg.length : Nat) : Int) - 1).toNat = x.sg.length - 1 := by omega
    all_goals try (have q1 : decide ((i : Int) < (t.fixed.length : Int)) = true := by assumption
                   have q := of_decide_eq_true q1
                   first | exact .of ⟨by omega, by omega⟩ | exact Sc.of (show -9223372036854775808 ≤ ((x.sg.length : Nat) : Int) - 1 ∧ ((x.sg.length : Nat) : Int) - 1 ≤ 9223372036854775807 from ⟨by omega, by omega⟩))
    · rename_i q1 q; have q1 := of_decide_eq_true q1
      rw [zl] at q
      have e : lastF t x (i + 1) = (i : Int) := by show (bif fixP t x i then (i : Int) else lastF t x i) = _; rw [show fixP t x i = true from q]; rfl
      exact ⟨i + 1, by show i + 1 ≤ _; omega, by show t.fixed.length - (i + 1) < t.fixed.length - i; omega, .le ⟨rfl, ⟨.refl _, .refl _, .refl _, .refl _, trivial⟩, ⟨.refl _, .refl _, .refl _, .refl _, .intI e.symm, .refl _, trivial⟩⟩⟩
    · rename_i q1 q; have q1 := of_decide_eq_true q1
      rw [zl] at q
      have e : lastF t x (i + 1) = lastF t x i := by show (bif fixP t x i then (i : Int) else lastF t x i) = _; rw [show fixP t x i = false from q]; rfl
      exact ⟨i + 1, by show i + 1 ≤ _; omega, by show t.fixed.length - (i + 1) < t.fixed.length - i; omega, .le ⟨rfl, ⟨.refl _, .refl _, .refl _, .refl _, trivial⟩, ⟨.refl _, .refl _, .refl _, .refl _, .intI e.symm, .refl _, trivial⟩⟩⟩
    all_goals replace hi : i = t.fixed.length := by (have hi2 : i ≤ t.fixed.length := hi); (have q1 : decide ((i : Int) < (t.fixed.length : Int)) = false := by assumption); (have q := of_decide_eq_false q1); omega
    all_goals subst hi
    all_goals have le := lastF_eq (x := x) T.trf
    all_goals have fb := fixI_bd t x
    · rename_i q; have q := of_decide_eq_true q; rw [le] at q
      have e := fare_none (f := ptB t x) hx q; have z := fun n => (fareZ_e (n := n) e (by decide)).symm
      exact .mk [] [] _ rfl (.le (.tups ⟨⟨trivial, .aggs ⟨⟨⟨⟨trivial, .intI (z _)⟩, .intI (z _)⟩, .intI (z _)⟩, .intI (z _)⟩⟩, .intI e.symm⟩)) trivial rfl
    · rename_i q; have q := of_decide_eq_false q; exact .of ⟨by omega, by omega⟩
    · rename_i q; have q := of_decide_eq_false q; rw [le] at q
      have m := drv_fx (t := t) (f := ptB t x) hx
      have hn : x.fx = true → ¬ fixI t x < 0 := fun _ => q
      have fa := (fxd_ok0 T.trf (k := (fixI t x).toNat) (by omega)).1
      have A0 : (0 : Int) ≤ 0 ∧ (0 : Int) ≤ 100000 := ⟨by decide, by decide⟩
      have TQ : totQ t x (ptB t x) = 0 + (t.fixed.getD (fixI t x).toNat fxd0).am + exS t x x.ex.length := by unfold totQ; rw [m.1, m.2]
      rw [le]
      have el := T.exl; have e6 := ext_len T.trf
      refine ⟨Nat, fun i => ([(3, .ptr 0 0), (4, .ptr 1 0), (6, .ptr 2 0), (10, .ptr 3 0), (16, .int .i64 ((i : Nat)))], [.box (trfC t), .box (trpC x), .box [.int .i64 0, .int .i64 0, .int .i64 0, .int .i64 0], .box [.int .i64 (0), .int .i64 ((t.fixed.getD (fixI t x).toNat fxd0).am), .int .i64 (exS t x i), .int .i64 0]]), fun i => i ≤ x.ex.length, fun i => x.ex.length - i, ⟨0, Nat.zero_le _, .le ⟨rfl, ⟨.refl _, .refl _, .refl _, .refl _, trivial⟩, ⟨.refl _, .refl _, .refl _, .refl _, .refl _, trivial⟩⟩⟩, fun i hi => ?_⟩
      replace hi : i ≤ x.ex.length := hi
      repeat' (first
        | ((with_reducible refine (?_ : Alt _ _)); first | fail | (with_reducible refine Alt.one ?_))
        | ((with_reducible refine (?_ : AllLe _ _)); first | (first | exact AllLe.refl _ | (repeat' (first | exact trivial | apply Le.aggs | apply Le.tups | apply Le.fns | exact Le.refl _ | refine ⟨?_, ?_⟩))))
        | ((with_reducible refine (?_ : Sc _ (AllRen _ _ _))); refine Sc.of ?_; first | (repeat' (first | exact trivial | apply Le.aggs | apply Le.tups | apply Le.fns | exact Le.refl _ | refine ⟨?_, ?_⟩)))
        | ((with_reducible refine (?_ : (List.all _ _) = true)); rfl)
        | ((with_reducible refine (?_ : (and _ _) = true)); rfl)
        | ((with_reducible refine (?_ : List.Nodup _)); exact nodupB_spec rfl)
        | ((with_reducible refine (?_ : @Eq Nat _ _)); rfl)
        | ((with_reducible refine (?_ : LeOks _ _ _)); first | exact trivial | exact ⟨.refl _, trivial⟩ | exact ⟨.refl _, .refl _, trivial⟩)
        | ((fail_if_success with_reducible refine Stop.go ?_); (first | with_reducible refine And.intro ?_ ?_ | with_reducible refine Cut.go ?_ | (with_reducible (refine impI ?_; intro _)) | (with_reducible refine (?_ : footOK _ _ = true); kernel_rfl) | ((with_reducible refine propI ?_); conv => whnf))))
      all_goals try (exact .of (Nat.le_of_ble_eq_true rfl))
      all_goals try (rename_i q; have q := of_decide_eq_true q; have b0 := exS_bd T i hi; have b1 := exS_bd T (i + 1) (by omega); have e : exS t x (i + 1) = exS t x i + (t.extras.getD i ext0).am * x.ex.getD i 0 := by rw [Int.mul_comm]; rfl
                     first | exact .of ⟨by omega, by omega⟩ | exact .of (show -9223372036854775808 ≤ (t.extras.getD i ext0).am * x.ex.getD i 0 ∧ (t.extras.getD i ext0).am * x.ex.getD i 0 ≤ 9223372036854775807 from ⟨by omega, by omega⟩) | exact .of (show -9223372036854775808 ≤ exS t x i + (t.extras.getD i ext0).am * x.ex.getD i 0 ∧ exS t x i + (t.extras.getD i ext0).am * x.ex.getD i 0 ≤ 9223372036854775807 from ⟨by omega, by omega⟩) | exact ⟨i + 1, by show i + 1 ≤ _; omega, by show x.ex.length - (i + 1) < x.ex.length - i; omega, .le ⟨rfl, ⟨.refl _, .refl _, .refl _, le_box4 e.symm, trivial⟩, ⟨.refl _, .refl _, .refl _, .refl _, .refl _, trivial⟩⟩⟩)
      all_goals replace hi : i = x.ex.length := by (have hi2 : i ≤ x.ex.length := hi); (have q1 : decide ((i : Int) < (x.ex.length : Int)) = false := by assumption); (have q := of_decide_eq_false q1); omega
      all_goals subst hi
      all_goals have b0 := exS_bd T x.ex.length (Nat.le_refl _)
      · exact .of (show -9223372036854775808 ≤ 0 + (t.fixed.getD (fixI t x).toNat fxd0).am ∧ 0 + (t.fixed.getD (fixI t x).toNat fxd0).am ≤ 9223372036854775807 from ⟨by omega, by omega⟩)
      · exact .of (show -9223372036854775808 ≤ 0 + (t.fixed.getD (fixI t x).toNat fxd0).am + exS t x x.ex.length ∧ 0 + (t.fixed.getD (fixI t x).toNat fxd0).am + exS t x x.ex.length ≤ 9223372036854775807 from ⟨by omega, by omega⟩)
      · rename_i q2; have q2 : 1000000000 < 0 + (t.fixed.getD (fixI t x).toNat fxd0).am + exS t x x.ex.length := of_decide_eq_true q2
        have e := fare_big (f := ptB t x) hn (by rw [TQ]; exact q2); have z := fun n => (fareZ_e (n := n) e (by decide)).symm
        exact .mk [] [] _ rfl (.le (.tups ⟨⟨trivial, .aggs ⟨⟨⟨⟨trivial, .intI (z _)⟩, .intI (z _)⟩, .intI (z _)⟩, .intI (z _)⟩⟩, .intI e.symm⟩)) trivial rfl
      · rename_i q2; have q2 : ¬ 1000000000 < 0 + (t.fixed.getD (fixI t x).toNat fxd0).am + exS t x x.ex.length := of_decide_eq_false q2
        have e := fare_fit (f := ptB t x) hn (by rw [TQ]; exact q2); have z := fun n => fareZ_0 (n := n) e
        exact .mk [] [] _ rfl (.le (.tups ⟨⟨trivial, .aggs ⟨⟨⟨⟨trivial, .intI (by rw [z, m.2])⟩, .intI (by rw [z, m.1])⟩, .intI (by rw [z])⟩, .intI (by rw [z, TQ])⟩⟩, .intI e.symm⟩)) trivial rfl
  · have hx : x.fx = false := by assumption
    have m := drv_me (t := t) (f := ptB t x) hx
    have hn : x.fx = true → ¬ fixI t x < 0 := fun h => by rw [hx] at h; cases h
    have A0 := st; have D0 := d.2
    have TQ : totQ t x (ptB t x) = (segR t x 0).st + (accP (ptB t x) x.sg.length).tdiv t.unit * t.step + exS t x x.ex.length := by unfold totQ; rw [m.1, m.2]
    have el := T.exl; have e6 := ext_len T.trf
    refine ⟨Nat, fun i => ([(3, .ptr 0 0), (4, .ptr 1 0), (6, .ptr 2 0), (10, .ptr 3 0), (16, .int .i64 ((i : Nat)))], [.box (trfC t), .box (trpC x), .box [.int .i64 0, .int .i64 0, .int .i64 0, .int .i64 0], .box [.int .i64 ((segR t x 0).st), .int .i64 ((accP (ptB t x) x.sg.length).tdiv t.unit * t.step), .int .i64 (exS t x i), .int .i64 0]]), fun i => i ≤ x.ex.length, fun i => x.ex.length - i, ⟨0, Nat.zero_le _, .le ⟨rfl, ⟨.refl _, .refl _, .refl _, .refl _, trivial⟩, ⟨.refl _, .refl _, .refl _, .refl _, .refl _, trivial⟩⟩⟩, fun i hi => ?_⟩
    replace hi : i ≤ x.ex.length := hi
    repeat' (first
      | ((with_reducible refine (?_ : Alt _ _)); first | fail | (with_reducible refine Alt.one ?_))
      | ((with_reducible refine (?_ : AllLe _ _)); first | (first | exact AllLe.refl _ | (repeat' (first | exact trivial | apply Le.aggs | apply Le.tups | apply Le.fns | exact Le.refl _ | refine ⟨?_, ?_⟩))))
      | ((with_reducible refine (?_ : Sc _ (AllRen _ _ _))); refine Sc.of ?_; first | (repeat' (first | exact trivial | apply Le.aggs | apply Le.tups | apply Le.fns | exact Le.refl _ | refine ⟨?_, ?_⟩)))
      | ((with_reducible refine (?_ : (List.all _ _) = true)); rfl)
      | ((with_reducible refine (?_ : (and _ _) = true)); rfl)
      | ((with_reducible refine (?_ : List.Nodup _)); exact nodupB_spec rfl)
      | ((with_reducible refine (?_ : @Eq Nat _ _)); rfl)
      | ((with_reducible refine (?_ : LeOks _ _ _)); first | exact trivial | exact ⟨.refl _, trivial⟩ | exact ⟨.refl _, .refl _, trivial⟩)
      | ((fail_if_success with_reducible refine Stop.go ?_); (first | with_reducible refine And.intro ?_ ?_ | with_reducible refine Cut.go ?_ | (with_reducible (refine impI ?_; intro _)) | (with_reducible refine (?_ : footOK _ _ = true); kernel_rfl) | ((with_reducible refine propI ?_); conv => whnf))))
    all_goals try (exact .of (Nat.le_of_ble_eq_true rfl))
    all_goals try (rename_i q; have q := of_decide_eq_true q; have b0 := exS_bd T i hi; have b1 := exS_bd T (i + 1) (by omega); have e : exS t x (i + 1) = exS t x i + (t.extras.getD i ext0).am * x.ex.getD i 0 := by rw [Int.mul_comm]; rfl
                   first | exact .of ⟨by omega, by omega⟩ | exact .of (show -9223372036854775808 ≤ (t.extras.getD i ext0).am * x.ex.getD i 0 ∧ (t.extras.getD i ext0).am * x.ex.getD i 0 ≤ 9223372036854775807 from ⟨by omega, by omega⟩) | exact .of (show -9223372036854775808 ≤ exS t x i + (t.extras.getD i ext0).am * x.ex.getD i 0 ∧ exS t x i + (t.extras.getD i ext0).am * x.ex.getD i 0 ≤ 9223372036854775807 from ⟨by omega, by omega⟩) | exact ⟨i + 1, by show i + 1 ≤ _; omega, by show x.ex.length - (i + 1) < x.ex.length - i; omega, .le ⟨rfl, ⟨.refl _, .refl _, .refl _, le_box4 e.symm, trivial⟩, ⟨.refl _, .refl _, .refl _, .refl _, .refl _, trivial⟩⟩⟩)
    all_goals replace hi : i = x.ex.length := by (have hi2 : i ≤ x.ex.length := hi); (have q1 : decide ((i : Int) < (x.ex.length : Int)) = false := by assumption); (have q := of_decide_eq_false q1); omega
    all_goals subst hi
    all_goals have b0 := exS_bd T x.ex.length (Nat.le_refl _)
    · exact .of (show -9223372036854775808 ≤ (segR t x 0).st + (accP (ptB t x) x.sg.length).tdiv t.unit * t.step ∧ (segR t x 0).st + (accP (ptB t x) x.sg.length).tdiv t.unit * t.step ≤ 9223372036854775807 from ⟨by omega, by omega⟩)
    · exact .of (show -9223372036854775808 ≤ (segR t x 0).st + (accP (ptB t x) x.sg.length).tdiv t.unit * t.step + exS t x x.ex.length ∧ (segR t x 0).st + (accP (ptB t x) x.sg.length).tdiv t.unit * t.step + exS t x x.ex.length ≤ 9223372036854775807 from ⟨by omega, by omega⟩)
    · rename_i q2; have q2 : 1000000000 < (segR t x 0).st + (accP (ptB t x) x.sg.length).tdiv t.unit * t.step + exS t x x.ex.length := of_decide_eq_true q2
      have e := fare_big (f := ptB t x) hn (by rw [TQ]; exact q2); have z := fun n => (fareZ_e (n := n) e (by decide)).symm
      exact .mk [] [] _ rfl (.le (.tups ⟨⟨trivial, .aggs ⟨⟨⟨⟨trivial, .intI (z _)⟩, .intI (z _)⟩, .intI (z _)⟩, .intI (z _)⟩⟩, .intI e.symm⟩)) trivial rfl
    · rename_i q2; have q2 : ¬ 1000000000 < (segR t x 0).st + (accP (ptB t x) x.sg.length).tdiv t.unit * t.step + exS t x x.ex.length := of_decide_eq_false q2
      have e := fare_fit (f := ptB t x) hn (by rw [TQ]; exact q2); have z := fun n => fareZ_0 (n := n) e
      exact .mk [] [] _ rfl (.le (.tups ⟨⟨trivial, .aggs ⟨⟨⟨⟨trivial, .intI (by rw [z, m.2])⟩, .intI (by rw [z, m.1])⟩, .intI (by rw [z])⟩, .intI (by rw [z, TQ])⟩⟩, .intI e.symm⟩)) trivial rfl
end
end Go.Fx
