/-
  The body of MeterTwoWays.
-/
import Derived.Test.YtfdegaojblmdiaaGreatDoorGj
import Derived.Test.YtfdegaojblmdiaaGreatDoorGu
import Derived.Test.YtfdegaojblmdiaaGreatDoorGm

set_option linter.all false

/-
  The body of MeterTwoWays.
-/
namespace Go.Fx
open Go.Proofs Go.RowKit
theorem two_g {t : Trf} {l : Log} (h : (bif !fewB t then true else !briefB l) = false) : TOk t ∧ l.ev.length ≤ 202 := by
  cases hf : fewB t
  · rw [hf] at h; cases h
  cases hx : briefB l
  · rw [hf, hx] at h; cases h
  · exact ⟨(few_ok hf).1, brief_len hx⟩
section
variable {W0 : World} (hX : (Xc W0 Gt).Good) (haw : Pure (Xc W0 Gt) 12 [] (.bool true))
include hX haw
omit haw in
theorem c26t (t : Trf) (l : Log) (hs : Side (TOk t)) (hr : rnE t l = 0) (j : Nat) (hj : Side (j < (mcN t l l.ev.length).tr.length)) : Pure (Xc W0 Gt) 26 [trfA t, .int .i64 l.c, cntS (ouN j (mcN t l l.ev.length).pc t.rules.length)] (.tup 2 (tbl [.int .i64 ((mcN t l l.ev.length).tr.getD j mtp0).sp, .int .i64 0])) := by
  have g := rn_gd hs.get hr
  have iv := (mcN_iv g.1 g.2 l.ev.length (Nat.le_refl _)).1
  have mo := mcN_ok g.1 l.ev.length (Nat.le_refl _)
  have q1 := iv.qq; have q2 := iv.tt; have m1 := mo.pu; have m2 := mo.si; have m3 := mo.tk
  have el := (gd_head g.1.al).2.2.2.1
  have rl := rules_len g.1.trf
  have ol := ou_len (j := (j : Int)) (q := (mcN t l l.ev.length).pc) t.rules.length
  have w := c26 hX t l.c (ouN j (mcN t l l.ev.length).pc t.rules.length) hs (Side.mk (by omega))
  have st := ou_step (j := (j : Int)) g.1 iv.pk (by omega) (by omega)
  have tr := (iv.tr j hj.get).sp
  rw [st.1, st.2, ← tr] at w
  exact w
set_option maxHeartbeats 2000000 in
theorem c5e (t : Trf) (l : Log) (hr : rnE t l ≠ 0) : Pure (Xc W0 Gt) 5 [trfA t, lgA l] (.bool true) := by
  have hx : (rnE t l != 0) = false → False := fun q => hr (bne_eq_false_iff_eq.1 q)
  refine mut_of' hX (show FnIs (Xc W0 Gt) 5 Tryz.f5 (codeOf Tryz.f5) from ⟨by kernel_rfl, by kernel_rfl, by kernel_rfl, by kernel_rfl⟩) rfl ?_
  repeat' (first
    | ((with_reducible refine (?_ : Alt _ _)); first | (with_reducible apply callAlt (haw)) | (with_reducible apply callAlt (c13 hX t)) | (with_reducible apply callAlt (c18 hX t ?_)) | (with_reducible apply callAlt (c14 hX l)) | (with_reducible apply callAlt (c16 hX l ?_)) | (with_reducible apply callAlt (c15 hX _ _ _)) | (with_reducible apply callAlt (c24e hX t l ?_ hr)) | (with_reducible refine Alt.one ?_))
    | ((with_reducible refine (?_ : AllLe _ _)); first | (first | exact AllLe.refl _ | (repeat' (first | exact trivial | apply Le.aggs | apply Le.tups | apply Le.fns | exact Le.refl _ | refine ⟨?_, ?_⟩))))
    | ((with_reducible refine (?_ : Sc _ (AllRen _ _ _))); refine Sc.of ?_; first | (repeat' (first | exact trivial | apply Le.aggs | apply Le.tups | apply Le.fns | exact Le.refl _ | refine ⟨?_, ?_⟩)))
    | ((with_reducible refine (?_ : (List.all _ _) = true)); rfl)
    | ((with_reducible refine (?_ : (and _ _) = true)); rfl)
    | ((with_reducible refine (?_ : List.Nodup _)); exact nodupB_spec rfl)
    | ((with_reducible refine (?_ : @Eq Nat _ _)); rfl)
    | ((with_reducible refine (?_ : @Eq (List (Option HObj)) _ _)); kernel_rfl)
    | ((with_reducible refine (?_ : LeOks _ _ _)); first | exact trivial | exact ⟨.refl _, trivial⟩ | exact ⟨.refl _, .refl _, trivial⟩)
    | ((fail_if_success with_reducible refine Stop.go ?_); (first | exact (hx ‹_›).elim | with_reducible refine And.intro ?_ ?_ | with_reducible refine Cut.go ?_ | (with_reducible (refine impI ?_; intro _)) | (with_reducible refine (?_ : footOK _ _ = true); kernel_rfl) | ((with_reducible refine propI ?_); conv => whnf))))
  all_goals try (exact .of (Nat.le_of_ble_eq_true rfl))
  all_goals try (rename_i h; first | exact absurd h (by decide) | (cases h; done))
  all_goals try (exact .of (by decide))
  all_goals try (exact .mk [] [] _ rfl (.le (.refl _)) trivial rfl)
  all_goals have gg := two_g ‹(bif !fewB t then true else !briefB l) = false›
  all_goals have el := gg.2
  all_goals try (exact Side.mk gg.1)
  all_goals try (exact Side.mk (by omega))
  all_goals try (exact .of ⟨by omega, by omega⟩)

set_option maxHeartbeats 2000000 in
theorem c5k (t : Trf) (l : Log) (hr : rnE t l = 0) : Pure (Xc W0 Gt) 5 [trfA t, lgA l] (.bool true) := by
  have hx0 : ((0 : Int) != 0) = true → False := fun q => by cases q
  have hx1 : TOk t → decide ((l.ev.length : Int) < ((mcN t l l.ev.length).tr.length : Int)) = true → False := fun k q => by have q := of_decide_eq_true q; have := (mcN_ok (rn_gd k hr).1 l.ev.length (Nat.le_refl _)).tr; omega
  refine mut_of' hX (show FnIs (Xc W0 Gt) 5 Tryz.f5 (codeOf Tryz.f5) from ⟨by kernel_rfl, by kernel_rfl, by kernel_rfl, by kernel_rfl⟩) rfl ?_
  repeat' (first
    | ((with_reducible refine (?_ : Alt _ _)); first | (with_reducible apply callAlt (haw)) | (with_reducible apply callAlt (c13 hX t)) | (with_reducible apply callAlt (c18 hX t ?_)) | (with_reducible apply callAlt (c14 hX l)) | (with_reducible apply callAlt (c16 hX l ?_)) | (with_reducible apply callAlt (c15 hX _ _ _)) | (with_reducible apply callAlt (c24 hX t l ?_ hr)) | (with_reducible refine Alt.one ?_))
    | ((with_reducible refine (?_ : AllLe _ _)); first | (first | exact AllLe.refl _ | (repeat' (first | exact trivial | apply Le.aggs | apply Le.tups | apply Le.fns | exact Le.refl _ | refine ⟨?_, ?_⟩))))
    | ((with_reducible refine (?_ : Sc _ (AllRen _ _ _))); refine Sc.of ?_; first | (repeat' (first | exact trivial | apply Le.aggs | apply Le.tups | apply Le.fns | exact Le.refl _ | refine ⟨?_, ?_⟩)))
    | ((with_reducible refine (?_ : (List.all _ _) = true)); rfl)
    | ((with_reducible refine (?_ : (and _ _) = true)); rfl)
    | ((with_reducible refine (?_ : List.Nodup _)); exact nodupB_spec rfl)
    | ((with_reducible refine (?_ : @Eq Nat _ _)); rfl)
    | ((with_reducible refine (?_ : @Eq (List (Option HObj)) _ _)); kernel_rfl)
    | ((with_reducible refine (?_ : LeOks _ _ _)); first | exact trivial | exact ⟨.refl _, trivial⟩ | exact ⟨.refl _, .refl _, trivial⟩)
    | ((fail_if_success with_reducible refine Stop.go ?_); (first | exact (hx0 ‹_›).elim | exact (hx1 (two_g ‹(bif !fewB t then true else !briefB l) = false›).1 ‹_›).elim | with_reducible refine And.intro ?_ ?_ | with_reducible refine Cut.go ?_ | (with_reducible (refine impI ?_; intro _)) | (with_reducible refine (?_ : footOK _ _ = true); kernel_rfl) | ((with_reducible refine propI ?_); conv => whnf))))
  all_goals try (exact .of (Nat.le_of_ble_eq_true rfl))
  all_goals try (rename_i h; first | exact absurd h (by decide) | (cases h; done))
  all_goals try (exact .of (by decide))
  all_goals try (exact .mk [] [] _ rfl (.le (.refl _)) trivial rfl)
  all_goals have gg := two_g ‹(bif !fewB t then true else !briefB l) = false›
  all_goals have el := gg.2
  all_goals try (exact Side.mk gg.1)
  all_goals try (exact Side.mk (by omega))
  all_goals try (exact .of ⟨by omega, by omega⟩)
  have g := rn_gd gg.1 hr
  have iv := (mcN_iv g.1 g.2 l.ev.length (Nat.le_refl _)).1
  have te := trf_ext g.1.trf
  have tlb := (mcN_ok g.1 l.ev.length (Nat.le_refl _)).tr
  have tu := (trf_unit g.1.trf).2
  refine ⟨Nat, fun i => ([(2, .ptr 0 0), (3, .ptr 1 0), (5, mtpS (mcN t l l.ev.length).tr), (7, .int .i64 ((i : Nat)))], [.box (trfC t), .box (logC l (evS l.ev))]), fun i => i ≤ (mcN t l l.ev.length).tr.length, fun i => (mcN t l l.ev.length).tr.length - i, ⟨0, Nat.zero_le _, .le ⟨by kernel_rfl, ⟨.refl _, .refl _, trivial⟩, ⟨.refl _, .refl _, .refl _, .refl _, trivial⟩⟩⟩, fun i hi => ?_⟩
  replace hi : i ≤ (mcN t l l.ev.length).tr.length := hi
  repeat' (first
    | ((with_reducible refine (?_ : Alt _ _)); first | (with_reducible apply callAlt (c18 hX t ?_)) | (with_reducible apply callAlt (c16 hX l ?_)) | (with_reducible apply callAlt (c25 hX t l ?_ hr i ?_)) | (with_reducible apply callAlt (c26t hX t l ?_ hr i ?_)) | (with_reducible refine Alt.one ?_))
    | ((with_reducible refine (?_ : AllLe _ _)); first | (first | exact AllLe.refl _ | (repeat' (first | exact trivial | apply Le.aggs | apply Le.tups | apply Le.fns | exact Le.refl _ | refine ⟨?_, ?_⟩))))
    | ((with_reducible refine (?_ : Sc _ (AllRen _ _ _))); refine Sc.of ?_; first | (repeat' (first | exact trivial | apply Le.aggs | apply Le.tups | apply Le.fns | exact Le.refl _ | refine ⟨?_, ?_⟩)))
    | ((with_reducible refine (?_ : (List.all _ _) = true)); rfl)
    | ((with_reducible refine (?_ : (and _ _) = true)); rfl)
    | ((with_reducible refine (?_ : List.Nodup _)); exact nodupB_spec rfl)
    | ((with_reducible refine (?_ : @Eq Nat _ _)); rfl)
    | ((with_reducible refine (?_ : @Eq (List (Option HObj)) _ _)); kernel_rfl)
    | ((with_reducible refine (?_ : LeOks _ _ _)); first | exact trivial | exact ⟨.refl _, trivial⟩ | exact ⟨.refl _, .refl _, trivial⟩)
    | ((fail_if_success with_reducible refine Stop.go ?_); (first | exact (hx0 ‹_›).elim | with_reducible refine And.intro ?_ ?_ | with_reducible refine Cut.go ?_ | (with_reducible (refine impI ?_; intro _)) | (with_reducible refine (?_ : footOK _ _ = true); kernel_rfl) | ((with_reducible refine propI ?_); conv => whnf))))
  all_goals try (exact .of (Nat.le_of_ble_eq_true rfl))
  all_goals try (exact Side.mk gg.1)
  all_goals try (exact Side.mk (by omega))
  all_goals try (exact .mk [] [] _ rfl (.le (.refl _)) trivial rfl)
  all_goals (have lt : i < (mcN t l l.ev.length).tr.length := (by have q := of_decide_eq_true ‹decide ((i : Int) < ((mcN t l l.ev.length).tr.length : Int)) = true›; omega); have T := iv.tr i lt; have ma := mxA_bd g.1.trf T.ex ((mcN t l l.ev.length).tr.getD i mtp0).ex.length (by rw [T.exl]; exact Nat.le_refl _); have xl := T.exl; have fa := T.fa; have fb := T.fb; have st := T.st; have sp0 := T.sp0; have sps : 0 < t.step → ((mcN t l l.ev.length).tr.getD i mtp0).sp * t.step ≤ 1000000000 ∧ ((mcN t l l.ev.length).tr.getD i mtp0).sp ≤ 1000000000 ∧ 0 ≤ ((mcN t l l.ev.length).tr.getD i mtp0).sp * t.step := (fun p => by rw [decide_eq_true p] at fa; replace fa : ((mcN t l l.ev.length).tr.getD i mtp0).fa = ((mcN t l l.ev.length).tr.getD i mtp0).st + mxA t ((mcN t l l.ev.length).tr.getD i mtp0).ex ((mcN t l l.ev.length).tr.getD i mtp0).ex.length + ((mcN t l l.ev.length).tr.getD i mtp0).sp * t.step := fa; have h1 : ((mcN t l l.ev.length).tr.getD i mtp0).sp * 1 ≤ ((mcN t l l.ev.length).tr.getD i mtp0).sp * t.step := Int.mul_le_mul_of_nonneg_left (by omega) sp0; omega))
  all_goals try (exact Side.mk lt)
  all_goals try (exact .of ⟨by omega, by omega⟩)
  all_goals try (exact Sc.imp fun _ => ⟨by omega, by omega⟩)
  all_goals try (exfalso; have q : decide ((t.rules.length : Int) < ((ouN (i : Int) (mcN t l l.ev.length).pc t.rules.length).length : Int)) = true := ‹(bif (0 : Int) != 0 then true else decide ((t.rules.length : Int) < ((ouN (i : Int) (mcN t l l.ev.length).pc t.rules.length).length : Int))) = true›; have q := of_decide_eq_true q; have := ou_len (j := (i : Int)) (q := (mcN t l l.ev.length).pc) t.rules.length; omega)
  all_goals try (exfalso; have q := ‹(bif (bif (0 : Int) != 0 then true else ((mcN t l l.ev.length).tr.getD i mtp0).sp != ((mcN t l l.ev.length).tr.getD (i : Int).toNat mtp0).sp) then true else (((mcN t l l.ev.length).tr.getD (i : Int).toNat mtp0).ex.length : Int) != (t.extras.length : Int)) = true›; rw [Int.toNat_natCast, T.exl] at q; simp at q; done)
  all_goals try (exfalso; have q := of_decide_eq_true ‹decide (1000000000 < ((mcN t l l.ev.length).tr.getD i mtp0).sp) = true›; have p := of_decide_eq_true ‹decide (0 < t.step) = true›; have w := sps p; omega)
  all_goals try (have p := of_decide_eq_true ‹decide (0 < t.step) = true›; have w := sps p; first | exact .of ⟨by omega, by omega⟩ | (refine Sc.of ?_; rw [Int.toNat_natCast]; exact ⟨by omega, by omega⟩))
  · have p := of_decide_eq_true ‹decide (0 < t.step) = true›
    have w := sps p
    have fd : (bif decide (0 < t.step) then ((mcN t l l.ev.length).tr.getD i mtp0).sp * t.step else 0) = ((mcN t l l.ev.length).tr.getD i mtp0).sp * t.step := by rw [decide_eq_true p]; rfl
    rw [fd] at fa
    refine ⟨Nat, fun k => ([(2, .ptr 0 0), (3, .ptr 1 0), (5, mtpS (mcN t l l.ev.length).tr), (7, .int .i64 ((i : Nat))), (12, .int .i64 (((mcN t l l.ev.length).tr.getD i mtp0).st + (bif decide (0 < t.step) then ((mcN t l l.ev.length).tr.getD i mtp0).sp * t.step else 0) + mxA t ((mcN t l l.ev.length).tr.getD i mtp0).ex (k))), (13, .int .i64 ((k : Nat)))], [.box (trfC t), .box (logC l (evS l.ev))]), fun k => k ≤ t.extras.length, fun k => t.extras.length - k, ⟨0, Nat.zero_le _, .le ⟨by kernel_rfl, ⟨.refl _, .refl _, trivial⟩, ⟨.refl _, .refl _, .refl _, .refl _, .intI (by rw [Int.toNat_natCast, fd]; simp only [mxA]; omega), .refl _, trivial⟩⟩⟩, fun k hk => ?_⟩
    replace hk : k ≤ t.extras.length := hk
    have mk := mxA_bd g.1.trf T.ex k hk
    rw [fd]
    repeat' (first
      | ((with_reducible refine (?_ : Alt _ _)); first | (with_reducible apply callAlt (c15 hX _ _ _)) | (with_reducible refine Alt.one ?_))
      | ((with_reducible refine (?_ : AllLe _ _)); first | (first | exact AllLe.refl _ | (repeat' (first | exact trivial | apply Le.aggs | apply Le.tups | apply Le.fns | exact Le.refl _ | refine ⟨?_, ?_⟩))))
      | ((with_reducible refine (?_ : Sc _ (AllRen _ _ _))); refine Sc.of ?_; first | (repeat' (first | exact trivial | apply Le.aggs | apply Le.tups | apply Le.fns | exact Le.refl _ | refine ⟨?_, ?_⟩)))
      | ((with_reducible refine (?_ : (List.all _ _) = true)); rfl)
      | ((with_reducible refine (?_ : (and _ _) = true)); rfl)
      | ((with_reducible refine (?_ : List.Nodup _)); exact nodupB_spec rfl)
      | ((with_reducible refine (?_ : @Eq Nat _ _)); rfl)
      | ((with_reducible refine (?_ : @Eq (List (Option HObj)) _ _)); kernel_rfl)
      | ((with_reducible refine (?_ : LeOks _ _ _)); first | exact trivial | exact ⟨.refl _, trivial⟩ | exact ⟨.refl _, .refl _, trivial⟩)
      | ((fail_if_success with_reducible refine Stop.go ?_); (first | with_reducible refine And.intro ?_ ?_ | with_reducible refine Cut.go ?_ | (with_reducible (refine impI ?_; intro _)) | (with_reducible refine (?_ : footOK _ _ = true); kernel_rfl) | ((with_reducible refine propI ?_); conv => whnf))))
    all_goals try (exact .of (Nat.le_of_ble_eq_true rfl))
    all_goals try (have lk : k < t.extras.length := (by have q := of_decide_eq_true ‹decide ((k : Int) < (t.extras.length : Int)) = true›; omega); have xk := T.ex k; have ak := te.2 k lk; have mo := mx_one g.1.trf T.ex lk; have mk1 := mxA_bd g.1.trf T.ex (k + 1) lk; have w1 := w.1; have w3 := w.2.2; first | exact .of ⟨by omega, by omega⟩ | (refine Sc.of ?_; rw [Int.toNat_natCast, Int.toNat_natCast]; exact ⟨by omega, by omega⟩) | exact .of (by omega))
    all_goals try (exfalso; have q := ‹(!inB _ 0 20) = true›; rw [Int.toNat_natCast, Int.toNat_natCast, inB_iff.2 (T.ex k)] at q; cases q)
    all_goals try (have lk : k < t.extras.length := (by have q := of_decide_eq_true ‹decide ((k : Int) < (t.extras.length : Int)) = true›; omega); refine Sc.of ?_; rw [Int.toNat_natCast, xl]; exact ⟨by omega, by omega⟩)
    all_goals try (exact .of ⟨by omega, by omega⟩)
    all_goals try (have lk : k < t.extras.length := (by have q := of_decide_eq_true ‹decide ((k : Int) < (t.extras.length : Int)) = true›; omega); exact ⟨k + 1, by show k + 1 ≤ _; omega, by show t.extras.length - (k + 1) < t.extras.length - k; omega, .le ⟨by kernel_rfl, ⟨.refl _, .refl _, trivial⟩, ⟨.refl _, .refl _, .refl _, .refl _, .intI (by rw [Int.toNat_natCast, Int.toNat_natCast]; simp only [mxA]; omega), .intI (by omega), trivial⟩⟩⟩)
    all_goals (have ke : k = t.extras.length := (by have q := of_decide_eq_false ‹decide ((k : Int) < (t.extras.length : Int)) = false›; omega))
    all_goals subst ke
    all_goals rw [xl] at fa
    all_goals try (exact .of ⟨by omega, by omega⟩)
    · exfalso
      have q := ‹(((mcN t l l.ev.length).tr.getD i mtp0).st + ((mcN t l l.ev.length).tr.getD i mtp0).sp * t.step + mxA t ((mcN t l l.ev.length).tr.getD i mtp0).ex t.extras.length != ((mcN t l l.ev.length).tr.getD (i : Int).toNat mtp0).fa) = true›
      rw [Int.toNat_natCast] at q
      have q := bne_iff_ne.1 q
      omega
    · exact ⟨i + 1, by show i + 1 ≤ _; omega, by show (mcN t l l.ev.length).tr.length - (i + 1) < (mcN t l l.ev.length).tr.length - i; omega, .le ⟨by kernel_rfl, ⟨.refl _, .refl _, trivial⟩, ⟨.refl _, .refl _, .refl _, .intI (by omega), trivial⟩⟩⟩
  · have p := of_decide_eq_false ‹decide (0 < t.step) = false›
    have fd : (bif decide (0 < t.step) then ((mcN t l l.ev.length).tr.getD i mtp0).sp * t.step else 0) = 0 := by rw [decide_eq_false p]; rfl
    rw [fd] at fa
    refine ⟨Nat, fun k => ([(2, .ptr 0 0), (3, .ptr 1 0), (5, mtpS (mcN t l l.ev.length).tr), (7, .int .i64 ((i : Nat))), (12, .int .i64 (((mcN t l l.ev.length).tr.getD i mtp0).st + (bif decide (0 < t.step) then ((mcN t l l.ev.length).tr.getD i mtp0).sp * t.step else 0) + mxA t ((mcN t l l.ev.length).tr.getD i mtp0).ex (k))), (13, .int .i64 ((k : Nat)))], [.box (trfC t), .box (logC l (evS l.ev))]), fun k => k ≤ t.extras.length, fun k => t.extras.length - k, ⟨0, Nat.zero_le _, .le ⟨by kernel_rfl, ⟨.refl _, .refl _, trivial⟩, ⟨.refl _, .refl _, .refl _, .refl _, .intI (by rw [Int.toNat_natCast, fd]; simp only [mxA]; omega), .refl _, trivial⟩⟩⟩, fun k hk => ?_⟩
    replace hk : k ≤ t.extras.length := hk
    have mk := mxA_bd g.1.trf T.ex k hk
    rw [fd]
    repeat' (first
      | ((with_reducible refine (?_ : Alt _ _)); first | (with_reducible apply callAlt (c15 hX _ _ _)) | (with_reducible refine Alt.one ?_))
      | ((with_reducible refine (?_ : AllLe _ _)); first | (first | exact AllLe.refl _ | (repeat' (first | exact trivial | apply Le.aggs | apply Le.tups | apply Le.fns | exact Le.refl _ | refine ⟨?_, ?_⟩))))
      | ((with_reducible refine (?_ : Sc _ (AllRen _ _ _))); refine Sc.of ?_; first | (repeat' (first | exact trivial | apply Le.aggs | apply Le.tups | apply Le.fns | exact Le.refl _ | refine ⟨?_, ?_⟩)))
      | ((with_reducible refine (?_ : (List.all _ _) = true)); rfl)
      | ((with_reducible refine (?_ : (and _ _) = true)); rfl)
      | ((with_reducible refine (?_ : List.Nodup _)); exact nodupB_spec rfl)
      | ((with_reducible refine (?_ : @Eq Nat _ _)); rfl)
      | ((with_reducible refine (?_ : @Eq (List (Option HObj)) _ _)); kernel_rfl)
      | ((with_reducible refine (?_ : LeOks _ _ _)); first | exact trivial | exact ⟨.refl _, trivial⟩ | exact ⟨.refl _, .refl _, trivial⟩)
      | ((fail_if_success with_reducible refine Stop.go ?_); (first | with_reducible refine And.intro ?_ ?_ | with_reducible refine Cut.go ?_ | (with_reducible (refine impI ?_; intro _)) | (with_reducible refine (?_ : footOK _ _ = true); kernel_rfl) | ((with_reducible refine propI ?_); conv => whnf))))
    all_goals try (exact .of (Nat.le_of_ble_eq_true rfl))
    all_goals try (have lk : k < t.extras.length := (by have q := of_decide_eq_true ‹decide ((k : Int) < (t.extras.length : Int)) = true›; omega); have xk := T.ex k; have ak := te.2 k lk; have mo := mx_one g.1.trf T.ex lk; have mk1 := mxA_bd g.1.trf T.ex (k + 1) lk; first | exact .of ⟨by omega, by omega⟩ | (refine Sc.of ?_; rw [Int.toNat_natCast, Int.toNat_natCast]; exact ⟨by omega, by omega⟩) | exact .of (by omega))
    all_goals try (exfalso; have q := ‹(!inB _ 0 20) = true›; rw [Int.toNat_natCast, Int.toNat_natCast, inB_iff.2 (T.ex k)] at q; cases q)
    all_goals try (have lk : k < t.extras.length := (by have q := of_decide_eq_true ‹decide ((k : Int) < (t.extras.length : Int)) = true›; omega); refine Sc.of ?_; rw [Int.toNat_natCast, xl]; exact ⟨by omega, by omega⟩)
    all_goals try (exact .of ⟨by omega, by omega⟩)
    all_goals try (have lk : k < t.extras.length := (by have q := of_decide_eq_true ‹decide ((k : Int) < (t.extras.length : Int)) = true›; omega); exact ⟨k + 1, by show k + 1 ≤ _; omega, by show t.extras.length - (k + 1) < t.extras.length - k; omega, .le ⟨by kernel_rfl, ⟨.refl _, .refl _, trivial⟩, ⟨.refl _, .refl _, .refl _, .refl _, .intI (by rw [Int.toNat_natCast, Int.toNat_natCast]; simp only [mxA]; omega), .intI (by omega), trivial⟩⟩⟩)
    all_goals (have ke : k = t.extras.length := (by have q := of_decide_eq_false ‹decide ((k : Int) < (t.extras.length : Int)) = false›; omega))
    all_goals subst ke
    all_goals rw [xl] at fa
    all_goals try (exact .of ⟨by omega, by omega⟩)
    · exfalso
      have q := ‹(((mcN t l l.ev.length).tr.getD i mtp0).st + 0 + mxA t ((mcN t l l.ev.length).tr.getD i mtp0).ex t.extras.length != ((mcN t l l.ev.length).tr.getD (i : Int).toNat mtp0).fa) = true›
      rw [Int.toNat_natCast] at q
      have q := bne_iff_ne.1 q
      omega
    · exact ⟨i + 1, by show i + 1 ≤ _; omega, by show (mcN t l l.ev.length).tr.length - (i + 1) < (mcN t l l.ev.length).tr.length - i; omega, .le ⟨by kernel_rfl, ⟨.refl _, .refl _, trivial⟩, ⟨.refl _, .refl _, .refl _, .intI (by omega), trivial⟩⟩⟩

theorem c5 (t : Trf) (l : Log) : Pure (Xc W0 Gt) 5 [trfA t, lgA l] (.bool true) := by
  by_cases hr : rnE t l = 0
  · exact c5k hX haw t l hr
  · exact c5e hX haw t l hr
end
end Go.Fx
