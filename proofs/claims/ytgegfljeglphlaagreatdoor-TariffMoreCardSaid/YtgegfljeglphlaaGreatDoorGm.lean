/-
  The body of TariffMore.
-/
import Derived.Test.YtgegfljeglphlaaGreatDoorGv
import Derived.Test.YtgegfljeglphlaaGreatDoorGk
import Derived.Test.YtgegfljeglphlaaGreatDoorGf

set_option linter.all false

/-
  Pairs of numbers, read off the row's data.
-/
namespace Go.Fx
open Go.Proofs

section
variable {H : Type}
theorem pr2_arg (d : DataW H) : argAV Tt 6 64 d = .agg 2 (tbl [.int .i64 (dI (dN d 0)), .int .i64 (dI (dN d 1))]) := by kernel_rfl
end
end Go.Fx

/-
  The body of TariffMore.
-/
namespace Go.Fx
open Go.Proofs Go.RowKit
theorem more_s (t : Trf) (x : Trp) (a b : Int) (h : (bif (bif (bif (bif !fewB t then true else !shortB x) then true else (x.sg.length : Int) == 0) then true else !inB a 0 100000) then true else !inB b 0 36000) = false) : TOk t ∧ XOk x ∧ (0 ≤ a ∧ a ≤ 100000) ∧ (0 ≤ b ∧ b ≤ 36000) := by
  cases hf : fewB t
  · rw [hf] at h; cases h
  cases hx : shortB x
  · rw [hf, hx] at h; cases h
  cases hl : ((x.sg.length : Int) == 0)
  · rw [hf, hx, hl] at h
    cases ha : inB a 0 100000
    · rw [ha] at h; cases h
    · rw [ha] at h
      cases hb : inB b 0 36000
      · rw [hb] at h; cases h
      · exact ⟨(few_ok hf).1, short_ok hx, inB_iff.1 ha, inB_iff.1 hb⟩
  · rw [hf, hx, hl] at h; cases h
section
variable {W0 : World} (hX : (Xc W0 Gt).Good) (haw : Pure (Xc W0 Gt) 13 [] (.bool true))
include hX haw
theorem c6e (t : Trf) (x : Trp) (a b : Int) (hr : rideE t x ≠ 0) : Pure (Xc W0 Gt) 6 [trfA t, trpA x, .agg 2 (tbl [.int .i64 a, .int .i64 b])] (.bool true) := by
  refine mut_of' hX (show FnIs (Xc W0 Gt) 6 Tryz.f6 (codeOf Tryz.f6) from ⟨by kernel_rfl, by kernel_rfl, by kernel_rfl, by kernel_rfl⟩) rfl ?_
  repeat' (first
    | ((with_reducible refine (?_ : Alt _ _)); first | (with_reducible apply callAlt (haw)) | (with_reducible apply callAlt (c14 hX t)) | (with_reducible apply callAlt (c16 hX t ?_)) | (with_reducible apply callAlt (c29 hX x)) | ((with_reducible apply callAlt (c31 hX x ?_)); case hl => (first | exact AllLe.refl _ | ((repeat' (first | exact trivial | apply Le.aggs | apply Le.tups | apply Le.fns | exact Le.refl _ | refine ⟨?_, ?_⟩)); done))) | (with_reducible apply callAlt (c27 hX _ _ _)) | (with_reducible apply callAlt (c30e hX t x ?_ hr)) | (with_reducible apply callAlt (c32e hX t x ?_ hr)) | (with_reducible refine Alt.one ?_))
    | ((with_reducible refine (?_ : AllLe _ _)); first | (first | exact AllLe.refl _ | (repeat' (first | exact trivial | apply Le.aggs | apply Le.tups | apply Le.fns | exact Le.refl _ | refine ⟨?_, ?_⟩))))
    | ((with_reducible refine (?_ : Sc _ (AllRen _ _ _))); refine Sc.of ?_; first | (repeat' (first | exact trivial | apply Le.aggs | apply Le.tups | apply Le.fns | exact Le.refl _ | refine ⟨?_, ?_⟩)))
    | ((with_reducible refine (?_ : (List.all _ _) = true)); rfl)
    | ((with_reducible refine (?_ : (and _ _) = true)); rfl)
    | ((with_reducible refine (?_ : List.Nodup _)); exact nodupB_spec rfl)
    | ((with_reducible refine (?_ : @Eq Nat _ _)); rfl)
    | ((with_reducible refine (?_ : LeOks _ _ _)); first | exact trivial | exact ⟨.refl _, trivial⟩ | exact ⟨.refl _, .refl _, trivial⟩)
    | ((fail_if_success with_reducible refine Stop.go ?_); (first | with_reducible refine And.intro ?_ ?_ | with_reducible refine Cut.go ?_ | (with_reducible (refine impI ?_; intro _)) | (with_reducible refine (?_ : footOK _ _ = true); kernel_rfl) | ((with_reducible refine propI ?_); conv => whnf))))
  all_goals try (exact .of (Nat.le_of_ble_eq_true rfl))
  all_goals try (rename_i h; first | exact absurd h (by decide) | (cases h; done))
  all_goals try (exact .of (by decide))
  all_goals try (exact Sc.imp fun _ => (by decide))
  all_goals try ((with_reducible refine (?_ : Side _)); have g := more_s t x a b (by assumption); exact Side.mk (by first | exact g.1 | exact g.2.1 | exact ⟨g.1, g.2.1⟩))
  all_goals try (exfalso; first | (rename_i q; exact hr (bne1 q)) | (rename_i q _; exact hr (bne1 q)))
  all_goals first
    | exact .mk [] [] _ rfl (.le (.refl _)) trivial rfl
    | exact .mk [] [] _ rfl (.le (.boolT (by simp))) trivial rfl
theorem c6y (t : Trf) (x : Trp) (a b : Int) (hr : rideE t x = 0) (hy : rideE t (moreX x a b) ≠ 0) : Pure (Xc W0 Gt) 6 [trfA t, trpA x, .agg 2 (tbl [.int .i64 a, .int .i64 b])] (.bool true) := by
  refine mut_of' hX (show FnIs (Xc W0 Gt) 6 Tryz.f6 (codeOf Tryz.f6) from ⟨by kernel_rfl, by kernel_rfl, by kernel_rfl, by kernel_rfl⟩) rfl ?_
  repeat' (first
    | ((with_reducible refine (?_ : Alt _ _)); first | (with_reducible apply callAlt (haw)) | (with_reducible apply callAlt (c14 hX t)) | (with_reducible apply callAlt (c16 hX t ?_)) | (with_reducible apply callAlt (c29 hX x)) | ((with_reducible apply callAlt (c31 hX x ?_)); case hl => (first | exact AllLe.refl _ | ((repeat' (first | exact trivial | apply Le.aggs | apply Le.tups | apply Le.fns | exact Le.refl _ | refine ⟨?_, ?_⟩)); done))) | (with_reducible apply callAlt (c27 hX _ _ _)) | (with_reducible apply callAlt (c30 hX t x ?_ hr)) | (with_reducible apply callAlt (c32 hX t x ?_ hr)) | (with_reducible refine Alt.one ?_))
    | ((with_reducible refine (?_ : AllLe _ _)); first | (first | exact AllLe.refl _ | (repeat' (first | exact trivial | apply Le.aggs | apply Le.tups | apply Le.fns | exact Le.refl _ | refine ⟨?_, ?_⟩))))
    | ((with_reducible refine (?_ : Sc _ (AllRen _ _ _))); refine Sc.of ?_; first | (repeat' (first | exact trivial | apply Le.aggs | apply Le.tups | apply Le.fns | exact Le.refl _ | refine ⟨?_, ?_⟩)))
    | ((with_reducible refine (?_ : (List.all _ _) = true)); rfl)
    | ((with_reducible refine (?_ : (and _ _) = true)); rfl)
    | ((with_reducible refine (?_ : List.Nodup _)); exact nodupB_spec rfl)
    | ((with_reducible refine (?_ : @Eq Nat _ _)); rfl)
    | ((with_reducible refine (?_ : LeOks _ _ _)); first | exact trivial | exact ⟨.refl _, trivial⟩ | exact ⟨.refl _, .refl _, trivial⟩)
    | ((fail_if_success with_reducible refine Stop.go ?_); (first | with_reducible refine And.intro ?_ ?_ | with_reducible refine Cut.go ?_ | (with_reducible (refine impI ?_; intro _)) | (with_reducible refine (?_ : footOK _ _ = true); kernel_rfl) | ((with_reducible refine propI ?_); conv => whnf))))
  all_goals try (exact .of (Nat.le_of_ble_eq_true rfl))
  all_goals try (rename_i h; first | exact absurd h (by decide) | (cases h; done))
  all_goals try (exact .of (by decide))
  all_goals try (exact Sc.imp fun _ => (by decide))
  all_goals try ((with_reducible refine (?_ : Side _)); have g := more_s t x a b (by assumption); exact Side.mk (by first | exact g.1 | exact g.2.1 | exact ⟨g.1, g.2.1⟩))
  all_goals try (exfalso; rename_i q; exact bne0 q hr)
  all_goals try (exact .mk [] [] _ rfl (.le (.refl _)) trivial rfl)
  all_goals try (exfalso; rename_i q; simp at q; done)
  obtain ⟨g1, g2, ha, hb⟩ := more_s t x a b (by assumption)
  have T := (ride_0 hr).1
  have hp := T.pos
  have hl := T.len
  have e1 : ((x.sg.length : Int) - 1).toNat = x.sg.length - 1 := by omega
  have lm := T.me (x.sg.length - 1) (by omega)
  have ls := T.se (x.sg.length - 1) (by omega)
  refine ⟨Nat, fun i => ([(3, .ptr 0 0), (4, .ptr 1 0), (5, .ptr 2 0), (7, rowF (stpF t x) x.sg.length), (9, .ptr 3 0), (10, .int .i64 (fareE t x (ptX t x))), (11, .int .i64 ((i : Int) + 1))], [.box (trfC t), .box (trpC x), .box [.int .i64 a, .int .i64 b], .box [.int .i64 (fareZ t x (ptX t x) (staQ t x)), .int .i64 (fareZ t x (ptX t x) (drvQ t x (ptX t x))), .int .i64 (fareZ t x (ptX t x) (exS t x x.ex.length)), .int .i64 (fareZ t x (ptX t x) (totQ t x (ptX t x)))]]), fun i => i + 1 ≤ x.sg.length, fun i => x.sg.length - i, ⟨0, by show 0 + 1 ≤ x.sg.length; omega, .le ⟨rfl, ⟨.refl _, .refl _, .refl _, .refl _, trivial⟩, ⟨.refl _, .refl _, .refl _, .refl _, .refl _, .refl _, .intI (by rfl), trivial⟩⟩⟩, fun i hi => ?_⟩
  replace hi : i + 1 ≤ x.sg.length := hi
  repeat' (first
    | ((with_reducible refine (?_ : Alt _ _)); first | (with_reducible apply callAlt (c16 hX t ?_)) | ((with_reducible (apply altM (ks := []) (m := 1); apply And.intro; apply Sc.of; apply (c31o hX x ?_))); case' right => (refine And.intro (Sc.of ?_) ?_; · ((repeat' (first | exact trivial | apply Le.aggs | apply Le.tups | apply Le.fns | exact Le.refl _ | refine ⟨?_, ?_⟩)); done))) | ((with_reducible (apply altM (ks := [4]) (m := 0); apply And.intro; apply Sc.of; apply (c31k hX (moreX x a b) x.sg.length (more_len x a b) ?_ _ ?_))); case' right => (refine And.intro (Sc.of ?_) ?_; · ((repeat' (first | exact trivial | apply Le.aggs | apply Le.tups | apply Le.fns | exact Le.refl _ | refine ⟨?_, ?_⟩)); done))) | (with_reducible apply callAlt (c30e hX t (moreX x a b) ?_ hy)) | (with_reducible refine Alt.one ?_))
    | ((with_reducible refine (?_ : AllLe _ _)); first | (first | exact AllLe.refl _ | (repeat' (first | exact trivial | apply Le.aggs | apply Le.tups | apply Le.fns | exact Le.refl _ | refine ⟨?_, ?_⟩))))
    | ((with_reducible refine (?_ : Sc _ (AllRen _ _ _))); refine Sc.of ?_; first | (repeat' (first | exact trivial | apply Le.aggs | apply Le.tups | apply Le.fns | exact Le.refl _ | refine ⟨?_, ?_⟩)))
    | ((with_reducible refine (?_ : (List.all _ _) = true)); rfl)
    | ((with_reducible refine (?_ : (and _ _) = true)); rfl)
    | ((with_reducible refine (?_ : List.Nodup _)); exact nodupB_spec rfl)
    | ((with_reducible refine (?_ : @Eq Nat _ _)); rfl)
    | ((with_reducible refine (?_ : LeOks _ _ _)); first | exact trivial | exact ⟨.refl _, trivial⟩ | exact ⟨.refl _, .refl _, trivial⟩)
    | ((fail_if_success with_reducible refine Stop.go ?_); (first | rw [putF_at] | with_reducible refine And.intro ?_ ?_ | with_reducible refine Cut.go ?_ | (with_reducible (refine impI ?_; intro _)) | (with_reducible refine (?_ : footOK _ _ = true); kernel_rfl) | ((with_reducible refine propI ?_); conv => whnf))))
  all_goals try (exact .of (Nat.le_of_ble_eq_true rfl))
  all_goals try (exact .of (by decide))
  all_goals try (exact Sc.imp fun _ => (by decide))
  all_goals try (first | exact .of (show ((x.sg.length : Int) - 1).toNat < x.sg.length by omega) | exact .of ⟨by omega, by omega⟩)
  all_goals try (exact .of (show -9223372036854775808 ≤ (sgx x ((x.sg.length : Int) - 1).toNat).me + a ∧ (sgx x ((x.sg.length : Int) - 1).toNat).me + a ≤ 9223372036854775807 by rw [e1]; omega))
  all_goals try (exact .of (show -9223372036854775808 ≤ (sgx x ((x.sg.length : Int) - 1).toNat).se + b ∧ (sgx x ((x.sg.length : Int) - 1).toNat).se + b ≤ 9223372036854775807 by rw [e1]; omega))
  all_goals try (rename_i q; have q := of_decide_eq_true q; exact .of ⟨by omega, by omega⟩)
  all_goals try (exact Side.mk (by first | exact g1 | exact g2 | exact ⟨g1, more_xok g2 a b⟩ | exact more_xok g2 a b))
  all_goals try (exact Side.mk (fun k j hk hj => more_put2 x a b hp e1 k j hk hj))
  · rename_i q q2; have q := of_decide_eq_true q
    exfalso; have u := stp_up hr (k := i) (by omega)
    rw [show ((i : Int) + 1).toNat = i + 1 by omega, show ((i : Int) + 1 - 1).toNat = i by omega] at q2
    have := of_decide_eq_true q2; omega
  · rename_i q q2; have q := of_decide_eq_true q
    exact ⟨i + 1, by show i + 1 + 1 ≤ _; omega, by show x.sg.length - (i + 1) < x.sg.length - i; omega, .le ⟨rfl, ⟨.refl _, .refl _, .refl _, .refl _, trivial⟩, ⟨.refl _, .refl _, .refl _, .refl _, .refl _, .refl _, .intI (by omega), trivial⟩⟩⟩
  · exact .mk [] [] _ rfl (.le (.boolT (by rw [more_ride a b hr hy]; rfl))) trivial rfl
  · rename_i q; exact hy (bne1 q)
theorem c6o (t : Trf) (x : Trp) (a b : Int) (hr : rideE t x = 0) (hy : rideE t (moreX x a b) = 0) : Pure (Xc W0 Gt) 6 [trfA t, trpA x, .agg 2 (tbl [.int .i64 a, .int .i64 b])] (.bool true) := by
  refine mut_of' hX (show FnIs (Xc W0 Gt) 6 Tryz.f6 (codeOf Tryz.f6) from ⟨by kernel_rfl, by kernel_rfl, by kernel_rfl, by kernel_rfl⟩) rfl ?_
  repeat' (first
    | ((with_reducible refine (?_ : Alt _ _)); first | (with_reducible apply callAlt (haw)) | (with_reducible apply callAlt (c14 hX t)) | (with_reducible apply callAlt (c16 hX t ?_)) | (with_reducible apply callAlt (c29 hX x)) | ((with_reducible apply callAlt (c31 hX x ?_)); case hl => (first | exact AllLe.refl _ | ((repeat' (first | exact trivial | apply Le.aggs | apply Le.tups | apply Le.fns | exact Le.refl _ | refine ⟨?_, ?_⟩)); done))) | (with_reducible apply callAlt (c27 hX _ _ _)) | (with_reducible apply callAlt (c30 hX t x ?_ hr)) | (with_reducible apply callAlt (c32 hX t x ?_ hr)) | (with_reducible refine Alt.one ?_))
    | ((with_reducible refine (?_ : AllLe _ _)); first | (first | exact AllLe.refl _ | (repeat' (first | exact trivial | apply Le.aggs | apply Le.tups | apply Le.fns | exact Le.refl _ | refine ⟨?_, ?_⟩))))
    | ((with_reducible refine (?_ : Sc _ (AllRen _ _ _))); refine Sc.of ?_; first | (repeat' (first | exact trivial | apply Le.aggs | apply Le.tups | apply Le.fns | exact Le.refl _ | refine ⟨?_, ?_⟩)))
    | ((with_reducible refine (?_ : (List.all _ _) = true)); rfl)
    | ((with_reducible refine (?_ : (and _ _) = true)); rfl)
    | ((with_reducible refine (?_ : List.Nodup _)); exact nodupB_spec rfl)
    | ((with_reducible refine (?_ : @Eq Nat _ _)); rfl)
    | ((with_reducible refine (?_ : LeOks _ _ _)); first | exact trivial | exact ⟨.refl _, trivial⟩ | exact ⟨.refl _, .refl _, trivial⟩)
    | ((fail_if_success with_reducible refine Stop.go ?_); (first | with_reducible refine And.intro ?_ ?_ | with_reducible refine Cut.go ?_ | (with_reducible (refine impI ?_; intro _)) | (with_reducible refine (?_ : footOK _ _ = true); kernel_rfl) | ((with_reducible refine propI ?_); conv => whnf))))
  all_goals try (exact .of (Nat.le_of_ble_eq_true rfl))
  all_goals try (rename_i h; first | exact absurd h (by decide) | (cases h; done))
  all_goals try (exact .of (by decide))
  all_goals try (exact Sc.imp fun _ => (by decide))
  all_goals try ((with_reducible refine (?_ : Side _)); have g := more_s t x a b (by assumption); exact Side.mk (by first | exact g.1 | exact g.2.1 | exact ⟨g.1, g.2.1⟩))
  all_goals try (exfalso; rename_i q; exact bne0 q hr)
  all_goals try (exact .mk [] [] _ rfl (.le (.refl _)) trivial rfl)
  all_goals try (exfalso; rename_i q; simp at q; done)
  obtain ⟨g1, g2, ha, hb⟩ := more_s t x a b (by assumption)
  have T := (ride_0 hr).1
  have hp := T.pos
  have hl := T.len
  have e1 : ((x.sg.length : Int) - 1).toNat = x.sg.length - 1 := by omega
  have lm := T.me (x.sg.length - 1) (by omega)
  have ls := T.se (x.sg.length - 1) (by omega)
  refine ⟨Nat, fun i => ([(3, .ptr 0 0), (4, .ptr 1 0), (5, .ptr 2 0), (7, rowF (stpF t x) x.sg.length), (9, .ptr 3 0), (10, .int .i64 (fareE t x (ptX t x))), (11, .int .i64 ((i : Int) + 1))], [.box (trfC t), .box (trpC x), .box [.int .i64 a, .int .i64 b], .box [.int .i64 (fareZ t x (ptX t x) (staQ t x)), .int .i64 (fareZ t x (ptX t x) (drvQ t x (ptX t x))), .int .i64 (fareZ t x (ptX t x) (exS t x x.ex.length)), .int .i64 (fareZ t x (ptX t x) (totQ t x (ptX t x)))]]), fun i => i + 1 ≤ x.sg.length, fun i => x.sg.length - i, ⟨0, by show 0 + 1 ≤ x.sg.length; omega, .le ⟨rfl, ⟨.refl _, .refl _, .refl _, .refl _, trivial⟩, ⟨.refl _, .refl _, .refl _, .refl _, .refl _, .refl _, .intI (by rfl), trivial⟩⟩⟩, fun i hi => ?_⟩
  replace hi : i + 1 ≤ x.sg.length := hi
  repeat' (first
    | ((with_reducible refine (?_ : Alt _ _)); first | (with_reducible apply callAlt (c16 hX t ?_)) | ((with_reducible (apply altM (ks := []) (m := 1); apply And.intro; apply Sc.of; apply (c31o hX x ?_))); case' right => (refine And.intro (Sc.of ?_) ?_; · ((repeat' (first | exact trivial | apply Le.aggs | apply Le.tups | apply Le.fns | exact Le.refl _ | refine ⟨?_, ?_⟩)); done))) | ((with_reducible (apply altM (ks := [4]) (m := 0); apply And.intro; apply Sc.of; apply (c31k hX (moreX x a b) x.sg.length (more_len x a b) ?_ _ ?_))); case' right => (refine And.intro (Sc.of ?_) ?_; · ((repeat' (first | exact trivial | apply Le.aggs | apply Le.tups | apply Le.fns | exact Le.refl _ | refine ⟨?_, ?_⟩)); done))) | (with_reducible apply callAlt (c30n hX t (moreX x a b) x.sg.length (more_len x a b) ?_ hy)) | ((with_reducible (apply altM (ks := [4]) (m := 0); apply And.intro; apply Sc.of; apply (c32k hX t (moreX x a b) x.sg.length (more_len x a b) ?_ hy _ ?_))); case' right => (refine And.intro (Sc.of ?_) ?_; · ((repeat' (first | exact trivial | apply Le.aggs | apply Le.tups | apply Le.fns | exact Le.refl _ | refine ⟨?_, ?_⟩)); done))) | (with_reducible refine Alt.one ?_))
    | ((with_reducible refine (?_ : AllLe _ _)); first | (first | exact AllLe.refl _ | (repeat' (first | exact trivial | apply Le.aggs | apply Le.tups | apply Le.fns | exact Le.refl _ | refine ⟨?_, ?_⟩))))
    | ((with_reducible refine (?_ : Sc _ (AllRen _ _ _))); refine Sc.of ?_; first | (repeat' (first | exact trivial | apply Le.aggs | apply Le.tups | apply Le.fns | exact Le.refl _ | refine ⟨?_, ?_⟩)))
    | ((with_reducible refine (?_ : (List.all _ _) = true)); rfl)
    | ((with_reducible refine (?_ : (and _ _) = true)); rfl)
    | ((with_reducible refine (?_ : List.Nodup _)); exact nodupB_spec rfl)
    | ((with_reducible refine (?_ : @Eq Nat _ _)); rfl)
    | ((with_reducible refine (?_ : LeOks _ _ _)); first | exact trivial | exact ⟨.refl _, trivial⟩ | exact ⟨.refl _, .refl _, trivial⟩)
    | ((fail_if_success with_reducible refine Stop.go ?_); (first | rw [putF_at] | with_reducible refine And.intro ?_ ?_ | with_reducible refine Cut.go ?_ | (with_reducible (refine impI ?_; intro _)) | (with_reducible refine (?_ : footOK _ _ = true); kernel_rfl) | ((with_reducible refine propI ?_); conv => whnf))))
  all_goals try (exact .of (Nat.le_of_ble_eq_true rfl))
  all_goals try (exact .of (by decide))
  all_goals try (exact Sc.imp fun _ => (by decide))
  all_goals try (first | exact .of (show ((x.sg.length : Int) - 1).toNat < x.sg.length by omega) | exact .of ⟨by omega, by omega⟩)
  all_goals try (exact .of (show -9223372036854775808 ≤ (sgx x ((x.sg.length : Int) - 1).toNat).me + a ∧ (sgx x ((x.sg.length : Int) - 1).toNat).me + a ≤ 9223372036854775807 by rw [e1]; omega))
  all_goals try (exact .of (show -9223372036854775808 ≤ (sgx x ((x.sg.length : Int) - 1).toNat).se + b ∧ (sgx x ((x.sg.length : Int) - 1).toNat).se + b ≤ 9223372036854775807 by rw [e1]; omega))
  all_goals try (rename_i q; have q := of_decide_eq_true q; exact .of ⟨by omega, by omega⟩)
  all_goals try (exact Side.mk (by first | exact g1 | exact g2 | exact ⟨g1, more_xok g2 a b⟩ | exact more_xok g2 a b))
  all_goals try (exact Side.mk (fun k j hk hj => more_put2 x a b hp e1 k j hk hj))
  · rename_i q q2; have q := of_decide_eq_true q
    exfalso; have u := stp_up hr (k := i) (by omega)
    rw [show ((i : Int) + 1).toNat = i + 1 by omega, show ((i : Int) + 1 - 1).toNat = i by omega] at q2
    have := of_decide_eq_true q2; omega
  · rename_i q q2; have q := of_decide_eq_true q
    exact ⟨i + 1, by show i + 1 + 1 ≤ _; omega, by show x.sg.length - (i + 1) < x.sg.length - i; omega, .le ⟨rfl, ⟨.refl _, .refl _, .refl _, .refl _, trivial⟩, ⟨.refl _, .refl _, .refl _, .refl _, .refl _, .refl _, .intI (by omega), trivial⟩⟩⟩
  · exfalso; rename_i q; simp at q
  · exfalso; rename_i q
    have u := more_stp (t := t) ha.1 hb.1 hr (k := x.sg.length - 1) (by omega)
    rw [e1] at q; simp at q; omega
  · rename_i q; exact .mk [] [] _ rfl (.le (.boolT (by have w := more_ok (t := t) ha.1 hb.1 hr; unfold moreQ at w; rw [q] at w; exact w))) trivial rfl
  · rename_i q; exact .mk [] [] _ rfl (.le (.boolT (by have w := more_ok (t := t) ha.1 hb.1 hr; unfold moreQ at w; rw [q] at w; exact w))) trivial rfl
theorem c6 (t : Trf) (x : Trp) (a b : Int) : Pure (Xc W0 Gt) 6 [trfA t, trpA x, .agg 2 (tbl [.int .i64 a, .int .i64 b])] (.bool true) := by
  by_cases hr : rideE t x = 0
  · by_cases hy : rideE t (moreX x a b) = 0
    · exact c6o hX haw t x a b hr hy
    · exact c6y hX haw t x a b hr hy
  · exact c6e hX haw t x a b hr
end
end Go.Fx
