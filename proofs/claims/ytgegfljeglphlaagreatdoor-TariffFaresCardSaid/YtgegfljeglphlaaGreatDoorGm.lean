/-
  The body of TariffFares.
-/
import Derived.Test.YtgegfljeglphlaaGreatDoorGj
import Derived.Test.YtgegfljeglphlaaGreatDoorGf

set_option linter.all false

/-
  The body of TariffFares.
-/
namespace Go.Fx
open Go.Proofs Go.RowKit
theorem few_short {t : Trf} {x : Trp} (h : (bif !fewB t then true else !shortB x) = false) : TOk t ∧ XOk x := by
  cases hf : fewB t
  · rw [hf] at h; cases h
  · cases hx : shortB x
    · rw [hf, hx] at h; cases h
    · exact ⟨(few_ok hf).1, short_ok hx⟩
section
variable {W0 : World} (hX : (Xc W0 Gt).Good) (haw : Pure (Xc W0 Gt) 13 [] (.bool true))
include hX haw
theorem c7e (t : Trf) (x : Trp) (hr : rideE t x ≠ 0) : Pure (Xc W0 Gt) 7 [trfA t, trpA x] (.bool true) := by
  refine mut_of' hX (show FnIs (Xc W0 Gt) 7 Tryz.f7 (codeOf Tryz.f7) from ⟨by kernel_rfl, by kernel_rfl, by kernel_rfl, by kernel_rfl⟩) rfl ?_
  repeat' (first
    | ((with_reducible refine (?_ : Alt _ _)); first | (with_reducible apply callAlt (haw)) | (with_reducible apply callAlt (c14 hX t)) | (with_reducible apply callAlt (c16 hX t ?_)) | (with_reducible apply callAlt (c29 hX x)) | (with_reducible apply callAlt (c31 hX x ?_)) | (with_reducible apply callAlt (c32e hX t x ?_ hr)) | (with_reducible apply callAlt (c33e hX t x ?_ hr)) | (with_reducible apply callAlt (c34e hX t x ?_ hr)) | (with_reducible refine Alt.one ?_))
    | ((with_reducible refine (?_ : AllLe _ _)); first | (first | exact AllLe.refl _ | (repeat' (first | exact trivial | apply Le.aggs | apply Le.tups | apply Le.fns | exact Le.refl _ | refine ⟨?_, ?_⟩))))
    | ((with_reducible refine (?_ : Sc _ (AllRen _ _ _))); refine Sc.of ?_; first | (repeat' (first | exact trivial | apply Le.aggs | apply Le.tups | apply Le.fns | exact Le.refl _ | refine ⟨?_, ?_⟩)))
    | ((with_reducible refine (?_ : (List.all _ _) = true)); rfl)
    | ((with_reducible refine (?_ : (and _ _) = true)); rfl)
    | ((with_reducible refine (?_ : List.Nodup _)); exact nodupB_spec rfl)
    | ((with_reducible refine (?_ : @Eq Nat _ _)); rfl)
    | ((with_reducible refine (?_ : LeOks _ _ _)); first | exact trivial | exact ⟨.refl _, trivial⟩ | exact ⟨.refl _, .refl _, trivial⟩)
    | ((fail_if_success with_reducible refine (?_ : False)); (fail_if_success with_reducible refine (?_ : Nat)); (fail_if_success with_reducible refine (?_ : Nat → Nat → AV)); (fail_if_success with_reducible refine (?_ : Sc _ _)); (fail_if_success with_reducible refine (?_ : Side _)); (fail_if_success with_reducible refine (?_ : Exists _)); (fail_if_success with_reducible refine (?_ : Ends _ _ _ _ _ _ _)); (fail_if_success with_reducible refine (?_ : Alt _ _)); (fail_if_success with_reducible refine (?_ : Le _ _)); (fail_if_success with_reducible refine (?_ : LeAll _ _ _)); (first | with_reducible refine And.intro ?_ ?_ | with_reducible refine Cut.go ?_ | (with_reducible (refine impI ?_; intro _)) | (with_reducible refine (?_ : footOK _ _ = true); kernel_rfl) | ((with_reducible refine propI ?_); conv => whnf))))
  all_goals try (exact .of (Nat.le_of_ble_eq_true rfl))
  all_goals try (rename_i h; first | exact absurd h (by decide) | (cases h; done))
  all_goals try (exact Side.mk (by first | exact few_short (by assumption) | exact (few_short (by assumption)).1 | exact (few_short (by assumption)).2))
  all_goals try (exfalso; rename_i q; exact hr (bne1 q))
  all_goals first
    | exact .mk [] [] _ rfl (.le (.refl _)) trivial rfl
    | exact .mk [] [] _ rfl (.le (.boolT (by simp))) trivial rfl
theorem c7o (t : Trf) (x : Trp) (hr : rideE t x = 0) : Pure (Xc W0 Gt) 7 [trfA t, trpA x] (.bool true) := by
  refine mut_of' hX (show FnIs (Xc W0 Gt) 7 Tryz.f7 (codeOf Tryz.f7) from ⟨by kernel_rfl, by kernel_rfl, by kernel_rfl, by kernel_rfl⟩) rfl ?_
  repeat' (first
    | ((with_reducible refine (?_ : Alt _ _)); first | (with_reducible apply callAlt (haw)) | (with_reducible apply callAlt (c14 hX t)) | (with_reducible apply callAlt (c16 hX t ?_)) | (with_reducible apply callAlt (c29 hX x)) | (with_reducible apply callAlt (c31 hX x ?_)) | (with_reducible apply callAlt (c32 hX t x ?_ hr)) | (with_reducible apply callAlt (c33 hX t x ?_ hr)) | (with_reducible apply callAlt (c34 hX t x ?_ hr)) | (with_reducible apply callAlt (c35 hX t x ?_ hr)) | (with_reducible apply callAlt (c36 hX t x ?_ hr)) | (with_reducible refine Alt.one ?_))
    | ((with_reducible refine (?_ : AllLe _ _)); first | (first | exact AllLe.refl _ | (repeat' (first | exact trivial | apply Le.aggs | apply Le.tups | apply Le.fns | exact Le.refl _ | refine ⟨?_, ?_⟩))))
    | ((with_reducible refine (?_ : Sc _ (AllRen _ _ _))); refine Sc.of ?_; first | (repeat' (first | exact trivial | apply Le.aggs | apply Le.tups | apply Le.fns | exact Le.refl _ | refine ⟨?_, ?_⟩)))
    | ((with_reducible refine (?_ : (List.all _ _) = true)); rfl)
    | ((with_reducible refine (?_ : (and _ _) = true)); rfl)
    | ((with_reducible refine (?_ : List.Nodup _)); exact nodupB_spec rfl)
    | ((with_reducible refine (?_ : @Eq Nat _ _)); rfl)
    | ((with_reducible refine (?_ : LeOks _ _ _)); first | exact trivial | exact ⟨.refl _, trivial⟩ | exact ⟨.refl _, .refl _, trivial⟩)
    | ((fail_if_success with_reducible refine (?_ : False)); (fail_if_success with_reducible refine (?_ : Nat)); (fail_if_success with_reducible refine (?_ : Nat → Nat → AV)); (fail_if_success with_reducible refine (?_ : Sc _ _)); (fail_if_success with_reducible refine (?_ : Side _)); (fail_if_success with_reducible refine (?_ : Exists _)); (fail_if_success with_reducible refine (?_ : Ends _ _ _ _ _ _ _)); (fail_if_success with_reducible refine (?_ : Alt _ _)); (fail_if_success with_reducible refine (?_ : Le _ _)); (fail_if_success with_reducible refine (?_ : LeAll _ _ _)); (first | with_reducible refine And.intro ?_ ?_ | with_reducible refine Cut.go ?_ | (with_reducible (refine impI ?_; intro _)) | (with_reducible refine (?_ : footOK _ _ = true); kernel_rfl) | ((with_reducible refine propI ?_); conv => whnf))))
  all_goals try (exact .of (Nat.le_of_ble_eq_true rfl))
  all_goals try (rename_i h; first | exact absurd h (by decide) | (cases h; done))
  all_goals try (exact Side.mk (by first | exact few_short (by assumption) | exact (few_short (by assumption)).1 | exact (few_short (by assumption)).2))
  all_goals try (exfalso; rename_i q; exact bne0 q hr)
  all_goals first
    | exact .mk [] [] _ rfl (.le (.refl _)) trivial rfl
    | exact .mk [] [] _ rfl (.le (.boolT (by simp))) trivial rfl
theorem c7 (t : Trf) (x : Trp) : Pure (Xc W0 Gt) 7 [trfA t, trpA x] (.bool true) := by
  by_cases hr : rideE t x = 0
  · exact c7o hX haw t x hr
  · exact c7e hX haw t x hr
end
end Go.Fx
