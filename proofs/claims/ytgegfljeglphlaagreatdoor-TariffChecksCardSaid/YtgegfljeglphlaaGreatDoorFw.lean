/-
  The body of TariffChecks.
-/
import Derived.Test.YtgegfljeglphlaaGreatDoorFt
import Derived.Test.YtgegfljeglphlaaGreatDoorFf

set_option linter.all false

/-
  The body of TariffChecks.
-/
namespace Go.Fx
open Go.Proofs Go.RowKit
section
variable {W0 : World} (hX : (Xc W0 Gt).Good) (haw : Pure (Xc W0 Gt) 13 [] (.bool true))
include hX haw
theorem c3 (t : Trf) : Pure (Xc W0 Gt) 3 [trfA t] (.bool true) := by
  refine mut_of' hX (show FnIs (Xc W0 Gt) 3 Tryz.f3 (codeOf Tryz.f3) from ⟨by kernel_rfl, by kernel_rfl, by kernel_rfl, by kernel_rfl⟩) rfl ?_
  repeat' (first
    | ((with_reducible refine (?_ : Alt _ _)); first | (with_reducible apply callAlt (haw)) | (with_reducible apply callAlt (c14 hX t)) | (with_reducible apply callAlt (c16 hX t ?_)) | (with_reducible apply callAlt (c15 hX t ?_)) | (with_reducible apply callAlt (c17 hX t ?_)) | (with_reducible refine Alt.one ?_))
    | ((with_reducible refine (?_ : AllLe _ _)); first | (first | exact AllLe.refl _ | (repeat' (first | exact trivial | apply Le.aggs | apply Le.tups | apply Le.fns | exact Le.refl _ | refine ⟨?_, ?_⟩))))
    | ((with_reducible refine (?_ : Sc _ (AllRen _ _ _))); refine Sc.of ?_; first | (repeat' (first | exact trivial | apply Le.aggs | apply Le.tups | apply Le.fns | exact Le.refl _ | refine ⟨?_, ?_⟩)))
    | ((with_reducible refine (?_ : (List.all _ _) = true)); rfl)
    | ((with_reducible refine (?_ : (and _ _) = true)); rfl)
    | ((with_reducible refine (?_ : List.Nodup _)); exact nodupB_spec rfl)
    | ((with_reducible refine (?_ : @Eq Nat _ _)); rfl)
    | ((with_reducible refine (?_ : LeOks _ _ _)); first | exact trivial | exact ⟨.refl _, trivial⟩ | exact ⟨.refl _, .refl _, trivial⟩)
    | ((fail_if_success with_reducible refine (?_ : False)); (fail_if_success with_reducible refine (?_ : Nat)); (fail_if_success with_reducible refine (?_ : Nat → Nat → AV)); (fail_if_success with_reducible refine (?_ : Sc _ _)); (fail_if_success with_reducible refine (?_ : Side _)); (fail_if_success with_reducible refine (?_ : Exists _)); (fail_if_success with_reducible refine (?_ : Ends _ _ _ _ _ _ _)); (fail_if_success with_reducible refine (?_ : Alt _ _)); (fail_if_success with_reducible refine (?_ : Le _ _)); (fail_if_success with_reducible refine (?_ : LeAll _ _ _)); (first | with_reducible refine And.intro ?_ ?_ | with_reducible refine Cut.go ?_ | (with_reducible (refine impI ?_; intro _)) | (with_reducible refine (?_ : footOK _ _ = true); kernel_rfl) | ((with_reducible refine propI ?_); conv => whnf))))
  all_goals try (exact .of (Nat.le_of_ble_eq_true rfl))
  all_goals try (rename_i h; first | exact absurd h (by decide) | (cases h; done))
  all_goals (rename_i h)
  · exact .mk [] [] _ rfl (.le (.refl _)) trivial rfl
  all_goals (have hb := few_ok (not_f h))
  all_goals first | exact .mk hb.1 | (exact .mk [] [] _ rfl (.le (.boolT (by simp))) trivial rfl)
end
end Go.Fx
