/-
  The body of TariffMoments.
-/
import Derived.Test.YtgegfljeglphlaaGreatDoorFt
import Derived.Test.YtgegfljeglphlaaGreatDoorFf

set_option linter.all false

/-
  The body of TariffMoments.
-/
namespace Go.Fx
open Go.Proofs Go.RowKit
theorem kE_1 {t : Trf} {d : Int} (h : trfE t ≠ 0) : kindE t d = trfE t := by unfold kindE; simp [firstS, h]
theorem kE_2 {t : Trf} {d : Int} (h : trfE t = 0) (h2 : inB d 0 100000 = false) : kindE t d = 2 := by unfold kindE; rw [h, h2]; rfl
theorem kE_3 {t : Trf} {d : Int} (h : trfE t = 0) (h2 : inB d 0 100000 = true) : kindE t d = 0 := by unfold kindE; rw [h, h2]; rfl
theorem later_case (m : Mom) (k : Int) : True := trivial
section
variable {W0 : World} (hX : (Xc W0 Gt).Good) (haw : Pure (Xc W0 Gt) 13 [] (.bool true))
include hX haw
theorem c5 (t : Trf) (m : Mom) (k : Int) : Pure (Xc W0 Gt) 5 [trfA t, momA m, .int .i64 k] (.bool true) := by
  refine mut_of' hX (show FnIs (Xc W0 Gt) 5 Tryz.f5 (codeOf Tryz.f5) from ⟨by kernel_rfl, by kernel_rfl, by kernel_rfl, by kernel_rfl⟩) rfl ?_
  repeat' (first
    | ((with_reducible refine (?_ : Alt _ _)); first | (with_reducible apply callAlt (haw)) | (with_reducible apply callAlt (c14 hX t)) | (with_reducible apply callAlt (c16 hX t ?_)) | (with_reducible apply callAlt (c24 hX t _ ?_)) | ((with_reducible apply callAlt (c25 hX m k)); case hl => (first | exact AllLe.refl _ | ((repeat' (first | exact trivial | apply Le.aggs | apply Le.tups | apply Le.fns | exact Le.refl _ | refine ⟨?_, ?_⟩)); done))) | ((with_reducible apply callAlt (c26 hX m k)); case hl => (first | exact AllLe.refl _ | ((repeat' (first | exact trivial | apply Le.aggs | apply Le.tups | apply Le.fns | exact Le.refl _ | refine ⟨?_, ?_⟩)); done))) | (with_reducible apply callAlt (c20 hX t ?_)) | (with_reducible apply callAlt (c27 hX _ _ _)) | (with_reducible apply callAlt (c28 hX t _ ?_)) | (with_reducible refine Alt.one ?_))
    | ((with_reducible refine (?_ : AllLe _ _)); first | (first | exact AllLe.refl _ | (repeat' (first | exact trivial | apply Le.aggs | apply Le.tups | apply Le.fns | exact Le.refl _ | refine ⟨?_, ?_⟩))))
    | ((with_reducible refine (?_ : Sc _ (AllRen _ _ _))); refine Sc.of ?_; first | (repeat' (first | exact trivial | apply Le.aggs | apply Le.tups | apply Le.fns | exact Le.refl _ | refine ⟨?_, ?_⟩)))
    | ((with_reducible refine (?_ : (List.all _ _) = true)); rfl)
    | ((with_reducible refine (?_ : (and _ _) = true)); rfl)
    | ((with_reducible refine (?_ : List.Nodup _)); exact nodupB_spec rfl)
    | ((with_reducible refine (?_ : @Eq Nat _ _)); rfl)
    | ((with_reducible refine (?_ : LeOks _ _ _)); first | exact trivial | exact ⟨.refl _, trivial⟩ | exact ⟨.refl _, .refl _, trivial⟩)
    | ((fail_if_success with_reducible refine (?_ : False)); (fail_if_success with_reducible refine (?_ : Nat)); (fail_if_success with_reducible refine (?_ : Nat → Nat → AV)); (fail_if_success with_reducible refine (?_ : Sc _ _)); (fail_if_success with_reducible refine (?_ : Side _)); (fail_if_success with_reducible refine (?_ : Exists _)); (fail_if_success with_reducible refine (?_ : Ends _ _ _ _ _ _ _)); (fail_if_success with_reducible refine (?_ : Alt _ _)); (fail_if_success with_reducible refine (?_ : Le _ _)); (fail_if_success with_reducible refine (?_ : LeAll _ _ _)); (first | with_reducible refine And.intro ?_ ?_ | with_reducible refine Cut.go ?_ | (with_reducible (refine impI ?_; intro _)) | (with_reducible refine (?_ : footOK _ _ = true); kernel_rfl) | ((with_reducible refine propI ?_); conv => whnf))))
  all_goals try (exact .of (Nat.le_of_ble_eq_true rfl))
  all_goals try (rename_i h; first | exact absurd h (by decide) | (cases h; done))
  all_goals try (exfalso; rename_i q; simp at q; done)
  all_goals try (exact Side.mk (few_ok (not_f (by assumption))).1)
  · exact .mk [] [] _ rfl (.le (.refl _)) trivial rfl
  · rename_i a0 a1 a2 a3 a4
    have h := and_t a3
    have e := kE_2 (eq_of_beq h.1) (not_t h.2)
    exact .mk [] [] _ rfl (.le (.boolT (by rw [kindV_bad (by rw [e]; decide), e]; rfl))) trivial rfl
  · rename_i a0 a1 a2 a3 a4
    have e := kE_1 (d := m.d) (bne0 a4)
    exact .mk [] [] _ rfl (.le (.boolT (by rw [kindV_bad (by rw [e]; exact bne0 a4), e]; simp))) trivial rfl
  · rename_i a0 a1 a2 a3 a4
    have z := bne1 a4
    rw [z] at a3
    have e := kE_3 (d := m.d) z (not_f a3)
    exact .mk [] [] _ rfl (.le (.boolT (by rw [kindV_ok e, e]; simp))) trivial rfl
end
end Go.Fx
