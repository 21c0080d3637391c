/-
  The body of TopTariffChanges.
-/
import Derived.Test.YtgegfljeglphlaaFk
import Derived.Test.YtgegfljeglphlaaFu

set_option linter.all false

/-
  The body of TopTariffChanges.
-/
namespace Go.Fx
open Go.Proofs Go.RowKit
theorem chg_g {t : Trf} {k : Int} (h : (bif !fewB t then true else !inB k 0 100000000) = false) : TOk t ∧ (0 ≤ k ∧ k ≤ 100000000) := by
  cases hf : fewB t
  · rw [hf] at h; cases h
  cases hx : inB k 0 100000000
  · rw [hf, hx] at h; cases h
  · exact ⟨(few_ok hf).1, inB_iff.1 hx⟩
theorem ah_1 {a b : Mom} (h : (bif decide (a.d < b.d) then true else bif a.d == b.d then decide (a.s < b.s) else false) = true) : a.d < b.d ∨ a.d = b.d ∧ a.s < b.s := by
  by_cases c : a.d < b.d
  · exact .inl c
  · rw [decide_eq_false c] at h
    exact .inr ⟨eq_of_beq (and_t h).1, of_decide_eq_true (and_t h).2⟩
theorem ah_2 {e a b : Int} (h : (bif e != 0 then decide (a ≤ b) else false) = true) : e ≠ 0 ∧ a ≤ b := ⟨bne_iff_ne.1 (and_t h).1, of_decide_eq_true (and_t h).2⟩
section
variable {W0 : World} {G : Nat → Option AV} (hX : (Xc W0 G).Good)
include hX
theorem c4 (t : Trf) (p : Plc) (k : Int) : Pure (Xc W0 G) 4 [trfA t, plcA p, .int .i64 k] (.bool true) := by
  refine mut_of' hX (show FnIs (Xc W0 G) 4 Try.f4 (codeOf Try.f4) from ⟨by kernel_rfl, by kernel_rfl, by kernel_rfl, by kernel_rfl⟩) rfl ?_
  repeat' (first
    | ((with_reducible refine (?_ : Alt _ _)); first | (with_reducible apply callAlt (c5 hX)) | (with_reducible apply callAlt (c6 hX t)) | (with_reducible apply callAlt (c9 hX _ _ _)) | (with_reducible apply callAlt (c11 hX t ?_)) | ((with_reducible apply callAlt (c13 hX t p ?_)); case hl => (first | exact AllLe.refl _ | ((repeat' (first | exact trivial | apply Le.aggs | apply Le.tups | apply Le.fns | exact Le.refl _ | refine ⟨?_, ?_⟩)); done))) | ((with_reducible apply callAlt (c13 hX t ⟨p.z, chM t p⟩ ?_)); case hl => (first | exact AllLe.refl _ | ((repeat' (first | exact trivial | apply Le.aggs | apply Le.tups | apply Le.fns | exact Le.refl _ | refine ⟨?_, ?_⟩)); done))) | ((with_reducible apply callAlt (c13 hX t ⟨p.z, laterM p.m k⟩ ?_)); case hl => (first | exact AllLe.refl _ | ((repeat' (first | exact trivial | apply Le.aggs | apply Le.tups | apply Le.fns | exact Le.refl _ | refine ⟨?_, ?_⟩)); done))) | ((with_reducible apply callAlt (c14 hX t p ?_)); case hl => (first | exact AllLe.refl _ | ((repeat' (first | exact trivial | apply Le.aggs | apply Le.tups | apply Le.fns | exact Le.refl _ | refine ⟨?_, ?_⟩)); done))) | ((with_reducible apply callAlt (c15 hX p.m k)); case hl => (first | exact AllLe.refl _ | ((repeat' (first | exact trivial | apply Le.aggs | apply Le.tups | apply Le.fns | exact Le.refl _ | refine ⟨?_, ?_⟩)); done))) | (with_reducible refine Alt.one ?_))
    | ((with_reducible refine (?_ : AllLe _ _)); first | (first | exact AllLe.refl _ | (repeat' (first | exact trivial | apply Le.aggs | apply Le.tups | apply Le.fns | exact Le.refl _ | refine ⟨?_, ?_⟩))))
    | ((with_reducible refine (?_ : Sc _ (AllRen _ _ _))); refine Sc.of ?_; first | (repeat' (first | exact trivial | apply Le.aggs | apply Le.tups | apply Le.fns | exact Le.refl _ | refine ⟨?_, ?_⟩)))
    | ((with_reducible refine (?_ : (List.all _ _) = true)); rfl)
    | ((with_reducible refine (?_ : (and _ _) = true)); rfl)
    | ((with_reducible refine (?_ : List.Nodup _)); exact nodupB_spec rfl)
    | ((with_reducible refine (?_ : @Eq Nat _ _)); rfl)
    | ((with_reducible refine (?_ : LeOks _ _ _)); first | exact trivial | exact ⟨.refl _, trivial⟩ | exact ⟨.refl _, .refl _, trivial⟩)
    | ((fail_if_success with_reducible refine Stop.go ?_); (first | with_reducible refine And.intro ?_ ?_ | with_reducible refine Cut.go ?_ | (with_reducible (refine impI ?_; intro _)) | (with_reducible refine (?_ : footOK _ _ = true); kernel_rfl) | ((with_reducible refine propI ?_); conv => whnf))))
  all_goals try (exact .of (Nat.le_of_ble_eq_true rfl))
  all_goals try (rename_i h; first | exact absurd h (by decide) | (cases h; done))
  all_goals try (exact .of (by decide))
  all_goals try (exact Sc.imp fun _ => (by decide))
  all_goals try ((with_reducible refine (?_ : Side _)); first | exact Side.mk (few_ok (not_f (by assumption))).1 | (have g := chg_g ‹(bif !fewB t then true else !inB k 0 100000000) = false›; exact Side.mk g.1))
  all_goals try (exact .mk [] [] _ rfl (.le (.refl _)) trivial rfl)
  all_goals try (exact .mk [] [] _ rfl (.le (.boolT (by rw [rule_no ‹(bif (bif ruleAtE t p != 0 then ruleAtE t p != 12 else false) then ruleAtE t p != 13 else false) = true›]; rfl))) trivial rfl)
  all_goals have hg := rule_gate ‹(bif (bif ruleAtE t p != 0 then ruleAtE t p != 12 else false) then ruleAtE t p != 13 else false) = false›
  all_goals have bm := mom_bd (gate_ok.1 hg).2.2
  all_goals try (exact Sc.imp fun _ => ⟨by omega, by omega⟩)
  all_goals try (exfalso; have c := eq_of_beq ‹(chE t p == 0) = true›; have v := ‹(bif ruleAtN t ⟨p.z, chM t p⟩ == ruleAtN t p then ruleAtE t ⟨p.z, chM t p⟩ == ruleAtE t p else false) = true›; exact chg_differs hg c ⟨eq_of_beq (and_t v).1, eq_of_beq (and_t v).2⟩)
  all_goals try (have nl := ‹(laterE p.m k == 0) = false›; exact .mk [] [] _ rfl (.le (.boolT (by simp))) trivial rfl)
  all_goals have L := later_0 (eq_of_beq ‹(laterE p.m k == 0) = true›)
  all_goals have q1 : momB (laterM p.m k) = true := (congrArg momB L.2.2.1).trans L.2.2.2
  all_goals have q2 := later_le L.1 L.2.1.1
  all_goals rw [← L.2.2.1] at q2
  · have c := eq_of_beq ‹(chE t p == 0) = true›
    exact .mk [] [] _ rfl (.le (.boolT (chg_q hg q1 q2 fun b => .inl ⟨c, ah_1 b⟩))) trivial rfl
  · exact .mk [] [] _ rfl (.le (.boolT (chg_q hg q1 q2 fun b => .inr (ah_2 b)))) trivial rfl
end
end Go.Fx
