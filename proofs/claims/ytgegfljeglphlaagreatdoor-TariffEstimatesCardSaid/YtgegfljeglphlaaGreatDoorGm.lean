/-
  The body of TariffEstimates.
-/
import Derived.Test.YtgegfljeglphlaaGreatDoorGv
import Derived.Test.YtgegfljeglphlaaGreatDoorGk
import Derived.Test.YtgegfljeglphlaaGreatDoorGf

set_option linter.all false

/-
  Pairs of numbers, read off the row's data.
-/
namespace Go.Fx
open Go.Proofs

section
variable {H : Type}
theorem pr2_arg (d : DataW H) : argAV Tt 6 64 d = .agg 2 (tbl [.int .i64 (dI (dN d 0)), .int .i64 (dI (dN d 1))]) := by kernel_rfl
end
end Go.Fx

/-
  Questions, read off the row's data.
-/
namespace Go.Fx
open Go.Proofs

section
variable {H : Type}
def qstOf (d : DataW H) : Qst := ⟨plcOf (dN d 0), dI (dN (dN d 1) 0), dI (dN (dN d 1) 1), dI (dN (dN d 2) 0), dI (dN (dN d 2) 1)⟩
theorem qst_arg (d : DataW H) : argAV Tt 6 93 d = qstA (qstOf d) := by kernel_rfl
end
end Go.Fx

/-
  The body of TariffEstimates.
-/
namespace Go.Fx
open Go.Proofs Go.RowKit
theorem bd_of {t : Trf} {q : Qst} (h : (estE t q != 0) = false) : EstOk t q := est_0 (est_ok (bne1 h)).1
theorem bd_mod {q : Qst} {t : Trf} (E : EstOk t q) (a b : Int) : (q.ml ≤ q.ml + modQ a (q.mh - q.ml + 1) ∧ q.ml + modQ a (q.mh - q.ml + 1) ≤ q.mh) ∧ (q.sl ≤ q.sl + modQ b (q.sh - q.sl + 1) ∧ q.sl + modQ b (q.sh - q.sl + 1) ≤ q.sh) := by
  have h1 := E.om; have h2 := E.os
  have m1 := modQ_bd (n := a) (k := q.mh - q.ml + 1) (by omega)
  have m2 := modQ_bd (n := b) (k := q.sh - q.sl + 1) (by omega)
  omega
section
variable {W0 : World} (hX : (Xc W0 Gt).Good) (haw : Pure (Xc W0 Gt) 13 [] (.bool true))
include hX haw
omit haw in
theorem c32q (t : Trf) (q : Qst) (a b : Int) (hs : Side (TOk t ∧ XOk (estX t q a b))) (hr : Side (rideE t (estX t q a b) = 0)) (f g : Nat → Nat → AV) (hf : Side (∀ i, i < t.extras.length → f i 0 = .int .i64 0)) (hg : Side (segIs q a b g)) : Mut (Xc W0 Gt) 32 [trfA t, estO q g] [zrO t.extras.length f] (.tup 2 (tbl [fareA t (estX t q a b) (ptX t (estX t q a b)), .int .i64 (fareE t (estX t q a b) (ptX t (estX t q a b)))])) [zrO t.extras.length f] :=
  Mut.look (c32 hX t (estX t q a b) hs hr.get) rfl rfl (estO_le t hf.get hg.get)
theorem c9 (t : Trf) (q : Qst) (a b : Int) : Pure (Xc W0 Gt) 9 [trfA t, qstA q, .agg 2 (tbl [.int .i64 a, .int .i64 b])] (.bool true) := by
  refine mut_of' hX (show FnIs (Xc W0 Gt) 9 Tryz.f9 (codeOf Tryz.f9) from ⟨by kernel_rfl, by kernel_rfl, by kernel_rfl, by kernel_rfl⟩) rfl ?_
  repeat' (first
    | ((with_reducible refine (?_ : Alt _ _)); first | (with_reducible apply callAlt (haw)) | (with_reducible apply callAlt (c14 hX t)) | (with_reducible apply callAlt (c16 hX t ?_)) | (with_reducible apply callAlt (c45 hX t q ?_)) | (with_reducible apply callAlt (c46 hX t q ?_)) | ((with_reducible apply callAlt (c27 hX _ _ _)); case hl => (first | exact AllLe.refl _ | ((repeat' (first | exact trivial | apply Le.aggs | apply Le.tups | apply Le.fns | exact Le.refl _ | refine ⟨?_, ?_⟩)); done))) | ((with_reducible apply callAlt (c47 hX a (q.mh - q.ml + 1) ?_)); case hl => (first | exact AllLe.refl _ | ((repeat' (first | exact trivial | apply Le.aggs | apply Le.tups | apply Le.fns | exact Le.refl _ | refine ⟨?_, ?_⟩)); done))) | ((with_reducible apply callAlt (c47 hX b (q.sh - q.sl + 1) ?_)); case hl => (first | exact AllLe.refl _ | ((repeat' (first | exact trivial | apply Le.aggs | apply Le.tups | apply Le.fns | exact Le.refl _ | refine ⟨?_, ?_⟩)); done))) | ((with_reducible (apply altM (ks := [6]) (m := 0); apply And.intro; apply Sc.of; apply (c32q hX t q (q.ml + modQ a (q.mh - q.ml + 1)) (q.sl + modQ b (q.sh - q.sl + 1)) ?_ ?_ _ _ ?_ ?_))); case' right => (refine And.intro (Sc.of ?_) ?_; · ((repeat' (first | exact trivial | apply Le.aggs | apply Le.tups | apply Le.fns | exact Le.refl _ | refine ⟨?_, ?_⟩)); done))) | (with_reducible refine Alt.one ?_))
    | ((with_reducible refine (?_ : AllLe _ _)); first | (first | exact AllLe.refl _ | (repeat' (first | exact trivial | apply Le.aggs | apply Le.tups | apply Le.fns | exact Le.refl _ | refine ⟨?_, ?_⟩))))
    | ((with_reducible refine (?_ : Sc _ (AllRen _ _ _))); refine Sc.of ?_; first | (repeat' (first | exact trivial | apply Le.aggs | apply Le.tups | apply Le.fns | exact Le.refl _ | refine ⟨?_, ?_⟩)))
    | ((with_reducible refine (?_ : (List.all _ _) = true)); rfl)
    | ((with_reducible refine (?_ : (and _ _) = true)); rfl)
    | ((with_reducible refine (?_ : List.Nodup _)); exact nodupB_spec rfl)
    | ((with_reducible refine (?_ : @Eq Nat _ _)); rfl)
    | ((with_reducible refine (?_ : LeOks _ _ _)); first | exact trivial | exact ⟨.refl _, trivial⟩ | exact ⟨.refl _, .refl _, trivial⟩)
    | ((fail_if_success with_reducible refine Stop.go ?_); (first | with_reducible refine And.intro ?_ ?_ | with_reducible refine Cut.go ?_ | (with_reducible (refine impI ?_; intro _)) | (with_reducible refine (?_ : footOK _ _ = true); kernel_rfl) | ((with_reducible refine propI ?_); conv => whnf))))
  all_goals try (exact .of (Nat.le_of_ble_eq_true rfl))
  all_goals try (rename_i h; first | exact absurd h (by decide) | (cases h; done))
  all_goals try (exact .of (by decide))
  all_goals try (exact Side.mk (few_ok (not_f (by assumption))).1)
  all_goals try (rename_i v; have E := bd_of v; have m := bd_mod E a b; have b1 := E.ml; have b2 := E.mh; have b3 := E.sl; have b4 := E.sh; have b5 := E.om; have b6 := E.os; first | exact .of ⟨by omega, by omega⟩ | exact Side.mk ⟨by omega, by omega⟩)
  all_goals try (rename_i g0 _ v; have k0 := (few_ok (not_f g0)).1; have k1 := k0.extras; have E := bd_of v; have m := bd_mod E a b; have b1 := E.ml; have b2 := E.mh; have b3 := E.sl; have b4 := E.sh; have b5 := E.om; have b6 := E.os; first | (refine Sc.of ⟨rfl, by omega, ?_, by omega⟩; show (t.extras.length : Int).toNat * 8 ≤ 281474976710656; omega) | exact Side.mk ⟨k0, est_xok k0 q _ _⟩ | exact Side.mk (est_in (bne1 v) m.1 m.2).1 | exact Side.mk (fun i hi => rfl) | exact Side.mk ⟨rfl, rfl, rfl⟩)
  all_goals try (exact .mk [] [] _ rfl (.le (.refl _)) trivial rfl)
  all_goals try (exfalso; rename_i v; simp at v; done)
  · rename_i v; have E := bd_of v; have m := bd_mod E a b; have b1 := E.ml; have b2 := E.mh; have b3 := E.sl; have b4 := E.sh; have b5 := E.om; have b6 := E.os; exact .mk [] [] _ rfl (.le (.boolT (by have w := est_in (bne1 v) m.1 m.2; rw [w.2.1, fareZ_0 w.2.1]; exact inB_iff.2 ⟨w.2.2.1, w.2.2.2⟩))) trivial rfl
end
end Go.Fx
