/-
  The body of TariffGaps.
-/
import Derived.Test.YtgegfljeglphlaaGreatDoorGk
import Derived.Test.YtgegfljeglphlaaGreatDoorGv
import Derived.Test.YtgegfljeglphlaaGreatDoorGf

set_option linter.all false

/-
  Gaps and overlaps: what a place says of them.
-/
namespace Go.Fx
open Go.Proofs Go.RowKit

structure Cov (t : Trf) (lo hi : Int) (p : Plc) : Prop where
  c : fnE t lo hi 12 = 0 ∨ fnE t lo hi 12 = 12 ∨ (fnE t lo hi 13 = fnE t lo hi 12 ∧ trfE t ≠ 0)
  o : fnE t lo hi 12 = 0 ∨ fnE t lo hi 12 = 12 → fnE t lo hi 13 = 0 ∨ fnE t lo hi 13 = 12
  g : fnE t lo hi 12 = 0 → ruleAtE t (fnP t lo hi 12) = 12
  v : fnE t lo hi 13 = 0 → ruleAtE t (fnP t lo hi 13) = 13 ∧ fnL t lo hi 13 0 < fnL t lo hi 13 1
  n : ∀ e, (e = 12 ∨ e = 13) → inB p.m.d lo hi = true → (fnE t lo hi 12 = 0 ∨ fnE t lo hi 12 = 12) → ruleAtE t p = e → fnE t lo hi e = 0 ∧ aftB (fnP t lo hi e).m p.m = false
theorem sk_two {t : Trf} (ht : trfE t = 0) {lo hi e : Int} (D : DatOk lo hi) : skE t lo hi e = 0 ∨ skE t lo hi e = 12 := by
  rcases sk_cases (e := e) ht D with ⟨a, _⟩ | ⟨a, _⟩
  · exact .inl a
  · exact .inr a
section
variable {t : Trf} {lo hi : Int} {p : Plc} (K : Cov t lo hi p)
include K
end
end Go.Fx

/-
  Pairs of numbers, read off the row's data.
-/
namespace Go.Fx
open Go.Proofs

section
variable {H : Type}
end
end Go.Fx

/-
  Ranges, read off the row's data.
-/
namespace Go.Fx
open Go.Proofs

section
variable {H : Type}
theorem rng_arg (d : DataW H) : argAV Tt 6 77 d = rngC (dI (dN d 0)) (dI (dN d 1)) := by kernel_rfl
end
end Go.Fx

/-
  The body of TariffGaps.
-/
namespace Go.Fx
open Go.Proofs Go.RowKit
theorem gap_few {t : Trf} {b : Bool} (h : (bif !fewB t then true else b) = false) : TOk t := by
  cases hf : fewB t
  · rw [hf] at h; cases h
  · exact (few_ok hf).1
theorem gap_bad {t : Trf} {lo hi c : Int} (h : gpE t lo hi = c) (h0 : c ≠ 0) (e : Int) : fnE t lo hi e = c ∧ fnP t lo hi e = ⟨0, ⟨0, 0⟩⟩ ∧ ∀ i, fnL t lo hi e i = 0 := by
  have w := fn_e (e := e) (h ▸ h0 : gpE t lo hi ≠ 0)
  exact ⟨w.1.trans h, w.2⟩
section
variable {W0 : World} (hX : (Xc W0 Gt).Good) (haw : Pure (Xc W0 Gt) 13 [] (.bool true))
include hX haw
theorem c10 (t : Trf) (lo hi : Int) : Pure (Xc W0 Gt) 10 [trfA t, rngC lo hi] (.bool true) := by
  refine mut_of' hX (show FnIs (Xc W0 Gt) 10 Tryz.f10 (codeOf Tryz.f10) from ⟨by kernel_rfl, by kernel_rfl, by kernel_rfl, by kernel_rfl⟩) rfl ?_
  repeat' (first
    | ((with_reducible refine (?_ : Alt _ _)); first | (with_reducible apply callAlt (haw)) | (with_reducible apply callAlt (c14 hX t)) | (with_reducible apply callAlt (c16 hX t ?_)) | ((with_reducible apply callAlt (c27 hX _ _ _)); case hl => (first | exact AllLe.refl _ | ((repeat' (first | exact trivial | apply Le.aggs | apply Le.tups | apply Le.fns | exact Le.refl _ | refine ⟨?_, ?_⟩)); done))) | (with_reducible apply callAlt (c48 hX t lo hi ?_)) | (with_reducible apply callAlt (c49 hX t lo hi ?_)) | (with_reducible apply callAlt (c20 hX t ?_)) | (with_reducible apply callAlt (c50 hX lo hi)) | (with_reducible apply callAlt (c51 hX t lo hi ?_ ?_)) | (with_reducible apply callAlt (c52 hX t lo hi ?_ ?_)) | (with_reducible refine Alt.one ?_))
    | ((with_reducible refine (?_ : AllLe _ _)); first | (first | exact AllLe.refl _ | (repeat' (first | exact trivial | apply Le.aggs | apply Le.tups | apply Le.fns | exact Le.refl _ | refine ⟨?_, ?_⟩))))
    | ((with_reducible refine (?_ : Sc _ (AllRen _ _ _))); refine Sc.of ?_; first | (repeat' (first | exact trivial | apply Le.aggs | apply Le.tups | apply Le.fns | exact Le.refl _ | refine ⟨?_, ?_⟩)))
    | ((with_reducible refine (?_ : (List.all _ _) = true)); rfl)
    | ((with_reducible refine (?_ : (and _ _) = true)); rfl)
    | ((with_reducible refine (?_ : List.Nodup _)); exact nodupB_spec rfl)
    | ((with_reducible refine (?_ : @Eq Nat _ _)); rfl)
    | ((with_reducible refine (?_ : LeOks _ _ _)); first | exact trivial | exact ⟨.refl _, trivial⟩ | exact ⟨.refl _, .refl _, trivial⟩)
    | ((fail_if_success with_reducible refine Stop.go ?_); (first | with_reducible refine And.intro ?_ ?_ | with_reducible refine Cut.go ?_ | (with_reducible (refine impI ?_; intro _)) | (with_reducible refine (?_ : footOK _ _ = true); kernel_rfl) | ((with_reducible refine propI ?_); conv => whnf))))
  all_goals try (exact .of (Nat.le_of_ble_eq_true rfl))
  all_goals try (rename_i h; first | exact absurd h (by decide) | (cases h; done))
  all_goals try (exact Sc.imp fun v => (by have b := inB_iff.1 v.2; exact ⟨by omega, by omega⟩))
  all_goals try (exact Side.mk (few_ok (not_f (by assumption))).1)
  all_goals try ((with_reducible refine (?_ : Side (TOk t))); exact Side.mk (gap_few ‹(bif !fewB t then true else bif inB lo 0 100000 then inB hi (lo + 20) (lo + 400 - 1) else false) = false›))
  all_goals try ((with_reducible refine (?_ : Side _)); exact Side.mk ⟨eq_of_beq ‹(trfE t == 0) = true›, dat_0 (bne1 ‹(datE lo hi != 0) = false›)⟩)
  all_goals try (exact .mk [] [] _ rfl (.le (.refl _)) trivial rfl)
  all_goals try (exfalso; have a := ‹(trfE t == 0) = false›; have b := ‹(trfE t != 0) = false›; simp [bne1 b] at a; done)
  all_goals try (have a := bne0 ‹(datE lo hi != 0) = true›; have F := gap_bad (gp_d (lo := lo) (hi := hi) (eq_of_beq ‹(trfE t == 0) = true›)) a; exact .mk [] [] _ rfl (.le (.boolT (by simp [(F 12).1, (F 12).2.1, (F 12).2.2, (F 13).1, (F 13).2.1, (F 13).2.2]))) trivial rfl)
  all_goals try (have a := bne0 ‹(trfE t != 0) = true›; have F := gap_bad (gp_t (lo := lo) (hi := hi) a) a; exact .mk [] [] _ rfl (.le (.boolT (by simp [(F 12).1, (F 12).2.1, (F 12).2.2, (F 13).1, (F 13).2.1, (F 13).2.2]))) trivial rfl)
  all_goals try (have ht := eq_of_beq ‹(trfE t == 0) = true›; have hd := bne1 ‹(datE lo hi != 0) = false›; have D := dat_0 hd; have F := fun e => fn_0 (e := e) ((gp_d (lo := lo) (hi := hi) ht).trans hd); exfalso; rename_i v; rcases sk_two (e := 12) ht D with s | s
                 · simp [s, (F 12).1, (F 12).2.1, (F 12).2.2, (F 13).1, (F 13).2.1, (F 13).2.2] at v; done
                 · have b := sk_bad (e := 12) (t := t) (lo := lo) (hi := hi) (by rw [s]; decide); simp [s, b.1, (F 12).1, (F 12).2.1, (F 12).2.2, (F 13).1, (F 13).2.1, (F 13).2.2] at v; done)
  all_goals try (have ht := eq_of_beq ‹(trfE t == 0) = true›; have hd := bne1 ‹(datE lo hi != 0) = false›; have D := dat_0 hd; have F := fun e => fn_0 (e := e) ((gp_d (lo := lo) (hi := hi) ht).trans hd); rcases sk_two (e := 13) ht D with s | s
                 · exact .mk [] [] _ rfl (.le (.boolT (by simp [s, (F 12).1, (F 12).2.1, (F 12).2.2, (F 13).1, (F 13).2.1, (F 13).2.2]))) trivial rfl
                 · have b := sk_bad (e := 13) (t := t) (lo := lo) (hi := hi) (by rw [s]; decide); exact .mk [] [] _ rfl (.le (.boolT (by simp [s, b.1, b.2, (F 12).1, (F 12).2.1, (F 12).2.2, (F 13).1, (F 13).2.1, (F 13).2.2]))) trivial rfl)

end
end Go.Fx
