/-
  The body of TariffCovered.
-/
import Derived.Test.YtgegfljeglphlaaGreatDoorGk
import Derived.Test.YtgegfljeglphlaaGreatDoorGv
import Derived.Test.YtgegfljeglphlaaGreatDoorGf

set_option linter.all false

/-
  Gaps and overlaps: what a place says of them.
-/
namespace Go.Fx
open Go.Proofs Go.RowKit

structure Cov (t : Trf) (lo hi : Int) (p : Plc) : Prop where
  c : fnE t lo hi 12 = 0 ∨ fnE t lo hi 12 = 12 ∨ (fnE t lo hi 13 = fnE t lo hi 12 ∧ trfE t ≠ 0)
  o : fnE t lo hi 12 = 0 ∨ fnE t lo hi 12 = 12 → fnE t lo hi 13 = 0 ∨ fnE t lo hi 13 = 12
  g : fnE t lo hi 12 = 0 → ruleAtE t (fnP t lo hi 12) = 12
  v : fnE t lo hi 13 = 0 → ruleAtE t (fnP t lo hi 13) = 13 ∧ fnL t lo hi 13 0 < fnL t lo hi 13 1
  n : ∀ e, (e = 12 ∨ e = 13) → inB p.m.d lo hi = true → (fnE t lo hi 12 = 0 ∨ fnE t lo hi 12 = 12) → ruleAtE t p = e → fnE t lo hi e = 0 ∧ aftB (fnP t lo hi e).m p.m = false
theorem cov_e {t : Trf} {lo hi : Int} (h : trfE t ≠ 0) : ∀ e, fnE t lo hi e = trfE t := fun e => by
  have g := gp_t (lo := lo) (hi := hi) h
  rw [(fn_e (e := e) (by rw [g]; exact h)).1, g]
theorem trfE_nn {t : Trf} (h : trfE t ≠ 0) : trfE t ≠ 12 := by have := trfE_le t; omega
theorem sk_two {t : Trf} (ht : trfE t = 0) {lo hi e : Int} (D : DatOk lo hi) : skE t lo hi e = 0 ∨ skE t lo hi e = 12 := by
  rcases sk_cases (e := e) ht D with ⟨a, _⟩ | ⟨a, _⟩
  · exact .inl a
  · exact .inr a
theorem sk_at {t : Trf} (ht : trfE t = 0) {lo hi e : Int} (D : DatOk lo hi) (h : skE t lo hi e = 0) : ruleAtE t (skP t lo hi e) = e ∧ skL t lo hi e = (holdI t (skP t lo hi e) t.rules.length).take 2 := by
  rcases sk_cases (e := e) ht D with ⟨_, w, g, l⟩ | ⟨a, _⟩
  · exact ⟨(ruleAt_0 g).1.trans w, l⟩
  · rw [h] at a; cases a
theorem sk_near {t : Trf} (ht : trfE t = 0) {lo hi e : Int} (D : DatOk lo hi) {p : Plc} (hp : inB p.m.d lo hi = true) (he : e = 12 ∨ e = 13) (h : ruleAtE t p = e) : skE t lo hi e = 0 ∧ aftB (skP t lo hi e).m p.m = false := by
  have g := ruleAt_gate (t := t) (p := p) (by omega)
  have g' := gate_ok.1 g
  have n : nowE t p = e := (ruleAt_0 g).1.symm.trans h
  have b := inB_iff.1 hp
  have d := D.le
  have w := seek_cover ht (lo := lo) (n := nD lo hi) g'.2.1 g'.2.2 b.1 (by unfold nD; omega) n
  unfold skE skP
  rw [decide_eq_true w.1]
  refine ⟨rfl, ?_⟩
  show aftB (seekR t lo e (nD lo hi)).m p.m = false
  unfold aftB
  rcases w.2 with q | ⟨q, r⟩
  · rw [decide_eq_false (by omega), beq_eq_false_iff_ne.2 (by omega)]; rfl
  · rw [decide_eq_false (by omega), q, beq_self_eq_true, decide_eq_false (by omega)]; rfl
theorem cov_of (t : Trf) (lo hi : Int) (p : Plc) (hd : datE lo hi = 0) : Cov t lo hi p := by
  have D := dat_0 hd
  by_cases ht : trfE t = 0
  · have g : gpE t lo hi = 0 := (gp_d ht).trans hd
    have f := fun e => fn_0 (e := e) g
    refine ⟨?_, fun _ => ?_, fun h => ?_, fun h => ?_, fun e he hp _ h => ?_⟩
    · rw [(f 12).1]; rcases sk_two (e := 12) ht D with a | a
      · exact .inl a
      · exact .inr (.inl a)
    · rw [(f 13).1]; exact sk_two ht D
    · rw [(f 12).1] at h; rw [(f 12).2.1]; exact (sk_at ht D h).1
    · rw [(f 13).1] at h; rw [(f 13).2.1, (f 13).2.2, (f 13).2.2]
      have w := sk_at ht D h
      refine ⟨w.1, ?_⟩
      have l2 := sk_13 ht D h
      rw [w.2] at l2 ⊢
      have pw := holdI_srt t (skP t lo hi 13) t.rules.length
      generalize holdI t (skP t lo hi 13) t.rules.length = L at *
      match L, l2, pw with
      | a :: b :: r, _, pw => exact (List.pairwise_cons.1 pw).1 b (List.mem_cons_self ..)
      | [a], l2, _ => simp at l2
      | [], l2, _ => simp at l2
    · have w := sk_near ht D hp he h
      rw [(f e).1, (f e).2.1]; exact w
  · have f := cov_e (lo := lo) (hi := hi) ht
    have n := trfE_nn ht
    have no : ∀ e, ¬ fnE t lo hi e = 0 := fun e => by rw [f e]; exact ht
    have no2 : ¬ (fnE t lo hi 12 = 0 ∨ fnE t lo hi 12 = 12) := by rw [f]; rintro (q | q); exact ht q; exact n q
    exact ⟨.inr (.inr ⟨by rw [f, f], ht⟩), fun h => absurd h no2, fun h => absurd h (no _), fun h => absurd h (no _), fun e _ _ h _ => absurd h no2⟩
theorem two_or {a : Int} (h : (bif a != 0 then a != 12 else false) = false) : a = 0 ∨ a = 12 := by
  by_cases c : a = 0
  · exact .inl c
  · rw [show (a != 0) = true from bne_iff_ne.2 c] at h
    exact .inr (bne_eq_false_iff_eq.1 h)
theorem two_no {a : Int} (h : (bif a != 0 then a != 12 else false) = true) : ¬ (a = 0 ∨ a = 12) := by
  rintro (c | c) <;> rw [c] at h <;> cases h
section
variable {t : Trf} {lo hi : Int} {p : Plc} (K : Cov t lo hi p)
include K
theorem cov_2 (h : (bif fnE t lo hi 12 != 0 then fnE t lo hi 12 != 12 else false) = true) : (bif fnE t lo hi 13 == fnE t lo hi 12 then trfE t != 0 else false) = true := by
  have n := two_no h
  rcases K.c with c | c | ⟨c, d⟩
  · exact absurd (.inl c) n
  · exact absurd (.inr c) n
  · rw [c, beq_self_eq_true, show (trfE t != 0) = true from bne_iff_ne.2 d]; rfl
theorem cov_3 (h : (fnE t lo hi 12 == 0) = true) (h2 : (ruleAtE t (fnP t lo hi 12) != 12) = true) : False :=
  bne_iff_ne.1 h2 (K.g (eq_of_beq h))
theorem cov_4 (h : (fnE t lo hi 13 == 0) = true) (h2 : (bif ruleAtE t (fnP t lo hi 13) != 13 then true else decide (fnL t lo hi 13 1 ≤ fnL t lo hi 13 0)) = true) : False := by
  have w := K.v (eq_of_beq h)
  rw [w.1, decide_eq_false (by omega)] at h2
  cases h2
theorem cov_5 (h : (bif fnE t lo hi 12 != 0 then fnE t lo hi 12 != 12 else false) = false) (h2 : (bif fnE t lo hi 13 != 0 then fnE t lo hi 13 != 12 else false) = true) : False :=
  two_no h2 (K.o (two_or h))
theorem cov_n (e : Int) (he : e = 12 ∨ e = 13) (hp : (!inB p.m.d lo hi) = false) (h : (bif fnE t lo hi 12 != 0 then fnE t lo hi 12 != 12 else false) = false) (h2 : (ruleAtE t p == e) = true) : (bif fnE t lo hi e == 0 then !aftB (fnP t lo hi e).m p.m else false) = true := by
  have w := K.n e he (by cases c : inB p.m.d lo hi; rw [c] at hp; cases hp; rfl) (two_or h) (eq_of_beq h2)
  rw [w.1, w.2]; rfl
end
end Go.Fx

/-
  Pairs of numbers, read off the row's data.
-/
namespace Go.Fx
open Go.Proofs

section
variable {H : Type}
end
end Go.Fx

/-
  Ranges, read off the row's data.
-/
namespace Go.Fx
open Go.Proofs

section
variable {H : Type}
theorem rng_arg (d : DataW H) : argAV Tt 6 77 d = rngC (dI (dN d 0)) (dI (dN d 1)) := by kernel_rfl
end
end Go.Fx

/-
  The body of TariffCovered.
-/
namespace Go.Fx
open Go.Proofs Go.RowKit
theorem cov_h {t : Trf} {lo hi : Int} (h : (bif !fewB t then true else datE lo hi != 0) = false) : DatOk lo hi := by
  cases hf : fewB t
  · rw [hf] at h; cases h
  · rw [hf] at h; exact dat_0 (bne1 h)
theorem cov_g {t : Trf} {lo hi : Int} (h : (bif (bif !fewB t then true else datE lo hi != 0) then true else decide (20 ≤ hi - lo)) = false) : fewB t = true ∧ datE lo hi = 0 := by
  cases hf : fewB t
  · rw [hf] at h; cases h
  · rw [hf] at h
    cases hd : (datE lo hi != 0)
    · exact ⟨rfl, bne1 hd⟩
    · rw [hd] at h; cases h
section
variable {W0 : World} (hX : (Xc W0 Gt).Good) (haw : Pure (Xc W0 Gt) 13 [] (.bool true))
include hX haw
omit haw in
theorem c53 (m k : Mom) : Pure (Xc W0 Gt) 53 [momA m, momA k] (.bool (aftB m k)) := by
  refine mut_of' hX (show FnIs (Xc W0 Gt) 53 Tryz.f53 (codeOf Tryz.f53) from ⟨by kernel_rfl, by kernel_rfl, by kernel_rfl, by kernel_rfl⟩) rfl ?_
  repeat' (first
    | ((with_reducible refine (?_ : Alt _ _)); first | fail | (with_reducible refine Alt.one ?_))
    | ((with_reducible refine (?_ : AllLe _ _)); first | (first | exact AllLe.refl _ | (repeat' (first | exact trivial | apply Le.aggs | apply Le.tups | apply Le.fns | exact Le.refl _ | refine ⟨?_, ?_⟩))))
    | ((with_reducible refine (?_ : Sc _ (AllRen _ _ _))); refine Sc.of ?_; first | (repeat' (first | exact trivial | apply Le.aggs | apply Le.tups | apply Le.fns | exact Le.refl _ | refine ⟨?_, ?_⟩)))
    | ((with_reducible refine (?_ : (List.all _ _) = true)); rfl)
    | ((with_reducible refine (?_ : (and _ _) = true)); rfl)
    | ((with_reducible refine (?_ : List.Nodup _)); exact nodupB_spec rfl)
    | ((with_reducible refine (?_ : @Eq Nat _ _)); rfl)
    | ((with_reducible refine (?_ : LeOks _ _ _)); first | exact trivial | exact ⟨.refl _, trivial⟩ | exact ⟨.refl _, .refl _, trivial⟩)
    | ((fail_if_success with_reducible refine Stop.go ?_); (first | with_reducible refine And.intro ?_ ?_ | with_reducible refine Cut.go ?_ | (with_reducible (refine impI ?_; intro _)) | (with_reducible refine (?_ : footOK _ _ = true); kernel_rfl) | ((with_reducible refine propI ?_); conv => whnf))))
  all_goals try (exact .of (Nat.le_of_ble_eq_true rfl))
  all_goals exact .mk [] [] _ rfl (.le (.refl _)) trivial rfl
theorem c11 (t : Trf) (lo hi : Int) (p : Plc) : Pure (Xc W0 Gt) 11 [trfA t, rngC lo hi, plcA p] (.bool true) := by
  refine mut_of' hX (show FnIs (Xc W0 Gt) 11 Tryz.f11 (codeOf Tryz.f11) from ⟨by kernel_rfl, by kernel_rfl, by kernel_rfl, by kernel_rfl⟩) rfl ?_
  repeat' (first
    | ((with_reducible refine (?_ : Alt _ _)); first | (with_reducible apply callAlt (haw)) | (with_reducible apply callAlt (c14 hX t)) | (with_reducible apply callAlt (c16 hX t ?_)) | (with_reducible apply callAlt (c27 hX _ _ _)) | (with_reducible apply callAlt (c48 hX t lo hi ?_)) | (with_reducible apply callAlt (c49 hX t lo hi ?_)) | (with_reducible apply callAlt (c20 hX t ?_)) | (with_reducible apply callAlt (c50 hX lo hi)) | ((with_reducible apply callAlt (c18 hX t (fnP t lo hi 12) ?_)); case hl => (first | exact AllLe.refl _ | ((repeat' (first | exact trivial | apply Le.aggs | apply Le.tups | apply Le.fns | exact Le.refl _ | refine ⟨?_, ?_⟩)); done))) | ((with_reducible apply callAlt (c18 hX t (fnP t lo hi 13) ?_)); case hl => (first | exact AllLe.refl _ | ((repeat' (first | exact trivial | apply Le.aggs | apply Le.tups | apply Le.fns | exact Le.refl _ | refine ⟨?_, ?_⟩)); done))) | ((with_reducible apply callAlt (c18 hX t p ?_)); case hl => (first | exact AllLe.refl _ | ((repeat' (first | exact trivial | apply Le.aggs | apply Le.tups | apply Le.fns | exact Le.refl _ | refine ⟨?_, ?_⟩)); done))) | ((with_reducible apply callAlt (c53 hX (fnP t lo hi 12).m p.m)); case hl => (first | exact AllLe.refl _ | ((repeat' (first | exact trivial | apply Le.aggs | apply Le.tups | apply Le.fns | exact Le.refl _ | refine ⟨?_, ?_⟩)); done))) | ((with_reducible apply callAlt (c53 hX (fnP t lo hi 13).m p.m)); case hl => (first | exact AllLe.refl _ | ((repeat' (first | exact trivial | apply Le.aggs | apply Le.tups | apply Le.fns | exact Le.refl _ | refine ⟨?_, ?_⟩)); done))) | (with_reducible refine Alt.one ?_))
    | ((with_reducible refine (?_ : AllLe _ _)); first | (first | exact AllLe.refl _ | (repeat' (first | exact trivial | apply Le.aggs | apply Le.tups | apply Le.fns | exact Le.refl _ | refine ⟨?_, ?_⟩))))
    | ((with_reducible refine (?_ : Sc _ (AllRen _ _ _))); refine Sc.of ?_; first | (repeat' (first | exact trivial | apply Le.aggs | apply Le.tups | apply Le.fns | exact Le.refl _ | refine ⟨?_, ?_⟩)))
    | ((with_reducible refine (?_ : (List.all _ _) = true)); rfl)
    | ((with_reducible refine (?_ : (and _ _) = true)); rfl)
    | ((with_reducible refine (?_ : List.Nodup _)); exact nodupB_spec rfl)
    | ((with_reducible refine (?_ : @Eq Nat _ _)); rfl)
    | ((with_reducible refine (?_ : LeOks _ _ _)); first | exact trivial | exact ⟨.refl _, trivial⟩ | exact ⟨.refl _, .refl _, trivial⟩)
    | ((fail_if_success with_reducible refine Stop.go ?_); (first | with_reducible refine And.intro ?_ ?_ | with_reducible refine Cut.go ?_ | (with_reducible (refine impI ?_; intro _)) | (with_reducible refine (?_ : footOK _ _ = true); kernel_rfl) | ((with_reducible refine propI ?_); conv => whnf))))
  all_goals try (exact .of (Nat.le_of_ble_eq_true rfl))
  all_goals try (rename_i h; first | exact absurd h (by decide) | (cases h; done))
  all_goals try (exact .of (by decide))
  all_goals try (exact Sc.imp fun _ => (by decide))
  all_goals try (exact Sc.imp fun v => (by have D := cov_h v; have d1 := D.a; have d2 := D.b; have d3 := D.le; exact ⟨by omega, by omega⟩))
  all_goals try (exact Side.mk (few_ok (not_f (by assumption))).1)
  all_goals try ((with_reducible refine (?_ : Side (TOk t))); exact Side.mk (few_ok (cov_g ‹(bif (bif !fewB t then true else datE lo hi != 0) then true else decide (20 ≤ hi - lo)) = false›).1).1)
  all_goals try (exact .mk [] [] _ rfl (.le (.refl _)) trivial rfl)
  all_goals try (have K := cov_of t lo hi p (cov_g ‹(bif (bif !fewB t then true else datE lo hi != 0) then true else decide (20 ≤ hi - lo)) = false›).2; exfalso; exact cov_3 K ‹(fnE t lo hi 12 == 0) = true› ‹(ruleAtE t (fnP t lo hi 12) != 12) = true›)
  all_goals try (have K := cov_of t lo hi p (cov_g ‹(bif (bif !fewB t then true else datE lo hi != 0) then true else decide (20 ≤ hi - lo)) = false›).2; exfalso; exact cov_4 K ‹(fnE t lo hi 13 == 0) = true› ‹(bif ruleAtE t (fnP t lo hi 13) != 13 then true else decide (fnL t lo hi 13 1 ≤ fnL t lo hi 13 0)) = true›)
  all_goals try (have K := cov_of t lo hi p (cov_g ‹(bif (bif !fewB t then true else datE lo hi != 0) then true else decide (20 ≤ hi - lo)) = false›).2; exfalso; exact cov_5 K ‹(bif fnE t lo hi 12 != 0 then fnE t lo hi 12 != 12 else false) = false› ‹(bif fnE t lo hi 13 != 0 then fnE t lo hi 13 != 12 else false) = true›)
  all_goals try (have K := cov_of t lo hi p (cov_g ‹(bif (bif !fewB t then true else datE lo hi != 0) then true else decide (20 ≤ hi - lo)) = false›).2; exact .mk [] [] _ rfl (.le (.boolT (cov_2 K ‹(bif fnE t lo hi 12 != 0 then fnE t lo hi 12 != 12 else false) = true›))) trivial rfl)
  all_goals try (have K := cov_of t lo hi p (cov_g ‹(bif (bif !fewB t then true else datE lo hi != 0) then true else decide (20 ≤ hi - lo)) = false›).2; exact .mk [] [] _ rfl (.le (.boolT (cov_n K 12 (.inl rfl) ‹(!inB p.m.d lo hi) = false› ‹(bif fnE t lo hi 12 != 0 then fnE t lo hi 12 != 12 else false) = false› ‹(ruleAtE t p == 12) = true›))) trivial rfl)
  all_goals try (have K := cov_of t lo hi p (cov_g ‹(bif (bif !fewB t then true else datE lo hi != 0) then true else decide (20 ≤ hi - lo)) = false›).2; exact .mk [] [] _ rfl (.le (.boolT (cov_n K 13 (.inr rfl) ‹(!inB p.m.d lo hi) = false› ‹(bif fnE t lo hi 12 != 0 then fnE t lo hi 12 != 12 else false) = false› ‹(ruleAtE t p == 13) = true›))) trivial rfl)

end
end Go.Fx
