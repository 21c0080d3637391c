/-
  Trips: what is wrong with one; kinds of dates, later moments.
-/
import Derived.Test.YtkinfbkpecjpnaaGreatDoorGs

set_option linter.all false

/-
  Trips: what is wrong with one; kinds of dates, later moments, copies of trips, short ones.
-/
namespace Go.Fx
open Go.Proofs Go.RowKit

theorem bne0 {e : Int} (h : (e != 0) = true) : e ≠ 0 := bne_iff_ne.1 h
theorem bne1 {e : Int} (h : (e != 0) = false) : e = 0 := bne_eq_false_iff_eq.1 h
theorem not_t {b : Bool} (h : (!b) = true) : b = false := by cases b <;> simp_all
theorem not_f {b : Bool} (h : (!b) = false) : b = true := by cases b <;> simp_all
@[irreducible] def kindE (t : Trf) (d : Int) : Int := firstS [trfE t, isOk (inB d 0 100000) 2]
@[irreducible] def kindV (t : Trf) (d : Int) : Int := bif decide (kindE t d = 0) then kindN t d else 0
def shortB (x : Trp) : Bool := bif !manyB x.sg.length 8 60 then decide ((x.ex.length : Int) ≤ 8) else false
section
variable {W0 : World} {G : Nat → Option AV} (hX : (Xc W0 G).Good)
include hX
theorem c8 (x : Trp) (hs : Side (XOk x)) : Pure (Xc W0 G) 8 [trpA x] (trpA x) := by
  have hs := hs.get
  have k1 := hs.ex
  have k2 := hs.sg
  refine mut_of' hX (show FnIs (Xc W0 G) 8 Tryz.f8 (codeOf Tryz.f8) from ⟨by kernel_rfl, by kernel_rfl, by kernel_rfl, by kernel_rfl⟩) rfl ?_
  repeat' (first
    | ((with_reducible refine (?_ : Alt _ _)); first | ((with_reducible apply callAlt (c27 hX x.ex ?_)); case hl => (first | exact AllLe.refl _ | ((repeat' (first | exact trivial | apply Le.aggs | apply Le.tups | apply Le.fns | exact Le.refl _ | refine ⟨?_, ?_⟩)); done))) | (with_reducible refine Alt.one ?_))
    | ((with_reducible refine (?_ : AllLe _ _)); first | (first | exact AllLe.refl _ | (repeat' (first | exact trivial | apply Le.aggs | apply Le.tups | apply Le.fns | exact Le.refl _ | refine ⟨?_, ?_⟩))))
    | ((with_reducible refine (?_ : Sc _ (AllRen _ _ _))); refine Sc.of ?_; first | (repeat' (first | exact trivial | apply Le.aggs | apply Le.tups | apply Le.fns | exact Le.refl _ | refine ⟨?_, ?_⟩)))
    | ((with_reducible refine (?_ : (List.all _ _) = true)); rfl)
    | ((with_reducible refine (?_ : (and _ _) = true)); rfl)
    | ((with_reducible refine (?_ : List.Nodup _)); exact nodupB_spec rfl)
    | ((with_reducible refine (?_ : @Eq Nat _ _)); rfl)
    | ((with_reducible refine (?_ : @Eq (List (Option HObj)) _ _)); kernel_rfl)
    | ((with_reducible refine (?_ : LeOks _ _ _)); first | exact trivial | exact ⟨.refl _, trivial⟩ | exact ⟨.refl _, .refl _, trivial⟩)
    | ((fail_if_success with_reducible refine Stop.go ?_); (first | with_reducible refine And.intro ?_ ?_ | with_reducible refine Cut.go ?_ | (with_reducible (refine impI ?_; intro _)) | (with_reducible refine (?_ : footOK _ _ = true); kernel_rfl) | ((with_reducible refine propI ?_); conv => whnf))))
  all_goals try (exact .of (Nat.le_of_ble_eq_true rfl))
  all_goals try (exact Side.mk (by omega))
  all_goals try (refine Sc.of ⟨?_, by omega⟩; show x.sg.length * 24 ≤ 140737488355328; omega)
  exact .mk [] [2] _ rfl (.aggs ⟨⟨⟨⟨⟨trivial, .le (.refl _)⟩, .le (.refl _)⟩, .le (.refl _)⟩, .le (.refl _)⟩, .own rfl fun _ _ _ _ => .refl _⟩) trivial rfl
theorem c6 (x : Trp) : Pure (Xc W0 G) 6 [trpA x] (.bool (shortB x)) := by
  refine mut_of' hX (show FnIs (Xc W0 G) 6 Tryz.f6 (codeOf Tryz.f6) from ⟨by kernel_rfl, by kernel_rfl, by kernel_rfl, by kernel_rfl⟩) rfl ?_
  repeat' (first
    | ((with_reducible refine (?_ : Alt _ _)); first | (with_reducible apply callAlt (c23 hX _ _ _ ?_)) | (with_reducible refine Alt.one ?_))
    | ((with_reducible refine (?_ : AllLe _ _)); first | (first | exact AllLe.refl _ | (repeat' (first | exact trivial | apply Le.aggs | apply Le.tups | apply Le.fns | exact Le.refl _ | refine ⟨?_, ?_⟩))))
    | ((with_reducible refine (?_ : Sc _ (AllRen _ _ _))); refine Sc.of ?_; first | (repeat' (first | exact trivial | apply Le.aggs | apply Le.tups | apply Le.fns | exact Le.refl _ | refine ⟨?_, ?_⟩)))
    | ((with_reducible refine (?_ : (List.all _ _) = true)); rfl)
    | ((with_reducible refine (?_ : (and _ _) = true)); rfl)
    | ((with_reducible refine (?_ : List.Nodup _)); exact nodupB_spec rfl)
    | ((with_reducible refine (?_ : @Eq Nat _ _)); rfl)
    | ((with_reducible refine (?_ : @Eq (List (Option HObj)) _ _)); kernel_rfl)
    | ((with_reducible refine (?_ : LeOks _ _ _)); first | exact trivial | exact ⟨.refl _, trivial⟩ | exact ⟨.refl _, .refl _, trivial⟩)
    | ((fail_if_success with_reducible refine Stop.go ?_); (first | with_reducible refine And.intro ?_ ?_ | with_reducible refine Cut.go ?_ | (with_reducible (refine impI ?_; intro _)) | (with_reducible refine (?_ : footOK _ _ = true); kernel_rfl) | ((with_reducible refine propI ?_); conv => whnf))))
  all_goals try (exact .of (Nat.le_of_ble_eq_true rfl))
  all_goals first | exact Side.mk (by decide) | exact .mk [] [] _ rfl (.le (.refl _)) trivial rfl
end
end Go.Fx
