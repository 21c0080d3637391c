/-
  Trips: what is wrong with one.
-/
import Derived.Test.YtgegfljeglphlaaFs

set_option linter.all false

/-
  Trips: what is wrong with one; kinds of dates, later moments, copies of trips, short ones.
-/
namespace Go.Fx
open Go.Proofs Go.RowKit

theorem exE_0 {x : Trp} {i : Nat} (h : inB (x.ex.getD i 0) 0 20 = true) : exE x i = 0 := by unfold exE; rw [h]; rfl
theorem exE_2 {x : Trp} {i : Nat} (h : inB (x.ex.getD i 0) 0 20 = false) : exE x i = 2 := by unfold exE; rw [h]; rfl
theorem bne0 {e : Int} (h : (e != 0) = true) : e ≠ 0 := bne_iff_ne.1 h
theorem bne1 {e : Int} (h : (e != 0) = false) : e = 0 := bne_eq_false_iff_eq.1 h
theorem tripH_is {t : Trf} {x : Trp} : firstS [trfE t, isOk (momB x.m) 2, isOk ((x.ex.length : Int) == (t.extras.length : Int)) 10] = tripH t x := by unfold tripH; rfl
theorem tripM_is {x : Trp} : firstS [isOk (decide (0 < (x.sg.length : Int))) 10, isOk (decide ((x.sg.length : Int) ≤ 60)) 8] = tripM x := by unfold tripM; rfl
theorem sgE_is {t : Trf} {x : Trp} {i : Nat} : firstS [isOk (zoneIn t (x.sg.getD i seg0).z) 6, isOk (bif inB (x.sg.getD i seg0).me 0 100000 then inB (x.sg.getD i seg0).se 1 36000 else false) 2] = sgE t x i := by unfold sgE; rfl
theorem not_t {b : Bool} (h : (!b) = true) : b = false := by cases b <;> simp_all
theorem not_f {b : Bool} (h : (!b) = false) : b = true := by cases b <;> simp_all
@[irreducible] def kindE (t : Trf) (d : Int) : Int := firstS [trfE t, isOk (inB d 0 100000) 2]
@[irreducible] def kindV (t : Trf) (d : Int) : Int := bif decide (kindE t d = 0) then kindN t d else 0
theorem lat_1 {m : Mom} {k : Int} (h : (firstS [isOk (momB m) 2, isOk (inB k 0 100000000) 2] != 0) = true) : laterE m k = firstS [isOk (momB m) 2, isOk (inB k 0 100000000) 2] ∧ laterM m k = ⟨0, 0⟩ := by
  have e : laterE m k = firstS [isOk (momB m) 2, isOk (inB k 0 100000000) 2] := by
    have h := bne0 h
    unfold laterE
    cases a : momB m <;> cases b : inB k 0 100000000 <;> rw [a, b] at h <;> first | rfl | (exact absurd rfl h)
  exact ⟨e, later_bad e (bne0 h)⟩
theorem lat_2 {m : Mom} {k : Int} (h : (firstS [isOk (momB m) 2, isOk (inB k 0 100000000) 2] != 0) = false) : momB m = true ∧ inB k 0 100000000 = true := by
  have h := firstS_zero (bne1 h)
  exact ⟨isOk_0 (b := momB m) (e := 2) (h _ (by simp)) (by decide), isOk_0 (b := inB k 0 100000000) (e := 2) (h _ (by simp)) (by decide)⟩
theorem lat_3 {m : Mom} {k : Int} (h : momB m = true ∧ inB k 0 100000000 = true) (h2 : (isOk (momB (laterQ m k)) 2 != 0) = true) : laterE m k = isOk (momB (laterQ m k)) 2 ∧ laterM m k = ⟨0, 0⟩ := by
  have b3 := ok_ne h2
  have w : laterE m k = 2 := by unfold laterE; rw [h.1, h.2, b3.1]; rfl
  exact ⟨by rw [w, b3.2], later_bad w (by decide)⟩
theorem lat_4 {m : Mom} {k : Int} (h : momB m = true ∧ inB k 0 100000000 = true) (h2 : (isOk (momB (laterQ m k)) 2 != 0) = false) : laterE m k = 0 ∧ laterM m k = laterQ m k := by
  have b3 := ok_eq h2
  have w : laterE m k = 0 := by unfold laterE; rw [h.1, h.2, b3]; rfl
  exact ⟨w, later_ok w⟩
section
variable {W0 : World} {G : Nat → Option AV} (hX : (Xc W0 G).Good)
include hX
theorem c34 (t : Trf) (x : Trp) (hs : Side (TOk t ∧ XOk x)) : Pure (Xc W0 G) 34 [trfA t, trpA x] (.tup 2 (tbl [.int .i64 (tripN t x), .int .i64 (tripE t x)])) := by
  have hs := hs.get
  have tk := hs.1
  have k1 := tk.zones
  have k2 := hs.2.ex
  have k3 := hs.2.sg
  have k4 := tk.extras
  refine mut_of' hX (show FnIs (Xc W0 G) 34 Try.f34 (codeOf Try.f34) from ⟨by kernel_rfl, by kernel_rfl, by kernel_rfl, by kernel_rfl⟩) rfl ?_
  repeat' (first
    | ((with_reducible refine (?_ : Alt _ _)); first | (with_reducible apply callAlt (c25 hX t (Side.mk hs.1))) | ((with_reducible apply callAlt (c30 hX x.m)); case hl => (first | exact AllLe.refl _ | ((repeat' (first | exact trivial | apply Le.aggs | apply Le.tups | apply Le.fns | exact Le.refl _ | refine ⟨?_, ?_⟩)); done))) | (with_reducible apply callAlt (c31 hX _ _)) | ((with_reducible apply callAlt (c26_2 hX _ _)); case hl => (first | exact ⟨le_slc2 rfl rfl, trivial⟩ | exact ⟨le_slc3 rfl rfl rfl, trivial⟩ | exact ⟨le_slc5 rfl rfl rfl rfl rfl, trivial⟩ | exact AllLe.refl _)) | ((with_reducible apply callAlt (c26_3 hX _ _ _)); case hl => (first | exact ⟨le_slc2 rfl rfl, trivial⟩ | exact ⟨le_slc3 rfl rfl rfl, trivial⟩ | exact ⟨le_slc5 rfl rfl rfl rfl rfl, trivial⟩ | exact AllLe.refl _)) | (with_reducible apply callAlt (c32 hX _ _ _)) | (with_reducible apply callAlt (c39 hX t _ (Side.mk k1))) | (with_reducible refine Alt.one ?_))
    | ((with_reducible refine (?_ : AllLe _ _)); first | exact ⟨le_slc2 rfl rfl, trivial⟩ | exact ⟨le_slc3 rfl rfl rfl, trivial⟩ | (first | exact AllLe.refl _ | (repeat' (first | exact trivial | apply Le.aggs | apply Le.tups | apply Le.fns | exact Le.refl _ | refine ⟨?_, ?_⟩))))
    | ((with_reducible refine (?_ : Sc _ (AllRen _ _ _))); refine Sc.of ?_; first | (repeat' (first | exact trivial | apply Le.aggs | apply Le.tups | apply Le.fns | exact Le.refl _ | refine ⟨?_, ?_⟩)))
    | ((with_reducible refine (?_ : (List.all _ _) = true)); rfl)
    | ((with_reducible refine (?_ : (and _ _) = true)); rfl)
    | ((with_reducible refine (?_ : List.Nodup _)); exact nodupB_spec rfl)
    | ((with_reducible refine (?_ : @Eq Nat _ _)); rfl)
    | ((with_reducible refine (?_ : LeOks _ _ _)); first | exact trivial | exact ⟨.refl _, trivial⟩ | exact ⟨.refl _, .refl _, trivial⟩)
    | ((fail_if_success with_reducible refine Stop.go ?_); (first | with_reducible refine And.intro ?_ ?_ | with_reducible refine Cut.go ?_ | (with_reducible (refine impI ?_; intro _)) | (with_reducible refine (?_ : footOK _ _ = true); kernel_rfl) | ((with_reducible refine propI ?_); conv => whnf))))
  all_goals try (exact .of (Nat.le_of_ble_eq_true rfl))
  · rename_i h; have w := trip_1 (tripH_is (t := t) (x := x)).symm (bne0 h); exact .mk [] [] _ rfl (.le (.tups ⟨⟨trivial, .intI w.2.symm⟩, .intI w.1.symm⟩)) trivial rfl
  rename_i h
  have hh : tripH t x = 0 := tripH_is.symm.trans (bne1 h)
  refine ⟨Nat, fun i => ([(2, .ptr 0 0), (3, .ptr 1 0), (38, iRow x.ex), (39, .int .i64 x.ex.length), (40, .int .i64 i)], [.box (trfC t), .box (trpC x), .dead]), fun i => i ≤ x.ex.length ∧ ∀ j, j < i → exE x j = 0, fun i => x.ex.length - i, ⟨0, ⟨Nat.zero_le _, fun _ h => by omega⟩, .le ⟨rfl, ⟨.refl _, .refl _, .dead _, trivial⟩, ⟨.refl _, .refl _, .refl _, .refl _, .refl _, trivial⟩⟩⟩, fun i ⟨hi, h0⟩ => ?_⟩
  repeat' (first
    | ((with_reducible refine (?_ : Alt _ _)); first | (with_reducible apply callAlt (c25 hX t (Side.mk hs.1))) | ((with_reducible apply callAlt (c30 hX x.m)); case hl => (first | exact AllLe.refl _ | ((repeat' (first | exact trivial | apply Le.aggs | apply Le.tups | apply Le.fns | exact Le.refl _ | refine ⟨?_, ?_⟩)); done))) | (with_reducible apply callAlt (c31 hX _ _)) | ((with_reducible apply callAlt (c26_2 hX _ _)); case hl => (first | exact ⟨le_slc2 rfl rfl, trivial⟩ | exact ⟨le_slc3 rfl rfl rfl, trivial⟩ | exact ⟨le_slc5 rfl rfl rfl rfl rfl, trivial⟩ | exact AllLe.refl _)) | ((with_reducible apply callAlt (c26_3 hX _ _ _)); case hl => (first | exact ⟨le_slc2 rfl rfl, trivial⟩ | exact ⟨le_slc3 rfl rfl rfl, trivial⟩ | exact ⟨le_slc5 rfl rfl rfl rfl rfl, trivial⟩ | exact AllLe.refl _)) | (with_reducible apply callAlt (c32 hX _ _ _)) | (with_reducible apply callAlt (c39 hX t _ (Side.mk k1))) | (with_reducible refine Alt.one ?_))
    | ((with_reducible refine (?_ : AllLe _ _)); first | exact ⟨le_slc2 rfl rfl, trivial⟩ | exact ⟨le_slc3 rfl rfl rfl, trivial⟩ | (first | exact AllLe.refl _ | (repeat' (first | exact trivial | apply Le.aggs | apply Le.tups | apply Le.fns | exact Le.refl _ | refine ⟨?_, ?_⟩))))
    | ((with_reducible refine (?_ : Sc _ (AllRen _ _ _))); refine Sc.of ?_; first | (repeat' (first | exact trivial | apply Le.aggs | apply Le.tups | apply Le.fns | exact Le.refl _ | refine ⟨?_, ?_⟩)))
    | ((with_reducible refine (?_ : (List.all _ _) = true)); rfl)
    | ((with_reducible refine (?_ : (and _ _) = true)); rfl)
    | ((with_reducible refine (?_ : List.Nodup _)); exact nodupB_spec rfl)
    | ((with_reducible refine (?_ : @Eq Nat _ _)); rfl)
    | ((with_reducible refine (?_ : LeOks _ _ _)); first | exact trivial | exact ⟨.refl _, trivial⟩ | exact ⟨.refl _, .refl _, trivial⟩)
    | ((fail_if_success with_reducible refine Stop.go ?_); (first | with_reducible refine And.intro ?_ ?_ | with_reducible refine Cut.go ?_ | (with_reducible (refine impI ?_; intro _)) | (with_reducible refine (?_ : footOK _ _ = true); kernel_rfl) | ((with_reducible refine propI ?_); conv => whnf))))
  all_goals try (exact .of (Nat.le_of_ble_eq_true rfl))
  all_goals try (rename_i q q2; have q := of_decide_eq_true q; exact .of ⟨by omega, by omega⟩)
  all_goals try (rename_i q; have q := of_decide_eq_true q; exact .of ⟨by omega, by omega⟩)
  · rename_i q q2; have q := of_decide_eq_true q; simp only [Int.toNat_natCast] at q2
    have w := trip_2 hh (show i < x.ex.length by omega) h0 (exE_2 (not_t q2)) (by decide); exact .mk [] [] _ rfl (.le (.tups ⟨⟨trivial, .intI w.2.symm⟩, .intI w.1.symm⟩)) trivial rfl
  · rename_i q q2; have q := of_decide_eq_true q; simp only [Int.toNat_natCast] at q2
    exact ⟨i + 1, ⟨by omega, all_lt h0 (exE_0 (not_f q2))⟩, by show x.ex.length - (i + 1) < x.ex.length - i; omega, .le ⟨rfl, ⟨.refl _, .refl _, .dead _, trivial⟩, ⟨.refl _, .refl _, .refl _, .refl _, .refl _, trivial⟩⟩⟩
  all_goals (rename_i he hm; have he := of_decide_eq_false he; have z1 : ∀ j, j < x.ex.length → exE x j = 0 := fun j hj => h0 j (by omega); clear h0 hi he)
  · have w := trip_3 hh z1 (tripM_is (x := x)).symm (bne0 hm); exact .mk [] [] _ rfl (.le (.tups ⟨⟨trivial, .intI w.2.symm⟩, .intI w.1.symm⟩)) trivial rfl
  have hm : tripM x = 0 := tripM_is.symm.trans (bne1 hm)
  refine ⟨Nat, fun i => ([(2, .ptr 0 0), (66, segS x.sg), (67, .int .i64 x.sg.length), (68, .int .i64 i)], [.box (trfC t), .dead, .dead]), fun i => i ≤ x.sg.length ∧ ∀ j, j < i → sgE t x j = 0, fun i => x.sg.length - i, ⟨0, ⟨Nat.zero_le _, fun _ h => by omega⟩, .le ⟨rfl, ⟨.refl _, .dead _, .dead _, trivial⟩, ⟨.refl _, .refl _, .refl _, .refl _, trivial⟩⟩⟩, fun i ⟨hi, h0⟩ => ?_⟩
  repeat' (first
    | ((with_reducible refine (?_ : Alt _ _)); first | (with_reducible apply callAlt (c25 hX t (Side.mk hs.1))) | ((with_reducible apply callAlt (c30 hX x.m)); case hl => (first | exact AllLe.refl _ | ((repeat' (first | exact trivial | apply Le.aggs | apply Le.tups | apply Le.fns | exact Le.refl _ | refine ⟨?_, ?_⟩)); done))) | (with_reducible apply callAlt (c31 hX _ _)) | ((with_reducible apply callAlt (c26_2 hX _ _)); case hl => (first | exact ⟨le_slc2 rfl rfl, trivial⟩ | exact ⟨le_slc3 rfl rfl rfl, trivial⟩ | exact ⟨le_slc5 rfl rfl rfl rfl rfl, trivial⟩ | exact AllLe.refl _)) | ((with_reducible apply callAlt (c26_3 hX _ _ _)); case hl => (first | exact ⟨le_slc2 rfl rfl, trivial⟩ | exact ⟨le_slc3 rfl rfl rfl, trivial⟩ | exact ⟨le_slc5 rfl rfl rfl rfl rfl, trivial⟩ | exact AllLe.refl _)) | (with_reducible apply callAlt (c32 hX _ _ _)) | (with_reducible apply callAlt (c39 hX t _ (Side.mk k1))) | (with_reducible refine Alt.one ?_))
    | ((with_reducible refine (?_ : AllLe _ _)); first | exact ⟨le_slc2 rfl rfl, trivial⟩ | exact ⟨le_slc3 rfl rfl rfl, trivial⟩ | (first | exact AllLe.refl _ | (repeat' (first | exact trivial | apply Le.aggs | apply Le.tups | apply Le.fns | exact Le.refl _ | refine ⟨?_, ?_⟩))))
    | ((with_reducible refine (?_ : Sc _ (AllRen _ _ _))); refine Sc.of ?_; first | (repeat' (first | exact trivial | apply Le.aggs | apply Le.tups | apply Le.fns | exact Le.refl _ | refine ⟨?_, ?_⟩)))
    | ((with_reducible refine (?_ : (List.all _ _) = true)); rfl)
    | ((with_reducible refine (?_ : (and _ _) = true)); rfl)
    | ((with_reducible refine (?_ : List.Nodup _)); exact nodupB_spec rfl)
    | ((with_reducible refine (?_ : @Eq Nat _ _)); rfl)
    | ((with_reducible refine (?_ : LeOks _ _ _)); first | exact trivial | exact ⟨.refl _, trivial⟩ | exact ⟨.refl _, .refl _, trivial⟩)
    | ((fail_if_success with_reducible refine Stop.go ?_); (first | with_reducible refine And.intro ?_ ?_ | with_reducible refine Cut.go ?_ | (with_reducible (refine impI ?_; intro _)) | (with_reducible refine (?_ : footOK _ _ = true); kernel_rfl) | ((with_reducible refine propI ?_); conv => whnf))))
  all_goals try (exact .of (Nat.le_of_ble_eq_true rfl))
  all_goals try (rename_i q q2; have q := of_decide_eq_true q; exact .of ⟨by omega, by omega⟩)
  all_goals try (rename_i q; have q := of_decide_eq_true q; exact .of ⟨by omega, by omega⟩)
  · rename_i q q2; have q := of_decide_eq_true q; simp only [Int.toNat_natCast] at q2
    have w := trip_4 hh z1 hm (show i < x.sg.length by omega) h0 sgE_is.symm (bne0 q2); exact .mk [] [] _ rfl (.le (.tups ⟨⟨trivial, .intI w.2.symm⟩, .intI (by rw [w.1]; rfl)⟩)) trivial rfl
  · rename_i q q2; have q := of_decide_eq_true q; simp only [Int.toNat_natCast] at q2
    exact ⟨i + 1, ⟨by omega, all_lt h0 (sgE_is.symm.trans (bne1 q2))⟩, by show x.sg.length - (i + 1) < x.sg.length - i; omega, .le ⟨rfl, ⟨.refl _, .dead _, .dead _, trivial⟩, ⟨.refl _, .refl _, .refl _, .refl _, trivial⟩⟩⟩
  · rename_i he; have he := of_decide_eq_false he
    have w := trip_5 hh z1 hm (fun j hj => h0 j (by omega)); exact .mk [] [] _ rfl (.le (.tups ⟨⟨trivial, .intI w.2.symm⟩, .intI w.1.symm⟩)) trivial rfl



theorem c33 (m : Mom) (k : Int) (hs : Side ((0 ≤ m.d ∧ m.d ≤ 200000) ∧ (0 ≤ m.s ∧ m.s ≤ 86399) ∧ (0 ≤ k ∧ k ≤ 100000000))) : Pure (Xc W0 G) 33 [momA m, .int .i64 k] (momA (laterQ m k)) := by
  refine mut_of' hX (show FnIs (Xc W0 G) 33 Try.f33 (codeOf Try.f33) from ⟨by kernel_rfl, by kernel_rfl, by kernel_rfl, by kernel_rfl⟩) rfl ?_
  repeat' (first
    | ((with_reducible refine (?_ : Alt _ _)); first | fail | (with_reducible refine Alt.one ?_))
    | ((with_reducible refine (?_ : AllLe _ _)); first | (first | exact AllLe.refl _ | (repeat' (first | exact trivial | apply Le.aggs | apply Le.tups | apply Le.fns | exact Le.refl _ | refine ⟨?_, ?_⟩))))
    | ((with_reducible refine (?_ : Sc _ (AllRen _ _ _))); refine Sc.of ?_; first | (repeat' (first | exact trivial | apply Le.aggs | apply Le.tups | apply Le.fns | exact Le.refl _ | refine ⟨?_, ?_⟩)))
    | ((with_reducible refine (?_ : (List.all _ _) = true)); rfl)
    | ((with_reducible refine (?_ : (and _ _) = true)); rfl)
    | ((with_reducible refine (?_ : List.Nodup _)); exact nodupB_spec rfl)
    | ((with_reducible refine (?_ : @Eq Nat _ _)); rfl)
    | ((with_reducible refine (?_ : LeOks _ _ _)); first | exact trivial | exact ⟨.refl _, trivial⟩ | exact ⟨.refl _, .refl _, trivial⟩)
    | ((fail_if_success with_reducible refine Stop.go ?_); (first | with_reducible refine And.intro ?_ ?_ | with_reducible refine Cut.go ?_ | (with_reducible (refine impI ?_; intro _)) | (with_reducible refine (?_ : footOK _ _ = true); kernel_rfl) | ((with_reducible refine propI ?_); conv => whnf))))
  all_goals try (exact .of (Nat.le_of_ble_eq_true rfl))
  all_goals try (exact .of (by decide))
  all_goals try (have hs := hs.get; have qb := quo_bd (a := m.s + k) (d := 86400) (B := 100086399) (by omega) (by omega) (by decide); exact .of ⟨by omega, by omega⟩)
  all_goals exact .mk [] [] _ rfl (.le (.aggs ⟨⟨trivial, .intI rfl⟩, .intI rfl⟩)) trivial rfl
theorem c15 (m : Mom) (k : Int) : Pure (Xc W0 G) 15 [momA m, .int .i64 k] (.tup 2 (tbl [momA (laterM m k), .int .i64 (laterE m k)])) := by
  refine mut_of' hX (show FnIs (Xc W0 G) 15 Try.f15 (codeOf Try.f15) from ⟨by kernel_rfl, by kernel_rfl, by kernel_rfl, by kernel_rfl⟩) rfl ?_
  repeat' (first
    | ((with_reducible refine (?_ : Alt _ _)); first | ((with_reducible apply callAlt (c30 hX m)); case hl => (first | exact AllLe.refl _ | ((repeat' (first | exact trivial | apply Le.aggs | apply Le.tups | apply Le.fns | exact Le.refl _ | refine ⟨?_, ?_⟩)); done))) | ((with_reducible apply callAlt (c30 hX (laterQ m k))); case hl => (first | exact AllLe.refl _ | ((repeat' (first | exact trivial | apply Le.aggs | apply Le.tups | apply Le.fns | exact Le.refl _ | refine ⟨?_, ?_⟩)); done))) | (with_reducible apply callAlt (c32 hX _ _ _)) | (with_reducible apply callAlt (c31 hX _ _)) | ((with_reducible apply callAlt (c26_2 hX _ _)); case hl => (first | exact ⟨le_slc2 rfl rfl, trivial⟩ | exact ⟨le_slc3 rfl rfl rfl, trivial⟩ | exact ⟨le_slc5 rfl rfl rfl rfl rfl, trivial⟩ | exact AllLe.refl _)) | (with_reducible apply callAlt (c33 hX m k ?_)) | (with_reducible refine Alt.one ?_))
    | ((with_reducible refine (?_ : AllLe _ _)); first | (first | exact AllLe.refl _ | (repeat' (first | exact trivial | apply Le.aggs | apply Le.tups | apply Le.fns | exact Le.refl _ | refine ⟨?_, ?_⟩))))
    | ((with_reducible refine (?_ : Sc _ (AllRen _ _ _))); refine Sc.of ?_; first | (repeat' (first | exact trivial | apply Le.aggs | apply Le.tups | apply Le.fns | exact Le.refl _ | refine ⟨?_, ?_⟩)))
    | ((with_reducible refine (?_ : (List.all _ _) = true)); rfl)
    | ((with_reducible refine (?_ : (and _ _) = true)); rfl)
    | ((with_reducible refine (?_ : List.Nodup _)); exact nodupB_spec rfl)
    | ((with_reducible refine (?_ : @Eq Nat _ _)); rfl)
    | ((with_reducible refine (?_ : LeOks _ _ _)); first | exact trivial | exact ⟨.refl _, trivial⟩ | exact ⟨.refl _, .refl _, trivial⟩)
    | ((fail_if_success with_reducible refine Stop.go ?_); (first | with_reducible refine And.intro ?_ ?_ | with_reducible refine Cut.go ?_ | (with_reducible (refine impI ?_; intro _)) | (with_reducible refine (?_ : footOK _ _ = true); kernel_rfl) | ((with_reducible refine propI ?_); conv => whnf))))
  all_goals try (exact .of (Nat.le_of_ble_eq_true rfl))
  · rename_i h; have w := lat_1 h; exact .mk [] [] _ rfl (.le (.tups ⟨⟨trivial, by rw [w.2]; exact .aggs ⟨⟨trivial, .refl _⟩, .refl _⟩⟩, .intI w.1.symm⟩)) trivial rfl
  · rename_i h h2; have w := lat_3 (lat_2 h) h2; exact .mk [] [] _ rfl (.le (.tups ⟨⟨trivial, by rw [w.2]; exact .aggs ⟨⟨trivial, .refl _⟩, .refl _⟩⟩, .intI w.1.symm⟩)) trivial rfl
  · rename_i h h2; have w := lat_4 (lat_2 h) h2; exact .mk [] [] _ rfl (.le (.tups ⟨⟨trivial, by rw [w.2]; exact .aggs ⟨⟨trivial, .refl _⟩, .refl _⟩⟩, .intI w.1.symm⟩)) trivial rfl
  · rename_i h; have w := lat_2 h; have a := mom_bd w.1; have b := inB_iff.1 w.2; exact .mk ⟨by omega, by omega, by omega⟩
end
end Go.Fx
