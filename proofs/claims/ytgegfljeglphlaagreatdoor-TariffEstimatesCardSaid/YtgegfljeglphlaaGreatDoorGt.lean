/-
  Trips: what is wrong with one; kinds of dates, later moments.
-/
import Derived.Test.YtgegfljeglphlaaGreatDoorGs

set_option linter.all false

/-
  Trips: what is wrong with one; kinds of dates, later moments, copies of trips, short ones.
-/
namespace Go.Fx
open Go.Proofs Go.RowKit

theorem exE_0 {x : Trp} {i : Nat} (h : inB (x.ex.getD i 0) 0 20 = true) : exE x i = 0 := by unfold exE; rw [h]; rfl
theorem exE_2 {x : Trp} {i : Nat} (h : inB (x.ex.getD i 0) 0 20 = false) : exE x i = 2 := by unfold exE; rw [h]; rfl
theorem bne0 {e : Int} (h : (e != 0) = true) : e ≠ 0 := bne_iff_ne.1 h
theorem bne1 {e : Int} (h : (e != 0) = false) : e = 0 := bne_eq_false_iff_eq.1 h
theorem tripH_is {t : Trf} {x : Trp} : firstS [trfE t, isOk (momB x.m) 2, isOk ((x.ex.length : Int) == (t.extras.length : Int)) 10] = tripH t x := by unfold tripH; rfl
theorem tripM_is {x : Trp} : firstS [isOk (decide (0 < (x.sg.length : Int))) 10, isOk (decide ((x.sg.length : Int) ≤ 60)) 8] = tripM x := by unfold tripM; rfl
theorem sgE_is {t : Trf} {x : Trp} {i : Nat} : firstS [isOk (zoneIn t (x.sg.getD i seg0).z) 6, isOk (bif inB (x.sg.getD i seg0).me 0 100000 then inB (x.sg.getD i seg0).se 1 36000 else false) 2] = sgE t x i := by unfold sgE; rfl
theorem not_t {b : Bool} (h : (!b) = true) : b = false := by cases b <;> simp_all
theorem not_f {b : Bool} (h : (!b) = false) : b = true := by cases b <;> simp_all
theorem tH_1 {t : Trf} {x : Trp} (h : (trfE t != 0) = true) : tripH t x = trfE t := by unfold tripH; have := bne0 h; simp [firstS, this]
theorem tH_2 {t : Trf} {x : Trp} (h : (trfE t != 0) = false) (h2 : (isOk (momB x.m) 2 != 0) = true) : tripH t x = isOk (momB x.m) 2 := by unfold tripH; have := bne0 h2; have := bne1 h; simp [firstS, *]
theorem tH_3 {t : Trf} {x : Trp} (h : (trfE t != 0) = false) (h2 : (isOk (momB x.m) 2 != 0) = false) (h3 : ((x.ex.length : Int) != (t.extras.length : Int)) = true) : tripH t x = 10 := by
  unfold tripH; have a := bne1 h2; have b := bne1 h; have c : ((x.ex.length : Int) == (t.extras.length : Int)) = false := by simpa using h3
  rw [a, b, c]; rfl
theorem tH_4 {t : Trf} {x : Trp} (h : (trfE t != 0) = false) (h2 : (isOk (momB x.m) 2 != 0) = false) (h3 : ((x.ex.length : Int) != (t.extras.length : Int)) = false) : tripH t x = 0 := by
  unfold tripH; have a := bne1 h2; have b := bne1 h; have c : ((x.ex.length : Int) == (t.extras.length : Int)) = true := by simpa using h3
  rw [a, b, c]; rfl
theorem tM_1 {x : Trp} (h : ((x.sg.length : Int) == 0) = true) : tripM x = 10 := by
  unfold tripM; have := eq_of_beq h; rw [decide_eq_false (by omega)]; rfl
theorem tM_2 {x : Trp} (h : ((x.sg.length : Int) == 0) = false) (h2 : decide (60 < (x.sg.length : Int)) = true) : tripM x = 8 := by
  unfold tripM; have := of_decide_eq_true h2; rw [decide_eq_true (show 0 < (x.sg.length : Int) by omega), decide_eq_false (by omega)]; rfl
theorem tM_3 {x : Trp} (h : ((x.sg.length : Int) == 0) = false) (h2 : decide (60 < (x.sg.length : Int)) = false) : tripM x = 0 := by
  unfold tripM; have := of_decide_eq_false h2; have h : (x.sg.length : Int) ≠ 0 := by simpa using h
  rw [decide_eq_true (show 0 < (x.sg.length : Int) by omega), decide_eq_true (by omega)]; rfl
theorem sE_1 {t : Trf} {x : Trp} {i : Nat} (h : (!zoneIn t (x.sg.getD i seg0).z) = true) : sgE t x i = 6 := by unfold sgE; rw [not_t h]; rfl
theorem sE_2 {t : Trf} {x : Trp} {i : Nat} (h : (!zoneIn t (x.sg.getD i seg0).z) = false) (h2 : (bif !inB (x.sg.getD i seg0).me 0 100000 then true else !inB (x.sg.getD i seg0).se 1 36000) = true) : sgE t x i = 2 := by
  unfold sgE; rw [not_f h]; show firstS [isOk true 6, isOk (bif inB (x.sg.getD i seg0).me 0 100000 then inB (x.sg.getD i seg0).se 1 36000 else false) 2] = 2
  cases a : inB (x.sg.getD i seg0).me 0 100000 <;> cases b : inB (x.sg.getD i seg0).se 1 36000 <;> simp_all <;> rfl
theorem sE_3 {t : Trf} {x : Trp} {i : Nat} (h : (!zoneIn t (x.sg.getD i seg0).z) = false) (h2 : (bif !inB (x.sg.getD i seg0).me 0 100000 then true else !inB (x.sg.getD i seg0).se 1 36000) = false) : sgE t x i = 0 := by
  unfold sgE; rw [not_f h]; show firstS [isOk true 6, isOk (bif inB (x.sg.getD i seg0).me 0 100000 then inB (x.sg.getD i seg0).se 1 36000 else false) 2] = 0
  cases a : inB (x.sg.getD i seg0).me 0 100000 <;> cases b : inB (x.sg.getD i seg0).se 1 36000 <;> simp_all <;> rfl
@[irreducible] def kindE (t : Trf) (d : Int) : Int := firstS [trfE t, isOk (inB d 0 100000) 2]
@[irreducible] def kindV (t : Trf) (d : Int) : Int := bif decide (kindE t d = 0) then kindN t d else 0
theorem lat_3 {m : Mom} {k : Int} (h : momB m = true ∧ inB k 0 100000000 = true) (h2 : (isOk (momB (laterQ m k)) 2 != 0) = true) : laterE m k = isOk (momB (laterQ m k)) 2 ∧ laterM m k = ⟨0, 0⟩ := by
  have b3 := ok_ne h2
  have w : laterE m k = 2 := by unfold laterE; rw [h.1, h.2, b3.1]; rfl
  exact ⟨by rw [w, b3.2], later_bad w (by decide)⟩
theorem lat_4 {m : Mom} {k : Int} (h : momB m = true ∧ inB k 0 100000000 = true) (h2 : (isOk (momB (laterQ m k)) 2 != 0) = false) : laterE m k = 0 ∧ laterM m k = laterQ m k := by
  have b3 := ok_eq h2
  have w : laterE m k = 0 := by unfold laterE; rw [h.1, h.2, b3]; rfl
  exact ⟨w, later_ok w⟩
section
variable {W0 : World} {G : Nat → Option AV} (hX : (Xc W0 G).Good)
include hX
theorem c37 (t : Trf) (x : Trp) (hs : Side (TOk t ∧ XOk x)) : Pure (Xc W0 G) 37 [trfA t, trpA x] (.tup 2 (tbl [.int .i64 (tripN t x), .int .i64 (tripE t x)])) := by
  have hs := hs.get
  have tk := hs.1
  have k1 := tk.zones
  have k2 := hs.2.ex
  have k3 := hs.2.sg
  have k4 := tk.extras
  refine mut_of' hX (show FnIs (Xc W0 G) 37 Tryz.f37 (codeOf Tryz.f37) from ⟨by kernel_rfl, by kernel_rfl, by kernel_rfl, by kernel_rfl⟩) rfl ?_
  repeat' (first
    | ((with_reducible refine (?_ : Alt _ _)); first | (with_reducible apply callAlt (c91 hX t (Side.mk hs.1))) | ((with_reducible apply callAlt (c99 hX x.m)); case hl => (first | exact AllLe.refl _ | ((repeat' (first | exact trivial | apply Le.aggs | apply Le.tups | apply Le.fns | exact Le.refl _ | refine ⟨?_, ?_⟩)); done))) | (with_reducible apply callAlt (c67 hX _ _)) | ((with_reducible apply callAlt (c65_2 hX _ _)); case hl => (first | exact ⟨le_slc2 rfl rfl, trivial⟩ | exact ⟨le_slc3 rfl rfl rfl, trivial⟩ | exact ⟨le_slc5 rfl rfl rfl rfl rfl, trivial⟩ | exact AllLe.refl _)) | ((with_reducible apply callAlt (c65_3 hX _ _ _)); case hl => (first | exact ⟨le_slc2 rfl rfl, trivial⟩ | exact ⟨le_slc3 rfl rfl rfl, trivial⟩ | exact ⟨le_slc5 rfl rfl rfl rfl rfl, trivial⟩ | exact AllLe.refl _)) | (with_reducible apply callAlt (c63 hX _ _ _)) | (with_reducible apply callAlt (c82 hX t _ (Side.mk k1))) | (with_reducible refine Alt.one ?_))
    | ((with_reducible refine (?_ : AllLe _ _)); first | exact ⟨le_slc2 rfl rfl, trivial⟩ | exact ⟨le_slc3 rfl rfl rfl, trivial⟩ | (first | exact AllLe.refl _ | (repeat' (first | exact trivial | apply Le.aggs | apply Le.tups | apply Le.fns | exact Le.refl _ | refine ⟨?_, ?_⟩))))
    | ((with_reducible refine (?_ : Sc _ (AllRen _ _ _))); refine Sc.of ?_; first | (repeat' (first | exact trivial | apply Le.aggs | apply Le.tups | apply Le.fns | exact Le.refl _ | refine ⟨?_, ?_⟩)))
    | ((with_reducible refine (?_ : (List.all _ _) = true)); rfl)
    | ((with_reducible refine (?_ : (and _ _) = true)); rfl)
    | ((with_reducible refine (?_ : List.Nodup _)); exact nodupB_spec rfl)
    | ((with_reducible refine (?_ : @Eq Nat _ _)); rfl)
    | ((with_reducible refine (?_ : LeOks _ _ _)); first | exact trivial | exact ⟨.refl _, trivial⟩ | exact ⟨.refl _, .refl _, trivial⟩)
    | ((fail_if_success with_reducible refine Stop.go ?_); (first | with_reducible refine And.intro ?_ ?_ | with_reducible refine Cut.go ?_ | (with_reducible (refine impI ?_; intro _)) | (with_reducible refine (?_ : footOK _ _ = true); kernel_rfl) | ((with_reducible refine propI ?_); conv => whnf))))
  all_goals try (exact .of (Nat.le_of_ble_eq_true rfl))
  · rename_i h; have w := trip_1 (tripH_is (t := t) (x := x)).symm (bne0 h); exact .mk [] [] _ rfl (.le (.tups ⟨⟨trivial, .intI w.2.symm⟩, .intI w.1.symm⟩)) trivial rfl
  rename_i h
  have hh : tripH t x = 0 := tripH_is.symm.trans (bne1 h)
  refine ⟨Nat, fun i => ([(2, .ptr 0 0), (3, .ptr 1 0), (38, iRow x.ex), (39, .int .i64 x.ex.length), (40, .int .i64 i)], [.box (trfC t), .box (trpC x), .dead]), fun i => i ≤ x.ex.length ∧ ∀ j, j < i → exE x j = 0, fun i => x.ex.length - i, ⟨0, ⟨Nat.zero_le _, fun _ h => by omega⟩, .le ⟨rfl, ⟨.refl _, .refl _, .dead _, trivial⟩, ⟨.refl _, .refl _, .refl _, .refl _, .refl _, trivial⟩⟩⟩, fun i ⟨hi, h0⟩ => ?_⟩
  repeat' (first
    | ((with_reducible refine (?_ : Alt _ _)); first | (with_reducible apply callAlt (c91 hX t (Side.mk hs.1))) | ((with_reducible apply callAlt (c99 hX x.m)); case hl => (first | exact AllLe.refl _ | ((repeat' (first | exact trivial | apply Le.aggs | apply Le.tups | apply Le.fns | exact Le.refl _ | refine ⟨?_, ?_⟩)); done))) | (with_reducible apply callAlt (c67 hX _ _)) | ((with_reducible apply callAlt (c65_2 hX _ _)); case hl => (first | exact ⟨le_slc2 rfl rfl, trivial⟩ | exact ⟨le_slc3 rfl rfl rfl, trivial⟩ | exact ⟨le_slc5 rfl rfl rfl rfl rfl, trivial⟩ | exact AllLe.refl _)) | ((with_reducible apply callAlt (c65_3 hX _ _ _)); case hl => (first | exact ⟨le_slc2 rfl rfl, trivial⟩ | exact ⟨le_slc3 rfl rfl rfl, trivial⟩ | exact ⟨le_slc5 rfl rfl rfl rfl rfl, trivial⟩ | exact AllLe.refl _)) | (with_reducible apply callAlt (c63 hX _ _ _)) | (with_reducible apply callAlt (c82 hX t _ (Side.mk k1))) | (with_reducible refine Alt.one ?_))
    | ((with_reducible refine (?_ : AllLe _ _)); first | exact ⟨le_slc2 rfl rfl, trivial⟩ | exact ⟨le_slc3 rfl rfl rfl, trivial⟩ | (first | exact AllLe.refl _ | (repeat' (first | exact trivial | apply Le.aggs | apply Le.tups | apply Le.fns | exact Le.refl _ | refine ⟨?_, ?_⟩))))
    | ((with_reducible refine (?_ : Sc _ (AllRen _ _ _))); refine Sc.of ?_; first | (repeat' (first | exact trivial | apply Le.aggs | apply Le.tups | apply Le.fns | exact Le.refl _ | refine ⟨?_, ?_⟩)))
    | ((with_reducible refine (?_ : (List.all _ _) = true)); rfl)
    | ((with_reducible refine (?_ : (and _ _) = true)); rfl)
    | ((with_reducible refine (?_ : List.Nodup _)); exact nodupB_spec rfl)
    | ((with_reducible refine (?_ : @Eq Nat _ _)); rfl)
    | ((with_reducible refine (?_ : LeOks _ _ _)); first | exact trivial | exact ⟨.refl _, trivial⟩ | exact ⟨.refl _, .refl _, trivial⟩)
    | ((fail_if_success with_reducible refine Stop.go ?_); (first | with_reducible refine And.intro ?_ ?_ | with_reducible refine Cut.go ?_ | (with_reducible (refine impI ?_; intro _)) | (with_reducible refine (?_ : footOK _ _ = true); kernel_rfl) | ((with_reducible refine propI ?_); conv => whnf))))
  all_goals try (exact .of (Nat.le_of_ble_eq_true rfl))
  all_goals try (rename_i q q2; have q := of_decide_eq_true q; exact .of ⟨by omega, by omega⟩)
  all_goals try (rename_i q; have q := of_decide_eq_true q; exact .of ⟨by omega, by omega⟩)
  · rename_i q q2; have q := of_decide_eq_true q; simp only [Int.toNat_natCast] at q2
    have w := trip_2 hh (show i < x.ex.length by omega) h0 (exE_2 (not_t q2)) (by decide); exact .mk [] [] _ rfl (.le (.tups ⟨⟨trivial, .intI w.2.symm⟩, .intI w.1.symm⟩)) trivial rfl
  · rename_i q q2; have q := of_decide_eq_true q; simp only [Int.toNat_natCast] at q2
    exact ⟨i + 1, ⟨by omega, all_lt h0 (exE_0 (not_f q2))⟩, by show x.ex.length - (i + 1) < x.ex.length - i; omega, .le ⟨rfl, ⟨.refl _, .refl _, .dead _, trivial⟩, ⟨.refl _, .refl _, .refl _, .refl _, .refl _, trivial⟩⟩⟩
  all_goals (rename_i he hm; have he := of_decide_eq_false he; have z1 : ∀ j, j < x.ex.length → exE x j = 0 := fun j hj => h0 j (by omega); clear h0 hi he)
  · have w := trip_3 hh z1 (tripM_is (x := x)).symm (bne0 hm); exact .mk [] [] _ rfl (.le (.tups ⟨⟨trivial, .intI w.2.symm⟩, .intI w.1.symm⟩)) trivial rfl
  have hm : tripM x = 0 := tripM_is.symm.trans (bne1 hm)
  refine ⟨Nat, fun i => ([(2, .ptr 0 0), (66, segS x.sg), (67, .int .i64 x.sg.length), (68, .int .i64 i)], [.box (trfC t), .dead, .dead]), fun i => i ≤ x.sg.length ∧ ∀ j, j < i → sgE t x j = 0, fun i => x.sg.length - i, ⟨0, ⟨Nat.zero_le _, fun _ h => by omega⟩, .le ⟨rfl, ⟨.refl _, .dead _, .dead _, trivial⟩, ⟨.refl _, .refl _, .refl _, .refl _, trivial⟩⟩⟩, fun i ⟨hi, h0⟩ => ?_⟩
  repeat' (first
    | ((with_reducible refine (?_ : Alt _ _)); first | (with_reducible apply callAlt (c91 hX t (Side.mk hs.1))) | ((with_reducible apply callAlt (c99 hX x.m)); case hl => (first | exact AllLe.refl _ | ((repeat' (first | exact trivial | apply Le.aggs | apply Le.tups | apply Le.fns | exact Le.refl _ | refine ⟨?_, ?_⟩)); done))) | (with_reducible apply callAlt (c67 hX _ _)) | ((with_reducible apply callAlt (c65_2 hX _ _)); case hl => (first | exact ⟨le_slc2 rfl rfl, trivial⟩ | exact ⟨le_slc3 rfl rfl rfl, trivial⟩ | exact ⟨le_slc5 rfl rfl rfl rfl rfl, trivial⟩ | exact AllLe.refl _)) | ((with_reducible apply callAlt (c65_3 hX _ _ _)); case hl => (first | exact ⟨le_slc2 rfl rfl, trivial⟩ | exact ⟨le_slc3 rfl rfl rfl, trivial⟩ | exact ⟨le_slc5 rfl rfl rfl rfl rfl, trivial⟩ | exact AllLe.refl _)) | (with_reducible apply callAlt (c63 hX _ _ _)) | (with_reducible apply callAlt (c82 hX t _ (Side.mk k1))) | (with_reducible refine Alt.one ?_))
    | ((with_reducible refine (?_ : AllLe _ _)); first | exact ⟨le_slc2 rfl rfl, trivial⟩ | exact ⟨le_slc3 rfl rfl rfl, trivial⟩ | (first | exact AllLe.refl _ | (repeat' (first | exact trivial | apply Le.aggs | apply Le.tups | apply Le.fns | exact Le.refl _ | refine ⟨?_, ?_⟩))))
    | ((with_reducible refine (?_ : Sc _ (AllRen _ _ _))); refine Sc.of ?_; first | (repeat' (first | exact trivial | apply Le.aggs | apply Le.tups | apply Le.fns | exact Le.refl _ | refine ⟨?_, ?_⟩)))
    | ((with_reducible refine (?_ : (List.all _ _) = true)); rfl)
    | ((with_reducible refine (?_ : (and _ _) = true)); rfl)
    | ((with_reducible refine (?_ : List.Nodup _)); exact nodupB_spec rfl)
    | ((with_reducible refine (?_ : @Eq Nat _ _)); rfl)
    | ((with_reducible refine (?_ : LeOks _ _ _)); first | exact trivial | exact ⟨.refl _, trivial⟩ | exact ⟨.refl _, .refl _, trivial⟩)
    | ((fail_if_success with_reducible refine Stop.go ?_); (first | with_reducible refine And.intro ?_ ?_ | with_reducible refine Cut.go ?_ | (with_reducible (refine impI ?_; intro _)) | (with_reducible refine (?_ : footOK _ _ = true); kernel_rfl) | ((with_reducible refine propI ?_); conv => whnf))))
  all_goals try (exact .of (Nat.le_of_ble_eq_true rfl))
  all_goals try (rename_i q q2; have q := of_decide_eq_true q; exact .of ⟨by omega, by omega⟩)
  all_goals try (rename_i q; have q := of_decide_eq_true q; exact .of ⟨by omega, by omega⟩)
  · rename_i q q2; have q := of_decide_eq_true q; simp only [Int.toNat_natCast] at q2
    have w := trip_4 hh z1 hm (show i < x.sg.length by omega) h0 sgE_is.symm (bne0 q2); exact .mk [] [] _ rfl (.le (.tups ⟨⟨trivial, .intI w.2.symm⟩, .intI (by rw [w.1]; rfl)⟩)) trivial rfl
  · rename_i q q2; have q := of_decide_eq_true q; simp only [Int.toNat_natCast] at q2
    exact ⟨i + 1, ⟨by omega, all_lt h0 (sgE_is.symm.trans (bne1 q2))⟩, by show x.sg.length - (i + 1) < x.sg.length - i; omega, .le ⟨rfl, ⟨.refl _, .dead _, .dead _, trivial⟩, ⟨.refl _, .refl _, .refl _, .refl _, trivial⟩⟩⟩
  · rename_i he; have he := of_decide_eq_false he
    have w := trip_5 hh z1 hm (fun j hj => h0 j (by omega)); exact .mk [] [] _ rfl (.le (.tups ⟨⟨trivial, .intI w.2.symm⟩, .intI w.1.symm⟩)) trivial rfl
theorem c40 (t : Trf) (x : Trp) (hs : Side (TOk t ∧ XOk x)) : Pure (Xc W0 G) 40 [trfA t, trpA x] (.tup 2 (tbl [.int .i64 (tripN t x), .int .i64 (tripE t x)])) := by
  have hs := hs.get
  have tk := hs.1
  have k1 := tk.zones
  have k2 := hs.2.ex
  have k3 := hs.2.sg
  have k4 := tk.extras
  refine mut_of' hX (show FnIs (Xc W0 G) 40 Tryz.f40 (codeOf Tryz.f40) from ⟨by kernel_rfl, by kernel_rfl, by kernel_rfl, by kernel_rfl⟩) rfl ?_
  repeat' (first
    | ((with_reducible refine (?_ : Alt _ _)); first | (with_reducible apply callAlt (c20 hX t (Side.mk hs.1))) | ((with_reducible apply callAlt (c95 hX x.m)); case hl => (first | exact AllLe.refl _ | ((repeat' (first | exact trivial | apply Le.aggs | apply Le.tups | apply Le.fns | exact Le.refl _ | refine ⟨?_, ?_⟩)); done))) | (with_reducible apply callAlt (c27 hX _ _ _)) | (with_reducible apply callAlt (c90 hX t _ (Side.mk k1))) | (with_reducible refine Alt.one ?_))
    | ((with_reducible refine (?_ : AllLe _ _)); first | (first | exact AllLe.refl _ | (repeat' (first | exact trivial | apply Le.aggs | apply Le.tups | apply Le.fns | exact Le.refl _ | refine ⟨?_, ?_⟩))))
    | ((with_reducible refine (?_ : Sc _ (AllRen _ _ _))); refine Sc.of ?_; first | (repeat' (first | exact trivial | apply Le.aggs | apply Le.tups | apply Le.fns | exact Le.refl _ | refine ⟨?_, ?_⟩)))
    | ((with_reducible refine (?_ : (List.all _ _) = true)); rfl)
    | ((with_reducible refine (?_ : (and _ _) = true)); rfl)
    | ((with_reducible refine (?_ : List.Nodup _)); exact nodupB_spec rfl)
    | ((with_reducible refine (?_ : @Eq Nat _ _)); rfl)
    | ((with_reducible refine (?_ : LeOks _ _ _)); first | exact trivial | exact ⟨.refl _, trivial⟩ | exact ⟨.refl _, .refl _, trivial⟩)
    | ((fail_if_success with_reducible refine Stop.go ?_); (first | with_reducible refine And.intro ?_ ?_ | with_reducible refine Cut.go ?_ | (with_reducible (refine impI ?_; intro _)) | (with_reducible refine (?_ : footOK _ _ = true); kernel_rfl) | ((with_reducible refine propI ?_); conv => whnf))))
  all_goals try (exact .of (Nat.le_of_ble_eq_true rfl))
  · rename_i h; have w := trip_1 (tH_1 (x := x) h) (bne0 h); exact .mk [] [] _ rfl (.le (.tups ⟨⟨trivial, .intI w.2.symm⟩, .intI w.1.symm⟩)) trivial rfl
  · rename_i h h2; have w := trip_1 (tH_2 (x := x) h h2) (bne0 h2); exact .mk [] [] _ rfl (.le (.tups ⟨⟨trivial, .intI w.2.symm⟩, .intI w.1.symm⟩)) trivial rfl
  · rename_i h h2 h3; have w := trip_1 (tH_3 (x := x) h h2 h3) (by decide); exact .mk [] [] _ rfl (.le (.tups ⟨⟨trivial, .intI w.2.symm⟩, .intI w.1.symm⟩)) trivial rfl
  rename_i h h2 h3
  have hh : tripH t x = 0 := tH_4 h h2 h3
  refine ⟨Nat, fun i => ([(2, .ptr 0 0), (3, .ptr 1 0), (8, .int .i64 i)], [.box (trfC t), .box (trpC x)]), fun i => i ≤ x.ex.length ∧ ∀ j, j < i → exE x j = 0, fun i => x.ex.length - i, ⟨0, ⟨Nat.zero_le _, fun _ h => by omega⟩, .le ⟨rfl, ⟨.refl _, .refl _, trivial⟩, ⟨.refl _, .refl _, .refl _, trivial⟩⟩⟩, fun i ⟨hi, h0⟩ => ?_⟩
  repeat' (first
    | ((with_reducible refine (?_ : Alt _ _)); first | (with_reducible apply callAlt (c20 hX t (Side.mk hs.1))) | ((with_reducible apply callAlt (c95 hX x.m)); case hl => (first | exact AllLe.refl _ | ((repeat' (first | exact trivial | apply Le.aggs | apply Le.tups | apply Le.fns | exact Le.refl _ | refine ⟨?_, ?_⟩)); done))) | (with_reducible apply callAlt (c27 hX _ _ _)) | (with_reducible apply callAlt (c90 hX t _ (Side.mk k1))) | (with_reducible refine Alt.one ?_))
    | ((with_reducible refine (?_ : AllLe _ _)); first | (first | exact AllLe.refl _ | (repeat' (first | exact trivial | apply Le.aggs | apply Le.tups | apply Le.fns | exact Le.refl _ | refine ⟨?_, ?_⟩))))
    | ((with_reducible refine (?_ : Sc _ (AllRen _ _ _))); refine Sc.of ?_; first | (repeat' (first | exact trivial | apply Le.aggs | apply Le.tups | apply Le.fns | exact Le.refl _ | refine ⟨?_, ?_⟩)))
    | ((with_reducible refine (?_ : (List.all _ _) = true)); rfl)
    | ((with_reducible refine (?_ : (and _ _) = true)); rfl)
    | ((with_reducible refine (?_ : List.Nodup _)); exact nodupB_spec rfl)
    | ((with_reducible refine (?_ : @Eq Nat _ _)); rfl)
    | ((with_reducible refine (?_ : LeOks _ _ _)); first | exact trivial | exact ⟨.refl _, trivial⟩ | exact ⟨.refl _, .refl _, trivial⟩)
    | ((fail_if_success with_reducible refine Stop.go ?_); (first | with_reducible refine And.intro ?_ ?_ | with_reducible refine Cut.go ?_ | (with_reducible (refine impI ?_; intro _)) | (with_reducible refine (?_ : footOK _ _ = true); kernel_rfl) | ((with_reducible refine propI ?_); conv => whnf))))
  all_goals try (exact .of (Nat.le_of_ble_eq_true rfl))
  all_goals try (rename_i q q2; have q := of_decide_eq_true q; exact .of ⟨by omega, by omega⟩)
  all_goals try (rename_i q; have q := of_decide_eq_true q; exact .of ⟨by omega, by omega⟩)
  · rename_i q q2; have q := of_decide_eq_true q; simp only [Int.toNat_natCast] at q2
    have w := trip_2 hh (show i < x.ex.length by omega) h0 (exE_2 (not_t q2)) (by decide); exact .mk [] [] _ rfl (.le (.tups ⟨⟨trivial, .intI w.2.symm⟩, .intI w.1.symm⟩)) trivial rfl
  · rename_i q q2; have q := of_decide_eq_true q; simp only [Int.toNat_natCast] at q2
    exact ⟨i + 1, ⟨by omega, all_lt h0 (exE_0 (not_f q2))⟩, by show x.ex.length - (i + 1) < x.ex.length - i; omega, .le ⟨rfl, ⟨.refl _, .refl _, trivial⟩, ⟨.refl _, .refl _, .refl _, trivial⟩⟩⟩
  · rename_i he hm; have he := of_decide_eq_false he
    have w := trip_3 hh (fun j hj => h0 j (by omega)) (tM_1 hm) (by decide); exact .mk [] [] _ rfl (.le (.tups ⟨⟨trivial, .intI w.2.symm⟩, .intI w.1.symm⟩)) trivial rfl
  all_goals (rename_i he hm hn; have he := of_decide_eq_false he; have z1 : ∀ j, j < x.ex.length → exE x j = 0 := fun j hj => h0 j (by omega); clear h0 hi he)
  · have w := trip_3 hh z1 (tM_2 hm hn) (by decide); exact .mk [] [] _ rfl (.le (.tups ⟨⟨trivial, .intI w.2.symm⟩, .intI w.1.symm⟩)) trivial rfl
  have hm : tripM x = 0 := tM_3 hm hn
  refine ⟨Nat, fun i => ([(2, .ptr 0 0), (3, .ptr 1 0), (9, .int .i64 i)], [.box (trfC t), .box (trpC x)]), fun i => i ≤ x.sg.length ∧ ∀ j, j < i → sgE t x j = 0, fun i => x.sg.length - i, ⟨0, ⟨Nat.zero_le _, fun _ h => by omega⟩, .le ⟨rfl, ⟨.refl _, .refl _, trivial⟩, ⟨.refl _, .refl _, .refl _, trivial⟩⟩⟩, fun i ⟨hi, h0⟩ => ?_⟩
  repeat' (first
    | ((with_reducible refine (?_ : Alt _ _)); first | (with_reducible apply callAlt (c20 hX t (Side.mk hs.1))) | ((with_reducible apply callAlt (c95 hX x.m)); case hl => (first | exact AllLe.refl _ | ((repeat' (first | exact trivial | apply Le.aggs | apply Le.tups | apply Le.fns | exact Le.refl _ | refine ⟨?_, ?_⟩)); done))) | (with_reducible apply callAlt (c27 hX _ _ _)) | (with_reducible apply callAlt (c90 hX t _ (Side.mk k1))) | (with_reducible refine Alt.one ?_))
    | ((with_reducible refine (?_ : AllLe _ _)); first | (first | exact AllLe.refl _ | (repeat' (first | exact trivial | apply Le.aggs | apply Le.tups | apply Le.fns | exact Le.refl _ | refine ⟨?_, ?_⟩))))
    | ((with_reducible refine (?_ : Sc _ (AllRen _ _ _))); refine Sc.of ?_; first | (repeat' (first | exact trivial | apply Le.aggs | apply Le.tups | apply Le.fns | exact Le.refl _ | refine ⟨?_, ?_⟩)))
    | ((with_reducible refine (?_ : (List.all _ _) = true)); rfl)
    | ((with_reducible refine (?_ : (and _ _) = true)); rfl)
    | ((with_reducible refine (?_ : List.Nodup _)); exact nodupB_spec rfl)
    | ((with_reducible refine (?_ : @Eq Nat _ _)); rfl)
    | ((with_reducible refine (?_ : LeOks _ _ _)); first | exact trivial | exact ⟨.refl _, trivial⟩ | exact ⟨.refl _, .refl _, trivial⟩)
    | ((fail_if_success with_reducible refine Stop.go ?_); (first | with_reducible refine And.intro ?_ ?_ | with_reducible refine Cut.go ?_ | (with_reducible (refine impI ?_; intro _)) | (with_reducible refine (?_ : footOK _ _ = true); kernel_rfl) | ((with_reducible refine propI ?_); conv => whnf))))
  all_goals try (exact .of (Nat.le_of_ble_eq_true rfl))
  all_goals try (rename_i q q2 q3; have q := of_decide_eq_true q; exact .of ⟨by omega, by omega⟩)
  all_goals try (rename_i q q2; have q := of_decide_eq_true q; exact .of ⟨by omega, by omega⟩)
  all_goals try (rename_i q; have q := of_decide_eq_true q; exact .of ⟨by omega, by omega⟩)
  · rename_i q q2; have q := of_decide_eq_true q; simp only [Int.toNat_natCast] at q2
    have w := trip_4 hh z1 hm (show i < x.sg.length by omega) h0 (sE_1 q2) (by decide); exact .mk [] [] _ rfl (.le (.tups ⟨⟨trivial, .intI w.2.symm⟩, .intI (by rw [w.1])⟩)) trivial rfl
  · rename_i q q2 q3; have q := of_decide_eq_true q; simp only [Int.toNat_natCast] at q2 q3
    have w := trip_4 hh z1 hm (show i < x.sg.length by omega) h0 (sE_2 q2 q3) (by decide); exact .mk [] [] _ rfl (.le (.tups ⟨⟨trivial, .intI w.2.symm⟩, .intI (by rw [w.1])⟩)) trivial rfl
  · rename_i q q2 q3; have q := of_decide_eq_true q; simp only [Int.toNat_natCast] at q2 q3
    exact ⟨i + 1, ⟨by omega, all_lt h0 (sE_3 q2 q3)⟩, by show x.sg.length - (i + 1) < x.sg.length - i; omega, .le ⟨rfl, ⟨.refl _, .refl _, trivial⟩, ⟨.refl _, .refl _, .refl _, trivial⟩⟩⟩
  · rename_i he; have he := of_decide_eq_false he
    have w := trip_5 hh z1 hm (fun j hj => h0 j (by omega)); exact .mk [] [] _ rfl (.le (.tups ⟨⟨trivial, .intI w.2.symm⟩, .intI w.1.symm⟩)) trivial rfl
theorem c21 (t : Trf) (p : Plc) (hs : Side (t.zones.length ≤ 1000)) : Pure (Xc W0 G) 21 [trfA t, plcA p] (.int .i64 (placeE t p)) := by
  refine mut_of' hX (show FnIs (Xc W0 G) 21 Tryz.f21 (codeOf Tryz.f21) from ⟨by kernel_rfl, by kernel_rfl, by kernel_rfl, by kernel_rfl⟩) rfl ?_
  repeat' (first
    | ((with_reducible refine (?_ : Alt _ _)); first | (with_reducible apply callAlt (c90 hX t _ hs)) | ((with_reducible apply callAlt (c95 hX p.m)); case hl => (first | exact AllLe.refl _ | ((repeat' (first | exact trivial | apply Le.aggs | apply Le.tups | apply Le.fns | exact Le.refl _ | refine ⟨?_, ?_⟩)); done))) | (with_reducible refine Alt.one ?_))
    | ((with_reducible refine (?_ : AllLe _ _)); first | (first | exact AllLe.refl _ | (repeat' (first | exact trivial | apply Le.aggs | apply Le.tups | apply Le.fns | exact Le.refl _ | refine ⟨?_, ?_⟩))))
    | ((with_reducible refine (?_ : Sc _ (AllRen _ _ _))); refine Sc.of ?_; first | (repeat' (first | exact trivial | apply Le.aggs | apply Le.tups | apply Le.fns | exact Le.refl _ | refine ⟨?_, ?_⟩)))
    | ((with_reducible refine (?_ : (List.all _ _) = true)); rfl)
    | ((with_reducible refine (?_ : (and _ _) = true)); rfl)
    | ((with_reducible refine (?_ : List.Nodup _)); exact nodupB_spec rfl)
    | ((with_reducible refine (?_ : @Eq Nat _ _)); rfl)
    | ((with_reducible refine (?_ : LeOks _ _ _)); first | exact trivial | exact ⟨.refl _, trivial⟩ | exact ⟨.refl _, .refl _, trivial⟩)
    | ((fail_if_success with_reducible refine Stop.go ?_); (first | with_reducible refine And.intro ?_ ?_ | with_reducible refine Cut.go ?_ | (with_reducible (refine impI ?_; intro _)) | (with_reducible refine (?_ : footOK _ _ = true); kernel_rfl) | ((with_reducible refine propI ?_); conv => whnf))))
  all_goals try (exact .of (Nat.le_of_ble_eq_true rfl))
  all_goals (rename_i h; unfold placeE; first | (have h := not_t h; rw [h]; exact .mk [] [] _ rfl (.le (.intI (rfl))) trivial rfl) | (have h := not_f h; rw [h]; exact .mk [] [] _ rfl (.le (.intI (by cases momB p.m <;> rfl))) trivial rfl))
theorem c100 (m : Mom) (k : Int) (hs : Side ((0 ≤ m.d ∧ m.d ≤ 200000) ∧ (0 ≤ m.s ∧ m.s ≤ 86399) ∧ (0 ≤ k ∧ k ≤ 100000000))) : Pure (Xc W0 G) 100 [momA m, .int .i64 k] (momA (laterQ m k)) := by
  refine mut_of' hX (show FnIs (Xc W0 G) 100 Tryz.f100 (codeOf Tryz.f100) from ⟨by kernel_rfl, by kernel_rfl, by kernel_rfl, by kernel_rfl⟩) rfl ?_
  repeat' (first
    | ((with_reducible refine (?_ : Alt _ _)); first | fail | (with_reducible refine Alt.one ?_))
    | ((with_reducible refine (?_ : AllLe _ _)); first | (first | exact AllLe.refl _ | (repeat' (first | exact trivial | apply Le.aggs | apply Le.tups | apply Le.fns | exact Le.refl _ | refine ⟨?_, ?_⟩))))
    | ((with_reducible refine (?_ : Sc _ (AllRen _ _ _))); refine Sc.of ?_; first | (repeat' (first | exact trivial | apply Le.aggs | apply Le.tups | apply Le.fns | exact Le.refl _ | refine ⟨?_, ?_⟩)))
    | ((with_reducible refine (?_ : (List.all _ _) = true)); rfl)
    | ((with_reducible refine (?_ : (and _ _) = true)); rfl)
    | ((with_reducible refine (?_ : List.Nodup _)); exact nodupB_spec rfl)
    | ((with_reducible refine (?_ : @Eq Nat _ _)); rfl)
    | ((with_reducible refine (?_ : LeOks _ _ _)); first | exact trivial | exact ⟨.refl _, trivial⟩ | exact ⟨.refl _, .refl _, trivial⟩)
    | ((fail_if_success with_reducible refine Stop.go ?_); (first | with_reducible refine And.intro ?_ ?_ | with_reducible refine Cut.go ?_ | (with_reducible (refine impI ?_; intro _)) | (with_reducible refine (?_ : footOK _ _ = true); kernel_rfl) | ((with_reducible refine propI ?_); conv => whnf))))
  all_goals try (exact .of (Nat.le_of_ble_eq_true rfl))
  all_goals try (exact .of (by decide))
  all_goals try (have hs := hs.get; have qb := quo_bd (a := m.s + k) (d := 86400) (B := 100086399) (by omega) (by omega) (by decide); exact .of ⟨by omega, by omega⟩)
  all_goals exact .mk [] [] _ rfl (.le (.aggs ⟨⟨trivial, .intI rfl⟩, .intI rfl⟩)) trivial rfl
end
end Go.Fx
