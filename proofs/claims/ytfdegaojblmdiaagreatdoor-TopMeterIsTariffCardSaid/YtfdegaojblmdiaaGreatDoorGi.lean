/-
  Trips: the program's checks, rules, points.
-/
import Derived.Test.YtfdegaojblmdiaaGreatDoorGs

set_option linter.all false

/-
  Trips: what is wrong with one; kinds of dates, later moments, copies of trips, short ones.
-/
namespace Go.Fx
open Go.Proofs Go.RowKit

theorem exE_0 {x : Trp} {i : Nat} (h : inB (x.ex.getD i 0) 0 20 = true) : exE x i = 0 := by unfold exE; rw [h]; rfl
theorem exE_2 {x : Trp} {i : Nat} (h : inB (x.ex.getD i 0) 0 20 = false) : exE x i = 2 := by unfold exE; rw [h]; rfl
theorem bne0 {e : Int} (h : (e != 0) = true) : e ≠ 0 := bne_iff_ne.1 h
theorem bne1 {e : Int} (h : (e != 0) = false) : e = 0 := bne_eq_false_iff_eq.1 h
theorem tripH_is {t : Trf} {x : Trp} : firstS [trfE t, isOk (momB x.m) 2, isOk ((x.ex.length : Int) == (t.extras.length : Int)) 10] = tripH t x := by unfold tripH; rfl
theorem tripM_is {x : Trp} : firstS [isOk (decide (0 < (x.sg.length : Int))) 10, isOk (decide ((x.sg.length : Int) ≤ 60)) 8] = tripM x := by unfold tripM; rfl
theorem sgE_is {t : Trf} {x : Trp} {i : Nat} : firstS [isOk (zoneIn t (x.sg.getD i seg0).z) 6, isOk (bif inB (x.sg.getD i seg0).me 0 100000 then inB (x.sg.getD i seg0).se 1 36000 else false) 2] = sgE t x i := by unfold sgE; rfl
theorem not_t {b : Bool} (h : (!b) = true) : b = false := by cases b <;> simp_all
theorem not_f {b : Bool} (h : (!b) = false) : b = true := by cases b <;> simp_all
@[irreducible] def kindE (t : Trf) (d : Int) : Int := firstS [trfE t, isOk (inB d 0 100000) 2]
@[irreducible] def kindV (t : Trf) (d : Int) : Int := bif decide (kindE t d = 0) then kindN t d else 0
section
variable {W0 : World} {G : Nat → Option AV} (hX : (Xc W0 G).Good)
include hX
theorem c117 (t : Trf) (x : Trp) (hs : Side (TOk t ∧ XOk x)) : Pure (Xc W0 G) 117 [trfA t, trpA x] (.tup 2 (tbl [.int .i64 (tripN t x), .int .i64 (tripE t x)])) := by
  have hs := hs.get
  have tk := hs.1
  have k1 := tk.zones
  have k2 := hs.2.ex
  have k3 := hs.2.sg
  have k4 := tk.extras
  refine mut_of' hX (fnI Tryz.f117) rfl ?_
  repeat' (first
    | (refine Ax.go ?_; first | (with_reducible apply callAlt (c156 hX t (Side.mk hs.1))) | ((with_reducible apply callAlt (c157 hX x.m)); case hl => (first | exact AllLe.refl _ | ((repeat' (first | exact trivial | apply Le.aggs | apply Le.tups | apply Le.fns | exact Le.refl _ | refine ⟨?_, ?_⟩)); done))) | (with_reducible apply callAlt (c99 hX _ _)) | ((with_reducible apply callAlt (c97_2 hX _ _)); case hl => (first | exact ⟨le_slc2 rfl rfl, trivial⟩ | exact ⟨le_slc3 rfl rfl rfl, trivial⟩ | exact ⟨le_slc5 rfl rfl rfl rfl rfl, trivial⟩ | exact AllLe.refl _)) | ((with_reducible apply callAlt (c97_3 hX _ _ _)); case hl => (first | exact ⟨le_slc2 rfl rfl, trivial⟩ | exact ⟨le_slc3 rfl rfl rfl, trivial⟩ | exact ⟨le_slc5 rfl rfl rfl rfl rfl, trivial⟩ | exact AllLe.refl _)) | (with_reducible apply callAlt (c95 hX _ _ _)) | (with_reducible apply callAlt (c114 hX t _ (Side.mk k1))) | refine Alt.one ?_)
    | ((with_reducible refine Ar.go ?_); first | exact ⟨le_slc2 rfl rfl, trivial⟩ | exact ⟨le_slc3 rfl rfl rfl, trivial⟩ | exact AllLe.refl _ | (repeat' (first | exact trivial | apply Le.aggs | apply Le.tups | apply Le.fns | exact Le.refl _ | refine ⟨?_, ?_⟩)))
    | exact Cl.go
    | exact Ck.go
    | ((fail_if_success refine Stop.go ?_); (first | (with_reducible first | refine And.intro ?_ ?_ | refine Cut.go ?_ | (refine impI ?_; intro _)) | (refine propI ?_; conv => whnf))))
  all_goals try (exact .of (Nat.le_of_ble_eq_true rfl))
  · rename_i h; have w := trip_1 (tripH_is (t := t) (x := x)).symm (bne0 h); exact .mk [] [] _ rfl (.le (.tups ⟨⟨trivial, .intI w.2.symm⟩, .intI w.1.symm⟩)) trivial rfl
  rename_i h
  have hh : tripH t x = 0 := tripH_is.symm.trans (bne1 h)
  refine ⟨Nat, fun i => ([(2, .ptr 0 0), (3, .ptr 1 0), (38, iRow x.ex), (39, .int .i64 x.ex.length), (40, .int .i64 i)], [.box (trfC t), .box (trpC x), .dead]), fun i => i ≤ x.ex.length ∧ ∀ j, j < i → exE x j = 0, fun i => x.ex.length - i, ⟨0, ⟨Nat.zero_le _, fun _ h => by omega⟩, .le ⟨rfl, ⟨.refl _, .refl _, .dead _, trivial⟩, ⟨.refl _, .refl _, .refl _, .refl _, .refl _, trivial⟩⟩⟩, fun i ⟨hi, h0⟩ => ?_⟩
  repeat' (first
    | (refine Ax.go ?_; first | (with_reducible apply callAlt (c156 hX t (Side.mk hs.1))) | ((with_reducible apply callAlt (c157 hX x.m)); case hl => (first | exact AllLe.refl _ | ((repeat' (first | exact trivial | apply Le.aggs | apply Le.tups | apply Le.fns | exact Le.refl _ | refine ⟨?_, ?_⟩)); done))) | (with_reducible apply callAlt (c99 hX _ _)) | ((with_reducible apply callAlt (c97_2 hX _ _)); case hl => (first | exact ⟨le_slc2 rfl rfl, trivial⟩ | exact ⟨le_slc3 rfl rfl rfl, trivial⟩ | exact ⟨le_slc5 rfl rfl rfl rfl rfl, trivial⟩ | exact AllLe.refl _)) | ((with_reducible apply callAlt (c97_3 hX _ _ _)); case hl => (first | exact ⟨le_slc2 rfl rfl, trivial⟩ | exact ⟨le_slc3 rfl rfl rfl, trivial⟩ | exact ⟨le_slc5 rfl rfl rfl rfl rfl, trivial⟩ | exact AllLe.refl _)) | (with_reducible apply callAlt (c95 hX _ _ _)) | (with_reducible apply callAlt (c114 hX t _ (Side.mk k1))) | refine Alt.one ?_)
    | ((with_reducible refine Ar.go ?_); first | exact ⟨le_slc2 rfl rfl, trivial⟩ | exact ⟨le_slc3 rfl rfl rfl, trivial⟩ | exact AllLe.refl _ | (repeat' (first | exact trivial | apply Le.aggs | apply Le.tups | apply Le.fns | exact Le.refl _ | refine ⟨?_, ?_⟩)))
    | exact Cl.go
    | exact Ck.go
    | ((fail_if_success refine Stop.go ?_); (first | (with_reducible first | refine And.intro ?_ ?_ | refine Cut.go ?_ | (refine impI ?_; intro _)) | (refine propI ?_; conv => whnf))))
  all_goals try (exact .of (Nat.le_of_ble_eq_true rfl))
  all_goals try (rename_i q q2; have q := of_decide_eq_true q; exact .of ⟨by omega, by omega⟩)
  all_goals try (rename_i q; have q := of_decide_eq_true q; exact .of ⟨by omega, by omega⟩)
  · rename_i q q2; have q := of_decide_eq_true q; simp only [Int.toNat_natCast] at q2
    have w := trip_2 hh (show i < x.ex.length by omega) h0 (exE_2 (not_t q2)) (by decide); exact .mk [] [] _ rfl (.le (.tups ⟨⟨trivial, .intI w.2.symm⟩, .intI w.1.symm⟩)) trivial rfl
  · rename_i q q2; have q := of_decide_eq_true q; simp only [Int.toNat_natCast] at q2
    exact ⟨i + 1, ⟨by omega, all_lt h0 (exE_0 (not_f q2))⟩, by show x.ex.length - (i + 1) < x.ex.length - i; omega, .le ⟨rfl, ⟨.refl _, .refl _, .dead _, trivial⟩, ⟨.refl _, .refl _, .refl _, .refl _, .refl _, trivial⟩⟩⟩
  all_goals (rename_i he hm; have he := of_decide_eq_false he; have z1 : ∀ j, j < x.ex.length → exE x j = 0 := fun j hj => h0 j (by omega); clear h0 hi he)
  · have w := trip_3 hh z1 (tripM_is (x := x)).symm (bne0 hm); exact .mk [] [] _ rfl (.le (.tups ⟨⟨trivial, .intI w.2.symm⟩, .intI w.1.symm⟩)) trivial rfl
  have hm : tripM x = 0 := tripM_is.symm.trans (bne1 hm)
  refine ⟨Nat, fun i => ([(2, .ptr 0 0), (66, segS x.sg), (67, .int .i64 x.sg.length), (68, .int .i64 i)], [.box (trfC t), .dead, .dead]), fun i => i ≤ x.sg.length ∧ ∀ j, j < i → sgE t x j = 0, fun i => x.sg.length - i, ⟨0, ⟨Nat.zero_le _, fun _ h => by omega⟩, .le ⟨rfl, ⟨.refl _, .dead _, .dead _, trivial⟩, ⟨.refl _, .refl _, .refl _, .refl _, trivial⟩⟩⟩, fun i ⟨hi, h0⟩ => ?_⟩
  repeat' (first
    | (refine Ax.go ?_; first | (with_reducible apply callAlt (c156 hX t (Side.mk hs.1))) | ((with_reducible apply callAlt (c157 hX x.m)); case hl => (first | exact AllLe.refl _ | ((repeat' (first | exact trivial | apply Le.aggs | apply Le.tups | apply Le.fns | exact Le.refl _ | refine ⟨?_, ?_⟩)); done))) | (with_reducible apply callAlt (c99 hX _ _)) | ((with_reducible apply callAlt (c97_2 hX _ _)); case hl => (first | exact ⟨le_slc2 rfl rfl, trivial⟩ | exact ⟨le_slc3 rfl rfl rfl, trivial⟩ | exact ⟨le_slc5 rfl rfl rfl rfl rfl, trivial⟩ | exact AllLe.refl _)) | ((with_reducible apply callAlt (c97_3 hX _ _ _)); case hl => (first | exact ⟨le_slc2 rfl rfl, trivial⟩ | exact ⟨le_slc3 rfl rfl rfl, trivial⟩ | exact ⟨le_slc5 rfl rfl rfl rfl rfl, trivial⟩ | exact AllLe.refl _)) | (with_reducible apply callAlt (c95 hX _ _ _)) | (with_reducible apply callAlt (c114 hX t _ (Side.mk k1))) | refine Alt.one ?_)
    | ((with_reducible refine Ar.go ?_); first | exact ⟨le_slc2 rfl rfl, trivial⟩ | exact ⟨le_slc3 rfl rfl rfl, trivial⟩ | exact AllLe.refl _ | (repeat' (first | exact trivial | apply Le.aggs | apply Le.tups | apply Le.fns | exact Le.refl _ | refine ⟨?_, ?_⟩)))
    | exact Cl.go
    | exact Ck.go
    | ((fail_if_success refine Stop.go ?_); (first | (with_reducible first | refine And.intro ?_ ?_ | refine Cut.go ?_ | (refine impI ?_; intro _)) | (refine propI ?_; conv => whnf))))
  all_goals try (exact .of (Nat.le_of_ble_eq_true rfl))
  all_goals try (rename_i q q2; have q := of_decide_eq_true q; exact .of ⟨by omega, by omega⟩)
  all_goals try (rename_i q; have q := of_decide_eq_true q; exact .of ⟨by omega, by omega⟩)
  · rename_i q q2; have q := of_decide_eq_true q; simp only [Int.toNat_natCast] at q2
    have w := trip_4 hh z1 hm (show i < x.sg.length by omega) h0 sgE_is.symm (bne0 q2); exact .mk [] [] _ rfl (.le (.tups ⟨⟨trivial, .intI w.2.symm⟩, .intI (by rw [w.1]; rfl)⟩)) trivial rfl
  · rename_i q q2; have q := of_decide_eq_true q; simp only [Int.toNat_natCast] at q2
    exact ⟨i + 1, ⟨by omega, all_lt h0 (sgE_is.symm.trans (bne1 q2))⟩, by show x.sg.length - (i + 1) < x.sg.length - i; omega, .le ⟨rfl, ⟨.refl _, .dead _, .dead _, trivial⟩, ⟨.refl _, .refl _, .refl _, .refl _, trivial⟩⟩⟩
  · rename_i he; have he := of_decide_eq_false he
    have w := trip_5 hh z1 hm (fun j hj => h0 j (by omega)); exact .mk [] [] _ rfl (.le (.tups ⟨⟨trivial, .intI w.2.symm⟩, .intI w.1.symm⟩)) trivial rfl



theorem c119 (m : Mom) (k : Int) (hs : Side ((0 ≤ m.d ∧ m.d ≤ 200000) ∧ (0 ≤ m.s ∧ m.s ≤ 86399) ∧ (0 ≤ k ∧ k ≤ 100000000))) : Pure (Xc W0 G) 119 [momA m, .int .i64 k] (momA (laterQ m k)) := by
  refine mut_of' hX (fnI Tryz.f119) rfl ?_
  repeat' (first
    | (refine Ax.go ?_; refine Alt.one ?_)
    | exact Cl.go
    | exact Ck.go
    | ((fail_if_success refine Stop.go ?_); (first | (with_reducible first | refine And.intro ?_ ?_ | refine Cut.go ?_ | (refine impI ?_; intro _)) | (refine propI ?_; conv => whnf))))
  all_goals try (exact .of (Nat.le_of_ble_eq_true rfl))
  all_goals try (exact .of (by decide))
  all_goals try (have hs := hs.get; have qb := quo_bd (a := m.s + k) (d := 86400) (B := 100086399) (by omega) (by omega) (by decide); exact .of ⟨by omega, by omega⟩)
  all_goals exact .mk [] [] _ rfl (.le (.aggs ⟨⟨trivial, .intI rfl⟩, .intI rfl⟩)) trivial rfl

theorem c38 (x : Trp) (hs : Side (XOk x)) : Pure (Xc W0 G) 38 [trpA x] (trpA x) := by
  have hs := hs.get
  have k1 := hs.ex
  have k2 := hs.sg
  refine mut_of' hX (fnI Tryz.f38) rfl ?_
  repeat' (first
    | (refine Ax.go ?_; first | ((with_reducible apply callAlt (c55 hX x.ex ?_)); case hl => (first | exact AllLe.refl _ | ((repeat' (first | exact trivial | apply Le.aggs | apply Le.tups | apply Le.fns | exact Le.refl _ | refine ⟨?_, ?_⟩)); done))) | refine Alt.one ?_)
    | exact Cl.go
    | exact Ck.go
    | ((fail_if_success refine Stop.go ?_); (first | (with_reducible first | refine And.intro ?_ ?_ | refine Cut.go ?_ | (refine impI ?_; intro _)) | (refine propI ?_; conv => whnf))))
  all_goals try (exact .of (Nat.le_of_ble_eq_true rfl))
  all_goals try (exact Side.mk (by omega))
  all_goals try (refine Sc.of ⟨?_, by omega⟩; show x.sg.length * 24 ≤ 140737488355328; omega)
  exact .mk [] [2] _ rfl (.aggs ⟨⟨⟨⟨⟨trivial, .le (.refl _)⟩, .le (.refl _)⟩, .le (.refl _)⟩, .le (.refl _)⟩, .own rfl fun _ _ _ _ => .refl _⟩) trivial rfl

end
end Go.Fx

/-
  Segments counted; a trip opened.
-/
namespace Go.Fx
open Go.Proofs Go.RowKit

def ctdC (n : Int) (r : Rul) (a b : Int) : List AV := [.int .i64 n, .str r.name, .int .i64 r.fr, .int .i64 r.tt, iRow r.zones, iRow r.days, .int .i64 r.bg, .int .i64 r.en, .int .i64 r.st, .int .i64 r.me, .int .i64 r.se, .int .i64 a, .int .i64 b]
def ctdZ : List AV := [.int .i64 0, .str bs0, .int .i64 0, .int .i64 0, .slc0, .slc0, .int .i64 0, .int .i64 0, .int .i64 0, .int .i64 0, .int .i64 0, .int .i64 0, .int .i64 0]
def cntL (t : Trf) (s : Seg) (m : Mom) : List Int := holdI t ⟨s.z, m⟩ t.rules.length
def cntR (t : Trf) (s : Seg) (m : Mom) : Rul := t.rules.getD (oneN (cntL t s m)).toNat rul0
def cntO (t : Trf) (s : Seg) (m : Mom) : List AV := ctdC (oneN (cntL t s m)) (cntR t s m) ((cntR t s m).me * s.me) ((cntR t s m).se * s.se)
theorem one_bd {t : Trf} {p : Plc} (h : oneE (holdI t p t.rules.length) = 0) : 0 ≤ oneN (holdI t p t.rules.length) ∧ oneN (holdI t p t.rules.length) < t.rules.length := by
  have := hold_mem t p t.rules.length _ (oneN_mem h); exact this
def ctdS (t : Trf) (x : Trp) (k : Nat) : List AV := ctdC (segN t x k) (segR t x k) (ptM t x k) (ptS t x k)
def ctdL (t : Trf) (x : Trp) (k : Nat) : AV := .slc 13 k (fun a j => tbl (ctdS t x a) j)
def rideCk (t : Trf) (x : Trp) (k : Nat) : List AV := [.str t.name, .int .i64 t.unit, .int .i64 t.step, sRow t.zones, iRow t.hol, rulS t.rules, extS t.extras, fxdS t.fixed, .int .i64 x.m.d, .int .i64 x.m.s, .bool x.fx, iRow x.ex, segS x.sg, ctdL t x k]
def rideC (t : Trf) (x : Trp) : List AV := rideCk t x x.sg.length
def rideZ : List AV := [.str bs0, .int .i64 0, .int .i64 0, .slc0, .slc0, .slc0, .slc0, .slc0, .int .i64 0, .int .i64 0, .bool false, .slc0, .slc0, .slc0]
@[irreducible] def rideR (t : Trf) (x : Trp) : AV := bif decide (rideE t x = 0) then .agg 14 (tbl (rideC t x)) else .agg 14 (tbl rideZ)
theorem push_c {n a j : Nat} {t : Trf} {x : Trp} {g : Nat → Nat → AV} (hg : ∀ j, g 0 j = tbl (ctdS t x n) (0 * 13 + j)) (ha : a < n + 1) : joinF n (fun a j => tbl (ctdS t x a) j) g a j = tbl (ctdS t x a) j := by
  unfold joinF
  by_cases h : a < n
  · rw [if_pos h]
  · obtain rfl : a = n := by omega
    rw [if_neg h, Nat.sub_self, hg, Nat.zero_mul, Nat.zero_add]
theorem seg_0 {t : Trf} {x : Trp} {k : Nat} (h : segE t x k = 0) : momB (segM x k) = true ∧ oneE (cntL t (sgx x k) (segM x k)) = 0 := by
  unfold segE at h
  cases hm : momB (segM x k) <;> rw [hm] at h
  · cases h
  · exact ⟨rfl, h⟩
theorem ride_trip {t : Trf} {x : Trp} (h : rideE t x = 0) : tripE t x = 0 := by
  unfold rideE at h
  by_cases a : tripE t x = 0
  · exact a
  · rw [decide_eq_false a] at h; exact absurd h a
theorem seg_e {t : Trf} {x : Trp} {k : Nat} : segE t x k = bif momB (segM x k) then oneE (cntL t (sgx x k) (segM x k)) else 2 := by unfold segE; rfl
section
variable {W0 : World} {G : Nat → Option AV} (hX : (Xc W0 G).Good)
include hX
theorem c118 (t : Trf) (s : Seg) (m : Mom) (hs : Side (HOk t)) (hb : Side ((0 ≤ s.me ∧ s.me ≤ 100000) ∧ (1 ≤ s.se ∧ s.se ≤ 36000))) (ho : Side (trfE t = 0 ∧ momB m = true ∧ oneE (cntL t s m) = 0)) : Pure (Xc W0 G) 118 [trfA t, segA s, momA m] (.tup 2 (tbl [.agg 13 (tbl (cntO t s m)), .int .i64 0])) := by
  have hb := hb.get
  have ht := ho.get.1
  have ho := ho.get.2
  refine mut_of' hX (fnI Tryz.f118) rfl ?_
  repeat' (first
    | (refine Ax.go ?_; first | ((with_reducible apply callAlt (c157 hX m)); case hl => (first | exact AllLe.refl _ | ((repeat' (first | exact trivial | apply Le.aggs | apply Le.tups | apply Le.fns | exact Le.refl _ | refine ⟨?_, ?_⟩)); done))) | ((with_reducible apply callAlt (c158 hX t ⟨s.z, m⟩ hs)); case hl => (first | exact AllLe.refl _ | ((repeat' (first | exact trivial | apply Le.aggs | apply Le.tups | apply Le.fns | exact Le.refl _ | refine ⟨?_, ?_⟩)); done))) | refine Alt.one ?_)
    | exact Cl.go
    | exact Ck.go
    | ((fail_if_success refine Stop.go ?_); (first | (with_reducible first | refine And.intro ?_ ?_ | refine Cut.go ?_ | (refine impI ?_; intro _)) | (refine propI ?_; conv => whnf))))
  all_goals try (exact .of (Nat.le_of_ble_eq_true rfl))
  · rename_i q; rw [ho.1] at q; exact absurd q (by decide)
  · rename_i q q2; have e : oneE (cntL t s m) = 0 := ho.2; exact absurd q2 (by show ¬ (oneE (cntL t s m) != 0) = true; rw [e]; decide)
  · have b := one_bd ho.2; exact .of ⟨by omega, by omega⟩
  · have b := one_bd ho.2; have r := trf_rule ht (k := (oneN (holdI t ⟨s.z, m⟩ t.rules.length)).toNat) (by omega); have u := mul_bd (A := 1000000) (B := 100000) r.me.1 r.me.2 hb.1.1 hb.1.2; exact .of ⟨by omega, by omega⟩
  · have b := one_bd ho.2; have r := trf_rule ht (k := (oneN (holdI t ⟨s.z, m⟩ t.rules.length)).toNat) (by omega); have u := mul_bd (A := 1000000) (B := 36000) r.se.1 r.se.2 (by omega : 0 ≤ s.se) hb.2.2; exact .of ⟨by omega, by omega⟩
  · exact .mk [] [] _ rfl (.le (.tups ⟨⟨trivial, .aggs ⟨⟨⟨⟨⟨⟨⟨⟨⟨⟨⟨⟨⟨trivial, .refl _⟩, .refl _⟩, .refl _⟩, .refl _⟩, .refl _⟩, .refl _⟩, .refl _⟩, .refl _⟩, .refl _⟩, .refl _⟩, .refl _⟩, .refl _⟩, .refl _⟩⟩, .refl _⟩)) trivial rfl
theorem c118e (t : Trf) (s : Seg) (m : Mom) (hs : Side (HOk t)) (ho : (bif momB m then oneE (cntL t s m) else 2) ≠ 0) : Pure (Xc W0 G) 118 [trfA t, segA s, momA m] (.tup 2 (tbl [.agg 13 (tbl ctdZ), .int .i64 (bif momB m then oneE (cntL t s m) else 2)])) := by
  refine mut_of' hX (fnI Tryz.f118) rfl ?_
  repeat' (first
    | (refine Ax.go ?_; first | ((with_reducible apply callAlt (c157 hX m)); case hl => (first | exact AllLe.refl _ | ((repeat' (first | exact trivial | apply Le.aggs | apply Le.tups | apply Le.fns | exact Le.refl _ | refine ⟨?_, ?_⟩)); done))) | ((with_reducible apply callAlt (c158 hX t ⟨s.z, m⟩ hs)); case hl => (first | exact AllLe.refl _ | ((repeat' (first | exact trivial | apply Le.aggs | apply Le.tups | apply Le.fns | exact Le.refl _ | refine ⟨?_, ?_⟩)); done))) | refine Alt.one ?_)
    | exact Cl.go
    | exact Ck.go
    | ((fail_if_success refine Stop.go ?_); (first | (with_reducible first | refine And.intro ?_ ?_ | refine Cut.go ?_ | (refine impI ?_; intro _)) | (refine propI ?_; conv => whnf))))
  all_goals try (exact .of (Nat.le_of_ble_eq_true rfl))
  · rename_i q; have b := ok_ne q; exact .mk [] [] _ rfl (.le (.tups ⟨⟨trivial, .aggs ⟨⟨⟨⟨⟨⟨⟨⟨⟨⟨⟨⟨⟨trivial, .refl _⟩, .refl _⟩, .refl _⟩, .refl _⟩, .refl _⟩, .refl _⟩, .refl _⟩, .refl _⟩, .refl _⟩, .refl _⟩, .refl _⟩, .refl _⟩, .refl _⟩⟩, .intI (by rw [b.1]; rfl)⟩)) trivial rfl
  · rename_i q q2; have b := ok_eq q; exact .mk [] [] _ rfl (.le (.tups ⟨⟨trivial, .aggs ⟨⟨⟨⟨⟨⟨⟨⟨⟨⟨⟨⟨⟨trivial, .refl _⟩, .refl _⟩, .refl _⟩, .refl _⟩, .refl _⟩, .refl _⟩, .refl _⟩, .refl _⟩, .refl _⟩, .refl _⟩, .refl _⟩, .refl _⟩, .refl _⟩⟩, .intI (by rw [b]; rfl)⟩)) trivial rfl
  all_goals (exfalso; rename_i q q2; have b := ok_eq q; have c := bne1 q2; rw [b] at ho; exact ho c)
set_option maxHeartbeats 1000000 in
theorem c74 (t : Trf) (x : Trp) (hs : Side (TOk t ∧ XOk x)) (hr : rideE t x = 0) : Pure (Xc W0 G) 74 [trfA t, trpA x] (.tup 2 (tbl [.agg 14 (tbl (rideC t x)), .int .i64 0])) := by
  have hs0 := hs
  have hs := hs.get
  have tk := hs.1
  have k2 := hs.2.ex
  have k3 := hs.2.sg
  obtain ⟨T, hseg⟩ := ride_0 hr
  have hT := ride_trip hr
  refine mut_of' hX (fnI Tryz.f74) rfl ?_
  repeat' (first
    | (refine Ax.go ?_; first | (with_reducible apply callAlt (c117 hX t x hs0)) | refine Alt.one ?_)
    | exact Cl.go
    | exact Ck.go
    | ((fail_if_success refine Stop.go ?_); (first | (with_reducible first | refine And.intro ?_ ?_ | refine Cut.go ?_ | (refine impI ?_; intro _)) | (refine propI ?_; conv => whnf))))
  all_goals try (exact .of (Nat.le_of_ble_eq_true rfl))
  · rename_i q; exact absurd hT (bne0 q)
  have hk : Side (HOk t) := .mk ⟨tk, trf_sort T.trf⟩
  refine ⟨Nat, fun i => match i with | 0 => ([(4, .ptr 2 0), (8, .ptr 3 0), (9, .ptr 4 0), (31, segS x.sg), (32, .int .i64 x.sg.length), (33, .int .i64 0)], [.dead, .dead, .box rideZ, .box [.str t.name, .int .i64 t.unit, .int .i64 t.step, sRow t.zones, iRow t.hol, rulS t.rules, extS t.extras, fxdS t.fixed, .int .i64 x.m.d, .int .i64 x.m.s, .bool x.fx, iRow x.ex, segS x.sg, .slc0], .box (momC (segM x 0))]) | i + 1 => ([(4, .ptr 2 0), (8, .ptr 3 0), (9, .ptr 4 0), (31, segS x.sg), (32, .int .i64 x.sg.length), (33, .int .i64 (i + 1 : Nat))], [.dead, .dead, .box rideZ, .box [.str t.name, .int .i64 t.unit, .int .i64 t.step, sRow t.zones, iRow t.hol, rulS t.rules, extS t.extras, fxdS t.fixed, .int .i64 x.m.d, .int .i64 x.m.s, .bool x.fx, iRow x.ex, segS x.sg, .own 7 (i + 1)], .box (momC (segM x (i + 1))), .dead, .dead, .list 161 13 (i + 1) (fun a j => tbl (ctdS t x a) j) (i + 1)]), fun i => i ≤ x.sg.length ∧ ∀ j, j < i → segE t x j = 0, fun i => x.sg.length - i, ⟨0, ⟨Nat.zero_le _, fun _ h => by omega⟩, .le ⟨rfl, ⟨.dead _, .dead _, .refl _, .refl _, .refl _, trivial⟩, ⟨.refl _, .refl _, .refl _, .refl _, .refl _, .refl _, trivial⟩⟩⟩, fun i ⟨hi, h0⟩ => ?_⟩
  rcases i with _ | i
  · have b := segM_eq T 0 (Nat.zero_le _)
    repeat' (first
      | (refine Ax.go ?_; first | ((with_reducible apply callAlt (c118 hX t (sgx x 0) (segM x 0) hk ?_ ?_)); case hl => (first | exact AllLe.refl _ | ((repeat' (first | exact trivial | apply Le.aggs | apply Le.tups | apply Le.fns | exact Le.refl _ | refine ⟨?_, ?_⟩)); done))) | ((with_reducible apply callAlt (c119 hX (segM x 0) (sgx x 0).se ?_)); case hl => (first | exact AllLe.refl _ | ((repeat' (first | exact trivial | apply Le.aggs | apply Le.tups | apply Le.fns | exact Le.refl _ | refine ⟨?_, ?_⟩)); done))) | refine Alt.one ?_)
      | exact Cl.go
      | exact Ck.go
      | ((fail_if_success refine Stop.go ?_); (first | (with_reducible first | refine And.intro ?_ ?_ | refine Cut.go ?_ | (refine impI ?_; intro _)) | (refine propI ?_; conv => whnf))))
    all_goals try (exact .of (Nat.le_of_ble_eq_true rfl))
    all_goals try (rename_i q q2; exact absurd q2 (by decide))
    all_goals try (rename_i q; have q := of_decide_eq_true q; first | exact .of ⟨by omega, by omega⟩ | exact .of (by decide) | (refine Sc.of ⟨show (0 + (0 + 1)) * 144 ≤ 140737488355328 by omega, show 0 + (0 + 1) ≤ 9223372036854775807 by omega⟩))
    all_goals try (rename_i q q2; have q := of_decide_eq_true q; first | exact .of ⟨by omega, by omega⟩ | exact .of (by decide) | (refine Sc.of ⟨show (0 + (0 + 1)) * 144 ≤ 140737488355328 by omega, show 0 + (0 + 1) ≤ 9223372036854775807 by omega⟩))
    all_goals try (rename_i q; have q := of_decide_eq_true q; first | (have w1 := T.me 0 (by omega); have w2 := T.se 0 (by omega); exact Side.mk ⟨by omega, by omega⟩) | (have v := seg_0 (hseg 0 (by omega)); exact Side.mk ⟨T.trf, v⟩))
    all_goals try (rename_i q q2; have q := of_decide_eq_true q; first | (have w1 := T.me 0 (by omega); have w2 := T.se 0 (by omega); exact Side.mk ⟨by omega, by omega⟩) | (have w2 := T.se 0 (by omega); exact Side.mk ⟨by omega, by omega, by omega⟩) | (have v := seg_0 (hseg 0 (by omega)); exact Side.mk ⟨T.trf, v⟩))
    · rename_i q q2; have q := of_decide_eq_true q
      refine ⟨0 + 1, ⟨by omega, all_lt h0 (hseg 0 (by omega))⟩, by show x.sg.length - (0 + 1) < x.sg.length - (0); omega, .le ⟨rfl, ⟨.dead _, .dead _, .refl _, .refl _, .refl _, .dead _, .dead _, .list (fun a j ha hj => ?_), trivial⟩, ⟨.refl _, .refl _, .refl _, .refl _, .refl _, .refl _, trivial⟩⟩⟩
      replace ha : a < 1 := by omega
      obtain rfl : a = 0 := by omega
      show Le (tbl (ctdS t x 0) (0 * 13 + j)) (tbl (ctdS t x 0) j); rw [Nat.zero_mul, Nat.zero_add]; exact .refl _
    · rename_i q; have q := of_decide_eq_false q; have := T.pos; omega
  · have b := segM_eq T (i + 1) hi
    repeat' (first
      | (refine Ax.go ?_; first | ((with_reducible apply callAlt (c118 hX t (sgx x (i + 1)) (segM x (i + 1)) hk ?_ ?_)); case hl => (first | exact AllLe.refl _ | ((repeat' (first | exact trivial | apply Le.aggs | apply Le.tups | apply Le.fns | exact Le.refl _ | refine ⟨?_, ?_⟩)); done))) | ((with_reducible apply callAlt (c119 hX (segM x (i + 1)) (sgx x (i + 1)).se ?_)); case hl => (first | exact AllLe.refl _ | ((repeat' (first | exact trivial | apply Le.aggs | apply Le.tups | apply Le.fns | exact Le.refl _ | refine ⟨?_, ?_⟩)); done))) | refine Alt.one ?_)
      | exact Cl.go
      | exact Ck.go
      | ((fail_if_success refine Stop.go ?_); (first | rw [beqvv (i + 1)] | rw [beqvv i] | (with_reducible first | refine And.intro ?_ ?_ | refine Cut.go ?_ | (refine impI ?_; intro _)) | (refine propI ?_; conv => whnf))))
    all_goals try (exact .of (Nat.le_of_ble_eq_true rfl))
    all_goals try (rename_i q q2; exact absurd q2 (by decide))
    all_goals try (rename_i q; have q := of_decide_eq_true q; first | exact .of ⟨by omega, by omega⟩ | exact .of (by decide) | (refine Sc.of ⟨show ((i + 1) + (0 + 1)) * 144 ≤ 140737488355328 by omega, show (i + 1) + (0 + 1) ≤ 9223372036854775807 by omega⟩))
    all_goals try (rename_i q q2; have q := of_decide_eq_true q; first | exact .of ⟨by omega, by omega⟩ | exact .of (by decide) | (refine Sc.of ⟨show ((i + 1) + (0 + 1)) * 144 ≤ 140737488355328 by omega, show (i + 1) + (0 + 1) ≤ 9223372036854775807 by omega⟩))
    all_goals try (rename_i q; have q := of_decide_eq_true q; first | (have w1 := T.me (i + 1) (by omega); have w2 := T.se (i + 1) (by omega); exact Side.mk ⟨by omega, by omega⟩) | (have v := seg_0 (hseg (i + 1) (by omega)); exact Side.mk ⟨T.trf, v⟩))
    all_goals try (rename_i q q2; have q := of_decide_eq_true q; first | (have w1 := T.me (i + 1) (by omega); have w2 := T.se (i + 1) (by omega); exact Side.mk ⟨by omega, by omega⟩) | (have w2 := T.se (i + 1) (by omega); exact Side.mk ⟨by omega, by omega, by omega⟩) | (have v := seg_0 (hseg (i + 1) (by omega)); exact Side.mk ⟨T.trf, v⟩))
    · rename_i q q2; have q := of_decide_eq_true q
      refine ⟨(i + 1) + 1, ⟨by omega, all_lt h0 (hseg (i + 1) (by omega))⟩, by show x.sg.length - ((i + 1) + 1) < x.sg.length - ((i + 1)); omega, .le ⟨rfl, ⟨.dead _, .dead _, .refl _, .refl _, .refl _, .dead _, .dead _, .list (fun a j ha hj => ?_), trivial⟩, ⟨.refl _, .refl _, .refl _, .refl _, .refl _, .refl _, trivial⟩⟩⟩
      skip
      exact Le.ofEq (push_c (fun j => rfl) ha)
      skip
    · rename_i q; have q := of_decide_eq_false q
      obtain e : i + 1 = x.sg.length := by omega
      rw [show rideC t x = rideCk t x (i + 1) from by unfold rideC; rw [e]]
      refine .mk [] [7] _ rfl (.tups ⟨⟨trivial, ?_⟩, .le (.refl _)⟩) trivial rfl
      refine .aggs (n := 14) ?_
      exact ⟨⟨⟨⟨⟨⟨⟨⟨⟨⟨⟨⟨⟨⟨trivial, .le (.refl _)⟩, .le (.refl _)⟩, .le (.refl _)⟩, .le (.refl _)⟩, .le (.refl _)⟩, .le (.refl _)⟩, .le (.refl _)⟩, .le (.refl _)⟩, .le (.refl _)⟩, .le (.refl _)⟩, .le (.refl _)⟩, .le (.refl _)⟩, .le (.refl _)⟩, .own rfl fun _ _ _ _ => .refl _⟩
set_option maxHeartbeats 1000000 in
theorem c74e (t : Trf) (x : Trp) (hs : Side (TOk t ∧ XOk x)) (hr : rideE t x ≠ 0) : Pure (Xc W0 G) 74 [trfA t, trpA x] (.tup 2 (tbl [.agg 14 (tbl rideZ), .int .i64 (rideE t x)])) := by
  have hs0 := hs
  have hs := hs.get
  have tk := hs.1
  have k2 := hs.2.ex
  have k3 := hs.2.sg
  refine mut_of' hX (fnI Tryz.f74) rfl ?_
  repeat' (first
    | (refine Ax.go ?_; first | (with_reducible apply callAlt (c117 hX t x hs0)) | refine Alt.one ?_)
    | exact Cl.go
    | exact Ck.go
    | ((fail_if_success refine Stop.go ?_); (first | (with_reducible first | refine And.intro ?_ ?_ | refine Cut.go ?_ | (refine impI ?_; intro _)) | (refine propI ?_; conv => whnf))))
  all_goals try (exact .of (Nat.le_of_ble_eq_true rfl))
  · rename_i q; have w := ride_1 (x := x) rfl (bne0 q); exact .mk [] [] _ rfl (.le (.tups ⟨⟨trivial, .aggs (n := 14) ⟨⟨⟨⟨⟨⟨⟨⟨⟨⟨⟨⟨⟨⟨trivial, .refl _⟩, .refl _⟩, .refl _⟩, .refl _⟩, .refl _⟩, .refl _⟩, .refl _⟩, .refl _⟩, .refl _⟩, .refl _⟩, .refl _⟩, .refl _⟩, .refl _⟩, .refl _⟩⟩, .intI (w.symm)⟩)) trivial rfl
  rename_i q
  have hT := bne1 q
  have T := trip_0 hT
  have hk : Side (HOk t) := .mk ⟨tk, trf_sort T.trf⟩
  refine ⟨Nat, fun i => match i with | 0 => ([(4, .ptr 2 0), (8, .ptr 3 0), (9, .ptr 4 0), (31, segS x.sg), (32, .int .i64 x.sg.length), (33, .int .i64 0)], [.dead, .dead, .box rideZ, .box [.str t.name, .int .i64 t.unit, .int .i64 t.step, sRow t.zones, iRow t.hol, rulS t.rules, extS t.extras, fxdS t.fixed, .int .i64 x.m.d, .int .i64 x.m.s, .bool x.fx, iRow x.ex, segS x.sg, .slc0], .box (momC (segM x 0))]) | i + 1 => ([(4, .ptr 2 0), (8, .ptr 3 0), (9, .ptr 4 0), (31, segS x.sg), (32, .int .i64 x.sg.length), (33, .int .i64 (i + 1 : Nat))], [.dead, .dead, .box rideZ, .box [.str t.name, .int .i64 t.unit, .int .i64 t.step, sRow t.zones, iRow t.hol, rulS t.rules, extS t.extras, fxdS t.fixed, .int .i64 x.m.d, .int .i64 x.m.s, .bool x.fx, iRow x.ex, segS x.sg, .own 7 (i + 1)], .box (momC (segM x (i + 1))), .dead, .dead, .list 161 13 (i + 1) (fun a j => tbl (ctdS t x a) j) (i + 1)]), fun i => i ≤ x.sg.length ∧ ∀ j, j < i → segE t x j = 0, fun i => x.sg.length - i, ⟨0, ⟨Nat.zero_le _, fun _ h => by omega⟩, .le ⟨rfl, ⟨.dead _, .dead _, .refl _, .refl _, .refl _, trivial⟩, ⟨.refl _, .refl _, .refl _, .refl _, .refl _, .refl _, trivial⟩⟩⟩, fun i ⟨hi, h0⟩ => ?_⟩
  rcases i with _ | i
  · have b := segM_eq T 0 (Nat.zero_le _)
    by_cases hE : segE t x 0 = 0
    · skip
      repeat' (first
        | (refine Ax.go ?_; first | ((with_reducible apply callAlt (c118 hX t (sgx x 0) (segM x 0) hk ?_ ?_)); case hl => (first | exact AllLe.refl _ | ((repeat' (first | exact trivial | apply Le.aggs | apply Le.tups | apply Le.fns | exact Le.refl _ | refine ⟨?_, ?_⟩)); done))) | ((with_reducible apply callAlt (c119 hX (segM x 0) (sgx x 0).se ?_)); case hl => (first | exact AllLe.refl _ | ((repeat' (first | exact trivial | apply Le.aggs | apply Le.tups | apply Le.fns | exact Le.refl _ | refine ⟨?_, ?_⟩)); done))) | refine Alt.one ?_)
        | exact Cl.go
        | exact Ck.go
        | ((fail_if_success refine Stop.go ?_); (first | (with_reducible first | refine And.intro ?_ ?_ | refine Cut.go ?_ | (refine impI ?_; intro _)) | (refine propI ?_; conv => whnf))))
      all_goals try (exact .of (Nat.le_of_ble_eq_true rfl))
      all_goals try (rename_i q q2; exact absurd q2 (by decide))
      all_goals try (rename_i q; have q := of_decide_eq_true q; first | exact .of ⟨by omega, by omega⟩ | exact .of (by decide) | (refine Sc.of ⟨show (0 + (0 + 1)) * 144 ≤ 140737488355328 by omega, show 0 + (0 + 1) ≤ 9223372036854775807 by omega⟩))
      all_goals try (rename_i q q2; have q := of_decide_eq_true q; first | exact .of ⟨by omega, by omega⟩ | exact .of (by decide) | (refine Sc.of ⟨show (0 + (0 + 1)) * 144 ≤ 140737488355328 by omega, show 0 + (0 + 1) ≤ 9223372036854775807 by omega⟩))
      all_goals try (rename_i q; have q := of_decide_eq_true q; first | (have w1 := T.me 0 (by omega); have w2 := T.se 0 (by omega); exact Side.mk ⟨by omega, by omega⟩) | (have v := seg_0 (hE); exact Side.mk ⟨T.trf, v⟩))
      all_goals try (rename_i q q2; have q := of_decide_eq_true q; first | (have w1 := T.me 0 (by omega); have w2 := T.se 0 (by omega); exact Side.mk ⟨by omega, by omega⟩) | (have w2 := T.se 0 (by omega); exact Side.mk ⟨by omega, by omega, by omega⟩) | (have v := seg_0 (hE); exact Side.mk ⟨T.trf, v⟩))
      · rename_i q q2; have q := of_decide_eq_true q
        refine ⟨0 + 1, ⟨by omega, all_lt h0 (hE)⟩, by show x.sg.length - (0 + 1) < x.sg.length - (0); omega, .le ⟨rfl, ⟨.dead _, .dead _, .refl _, .refl _, .refl _, .dead _, .dead _, .list (fun a j ha hj => ?_), trivial⟩, ⟨.refl _, .refl _, .refl _, .refl _, .refl _, .refl _, trivial⟩⟩⟩
        replace ha : a < 1 := by omega
        obtain rfl : a = 0 := by omega
        show Le (tbl (ctdS t x 0) (0 * 13 + j)) (tbl (ctdS t x 0) j); rw [Nat.zero_mul, Nat.zero_add]; exact .refl _
      · rename_i q; have q := of_decide_eq_false q
        exact absurd (ride_3 hT (fun j hj => h0 j (by omega))) hr
    · skip
      have hE2 : (bif momB (segM x (0)) then oneE (cntL t (sgx x (0)) (segM x (0))) else 2) ≠ 0 := by rw [← seg_e]; exact hE
      repeat' (first
        | (refine Ax.go ?_; first | ((with_reducible apply callAlt (c118e hX t (sgx x (0)) (segM x (0)) hk (by rw [← seg_e]; exact hE))); case hl => (first | exact AllLe.refl _ | ((repeat' (first | exact trivial | apply Le.aggs | apply Le.tups | apply Le.fns | exact Le.refl _ | refine ⟨?_, ?_⟩)); done))) | refine Alt.one ?_)
        | exact Cl.go
        | exact Ck.go
        | ((fail_if_success refine Stop.go ?_); (first | (with_reducible first | refine And.intro ?_ ?_ | refine Cut.go ?_ | (refine impI ?_; intro _)) | (refine propI ?_; conv => whnf))))
      all_goals try (exact .of (Nat.le_of_ble_eq_true rfl))
      all_goals try (rename_i q; have q := of_decide_eq_true q; exact .of ⟨by omega, by omega⟩)
      all_goals try (exfalso; rename_i q2; have z := bne1 q2; rw [← seg_e] at z; exact hE z)
      · rename_i q q2; have q := of_decide_eq_true q
        have w := ride_2 hT (show 0 < x.sg.length by omega) h0 seg_e hE2
        exact .mk [] [] _ rfl (.le (.tups ⟨⟨trivial, .aggs (n := 14) ⟨⟨⟨⟨⟨⟨⟨⟨⟨⟨⟨⟨⟨⟨trivial, .refl _⟩, .refl _⟩, .refl _⟩, .refl _⟩, .refl _⟩, .refl _⟩, .refl _⟩, .refl _⟩, .refl _⟩, .refl _⟩, .refl _⟩, .refl _⟩, .refl _⟩, .refl _⟩⟩, .intI (w.symm)⟩)) trivial rfl
      · rename_i q; have q := of_decide_eq_false q
        exact absurd (ride_3 hT (fun j hj => h0 j (by omega))) hr

  · have b := segM_eq T (i + 1) hi
    by_cases hE : segE t x (i + 1) = 0
    · skip
      repeat' (first
        | (refine Ax.go ?_; first | ((with_reducible apply callAlt (c118 hX t (sgx x (i + 1)) (segM x (i + 1)) hk ?_ ?_)); case hl => (first | exact AllLe.refl _ | ((repeat' (first | exact trivial | apply Le.aggs | apply Le.tups | apply Le.fns | exact Le.refl _ | refine ⟨?_, ?_⟩)); done))) | ((with_reducible apply callAlt (c119 hX (segM x (i + 1)) (sgx x (i + 1)).se ?_)); case hl => (first | exact AllLe.refl _ | ((repeat' (first | exact trivial | apply Le.aggs | apply Le.tups | apply Le.fns | exact Le.refl _ | refine ⟨?_, ?_⟩)); done))) | refine Alt.one ?_)
        | exact Cl.go
        | exact Ck.go
        | ((fail_if_success refine Stop.go ?_); (first | rw [beqvv (i + 1)] | rw [beqvv i] | (with_reducible first | refine And.intro ?_ ?_ | refine Cut.go ?_ | (refine impI ?_; intro _)) | (refine propI ?_; conv => whnf))))
      all_goals try (exact .of (Nat.le_of_ble_eq_true rfl))
      all_goals try (rename_i q q2; exact absurd q2 (by decide))
      all_goals try (rename_i q; have q := of_decide_eq_true q; first | exact .of ⟨by omega, by omega⟩ | exact .of (by decide) | (refine Sc.of ⟨show ((i + 1) + (0 + 1)) * 144 ≤ 140737488355328 by omega, show (i + 1) + (0 + 1) ≤ 9223372036854775807 by omega⟩))
      all_goals try (rename_i q q2; have q := of_decide_eq_true q; first | exact .of ⟨by omega, by omega⟩ | exact .of (by decide) | (refine Sc.of ⟨show ((i + 1) + (0 + 1)) * 144 ≤ 140737488355328 by omega, show (i + 1) + (0 + 1) ≤ 9223372036854775807 by omega⟩))
      all_goals try (rename_i q; have q := of_decide_eq_true q; first | (have w1 := T.me (i + 1) (by omega); have w2 := T.se (i + 1) (by omega); exact Side.mk ⟨by omega, by omega⟩) | (have v := seg_0 (hE); exact Side.mk ⟨T.trf, v⟩))
      all_goals try (rename_i q q2; have q := of_decide_eq_true q; first | (have w1 := T.me (i + 1) (by omega); have w2 := T.se (i + 1) (by omega); exact Side.mk ⟨by omega, by omega⟩) | (have w2 := T.se (i + 1) (by omega); exact Side.mk ⟨by omega, by omega, by omega⟩) | (have v := seg_0 (hE); exact Side.mk ⟨T.trf, v⟩))
      · rename_i q q2; have q := of_decide_eq_true q
        refine ⟨(i + 1) + 1, ⟨by omega, all_lt h0 (hE)⟩, by show x.sg.length - ((i + 1) + 1) < x.sg.length - ((i + 1)); omega, .le ⟨rfl, ⟨.dead _, .dead _, .refl _, .refl _, .refl _, .dead _, .dead _, .list (fun a j ha hj => ?_), trivial⟩, ⟨.refl _, .refl _, .refl _, .refl _, .refl _, .refl _, trivial⟩⟩⟩
        skip
        exact Le.ofEq (push_c (fun j => rfl) ha)
        skip
      · rename_i q; have q := of_decide_eq_false q
        exact absurd (ride_3 hT (fun j hj => h0 j (by omega))) hr
    · skip
      have hE2 : (bif momB (segM x ((i + 1))) then oneE (cntL t (sgx x ((i + 1))) (segM x ((i + 1)))) else 2) ≠ 0 := by rw [← seg_e]; exact hE
      repeat' (first
        | (refine Ax.go ?_; first | ((with_reducible apply callAlt (c118e hX t (sgx x ((i + 1))) (segM x ((i + 1))) hk (by rw [← seg_e]; exact hE))); case hl => (first | exact AllLe.refl _ | ((repeat' (first | exact trivial | apply Le.aggs | apply Le.tups | apply Le.fns | exact Le.refl _ | refine ⟨?_, ?_⟩)); done))) | refine Alt.one ?_)
        | exact Cl.go
        | exact Ck.go
        | ((fail_if_success refine Stop.go ?_); (first | rw [beqvv (i + 1)] | rw [beqvv i] | (with_reducible first | refine And.intro ?_ ?_ | refine Cut.go ?_ | (refine impI ?_; intro _)) | (refine propI ?_; conv => whnf))))
      all_goals try (exact .of (Nat.le_of_ble_eq_true rfl))
      all_goals try (rename_i q; have q := of_decide_eq_true q; exact .of ⟨by omega, by omega⟩)
      all_goals try (exfalso; rename_i q2; have z := bne1 q2; rw [← seg_e] at z; exact hE z)
      · rename_i q q2; have q := of_decide_eq_true q
        have w := ride_2 hT (show (i + 1) < x.sg.length by omega) h0 seg_e hE2
        exact .mk [] [] _ rfl (.le (.tups ⟨⟨trivial, .aggs (n := 14) ⟨⟨⟨⟨⟨⟨⟨⟨⟨⟨⟨⟨⟨⟨trivial, .refl _⟩, .refl _⟩, .refl _⟩, .refl _⟩, .refl _⟩, .refl _⟩, .refl _⟩, .refl _⟩, .refl _⟩, .refl _⟩, .refl _⟩, .refl _⟩, .refl _⟩, .refl _⟩⟩, .intI (w.symm)⟩)) trivial rfl
      · rename_i q; have q := of_decide_eq_false q
        exact absurd (ride_3 hT (fun j hj => h0 j (by omega))) hr

end
end Go.Fx

/-
  The rules, points and steps of a trip.
-/
namespace Go.Fx
open Go.Proofs Go.RowKit

def rowF (f : Nat → Int) (n : Nat) : AV := .slc 1 n (fun i _ => .int .i64 (f i))
theorem push_f {n a : Nat} {f : Nat → Int} {g : Nat → Nat → AV} (hg : g 0 0 = .int .i64 (f n)) (ha : a < n + 1) : joinF n (fun a _ => .int .i64 (f a)) g a 0 = .int .i64 (f a) := by
  unfold joinF
  by_cases h : a < n
  · rw [if_pos h]
  · obtain rfl : a = n := by omega
    rw [if_neg h, Nat.sub_self, hg]
def mxI (a b : Int) : Int := bif decide (a < b) then b else a
theorem mx_eq {a b : Int} : max a b = mxI a b := by
  unfold mxI; by_cases h : a < b
  · simp [h]; omega
  · simp [h]; omega
section
variable {W0 : World} {G : Nat → Option AV} (hX : (Xc W0 G).Good)
include hX
theorem c76 (n : Int) (r : Rul) (a b : Int) : Pure (Xc W0 G) 76 [.agg 13 (tbl (ctdC n r a b))] (.int .i64 (mxI a b)) := by
  refine mut_of' hX (fnI Tryz.f76) rfl ?_
  repeat' (first
    | (refine Ax.go ?_; refine Alt.one ?_)
    | exact Cl.go
    | exact Ck.go
    | ((fail_if_success refine Stop.go ?_); (first | (with_reducible first | refine And.intro ?_ ?_ | refine Cut.go ?_ | (refine impI ?_; intro _)) | (refine propI ?_; conv => whnf))))
  all_goals try (exact .of (Nat.le_of_ble_eq_true rfl))
  all_goals exact .mk [] [] _ rfl (.le (.intI (by first | exact mx_eq | rfl))) trivial rfl
theorem c121 (n : Int) (r : Rul) (a b : Int) (hs : Side (inK .i64 (a + b))) : Pure (Xc W0 G) 121 [.agg 13 (tbl (ctdC n r a b))] (.int .i64 (a + b)) := by
  have hs := hs.get
  refine mut_of' hX (fnI Tryz.f121) rfl ?_
  repeat' (first
    | (refine Ax.go ?_; refine Alt.one ?_)
    | exact Cl.go
    | exact Ck.go
    | ((fail_if_success refine Stop.go ?_); (first | (with_reducible first | refine And.intro ?_ ?_ | refine Cut.go ?_ | (refine impI ?_; intro _)) | (refine propI ?_; conv => whnf))))
  all_goals try (exact .of (Nat.le_of_ble_eq_true rfl))
  all_goals first | exact .of hs | exact .mk [] [] _ rfl (.le (.refl _)) trivial rfl
theorem c79 (n : Int) (r : Rul) (a b : Int) : Pure (Xc W0 G) 79 [.agg 13 (tbl (ctdC n r a b))] (.int .i64 n) := by
  refine mut_of' hX (fnI Tryz.f79) rfl ?_
  repeat' (first
    | (refine Ax.go ?_; refine Alt.one ?_)
    | exact Cl.go
    | exact Ck.go
    | ((fail_if_success refine Stop.go ?_); (first | (with_reducible first | refine And.intro ?_ ?_ | refine Cut.go ?_ | (refine impI ?_; intro _)) | (refine propI ?_; conv => whnf))))
  all_goals try (exact .of (Nat.le_of_ble_eq_true rfl))
  all_goals exact .mk [] [] _ rfl (.le (.refl _)) trivial rfl

set_option maxHeartbeats 1000000 in
theorem c78r (t : Trf) (x : Trp) (hs : Side (TOk t ∧ XOk x)) (hr : rideE t x = 0) : Mut (Xc W0 G) 78 [trfA t, trpA x, .fn 79 0 (fun _ => .any)] [] (.tup 2 (tbl [rowF (segN t x) x.sg.length, .int .i64 0])) [] := by
  have hs0 := hs
  have hs := hs.get
  have k3 := hs.2.sg
  obtain ⟨T, hseg⟩ := ride_0 hr
  refine mut_of' hX (fnI Tryz.f78) rfl ?_
  repeat' (first
    | (refine Ax.go ?_; first | (with_reducible apply callAlt (c74 hX t x hs0 hr)) | refine Alt.one ?_)
    | exact Cl.go
    | exact Ck.go
    | ((fail_if_success refine Stop.go ?_); (first | (with_reducible first | refine And.intro ?_ ?_ | refine Cut.go ?_ | (refine impI ?_; intro _)) | (refine propI ?_; conv => whnf))))
  all_goals try (exact .of (Nat.le_of_ble_eq_true rfl))
  all_goals try (rename_i q; exact absurd q (by decide))
  refine ⟨Nat, fun i => match i with | 0 => ([(2, .fn 79 0 (fun _ => .any)), (10, .slc0), (23, ctdL t x x.sg.length), (24, .int .i64 x.sg.length), (25, .int .i64 0)], [HObj.dead, HObj.dead, HObj.dead]) | i + 1 => ([(2, .fn 79 0 (fun _ => .any)), (10, .own 4 (i + 1)), (23, ctdL t x x.sg.length), (24, .int .i64 x.sg.length), (25, .int .i64 ((i + 1 : Nat)))], [HObj.dead, HObj.dead, HObj.dead, HObj.dead, .list 3 1 (i + 1) (fun a _ => .int .i64 (segN t x a)) (i + 1)]), fun i => i ≤ x.sg.length, fun i => x.sg.length - i, ⟨0, Nat.zero_le _, .le ⟨rfl, ⟨.dead _, .dead _, .dead _, trivial⟩, ⟨.refl _, .refl _, .refl _, .refl _, .refl _, trivial⟩⟩⟩, fun i hi => ?_⟩
  rcases i with _ | i
  · replace hi : 0 ≤ x.sg.length := hi
    repeat' (first
      | (refine Ax.go ?_; first | (with_reducible apply callAlt (c79 hX _ _ _ _)) | refine Alt.one ?_)
      | exact Cl.go
      | exact Ck.go
      | ((fail_if_success refine Stop.go ?_); (first | (with_reducible first | refine And.intro ?_ ?_ | refine Cut.go ?_ | (refine impI ?_; intro _)) | (refine propI ?_; conv => whnf))))
    all_goals try (exact .of (Nat.le_of_ble_eq_true rfl))
    all_goals try (rename_i q; have q := of_decide_eq_true q; first | exact .of ⟨by omega, by omega⟩ | exact .of (by decide) | (refine Sc.of ⟨show (0 + (0 + 1)) * 8 ≤ 140737488355328 by omega, show 0 + (0 + 1) ≤ 9223372036854775807 by omega⟩))
    all_goals try (rename_i q; have q := of_decide_eq_true q; fail)
    · rename_i q; have q := of_decide_eq_true q
      refine ⟨0 + 1, by show 0 + 1 ≤ _; omega, by show x.sg.length - (0 + 1) < x.sg.length - (0); omega, .le ⟨rfl, ⟨.dead _, .dead _, .dead _, .dead _, .list (fun a j ha hj => ?_), trivial⟩, ⟨.refl _, .refl _, .refl _, .refl _, .refl _, trivial⟩⟩⟩
      replace hj : j < 1 := hj
      obtain rfl : j = 0 := by omega
      replace ha : a < 1 := by omega
      obtain rfl : a = 0 := by omega
      exact .refl _
    · rename_i q; have q := of_decide_eq_false q; have := T.pos; omega
  · replace hi : i + 1 ≤ x.sg.length := hi
    repeat' (first
      | (refine Ax.go ?_; first | (with_reducible apply callAlt (c79 hX _ _ _ _)) | refine Alt.one ?_)
      | exact Cl.go
      | exact Ck.go
      | ((fail_if_success refine Stop.go ?_); (first | rw [beqvv (i + 1)] | rw [beqvv i] | (with_reducible first | refine And.intro ?_ ?_ | refine Cut.go ?_ | (refine impI ?_; intro _)) | (refine propI ?_; conv => whnf))))
    all_goals try (exact .of (Nat.le_of_ble_eq_true rfl))
    all_goals try (rename_i q; have q := of_decide_eq_true q; first | exact .of ⟨by omega, by omega⟩ | exact .of (by decide) | (refine Sc.of ⟨show ((i + 1) + (0 + 1)) * 8 ≤ 140737488355328 by omega, show (i + 1) + (0 + 1) ≤ 9223372036854775807 by omega⟩))
    all_goals try (rename_i q; have q := of_decide_eq_true q; fail)
    · rename_i q; have q := of_decide_eq_true q
      refine ⟨(i + 1) + 1, by show (i + 1) + 1 ≤ _; omega, by show x.sg.length - ((i + 1) + 1) < x.sg.length - ((i + 1)); omega, .le ⟨rfl, ⟨.dead _, .dead _, .dead _, .dead _, .list (fun a j ha hj => ?_), trivial⟩, ⟨.refl _, .refl _, .refl _, .refl _, .refl _, trivial⟩⟩⟩
      replace hj : j < 1 := hj
      obtain rfl : j = 0 := by omega
      skip
      exact Le.ofEq (push_f rfl ha)
      skip
    · rename_i q; have q := of_decide_eq_false q
      rw [show rowF (segN t x) x.sg.length = rowF (segN t x) (i + 1) from by rw [show x.sg.length = i + 1 by omega]]
      exact .mk [] [4] _ rfl (.tups ⟨⟨trivial, .own rfl fun _ _ _ _ => .refl _⟩, .le (.refl _)⟩) trivial rfl
end
end Go.Fx

/-
  The rules, points and steps of a trip, as the program's functions and their reference tell them.
-/
namespace Go.Fx
open Go.Proofs Go.RowKit
section
variable {W0 : World} {G : Nat → Option AV} (hX : (Xc W0 G).Good)
include hX
theorem c39 (t : Trf) (x : Trp) (hs : Side (TOk t ∧ XOk x)) (hr : rideE t x = 0) : Pure (Xc W0 G) 39 [trfA t, trpA x] (.tup 2 (tbl [rowF (segN t x) x.sg.length, .int .i64 0])) := by
  refine mut_of' hX (fnI Tryz.f39) rfl ?_
  repeat' (first
    | (refine Ax.go ?_; first | (with_reducible (apply altM (ks := []) (m := 0); apply And.intro; apply Sc.of; apply (c78r hX t x hs hr))) | refine Alt.one ?_)
    | exact Cl.go
    | exact Ck.go
    | ((fail_if_success refine Stop.go ?_); (first | (with_reducible first | refine And.intro ?_ ?_ | refine Cut.go ?_ | (refine impI ?_; intro _)) | (refine propI ?_; conv => whnf))))
  all_goals try (exact .of (Nat.le_of_ble_eq_true rfl))
  all_goals exact .mk [] [] _ rfl (.le (.tups ⟨⟨trivial, .refl _⟩, .refl _⟩)) trivial rfl
end
end Go.Fx
