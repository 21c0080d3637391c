/-
  Trips opened; their rules, points and steps.
-/
import Derived.Test.YtgegfljeglphlaaGreatDoorGt

set_option linter.all false

/-
  Segments counted; a trip opened.
-/
namespace Go.Fx
open Go.Proofs Go.RowKit

def ctdC (n : Int) (r : Rul) (a b : Int) : List AV := [.int .i64 n, .str r.name, .int .i64 r.fr, .int .i64 r.tt, iRow r.zones, iRow r.days, .int .i64 r.bg, .int .i64 r.en, .int .i64 r.st, .int .i64 r.me, .int .i64 r.se, .int .i64 a, .int .i64 b]
def ctdZ : List AV := [.int .i64 0, .str bs0, .int .i64 0, .int .i64 0, .slc0, .slc0, .int .i64 0, .int .i64 0, .int .i64 0, .int .i64 0, .int .i64 0, .int .i64 0, .int .i64 0]
def cntL (t : Trf) (s : Seg) (m : Mom) : List Int := holdI t ⟨s.z, m⟩ t.rules.length
def cntR (t : Trf) (s : Seg) (m : Mom) : Rul := t.rules.getD (oneN (cntL t s m)).toNat rul0
def cntO (t : Trf) (s : Seg) (m : Mom) : List AV := ctdC (oneN (cntL t s m)) (cntR t s m) ((cntR t s m).me * s.me) ((cntR t s m).se * s.se)
theorem one_bd {t : Trf} {p : Plc} (h : oneE (holdI t p t.rules.length) = 0) : 0 ≤ oneN (holdI t p t.rules.length) ∧ oneN (holdI t p t.rules.length) < t.rules.length := by
  have := hold_mem t p t.rules.length _ (oneN_mem h); exact this
def ctdS (t : Trf) (x : Trp) (k : Nat) : List AV := ctdC (segN t x k) (segR t x k) (ptM t x k) (ptS t x k)
def ctdL (t : Trf) (x : Trp) (k : Nat) : AV := .slc 13 k (fun a j => tbl (ctdS t x a) j)
def rideCk (t : Trf) (x : Trp) (k : Nat) : List AV := [.str t.name, .int .i64 t.unit, .int .i64 t.step, sRow t.zones, iRow t.hol, rulS t.rules, extS t.extras, fxdS t.fixed, .int .i64 x.m.d, .int .i64 x.m.s, .bool x.fx, iRow x.ex, segS x.sg, ctdL t x k]
def rideC (t : Trf) (x : Trp) : List AV := rideCk t x x.sg.length
def rideZ : List AV := [.str bs0, .int .i64 0, .int .i64 0, .slc0, .slc0, .slc0, .slc0, .slc0, .int .i64 0, .int .i64 0, .bool false, .slc0, .slc0, .slc0]
@[irreducible] def rideR (t : Trf) (x : Trp) : AV := bif decide (rideE t x = 0) then .agg 14 (tbl (rideC t x)) else .agg 14 (tbl rideZ)
theorem push_c {n a j : Nat} {t : Trf} {x : Trp} {g : Nat → Nat → AV} (hg : ∀ j, g 0 j = tbl (ctdS t x n) (0 * 13 + j)) (ha : a < n + 1) : joinF n (fun a j => tbl (ctdS t x a) j) g a j = tbl (ctdS t x a) j := by
  unfold joinF
  by_cases h : a < n
  · rw [if_pos h]
  · obtain rfl : a = n := by omega
    rw [if_neg h, Nat.sub_self, hg, Nat.zero_mul, Nat.zero_add]
theorem seg_0 {t : Trf} {x : Trp} {k : Nat} (h : segE t x k = 0) : momB (segM x k) = true ∧ oneE (cntL t (sgx x k) (segM x k)) = 0 := by
  unfold segE at h
  cases hm : momB (segM x k) <;> rw [hm] at h
  · cases h
  · exact ⟨rfl, h⟩
theorem ride_trip {t : Trf} {x : Trp} (h : rideE t x = 0) : tripE t x = 0 := by
  unfold rideE at h
  by_cases a : tripE t x = 0
  · exact a
  · rw [decide_eq_false a] at h; exact absurd h a
theorem seg_e {t : Trf} {x : Trp} {k : Nat} : segE t x k = bif momB (segM x k) then oneE (cntL t (sgx x k) (segM x k)) else 2 := by unfold segE; rfl
section
variable {W0 : World} {G : Nat → Option AV} (hX : (Xc W0 G).Good)
include hX
theorem c140 (t : Trf) (s : Seg) (m : Mom) (hs : Side (HOk t)) (hb : Side ((0 ≤ s.me ∧ s.me ≤ 100000) ∧ (1 ≤ s.se ∧ s.se ≤ 36000))) (ho : Side (trfE t = 0 ∧ momB m = true ∧ oneE (cntL t s m) = 0)) : Pure (Xc W0 G) 140 [trfA t, segA s, momA m] (.tup 2 (tbl [.agg 13 (tbl (cntO t s m)), .int .i64 0])) := by
  have hb := hb.get
  have ht := ho.get.1
  have ho := ho.get.2
  refine mut_of' hX (show FnIs (Xc W0 G) 140 Tryz.f140 (codeOf Tryz.f140) from ⟨by kernel_rfl, by kernel_rfl, by kernel_rfl, by kernel_rfl⟩) rfl ?_
  repeat' (first
    | ((with_reducible refine (?_ : Alt _ _)); first | ((with_reducible apply callAlt (c99 hX m)); case hl => (first | exact AllLe.refl _ | ((repeat' (first | exact trivial | apply Le.aggs | apply Le.tups | apply Le.fns | exact Le.refl _ | refine ⟨?_, ?_⟩)); done))) | ((with_reducible apply callAlt (c93 hX t ⟨s.z, m⟩ hs)); case hl => (first | exact AllLe.refl _ | ((repeat' (first | exact trivial | apply Le.aggs | apply Le.tups | apply Le.fns | exact Le.refl _ | refine ⟨?_, ?_⟩)); done))) | (with_reducible refine Alt.one ?_))
    | ((with_reducible refine (?_ : AllLe _ _)); first | (first | exact AllLe.refl _ | (repeat' (first | exact trivial | apply Le.aggs | apply Le.tups | apply Le.fns | exact Le.refl _ | refine ⟨?_, ?_⟩))))
    | ((with_reducible refine (?_ : Sc _ (AllRen _ _ _))); refine Sc.of ?_; first | (repeat' (first | exact trivial | apply Le.aggs | apply Le.tups | apply Le.fns | exact Le.refl _ | refine ⟨?_, ?_⟩)))
    | ((with_reducible refine (?_ : (List.all _ _) = true)); rfl)
    | ((with_reducible refine (?_ : (and _ _) = true)); rfl)
    | ((with_reducible refine (?_ : List.Nodup _)); exact nodupB_spec rfl)
    | ((with_reducible refine (?_ : @Eq Nat _ _)); rfl)
    | ((with_reducible refine (?_ : LeOks _ _ _)); first | exact trivial | exact ⟨.refl _, trivial⟩ | exact ⟨.refl _, .refl _, trivial⟩)
    | ((fail_if_success with_reducible refine Stop.go ?_); (first | with_reducible refine And.intro ?_ ?_ | with_reducible refine Cut.go ?_ | (with_reducible (refine impI ?_; intro _)) | (with_reducible refine (?_ : footOK _ _ = true); kernel_rfl) | ((with_reducible refine propI ?_); conv => whnf))))
  all_goals try (exact .of (Nat.le_of_ble_eq_true rfl))
  · rename_i q; rw [ho.1] at q; exact absurd q (by decide)
  · rename_i q q2; have e : oneE (cntL t s m) = 0 := ho.2; exact absurd q2 (by show ¬ (oneE (cntL t s m) != 0) = true; rw [e]; decide)
  · have b := one_bd ho.2; exact .of ⟨by omega, by omega⟩
  · have b := one_bd ho.2; have r := trf_rule ht (k := (oneN (holdI t ⟨s.z, m⟩ t.rules.length)).toNat) (by omega); have u := mul_bd (A := 1000000) (B := 100000) r.me.1 r.me.2 hb.1.1 hb.1.2; exact .of ⟨by omega, by omega⟩
  · have b := one_bd ho.2; have r := trf_rule ht (k := (oneN (holdI t ⟨s.z, m⟩ t.rules.length)).toNat) (by omega); have u := mul_bd (A := 1000000) (B := 36000) r.se.1 r.se.2 (by omega : 0 ≤ s.se) hb.2.2; exact .of ⟨by omega, by omega⟩
  · exact .mk [] [] _ rfl (.le (.tups ⟨⟨trivial, .aggs ⟨⟨⟨⟨⟨⟨⟨⟨⟨⟨⟨⟨⟨trivial, .refl _⟩, .refl _⟩, .refl _⟩, .refl _⟩, .refl _⟩, .refl _⟩, .refl _⟩, .refl _⟩, .refl _⟩, .refl _⟩, .refl _⟩, .refl _⟩, .refl _⟩⟩, .refl _⟩)) trivial rfl
theorem c140e (t : Trf) (s : Seg) (m : Mom) (hs : Side (HOk t)) (ho : (bif momB m then oneE (cntL t s m) else 2) ≠ 0) : Pure (Xc W0 G) 140 [trfA t, segA s, momA m] (.tup 2 (tbl [.agg 13 (tbl ctdZ), .int .i64 (bif momB m then oneE (cntL t s m) else 2)])) := by
  refine mut_of' hX (show FnIs (Xc W0 G) 140 Tryz.f140 (codeOf Tryz.f140) from ⟨by kernel_rfl, by kernel_rfl, by kernel_rfl, by kernel_rfl⟩) rfl ?_
  repeat' (first
    | ((with_reducible refine (?_ : Alt _ _)); first | ((with_reducible apply callAlt (c99 hX m)); case hl => (first | exact AllLe.refl _ | ((repeat' (first | exact trivial | apply Le.aggs | apply Le.tups | apply Le.fns | exact Le.refl _ | refine ⟨?_, ?_⟩)); done))) | ((with_reducible apply callAlt (c93 hX t ⟨s.z, m⟩ hs)); case hl => (first | exact AllLe.refl _ | ((repeat' (first | exact trivial | apply Le.aggs | apply Le.tups | apply Le.fns | exact Le.refl _ | refine ⟨?_, ?_⟩)); done))) | (with_reducible refine Alt.one ?_))
    | ((with_reducible refine (?_ : AllLe _ _)); first | (first | exact AllLe.refl _ | (repeat' (first | exact trivial | apply Le.aggs | apply Le.tups | apply Le.fns | exact Le.refl _ | refine ⟨?_, ?_⟩))))
    | ((with_reducible refine (?_ : Sc _ (AllRen _ _ _))); refine Sc.of ?_; first | (repeat' (first | exact trivial | apply Le.aggs | apply Le.tups | apply Le.fns | exact Le.refl _ | refine ⟨?_, ?_⟩)))
    | ((with_reducible refine (?_ : (List.all _ _) = true)); rfl)
    | ((with_reducible refine (?_ : (and _ _) = true)); rfl)
    | ((with_reducible refine (?_ : List.Nodup _)); exact nodupB_spec rfl)
    | ((with_reducible refine (?_ : @Eq Nat _ _)); rfl)
    | ((with_reducible refine (?_ : LeOks _ _ _)); first | exact trivial | exact ⟨.refl _, trivial⟩ | exact ⟨.refl _, .refl _, trivial⟩)
    | ((fail_if_success with_reducible refine Stop.go ?_); (first | with_reducible refine And.intro ?_ ?_ | with_reducible refine Cut.go ?_ | (with_reducible (refine impI ?_; intro _)) | (with_reducible refine (?_ : footOK _ _ = true); kernel_rfl) | ((with_reducible refine propI ?_); conv => whnf))))
  all_goals try (exact .of (Nat.le_of_ble_eq_true rfl))
  · rename_i q; have b := ok_ne q; exact .mk [] [] _ rfl (.le (.tups ⟨⟨trivial, .aggs ⟨⟨⟨⟨⟨⟨⟨⟨⟨⟨⟨⟨⟨trivial, .refl _⟩, .refl _⟩, .refl _⟩, .refl _⟩, .refl _⟩, .refl _⟩, .refl _⟩, .refl _⟩, .refl _⟩, .refl _⟩, .refl _⟩, .refl _⟩, .refl _⟩⟩, .intI (by rw [b.1]; rfl)⟩)) trivial rfl
  · rename_i q q2; have b := ok_eq q; exact .mk [] [] _ rfl (.le (.tups ⟨⟨trivial, .aggs ⟨⟨⟨⟨⟨⟨⟨⟨⟨⟨⟨⟨⟨trivial, .refl _⟩, .refl _⟩, .refl _⟩, .refl _⟩, .refl _⟩, .refl _⟩, .refl _⟩, .refl _⟩, .refl _⟩, .refl _⟩, .refl _⟩, .refl _⟩, .refl _⟩⟩, .intI (by rw [b]; rfl)⟩)) trivial rfl
  all_goals (exfalso; rename_i q q2; have b := ok_eq q; have c := bne1 q2; rw [b] at ho; exact ho c)
set_option maxHeartbeats 1000000 in
theorem c105 (t : Trf) (x : Trp) (hs : Side (TOk t ∧ XOk x)) (hr : rideE t x = 0) : Pure (Xc W0 G) 105 [trfA t, trpA x] (.tup 2 (tbl [.agg 14 (tbl (rideC t x)), .int .i64 0])) := by
  have hs0 := hs
  have hs := hs.get
  have tk := hs.1
  have k2 := hs.2.ex
  have k3 := hs.2.sg
  obtain ⟨T, hseg⟩ := ride_0 hr
  have hT := ride_trip hr
  refine mut_of' hX (show FnIs (Xc W0 G) 105 Tryz.f105 (codeOf Tryz.f105) from ⟨by kernel_rfl, by kernel_rfl, by kernel_rfl, by kernel_rfl⟩) rfl ?_
  repeat' (first
    | ((with_reducible refine (?_ : Alt _ _)); first | (with_reducible apply callAlt (c37 hX t x hs0)) | (with_reducible refine Alt.one ?_))
    | ((with_reducible refine (?_ : AllLe _ _)); first | (first | exact AllLe.refl _ | (repeat' (first | exact trivial | apply Le.aggs | apply Le.tups | apply Le.fns | exact Le.refl _ | refine ⟨?_, ?_⟩))))
    | ((with_reducible refine (?_ : Sc _ (AllRen _ _ _))); refine Sc.of ?_; first | (repeat' (first | exact trivial | apply Le.aggs | apply Le.tups | apply Le.fns | exact Le.refl _ | refine ⟨?_, ?_⟩)))
    | ((with_reducible refine (?_ : (List.all _ _) = true)); rfl)
    | ((with_reducible refine (?_ : (and _ _) = true)); rfl)
    | ((with_reducible refine (?_ : List.Nodup _)); exact nodupB_spec rfl)
    | ((with_reducible refine (?_ : @Eq Nat _ _)); rfl)
    | ((with_reducible refine (?_ : LeOks _ _ _)); first | exact trivial | exact ⟨.refl _, trivial⟩ | exact ⟨.refl _, .refl _, trivial⟩)
    | ((fail_if_success with_reducible refine Stop.go ?_); (first | with_reducible refine And.intro ?_ ?_ | with_reducible refine Cut.go ?_ | (with_reducible (refine impI ?_; intro _)) | (with_reducible refine (?_ : footOK _ _ = true); kernel_rfl) | ((with_reducible refine propI ?_); conv => whnf))))
  all_goals try (exact .of (Nat.le_of_ble_eq_true rfl))
  · rename_i q; exact absurd hT (bne0 q)
  have hk : Side (HOk t) := .mk ⟨tk, trf_sort T.trf⟩
  refine ⟨Nat, fun i => match i with | 0 => ([(4, .ptr 2 0), (8, .ptr 3 0), (9, .ptr 4 0), (31, segS x.sg), (32, .int .i64 x.sg.length), (33, .int .i64 0)], [.dead, .dead, .box rideZ, .box [.str t.name, .int .i64 t.unit, .int .i64 t.step, sRow t.zones, iRow t.hol, rulS t.rules, extS t.extras, fxdS t.fixed, .int .i64 x.m.d, .int .i64 x.m.s, .bool x.fx, iRow x.ex, segS x.sg, .slc0], .box (momC (segM x 0))]) | i + 1 => ([(4, .ptr 2 0), (8, .ptr 3 0), (9, .ptr 4 0), (31, segS x.sg), (32, .int .i64 x.sg.length), (33, .int .i64 (i + 1 : Nat))], [.dead, .dead, .box rideZ, .box [.str t.name, .int .i64 t.unit, .int .i64 t.step, sRow t.zones, iRow t.hol, rulS t.rules, extS t.extras, fxdS t.fixed, .int .i64 x.m.d, .int .i64 x.m.s, .bool x.fx, iRow x.ex, segS x.sg, .own 7 (i + 1)], .box (momC (segM x (i + 1))), .dead, .dead, .list 174 13 (i + 1) (fun a j => tbl (ctdS t x a) j) (i + 1)]), fun i => i ≤ x.sg.length ∧ ∀ j, j < i → segE t x j = 0, fun i => x.sg.length - i, ⟨0, ⟨Nat.zero_le _, fun _ h => by omega⟩, .le ⟨rfl, ⟨.dead _, .dead _, .refl _, .refl _, .refl _, trivial⟩, ⟨.refl _, .refl _, .refl _, .refl _, .refl _, .refl _, trivial⟩⟩⟩, fun i ⟨hi, h0⟩ => ?_⟩
  rcases i with _ | i
  · have b := segM_eq T 0 (Nat.zero_le _)
    repeat' (first
      | ((with_reducible refine (?_ : Alt _ _)); first | ((with_reducible apply callAlt (c140 hX t (sgx x 0) (segM x 0) hk ?_ ?_)); case hl => (first | exact AllLe.refl _ | ((repeat' (first | exact trivial | apply Le.aggs | apply Le.tups | apply Le.fns | exact Le.refl _ | refine ⟨?_, ?_⟩)); done))) | ((with_reducible apply callAlt (c100 hX (segM x 0) (sgx x 0).se ?_)); case hl => (first | exact AllLe.refl _ | ((repeat' (first | exact trivial | apply Le.aggs | apply Le.tups | apply Le.fns | exact Le.refl _ | refine ⟨?_, ?_⟩)); done))) | (with_reducible refine Alt.one ?_))
      | ((with_reducible refine (?_ : AllLe _ _)); first | (first | exact AllLe.refl _ | (repeat' (first | exact trivial | apply Le.aggs | apply Le.tups | apply Le.fns | exact Le.refl _ | refine ⟨?_, ?_⟩))))
      | ((with_reducible refine (?_ : Sc _ (AllRen _ _ _))); refine Sc.of ?_; first | (repeat' (first | exact trivial | apply Le.aggs | apply Le.tups | apply Le.fns | exact Le.refl _ | refine ⟨?_, ?_⟩)))
      | ((with_reducible refine (?_ : (List.all _ _) = true)); rfl)
      | ((with_reducible refine (?_ : (and _ _) = true)); rfl)
      | ((with_reducible refine (?_ : List.Nodup _)); exact nodupB_spec rfl)
      | ((with_reducible refine (?_ : @Eq Nat _ _)); rfl)
      | ((with_reducible refine (?_ : LeOks _ _ _)); first | exact trivial | exact ⟨.refl _, trivial⟩ | exact ⟨.refl _, .refl _, trivial⟩)
      | ((fail_if_success with_reducible refine Stop.go ?_); (first | with_reducible refine And.intro ?_ ?_ | with_reducible refine Cut.go ?_ | (with_reducible (refine impI ?_; intro _)) | (with_reducible refine (?_ : footOK _ _ = true); kernel_rfl) | ((with_reducible refine propI ?_); conv => whnf))))
    all_goals try (exact .of (Nat.le_of_ble_eq_true rfl))
    all_goals try (rename_i q q2; exact absurd q2 (by decide))
    all_goals try (rename_i q; have q := of_decide_eq_true q; first | exact .of ⟨by omega, by omega⟩ | exact .of (by decide) | (refine Sc.of ⟨show (0 + (0 + 1)) * 144 ≤ 140737488355328 by omega, show 0 + (0 + 1) ≤ 9223372036854775807 by omega⟩))
    all_goals try (rename_i q q2; have q := of_decide_eq_true q; first | exact .of ⟨by omega, by omega⟩ | exact .of (by decide) | (refine Sc.of ⟨show (0 + (0 + 1)) * 144 ≤ 140737488355328 by omega, show 0 + (0 + 1) ≤ 9223372036854775807 by omega⟩))
    all_goals try (rename_i q; have q := of_decide_eq_true q; first | (have w1 := T.me 0 (by omega); have w2 := T.se 0 (by omega); exact Side.mk ⟨by omega, by omega⟩) | (have v := seg_0 (hseg 0 (by omega)); exact Side.mk ⟨T.trf, v⟩))
    all_goals try (rename_i q q2; have q := of_decide_eq_true q; first | (have w1 := T.me 0 (by omega); have w2 := T.se 0 (by omega); exact Side.mk ⟨by omega, by omega⟩) | (have w2 := T.se 0 (by omega); exact Side.mk ⟨by omega, by omega, by omega⟩) | (have v := seg_0 (hseg 0 (by omega)); exact Side.mk ⟨T.trf, v⟩))
    · rename_i q q2; have q := of_decide_eq_true q
      refine ⟨0 + 1, ⟨by omega, all_lt h0 (hseg 0 (by omega))⟩, by show x.sg.length - (0 + 1) < x.sg.length - (0); omega, .le ⟨rfl, ⟨.dead _, .dead _, .refl _, .refl _, .refl _, .dead _, .dead _, .list (fun a j ha hj => ?_), trivial⟩, ⟨.refl _, .refl _, .refl _, .refl _, .refl _, .refl _, trivial⟩⟩⟩
      replace ha : a < 1 := by omega
      obtain rfl : a = 0 := by omega
      show Le (tbl (ctdS t x 0) (0 * 13 + j)) (tbl (ctdS t x 0) j); rw [Nat.zero_mul, Nat.zero_add]; exact .refl _
    · rename_i q; have q := of_decide_eq_false q; have := T.pos; omega
  · have b := segM_eq T (i + 1) hi
    repeat' (first
      | ((with_reducible refine (?_ : Alt _ _)); first | ((with_reducible apply callAlt (c140 hX t (sgx x (i + 1)) (segM x (i + 1)) hk ?_ ?_)); case hl => (first | exact AllLe.refl _ | ((repeat' (first | exact trivial | apply Le.aggs | apply Le.tups | apply Le.fns | exact Le.refl _ | refine ⟨?_, ?_⟩)); done))) | ((with_reducible apply callAlt (c100 hX (segM x (i + 1)) (sgx x (i + 1)).se ?_)); case hl => (first | exact AllLe.refl _ | ((repeat' (first | exact trivial | apply Le.aggs | apply Le.tups | apply Le.fns | exact Le.refl _ | refine ⟨?_, ?_⟩)); done))) | (with_reducible refine Alt.one ?_))
      | ((with_reducible refine (?_ : AllLe _ _)); first | (first | exact AllLe.refl _ | (repeat' (first | exact trivial | apply Le.aggs | apply Le.tups | apply Le.fns | exact Le.refl _ | refine ⟨?_, ?_⟩))))
      | ((with_reducible refine (?_ : Sc _ (AllRen _ _ _))); refine Sc.of ?_; first | (repeat' (first | exact trivial | apply Le.aggs | apply Le.tups | apply Le.fns | exact Le.refl _ | refine ⟨?_, ?_⟩)))
      | ((with_reducible refine (?_ : (List.all _ _) = true)); rfl)
      | ((with_reducible refine (?_ : (and _ _) = true)); rfl)
      | ((with_reducible refine (?_ : List.Nodup _)); exact nodupB_spec rfl)
      | ((with_reducible refine (?_ : @Eq Nat _ _)); rfl)
      | ((with_reducible refine (?_ : LeOks _ _ _)); first | exact trivial | exact ⟨.refl _, trivial⟩ | exact ⟨.refl _, .refl _, trivial⟩)
      | ((fail_if_success with_reducible refine Stop.go ?_); (first | rw [beqvv (i + 1)] | rw [beqvv i] | with_reducible refine And.intro ?_ ?_ | with_reducible refine Cut.go ?_ | (with_reducible (refine impI ?_; intro _)) | (with_reducible refine (?_ : footOK _ _ = true); kernel_rfl) | ((with_reducible refine propI ?_); conv => whnf))))
    all_goals try (exact .of (Nat.le_of_ble_eq_true rfl))
    all_goals try (rename_i q q2; exact absurd q2 (by decide))
    all_goals try (rename_i q; have q := of_decide_eq_true q; first | exact .of ⟨by omega, by omega⟩ | exact .of (by decide) | (refine Sc.of ⟨show ((i + 1) + (0 + 1)) * 144 ≤ 140737488355328 by omega, show (i + 1) + (0 + 1) ≤ 9223372036854775807 by omega⟩))
    all_goals try (rename_i q q2; have q := of_decide_eq_true q; first | exact .of ⟨by omega, by omega⟩ | exact .of (by decide) | (refine Sc.of ⟨show ((i + 1) + (0 + 1)) * 144 ≤ 140737488355328 by omega, show (i + 1) + (0 + 1) ≤ 9223372036854775807 by omega⟩))
    all_goals try (rename_i q; have q := of_decide_eq_true q; first | (have w1 := T.me (i + 1) (by omega); have w2 := T.se (i + 1) (by omega); exact Side.mk ⟨by omega, by omega⟩) | (have v := seg_0 (hseg (i + 1) (by omega)); exact Side.mk ⟨T.trf, v⟩))
    all_goals try (rename_i q q2; have q := of_decide_eq_true q; first | (have w1 := T.me (i + 1) (by omega); have w2 := T.se (i + 1) (by omega); exact Side.mk ⟨by omega, by omega⟩) | (have w2 := T.se (i + 1) (by omega); exact Side.mk ⟨by omega, by omega, by omega⟩) | (have v := seg_0 (hseg (i + 1) (by omega)); exact Side.mk ⟨T.trf, v⟩))
    · rename_i q q2; have q := of_decide_eq_true q
      refine ⟨(i + 1) + 1, ⟨by omega, all_lt h0 (hseg (i + 1) (by omega))⟩, by show x.sg.length - ((i + 1) + 1) < x.sg.length - ((i + 1)); omega, .le ⟨rfl, ⟨.dead _, .dead _, .refl _, .refl _, .refl _, .dead _, .dead _, .list (fun a j ha hj => ?_), trivial⟩, ⟨.refl _, .refl _, .refl _, .refl _, .refl _, .refl _, trivial⟩⟩⟩
      skip
      exact Le.ofEq (push_c (fun j => rfl) ha)
      skip
    · rename_i q; have q := of_decide_eq_false q
      obtain e : i + 1 = x.sg.length := by omega
      rw [show rideC t x = rideCk t x (i + 1) from by unfold rideC; rw [e]]
      refine .mk [] [7] _ rfl (.tups ⟨⟨trivial, ?_⟩, .le (.refl _)⟩) trivial rfl
      refine .aggs (n := 14) ?_
      exact ⟨⟨⟨⟨⟨⟨⟨⟨⟨⟨⟨⟨⟨⟨trivial, .le (.refl _)⟩, .le (.refl _)⟩, .le (.refl _)⟩, .le (.refl _)⟩, .le (.refl _)⟩, .le (.refl _)⟩, .le (.refl _)⟩, .le (.refl _)⟩, .le (.refl _)⟩, .le (.refl _)⟩, .le (.refl _)⟩, .le (.refl _)⟩, .le (.refl _)⟩, .own rfl fun _ _ _ _ => .refl _⟩
set_option maxHeartbeats 1000000 in
theorem c105e (t : Trf) (x : Trp) (hs : Side (TOk t ∧ XOk x)) (hr : rideE t x ≠ 0) : Pure (Xc W0 G) 105 [trfA t, trpA x] (.tup 2 (tbl [.agg 14 (tbl rideZ), .int .i64 (rideE t x)])) := by
  have hs0 := hs
  have hs := hs.get
  have tk := hs.1
  have k2 := hs.2.ex
  have k3 := hs.2.sg
  refine mut_of' hX (show FnIs (Xc W0 G) 105 Tryz.f105 (codeOf Tryz.f105) from ⟨by kernel_rfl, by kernel_rfl, by kernel_rfl, by kernel_rfl⟩) rfl ?_
  repeat' (first
    | ((with_reducible refine (?_ : Alt _ _)); first | (with_reducible apply callAlt (c37 hX t x hs0)) | (with_reducible refine Alt.one ?_))
    | ((with_reducible refine (?_ : AllLe _ _)); first | (first | exact AllLe.refl _ | (repeat' (first | exact trivial | apply Le.aggs | apply Le.tups | apply Le.fns | exact Le.refl _ | refine ⟨?_, ?_⟩))))
    | ((with_reducible refine (?_ : Sc _ (AllRen _ _ _))); refine Sc.of ?_; first | (repeat' (first | exact trivial | apply Le.aggs | apply Le.tups | apply Le.fns | exact Le.refl _ | refine ⟨?_, ?_⟩)))
    | ((with_reducible refine (?_ : (List.all _ _) = true)); rfl)
    | ((with_reducible refine (?_ : (and _ _) = true)); rfl)
    | ((with_reducible refine (?_ : List.Nodup _)); exact nodupB_spec rfl)
    | ((with_reducible refine (?_ : @Eq Nat _ _)); rfl)
    | ((with_reducible refine (?_ : LeOks _ _ _)); first | exact trivial | exact ⟨.refl _, trivial⟩ | exact ⟨.refl _, .refl _, trivial⟩)
    | ((fail_if_success with_reducible refine Stop.go ?_); (first | with_reducible refine And.intro ?_ ?_ | with_reducible refine Cut.go ?_ | (with_reducible (refine impI ?_; intro _)) | (with_reducible refine (?_ : footOK _ _ = true); kernel_rfl) | ((with_reducible refine propI ?_); conv => whnf))))
  all_goals try (exact .of (Nat.le_of_ble_eq_true rfl))
  · rename_i q; have w := ride_1 (x := x) rfl (bne0 q); exact .mk [] [] _ rfl (.le (.tups ⟨⟨trivial, .aggs (n := 14) ⟨⟨⟨⟨⟨⟨⟨⟨⟨⟨⟨⟨⟨⟨trivial, .refl _⟩, .refl _⟩, .refl _⟩, .refl _⟩, .refl _⟩, .refl _⟩, .refl _⟩, .refl _⟩, .refl _⟩, .refl _⟩, .refl _⟩, .refl _⟩, .refl _⟩, .refl _⟩⟩, .intI (w.symm)⟩)) trivial rfl
  rename_i q
  have hT := bne1 q
  have T := trip_0 hT
  have hk : Side (HOk t) := .mk ⟨tk, trf_sort T.trf⟩
  refine ⟨Nat, fun i => match i with | 0 => ([(4, .ptr 2 0), (8, .ptr 3 0), (9, .ptr 4 0), (31, segS x.sg), (32, .int .i64 x.sg.length), (33, .int .i64 0)], [.dead, .dead, .box rideZ, .box [.str t.name, .int .i64 t.unit, .int .i64 t.step, sRow t.zones, iRow t.hol, rulS t.rules, extS t.extras, fxdS t.fixed, .int .i64 x.m.d, .int .i64 x.m.s, .bool x.fx, iRow x.ex, segS x.sg, .slc0], .box (momC (segM x 0))]) | i + 1 => ([(4, .ptr 2 0), (8, .ptr 3 0), (9, .ptr 4 0), (31, segS x.sg), (32, .int .i64 x.sg.length), (33, .int .i64 (i + 1 : Nat))], [.dead, .dead, .box rideZ, .box [.str t.name, .int .i64 t.unit, .int .i64 t.step, sRow t.zones, iRow t.hol, rulS t.rules, extS t.extras, fxdS t.fixed, .int .i64 x.m.d, .int .i64 x.m.s, .bool x.fx, iRow x.ex, segS x.sg, .own 7 (i + 1)], .box (momC (segM x (i + 1))), .dead, .dead, .list 174 13 (i + 1) (fun a j => tbl (ctdS t x a) j) (i + 1)]), fun i => i ≤ x.sg.length ∧ ∀ j, j < i → segE t x j = 0, fun i => x.sg.length - i, ⟨0, ⟨Nat.zero_le _, fun _ h => by omega⟩, .le ⟨rfl, ⟨.dead _, .dead _, .refl _, .refl _, .refl _, trivial⟩, ⟨.refl _, .refl _, .refl _, .refl _, .refl _, .refl _, trivial⟩⟩⟩, fun i ⟨hi, h0⟩ => ?_⟩
  rcases i with _ | i
  · have b := segM_eq T 0 (Nat.zero_le _)
    by_cases hE : segE t x 0 = 0
    · skip
      repeat' (first
        | ((with_reducible refine (?_ : Alt _ _)); first | ((with_reducible apply callAlt (c140 hX t (sgx x 0) (segM x 0) hk ?_ ?_)); case hl => (first | exact AllLe.refl _ | ((repeat' (first | exact trivial | apply Le.aggs | apply Le.tups | apply Le.fns | exact Le.refl _ | refine ⟨?_, ?_⟩)); done))) | ((with_reducible apply callAlt (c100 hX (segM x 0) (sgx x 0).se ?_)); case hl => (first | exact AllLe.refl _ | ((repeat' (first | exact trivial | apply Le.aggs | apply Le.tups | apply Le.fns | exact Le.refl _ | refine ⟨?_, ?_⟩)); done))) | (with_reducible refine Alt.one ?_))
        | ((with_reducible refine (?_ : AllLe _ _)); first | (first | exact AllLe.refl _ | (repeat' (first | exact trivial | apply Le.aggs | apply Le.tups | apply Le.fns | exact Le.refl _ | refine ⟨?_, ?_⟩))))
        | ((with_reducible refine (?_ : Sc _ (AllRen _ _ _))); refine Sc.of ?_; first | (repeat' (first | exact trivial | apply Le.aggs | apply Le.tups | apply Le.fns | exact Le.refl _ | refine ⟨?_, ?_⟩)))
        | ((with_reducible refine (?_ : (List.all _ _) = true)); rfl)
        | ((with_reducible refine (?_ : (and _ _) = true)); rfl)
        | ((with_reducible refine (?_ : List.Nodup _)); exact nodupB_spec rfl)
        | ((with_reducible refine (?_ : @Eq Nat _ _)); rfl)
        | ((with_reducible refine (?_ : LeOks _ _ _)); first | exact trivial | exact ⟨.refl _, trivial⟩ | exact ⟨.refl _, .refl _, trivial⟩)
        | ((fail_if_success with_reducible refine Stop.go ?_); (first | with_reducible refine And.intro ?_ ?_ | with_reducible refine Cut.go ?_ | (with_reducible (refine impI ?_; intro _)) | (with_reducible refine (?_ : footOK _ _ = true); kernel_rfl) | ((with_reducible refine propI ?_); conv => whnf))))
      all_goals try (exact .of (Nat.le_of_ble_eq_true rfl))
      all_goals try (rename_i q q2; exact absurd q2 (by decide))
      all_goals try (rename_i q; have q := of_decide_eq_true q; first | exact .of ⟨by omega, by omega⟩ | exact .of (by decide) | (refine Sc.of ⟨show (0 + (0 + 1)) * 144 ≤ 140737488355328 by omega, show 0 + (0 + 1) ≤ 9223372036854775807 by omega⟩))
      all_goals try (rename_i q q2; have q := of_decide_eq_true q; first | exact .of ⟨by omega, by omega⟩ | exact .of (by decide) | (refine Sc.of ⟨show (0 + (0 + 1)) * 144 ≤ 140737488355328 by omega, show 0 + (0 + 1) ≤ 9223372036854775807 by omega⟩))
      all_goals try (rename_i q; have q := of_decide_eq_true q; first | (have w1 := T.me 0 (by omega); have w2 := T.se 0 (by omega); exact Side.mk ⟨by omega, by omega⟩) | (have v := seg_0 (hE); exact Side.mk ⟨T.trf, v⟩))
      all_goals try (rename_i q q2; have q := of_decide_eq_true q; first | (have w1 := T.me 0 (by omega); have w2 := T.se 0 (by omega); exact Side.mk ⟨by omega, by omega⟩) | (have w2 := T.se 0 (by omega); exact Side.mk ⟨by omega, by omega, by omega⟩) | (have v := seg_0 (hE); exact Side.mk ⟨T.trf, v⟩))
      · rename_i q q2; have q := of_decide_eq_true q
        refine ⟨0 + 1, ⟨by omega, all_lt h0 (hE)⟩, by show x.sg.length - (0 + 1) < x.sg.length - (0); omega, .le ⟨rfl, ⟨.dead _, .dead _, .refl _, .refl _, .refl _, .dead _, .dead _, .list (fun a j ha hj => ?_), trivial⟩, ⟨.refl _, .refl _, .refl _, .refl _, .refl _, .refl _, trivial⟩⟩⟩
        replace ha : a < 1 := by omega
        obtain rfl : a = 0 := by omega
        show Le (tbl (ctdS t x 0) (0 * 13 + j)) (tbl (ctdS t x 0) j); rw [Nat.zero_mul, Nat.zero_add]; exact .refl _
      · rename_i q; have q := of_decide_eq_false q
        exact absurd (ride_3 hT (fun j hj => h0 j (by omega))) hr
    · skip
      have hE2 : (bif momB (segM x (0)) then oneE (cntL t (sgx x (0)) (segM x (0))) else 2) ≠ 0 := by rw [← seg_e]; exact hE
      repeat' (first
        | ((with_reducible refine (?_ : Alt _ _)); first | ((with_reducible apply callAlt (c140e hX t (sgx x (0)) (segM x (0)) hk (by rw [← seg_e]; exact hE))); case hl => (first | exact AllLe.refl _ | ((repeat' (first | exact trivial | apply Le.aggs | apply Le.tups | apply Le.fns | exact Le.refl _ | refine ⟨?_, ?_⟩)); done))) | (with_reducible refine Alt.one ?_))
        | ((with_reducible refine (?_ : AllLe _ _)); first | (first | exact AllLe.refl _ | (repeat' (first | exact trivial | apply Le.aggs | apply Le.tups | apply Le.fns | exact Le.refl _ | refine ⟨?_, ?_⟩))))
        | ((with_reducible refine (?_ : Sc _ (AllRen _ _ _))); refine Sc.of ?_; first | (repeat' (first | exact trivial | apply Le.aggs | apply Le.tups | apply Le.fns | exact Le.refl _ | refine ⟨?_, ?_⟩)))
        | ((with_reducible refine (?_ : (List.all _ _) = true)); rfl)
        | ((with_reducible refine (?_ : (and _ _) = true)); rfl)
        | ((with_reducible refine (?_ : List.Nodup _)); exact nodupB_spec rfl)
        | ((with_reducible refine (?_ : @Eq Nat _ _)); rfl)
        | ((with_reducible refine (?_ : LeOks _ _ _)); first | exact trivial | exact ⟨.refl _, trivial⟩ | exact ⟨.refl _, .refl _, trivial⟩)
        | ((fail_if_success with_reducible refine Stop.go ?_); (first | with_reducible refine And.intro ?_ ?_ | with_reducible refine Cut.go ?_ | (with_reducible (refine impI ?_; intro _)) | (with_reducible refine (?_ : footOK _ _ = true); kernel_rfl) | ((with_reducible refine propI ?_); conv => whnf))))
      all_goals try (exact .of (Nat.le_of_ble_eq_true rfl))
      all_goals try (rename_i q; have q := of_decide_eq_true q; exact .of ⟨by omega, by omega⟩)
      all_goals try (exfalso; rename_i q2; have z := bne1 q2; rw [← seg_e] at z; exact hE z)
      · rename_i q q2; have q := of_decide_eq_true q
        have w := ride_2 hT (show 0 < x.sg.length by omega) h0 seg_e hE2
        exact .mk [] [] _ rfl (.le (.tups ⟨⟨trivial, .aggs (n := 14) ⟨⟨⟨⟨⟨⟨⟨⟨⟨⟨⟨⟨⟨⟨trivial, .refl _⟩, .refl _⟩, .refl _⟩, .refl _⟩, .refl _⟩, .refl _⟩, .refl _⟩, .refl _⟩, .refl _⟩, .refl _⟩, .refl _⟩, .refl _⟩, .refl _⟩, .refl _⟩⟩, .intI (w.symm)⟩)) trivial rfl
      · rename_i q; have q := of_decide_eq_false q
        exact absurd (ride_3 hT (fun j hj => h0 j (by omega))) hr

  · have b := segM_eq T (i + 1) hi
    by_cases hE : segE t x (i + 1) = 0
    · skip
      repeat' (first
        | ((with_reducible refine (?_ : Alt _ _)); first | ((with_reducible apply callAlt (c140 hX t (sgx x (i + 1)) (segM x (i + 1)) hk ?_ ?_)); case hl => (first | exact AllLe.refl _ | ((repeat' (first | exact trivial | apply Le.aggs | apply Le.tups | apply Le.fns | exact Le.refl _ | refine ⟨?_, ?_⟩)); done))) | ((with_reducible apply callAlt (c100 hX (segM x (i + 1)) (sgx x (i + 1)).se ?_)); case hl => (first | exact AllLe.refl _ | ((repeat' (first | exact trivial | apply Le.aggs | apply Le.tups | apply Le.fns | exact Le.refl _ | refine ⟨?_, ?_⟩)); done))) | (with_reducible refine Alt.one ?_))
        | ((with_reducible refine (?_ : AllLe _ _)); first | (first | exact AllLe.refl _ | (repeat' (first | exact trivial | apply Le.aggs | apply Le.tups | apply Le.fns | exact Le.refl _ | refine ⟨?_, ?_⟩))))
        | ((with_reducible refine (?_ : Sc _ (AllRen _ _ _))); refine Sc.of ?_; first | (repeat' (first | exact trivial | apply Le.aggs | apply Le.tups | apply Le.fns | exact Le.refl _ | refine ⟨?_, ?_⟩)))
        | ((with_reducible refine (?_ : (List.all _ _) = true)); rfl)
        | ((with_reducible refine (?_ : (and _ _) = true)); rfl)
        | ((with_reducible refine (?_ : List.Nodup _)); exact nodupB_spec rfl)
        | ((with_reducible refine (?_ : @Eq Nat _ _)); rfl)
        | ((with_reducible refine (?_ : LeOks _ _ _)); first | exact trivial | exact ⟨.refl _, trivial⟩ | exact ⟨.refl _, .refl _, trivial⟩)
        | ((fail_if_success with_reducible refine Stop.go ?_); (first | rw [beqvv (i + 1)] | rw [beqvv i] | with_reducible refine And.intro ?_ ?_ | with_reducible refine Cut.go ?_ | (with_reducible (refine impI ?_; intro _)) | (with_reducible refine (?_ : footOK _ _ = true); kernel_rfl) | ((with_reducible refine propI ?_); conv => whnf))))
      all_goals try (exact .of (Nat.le_of_ble_eq_true rfl))
      all_goals try (rename_i q q2; exact absurd q2 (by decide))
      all_goals try (rename_i q; have q := of_decide_eq_true q; first | exact .of ⟨by omega, by omega⟩ | exact .of (by decide) | (refine Sc.of ⟨show ((i + 1) + (0 + 1)) * 144 ≤ 140737488355328 by omega, show (i + 1) + (0 + 1) ≤ 9223372036854775807 by omega⟩))
      all_goals try (rename_i q q2; have q := of_decide_eq_true q; first | exact .of ⟨by omega, by omega⟩ | exact .of (by decide) | (refine Sc.of ⟨show ((i + 1) + (0 + 1)) * 144 ≤ 140737488355328 by omega, show (i + 1) + (0 + 1) ≤ 9223372036854775807 by omega⟩))
      all_goals try (rename_i q; have q := of_decide_eq_true q; first | (have w1 := T.me (i + 1) (by omega); have w2 := T.se (i + 1) (by omega); exact Side.mk ⟨by omega, by omega⟩) | (have v := seg_0 (hE); exact Side.mk ⟨T.trf, v⟩))
      all_goals try (rename_i q q2; have q := of_decide_eq_true q; first | (have w1 := T.me (i + 1) (by omega); have w2 := T.se (i + 1) (by omega); exact Side.mk ⟨by omega, by omega⟩) | (have w2 := T.se (i + 1) (by omega); exact Side.mk ⟨by omega, by omega, by omega⟩) | (have v := seg_0 (hE); exact Side.mk ⟨T.trf, v⟩))
      · rename_i q q2; have q := of_decide_eq_true q
        refine ⟨(i + 1) + 1, ⟨by omega, all_lt h0 (hE)⟩, by show x.sg.length - ((i + 1) + 1) < x.sg.length - ((i + 1)); omega, .le ⟨rfl, ⟨.dead _, .dead _, .refl _, .refl _, .refl _, .dead _, .dead _, .list (fun a j ha hj => ?_), trivial⟩, ⟨.refl _, .refl _, .refl _, .refl _, .refl _, .refl _, trivial⟩⟩⟩
        skip
        exact Le.ofEq (push_c (fun j => rfl) ha)
        skip
      · rename_i q; have q := of_decide_eq_false q
        exact absurd (ride_3 hT (fun j hj => h0 j (by omega))) hr
    · skip
      have hE2 : (bif momB (segM x ((i + 1))) then oneE (cntL t (sgx x ((i + 1))) (segM x ((i + 1)))) else 2) ≠ 0 := by rw [← seg_e]; exact hE
      repeat' (first
        | ((with_reducible refine (?_ : Alt _ _)); first | ((with_reducible apply callAlt (c140e hX t (sgx x ((i + 1))) (segM x ((i + 1))) hk (by rw [← seg_e]; exact hE))); case hl => (first | exact AllLe.refl _ | ((repeat' (first | exact trivial | apply Le.aggs | apply Le.tups | apply Le.fns | exact Le.refl _ | refine ⟨?_, ?_⟩)); done))) | (with_reducible refine Alt.one ?_))
        | ((with_reducible refine (?_ : AllLe _ _)); first | (first | exact AllLe.refl _ | (repeat' (first | exact trivial | apply Le.aggs | apply Le.tups | apply Le.fns | exact Le.refl _ | refine ⟨?_, ?_⟩))))
        | ((with_reducible refine (?_ : Sc _ (AllRen _ _ _))); refine Sc.of ?_; first | (repeat' (first | exact trivial | apply Le.aggs | apply Le.tups | apply Le.fns | exact Le.refl _ | refine ⟨?_, ?_⟩)))
        | ((with_reducible refine (?_ : (List.all _ _) = true)); rfl)
        | ((with_reducible refine (?_ : (and _ _) = true)); rfl)
        | ((with_reducible refine (?_ : List.Nodup _)); exact nodupB_spec rfl)
        | ((with_reducible refine (?_ : @Eq Nat _ _)); rfl)
        | ((with_reducible refine (?_ : LeOks _ _ _)); first | exact trivial | exact ⟨.refl _, trivial⟩ | exact ⟨.refl _, .refl _, trivial⟩)
        | ((fail_if_success with_reducible refine Stop.go ?_); (first | rw [beqvv (i + 1)] | rw [beqvv i] | with_reducible refine And.intro ?_ ?_ | with_reducible refine Cut.go ?_ | (with_reducible (refine impI ?_; intro _)) | (with_reducible refine (?_ : footOK _ _ = true); kernel_rfl) | ((with_reducible refine propI ?_); conv => whnf))))
      all_goals try (exact .of (Nat.le_of_ble_eq_true rfl))
      all_goals try (rename_i q; have q := of_decide_eq_true q; exact .of ⟨by omega, by omega⟩)
      all_goals try (exfalso; rename_i q2; have z := bne1 q2; rw [← seg_e] at z; exact hE z)
      · rename_i q q2; have q := of_decide_eq_true q
        have w := ride_2 hT (show (i + 1) < x.sg.length by omega) h0 seg_e hE2
        exact .mk [] [] _ rfl (.le (.tups ⟨⟨trivial, .aggs (n := 14) ⟨⟨⟨⟨⟨⟨⟨⟨⟨⟨⟨⟨⟨⟨trivial, .refl _⟩, .refl _⟩, .refl _⟩, .refl _⟩, .refl _⟩, .refl _⟩, .refl _⟩, .refl _⟩, .refl _⟩, .refl _⟩, .refl _⟩, .refl _⟩, .refl _⟩, .refl _⟩⟩, .intI (w.symm)⟩)) trivial rfl
      · rename_i q; have q := of_decide_eq_false q
        exact absurd (ride_3 hT (fun j hj => h0 j (by omega))) hr

end
end Go.Fx

/-
  The rules, points and steps of a trip.
-/
namespace Go.Fx
open Go.Proofs Go.RowKit

def rowF (f : Nat → Int) (n : Nat) : AV := .slc 1 n (fun i _ => .int .i64 (f i))
theorem push_f {n a : Nat} {f : Nat → Int} {g : Nat → Nat → AV} (hg : g 0 0 = .int .i64 (f n)) (ha : a < n + 1) : joinF n (fun a _ => .int .i64 (f a)) g a 0 = .int .i64 (f a) := by
  unfold joinF
  by_cases h : a < n
  · rw [if_pos h]
  · obtain rfl : a = n := by omega
    rw [if_neg h, Nat.sub_self, hg]
def mxI (a b : Int) : Int := bif decide (a < b) then b else a
theorem mx_eq {a b : Int} : max a b = mxI a b := by
  unfold mxI; by_cases h : a < b
  · simp [h]; omega
  · simp [h]; omega
def stpF (t : Trf) (x : Trp) (k : Nat) : Int := (accP (ptX t x) (k + 1)).tdiv t.unit
section
variable {W0 : World} {G : Nat → Option AV} (hX : (Xc W0 G).Good)
include hX
theorem c104 (n : Int) (r : Rul) (a b : Int) : Pure (Xc W0 G) 104 [.agg 13 (tbl (ctdC n r a b))] (.int .i64 (mxI a b)) := by
  refine mut_of' hX (show FnIs (Xc W0 G) 104 Tryz.f104 (codeOf Tryz.f104) from ⟨by kernel_rfl, by kernel_rfl, by kernel_rfl, by kernel_rfl⟩) rfl ?_
  repeat' (first
    | ((with_reducible refine (?_ : Alt _ _)); first | fail | (with_reducible refine Alt.one ?_))
    | ((with_reducible refine (?_ : AllLe _ _)); first | (first | exact AllLe.refl _ | (repeat' (first | exact trivial | apply Le.aggs | apply Le.tups | apply Le.fns | exact Le.refl _ | refine ⟨?_, ?_⟩))))
    | ((with_reducible refine (?_ : Sc _ (AllRen _ _ _))); refine Sc.of ?_; first | (repeat' (first | exact trivial | apply Le.aggs | apply Le.tups | apply Le.fns | exact Le.refl _ | refine ⟨?_, ?_⟩)))
    | ((with_reducible refine (?_ : (List.all _ _) = true)); rfl)
    | ((with_reducible refine (?_ : (and _ _) = true)); rfl)
    | ((with_reducible refine (?_ : List.Nodup _)); exact nodupB_spec rfl)
    | ((with_reducible refine (?_ : @Eq Nat _ _)); rfl)
    | ((with_reducible refine (?_ : LeOks _ _ _)); first | exact trivial | exact ⟨.refl _, trivial⟩ | exact ⟨.refl _, .refl _, trivial⟩)
    | ((fail_if_success with_reducible refine Stop.go ?_); (first | with_reducible refine And.intro ?_ ?_ | with_reducible refine Cut.go ?_ | (with_reducible (refine impI ?_; intro _)) | (with_reducible refine (?_ : footOK _ _ = true); kernel_rfl) | ((with_reducible refine propI ?_); conv => whnf))))
  all_goals try (exact .of (Nat.le_of_ble_eq_true rfl))
  all_goals exact .mk [] [] _ rfl (.le (.intI (by first | exact mx_eq | rfl))) trivial rfl
theorem c142 (n : Int) (r : Rul) (a b : Int) (hs : Side (inK .i64 (a + b))) : Pure (Xc W0 G) 142 [.agg 13 (tbl (ctdC n r a b))] (.int .i64 (a + b)) := by
  have hs := hs.get
  refine mut_of' hX (show FnIs (Xc W0 G) 142 Tryz.f142 (codeOf Tryz.f142) from ⟨by kernel_rfl, by kernel_rfl, by kernel_rfl, by kernel_rfl⟩) rfl ?_
  repeat' (first
    | ((with_reducible refine (?_ : Alt _ _)); first | fail | (with_reducible refine Alt.one ?_))
    | ((with_reducible refine (?_ : AllLe _ _)); first | (first | exact AllLe.refl _ | (repeat' (first | exact trivial | apply Le.aggs | apply Le.tups | apply Le.fns | exact Le.refl _ | refine ⟨?_, ?_⟩))))
    | ((with_reducible refine (?_ : Sc _ (AllRen _ _ _))); refine Sc.of ?_; first | (repeat' (first | exact trivial | apply Le.aggs | apply Le.tups | apply Le.fns | exact Le.refl _ | refine ⟨?_, ?_⟩)))
    | ((with_reducible refine (?_ : (List.all _ _) = true)); rfl)
    | ((with_reducible refine (?_ : (and _ _) = true)); rfl)
    | ((with_reducible refine (?_ : List.Nodup _)); exact nodupB_spec rfl)
    | ((with_reducible refine (?_ : @Eq Nat _ _)); rfl)
    | ((with_reducible refine (?_ : LeOks _ _ _)); first | exact trivial | exact ⟨.refl _, trivial⟩ | exact ⟨.refl _, .refl _, trivial⟩)
    | ((fail_if_success with_reducible refine Stop.go ?_); (first | with_reducible refine And.intro ?_ ?_ | with_reducible refine Cut.go ?_ | (with_reducible (refine impI ?_; intro _)) | (with_reducible refine (?_ : footOK _ _ = true); kernel_rfl) | ((with_reducible refine propI ?_); conv => whnf))))
  all_goals try (exact .of (Nat.le_of_ble_eq_true rfl))
  all_goals first | exact .of hs | exact .mk [] [] _ rfl (.le (.refl _)) trivial rfl
theorem c109 (n : Int) (r : Rul) (a b : Int) : Pure (Xc W0 G) 109 [.agg 13 (tbl (ctdC n r a b))] (.int .i64 n) := by
  refine mut_of' hX (show FnIs (Xc W0 G) 109 Tryz.f109 (codeOf Tryz.f109) from ⟨by kernel_rfl, by kernel_rfl, by kernel_rfl, by kernel_rfl⟩) rfl ?_
  repeat' (first
    | ((with_reducible refine (?_ : Alt _ _)); first | fail | (with_reducible refine Alt.one ?_))
    | ((with_reducible refine (?_ : AllLe _ _)); first | (first | exact AllLe.refl _ | (repeat' (first | exact trivial | apply Le.aggs | apply Le.tups | apply Le.fns | exact Le.refl _ | refine ⟨?_, ?_⟩))))
    | ((with_reducible refine (?_ : Sc _ (AllRen _ _ _))); refine Sc.of ?_; first | (repeat' (first | exact trivial | apply Le.aggs | apply Le.tups | apply Le.fns | exact Le.refl _ | refine ⟨?_, ?_⟩)))
    | ((with_reducible refine (?_ : (List.all _ _) = true)); rfl)
    | ((with_reducible refine (?_ : (and _ _) = true)); rfl)
    | ((with_reducible refine (?_ : List.Nodup _)); exact nodupB_spec rfl)
    | ((with_reducible refine (?_ : @Eq Nat _ _)); rfl)
    | ((with_reducible refine (?_ : LeOks _ _ _)); first | exact trivial | exact ⟨.refl _, trivial⟩ | exact ⟨.refl _, .refl _, trivial⟩)
    | ((fail_if_success with_reducible refine Stop.go ?_); (first | with_reducible refine And.intro ?_ ?_ | with_reducible refine Cut.go ?_ | (with_reducible (refine impI ?_; intro _)) | (with_reducible refine (?_ : footOK _ _ = true); kernel_rfl) | ((with_reducible refine propI ?_); conv => whnf))))
  all_goals try (exact .of (Nat.le_of_ble_eq_true rfl))
  all_goals exact .mk [] [] _ rfl (.le (.refl _)) trivial rfl
theorem c103 (t : Trf) (s : Int) (n : Int) (r : Rul) (a b : Int) (hs : Side (1 ≤ t.unit ∧ t.unit ≤ 999999999 ∧ 0 ≤ s ∧ s ≤ 100000000000000 ∧ 0 ≤ mxI a b ∧ mxI a b ≤ 100000000000000)) : Mut (Xc W0 G) 103 [.agg 13 (tbl (ctdC n r a b)), .ptr 0 0, .ptr 1 0] [.box [.int .i64 s], .box (trfC t)] (.int .i64 ((s + mxI a b).tdiv t.unit)) [.box [.int .i64 (s + mxI a b)], .box (trfC t)] := by
  have hs := hs.get
  refine mut_of' hX (show FnIs (Xc W0 G) 103 Tryz.f103 (codeOf Tryz.f103) from ⟨by kernel_rfl, by kernel_rfl, by kernel_rfl, by kernel_rfl⟩) rfl ?_
  repeat' (first
    | ((with_reducible refine (?_ : Alt _ _)); first | (with_reducible apply callAlt (c104 hX _ _ _ _)) | (with_reducible refine Alt.one ?_))
    | ((with_reducible refine (?_ : AllLe _ _)); first | (first | exact AllLe.refl _ | (repeat' (first | exact trivial | apply Le.aggs | apply Le.tups | apply Le.fns | exact Le.refl _ | refine ⟨?_, ?_⟩))))
    | ((with_reducible refine (?_ : Sc _ (AllRen _ _ _))); refine Sc.of ?_; first | (repeat' (first | exact trivial | apply Le.aggs | apply Le.tups | apply Le.fns | exact Le.refl _ | refine ⟨?_, ?_⟩)))
    | ((with_reducible refine (?_ : (List.all _ _) = true)); rfl)
    | ((with_reducible refine (?_ : (and _ _) = true)); rfl)
    | ((with_reducible refine (?_ : List.Nodup _)); exact nodupB_spec rfl)
    | ((with_reducible refine (?_ : @Eq Nat _ _)); rfl)
    | ((with_reducible refine (?_ : LeOks _ _ _)); first | exact trivial | exact ⟨.refl _, trivial⟩ | exact ⟨.refl _, .refl _, trivial⟩)
    | ((fail_if_success with_reducible refine Stop.go ?_); (first | with_reducible refine And.intro ?_ ?_ | with_reducible refine Cut.go ?_ | (with_reducible (refine impI ?_; intro _)) | (with_reducible refine (?_ : footOK _ _ = true); kernel_rfl) | ((with_reducible refine propI ?_); conv => whnf))))
  all_goals try (exact .of (Nat.le_of_ble_eq_true rfl))
  all_goals try (have qb := quo_bd (a := s + mxI a b) (d := t.unit) (B := 200000000000000) (by omega) (by omega) (by omega); exact .of ⟨by omega, by omega⟩)
  all_goals try (exact .of (by omega))
  all_goals exact .mk [] [] _ rfl (.le (.refl _)) ⟨.le (.refl _), .le (.refl _), trivial⟩ rfl
set_option maxHeartbeats 1000000 in
theorem c102r (t : Trf) (x : Trp) (hs : Side (TOk t ∧ XOk x)) (hr : rideE t x = 0) : Mut (Xc W0 G) 102 [trfA t, trpA x, .fn 109 0 (fun _ => .any)] [] (.tup 2 (tbl [rowF (segN t x) x.sg.length, .int .i64 0])) [] := by
  have hs0 := hs
  have hs := hs.get
  have k3 := hs.2.sg
  obtain ⟨T, hseg⟩ := ride_0 hr
  refine mut_of' hX (show FnIs (Xc W0 G) 102 Tryz.f102 (codeOf Tryz.f102) from ⟨by kernel_rfl, by kernel_rfl, by kernel_rfl, by kernel_rfl⟩) rfl ?_
  repeat' (first
    | ((with_reducible refine (?_ : Alt _ _)); first | (with_reducible apply callAlt (c105 hX t x hs0 hr)) | (with_reducible refine Alt.one ?_))
    | ((with_reducible refine (?_ : AllLe _ _)); first | (first | exact AllLe.refl _ | (repeat' (first | exact trivial | apply Le.aggs | apply Le.tups | apply Le.fns | exact Le.refl _ | refine ⟨?_, ?_⟩))))
    | ((with_reducible refine (?_ : Sc _ (AllRen _ _ _))); refine Sc.of ?_; first | (repeat' (first | exact trivial | apply Le.aggs | apply Le.tups | apply Le.fns | exact Le.refl _ | refine ⟨?_, ?_⟩)))
    | ((with_reducible refine (?_ : (List.all _ _) = true)); rfl)
    | ((with_reducible refine (?_ : (and _ _) = true)); rfl)
    | ((with_reducible refine (?_ : List.Nodup _)); exact nodupB_spec rfl)
    | ((with_reducible refine (?_ : @Eq Nat _ _)); rfl)
    | ((with_reducible refine (?_ : LeOks _ _ _)); first | exact trivial | exact ⟨.refl _, trivial⟩ | exact ⟨.refl _, .refl _, trivial⟩)
    | ((fail_if_success with_reducible refine Stop.go ?_); (first | with_reducible refine And.intro ?_ ?_ | with_reducible refine Cut.go ?_ | (with_reducible (refine impI ?_; intro _)) | (with_reducible refine (?_ : footOK _ _ = true); kernel_rfl) | ((with_reducible refine propI ?_); conv => whnf))))
  all_goals try (exact .of (Nat.le_of_ble_eq_true rfl))
  all_goals try (rename_i q; exact absurd q (by decide))
  refine ⟨Nat, fun i => match i with | 0 => ([(2, .fn 109 0 (fun _ => .any)), (10, .slc0), (23, ctdL t x x.sg.length), (24, .int .i64 x.sg.length), (25, .int .i64 0)], [HObj.dead, HObj.dead, HObj.dead]) | i + 1 => ([(2, .fn 109 0 (fun _ => .any)), (10, .own 4 (i + 1)), (23, ctdL t x x.sg.length), (24, .int .i64 x.sg.length), (25, .int .i64 ((i + 1 : Nat)))], [HObj.dead, HObj.dead, HObj.dead, HObj.dead, .list 3 1 (i + 1) (fun a _ => .int .i64 (segN t x a)) (i + 1)]), fun i => i ≤ x.sg.length, fun i => x.sg.length - i, ⟨0, Nat.zero_le _, .le ⟨rfl, ⟨.dead _, .dead _, .dead _, trivial⟩, ⟨.refl _, .refl _, .refl _, .refl _, .refl _, trivial⟩⟩⟩, fun i hi => ?_⟩
  rcases i with _ | i
  · replace hi : 0 ≤ x.sg.length := hi
    repeat' (first
      | ((with_reducible refine (?_ : Alt _ _)); first | (with_reducible apply callAlt (c109 hX _ _ _ _)) | (with_reducible refine Alt.one ?_))
      | ((with_reducible refine (?_ : AllLe _ _)); first | (first | exact AllLe.refl _ | (repeat' (first | exact trivial | apply Le.aggs | apply Le.tups | apply Le.fns | exact Le.refl _ | refine ⟨?_, ?_⟩))))
      | ((with_reducible refine (?_ : Sc _ (AllRen _ _ _))); refine Sc.of ?_; first | (repeat' (first | exact trivial | apply Le.aggs | apply Le.tups | apply Le.fns | exact Le.refl _ | refine ⟨?_, ?_⟩)))
      | ((with_reducible refine (?_ : (List.all _ _) = true)); rfl)
      | ((with_reducible refine (?_ : (and _ _) = true)); rfl)
      | ((with_reducible refine (?_ : List.Nodup _)); exact nodupB_spec rfl)
      | ((with_reducible refine (?_ : @Eq Nat _ _)); rfl)
      | ((with_reducible refine (?_ : LeOks _ _ _)); first | exact trivial | exact ⟨.refl _, trivial⟩ | exact ⟨.refl _, .refl _, trivial⟩)
      | ((fail_if_success with_reducible refine Stop.go ?_); (first | with_reducible refine And.intro ?_ ?_ | with_reducible refine Cut.go ?_ | (with_reducible (refine impI ?_; intro _)) | (with_reducible refine (?_ : footOK _ _ = true); kernel_rfl) | ((with_reducible refine propI ?_); conv => whnf))))
    all_goals try (exact .of (Nat.le_of_ble_eq_true rfl))
    all_goals try (rename_i q; have q := of_decide_eq_true q; first | exact .of ⟨by omega, by omega⟩ | exact .of (by decide) | (refine Sc.of ⟨show (0 + (0 + 1)) * 8 ≤ 140737488355328 by omega, show 0 + (0 + 1) ≤ 9223372036854775807 by omega⟩))
    all_goals try (rename_i q; have q := of_decide_eq_true q; fail)
    · rename_i q; have q := of_decide_eq_true q
      refine ⟨0 + 1, by show 0 + 1 ≤ _; omega, by show x.sg.length - (0 + 1) < x.sg.length - (0); omega, .le ⟨rfl, ⟨.dead _, .dead _, .dead _, .dead _, .list (fun a j ha hj => ?_), trivial⟩, ⟨.refl _, .refl _, .refl _, .refl _, .refl _, trivial⟩⟩⟩
      replace hj : j < 1 := hj
      obtain rfl : j = 0 := by omega
      replace ha : a < 1 := by omega
      obtain rfl : a = 0 := by omega
      exact .refl _
    · rename_i q; have q := of_decide_eq_false q; have := T.pos; omega
  · replace hi : i + 1 ≤ x.sg.length := hi
    repeat' (first
      | ((with_reducible refine (?_ : Alt _ _)); first | (with_reducible apply callAlt (c109 hX _ _ _ _)) | (with_reducible refine Alt.one ?_))
      | ((with_reducible refine (?_ : AllLe _ _)); first | (first | exact AllLe.refl _ | (repeat' (first | exact trivial | apply Le.aggs | apply Le.tups | apply Le.fns | exact Le.refl _ | refine ⟨?_, ?_⟩))))
      | ((with_reducible refine (?_ : Sc _ (AllRen _ _ _))); refine Sc.of ?_; first | (repeat' (first | exact trivial | apply Le.aggs | apply Le.tups | apply Le.fns | exact Le.refl _ | refine ⟨?_, ?_⟩)))
      | ((with_reducible refine (?_ : (List.all _ _) = true)); rfl)
      | ((with_reducible refine (?_ : (and _ _) = true)); rfl)
      | ((with_reducible refine (?_ : List.Nodup _)); exact nodupB_spec rfl)
      | ((with_reducible refine (?_ : @Eq Nat _ _)); rfl)
      | ((with_reducible refine (?_ : LeOks _ _ _)); first | exact trivial | exact ⟨.refl _, trivial⟩ | exact ⟨.refl _, .refl _, trivial⟩)
      | ((fail_if_success with_reducible refine Stop.go ?_); (first | rw [beqvv (i + 1)] | rw [beqvv i] | with_reducible refine And.intro ?_ ?_ | with_reducible refine Cut.go ?_ | (with_reducible (refine impI ?_; intro _)) | (with_reducible refine (?_ : footOK _ _ = true); kernel_rfl) | ((with_reducible refine propI ?_); conv => whnf))))
    all_goals try (exact .of (Nat.le_of_ble_eq_true rfl))
    all_goals try (rename_i q; have q := of_decide_eq_true q; first | exact .of ⟨by omega, by omega⟩ | exact .of (by decide) | (refine Sc.of ⟨show ((i + 1) + (0 + 1)) * 8 ≤ 140737488355328 by omega, show (i + 1) + (0 + 1) ≤ 9223372036854775807 by omega⟩))
    all_goals try (rename_i q; have q := of_decide_eq_true q; fail)
    · rename_i q; have q := of_decide_eq_true q
      refine ⟨(i + 1) + 1, by show (i + 1) + 1 ≤ _; omega, by show x.sg.length - ((i + 1) + 1) < x.sg.length - ((i + 1)); omega, .le ⟨rfl, ⟨.dead _, .dead _, .dead _, .dead _, .list (fun a j ha hj => ?_), trivial⟩, ⟨.refl _, .refl _, .refl _, .refl _, .refl _, trivial⟩⟩⟩
      replace hj : j < 1 := hj
      obtain rfl : j = 0 := by omega
      skip
      exact Le.ofEq (push_f rfl ha)
      skip
    · rename_i q; have q := of_decide_eq_false q
      rw [show rowF (segN t x) x.sg.length = rowF (segN t x) (i + 1) from by rw [show x.sg.length = i + 1 by omega]]
      exact .mk [] [4] _ rfl (.tups ⟨⟨trivial, .own rfl fun _ _ _ _ => .refl _⟩, .le (.refl _)⟩) trivial rfl
set_option maxHeartbeats 1000000 in
theorem c102s (t : Trf) (x : Trp) (hs : Side (TOk t ∧ XOk x)) (hr : rideE t x = 0) : Mut (Xc W0 G) 102 [trfA t, trpA x, .fn 103 2 (tbl [.ptr 0 0, .ptr 1 0])] [.box [.int .i64 0], .box (trfC t)] (.tup 2 (tbl [rowF (stpF t x) x.sg.length, .int .i64 0])) [.box [.int .i64 (accP (ptX t x) x.sg.length)], .box (trfC t)] := by
  have hs0 := hs
  have hs := hs.get
  have k3 := hs.2.sg
  obtain ⟨T, hseg⟩ := ride_0 hr
  refine mut_of' hX (show FnIs (Xc W0 G) 102 Tryz.f102 (codeOf Tryz.f102) from ⟨by kernel_rfl, by kernel_rfl, by kernel_rfl, by kernel_rfl⟩) rfl ?_
  repeat' (first
    | ((with_reducible refine (?_ : Alt _ _)); first | (with_reducible apply callAlt (c105 hX t x hs0 hr)) | (with_reducible refine Alt.one ?_))
    | ((with_reducible refine (?_ : AllLe _ _)); first | (first | exact AllLe.refl _ | (repeat' (first | exact trivial | apply Le.aggs | apply Le.tups | apply Le.fns | exact Le.refl _ | refine ⟨?_, ?_⟩))))
    | ((with_reducible refine (?_ : Sc _ (AllRen _ _ _))); refine Sc.of ?_; first | (repeat' (first | exact trivial | apply Le.aggs | apply Le.tups | apply Le.fns | exact Le.refl _ | refine ⟨?_, ?_⟩)))
    | ((with_reducible refine (?_ : (List.all _ _) = true)); rfl)
    | ((with_reducible refine (?_ : (and _ _) = true)); rfl)
    | ((with_reducible refine (?_ : List.Nodup _)); exact nodupB_spec rfl)
    | ((with_reducible refine (?_ : @Eq Nat _ _)); rfl)
    | ((with_reducible refine (?_ : LeOks _ _ _)); first | exact trivial | exact ⟨.refl _, trivial⟩ | exact ⟨.refl _, .refl _, trivial⟩)
    | ((fail_if_success with_reducible refine Stop.go ?_); (first | with_reducible refine And.intro ?_ ?_ | with_reducible refine Cut.go ?_ | (with_reducible (refine impI ?_; intro _)) | (with_reducible refine (?_ : footOK _ _ = true); kernel_rfl) | ((with_reducible refine propI ?_); conv => whnf))))
  all_goals try (exact .of (Nat.le_of_ble_eq_true rfl))
  all_goals try (rename_i q; exact absurd q (by decide))
  refine ⟨Nat, fun i => match i with | 0 => ([(2, .fn 103 2 (tbl [.ptr 0 0, .ptr 1 0])), (10, .slc0), (23, ctdL t x x.sg.length), (24, .int .i64 x.sg.length), (25, .int .i64 0)], [.box [.int .i64 (accP (ptX t x) (0))], .box (trfC t), HObj.dead, HObj.dead, HObj.dead]) | i + 1 => ([(2, .fn 103 2 (tbl [.ptr 0 0, .ptr 1 0])), (10, .own 6 (i + 1)), (23, ctdL t x x.sg.length), (24, .int .i64 x.sg.length), (25, .int .i64 ((i + 1 : Nat)))], [.box [.int .i64 (accP (ptX t x) (i + 1))], .box (trfC t), HObj.dead, HObj.dead, HObj.dead, HObj.dead, .list 3 1 (i + 1) (fun a _ => .int .i64 (stpF t x a)) (i + 1)]), fun i => i ≤ x.sg.length, fun i => x.sg.length - i, ⟨0, Nat.zero_le _, .le ⟨rfl, ⟨.refl _, .refl _, .dead _, .dead _, .dead _, trivial⟩, ⟨.refl _, .refl _, .refl _, .refl _, .refl _, trivial⟩⟩⟩, fun i hi => ?_⟩
  rcases i with _ | i
  · replace hi : 0 ≤ x.sg.length := hi
    repeat' (first
      | ((with_reducible refine (?_ : Alt _ _)); first | (with_reducible (apply altM (ks := [0, 1]) (m := 0); apply And.intro; apply Sc.of; apply (c103 hX t (accP (ptX t x) (0)) (segN t x (0)) (segR t x (0)) (ptM t x (0)) (ptS t x (0)) ?_))) | (with_reducible refine Alt.one ?_))
      | ((with_reducible refine (?_ : AllLe _ _)); first | (first | exact AllLe.refl _ | (repeat' (first | exact trivial | apply Le.aggs | apply Le.tups | apply Le.fns | exact Le.refl _ | refine ⟨?_, ?_⟩))))
      | ((with_reducible refine (?_ : Sc _ (AllRen _ _ _))); refine Sc.of ?_; first | (repeat' (first | exact trivial | apply Le.aggs | apply Le.tups | apply Le.fns | exact Le.refl _ | refine ⟨?_, ?_⟩)))
      | ((with_reducible refine (?_ : (List.all _ _) = true)); rfl)
      | ((with_reducible refine (?_ : (and _ _) = true)); rfl)
      | ((with_reducible refine (?_ : List.Nodup _)); exact nodupB_spec rfl)
      | ((with_reducible refine (?_ : @Eq Nat _ _)); rfl)
      | ((with_reducible refine (?_ : LeOks _ _ _)); first | exact trivial | exact ⟨.refl _, trivial⟩ | exact ⟨.refl _, .refl _, trivial⟩)
      | ((fail_if_success with_reducible refine Stop.go ?_); (first | with_reducible refine And.intro ?_ ?_ | with_reducible refine Cut.go ?_ | (with_reducible (refine impI ?_; intro _)) | (with_reducible refine (?_ : footOK _ _ = true); kernel_rfl) | ((with_reducible refine propI ?_); conv => whnf))))
    all_goals try (exact .of (Nat.le_of_ble_eq_true rfl))
    all_goals try (rename_i q; have q := of_decide_eq_true q; first | exact .of ⟨by omega, by omega⟩ | exact .of (by decide) | (refine Sc.of ⟨show (0 + (0 + 1)) * 8 ≤ 140737488355328 by omega, show 0 + (0 + 1) ≤ 9223372036854775807 by omega⟩))
    all_goals try (rename_i q; have q := of_decide_eq_true q; (have p1 := pt_bd T (k := 0) (by omega) (hseg 0 (by omega)); have p2 := ptX_bd T (k := 0) (by omega) (hseg 0 (by omega)); have p3 := accP_bd (f := ptX t x) (n := x.sg.length) (fun k hk => ptX_bd T hk (hseg k hk)) (0) (by omega); have l60 := T.len; have u := trf_unit T.trf; exact Side.mk ⟨by omega, by omega, by omega, by omega, p2.1, Int.le_trans p2.2 (by decide)⟩))
    · rename_i q; have q := of_decide_eq_true q
      refine ⟨0 + 1, by show 0 + 1 ≤ _; omega, by show x.sg.length - (0 + 1) < x.sg.length - (0); omega, .le ⟨rfl, ⟨.refl _, .refl _, .dead _, .dead _, .dead _, .dead _, .list (fun a j ha hj => ?_), trivial⟩, ⟨.refl _, .refl _, .refl _, .refl _, .refl _, trivial⟩⟩⟩
      replace hj : j < 1 := hj
      obtain rfl : j = 0 := by omega
      replace ha : a < 1 := by omega
      obtain rfl : a = 0 := by omega
      exact .refl _
    · rename_i q; have q := of_decide_eq_false q; have := T.pos; omega
  · replace hi : i + 1 ≤ x.sg.length := hi
    repeat' (first
      | ((with_reducible refine (?_ : Alt _ _)); first | (with_reducible (apply altM (ks := [0, 1]) (m := 0); apply And.intro; apply Sc.of; apply (c103 hX t (accP (ptX t x) ((i + 1))) (segN t x ((i + 1))) (segR t x ((i + 1))) (ptM t x ((i + 1))) (ptS t x ((i + 1))) ?_))) | (with_reducible refine Alt.one ?_))
      | ((with_reducible refine (?_ : AllLe _ _)); first | (first | exact AllLe.refl _ | (repeat' (first | exact trivial | apply Le.aggs | apply Le.tups | apply Le.fns | exact Le.refl _ | refine ⟨?_, ?_⟩))))
      | ((with_reducible refine (?_ : Sc _ (AllRen _ _ _))); refine Sc.of ?_; first | (repeat' (first | exact trivial | apply Le.aggs | apply Le.tups | apply Le.fns | exact Le.refl _ | refine ⟨?_, ?_⟩)))
      | ((with_reducible refine (?_ : (List.all _ _) = true)); rfl)
      | ((with_reducible refine (?_ : (and _ _) = true)); rfl)
      | ((with_reducible refine (?_ : List.Nodup _)); exact nodupB_spec rfl)
      | ((with_reducible refine (?_ : @Eq Nat _ _)); rfl)
      | ((with_reducible refine (?_ : LeOks _ _ _)); first | exact trivial | exact ⟨.refl _, trivial⟩ | exact ⟨.refl _, .refl _, trivial⟩)
      | ((fail_if_success with_reducible refine Stop.go ?_); (first | rw [beqvv (i + 1)] | rw [beqvv i] | with_reducible refine And.intro ?_ ?_ | with_reducible refine Cut.go ?_ | (with_reducible (refine impI ?_; intro _)) | (with_reducible refine (?_ : footOK _ _ = true); kernel_rfl) | ((with_reducible refine propI ?_); conv => whnf))))
    all_goals try (exact .of (Nat.le_of_ble_eq_true rfl))
    all_goals try (rename_i q; have q := of_decide_eq_true q; first | exact .of ⟨by omega, by omega⟩ | exact .of (by decide) | (refine Sc.of ⟨show ((i + 1) + (0 + 1)) * 8 ≤ 140737488355328 by omega, show (i + 1) + (0 + 1) ≤ 9223372036854775807 by omega⟩))
    all_goals try (rename_i q; have q := of_decide_eq_true q; (have p1 := pt_bd T (k := (i + 1)) (by omega) (hseg (i + 1) (by omega)); have p2 := ptX_bd T (k := (i + 1)) (by omega) (hseg (i + 1) (by omega)); have p3 := accP_bd (f := ptX t x) (n := x.sg.length) (fun k hk => ptX_bd T hk (hseg k hk)) ((i + 1)) (by omega); have l60 := T.len; have u := trf_unit T.trf; exact Side.mk ⟨by omega, by omega, by omega, by omega, p2.1, Int.le_trans p2.2 (by decide)⟩))
    · rename_i q; have q := of_decide_eq_true q
      refine ⟨(i + 1) + 1, by show (i + 1) + 1 ≤ _; omega, by show x.sg.length - ((i + 1) + 1) < x.sg.length - ((i + 1)); omega, .le ⟨rfl, ⟨.refl _, .refl _, .dead _, .dead _, .dead _, .dead _, .list (fun a j ha hj => ?_), trivial⟩, ⟨.refl _, .refl _, .refl _, .refl _, .refl _, trivial⟩⟩⟩
      replace hj : j < 1 := hj
      obtain rfl : j = 0 := by omega
      skip
      exact Le.ofEq (push_f rfl ha)
      skip
    · rename_i q; have q := of_decide_eq_false q
      rw [show rowF (stpF t x) x.sg.length = rowF (stpF t x) (i + 1) from by rw [show x.sg.length = i + 1 by omega]]
      exact .mk [] [6] _ rfl (.tups ⟨⟨trivial, .own rfl fun _ _ _ _ => .refl _⟩, .le (.refl _)⟩) ⟨.le (by rw [show x.sg.length = i + 1 by omega]; exact .refl _), .le (.refl _), trivial⟩ rfl
end
end Go.Fx
