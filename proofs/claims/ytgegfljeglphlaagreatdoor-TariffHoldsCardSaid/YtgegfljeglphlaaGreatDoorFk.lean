/-
  The reference's NextChange; the body of TariffHolds.
-/
import Derived.Test.YtgegfljeglphlaaGreatDoorFu
import Derived.Test.YtgegfljeglphlaaGreatDoorFf

set_option linter.all false

/-
  The reference's NextChange.
-/
namespace Go.Fx
open Go.Proofs Go.RowKit

theorem rR_1 {t : Trf} {p : Plc} {d i : Nat} (h : (bif p.m.d + (d : Int) == p.m.d then decide ((timesL t).getD (i : Int).toNat 0 ≤ p.m.s) else false) = false) {b : Bool} (h2 : (bif oneN (holdI t (nxtC t p d i) t.rules.length) != oneN (holdI t p t.rules.length) then true else oneE (holdI t (nxtC t p d i) t.rules.length) != oneE (holdI t p t.rules.length)) = b) : nxtP t p d i = b := by
  unfold nxtP nxtS; simp only [Int.toNat_natCast] at h; rw [h, ← h2]
  show (!nxtD t p d i) = _
  unfold nxtD nowN nowE
  by_cases a : oneN (holdI t (nxtC t p d i) t.rules.length) = oneN (holdI t p t.rules.length) <;> by_cases b : oneE (holdI t (nxtC t p d i) t.rules.length) = oneE (holdI t p t.rules.length) <;> simp [a, b, bne]
section
variable {W0 : World} {G : Nat → Option AV} (hX : (Xc W0 G).Good)
include hX
set_option maxHeartbeats 1000000 in
theorem c23 (t : Trf) (p : Plc) (hs : Side (TOk t ∧ gateE t p = 0)) : Pure (Xc W0 G) 23 [trfA t, plcA p] (.tup 2 (tbl [momA (chM t p), .bool (decide (chE t p = 0))])) := by
  have tk := hs.get.1
  have hg := hs.get.2
  have ht := (gate_ok.1 hg).1
  have bm := mom_bd (gate_ok.1 hg).2.2
  have hk : Side (HOk t) := Side.mk ⟨tk, trf_sort ht⟩
  have tl := times_len ht
  have ld := lastD_bd p
  refine mut_of' hX (show FnIs (Xc W0 G) 23 Tryz.f23 (codeOf Tryz.f23) from ⟨by kernel_rfl, by kernel_rfl, by kernel_rfl, by kernel_rfl⟩) rfl ?_
  repeat' (first
    | ((with_reducible refine (?_ : Alt _ _)); first | (with_reducible apply callAlt (c22 hX t p hk)) | (with_reducible apply callAlt (c97 hX t (Side.mk ⟨tk, ht⟩))) | (with_reducible refine Alt.one ?_))
    | ((with_reducible refine (?_ : AllLe _ _)); first | (first | exact AllLe.refl _ | (repeat' (first | exact trivial | apply Le.aggs | apply Le.tups | apply Le.fns | exact Le.refl _ | refine ⟨?_, ?_⟩))))
    | ((with_reducible refine (?_ : Sc _ (AllRen _ _ _))); refine Sc.of ?_; first | (repeat' (first | exact trivial | apply Le.aggs | apply Le.tups | apply Le.fns | exact Le.refl _ | refine ⟨?_, ?_⟩)))
    | ((with_reducible refine (?_ : (List.all _ _) = true)); rfl)
    | ((with_reducible refine (?_ : (and _ _) = true)); rfl)
    | ((with_reducible refine (?_ : List.Nodup _)); exact nodupB_spec rfl)
    | ((with_reducible refine (?_ : @Eq Nat _ _)); rfl)
    | ((with_reducible refine (?_ : LeOks _ _ _)); first | exact trivial | exact ⟨.refl _, trivial⟩ | exact ⟨.refl _, .refl _, trivial⟩)
    | ((fail_if_success with_reducible refine (?_ : False)); (fail_if_success with_reducible refine (?_ : Nat)); (fail_if_success with_reducible refine (?_ : Nat → Nat → AV)); (fail_if_success with_reducible refine (?_ : Sc _ _)); (fail_if_success with_reducible refine (?_ : Side _)); (fail_if_success with_reducible refine (?_ : Exists _)); (fail_if_success with_reducible refine (?_ : Ends _ _ _ _ _ _ _)); (fail_if_success with_reducible refine (?_ : Alt _ _)); (fail_if_success with_reducible refine (?_ : Le _ _)); (fail_if_success with_reducible refine (?_ : LeAll _ _ _)); (first | with_reducible refine And.intro ?_ ?_ | with_reducible refine Cut.go ?_ | (with_reducible (refine impI ?_; intro _)) | (with_reducible refine (?_ : footOK _ _ = true); kernel_rfl) | ((with_reducible refine propI ?_); conv => whnf))))
  all_goals try (exact .of (Nat.le_of_ble_eq_true rfl))
  refine ⟨Nat, fun d => ([(2, .ptr 0 0), (3, .ptr 1 0), (4, .ptr 2 0), (6, .int .i64 (nowN t p)), (7, .int .i64 (nowE t p)), (8, (iRow (timesL t))), (9, .int .i64 (p.m.d + d))], [.box (trfC t), .box (plcC p), .box [.int .i64 0, .int .i64 0]]), fun d => d ≤ nxtN p ∧ ∀ d', d' < d → decide (0 ≤ nxtI t p d') = false, fun d => nxtN p - d, ⟨0, ⟨Nat.zero_le _, fun _ h => by omega⟩, .le ⟨rfl, ⟨.refl _, .refl _, .refl _, trivial⟩, ⟨.refl _, .refl _, .refl _, .refl _, .refl _, .refl _, .intI (by simp), trivial⟩⟩⟩, fun d ⟨hd, h0⟩ => ?_⟩
  repeat' (first
    | ((with_reducible refine (?_ : Alt _ _)); first | fail | (with_reducible refine Alt.one ?_))
    | ((with_reducible refine (?_ : AllLe _ _)); first | (first | exact AllLe.refl _ | (repeat' (first | exact trivial | apply Le.aggs | apply Le.tups | apply Le.fns | exact Le.refl _ | refine ⟨?_, ?_⟩))))
    | ((with_reducible refine (?_ : Sc _ (AllRen _ _ _))); refine Sc.of ?_; first | (repeat' (first | exact trivial | apply Le.aggs | apply Le.tups | apply Le.fns | exact Le.refl _ | refine ⟨?_, ?_⟩)))
    | ((with_reducible refine (?_ : (List.all _ _) = true)); rfl)
    | ((with_reducible refine (?_ : (and _ _) = true)); rfl)
    | ((with_reducible refine (?_ : List.Nodup _)); exact nodupB_spec rfl)
    | ((with_reducible refine (?_ : @Eq Nat _ _)); rfl)
    | ((with_reducible refine (?_ : LeOks _ _ _)); first | exact trivial | exact ⟨.refl _, trivial⟩ | exact ⟨.refl _, .refl _, trivial⟩)
    | ((fail_if_success with_reducible refine (?_ : False)); (fail_if_success with_reducible refine (?_ : Nat)); (fail_if_success with_reducible refine (?_ : Nat → Nat → AV)); (fail_if_success with_reducible refine (?_ : Sc _ _)); (fail_if_success with_reducible refine (?_ : Side _)); (fail_if_success with_reducible refine (?_ : Exists _)); (fail_if_success with_reducible refine (?_ : Ends _ _ _ _ _ _ _)); (fail_if_success with_reducible refine (?_ : Alt _ _)); (fail_if_success with_reducible refine (?_ : Le _ _)); (fail_if_success with_reducible refine (?_ : LeAll _ _ _)); (first | with_reducible refine And.intro ?_ ?_ | with_reducible refine Cut.go ?_ | (with_reducible (refine impI ?_; intro _)) | (with_reducible refine (?_ : footOK _ _ = true); kernel_rfl) | ((with_reducible refine propI ?_); conv => whnf))))
  all_goals try (exact .of (Nat.le_of_ble_eq_true rfl))
  all_goals try (exact .of ⟨by omega, by omega⟩)
  all_goals (rename_i q; rw [last_min] at q)
  · have q := of_decide_eq_true q
    have hdn : d < nxtN p := nxtN_lt.2 q
    refine ⟨Nat, fun i => ([(2, .ptr 0 0), (3, .ptr 1 0), (4, .ptr 2 0), (6, .int .i64 (nowN t p)), (7, .int .i64 (nowE t p)), (8, (iRow (timesL t))), (9, .int .i64 (p.m.d + d)), (10, .int .i64 i)], [.box (trfC t), .box (plcC p), .box [.int .i64 0, .int .i64 0]]), fun i => i ≤ (timesL t).length ∧ ∀ j, j < i → nxtP t p d j = false, fun i => (timesL t).length - i, ⟨0, ⟨Nat.zero_le _, fun _ h => by omega⟩, .le ⟨rfl, ⟨.refl _, .refl _, .refl _, trivial⟩, ⟨.refl _, .refl _, .refl _, .refl _, .refl _, .refl _, .refl _, .refl _, trivial⟩⟩⟩, fun i ⟨hi, h1⟩ => ?_⟩
    repeat' (first
      | ((with_reducible refine (?_ : Alt _ _)); first | ((with_reducible apply callAlt (c22 hX t (nxtC t p d i) hk)); case hl => (first | exact AllLe.refl _ | ((repeat' (first | exact trivial | apply Le.aggs | apply Le.tups | apply Le.fns | exact Le.refl _ | refine ⟨?_, ?_⟩)); done))) | (with_reducible refine Alt.one ?_))
      | ((with_reducible refine (?_ : AllLe _ _)); first | (first | exact AllLe.refl _ | (repeat' (first | exact trivial | apply Le.aggs | apply Le.tups | apply Le.fns | exact Le.refl _ | refine ⟨?_, ?_⟩))))
      | ((with_reducible refine (?_ : Sc _ (AllRen _ _ _))); refine Sc.of ?_; first | (repeat' (first | exact trivial | apply Le.aggs | apply Le.tups | apply Le.fns | exact Le.refl _ | refine ⟨?_, ?_⟩)))
      | ((with_reducible refine (?_ : (List.all _ _) = true)); rfl)
      | ((with_reducible refine (?_ : (and _ _) = true)); rfl)
      | ((with_reducible refine (?_ : List.Nodup _)); exact nodupB_spec rfl)
      | ((with_reducible refine (?_ : @Eq Nat _ _)); rfl)
      | ((with_reducible refine (?_ : LeOks _ _ _)); first | exact trivial | exact ⟨.refl _, trivial⟩ | exact ⟨.refl _, .refl _, trivial⟩)
      | ((fail_if_success with_reducible refine (?_ : False)); (fail_if_success with_reducible refine (?_ : Nat)); (fail_if_success with_reducible refine (?_ : Nat → Nat → AV)); (fail_if_success with_reducible refine (?_ : Sc _ _)); (fail_if_success with_reducible refine (?_ : Side _)); (fail_if_success with_reducible refine (?_ : Exists _)); (fail_if_success with_reducible refine (?_ : Ends _ _ _ _ _ _ _)); (fail_if_success with_reducible refine (?_ : Alt _ _)); (fail_if_success with_reducible refine (?_ : Le _ _)); (fail_if_success with_reducible refine (?_ : LeAll _ _ _)); (first | with_reducible refine And.intro ?_ ?_ | with_reducible refine Cut.go ?_ | (with_reducible (refine impI ?_; intro _)) | (with_reducible refine (?_ : footOK _ _ = true); kernel_rfl) | ((with_reducible refine propI ?_); conv => whnf))))
    all_goals try (exact .of (Nat.le_of_ble_eq_true rfl))
    all_goals try (first | exact Sc.imp fun _ => ⟨by omega, by omega⟩ | (rename_i q; have q := of_decide_eq_true q; exact .of ⟨by omega, by omega⟩) | (rename_i q q2; have q := of_decide_eq_true q; exact .of ⟨by omega, by omega⟩) | (rename_i q q2 q3; have q := of_decide_eq_true q; exact .of ⟨by omega, by omega⟩) | (rename_i q; have q := of_decide_eq_true q; exact Sc.imp fun _ => ⟨by omega, by omega⟩) | exact .of ⟨by omega, by omega⟩)
    · rename_i q qs; have q := of_decide_eq_true q; exact ⟨i + 1, ⟨by omega, all_lt h1 (nxt_s qs)⟩, by show (timesL t).length - (i + 1) < (timesL t).length - i; omega, .le ⟨rfl, ⟨.refl _, .refl _, .refl _, trivial⟩, ⟨.refl _, .refl _, .refl _, .refl _, .refl _, .refl _, .refl _, .refl _, trivial⟩⟩⟩
    · rename_i q qs qd; have q := of_decide_eq_true q
      have w := ch_hit hg hdn (show i < (timesL t).length by omega) h0 h1 (rR_1 qs qd)
      exact .mk [] [] _ rfl (.le (.tups ⟨⟨trivial, by rw [w.2]; exact .aggs ⟨⟨trivial, .refl _⟩, .refl _⟩⟩, .boolT (by rw [w.1]; rfl)⟩)) trivial rfl
    · rename_i q qs qd; have q := of_decide_eq_true q; exact ⟨i + 1, ⟨by omega, all_lt h1 (rR_1 qs qd)⟩, by show (timesL t).length - (i + 1) < (timesL t).length - i; omega, .le ⟨rfl, ⟨.refl _, .refl _, .refl _, trivial⟩, ⟨.refl _, .refl _, .refl _, .refl _, .refl _, .refl _, .refl _, .refl _, trivial⟩⟩⟩
    · rename_i qe; have qe := of_decide_eq_false qe
      refine ⟨d + 1, ⟨by omega, all_lt h0 (find_neg fun j hj => h1 j (by omega))⟩, by show nxtN p - (d + 1) < nxtN p - d; omega, .le ⟨rfl, ⟨.refl _, .refl _, .refl _, trivial⟩, ⟨.refl _, .refl _, .refl _, .refl _, .refl _, .refl _, .intI (by omega), trivial⟩⟩⟩
  · have q := of_decide_eq_false q
    have w := ch_none hg (fun d' hd' => h0 d' (by have := nxtN_lt.1 hd'; omega))
    exact .mk [] [] _ rfl (.le (.tups ⟨⟨trivial, by rw [w.2]; exact .aggs ⟨⟨trivial, .refl _⟩, .refl _⟩⟩, .boolT (by rw [w.1]; rfl)⟩)) trivial rfl
end
end Go.Fx

/-
  The body of TariffHolds.
-/
namespace Go.Fx
open Go.Proofs Go.RowKit
theorem gE_t {t : Trf} {p : Plc} (h : trfE t ≠ 0) : gateE t p = trfE t := by unfold gateE; simp [firstS, h]
theorem gE_p {t : Trf} {p : Plc} (h : trfE t = 0) : gateE t p = placeE t p := by
  unfold gateE; by_cases z : placeE t p = 0 <;> simp [firstS, h, z]
theorem eqz {a : Int} (h : (a == 0) = false) (h2 : (a != 0) = false) : False := by have := bne1 h2; subst this; exact absurd h (by decide)
theorem chM_e {t : Trf} {p : Plc} (h : chE t p ≠ 0) : chM t p = ⟨0, 0⟩ := by unfold chM; rw [decide_eq_false h]; rfl
section
variable {W0 : World} (hX : (Xc W0 Gt).Good) (haw : Pure (Xc W0 Gt) 13 [] (.bool true))
include hX haw
theorem c4 (t : Trf) (p : Plc) : Pure (Xc W0 Gt) 4 [trfA t, plcA p] (.bool true) := by
  refine mut_of' hX (show FnIs (Xc W0 Gt) 4 Tryz.f4 (codeOf Tryz.f4) from ⟨by kernel_rfl, by kernel_rfl, by kernel_rfl, by kernel_rfl⟩) rfl ?_
  repeat' (first
    | ((with_reducible refine (?_ : Alt _ _)); first | (with_reducible apply callAlt (haw)) | (with_reducible apply callAlt (c14 hX t)) | (with_reducible apply callAlt (c16 hX t ?_)) | (with_reducible apply callAlt (c18 hX t p ?_)) | (with_reducible apply callAlt (c19 hX t p ?_)) | (with_reducible apply callAlt (c20 hX t ?_)) | (with_reducible apply callAlt (c21 hX t p ?_)) | (with_reducible apply callAlt (c22 hX t p ?_)) | (with_reducible apply callAlt (c23 hX t p ?_)) | (with_reducible refine Alt.one ?_))
    | ((with_reducible refine (?_ : AllLe _ _)); first | (first | exact AllLe.refl _ | (repeat' (first | exact trivial | apply Le.aggs | apply Le.tups | apply Le.fns | exact Le.refl _ | refine ⟨?_, ?_⟩))))
    | ((with_reducible refine (?_ : Sc _ (AllRen _ _ _))); refine Sc.of ?_; first | (repeat' (first | exact trivial | apply Le.aggs | apply Le.tups | apply Le.fns | exact Le.refl _ | refine ⟨?_, ?_⟩)))
    | ((with_reducible refine (?_ : (List.all _ _) = true)); rfl)
    | ((with_reducible refine (?_ : (and _ _) = true)); rfl)
    | ((with_reducible refine (?_ : List.Nodup _)); exact nodupB_spec rfl)
    | ((with_reducible refine (?_ : @Eq Nat _ _)); rfl)
    | ((with_reducible refine (?_ : LeOks _ _ _)); first | exact trivial | exact ⟨.refl _, trivial⟩ | exact ⟨.refl _, .refl _, trivial⟩)
    | ((fail_if_success with_reducible refine (?_ : False)); (fail_if_success with_reducible refine (?_ : Nat)); (fail_if_success with_reducible refine (?_ : Nat → Nat → AV)); (fail_if_success with_reducible refine (?_ : Sc _ _)); (fail_if_success with_reducible refine (?_ : Side _)); (fail_if_success with_reducible refine (?_ : Exists _)); (fail_if_success with_reducible refine (?_ : Ends _ _ _ _ _ _ _)); (fail_if_success with_reducible refine (?_ : Alt _ _)); (fail_if_success with_reducible refine (?_ : Le _ _)); (fail_if_success with_reducible refine (?_ : LeAll _ _ _)); (first | with_reducible refine And.intro ?_ ?_ | with_reducible refine Cut.go ?_ | (with_reducible (refine impI ?_; intro _)) | (with_reducible refine (?_ : footOK _ _ = true); kernel_rfl) | ((with_reducible refine propI ?_); conv => whnf))))
  all_goals try (exact .of (Nat.le_of_ble_eq_true rfl))
  all_goals try (rename_i h; first | exact absurd h (by decide) | (cases h; done))
  all_goals try (exact Side.mk (few_ok (not_f (by assumption))).1)
  all_goals try (exact Side.mk (few_ok (not_f (by assumption))).1.zones)
  all_goals try (exfalso; have z1 : (trfE t == 0) = false := by assumption; have z2 : (trfE t != 0) = false := by assumption; exact eqz z1 z2)
  · exact .mk [] [] _ rfl (.le (.refl _)) trivial rfl
  · rename_i a0 a1 a2 a3
    have e := gE_p (p := p) (eq_of_beq a2)
    have hne : gateE t p ≠ 0 := by rw [e]; exact bne0 a3
    have r := ruleAt_e hne; have c := ch_gate hne
    exact .mk [] [] _ rfl (.le (.boolT (by rw [r.1, r.2, c.1, c.2, e]; simp))) trivial rfl
  · rename_i a0 a1 a2 a3 a4
    have e := gE_p (p := p) (eq_of_beq a2)
    have g : gateE t p = 0 := by rw [e]; exact bne1 a3
    have r := ruleAt_0 g
    rw [r.1, r.2] at a4; exact absurd a4 (by simp)
  · rename_i a0 a1 a2 a3 a4
    have e := gE_p (p := p) (eq_of_beq a2)
    have g : gateE t p = 0 := by rw [e]; exact bne1 a3
    rcases ch_cases g with ⟨h, _⟩ | ⟨h, _⟩
    · exact .mk [] [] _ rfl (.le (.boolT (by simp [h]))) trivial rfl
    · have hm := chM_e (t := t) (p := p) (by rw [h]; decide)
      exact .mk [] [] _ rfl (.le (.boolT (by simp [h, hm]))) trivial rfl
  · rename_i a0 a1 a2 a3 a4
    exact Side.mk ⟨(few_ok (not_f a1)).1, by rw [gE_p (eq_of_beq a2)]; exact bne1 a3⟩
  · rename_i a0 a1 a2 a3
    exact Side.mk ⟨(few_ok (not_f a1)).1, trf_sort (eq_of_beq a2)⟩
  · rename_i a0 a1 a2 a3
    have e := gE_t (p := p) (bne0 a3)
    have hne : gateE t p ≠ 0 := by rw [e]; exact bne0 a3
    have r := ruleAt_e hne; have c := ch_gate hne
    exact .mk [] [] _ rfl (.le (.boolT (by rw [r.1, r.2, c.1, c.2, e]; simp))) trivial rfl
  all_goals first | (rename_i a2 a3; exact (eqz a2 a3).elim) | (rename_i a2 a3 a4; exact (eqz a2 a3).elim)
end
end Go.Fx
