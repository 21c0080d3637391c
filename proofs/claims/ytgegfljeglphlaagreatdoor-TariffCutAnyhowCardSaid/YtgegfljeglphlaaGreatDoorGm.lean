/-
  The body of TariffCutAnyhow.
-/
import Derived.Test.YtgegfljeglphlaaGreatDoorGv
import Derived.Test.YtgegfljeglphlaaGreatDoorGk
import Derived.Test.YtgegfljeglphlaaGreatDoorGf

set_option linter.all false

/-
  Where to cut, and that a trip's numbers are 64-bit numbers, read off the row's data.
-/
namespace Go.Fx
open Go.Proofs

section
variable {H : Type}
theorem kni_arg (d : DataW H) : argAV Tt 6 111 d = .agg 3 (tbl [.int .i64 (dI (dN d 0)), .int .i64 (dI (dN d 1)), .int .i64 (dI (dN d 2))]) := by kernel_rfl
theorem trp_in (d : DataW H) (j : Nat) : inK .i64 (sgx (trpOf d) j).me ∧ inK .i64 (sgx (trpOf d) j).se := by
  have e : sgx (trpOf d) j = ((dE (dN d 3)).map segOf).getD j seg0 := rfl
  rw [e]
  rcases Nat.lt_or_ge j (dE (dN d 3)).length with h | h
  · rw [getD_map segOf _ j .nil seg0 h]
    exact ⟨dI_in _, dI_in _⟩
  · rw [List.getD_eq_getElem?_getD, List.getElem?_eq_none (by simpa using h)]
    exact ⟨⟨by decide, by decide⟩, by decide, by decide⟩
end
end Go.Fx

/-
  The body of TariffCutAnyhow.
-/
namespace Go.Fx
open Go.Proofs Go.RowKit
theorem cut_s {t : Trf} {x : Trp} (h : (bif !fewB t then true else !shortB x) = false) : XOk x := by
  cases hf : fewB t
  · rw [hf] at h; cases h
  · cases hx : shortB x
    · rw [hf, hx] at h; cases h
    · exact short_ok hx
theorem cut_g {t : Trf} {x : Trp} {b : Bool} (h : (bif (bif !fewB t then true else !shortB x) then true else !b) = false) : TOk t ∧ XOk x ∧ b = true := by
  cases hf : fewB t
  · rw [hf] at h; cases h
  cases hx : shortB x
  · rw [hf, hx] at h; cases h
  · rw [hf, hx] at h; exact ⟨(few_ok hf).1, short_ok hx, by cases b; cases h; rfl⟩
section
variable {W0 : World} (hX : (Xc W0 Gt).Good) (haw : Pure (Xc W0 Gt) 13 [] (.bool true))
include hX haw
set_option maxRecDepth 10000 in
set_option maxHeartbeats 1000000 in
theorem c12m (t : Trf) (x : Trp) (k : Nat) (a b : Int) (hk : k < x.sg.length) (hB : inK .i64 (sgx x k).me ∧ inK .i64 (sgx x k).se) (hr : rideE t x = 0) (hE : cutE x k a b = 0) (hy : rideE t (cutX x k a b) = 0) : Pure (Xc W0 Gt) 12 [trfA t, trpA x, .agg 3 (tbl [.int .i64 (k : Int), .int .i64 a, .int .i64 b])] (.bool true) := by
  have I := cut_I hr hk hE
  have T := I.T
  have Ty := (ride_0 hy).1
  have L := cut_len x k a b
  have l60 := T.len
  have rl := rules_len T.trf
  have e0 : (k : Int).toNat = k := Int.toNat_natCast k
  have e1 : ((k : Int) + 1).toNat = k + 1 := by omega
  have e2 : (((cutX x k a b).sg.length : Int) - 1).toNat = x.sg.length := by rw [L]; omega
  have e3 : ((x.sg.length : Int) - 1).toNat = x.sg.length - 1 := by omega
  have sb := segN_bd ((ride_0 hr).2 k hk)
  have q0 := seg_of (I.H_lo (Nat.le_refl k)) t
  have pM0 : (t.rules.getD (segN t x k).toNat rul0).me * ((cutX x k a b).sg.getD k seg0).me = ptM t (cutX x k a b) k := by unfold ptM; rw [q0.2.2]; rfl
  have pS0 : (t.rules.getD (segN t x k).toNat rul0).se * ((cutX x k a b).sg.getD k seg0).se = ptS t (cutX x k a b) k := by unfold ptS; rw [q0.2.2]; rfl
  have b0 := pt_bd Ty (k := k) (by rw [L]; omega) ((ride_0 hy).2 k (by rw [L]; omega))
  have b1 := pt_bd Ty (k := k + 1) (by rw [L]; omega) ((ride_0 hy).2 (k + 1) (by rw [L]; omega))
  refine mut_of' hX (show FnIs (Xc W0 Gt) 12 Tryz.f12 (codeOf Tryz.f12) from ⟨by kernel_rfl, by kernel_rfl, by kernel_rfl, by kernel_rfl⟩) rfl ?_
  repeat' (first
    | ((with_reducible refine (?_ : Alt _ _)); first | (with_reducible apply callAlt (haw)) | (with_reducible apply callAlt (c14 hX t)) | (with_reducible apply callAlt (c16 hX t ?_)) | (with_reducible apply callAlt (c29 hX x)) | ((with_reducible apply callAlt (c31 hX x ?_)); case hl => (first | exact AllLe.refl _ | ((repeat' (first | exact trivial | apply Le.aggs | apply Le.tups | apply Le.fns | exact Le.refl _ | refine ⟨?_, ?_⟩)); done))) | (with_reducible apply callAlt (c27 hX _ _ _)) | ((with_reducible apply callAlt (c30 hX t x ?_ hr)); case hl => (first | exact AllLe.refl _ | ((repeat' (first | exact trivial | apply Le.aggs | apply Le.tups | apply Le.fns | exact Le.refl _ | refine ⟨?_, ?_⟩)); done))) | ((with_reducible apply callAlt (c38 hX t x ?_ hr)); case hl => (first | exact AllLe.refl _ | ((repeat' (first | exact trivial | apply Le.aggs | apply Le.tups | apply Le.fns | exact Le.refl _ | refine ⟨?_, ?_⟩)); done))) | (with_reducible apply callAlt (c54 hX x k a b ?_ hk hB hE)) | ((with_reducible apply callAlt (c31 hX (cutX x k a b) ?_)); case hl => (first | exact AllLe.refl _ | ((repeat' (first | exact trivial | apply Le.aggs | apply Le.tups | apply Le.fns | exact Le.refl _ | refine ⟨?_, ?_⟩)); done))) | ((with_reducible apply callAlt (c30 hX t (cutX x k a b) ?_ hy)); case hl => (first | exact AllLe.refl _ | ((repeat' (first | exact trivial | apply Le.aggs | apply Le.tups | apply Le.fns | exact Le.refl _ | refine ⟨?_, ?_⟩)); done))) | ((with_reducible apply callAlt (c38 hX t (cutX x k a b) ?_ hy)); case hl => (first | exact AllLe.refl _ | ((repeat' (first | exact trivial | apply Le.aggs | apply Le.tups | apply Le.fns | exact Le.refl _ | refine ⟨?_, ?_⟩)); done))) | ((with_reducible apply callAlt (c33 hX t x ?_ hr)); case hl => (first | exact AllLe.refl _ | ((repeat' (first | exact trivial | apply Le.aggs | apply Le.tups | apply Le.fns | exact Le.refl _ | refine ⟨?_, ?_⟩)); done))) | ((with_reducible apply callAlt (c32 hX t (cutX x k a b) ?_ hy)); case hl => (first | exact AllLe.refl _ | ((repeat' (first | exact trivial | apply Le.aggs | apply Le.tups | apply Le.fns | exact Le.refl _ | refine ⟨?_, ?_⟩)); done))) | (with_reducible refine Alt.one ?_))
    | ((with_reducible refine (?_ : AllLe _ _)); first | (first | exact AllLe.refl _ | (repeat' (first | exact trivial | apply Le.aggs | apply Le.tups | apply Le.fns | exact Le.refl _ | refine ⟨?_, ?_⟩))))
    | ((with_reducible refine (?_ : Sc _ (AllRen _ _ _))); refine Sc.of ?_; first | (repeat' (first | exact trivial | apply Le.aggs | apply Le.tups | apply Le.fns | exact Le.refl _ | refine ⟨?_, ?_⟩)))
    | ((with_reducible refine (?_ : (List.all _ _) = true)); rfl)
    | ((with_reducible refine (?_ : (and _ _) = true)); rfl)
    | ((with_reducible refine (?_ : List.Nodup _)); exact nodupB_spec rfl)
    | ((with_reducible refine (?_ : @Eq Nat _ _)); rfl)
    | ((with_reducible refine (?_ : LeOks _ _ _)); first | exact trivial | exact ⟨.refl _, trivial⟩ | exact ⟨.refl _, .refl _, trivial⟩)
    | ((fail_if_success with_reducible refine Stop.go ?_); (first | with_reducible refine And.intro ?_ ?_ | with_reducible refine Cut.go ?_ | (with_reducible (refine impI ?_; intro _)) | (with_reducible refine (?_ : footOK _ _ = true); kernel_rfl) | ((with_reducible refine propI ?_); conv => whnf))))
  all_goals try (exact .of (Nat.le_of_ble_eq_true rfl))
  all_goals try (rename_i h; first | exact absurd h (by decide) | (cases h; done))
  all_goals try (exact .of (by decide))
  all_goals try (exact Sc.imp fun _ => (by decide))
  all_goals try (exact Sc.imp fun v => (by have g := (cut_s v).sg; exact ⟨by omega, by omega⟩))
  all_goals try (exact .of ⟨by omega, by omega⟩)
  all_goals try ((with_reducible refine (?_ : Side _)); first | exact Side.mk (few_ok (not_f (by assumption))).1 | (have g := cut_g ‹(bif (bif !fewB t then true else !shortB x) then true else !inB (k : Int) 0 ((x.sg.length : Int) - 1)) = false›; exact Side.mk (by first | exact g.1 | exact g.2.1 | exact ⟨g.1, g.2.1⟩ | exact ⟨g.1, cut_xok g.2.1 _ _ _⟩ | exact cut_xok g.2.1 _ _ _)))
  all_goals try (exact .mk [] [] _ rfl (.le (.refl _)) trivial rfl)
  all_goals try (exfalso; rename_i v; simp [L] at v; done)
  all_goals try (exact .of (by rw [L]; exact ⟨by omega, by omega⟩))
  all_goals try (exfalso; rename_i v; rw [e0, q0.2.1] at v; simp at v; done)
  all_goals try (exact .of (by rw [e0]; exact ⟨sb.1, sb.2.1⟩))
  all_goals have s := ‹(segN t (cutX x k a b) ((k : Int) + 1).toNat != segN t x (k : Int).toNat) = false›
  all_goals rw [e0, e1] at s
  all_goals have same := bne_eq_false_iff_eq.1 s
  all_goals have RR : CutR t x k a b := ⟨I, hy, same⟩
  all_goals have pM1 : (t.rules.getD (segN t x k).toNat rul0).me * ((cutX x k a b).sg.getD (k + 1) seg0).me = ptM t (cutX x k a b) (k + 1) := by (unfold ptM segR; rw [same])
  all_goals have pS1 : (t.rules.getD (segN t x k).toNat rul0).se * ((cutX x k a b).sg.getD (k + 1) seg0).se = ptS t (cutX x k a b) (k + 1) := by (unfold ptS segR; rw [same])
  all_goals try (exact .of (by rw [e0, pM0]; exact ⟨by omega, by omega⟩))
  all_goals try (exact .of (by rw [e0, pS0]; exact ⟨by omega, by omega⟩))
  all_goals try (exact Sc.imp fun _ => (by rw [e0, e1, pM1]; exact ⟨by omega, by omega⟩))
  all_goals try (exact Sc.imp fun _ => (by rw [e0, e1, pS1]; exact ⟨by omega, by omega⟩))
  all_goals try (exact Sc.imp fun _ => (by rw [L]; exact ⟨by omega, by omega⟩))
  all_goals try (have g := ‹(rngE t x x != 0) = true›; exact .mk [] [] _ rfl (.le (.boolT (I.l2 (bne_iff_ne.1 g)))) trivial rfl)
  all_goals try (have g := ‹(rngE t x x != 0) = false›; exact .mk [] [] _ rfl (.le (.boolT (RR.l3 (bne_eq_false_iff_eq.1 g)))) trivial rfl)
  · rename_i v; exfalso
    have u := RR.last
    rw [e0, e2, e3, inB_iff.2 ⟨sb.1, by omega⟩, decide_eq_false (by omega)] at v; cases v
  · rename_i v; exfalso
    rw [e0, e1, e2, e3, pM0, pS0, pM1, pS1] at v; exact RR.l1 v
set_option maxRecDepth 10000 in
set_option maxHeartbeats 1000000 in
theorem c12y (t : Trf) (x : Trp) (k : Nat) (a b : Int) (hk : k < x.sg.length) (hB : inK .i64 (sgx x k).me ∧ inK .i64 (sgx x k).se) (hr : rideE t x = 0) (hE : cutE x k a b = 0) (hy : rideE t (cutX x k a b) ≠ 0) : Pure (Xc W0 Gt) 12 [trfA t, trpA x, .agg 3 (tbl [.int .i64 (k : Int), .int .i64 a, .int .i64 b])] (.bool true) := by
  have I := cut_I hr hk hE
  have L := cut_len x k a b
  have T := I.T
  have l60 := T.len
  have er := I.err hy
  refine mut_of' hX (show FnIs (Xc W0 Gt) 12 Tryz.f12 (codeOf Tryz.f12) from ⟨by kernel_rfl, by kernel_rfl, by kernel_rfl, by kernel_rfl⟩) rfl ?_
  repeat' (first
    | ((with_reducible refine (?_ : Alt _ _)); first | (with_reducible apply callAlt (haw)) | (with_reducible apply callAlt (c14 hX t)) | (with_reducible apply callAlt (c16 hX t ?_)) | (with_reducible apply callAlt (c29 hX x)) | ((with_reducible apply callAlt (c31 hX x ?_)); case hl => (first | exact AllLe.refl _ | ((repeat' (first | exact trivial | apply Le.aggs | apply Le.tups | apply Le.fns | exact Le.refl _ | refine ⟨?_, ?_⟩)); done))) | (with_reducible apply callAlt (c27 hX _ _ _)) | ((with_reducible apply callAlt (c30 hX t x ?_ hr)); case hl => (first | exact AllLe.refl _ | ((repeat' (first | exact trivial | apply Le.aggs | apply Le.tups | apply Le.fns | exact Le.refl _ | refine ⟨?_, ?_⟩)); done))) | ((with_reducible apply callAlt (c38 hX t x ?_ hr)); case hl => (first | exact AllLe.refl _ | ((repeat' (first | exact trivial | apply Le.aggs | apply Le.tups | apply Le.fns | exact Le.refl _ | refine ⟨?_, ?_⟩)); done))) | (with_reducible apply callAlt (c54 hX x k a b ?_ hk hB hE)) | ((with_reducible apply callAlt (c31 hX (cutX x k a b) ?_)); case hl => (first | exact AllLe.refl _ | ((repeat' (first | exact trivial | apply Le.aggs | apply Le.tups | apply Le.fns | exact Le.refl _ | refine ⟨?_, ?_⟩)); done))) | ((with_reducible apply callAlt (c30e hX t (cutX x k a b) ?_ hy)); case hl => (first | exact AllLe.refl _ | ((repeat' (first | exact trivial | apply Le.aggs | apply Le.tups | apply Le.fns | exact Le.refl _ | refine ⟨?_, ?_⟩)); done))) | ((with_reducible apply callAlt (c38e hX t (cutX x k a b) ?_ hy)); case hl => (first | exact AllLe.refl _ | ((repeat' (first | exact trivial | apply Le.aggs | apply Le.tups | apply Le.fns | exact Le.refl _ | refine ⟨?_, ?_⟩)); done))) | (with_reducible refine Alt.one ?_))
    | ((with_reducible refine (?_ : AllLe _ _)); first | (first | exact AllLe.refl _ | (repeat' (first | exact trivial | apply Le.aggs | apply Le.tups | apply Le.fns | exact Le.refl _ | refine ⟨?_, ?_⟩))))
    | ((with_reducible refine (?_ : Sc _ (AllRen _ _ _))); refine Sc.of ?_; first | (repeat' (first | exact trivial | apply Le.aggs | apply Le.tups | apply Le.fns | exact Le.refl _ | refine ⟨?_, ?_⟩)))
    | ((with_reducible refine (?_ : (List.all _ _) = true)); rfl)
    | ((with_reducible refine (?_ : (and _ _) = true)); rfl)
    | ((with_reducible refine (?_ : List.Nodup _)); exact nodupB_spec rfl)
    | ((with_reducible refine (?_ : @Eq Nat _ _)); rfl)
    | ((with_reducible refine (?_ : LeOks _ _ _)); first | exact trivial | exact ⟨.refl _, trivial⟩ | exact ⟨.refl _, .refl _, trivial⟩)
    | ((fail_if_success with_reducible refine Stop.go ?_); (first | with_reducible refine And.intro ?_ ?_ | with_reducible refine Cut.go ?_ | (with_reducible (refine impI ?_; intro _)) | (with_reducible refine (?_ : footOK _ _ = true); kernel_rfl) | ((with_reducible refine propI ?_); conv => whnf))))
  all_goals try (exact .of (Nat.le_of_ble_eq_true rfl))
  all_goals try (rename_i h; first | exact absurd h (by decide) | (cases h; done))
  all_goals try (exact .of (by decide))
  all_goals try (exact Sc.imp fun _ => (by decide))
  all_goals try (exact Sc.imp fun v => (by have g := (cut_s v).sg; exact ⟨by omega, by omega⟩))
  all_goals try (exact .of ⟨by omega, by omega⟩)
  all_goals try ((with_reducible refine (?_ : Side _)); first | exact Side.mk (few_ok (not_f (by assumption))).1 | (have g := cut_g ‹(bif (bif !fewB t then true else !shortB x) then true else !inB (k : Int) 0 ((x.sg.length : Int) - 1)) = false›; exact Side.mk (by first | exact g.1 | exact g.2.1 | exact ⟨g.1, g.2.1⟩ | exact ⟨g.1, cut_xok g.2.1 _ _ _⟩ | exact cut_xok g.2.1 _ _ _)))
  all_goals try (exact .mk [] [] _ rfl (.le (.refl _)) trivial rfl)
  all_goals try (exfalso; rename_i v; simp [L] at v; done)
  all_goals try (exact absurd (bne1 ‹(rideE t (cutX x k a b) != 0) = false›) hy)
  all_goals (exact .mk [] [] _ rfl (.le (.boolT (by rcases er with q | q | q <;> rw [q] <;> rfl))) trivial rfl)
set_option maxRecDepth 10000 in
set_option maxHeartbeats 1000000 in
theorem c12g (t : Trf) (x : Trp) (k : Nat) (a b : Int) (hk : k < x.sg.length) (hB : inK .i64 (sgx x k).me ∧ inK .i64 (sgx x k).se) (hr : rideE t x = 0) (hE : cutE x k a b ≠ 0) : Pure (Xc W0 Gt) 12 [trfA t, trpA x, .agg 3 (tbl [.int .i64 (k : Int), .int .i64 a, .int .i64 b])] (.bool true) := by
  refine mut_of' hX (show FnIs (Xc W0 Gt) 12 Tryz.f12 (codeOf Tryz.f12) from ⟨by kernel_rfl, by kernel_rfl, by kernel_rfl, by kernel_rfl⟩) rfl ?_
  repeat' (first
    | ((with_reducible refine (?_ : Alt _ _)); first | (with_reducible apply callAlt (haw)) | (with_reducible apply callAlt (c14 hX t)) | (with_reducible apply callAlt (c16 hX t ?_)) | (with_reducible apply callAlt (c29 hX x)) | ((with_reducible apply callAlt (c31 hX x ?_)); case hl => (first | exact AllLe.refl _ | ((repeat' (first | exact trivial | apply Le.aggs | apply Le.tups | apply Le.fns | exact Le.refl _ | refine ⟨?_, ?_⟩)); done))) | (with_reducible apply callAlt (c27 hX _ _ _)) | ((with_reducible apply callAlt (c30 hX t x ?_ hr)); case hl => (first | exact AllLe.refl _ | ((repeat' (first | exact trivial | apply Le.aggs | apply Le.tups | apply Le.fns | exact Le.refl _ | refine ⟨?_, ?_⟩)); done))) | ((with_reducible apply callAlt (c38 hX t x ?_ hr)); case hl => (first | exact AllLe.refl _ | ((repeat' (first | exact trivial | apply Le.aggs | apply Le.tups | apply Le.fns | exact Le.refl _ | refine ⟨?_, ?_⟩)); done))) | (with_reducible apply callAlt (c54e hX x k a b ?_ hk hE)) | (with_reducible refine Alt.one ?_))
    | ((with_reducible refine (?_ : AllLe _ _)); first | (first | exact AllLe.refl _ | (repeat' (first | exact trivial | apply Le.aggs | apply Le.tups | apply Le.fns | exact Le.refl _ | refine ⟨?_, ?_⟩))))
    | ((with_reducible refine (?_ : Sc _ (AllRen _ _ _))); refine Sc.of ?_; first | (repeat' (first | exact trivial | apply Le.aggs | apply Le.tups | apply Le.fns | exact Le.refl _ | refine ⟨?_, ?_⟩)))
    | ((with_reducible refine (?_ : (List.all _ _) = true)); rfl)
    | ((with_reducible refine (?_ : (and _ _) = true)); rfl)
    | ((with_reducible refine (?_ : List.Nodup _)); exact nodupB_spec rfl)
    | ((with_reducible refine (?_ : @Eq Nat _ _)); rfl)
    | ((with_reducible refine (?_ : LeOks _ _ _)); first | exact trivial | exact ⟨.refl _, trivial⟩ | exact ⟨.refl _, .refl _, trivial⟩)
    | ((fail_if_success with_reducible refine Stop.go ?_); (first | with_reducible refine And.intro ?_ ?_ | with_reducible refine Cut.go ?_ | (with_reducible (refine impI ?_; intro _)) | (with_reducible refine (?_ : footOK _ _ = true); kernel_rfl) | ((with_reducible refine propI ?_); conv => whnf))))
  all_goals try (exact .of (Nat.le_of_ble_eq_true rfl))
  all_goals try (rename_i h; first | exact absurd h (by decide) | (cases h; done))
  all_goals try (exact .of (by decide))
  all_goals try (exact Sc.imp fun _ => (by decide))
  all_goals try (exact Sc.imp fun v => (by have g := (cut_s v).sg; exact ⟨by omega, by omega⟩))
  all_goals try (exact .of ⟨by omega, by omega⟩)
  all_goals try ((with_reducible refine (?_ : Side _)); first | exact Side.mk (few_ok (not_f (by assumption))).1 | (have g := cut_g ‹(bif (bif !fewB t then true else !shortB x) then true else !inB (k : Int) 0 ((x.sg.length : Int) - 1)) = false›; exact Side.mk (by first | exact g.1 | exact g.2.1 | exact ⟨g.1, g.2.1⟩ | exact ⟨g.1, cut_xok g.2.1 _ _ _⟩ | exact cut_xok g.2.1 _ _ _)))
  all_goals try (exact .mk [] [] _ rfl (.le (.refl _)) trivial rfl)
  all_goals (exfalso; have v := ‹(bif 0 != 0 then true else cutE x k a b != 0) = false›; exact hE (bne1 v))
set_option maxRecDepth 10000 in
set_option maxHeartbeats 1000000 in
theorem c12h (t : Trf) (x : Trp) (k : Nat) (a b : Int) (hk : k < x.sg.length) (hB : inK .i64 (sgx x k).me ∧ inK .i64 (sgx x k).se) (hr : rideE t x ≠ 0) (hE : cutE x k a b = 0) : Pure (Xc W0 Gt) 12 [trfA t, trpA x, .agg 3 (tbl [.int .i64 (k : Int), .int .i64 a, .int .i64 b])] (.bool true) := by
  refine mut_of' hX (show FnIs (Xc W0 Gt) 12 Tryz.f12 (codeOf Tryz.f12) from ⟨by kernel_rfl, by kernel_rfl, by kernel_rfl, by kernel_rfl⟩) rfl ?_
  repeat' (first
    | ((with_reducible refine (?_ : Alt _ _)); first | (with_reducible apply callAlt (haw)) | (with_reducible apply callAlt (c14 hX t)) | (with_reducible apply callAlt (c16 hX t ?_)) | (with_reducible apply callAlt (c29 hX x)) | ((with_reducible apply callAlt (c31 hX x ?_)); case hl => (first | exact AllLe.refl _ | ((repeat' (first | exact trivial | apply Le.aggs | apply Le.tups | apply Le.fns | exact Le.refl _ | refine ⟨?_, ?_⟩)); done))) | (with_reducible apply callAlt (c27 hX _ _ _)) | ((with_reducible apply callAlt (c30e hX t x ?_ hr)); case hl => (first | exact AllLe.refl _ | ((repeat' (first | exact trivial | apply Le.aggs | apply Le.tups | apply Le.fns | exact Le.refl _ | refine ⟨?_, ?_⟩)); done))) | ((with_reducible apply callAlt (c38e hX t x ?_ hr)); case hl => (first | exact AllLe.refl _ | ((repeat' (first | exact trivial | apply Le.aggs | apply Le.tups | apply Le.fns | exact Le.refl _ | refine ⟨?_, ?_⟩)); done))) | (with_reducible apply callAlt (c54 hX x k a b ?_ hk hB hE)) | (with_reducible refine Alt.one ?_))
    | ((with_reducible refine (?_ : AllLe _ _)); first | (first | exact AllLe.refl _ | (repeat' (first | exact trivial | apply Le.aggs | apply Le.tups | apply Le.fns | exact Le.refl _ | refine ⟨?_, ?_⟩))))
    | ((with_reducible refine (?_ : Sc _ (AllRen _ _ _))); refine Sc.of ?_; first | (repeat' (first | exact trivial | apply Le.aggs | apply Le.tups | apply Le.fns | exact Le.refl _ | refine ⟨?_, ?_⟩)))
    | ((with_reducible refine (?_ : (List.all _ _) = true)); rfl)
    | ((with_reducible refine (?_ : (and _ _) = true)); rfl)
    | ((with_reducible refine (?_ : List.Nodup _)); exact nodupB_spec rfl)
    | ((with_reducible refine (?_ : @Eq Nat _ _)); rfl)
    | ((with_reducible refine (?_ : LeOks _ _ _)); first | exact trivial | exact ⟨.refl _, trivial⟩ | exact ⟨.refl _, .refl _, trivial⟩)
    | ((fail_if_success with_reducible refine Stop.go ?_); (first | with_reducible refine And.intro ?_ ?_ | with_reducible refine Cut.go ?_ | (with_reducible (refine impI ?_; intro _)) | (with_reducible refine (?_ : footOK _ _ = true); kernel_rfl) | ((with_reducible refine propI ?_); conv => whnf))))
  all_goals try (exact .of (Nat.le_of_ble_eq_true rfl))
  all_goals try (rename_i h; first | exact absurd h (by decide) | (cases h; done))
  all_goals try (exact .of (by decide))
  all_goals try (exact Sc.imp fun _ => (by decide))
  all_goals try (exact Sc.imp fun v => (by have g := (cut_s v).sg; exact ⟨by omega, by omega⟩))
  all_goals try (exact .of ⟨by omega, by omega⟩)
  all_goals try ((with_reducible refine (?_ : Side _)); first | exact Side.mk (few_ok (not_f (by assumption))).1 | (have g := cut_g ‹(bif (bif !fewB t then true else !shortB x) then true else !inB (k : Int) 0 ((x.sg.length : Int) - 1)) = false›; exact Side.mk (by first | exact g.1 | exact g.2.1 | exact ⟨g.1, g.2.1⟩ | exact ⟨g.1, cut_xok g.2.1 _ _ _⟩ | exact cut_xok g.2.1 _ _ _)))
  all_goals try (exact .mk [] [] _ rfl (.le (.refl _)) trivial rfl)
  all_goals (exfalso; have v := ‹(bif rideE t x != 0 then true else 0 != 0) = false›; rw [bne_iff_ne.2 hr] at v; cases v)
set_option maxRecDepth 10000 in
set_option maxHeartbeats 1000000 in
theorem c12i (t : Trf) (x : Trp) (k : Nat) (a b : Int) (hk : k < x.sg.length) (hB : inK .i64 (sgx x k).me ∧ inK .i64 (sgx x k).se) (hr : rideE t x ≠ 0) (hE : cutE x k a b ≠ 0) : Pure (Xc W0 Gt) 12 [trfA t, trpA x, .agg 3 (tbl [.int .i64 (k : Int), .int .i64 a, .int .i64 b])] (.bool true) := by
  refine mut_of' hX (show FnIs (Xc W0 Gt) 12 Tryz.f12 (codeOf Tryz.f12) from ⟨by kernel_rfl, by kernel_rfl, by kernel_rfl, by kernel_rfl⟩) rfl ?_
  repeat' (first
    | ((with_reducible refine (?_ : Alt _ _)); first | (with_reducible apply callAlt (haw)) | (with_reducible apply callAlt (c14 hX t)) | (with_reducible apply callAlt (c16 hX t ?_)) | (with_reducible apply callAlt (c29 hX x)) | ((with_reducible apply callAlt (c31 hX x ?_)); case hl => (first | exact AllLe.refl _ | ((repeat' (first | exact trivial | apply Le.aggs | apply Le.tups | apply Le.fns | exact Le.refl _ | refine ⟨?_, ?_⟩)); done))) | (with_reducible apply callAlt (c27 hX _ _ _)) | ((with_reducible apply callAlt (c30e hX t x ?_ hr)); case hl => (first | exact AllLe.refl _ | ((repeat' (first | exact trivial | apply Le.aggs | apply Le.tups | apply Le.fns | exact Le.refl _ | refine ⟨?_, ?_⟩)); done))) | ((with_reducible apply callAlt (c38e hX t x ?_ hr)); case hl => (first | exact AllLe.refl _ | ((repeat' (first | exact trivial | apply Le.aggs | apply Le.tups | apply Le.fns | exact Le.refl _ | refine ⟨?_, ?_⟩)); done))) | (with_reducible apply callAlt (c54e hX x k a b ?_ hk hE)) | (with_reducible refine Alt.one ?_))
    | ((with_reducible refine (?_ : AllLe _ _)); first | (first | exact AllLe.refl _ | (repeat' (first | exact trivial | apply Le.aggs | apply Le.tups | apply Le.fns | exact Le.refl _ | refine ⟨?_, ?_⟩))))
    | ((with_reducible refine (?_ : Sc _ (AllRen _ _ _))); refine Sc.of ?_; first | (repeat' (first | exact trivial | apply Le.aggs | apply Le.tups | apply Le.fns | exact Le.refl _ | refine ⟨?_, ?_⟩)))
    | ((with_reducible refine (?_ : (List.all _ _) = true)); rfl)
    | ((with_reducible refine (?_ : (and _ _) = true)); rfl)
    | ((with_reducible refine (?_ : List.Nodup _)); exact nodupB_spec rfl)
    | ((with_reducible refine (?_ : @Eq Nat _ _)); rfl)
    | ((with_reducible refine (?_ : LeOks _ _ _)); first | exact trivial | exact ⟨.refl _, trivial⟩ | exact ⟨.refl _, .refl _, trivial⟩)
    | ((fail_if_success with_reducible refine Stop.go ?_); (first | with_reducible refine And.intro ?_ ?_ | with_reducible refine Cut.go ?_ | (with_reducible (refine impI ?_; intro _)) | (with_reducible refine (?_ : footOK _ _ = true); kernel_rfl) | ((with_reducible refine propI ?_); conv => whnf))))
  all_goals try (exact .of (Nat.le_of_ble_eq_true rfl))
  all_goals try (rename_i h; first | exact absurd h (by decide) | (cases h; done))
  all_goals try (exact .of (by decide))
  all_goals try (exact Sc.imp fun _ => (by decide))
  all_goals try (exact Sc.imp fun v => (by have g := (cut_s v).sg; exact ⟨by omega, by omega⟩))
  all_goals try (exact .of ⟨by omega, by omega⟩)
  all_goals try ((with_reducible refine (?_ : Side _)); first | exact Side.mk (few_ok (not_f (by assumption))).1 | (have g := cut_g ‹(bif (bif !fewB t then true else !shortB x) then true else !inB (k : Int) 0 ((x.sg.length : Int) - 1)) = false›; exact Side.mk (by first | exact g.1 | exact g.2.1 | exact ⟨g.1, g.2.1⟩ | exact ⟨g.1, cut_xok g.2.1 _ _ _⟩ | exact cut_xok g.2.1 _ _ _)))
  all_goals try (exact .mk [] [] _ rfl (.le (.refl _)) trivial rfl)
  all_goals (exfalso; have v := ‹(bif rideE t x != 0 then true else cutE x k a b != 0) = false›; rw [bne_iff_ne.2 hr] at v; cases v)
theorem c12n (t : Trf) (x : Trp) (k : Int) (a b : Int) (hn : ¬ (0 ≤ k ∧ k < x.sg.length)) : Pure (Xc W0 Gt) 12 [trfA t, trpA x, .agg 3 (tbl [.int .i64 k, .int .i64 a, .int .i64 b])] (.bool true) := by
  refine mut_of' hX (show FnIs (Xc W0 Gt) 12 Tryz.f12 (codeOf Tryz.f12) from ⟨by kernel_rfl, by kernel_rfl, by kernel_rfl, by kernel_rfl⟩) rfl ?_
  repeat' (first
    | ((with_reducible refine (?_ : Alt _ _)); first | (with_reducible apply callAlt (haw)) | (with_reducible apply callAlt (c14 hX t)) | (with_reducible apply callAlt (c16 hX t ?_)) | (with_reducible apply callAlt (c29 hX x)) | ((with_reducible apply callAlt (c31 hX x ?_)); case hl => (first | exact AllLe.refl _ | ((repeat' (first | exact trivial | apply Le.aggs | apply Le.tups | apply Le.fns | exact Le.refl _ | refine ⟨?_, ?_⟩)); done))) | (with_reducible apply callAlt (c27 hX _ _ _)) | (with_reducible refine Alt.one ?_))
    | ((with_reducible refine (?_ : AllLe _ _)); first | (first | exact AllLe.refl _ | (repeat' (first | exact trivial | apply Le.aggs | apply Le.tups | apply Le.fns | exact Le.refl _ | refine ⟨?_, ?_⟩))))
    | ((with_reducible refine (?_ : Sc _ (AllRen _ _ _))); refine Sc.of ?_; first | (repeat' (first | exact trivial | apply Le.aggs | apply Le.tups | apply Le.fns | exact Le.refl _ | refine ⟨?_, ?_⟩)))
    | ((with_reducible refine (?_ : (List.all _ _) = true)); rfl)
    | ((with_reducible refine (?_ : (and _ _) = true)); rfl)
    | ((with_reducible refine (?_ : List.Nodup _)); exact nodupB_spec rfl)
    | ((with_reducible refine (?_ : @Eq Nat _ _)); rfl)
    | ((with_reducible refine (?_ : LeOks _ _ _)); first | exact trivial | exact ⟨.refl _, trivial⟩ | exact ⟨.refl _, .refl _, trivial⟩)
    | ((fail_if_success with_reducible refine Stop.go ?_); (first | with_reducible refine And.intro ?_ ?_ | with_reducible refine Cut.go ?_ | (with_reducible (refine impI ?_; intro _)) | (with_reducible refine (?_ : footOK _ _ = true); kernel_rfl) | ((with_reducible refine propI ?_); conv => whnf))))
  all_goals try (exact .of (Nat.le_of_ble_eq_true rfl))
  all_goals try (rename_i h; first | exact absurd h (by decide) | (cases h; done))
  all_goals try (exact .of (by decide))
  all_goals try (exact Sc.imp fun _ => (by decide))
  all_goals try (exact Sc.imp fun v => (by have g := (cut_s v).sg; exact ⟨by omega, by omega⟩))
  all_goals try (exact .of ⟨by omega, by omega⟩)
  all_goals try (exact .mk [] [] _ rfl (.le (.refl _)) trivial rfl)
  all_goals (exfalso; have g := (cut_g ‹(bif (bif !fewB t then true else !shortB x) then true else !inB k 0 ((x.sg.length : Int) - 1)) = false›).2.2; have g := inB_iff.1 g; omega)
theorem c12 (t : Trf) (x : Trp) (k a b : Int) (hB : ∀ j, inK .i64 (sgx x j).me ∧ inK .i64 (sgx x j).se) : Pure (Xc W0 Gt) 12 [trfA t, trpA x, .agg 3 (tbl [.int .i64 k, .int .i64 a, .int .i64 b])] (.bool true) := by
  by_cases hn : 0 ≤ k ∧ k < x.sg.length
  · obtain ⟨k, rfl⟩ : ∃ j : Nat, k = j := ⟨k.toNat, by omega⟩
    have hk : k < x.sg.length := by omega
    by_cases hr : rideE t x = 0
    · by_cases hE : cutE x k a b = 0
      · by_cases hy : rideE t (cutX x k a b) = 0
        · exact c12m hX haw t x k a b hk (hB k) hr hE hy
        · exact c12y hX haw t x k a b hk (hB k) hr hE hy
      · exact c12g hX haw t x k a b hk (hB k) hr hE
    · by_cases hE : cutE x k a b = 0
      · exact c12h hX haw t x k a b hk (hB k) hr hE
      · exact c12i hX haw t x k a b hk (hB k) hr hE
  · exact c12n hX haw t x k a b hn
end
end Go.Fx
