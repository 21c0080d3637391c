/-
  The counts of a trip; a trip of the meter as one of the tariff's chapter.
-/
import Derived.Test.YtfdegaojblmdiaaGreatDoorGx
import Derived.Test.YtfdegaojblmdiaaGreatDoorGm

set_option linter.all false

/-
  What was counted in a trip.
-/
namespace Go.Fx
open Go.Proofs Go.RowKit

theorem sameB_t (b : Bool) : sameB b true = b := by cases b <;> rfl
@[reducible] def mcCk (t : Trf) (l : Log) (s : Mc) (a b c d : Nat) : List AV := [.str t.name, .int .i64 t.unit, .int .i64 t.step, sRow t.zones, iRow t.hol, rulS t.rules, extS t.extras, fxdS t.fixed, .int .i64 l.c, .int .i64 l.d, .int .i64 l.t, evS l.ev, iRow (mrkS t),
  .int .i64 s.tk, .int .i64 s.pu, .int .i64 s.ps, .int .i64 s.zn, .int .i64 s.si, .int .i64 s.pa, .int .i64 s.st, .own a (2 * s.zs.length), .int .i64 s.fe, .int .i64 (t.unit * l.c), .int .i64 s.ad, .int .i64 s.at_, .own b (s.tr.length + 1), .own c (s.zs.length + 1), .own d (s.pc.length + 1)]
section
variable {W0 : World} (hX : (Xc W0 Gt).Good)
include hX
theorem c65 (t : Trf) (l : Log) (hs : Side (TOk t)) (hr : rnE t l = 0) (j : Nat) (hj : Side (j < (mcN t l l.ev.length).tr.length)) : Mut (Xc W0 Gt) 65 [trfA t, lgA l, .int .i64 j] [] (.tup 2 (tbl [.ptr 0 0, .int .i64 0])) (mcO t l (mcN t l l.ev.length)) := by
  have g := (rn_gd hs.get hr).1
  have hm := mcN_hm g (Nat.le_refl l.ev.length)
  have tl := hm.m.tr
  have hx0 : ((0 : Int) != 0) = true → False := fun q => by cases q
  refine mut_of' hX (show FnIs (Xc W0 Gt) 65 Tryz.f65 (codeOf Tryz.f65) by refine ⟨?_, ?_, ?_, ?_⟩ <;> kernel_rfl) rfl ?_
  repeat' (first
    | ((with_reducible refine (?_ : Alt _ _)); first | (with_reducible (apply altM (ks := []) (m := 5); apply And.intro; apply Sc.of; apply (c47 hX t l hs hr))) | (with_reducible apply callAlt (c50 hX _ _ _)) | (with_reducible apply callAlt (c49 hX _ _)) | (with_reducible refine Alt.one ?_))
    | ((with_reducible refine Ar.go ?_); first | exact AllLe.refl _ | (repeat' (first | exact trivial | apply Le.aggs | apply Le.tups | apply Le.fns | exact Le.refl _ | refine ⟨?_, ?_⟩)))
    | with_reducible refine Ac.go ?_
    | ((with_reducible refine Rf.go ?_); rfl)
    | with_reducible refine nodupB_spec ?_
    | ((with_reducible refine Kf.go ?_); kernel_rfl)
    | ((with_reducible refine Lo.go ?_); first | exact LeOks.ofEq (by kernel_rfl) | (repeat' first | exact trivial | refine ⟨.refl _, ?_⟩))
    | ((fail_if_success with_reducible refine Stop.go ?_); (first | exact (hx0 ‹_›).elim | rw [beqvv ((mcN t l l.ev.length).tr.length + 1)] | rw [beqvv ((mcN t l l.ev.length).zs.length + 1)] | rw [beqvv ((mcN t l l.ev.length).pc.length + 1)] | rw [beqvv (mcN t l l.ev.length).tr.length] | rw [beqvv (mcN t l l.ev.length).zs.length] | rw [beqvv (mcN t l l.ev.length).pc.length] | rw [beqvv (2 * (mcN t l l.ev.length).zs.length)] | with_reducible refine And.intro ?_ ?_ | with_reducible refine Cut.go ?_ | (with_reducible (refine impI ?_; intro _)) | ((with_reducible refine propI ?_); conv => whnf))))
  all_goals try (exact .of (Nat.le_of_ble_eq_true rfl))
  all_goals try (exact .of ⟨by omega, by omega⟩)
  exact .mk [2, 3, 4, 5, 6] [] _ rfl (.le (.tups ⟨⟨trivial, .refl _⟩, .intI (by rw [inB_iff.2 (by have := hj.get; omega)]; rfl)⟩)) (.ofEq (by kernel_rfl)) (by kernel_rfl)
theorem c66 (t : Trf) (l : Log) (s : Mc) (j : Int) : Mut (Xc W0 Gt) 66 [.ptr 0 0, .int .i64 j] (mcO t l s) (.fn 94 2 (tbl [.ptr 5 0, .ptr 6 0])) (mcO t l s ++ [.box [.ptr 0 0], .box [.int .i64 j]]) := by
  refine mut_of' hX (show FnIs (Xc W0 Gt) 66 Tryz.f66 (codeOf Tryz.f66) by refine ⟨?_, ?_, ?_, ?_⟩ <;> kernel_rfl) rfl ?_
  repeat' (first
    | ((with_reducible refine (?_ : Alt _ _)); first | fail | (with_reducible refine Alt.one ?_))
    | ((with_reducible refine Ar.go ?_); first | exact AllLe.refl _ | (repeat' (first | exact trivial | apply Le.aggs | apply Le.tups | apply Le.fns | exact Le.refl _ | refine ⟨?_, ?_⟩)))
    | with_reducible refine Ac.go ?_
    | ((with_reducible refine Rf.go ?_); rfl)
    | with_reducible refine nodupB_spec ?_
    | ((with_reducible refine Kf.go ?_); kernel_rfl)
    | ((with_reducible refine Lo.go ?_); first | exact LeOks.ofEq (by kernel_rfl) | (repeat' first | exact trivial | refine ⟨.refl _, ?_⟩))
    | ((fail_if_success with_reducible refine Stop.go ?_); (first | with_reducible refine And.intro ?_ ?_ | with_reducible refine Cut.go ?_ | (with_reducible (refine impI ?_; intro _)) | ((with_reducible refine propI ?_); conv => whnf))))
  all_goals try (exact .of (Nat.le_of_ble_eq_true rfl))
  exact .mk [5, 6] [] _ rfl (.le (.fns ⟨⟨trivial, .refl _⟩, .refl _⟩)) (.ofEq (by kernel_rfl)) (by kernel_rfl)
omit hX in
omit hX in
omit hX in
omit hX in
end
end Go.Fx

/-
  A trip of the meter as one of the tariff's chapter.
-/
namespace Go.Fx
open Go.Proofs Go.RowKit
theorem stuckI {c : Bool} {a b : Unit → Prop} (hc : c = true) (h : a ()) : cond.match_1 (fun _ => Prop) c a b := by subst hc; exact h
theorem pcL_push {l : List Pc} {x : Pc} {i j : Nat} {f : Nat → Nat → AV} (hf : ∀ j, f 0 j = tbl (pcC x) j) (hi : i < l.length + 1) : joinF l.length (fun i j => tbl (pcC (l.getD i pc0)) j) f i j = tbl (pcC ((l ++ [x]).getD i pc0)) j := by
  unfold joinF
  by_cases h : i < l.length
  · rw [if_pos h, pcp_ne h]
  · obtain rfl : i = l.length := by omega
    rw [if_neg h, Nat.sub_self, hf, pcp_at]
theorem sg_push {l : Log} {r : List Pc} {k a b : Nat} {f : Nat → Nat → AV} (hf : ∀ b, f 0 b = tbl (segC (sgO l (r.getD k pc0))) b) (ha : a < k + 1) : joinF k (fun a b => tbl (segC ((sgL l r k).getD a seg0)) b) f a b = tbl (segC ((sgL l r (k + 1)).getD a seg0)) b := by
  unfold joinF
  by_cases h : a < k
  · rw [if_pos h]; show tbl (segC ((sgL l r k).getD a seg0)) b = _; rw [sgL_at k h, sgL_at (k + 1) ha]
  · obtain rfl : a = k := by omega
    rw [if_neg h, Nat.sub_self, hf, sgL_at (a + 1) ha]
theorem segS_n {l : Log} {r : List Pc} {k : Nat} : segS (sgL l r k) = .slc 3 k (fun a b => tbl (segC ((sgL l r k).getD a seg0)) b) := by unfold segS; rw [sgL_len]
theorem all_f {α : Type} {f : α → Bool} {r : List α} {d : α} {k : Nat} (hk : k < r.length) (h : f (r.getD k d) = false) : r.all f = false := by
  cases c : r.all f with
  | false => rfl
  | true =>
    have w := List.all_eq_true.1 c (r.getD k d) (by rw [List.getD_eq_getElem?_getD, List.getElem?_eq_getElem hk]; exact List.getElem_mem hk)
    rw [h] at w; cases w
theorem all_t {α : Type} {f : α → Bool} {r : List α} {d : α} (h : ∀ k, k < r.length → f (r.getD k d) = true) : r.all f = true := by
  rw [List.all_eq_true]
  intro x hx
  obtain ⟨k, hk, e⟩ := List.getElem_of_mem hx
  have w := h k hk
  rwa [List.getD_eq_getElem?_getD, List.getElem?_eq_getElem hk, Option.getD_some, e] at w
theorem setL_put {r : List Pc} {k : Int} (h : 0 < r.length) (a j : Nat) (hj : j < 7) : putF ((r.length : Int) - 1).toNat 5 [.int .i64 ((r.getD ((r.length : Int) - 1).toNat pc0).tk + k)] (fun a j => tbl (pcC (r.getD a pc0)) j) a j = tbl (pcC ((setL r k).getD a pc0)) j := by
  rw [show ((r.length : Int) - 1).toNat = r.length - 1 by omega]
  unfold putF
  by_cases e : a = r.length - 1
  · subst e
    rw [setL_last h]
    unfold lastP
    rcases (show j = 0 ∨ j = 1 ∨ j = 2 ∨ j = 3 ∨ j = 4 ∨ j = 5 ∨ j = 6 by omega) with q | q | q | q | q | q | q <;> subst q
    · rw [if_neg (by omega)]; rfl
    · rw [if_neg (by omega)]; rfl
    · rw [if_neg (by omega)]; rfl
    · rw [if_neg (by omega)]; rfl
    · rw [if_neg (by omega)]; rfl
    · rw [if_pos ⟨rfl, by omega, by show 5 < 5 + 1; omega⟩]; rfl
    · rw [if_neg (by show ¬ (_ ∧ 5 ≤ 6 ∧ 6 < 5 + 1); omega)]; rfl
  · rw [if_neg (fun q => e q.1), setL_ne e]
section
variable {W0 : World} (hX : (Xc W0 Gt).Good)
include hX
theorem c72 (p o : Pc) : Pure (Xc W0 Gt) 72 [.agg 7 (tbl (pcC p)), .agg 7 (tbl (pcC o))] (.bool (likeP p o)) := by
  refine mut_of' hX (show FnIs (Xc W0 Gt) 72 Tryz.f72 (codeOf Tryz.f72) by refine ⟨?_, ?_, ?_, ?_⟩ <;> kernel_rfl) rfl ?_
  repeat' (first
    | ((with_reducible refine (?_ : Alt _ _)); first | fail | (with_reducible refine Alt.one ?_))
    | ((with_reducible refine Ar.go ?_); first | exact AllLe.refl _ | (repeat' (first | exact trivial | apply Le.aggs | apply Le.tups | apply Le.fns | exact Le.refl _ | refine ⟨?_, ?_⟩)))
    | with_reducible refine Ac.go ?_
    | ((with_reducible refine Rf.go ?_); rfl)
    | with_reducible refine nodupB_spec ?_
    | ((with_reducible refine Kf.go ?_); kernel_rfl)
    | ((with_reducible refine Lo.go ?_); first | exact LeOks.ofEq (by kernel_rfl) | (repeat' first | exact trivial | refine ⟨.refl _, ?_⟩))
    | ((fail_if_success with_reducible refine Stop.go ?_); (first | with_reducible refine And.intro ?_ ?_ | with_reducible refine Cut.go ?_ | (with_reducible (refine impI ?_; intro _)) | ((with_reducible refine propI ?_); conv => whnf))))
  all_goals try (exact .of (Nat.le_of_ble_eq_true rfl))
  all_goals exact .mk [] [] _ rfl (.le (.refl _)) trivial rfl
set_option maxRecDepth 10000 in
set_option maxHeartbeats 8000000 in
theorem c32 (t : Trf) (l : Log) (hs : Side (TOk t)) (hr : rnE t l = 0) (j : Nat) (hj : Side (j < (mcN t l l.ev.length).tr.length)) : Pure (Xc W0 Gt) 32 [trfA t, lgA l, .int .i64 j] ((toR t l j)) := by
  have hjS := hj
  have g := (rn_gd hs.get hr).1
  have hm := mcN_hm g (Nat.le_refl l.ev.length)
  have tl := hm.m.tr
  have hx0 : ((0 : Int) != 0) = true → False := fun q => by cases q
  have rl := rules_len g.trf
  have iv := (mcN_iv g (rn_gd hs.get hr).2 l.ev.length (Nat.le_refl _)).1
  have ivp := iv.pk
  have ivq := iv.qq
  have ivt := iv.tt
  have nm := hm.nums
  have pl := hm.m.pc
  have hj := hj.get
  have jv := mcN_jv g (rn_gd hs.get hr).2 l.ev.length (Nat.le_refl _)
  have zl : (mcN t l l.ev.length).tr.length ≤ (mcN t l l.ev.length).zs.length := by
    by_cases c : (mcN t l l.ev.length).ps = 0
    · rw [jv.z0 c]; exact Nat.le_refl _
    · rw [jv.z1 c]; omega
  refine mut_of' hX (show FnIs (Xc W0 Gt) 32 Tryz.f32 (codeOf Tryz.f32) by refine ⟨?_, ?_, ?_, ?_⟩ <;> kernel_rfl) rfl ?_
  repeat' (first
    | ((with_reducible refine (?_ : Alt _ _)); first | (with_reducible (apply altM (ks := []) (m := 5); apply And.intro; apply Sc.of; apply (c65 hX t l hs hr j hjS))) | (with_reducible (apply altM (ks := [3, 4, 5, 6, 7]) (m := 2); apply And.intro; apply Sc.of; apply (c66 hX t l (mcN t l l.ev.length) j))) | (with_reducible refine Alt.one ?_))
    | ((with_reducible refine Ar.go ?_); first | exact AllLe.refl _ | (repeat' (first | exact trivial | apply Le.aggs | apply Le.tups | apply Le.fns | exact Le.refl _ | refine ⟨?_, ?_⟩)))
    | with_reducible refine Ac.go ?_
    | ((with_reducible refine Rf.go ?_); rfl)
    | with_reducible refine nodupB_spec ?_
    | ((with_reducible refine Kf.go ?_); kernel_rfl)
    | ((with_reducible refine Lo.go ?_); first | exact LeOks.ofEq (by kernel_rfl) | (repeat' first | exact trivial | refine ⟨.refl _, ?_⟩))
    | ((fail_if_success with_reducible refine Stop.go ?_); (first | exact (hx0 ‹_›).elim | rw [beqvv ((mcN t l l.ev.length).tr.length + 1)] | rw [beqvv ((mcN t l l.ev.length).zs.length + 1)] | rw [beqvv ((mcN t l l.ev.length).pc.length + 1)] | rw [beqvv (mcN t l l.ev.length).tr.length] | rw [beqvv (mcN t l l.ev.length).zs.length] | rw [beqvv (mcN t l l.ev.length).pc.length] | rw [beqvv (2 * (mcN t l l.ev.length).zs.length)] | with_reducible refine And.intro ?_ ?_ | with_reducible refine Cut.go ?_ | (with_reducible (refine impI ?_; intro _)) | ((with_reducible refine propI ?_); conv => whnf))))
  all_goals try (exact .of (Nat.le_of_ble_eq_true rfl))
  refine ⟨_, _, (show FnIs (Xc W0 Gt) 94 Tryz.f94 (codeOf Tryz.f94) by refine ⟨?_, ?_, ?_, ?_⟩ <;> kernel_rfl), rfl, ?_⟩
  repeat' (first
    | ((with_reducible refine (?_ : Alt _ _)); first | fail | (with_reducible refine Alt.one ?_))
    | ((with_reducible refine Ar.go ?_); first | exact AllLe.refl _ | (repeat' (first | exact trivial | apply Le.aggs | apply Le.tups | apply Le.fns | exact Le.refl _ | refine ⟨?_, ?_⟩)))
    | with_reducible refine Ac.go ?_
    | ((with_reducible refine Rf.go ?_); rfl)
    | with_reducible refine nodupB_spec ?_
    | ((with_reducible refine Kf.go ?_); kernel_rfl)
    | ((with_reducible refine Lo.go ?_); first | exact LeOks.ofEq (by kernel_rfl) | (repeat' first | exact trivial | refine ⟨.refl _, ?_⟩))
    | ((fail_if_success with_reducible refine Stop.go ?_); (first | rw [beqvv ((mcN t l l.ev.length).tr.length + 1)] | rw [beqvv ((mcN t l l.ev.length).zs.length + 1)] | rw [beqvv ((mcN t l l.ev.length).pc.length + 1)] | rw [beqvv (mcN t l l.ev.length).tr.length] | rw [beqvv (mcN t l l.ev.length).zs.length] | rw [beqvv (mcN t l l.ev.length).pc.length] | rw [beqvv (2 * (mcN t l l.ev.length).zs.length)] | with_reducible refine And.intro ?_ ?_ | with_reducible refine Cut.go ?_ | (with_reducible (refine impI ?_; intro _)) | ((with_reducible refine propI ?_); conv => whnf))))
  all_goals try (exact .of (Nat.le_of_ble_eq_true rfl))
  generalize hL : HObj.lrec _ _ _ _ _ _ _ = L
  refine ⟨Nat ⊕ Nat, fun y => match y with | .inl i => ([(0, .yld 15), (2, .ptr 14 0), (9, .own 7 ((mcN t l l.ev.length).pc.length + 1)), (10, .int .i64 (mcN t l l.ev.length).pc.length), (11, .int .i64 ((i : Nat)))], [.box (trfC t), .box (logC l (evS l.ev)), .box [.int .i64 0, .int .i64 0, .bool false, .slc0, .slc0], .box (mcCk t l (mcN t l l.ev.length) 4 5 6 7), mxO (mcN t l l.ev.length).ex (mxV (mcN t l l.ev.length)), trO (mcN t l l.ev.length).tr, zsO (mcN t l l.ev.length).zs, pcO (mcN t l l.ev.length).pc, .box [.bool (toN j (mcN t l l.ev.length).pc (i)).sp], .box [.bool (toN j (mcN t l l.ev.length).pc (i)).op], .box [.bool (toN j (mcN t l l.ev.length).pc (i)).pa], .box [.bool (toN j (mcN t l l.ev.length).pc (i)).la], .box [.slc0], .box [.ptr 3 0], .box [.int .i64 j], L]) | .inr i => ([(0, .yld 15), (2, .ptr 14 0), (9, .own 7 ((mcN t l l.ev.length).pc.length + 1)), (10, .int .i64 (mcN t l l.ev.length).pc.length), (11, .int .i64 ((i : Nat)))], [.box (trfC t), .box (logC l (evS l.ev)), .box [.int .i64 0, .int .i64 0, .bool false, .slc0, .slc0], .box (mcCk t l (mcN t l l.ev.length) 4 5 6 7), mxO (mcN t l l.ev.length).ex (mxV (mcN t l l.ev.length)), trO (mcN t l l.ev.length).tr, zsO (mcN t l l.ev.length).zs, pcO (mcN t l l.ev.length).pc, .box [.bool (toN j (mcN t l l.ev.length).pc (i)).sp], .box [.bool (toN j (mcN t l l.ev.length).pc (i)).op], .box [.bool (toN j (mcN t l l.ev.length).pc (i)).pa], .box [.bool (toN j (mcN t l l.ev.length).pc (i)).la], .box [.own 18 (toN j (mcN t l l.ev.length).pc (i)).rs.length], .box [.ptr 3 0], .box [.int .i64 j], L, .dead, .dead, .list 140 7 (toN j (mcN t l l.ev.length).pc (i)).rs.length (fun a b => tbl (pcC ((toN j (mcN t l l.ev.length).pc (i)).rs.getD a pc0)) b) (toN j (mcN t l l.ev.length).pc (i)).rs.length]), fun y => match y with | .inl i => i ≤ (mcN t l l.ev.length).pc.length ∧ (toN j (mcN t l l.ev.length).pc (i)).rs = [] | .inr i => i ≤ (mcN t l l.ev.length).pc.length ∧ 0 < (toN j (mcN t l l.ev.length).pc (i)).rs.length, fun y => match y with | .inl i => (mcN t l l.ev.length).pc.length - i | .inr i => (mcN t l l.ev.length).pc.length - i, ⟨.inl 0, ⟨Nat.zero_le _, rfl⟩, ?_⟩, fun y hy => ?_⟩
  all_goals subst hL
  · exact .le ⟨by kernel_rfl, ⟨.refl _, .refl _, .refl _, .refl _, .refl _, .refl _, .refl _, .refl _, .refl _, .refl _, .refl _, .refl _, .refl _, .refl _, .refl _, .refl _, trivial⟩, ⟨.refl _, .refl _, .refl _, .refl _, .refl _, trivial⟩⟩
  have hA : ∀ b : Bool, sameB b true = true → sameB b true = false → False := fun b p q => by rw [p] at q; cases q
  have hB : ∀ b : Bool, (bif b then !true else false) = true → False := fun b q => by cases b <;> cases q
  have hC : ∀ a c : Bool, sameB a true = false → sameB (bif a then c else false) true = true → False := fun a c p q => by cases a <;> cases c <;> first | (cases p; done) | (cases q; done) | (exact absurd q (by decide))
  have hD : false = true → False := fun q => by cases q
  have hE : (((0 : Nat) : Int) == 0) = false → False := fun q => by cases q
  have hF : sameB false true = true → False := fun q => by cases q
  have hG : ∀ b : Bool, (bif decide ((0 : Int) < ((0 : Nat) : Int)) then b else false) = true → False := fun b q => by cases q
  have hH : ∀ n : Nat, decide (0 < (n : Int)) = false → 0 < n → False := fun n q h => by have := of_decide_eq_false q; omega
  rcases y with i | i
  · obtain ⟨hi, he⟩ := hy
    repeat' (first
      | ((with_reducible refine (?_ : Alt _ _)); first | (with_reducible apply callAlt (c72 hX pc0 _)) | (with_reducible apply callAlt (c49 hX _ _)) | ((with_reducible apply callAlt (c48_2 hX _ _)); case hl => (first | exact ⟨le_slc2 rfl rfl, trivial⟩ | exact ⟨le_slc3 rfl rfl rfl, trivial⟩ | exact ⟨le_slc5 rfl rfl rfl rfl rfl, trivial⟩ | exact AllLe.refl _)) | ((with_reducible apply callAlt (c48_3 hX _ _ _)); case hl => (first | exact ⟨le_slc2 rfl rfl, trivial⟩ | exact ⟨le_slc3 rfl rfl rfl, trivial⟩ | exact ⟨le_slc5 rfl rfl rfl rfl rfl, trivial⟩ | exact AllLe.refl _)) | (with_reducible apply callAlt (c73 hX _ ?_)) | (with_reducible refine Alt.one ?_))
      | ((with_reducible refine Ar.go ?_); first | exact ⟨le_slc2 rfl rfl, trivial⟩ | exact ⟨le_slc3 rfl rfl rfl, trivial⟩ | exact AllLe.refl _ | (repeat' (first | exact trivial | apply Le.aggs | apply Le.tups | apply Le.fns | exact Le.refl _ | refine ⟨?_, ?_⟩)))
      | with_reducible refine Ac.go ?_
      | ((with_reducible refine Rf.go ?_); rfl)
      | with_reducible refine nodupB_spec ?_
      | ((with_reducible refine Kf.go ?_); kernel_rfl)
      | ((with_reducible refine Lo.go ?_); first | exact LeOks.ofEq (by kernel_rfl) | (repeat' first | exact trivial | refine ⟨.refl _, ?_⟩))
      | ((fail_if_success with_reducible refine Stop.go ?_); (first | with_reducible refine And.intro ?_ ?_ | with_reducible refine Cut.go ?_ | (with_reducible (refine impI ?_; intro _); try (first | with_reducible exact (hA _ ‹_› ‹_›).elim | with_reducible exact (hB _ ‹_›).elim | with_reducible exact (hC _ _ ‹_› ‹_›).elim | with_reducible exact (hD ‹_›).elim | with_reducible exact (hE ‹_›).elim | with_reducible exact (hF ‹_›).elim | with_reducible exact (hG _ ‹_›).elim)) | (with_reducible refine stuckI (by simp only [beqvv]; with_unfolding_all rfl) ?_) | ((with_reducible refine propI ?_); conv => whnf))))
    all_goals try (exact .of (Nat.le_of_ble_eq_true rfl))
    all_goals try (have lt : i < (mcN t l l.ev.length).pc.length := (by have q := of_decide_eq_true ‹decide ((i : Int) < ((mcN t l l.ev.length).pc.length : Int)) = true›; omega); first | exact .of ⟨by omega, by omega⟩ | exact .of (by omega))
    all_goals try (exact Sc.imp fun h => absurd h (by decide))
    all_goals try (exact .of (by have q := ‹sameB ((bif ((mcN t l l.ev.length).pc.getD (i : Int).toNat pc0).tr == (j : Int) then ((mcN t l l.ev.length).pc.getD (i : Int).toNat pc0).ps != 0 else false)) true = false›; rwa [sameB_t] at q))
    all_goals try (exact .of (by have q := ‹sameB (((mcN t l l.ev.length).pc.getD (i : Int).toNat pc0).tr == (j : Int)) true = false›; rwa [sameB_t] at q))
    all_goals try (exact .of rfl)
    all_goals try (exact .of ⟨by omega, by omega⟩)
    · have lt : i < (mcN t l l.ev.length).pc.length := (by have q := of_decide_eq_true ‹decide ((i : Int) < ((mcN t l l.ev.length).pc.length : Int)) = true›; omega)
      have q := ‹sameB ((bif ((mcN t l l.ev.length).pc.getD (i : Int).toNat pc0).tr == (j : Int) then ((mcN t l l.ev.length).pc.getD (i : Int).toNat pc0).ps != 0 else false)) true = true›; rw [sameB_t, Int.toNat_natCast] at q
      have c2 := ‹(((mcN t l l.ev.length).pc.getD (i : Int).toNat pc0).ps == 2) = true›; rw [Int.toNat_natCast] at c2
      have e : toN (j : Int) (mcN t l l.ev.length).pc (i + 1) = { (toN j (mcN t l l.ev.length).pc (i)) with sp := true } := by rw [to_y q]; unfold toF; rw [c2]; rfl
      refine ⟨.inl (i + 1), ⟨by omega, by rw [e]; exact he⟩, by show (mcN t l l.ev.length).pc.length - (i + 1) < (mcN t l l.ev.length).pc.length - i; omega, ?_⟩
      show StTo _ _ _ [(0, .yld 15), (2, .ptr 14 0), (9, .own 7 ((mcN t l l.ev.length).pc.length + 1)), (10, .int .i64 (mcN t l l.ev.length).pc.length), (11, .int .i64 ((i + 1 : Nat)))] [.box (trfC t), .box (logC l (evS l.ev)), .box [.int .i64 0, .int .i64 0, .bool false, .slc0, .slc0], .box (mcCk t l (mcN t l l.ev.length) 4 5 6 7), mxO (mcN t l l.ev.length).ex (mxV (mcN t l l.ev.length)), trO (mcN t l l.ev.length).tr, zsO (mcN t l l.ev.length).zs, pcO (mcN t l l.ev.length).pc, .box [.bool (toN j (mcN t l l.ev.length).pc (i + 1)).sp], .box [.bool (toN j (mcN t l l.ev.length).pc (i + 1)).op], .box [.bool (toN j (mcN t l l.ev.length).pc (i + 1)).pa], .box [.bool (toN j (mcN t l l.ev.length).pc (i + 1)).la], .box [.slc0], .box [.ptr 3 0], .box [.int .i64 j], _]
      rw [e]
      exact .le ⟨by kernel_rfl, ⟨.refl _, .refl _, .refl _, .refl _, .refl _, .refl _, .refl _, .refl _, .refl _, .refl _, .refl _, .refl _, .refl _, .refl _, .refl _, .refl _, trivial⟩, ⟨.refl _, .refl _, .refl _, .refl _, .intI (by omega), trivial⟩⟩
    · have lt : i < (mcN t l l.ev.length).pc.length := (by have q := of_decide_eq_true ‹decide ((i : Int) < ((mcN t l l.ev.length).pc.length : Int)) = true›; omega)
      have q := ‹sameB ((bif ((mcN t l l.ev.length).pc.getD (i : Int).toNat pc0).tr == (j : Int) then ((mcN t l l.ev.length).pc.getD (i : Int).toNat pc0).ps != 0 else false)) true = true›; rw [sameB_t, Int.toNat_natCast] at q
      have c2 := ‹(((mcN t l l.ev.length).pc.getD (i : Int).toNat pc0).ps == 2) = false›; rw [Int.toNat_natCast] at c2
      have c3 := ‹(((mcN t l l.ev.length).pc.getD (i : Int).toNat pc0).ps == 3) = true›; rw [Int.toNat_natCast] at c3
      have e : toN (j : Int) (mcN t l l.ev.length).pc (i + 1) = { (toN j (mcN t l l.ev.length).pc (i)) with pa := true } := by rw [to_y q]; unfold toF; rw [c2, c3]; rfl
      refine ⟨.inl (i + 1), ⟨by omega, by rw [e]; exact he⟩, by show (mcN t l l.ev.length).pc.length - (i + 1) < (mcN t l l.ev.length).pc.length - i; omega, ?_⟩
      show StTo _ _ _ [(0, .yld 15), (2, .ptr 14 0), (9, .own 7 ((mcN t l l.ev.length).pc.length + 1)), (10, .int .i64 (mcN t l l.ev.length).pc.length), (11, .int .i64 ((i + 1 : Nat)))] [.box (trfC t), .box (logC l (evS l.ev)), .box [.int .i64 0, .int .i64 0, .bool false, .slc0, .slc0], .box (mcCk t l (mcN t l l.ev.length) 4 5 6 7), mxO (mcN t l l.ev.length).ex (mxV (mcN t l l.ev.length)), trO (mcN t l l.ev.length).tr, zsO (mcN t l l.ev.length).zs, pcO (mcN t l l.ev.length).pc, .box [.bool (toN j (mcN t l l.ev.length).pc (i + 1)).sp], .box [.bool (toN j (mcN t l l.ev.length).pc (i + 1)).op], .box [.bool (toN j (mcN t l l.ev.length).pc (i + 1)).pa], .box [.bool (toN j (mcN t l l.ev.length).pc (i + 1)).la], .box [.slc0], .box [.ptr 3 0], .box [.int .i64 j], _]
      rw [e]
      exact .le ⟨by kernel_rfl, ⟨.refl _, .refl _, .refl _, .refl _, .refl _, .refl _, .refl _, .refl _, .refl _, .refl _, .refl _, .refl _, .refl _, .refl _, .refl _, .refl _, trivial⟩, ⟨.refl _, .refl _, .refl _, .refl _, .intI (by omega), trivial⟩⟩
    · have lt : i < (mcN t l l.ev.length).pc.length := (by have q := of_decide_eq_true ‹decide ((i : Int) < ((mcN t l l.ev.length).pc.length : Int)) = true›; omega)
      have q := ‹sameB ((bif ((mcN t l l.ev.length).pc.getD (i : Int).toNat pc0).tr == (j : Int) then ((mcN t l l.ev.length).pc.getD (i : Int).toNat pc0).ps != 0 else false)) true = true›; rw [sameB_t, Int.toNat_natCast] at q
      have c2 := ‹(((mcN t l l.ev.length).pc.getD (i : Int).toNat pc0).ps == 2) = false›; rw [Int.toNat_natCast] at c2
      have c3 := ‹(((mcN t l l.ev.length).pc.getD (i : Int).toNat pc0).ps == 3) = false›; rw [Int.toNat_natCast] at c3
      have c1 := ‹(((mcN t l l.ev.length).pc.getD (i : Int).toNat pc0).ps == 1) = true›; rw [Int.toNat_natCast] at c1
      have c0 := ‹(((mcN t l l.ev.length).pc.getD (i : Int).toNat pc0).tk == 0) = true›; rw [Int.toNat_natCast] at c0
      have e : toN (j : Int) (mcN t l l.ev.length).pc (i + 1) = { (toN j (mcN t l l.ev.length).pc (i)) with op := true } := by rw [to_y q]; unfold toF; rw [c2, c3, c1, c0]; rfl
      refine ⟨.inl (i + 1), ⟨by omega, by rw [e]; exact he⟩, by show (mcN t l l.ev.length).pc.length - (i + 1) < (mcN t l l.ev.length).pc.length - i; omega, ?_⟩
      show StTo _ _ _ [(0, .yld 15), (2, .ptr 14 0), (9, .own 7 ((mcN t l l.ev.length).pc.length + 1)), (10, .int .i64 (mcN t l l.ev.length).pc.length), (11, .int .i64 ((i + 1 : Nat)))] [.box (trfC t), .box (logC l (evS l.ev)), .box [.int .i64 0, .int .i64 0, .bool false, .slc0, .slc0], .box (mcCk t l (mcN t l l.ev.length) 4 5 6 7), mxO (mcN t l l.ev.length).ex (mxV (mcN t l l.ev.length)), trO (mcN t l l.ev.length).tr, zsO (mcN t l l.ev.length).zs, pcO (mcN t l l.ev.length).pc, .box [.bool (toN j (mcN t l l.ev.length).pc (i + 1)).sp], .box [.bool (toN j (mcN t l l.ev.length).pc (i + 1)).op], .box [.bool (toN j (mcN t l l.ev.length).pc (i + 1)).pa], .box [.bool (toN j (mcN t l l.ev.length).pc (i + 1)).la], .box [.slc0], .box [.ptr 3 0], .box [.int .i64 j], _]
      rw [e]
      exact .le ⟨by kernel_rfl, ⟨.refl _, .refl _, .refl _, .refl _, .refl _, .refl _, .refl _, .refl _, .refl _, .refl _, .refl _, .refl _, .refl _, .refl _, .refl _, .refl _, trivial⟩, ⟨.refl _, .refl _, .refl _, .refl _, .intI (by omega), trivial⟩⟩
    · exact .of ⟨Nat.le_of_ble_eq_true rfl, Nat.le_of_ble_eq_true rfl⟩
    · have lt : i < (mcN t l l.ev.length).pc.length := (by have q := of_decide_eq_true ‹decide ((i : Int) < ((mcN t l l.ev.length).pc.length : Int)) = true›; omega)
      have q := ‹sameB ((bif ((mcN t l l.ev.length).pc.getD (i : Int).toNat pc0).tr == (j : Int) then ((mcN t l l.ev.length).pc.getD (i : Int).toNat pc0).ps != 0 else false)) true = true›; rw [sameB_t, Int.toNat_natCast] at q
      have c2 := ‹(((mcN t l l.ev.length).pc.getD (i : Int).toNat pc0).ps == 2) = false›; rw [Int.toNat_natCast] at c2
      have c3 := ‹(((mcN t l l.ev.length).pc.getD (i : Int).toNat pc0).ps == 3) = false›; rw [Int.toNat_natCast] at c3
      have c1 := ‹(((mcN t l l.ev.length).pc.getD (i : Int).toNat pc0).ps == 1) = true›; rw [Int.toNat_natCast] at c1
      have c0 := ‹(((mcN t l l.ev.length).pc.getD (i : Int).toNat pc0).tk == 0) = false›; rw [Int.toNat_natCast] at c0
      have e : toN (j : Int) (mcN t l l.ev.length).pc (i + 1) = { (toN j (mcN t l l.ev.length).pc (i)) with la := bif (toN j (mcN t l l.ev.length).pc (i)).la then true else (toN j (mcN t l l.ev.length).pc (i)).pa, rs := [((mcN t l l.ev.length).pc.getD i pc0)] } := by rw [to_y q]; unfold toF addR gluB; rw [c2, c3, c1, c0, he]; rfl
      refine ⟨.inr (i + 1), ⟨by omega, by rw [e]; exact Nat.zero_lt_one⟩, by show (mcN t l l.ev.length).pc.length - (i + 1) < (mcN t l l.ev.length).pc.length - i; omega, ?_⟩
      show StTo _ _ _ [(0, .yld 15), (2, .ptr 14 0), (9, .own 7 ((mcN t l l.ev.length).pc.length + 1)), (10, .int .i64 (mcN t l l.ev.length).pc.length), (11, .int .i64 ((i + 1 : Nat)))] [.box (trfC t), .box (logC l (evS l.ev)), .box [.int .i64 0, .int .i64 0, .bool false, .slc0, .slc0], .box (mcCk t l (mcN t l l.ev.length) 4 5 6 7), mxO (mcN t l l.ev.length).ex (mxV (mcN t l l.ev.length)), trO (mcN t l l.ev.length).tr, zsO (mcN t l l.ev.length).zs, pcO (mcN t l l.ev.length).pc, .box [.bool (toN j (mcN t l l.ev.length).pc (i + 1)).sp], .box [.bool (toN j (mcN t l l.ev.length).pc (i + 1)).op], .box [.bool (toN j (mcN t l l.ev.length).pc (i + 1)).pa], .box [.bool (toN j (mcN t l l.ev.length).pc (i + 1)).la], .box [.own 18 (toN j (mcN t l l.ev.length).pc (i + 1)).rs.length], .box [.ptr 3 0], .box [.int .i64 j], _, .dead, .dead, .list 140 7 (toN j (mcN t l l.ev.length).pc (i + 1)).rs.length (fun a b => tbl (pcC ((toN j (mcN t l l.ev.length).pc (i + 1)).rs.getD a pc0)) b) (toN j (mcN t l l.ev.length).pc (i + 1)).rs.length]
      rw [e]
      refine .le ⟨by kernel_rfl, ⟨.refl _, .refl _, .refl _, .refl _, .refl _, .refl _, .refl _, .refl _, .refl _, .refl _, .refl _, .refl _, .refl _, .refl _, .refl _, .refl _, .dead _, .dead _, .list (fun a b ha hb => ?_), trivial⟩, ⟨.refl _, .refl _, .refl _, .refl _, .intI (by omega), trivial⟩⟩
      replace ha : a < 1 := ha
      obtain rfl : a = 0 := by omega
      refine .ofEq ?_
      show tbl (pcC ((mcN t l l.ev.length).pc.getD (i : Int).toNat pc0)) (0 * 7 + b) = tbl (pcC ([((mcN t l l.ev.length).pc.getD i pc0)].getD 0 pc0)) b
      rw [Int.toNat_natCast, Nat.zero_mul, Nat.zero_add]; rfl
    · have lt : i < (mcN t l l.ev.length).pc.length := (by have q := of_decide_eq_true ‹decide ((i : Int) < ((mcN t l l.ev.length).pc.length : Int)) = true›; omega)
      have q := ‹sameB ((bif ((mcN t l l.ev.length).pc.getD (i : Int).toNat pc0).tr == (j : Int) then ((mcN t l l.ev.length).pc.getD (i : Int).toNat pc0).ps != 0 else false)) true = true›; rw [sameB_t, Int.toNat_natCast] at q
      have c2 := ‹(((mcN t l l.ev.length).pc.getD (i : Int).toNat pc0).ps == 2) = false›; rw [Int.toNat_natCast] at c2
      have c3 := ‹(((mcN t l l.ev.length).pc.getD (i : Int).toNat pc0).ps == 3) = false›; rw [Int.toNat_natCast] at c3
      have c1 := ‹(((mcN t l l.ev.length).pc.getD (i : Int).toNat pc0).ps == 1) = false›; rw [Int.toNat_natCast] at c1
      have e : toN (j : Int) (mcN t l l.ev.length).pc (i + 1) = (toN j (mcN t l l.ev.length).pc (i)) := by rw [to_y q]; unfold toF; rw [c2, c3, c1]; rfl
      refine ⟨.inl (i + 1), ⟨by omega, by rw [e]; exact he⟩, by show (mcN t l l.ev.length).pc.length - (i + 1) < (mcN t l l.ev.length).pc.length - i; omega, ?_⟩
      show StTo _ _ _ [(0, .yld 15), (2, .ptr 14 0), (9, .own 7 ((mcN t l l.ev.length).pc.length + 1)), (10, .int .i64 (mcN t l l.ev.length).pc.length), (11, .int .i64 ((i + 1 : Nat)))] [.box (trfC t), .box (logC l (evS l.ev)), .box [.int .i64 0, .int .i64 0, .bool false, .slc0, .slc0], .box (mcCk t l (mcN t l l.ev.length) 4 5 6 7), mxO (mcN t l l.ev.length).ex (mxV (mcN t l l.ev.length)), trO (mcN t l l.ev.length).tr, zsO (mcN t l l.ev.length).zs, pcO (mcN t l l.ev.length).pc, .box [.bool (toN j (mcN t l l.ev.length).pc (i + 1)).sp], .box [.bool (toN j (mcN t l l.ev.length).pc (i + 1)).op], .box [.bool (toN j (mcN t l l.ev.length).pc (i + 1)).pa], .box [.bool (toN j (mcN t l l.ev.length).pc (i + 1)).la], .box [.slc0], .box [.ptr 3 0], .box [.int .i64 j], _]
      rw [e]
      exact .le ⟨by kernel_rfl, ⟨.refl _, .refl _, .refl _, .refl _, .refl _, .refl _, .refl _, .refl _, .refl _, .refl _, .refl _, .refl _, .refl _, .refl _, .refl _, .refl _, trivial⟩, ⟨.refl _, .refl _, .refl _, .refl _, .intI (by omega), trivial⟩⟩
    · have lt : i < (mcN t l l.ev.length).pc.length := (by have q := of_decide_eq_true ‹decide ((i : Int) < ((mcN t l l.ev.length).pc.length : Int)) = true›; omega)
      have q := ‹sameB ((bif ((mcN t l l.ev.length).pc.getD (i : Int).toNat pc0).tr == (j : Int) then ((mcN t l l.ev.length).pc.getD (i : Int).toNat pc0).ps != 0 else false)) true = false›; rw [sameB_t, Int.toNat_natCast] at q
      have e : toN (j : Int) (mcN t l l.ev.length).pc (i + 1) = (toN j (mcN t l l.ev.length).pc (i)) := to_n q
      refine ⟨.inl (i + 1), ⟨by omega, by rw [e]; exact he⟩, by show (mcN t l l.ev.length).pc.length - (i + 1) < (mcN t l l.ev.length).pc.length - i; omega, ?_⟩
      show StTo _ _ _ [(0, .yld 15), (2, .ptr 14 0), (9, .own 7 ((mcN t l l.ev.length).pc.length + 1)), (10, .int .i64 (mcN t l l.ev.length).pc.length), (11, .int .i64 ((i + 1 : Nat)))] [.box (trfC t), .box (logC l (evS l.ev)), .box [.int .i64 0, .int .i64 0, .bool false, .slc0, .slc0], .box (mcCk t l (mcN t l l.ev.length) 4 5 6 7), mxO (mcN t l l.ev.length).ex (mxV (mcN t l l.ev.length)), trO (mcN t l l.ev.length).tr, zsO (mcN t l l.ev.length).zs, pcO (mcN t l l.ev.length).pc, .box [.bool (toN j (mcN t l l.ev.length).pc (i + 1)).sp], .box [.bool (toN j (mcN t l l.ev.length).pc (i + 1)).op], .box [.bool (toN j (mcN t l l.ev.length).pc (i + 1)).pa], .box [.bool (toN j (mcN t l l.ev.length).pc (i + 1)).la], .box [.slc0], .box [.ptr 3 0], .box [.int .i64 j], _]
      rw [e]
      exact .le ⟨by kernel_rfl, ⟨.refl _, .refl _, .refl _, .refl _, .refl _, .refl _, .refl _, .refl _, .refl _, .refl _, .refl _, .refl _, .refl _, .refl _, .refl _, .refl _, trivial⟩, ⟨.refl _, .refl _, .refl _, .refl _, .intI (by omega), trivial⟩⟩
    · have lt : i < (mcN t l l.ev.length).pc.length := (by have q := of_decide_eq_true ‹decide ((i : Int) < ((mcN t l l.ev.length).pc.length : Int)) = true›; omega)
      have q := ‹sameB (((mcN t l l.ev.length).pc.getD (i : Int).toNat pc0).tr == (j : Int)) true = false›; rw [sameB_t, Int.toNat_natCast] at q
      have e : toN (j : Int) (mcN t l l.ev.length).pc (i + 1) = (toN j (mcN t l l.ev.length).pc (i)) := to_n (by unfold inT; rw [q]; rfl)
      refine ⟨.inl (i + 1), ⟨by omega, by rw [e]; exact he⟩, by show (mcN t l l.ev.length).pc.length - (i + 1) < (mcN t l l.ev.length).pc.length - i; omega, ?_⟩
      show StTo _ _ _ [(0, .yld 15), (2, .ptr 14 0), (9, .own 7 ((mcN t l l.ev.length).pc.length + 1)), (10, .int .i64 (mcN t l l.ev.length).pc.length), (11, .int .i64 ((i + 1 : Nat)))] [.box (trfC t), .box (logC l (evS l.ev)), .box [.int .i64 0, .int .i64 0, .bool false, .slc0, .slc0], .box (mcCk t l (mcN t l l.ev.length) 4 5 6 7), mxO (mcN t l l.ev.length).ex (mxV (mcN t l l.ev.length)), trO (mcN t l l.ev.length).tr, zsO (mcN t l l.ev.length).zs, pcO (mcN t l l.ev.length).pc, .box [.bool (toN j (mcN t l l.ev.length).pc (i + 1)).sp], .box [.bool (toN j (mcN t l l.ev.length).pc (i + 1)).op], .box [.bool (toN j (mcN t l l.ev.length).pc (i + 1)).pa], .box [.bool (toN j (mcN t l l.ev.length).pc (i + 1)).la], .box [.slc0], .box [.ptr 3 0], .box [.int .i64 j], _]
      rw [e]
      exact .le ⟨by kernel_rfl, ⟨.refl _, .refl _, .refl _, .refl _, .refl _, .refl _, .refl _, .refl _, .refl _, .refl _, .refl _, .refl _, .refl _, .refl _, .refl _, .refl _, trivial⟩, ⟨.refl _, .refl _, .refl _, .refl _, .intI (by omega), trivial⟩⟩

    all_goals (have qi := of_decide_eq_false ‹decide ((i : Int) < ((mcN t l l.ev.length).pc.length : Int)) = false›; obtain rfl : i = (mcN t l l.ev.length).pc.length := (by omega))
    · have q1 := bne_iff_ne.1 ‹((firstS [bif !(toN j (mcN t l l.ev.length).pc ((mcN t l l.ev.length).pc.length)).sp then 0 else 22, bif bif !(toN j (mcN t l l.ev.length).pc ((mcN t l l.ev.length).pc.length)).op then !(toN j (mcN t l l.ev.length).pc ((mcN t l l.ev.length).pc.length)).la else false then 0 else 23, bif bif ((0 : Nat) : Int) == 0 then true else 0 == (mcN t l l.ev.length).zs.getD (j : Int).toNat 0 then 0 else 13]) != 0) = true›
      have hh : toH t l j = (firstS [bif !(toN j (mcN t l l.ev.length).pc ((mcN t l l.ev.length).pc.length)).sp then 0 else 22, bif bif !(toN j (mcN t l l.ev.length).pc ((mcN t l l.ev.length).pc.length)).op then !(toN j (mcN t l l.ev.length).pc ((mcN t l l.ev.length).pc.length)).la else false then 0 else 23, bif bif ((0 : Nat) : Int) == 0 then true else 0 == (mcN t l l.ev.length).zs.getD (j : Int).toNat 0 then 0 else 13]) := by unfold toH toZ isOk toQ; rw [he]; rfl
      have e1 : toE t l j = (firstS [bif !(toN j (mcN t l l.ev.length).pc ((mcN t l l.ev.length).pc.length)).sp then 0 else 22, bif bif !(toN j (mcN t l l.ev.length).pc ((mcN t l l.ev.length).pc.length)).op then !(toN j (mcN t l l.ev.length).pc ((mcN t l l.ev.length).pc.length)).la else false then 0 else 23, bif bif ((0 : Nat) : Int) == 0 then true else 0 == (mcN t l l.ev.length).zs.getD (j : Int).toNat 0 then 0 else 13]) := toE_h hh q1
      have e2 : toR t l j = .tup 2 (tbl [.agg 5 (tbl [.int .i64 0, .int .i64 0, .bool false, .slc0, .slc0]), .int .i64 (firstS [bif !(toN j (mcN t l l.ev.length).pc ((mcN t l l.ev.length).pc.length)).sp then 0 else 22, bif bif !(toN j (mcN t l l.ev.length).pc ((mcN t l l.ev.length).pc.length)).op then !(toN j (mcN t l l.ev.length).pc ((mcN t l l.ev.length).pc.length)).la else false then 0 else 23, bif bif ((0 : Nat) : Int) == 0 then true else 0 == (mcN t l l.ev.length).zs.getD (j : Int).toNat 0 then 0 else 13])]) := by rw [toR_e (by rw [e1]; exact q1), e1]; rfl
      rw [e2]
      exact .mk [] [] _ rfl (.le (.tups ⟨⟨trivial, .aggs ⟨⟨⟨⟨⟨trivial, .refl _⟩, .refl _⟩, .refl _⟩, .refl _⟩, .refl _⟩⟩, .refl _⟩)) trivial rfl
    · exact .of (by omega)
    · have q1 := bne_eq_false_iff_eq.1 ‹((firstS [bif !(toN j (mcN t l l.ev.length).pc ((mcN t l l.ev.length).pc.length)).sp then 0 else 22, bif bif !(toN j (mcN t l l.ev.length).pc ((mcN t l l.ev.length).pc.length)).op then !(toN j (mcN t l l.ev.length).pc ((mcN t l l.ev.length).pc.length)).la else false then 0 else 23, bif bif ((0 : Nat) : Int) == 0 then true else 0 == (mcN t l l.ev.length).zs.getD (j : Int).toNat 0 then 0 else 13]) != 0) = false›
      have hh : toH t l j = (firstS [bif !(toN j (mcN t l l.ev.length).pc ((mcN t l l.ev.length).pc.length)).sp then 0 else 22, bif bif !(toN j (mcN t l l.ev.length).pc ((mcN t l l.ev.length).pc.length)).op then !(toN j (mcN t l l.ev.length).pc ((mcN t l l.ev.length).pc.length)).la else false then 0 else 23, bif bif ((0 : Nat) : Int) == 0 then true else 0 == (mcN t l l.ev.length).zs.getD (j : Int).toNat 0 then 0 else 13]) := by unfold toH toZ isOk toQ; rw [he]; rfl
      rw [q1] at hh
      refine ⟨Unit, fun _ => ([(4, .ptr 1 0), (6, .ptr 2 0), (14, .ptr 12 0), (20, .ptr 17 0), (21, .bool true), (133, .slc0), (134, .int .i64 (0 : Nat)), (135, .int .i64 ((0 : Nat)))], [.dead, .box (logC l (evS l.ev)), .box [.int .i64 0, .int .i64 0, .bool false, .slc0, .slc0], .dead, .dead, .dead, .dead, .dead, .dead, .dead, .dead, .dead, .box [.slc0], .dead, .dead, .dead, .dead, .box [.int .i64 ((mcN t l l.ev.length).tr.getD (j : Int).toNat mtp0).d, .int .i64 ((mcN t l l.ev.length).tr.getD (j : Int).toNat mtp0).s, .bool false, iRow ((mcN t l l.ev.length).tr.getD (j : Int).toNat mtp0).ex, .slc0]]), fun _ => True, fun _ => 0, ⟨(), trivial, .le ⟨by kernel_rfl, ⟨.dead _, .refl _, .refl _, .dead _, .dead _, .dead _, .dead _, .dead _, .dead _, .dead _, .dead _, .dead _, .refl _, .dead _, .dead _, .dead _, .dead _, .refl _, trivial⟩, ⟨.refl _, .refl _, .refl _, .refl _, .refl _, .refl _, .refl _, .refl _, trivial⟩⟩⟩, fun _ _ => ?_⟩
      have hI : decide (((0 : Nat) : Int) < ((0 : Nat) : Int)) = true → False := fun q => by cases q
      repeat' (first
        | ((with_reducible refine (?_ : Alt _ _)); first | (with_reducible apply callAlt (c72 hX _ _)) | (with_reducible apply callAlt (c49 hX _ _)) | ((with_reducible apply callAlt (c48_2 hX _ _)); case hl => (first | exact ⟨le_slc2 rfl rfl, trivial⟩ | exact ⟨le_slc3 rfl rfl rfl, trivial⟩ | exact ⟨le_slc5 rfl rfl rfl rfl rfl, trivial⟩ | exact AllLe.refl _)) | ((with_reducible apply callAlt (c48_3 hX _ _ _)); case hl => (first | exact ⟨le_slc2 rfl rfl, trivial⟩ | exact ⟨le_slc3 rfl rfl rfl, trivial⟩ | exact ⟨le_slc5 rfl rfl rfl rfl rfl, trivial⟩ | exact AllLe.refl _)) | (with_reducible apply callAlt (c73 hX _ ?_)) | (with_reducible refine Alt.one ?_))
        | ((with_reducible refine Ar.go ?_); first | exact ⟨le_slc2 rfl rfl, trivial⟩ | exact ⟨le_slc3 rfl rfl rfl, trivial⟩ | exact AllLe.refl _ | (repeat' (first | exact trivial | apply Le.aggs | apply Le.tups | apply Le.fns | exact Le.refl _ | refine ⟨?_, ?_⟩)))
        | with_reducible refine Ac.go ?_
        | ((with_reducible refine Rf.go ?_); rfl)
        | with_reducible refine nodupB_spec ?_
        | ((with_reducible refine Kf.go ?_); kernel_rfl)
        | ((with_reducible refine Lo.go ?_); first | exact LeOks.ofEq (by kernel_rfl) | (repeat' first | exact trivial | refine ⟨.refl _, ?_⟩))
        | ((fail_if_success with_reducible refine Stop.go ?_); (first | with_reducible refine And.intro ?_ ?_ | with_reducible refine Cut.go ?_ | (with_reducible (refine impI ?_; intro _); try (first | with_reducible exact (hI ‹_›).elim)) | (with_reducible refine stuckI (by simp only [beqvv]; with_unfolding_all rfl) ?_) | ((with_reducible refine propI ?_); conv => whnf))))
      all_goals try (exact .of (Nat.le_of_ble_eq_true rfl))
      · have q1 := bne_iff_ne.1 ‹((firstS [bif decide (0 < ((0 : Nat) : Int)) then 0 else 12, bif (bif true then decide (((0 : Nat) : Int) ≤ 60) else false) then 0 else 8]) != 0) = true›
        have hd : toD t l j = true := by unfold toD toQ; rw [he]; rfl
        have ht : toT t l j = (firstS [bif decide (0 < ((0 : Nat) : Int)) then 0 else 12, bif (bif true then decide (((0 : Nat) : Int) ≤ 60) else false) then 0 else 8]) := by unfold toT toQ isOk; rw [he]; rfl
        have e1 : toE t l j = (firstS [bif decide (0 < ((0 : Nat) : Int)) then 0 else 12, bif (bif true then decide (((0 : Nat) : Int) ≤ 60) else false) then 0 else 8]) := (toE_t hh hd).trans ht
        have e2 : toR t l j = .tup 2 (tbl [.agg 5 (tbl [.int .i64 0, .int .i64 0, .bool false, .slc0, .slc0]), .int .i64 (firstS [bif decide (0 < ((0 : Nat) : Int)) then 0 else 12, bif (bif true then decide (((0 : Nat) : Int) ≤ 60) else false) then 0 else 8])]) := by rw [toR_e (by rw [e1]; exact q1), e1]; rfl
        rw [e2]
        exact .mk [] [] _ rfl (.le (.tups ⟨⟨trivial, .aggs ⟨⟨⟨⟨⟨trivial, .refl _⟩, .refl _⟩, .refl _⟩, .refl _⟩, .refl _⟩⟩, .refl _⟩)) trivial rfl
      · exfalso
        have q1 := bne_eq_false_iff_eq.1 ‹((firstS [bif decide (0 < ((0 : Nat) : Int)) then 0 else 12, bif (bif true then decide (((0 : Nat) : Int) ≤ 60) else false) then 0 else 8]) != 0) = false›
        exact absurd q1 (by decide)
    · refine Side.mk ?_
      rw [Int.toNat_natCast]
      have := (iv.tr j hj).exl; have := (trf_ext g.trf).1; omega

  · obtain ⟨hi, he⟩ := hy
    have tb := (to_bd (j := (j : Int)) i hi ivp)
    have sq := suQ_le ivp i (mcN t l l.ev.length).pc.length hi (Nat.le_refl _)
    have sq0 := suQ_le ivp 0 i (Nat.zero_le _) hi
    simp only [suQ, suT] at sq0
    repeat' (first
      | ((with_reducible refine (?_ : Alt _ _)); first | (with_reducible apply callAlt (c72 hX ((toN j (mcN t l l.ev.length).pc (i)).rs.getD (((toN j (mcN t l l.ev.length).pc (i)).rs.length : Int) - 1).toNat pc0) _)) | (with_reducible apply callAlt (c49 hX _ _)) | ((with_reducible apply callAlt (c48_2 hX _ _)); case hl => (first | exact ⟨le_slc2 rfl rfl, trivial⟩ | exact ⟨le_slc3 rfl rfl rfl, trivial⟩ | exact ⟨le_slc5 rfl rfl rfl rfl rfl, trivial⟩ | exact AllLe.refl _)) | ((with_reducible apply callAlt (c48_3 hX _ _ _)); case hl => (first | exact ⟨le_slc2 rfl rfl, trivial⟩ | exact ⟨le_slc3 rfl rfl rfl, trivial⟩ | exact ⟨le_slc5 rfl rfl rfl rfl rfl, trivial⟩ | exact AllLe.refl _)) | (with_reducible apply callAlt (c73 hX _ ?_)) | (with_reducible refine Alt.one ?_))
      | ((with_reducible refine Ar.go ?_); first | exact ⟨le_slc2 rfl rfl, trivial⟩ | exact ⟨le_slc3 rfl rfl rfl, trivial⟩ | exact AllLe.refl _ | (repeat' (first | exact trivial | apply Le.aggs | apply Le.tups | apply Le.fns | exact Le.refl _ | refine ⟨?_, ?_⟩)))
      | with_reducible refine Ac.go ?_
      | ((with_reducible refine Rf.go ?_); rfl)
      | with_reducible refine nodupB_spec ?_
      | ((with_reducible refine Kf.go ?_); kernel_rfl)
      | ((with_reducible refine Lo.go ?_); first | exact LeOks.ofEq (by kernel_rfl) | (repeat' first | exact trivial | refine ⟨.refl _, ?_⟩))
      | ((fail_if_success with_reducible refine Stop.go ?_); (first | with_reducible refine And.intro ?_ ?_ | with_reducible refine Cut.go ?_ | (with_reducible (refine impI ?_; intro _); try (first | with_reducible exact (hA _ ‹_› ‹_›).elim | with_reducible exact (hB _ ‹_›).elim | with_reducible exact (hC _ _ ‹_› ‹_›).elim | with_reducible exact (hD ‹_›).elim | with_reducible exact (hE ‹_›).elim | with_reducible exact (hF ‹_›).elim | with_reducible exact (hG _ ‹_›).elim | with_reducible exact (hH _ ‹_› he).elim)) | (with_reducible refine stuckI (by simp only [beqvv]; with_unfolding_all rfl) ?_) | ((with_reducible refine propI ?_); conv => whnf))))
    all_goals try (exact .of (Nat.le_of_ble_eq_true rfl))
    all_goals try (have lt : i < (mcN t l l.ev.length).pc.length := (by have q := of_decide_eq_true ‹decide ((i : Int) < ((mcN t l l.ev.length).pc.length : Int)) = true›; omega); first | exact .of ⟨by omega, by omega⟩ | exact .of (by omega))
    all_goals try (exact .of (by have q := ‹sameB ((bif ((mcN t l l.ev.length).pc.getD (i : Int).toNat pc0).tr == (j : Int) then ((mcN t l l.ev.length).pc.getD (i : Int).toNat pc0).ps != 0 else false)) true = false›; rwa [sameB_t] at q))
    all_goals try (exact .of (by have q := ‹sameB (((mcN t l l.ev.length).pc.getD (i : Int).toNat pc0).tr == (j : Int)) true = false›; rwa [sameB_t] at q))
    all_goals try (exact .of rfl)
    all_goals try (exact Sc.imp fun _ => ⟨by omega, by omega⟩)
    all_goals try (exact Sc.imp fun _ => by omega)
    all_goals try (exact Le.refl _)
    all_goals try (exact .of ⟨by omega, by omega⟩)
    all_goals try (have lt : i < (mcN t l l.ev.length).pc.length := (by have q := of_decide_eq_true ‹decide ((i : Int) < ((mcN t l l.ev.length).pc.length : Int)) = true›; omega); have o := ivp i lt; have o1 := o.tk; have sq1 := suQ_le ivp (i + 1) (mcN t l l.ev.length).pc.length (by omega) (Nat.le_refl _); simp only [suQ, suT] at sq1; have r := (tb.2 (((toN j (mcN t l l.ev.length).pc (i)).rs.length : Int) - 1).toNat (by omega)).tk; first | exact .of ⟨by omega, by omega⟩ | (refine Sc.of ?_; rw [Int.toNat_natCast]; exact ⟨by omega, by omega⟩))
    all_goals try (exact Sc.of ⟨show ((toN j (mcN t l l.ev.length).pc (i)).rs.length + (0 + 1)) * 56 ≤ 140737488355328 by omega, show (toN j (mcN t l l.ev.length).pc (i)).rs.length + (0 + 1) ≤ 9223372036854775807 by omega⟩)
    · have lt : i < (mcN t l l.ev.length).pc.length := (by have q := of_decide_eq_true ‹decide ((i : Int) < ((mcN t l l.ev.length).pc.length : Int)) = true›; omega)
      have q := ‹sameB ((bif ((mcN t l l.ev.length).pc.getD (i : Int).toNat pc0).tr == (j : Int) then ((mcN t l l.ev.length).pc.getD (i : Int).toNat pc0).ps != 0 else false)) true = true›; rw [sameB_t, Int.toNat_natCast] at q
      have c2 := ‹(((mcN t l l.ev.length).pc.getD (i : Int).toNat pc0).ps == 2) = true›; rw [Int.toNat_natCast] at c2
      have e : toN (j : Int) (mcN t l l.ev.length).pc (i + 1) = { (toN j (mcN t l l.ev.length).pc (i)) with sp := true } := by rw [to_y q]; unfold toF; rw [c2]; rfl
      refine ⟨.inr (i + 1), ⟨by omega, by rw [e]; exact he⟩, by show (mcN t l l.ev.length).pc.length - (i + 1) < (mcN t l l.ev.length).pc.length - i; omega, ?_⟩
      show StTo _ _ _ [(0, .yld 15), (2, .ptr 14 0), (9, .own 7 ((mcN t l l.ev.length).pc.length + 1)), (10, .int .i64 (mcN t l l.ev.length).pc.length), (11, .int .i64 ((i + 1 : Nat)))] [.box (trfC t), .box (logC l (evS l.ev)), .box [.int .i64 0, .int .i64 0, .bool false, .slc0, .slc0], .box (mcCk t l (mcN t l l.ev.length) 4 5 6 7), mxO (mcN t l l.ev.length).ex (mxV (mcN t l l.ev.length)), trO (mcN t l l.ev.length).tr, zsO (mcN t l l.ev.length).zs, pcO (mcN t l l.ev.length).pc, .box [.bool (toN j (mcN t l l.ev.length).pc (i + 1)).sp], .box [.bool (toN j (mcN t l l.ev.length).pc (i + 1)).op], .box [.bool (toN j (mcN t l l.ev.length).pc (i + 1)).pa], .box [.bool (toN j (mcN t l l.ev.length).pc (i + 1)).la], .box [.own 18 (toN j (mcN t l l.ev.length).pc (i + 1)).rs.length], .box [.ptr 3 0], .box [.int .i64 j], _, .dead, .dead, .list 140 7 (toN j (mcN t l l.ev.length).pc (i + 1)).rs.length (fun a b => tbl (pcC ((toN j (mcN t l l.ev.length).pc (i + 1)).rs.getD a pc0)) b) (toN j (mcN t l l.ev.length).pc (i + 1)).rs.length]
      rw [e]
      exact .le ⟨by kernel_rfl, ⟨.refl _, .refl _, .refl _, .refl _, .refl _, .refl _, .refl _, .refl _, .refl _, .refl _, .refl _, .refl _, .refl _, .refl _, .refl _, .refl _, .refl _, .refl _, .refl _, trivial⟩, ⟨.refl _, .refl _, .refl _, .refl _, .intI (by omega), trivial⟩⟩
    · have lt : i < (mcN t l l.ev.length).pc.length := (by have q := of_decide_eq_true ‹decide ((i : Int) < ((mcN t l l.ev.length).pc.length : Int)) = true›; omega)
      have q := ‹sameB ((bif ((mcN t l l.ev.length).pc.getD (i : Int).toNat pc0).tr == (j : Int) then ((mcN t l l.ev.length).pc.getD (i : Int).toNat pc0).ps != 0 else false)) true = true›; rw [sameB_t, Int.toNat_natCast] at q
      have c2 := ‹(((mcN t l l.ev.length).pc.getD (i : Int).toNat pc0).ps == 2) = false›; rw [Int.toNat_natCast] at c2
      have c3 := ‹(((mcN t l l.ev.length).pc.getD (i : Int).toNat pc0).ps == 3) = true›; rw [Int.toNat_natCast] at c3
      have e : toN (j : Int) (mcN t l l.ev.length).pc (i + 1) = { (toN j (mcN t l l.ev.length).pc (i)) with pa := true } := by rw [to_y q]; unfold toF; rw [c2, c3]; rfl
      refine ⟨.inr (i + 1), ⟨by omega, by rw [e]; exact he⟩, by show (mcN t l l.ev.length).pc.length - (i + 1) < (mcN t l l.ev.length).pc.length - i; omega, ?_⟩
      show StTo _ _ _ [(0, .yld 15), (2, .ptr 14 0), (9, .own 7 ((mcN t l l.ev.length).pc.length + 1)), (10, .int .i64 (mcN t l l.ev.length).pc.length), (11, .int .i64 ((i + 1 : Nat)))] [.box (trfC t), .box (logC l (evS l.ev)), .box [.int .i64 0, .int .i64 0, .bool false, .slc0, .slc0], .box (mcCk t l (mcN t l l.ev.length) 4 5 6 7), mxO (mcN t l l.ev.length).ex (mxV (mcN t l l.ev.length)), trO (mcN t l l.ev.length).tr, zsO (mcN t l l.ev.length).zs, pcO (mcN t l l.ev.length).pc, .box [.bool (toN j (mcN t l l.ev.length).pc (i + 1)).sp], .box [.bool (toN j (mcN t l l.ev.length).pc (i + 1)).op], .box [.bool (toN j (mcN t l l.ev.length).pc (i + 1)).pa], .box [.bool (toN j (mcN t l l.ev.length).pc (i + 1)).la], .box [.own 18 (toN j (mcN t l l.ev.length).pc (i + 1)).rs.length], .box [.ptr 3 0], .box [.int .i64 j], _, .dead, .dead, .list 140 7 (toN j (mcN t l l.ev.length).pc (i + 1)).rs.length (fun a b => tbl (pcC ((toN j (mcN t l l.ev.length).pc (i + 1)).rs.getD a pc0)) b) (toN j (mcN t l l.ev.length).pc (i + 1)).rs.length]
      rw [e]
      exact .le ⟨by kernel_rfl, ⟨.refl _, .refl _, .refl _, .refl _, .refl _, .refl _, .refl _, .refl _, .refl _, .refl _, .refl _, .refl _, .refl _, .refl _, .refl _, .refl _, .refl _, .refl _, .refl _, trivial⟩, ⟨.refl _, .refl _, .refl _, .refl _, .intI (by omega), trivial⟩⟩
    · have lt : i < (mcN t l l.ev.length).pc.length := (by have q := of_decide_eq_true ‹decide ((i : Int) < ((mcN t l l.ev.length).pc.length : Int)) = true›; omega)
      have q := ‹sameB ((bif ((mcN t l l.ev.length).pc.getD (i : Int).toNat pc0).tr == (j : Int) then ((mcN t l l.ev.length).pc.getD (i : Int).toNat pc0).ps != 0 else false)) true = true›; rw [sameB_t, Int.toNat_natCast] at q
      have c2 := ‹(((mcN t l l.ev.length).pc.getD (i : Int).toNat pc0).ps == 2) = false›; rw [Int.toNat_natCast] at c2
      have c3 := ‹(((mcN t l l.ev.length).pc.getD (i : Int).toNat pc0).ps == 3) = false›; rw [Int.toNat_natCast] at c3
      have c1 := ‹(((mcN t l l.ev.length).pc.getD (i : Int).toNat pc0).ps == 1) = true›; rw [Int.toNat_natCast] at c1
      have c0 := ‹(((mcN t l l.ev.length).pc.getD (i : Int).toNat pc0).tk == 0) = true›; rw [Int.toNat_natCast] at c0
      have e : toN (j : Int) (mcN t l l.ev.length).pc (i + 1) = { (toN j (mcN t l l.ev.length).pc (i)) with op := true } := by rw [to_y q]; unfold toF; rw [c2, c3, c1, c0]; rfl
      refine ⟨.inr (i + 1), ⟨by omega, by rw [e]; exact he⟩, by show (mcN t l l.ev.length).pc.length - (i + 1) < (mcN t l l.ev.length).pc.length - i; omega, ?_⟩
      show StTo _ _ _ [(0, .yld 15), (2, .ptr 14 0), (9, .own 7 ((mcN t l l.ev.length).pc.length + 1)), (10, .int .i64 (mcN t l l.ev.length).pc.length), (11, .int .i64 ((i + 1 : Nat)))] [.box (trfC t), .box (logC l (evS l.ev)), .box [.int .i64 0, .int .i64 0, .bool false, .slc0, .slc0], .box (mcCk t l (mcN t l l.ev.length) 4 5 6 7), mxO (mcN t l l.ev.length).ex (mxV (mcN t l l.ev.length)), trO (mcN t l l.ev.length).tr, zsO (mcN t l l.ev.length).zs, pcO (mcN t l l.ev.length).pc, .box [.bool (toN j (mcN t l l.ev.length).pc (i + 1)).sp], .box [.bool (toN j (mcN t l l.ev.length).pc (i + 1)).op], .box [.bool (toN j (mcN t l l.ev.length).pc (i + 1)).pa], .box [.bool (toN j (mcN t l l.ev.length).pc (i + 1)).la], .box [.own 18 (toN j (mcN t l l.ev.length).pc (i + 1)).rs.length], .box [.ptr 3 0], .box [.int .i64 j], _, .dead, .dead, .list 140 7 (toN j (mcN t l l.ev.length).pc (i + 1)).rs.length (fun a b => tbl (pcC ((toN j (mcN t l l.ev.length).pc (i + 1)).rs.getD a pc0)) b) (toN j (mcN t l l.ev.length).pc (i + 1)).rs.length]
      rw [e]
      exact .le ⟨by kernel_rfl, ⟨.refl _, .refl _, .refl _, .refl _, .refl _, .refl _, .refl _, .refl _, .refl _, .refl _, .refl _, .refl _, .refl _, .refl _, .refl _, .refl _, .refl _, .refl _, .refl _, trivial⟩, ⟨.refl _, .refl _, .refl _, .refl _, .intI (by omega), trivial⟩⟩
    · have lt : i < (mcN t l l.ev.length).pc.length := (by have q := of_decide_eq_true ‹decide ((i : Int) < ((mcN t l l.ev.length).pc.length : Int)) = true›; omega)
      have q := ‹sameB ((bif ((mcN t l l.ev.length).pc.getD (i : Int).toNat pc0).tr == (j : Int) then ((mcN t l l.ev.length).pc.getD (i : Int).toNat pc0).ps != 0 else false)) true = true›; rw [sameB_t, Int.toNat_natCast] at q
      have c2 := ‹(((mcN t l l.ev.length).pc.getD (i : Int).toNat pc0).ps == 2) = false›; rw [Int.toNat_natCast] at c2
      have c3 := ‹(((mcN t l l.ev.length).pc.getD (i : Int).toNat pc0).ps == 3) = false›; rw [Int.toNat_natCast] at c3
      have c1 := ‹(((mcN t l l.ev.length).pc.getD (i : Int).toNat pc0).ps == 1) = true›; rw [Int.toNat_natCast] at c1
      have c0 := ‹(((mcN t l l.ev.length).pc.getD (i : Int).toNat pc0).tk == 0) = false›; rw [Int.toNat_natCast] at c0
      have cg := ‹(bif decide (0 < ((toN j (mcN t l l.ev.length).pc (i)).rs.length : Int)) then likeP ((toN j (mcN t l l.ev.length).pc (i)).rs.getD (((toN j (mcN t l l.ev.length).pc (i)).rs.length : Int) - 1).toNat pc0) ((mcN t l l.ev.length).pc.getD (i : Int).toNat pc0) else false) = true›; rw [Int.toNat_natCast, glu_of he] at cg
      have e : toN (j : Int) (mcN t l l.ev.length).pc (i + 1) = { (toN j (mcN t l l.ev.length).pc (i)) with la := bif (toN j (mcN t l l.ev.length).pc (i)).la then true else (toN j (mcN t l l.ev.length).pc (i)).pa, rs := setL (toN j (mcN t l l.ev.length).pc (i)).rs ((mcN t l l.ev.length).pc.getD i pc0).tk } := by rw [to_y q]; unfold toF addR; rw [c2, c3, c1, c0, cg]; rfl
      refine ⟨.inr (i + 1), ⟨by omega, by rw [e]; show 0 < (setL _ _).length; rw [setL_len]; exact he⟩, by show (mcN t l l.ev.length).pc.length - (i + 1) < (mcN t l l.ev.length).pc.length - i; omega, ?_⟩
      show StTo _ _ _ [(0, .yld 15), (2, .ptr 14 0), (9, .own 7 ((mcN t l l.ev.length).pc.length + 1)), (10, .int .i64 (mcN t l l.ev.length).pc.length), (11, .int .i64 ((i + 1 : Nat)))] [.box (trfC t), .box (logC l (evS l.ev)), .box [.int .i64 0, .int .i64 0, .bool false, .slc0, .slc0], .box (mcCk t l (mcN t l l.ev.length) 4 5 6 7), mxO (mcN t l l.ev.length).ex (mxV (mcN t l l.ev.length)), trO (mcN t l l.ev.length).tr, zsO (mcN t l l.ev.length).zs, pcO (mcN t l l.ev.length).pc, .box [.bool (toN j (mcN t l l.ev.length).pc (i + 1)).sp], .box [.bool (toN j (mcN t l l.ev.length).pc (i + 1)).op], .box [.bool (toN j (mcN t l l.ev.length).pc (i + 1)).pa], .box [.bool (toN j (mcN t l l.ev.length).pc (i + 1)).la], .box [.own 18 (toN j (mcN t l l.ev.length).pc (i + 1)).rs.length], .box [.ptr 3 0], .box [.int .i64 j], _, .dead, .dead, .list 140 7 (toN j (mcN t l l.ev.length).pc (i + 1)).rs.length (fun a b => tbl (pcC ((toN j (mcN t l l.ev.length).pc (i + 1)).rs.getD a pc0)) b) (toN j (mcN t l l.ev.length).pc (i + 1)).rs.length]
      rw [e, setL_len]
      refine .le ⟨by kernel_rfl, ⟨.refl _, .refl _, .refl _, .refl _, .refl _, .refl _, .refl _, .refl _, .refl _, .refl _, .refl _, .refl _, .refl _, .refl _, .refl _, .refl _, .refl _, .refl _, .list (fun a b ha hb => .ofEq ?_), trivial⟩, ⟨.refl _, .refl _, .refl _, .refl _, .intI (by omega), trivial⟩⟩
      rw [Int.toNat_natCast]; exact setL_put he a b hb
    · have lt : i < (mcN t l l.ev.length).pc.length := (by have q := of_decide_eq_true ‹decide ((i : Int) < ((mcN t l l.ev.length).pc.length : Int)) = true›; omega)
      have q := ‹sameB ((bif ((mcN t l l.ev.length).pc.getD (i : Int).toNat pc0).tr == (j : Int) then ((mcN t l l.ev.length).pc.getD (i : Int).toNat pc0).ps != 0 else false)) true = true›; rw [sameB_t, Int.toNat_natCast] at q
      have c2 := ‹(((mcN t l l.ev.length).pc.getD (i : Int).toNat pc0).ps == 2) = false›; rw [Int.toNat_natCast] at c2
      have c3 := ‹(((mcN t l l.ev.length).pc.getD (i : Int).toNat pc0).ps == 3) = false›; rw [Int.toNat_natCast] at c3
      have c1 := ‹(((mcN t l l.ev.length).pc.getD (i : Int).toNat pc0).ps == 1) = true›; rw [Int.toNat_natCast] at c1
      have c0 := ‹(((mcN t l l.ev.length).pc.getD (i : Int).toNat pc0).tk == 0) = false›; rw [Int.toNat_natCast] at c0
      have cg := ‹(bif decide (0 < ((toN j (mcN t l l.ev.length).pc (i)).rs.length : Int)) then likeP ((toN j (mcN t l l.ev.length).pc (i)).rs.getD (((toN j (mcN t l l.ev.length).pc (i)).rs.length : Int) - 1).toNat pc0) ((mcN t l l.ev.length).pc.getD (i : Int).toNat pc0) else false) = false›; rw [Int.toNat_natCast, glu_of he] at cg
      have e : toN (j : Int) (mcN t l l.ev.length).pc (i + 1) = { (toN j (mcN t l l.ev.length).pc (i)) with la := bif (toN j (mcN t l l.ev.length).pc (i)).la then true else (toN j (mcN t l l.ev.length).pc (i)).pa, rs := (toN j (mcN t l l.ev.length).pc (i)).rs ++ [((mcN t l l.ev.length).pc.getD i pc0)] } := by rw [to_y q]; unfold toF addR; rw [c2, c3, c1, c0, cg]; rfl
      refine ⟨.inr (i + 1), ⟨by omega, by rw [e]; show 0 < (_ ++ [_]).length; simp⟩, by show (mcN t l l.ev.length).pc.length - (i + 1) < (mcN t l l.ev.length).pc.length - i; omega, ?_⟩
      show StTo _ _ _ [(0, .yld 15), (2, .ptr 14 0), (9, .own 7 ((mcN t l l.ev.length).pc.length + 1)), (10, .int .i64 (mcN t l l.ev.length).pc.length), (11, .int .i64 ((i + 1 : Nat)))] [.box (trfC t), .box (logC l (evS l.ev)), .box [.int .i64 0, .int .i64 0, .bool false, .slc0, .slc0], .box (mcCk t l (mcN t l l.ev.length) 4 5 6 7), mxO (mcN t l l.ev.length).ex (mxV (mcN t l l.ev.length)), trO (mcN t l l.ev.length).tr, zsO (mcN t l l.ev.length).zs, pcO (mcN t l l.ev.length).pc, .box [.bool (toN j (mcN t l l.ev.length).pc (i + 1)).sp], .box [.bool (toN j (mcN t l l.ev.length).pc (i + 1)).op], .box [.bool (toN j (mcN t l l.ev.length).pc (i + 1)).pa], .box [.bool (toN j (mcN t l l.ev.length).pc (i + 1)).la], .box [.own 18 (toN j (mcN t l l.ev.length).pc (i + 1)).rs.length], .box [.ptr 3 0], .box [.int .i64 j], _, .dead, .dead, .list 140 7 (toN j (mcN t l l.ev.length).pc (i + 1)).rs.length (fun a b => tbl (pcC ((toN j (mcN t l l.ev.length).pc (i + 1)).rs.getD a pc0)) b) (toN j (mcN t l l.ev.length).pc (i + 1)).rs.length]
      rw [e, show ((toN j (mcN t l l.ev.length).pc (i)).rs ++ [((mcN t l l.ev.length).pc.getD i pc0)]).length = (toN j (mcN t l l.ev.length).pc (i)).rs.length + 1 by simp]
      refine .le ⟨by kernel_rfl, ⟨.refl _, .refl _, .refl _, .refl _, .refl _, .refl _, .refl _, .refl _, .refl _, .refl _, .refl _, .refl _, .refl _, .refl _, .refl _, .refl _, .refl _, .refl _, .list (fun a b ha hb => .ofEq ?_), trivial⟩, ⟨.refl _, .refl _, .refl _, .refl _, .intI (by omega), trivial⟩⟩
      exact pcL_push (fun b => by show tbl _ (0 * 7 + b) = _; rw [Nat.zero_mul, Nat.zero_add, Int.toNat_natCast]; rfl) ha
    · have lt : i < (mcN t l l.ev.length).pc.length := (by have q := of_decide_eq_true ‹decide ((i : Int) < ((mcN t l l.ev.length).pc.length : Int)) = true›; omega)
      have q := ‹sameB ((bif ((mcN t l l.ev.length).pc.getD (i : Int).toNat pc0).tr == (j : Int) then ((mcN t l l.ev.length).pc.getD (i : Int).toNat pc0).ps != 0 else false)) true = true›; rw [sameB_t, Int.toNat_natCast] at q
      have c2 := ‹(((mcN t l l.ev.length).pc.getD (i : Int).toNat pc0).ps == 2) = false›; rw [Int.toNat_natCast] at c2
      have c3 := ‹(((mcN t l l.ev.length).pc.getD (i : Int).toNat pc0).ps == 3) = false›; rw [Int.toNat_natCast] at c3
      have c1 := ‹(((mcN t l l.ev.length).pc.getD (i : Int).toNat pc0).ps == 1) = false›; rw [Int.toNat_natCast] at c1
      have e : toN (j : Int) (mcN t l l.ev.length).pc (i + 1) = (toN j (mcN t l l.ev.length).pc (i)) := by rw [to_y q]; unfold toF; rw [c2, c3, c1]; rfl
      refine ⟨.inr (i + 1), ⟨by omega, by rw [e]; exact he⟩, by show (mcN t l l.ev.length).pc.length - (i + 1) < (mcN t l l.ev.length).pc.length - i; omega, ?_⟩
      show StTo _ _ _ [(0, .yld 15), (2, .ptr 14 0), (9, .own 7 ((mcN t l l.ev.length).pc.length + 1)), (10, .int .i64 (mcN t l l.ev.length).pc.length), (11, .int .i64 ((i + 1 : Nat)))] [.box (trfC t), .box (logC l (evS l.ev)), .box [.int .i64 0, .int .i64 0, .bool false, .slc0, .slc0], .box (mcCk t l (mcN t l l.ev.length) 4 5 6 7), mxO (mcN t l l.ev.length).ex (mxV (mcN t l l.ev.length)), trO (mcN t l l.ev.length).tr, zsO (mcN t l l.ev.length).zs, pcO (mcN t l l.ev.length).pc, .box [.bool (toN j (mcN t l l.ev.length).pc (i + 1)).sp], .box [.bool (toN j (mcN t l l.ev.length).pc (i + 1)).op], .box [.bool (toN j (mcN t l l.ev.length).pc (i + 1)).pa], .box [.bool (toN j (mcN t l l.ev.length).pc (i + 1)).la], .box [.own 18 (toN j (mcN t l l.ev.length).pc (i + 1)).rs.length], .box [.ptr 3 0], .box [.int .i64 j], _, .dead, .dead, .list 140 7 (toN j (mcN t l l.ev.length).pc (i + 1)).rs.length (fun a b => tbl (pcC ((toN j (mcN t l l.ev.length).pc (i + 1)).rs.getD a pc0)) b) (toN j (mcN t l l.ev.length).pc (i + 1)).rs.length]
      rw [e]
      exact .le ⟨by kernel_rfl, ⟨.refl _, .refl _, .refl _, .refl _, .refl _, .refl _, .refl _, .refl _, .refl _, .refl _, .refl _, .refl _, .refl _, .refl _, .refl _, .refl _, .refl _, .refl _, .refl _, trivial⟩, ⟨.refl _, .refl _, .refl _, .refl _, .intI (by omega), trivial⟩⟩
    · have lt : i < (mcN t l l.ev.length).pc.length := (by have q := of_decide_eq_true ‹decide ((i : Int) < ((mcN t l l.ev.length).pc.length : Int)) = true›; omega)
      have q := ‹sameB ((bif ((mcN t l l.ev.length).pc.getD (i : Int).toNat pc0).tr == (j : Int) then ((mcN t l l.ev.length).pc.getD (i : Int).toNat pc0).ps != 0 else false)) true = false›; rw [sameB_t, Int.toNat_natCast] at q
      have e : toN (j : Int) (mcN t l l.ev.length).pc (i + 1) = (toN j (mcN t l l.ev.length).pc (i)) := to_n q
      refine ⟨.inr (i + 1), ⟨by omega, by rw [e]; exact he⟩, by show (mcN t l l.ev.length).pc.length - (i + 1) < (mcN t l l.ev.length).pc.length - i; omega, ?_⟩
      show StTo _ _ _ [(0, .yld 15), (2, .ptr 14 0), (9, .own 7 ((mcN t l l.ev.length).pc.length + 1)), (10, .int .i64 (mcN t l l.ev.length).pc.length), (11, .int .i64 ((i + 1 : Nat)))] [.box (trfC t), .box (logC l (evS l.ev)), .box [.int .i64 0, .int .i64 0, .bool false, .slc0, .slc0], .box (mcCk t l (mcN t l l.ev.length) 4 5 6 7), mxO (mcN t l l.ev.length).ex (mxV (mcN t l l.ev.length)), trO (mcN t l l.ev.length).tr, zsO (mcN t l l.ev.length).zs, pcO (mcN t l l.ev.length).pc, .box [.bool (toN j (mcN t l l.ev.length).pc (i + 1)).sp], .box [.bool (toN j (mcN t l l.ev.length).pc (i + 1)).op], .box [.bool (toN j (mcN t l l.ev.length).pc (i + 1)).pa], .box [.bool (toN j (mcN t l l.ev.length).pc (i + 1)).la], .box [.own 18 (toN j (mcN t l l.ev.length).pc (i + 1)).rs.length], .box [.ptr 3 0], .box [.int .i64 j], _, .dead, .dead, .list 140 7 (toN j (mcN t l l.ev.length).pc (i + 1)).rs.length (fun a b => tbl (pcC ((toN j (mcN t l l.ev.length).pc (i + 1)).rs.getD a pc0)) b) (toN j (mcN t l l.ev.length).pc (i + 1)).rs.length]
      rw [e]
      exact .le ⟨by kernel_rfl, ⟨.refl _, .refl _, .refl _, .refl _, .refl _, .refl _, .refl _, .refl _, .refl _, .refl _, .refl _, .refl _, .refl _, .refl _, .refl _, .refl _, .refl _, .refl _, .refl _, trivial⟩, ⟨.refl _, .refl _, .refl _, .refl _, .intI (by omega), trivial⟩⟩
    · have lt : i < (mcN t l l.ev.length).pc.length := (by have q := of_decide_eq_true ‹decide ((i : Int) < ((mcN t l l.ev.length).pc.length : Int)) = true›; omega)
      have q := ‹sameB (((mcN t l l.ev.length).pc.getD (i : Int).toNat pc0).tr == (j : Int)) true = false›; rw [sameB_t, Int.toNat_natCast] at q
      have e : toN (j : Int) (mcN t l l.ev.length).pc (i + 1) = (toN j (mcN t l l.ev.length).pc (i)) := to_n (by unfold inT; rw [q]; rfl)
      refine ⟨.inr (i + 1), ⟨by omega, by rw [e]; exact he⟩, by show (mcN t l l.ev.length).pc.length - (i + 1) < (mcN t l l.ev.length).pc.length - i; omega, ?_⟩
      show StTo _ _ _ [(0, .yld 15), (2, .ptr 14 0), (9, .own 7 ((mcN t l l.ev.length).pc.length + 1)), (10, .int .i64 (mcN t l l.ev.length).pc.length), (11, .int .i64 ((i + 1 : Nat)))] [.box (trfC t), .box (logC l (evS l.ev)), .box [.int .i64 0, .int .i64 0, .bool false, .slc0, .slc0], .box (mcCk t l (mcN t l l.ev.length) 4 5 6 7), mxO (mcN t l l.ev.length).ex (mxV (mcN t l l.ev.length)), trO (mcN t l l.ev.length).tr, zsO (mcN t l l.ev.length).zs, pcO (mcN t l l.ev.length).pc, .box [.bool (toN j (mcN t l l.ev.length).pc (i + 1)).sp], .box [.bool (toN j (mcN t l l.ev.length).pc (i + 1)).op], .box [.bool (toN j (mcN t l l.ev.length).pc (i + 1)).pa], .box [.bool (toN j (mcN t l l.ev.length).pc (i + 1)).la], .box [.own 18 (toN j (mcN t l l.ev.length).pc (i + 1)).rs.length], .box [.ptr 3 0], .box [.int .i64 j], _, .dead, .dead, .list 140 7 (toN j (mcN t l l.ev.length).pc (i + 1)).rs.length (fun a b => tbl (pcC ((toN j (mcN t l l.ev.length).pc (i + 1)).rs.getD a pc0)) b) (toN j (mcN t l l.ev.length).pc (i + 1)).rs.length]
      rw [e]
      exact .le ⟨by kernel_rfl, ⟨.refl _, .refl _, .refl _, .refl _, .refl _, .refl _, .refl _, .refl _, .refl _, .refl _, .refl _, .refl _, .refl _, .refl _, .refl _, .refl _, .refl _, .refl _, .refl _, trivial⟩, ⟨.refl _, .refl _, .refl _, .refl _, .intI (by omega), trivial⟩⟩

    all_goals (have qi := of_decide_eq_false ‹decide ((i : Int) < ((mcN t l l.ev.length).pc.length : Int)) = false›; obtain rfl : i = (mcN t l l.ev.length).pc.length := (by omega))
    · have q1 := bne_iff_ne.1 ‹((firstS [bif !(toN j (mcN t l l.ev.length).pc ((mcN t l l.ev.length).pc.length)).sp then 0 else 22, bif bif !(toN j (mcN t l l.ev.length).pc ((mcN t l l.ev.length).pc.length)).op then !(toN j (mcN t l l.ev.length).pc ((mcN t l l.ev.length).pc.length)).la else false then 0 else 23, bif bif ((toN j (mcN t l l.ev.length).pc ((mcN t l l.ev.length).pc.length)).rs.length : Int) == 0 then true else ((toN j (mcN t l l.ev.length).pc ((mcN t l l.ev.length).pc.length)).rs.getD (Int.toNat 0) pc0).zn == (mcN t l l.ev.length).zs.getD (j : Int).toNat 0 then 0 else 13]) != 0) = true›
      have hh : toH t l j = (firstS [bif !(toN j (mcN t l l.ev.length).pc ((mcN t l l.ev.length).pc.length)).sp then 0 else 22, bif bif !(toN j (mcN t l l.ev.length).pc ((mcN t l l.ev.length).pc.length)).op then !(toN j (mcN t l l.ev.length).pc ((mcN t l l.ev.length).pc.length)).la else false then 0 else 23, bif bif ((toN j (mcN t l l.ev.length).pc ((mcN t l l.ev.length).pc.length)).rs.length : Int) == 0 then true else ((toN j (mcN t l l.ev.length).pc ((mcN t l l.ev.length).pc.length)).rs.getD (Int.toNat 0) pc0).zn == (mcN t l l.ev.length).zs.getD (j : Int).toNat 0 then 0 else 13]) := by unfold toH toZ isOk toQ; rfl
      have e1 : toE t l j = (firstS [bif !(toN j (mcN t l l.ev.length).pc ((mcN t l l.ev.length).pc.length)).sp then 0 else 22, bif bif !(toN j (mcN t l l.ev.length).pc ((mcN t l l.ev.length).pc.length)).op then !(toN j (mcN t l l.ev.length).pc ((mcN t l l.ev.length).pc.length)).la else false then 0 else 23, bif bif ((toN j (mcN t l l.ev.length).pc ((mcN t l l.ev.length).pc.length)).rs.length : Int) == 0 then true else ((toN j (mcN t l l.ev.length).pc ((mcN t l l.ev.length).pc.length)).rs.getD (Int.toNat 0) pc0).zn == (mcN t l l.ev.length).zs.getD (j : Int).toNat 0 then 0 else 13]) := toE_h hh q1
      have e2 : toR t l j = .tup 2 (tbl [.agg 5 (tbl [.int .i64 0, .int .i64 0, .bool false, .slc0, .slc0]), .int .i64 (firstS [bif !(toN j (mcN t l l.ev.length).pc ((mcN t l l.ev.length).pc.length)).sp then 0 else 22, bif bif !(toN j (mcN t l l.ev.length).pc ((mcN t l l.ev.length).pc.length)).op then !(toN j (mcN t l l.ev.length).pc ((mcN t l l.ev.length).pc.length)).la else false then 0 else 23, bif bif ((toN j (mcN t l l.ev.length).pc ((mcN t l l.ev.length).pc.length)).rs.length : Int) == 0 then true else ((toN j (mcN t l l.ev.length).pc ((mcN t l l.ev.length).pc.length)).rs.getD (Int.toNat 0) pc0).zn == (mcN t l l.ev.length).zs.getD (j : Int).toNat 0 then 0 else 13])]) := by rw [toR_e (by rw [e1]; exact q1), e1]; rfl
      rw [e2]
      exact .mk [] [] _ rfl (.le (.tups ⟨⟨trivial, .aggs ⟨⟨⟨⟨⟨trivial, .refl _⟩, .refl _⟩, .refl _⟩, .refl _⟩, .refl _⟩⟩, .refl _⟩)) trivial rfl
    · exact .of (by omega)
    · have q1 := bne_eq_false_iff_eq.1 ‹((firstS [bif !(toN j (mcN t l l.ev.length).pc ((mcN t l l.ev.length).pc.length)).sp then 0 else 22, bif bif !(toN j (mcN t l l.ev.length).pc ((mcN t l l.ev.length).pc.length)).op then !(toN j (mcN t l l.ev.length).pc ((mcN t l l.ev.length).pc.length)).la else false then 0 else 23, bif bif ((toN j (mcN t l l.ev.length).pc ((mcN t l l.ev.length).pc.length)).rs.length : Int) == 0 then true else ((toN j (mcN t l l.ev.length).pc ((mcN t l l.ev.length).pc.length)).rs.getD (Int.toNat 0) pc0).zn == (mcN t l l.ev.length).zs.getD (j : Int).toNat 0 then 0 else 13]) != 0) = false›
      have hh : toH t l j = (firstS [bif !(toN j (mcN t l l.ev.length).pc ((mcN t l l.ev.length).pc.length)).sp then 0 else 22, bif bif !(toN j (mcN t l l.ev.length).pc ((mcN t l l.ev.length).pc.length)).op then !(toN j (mcN t l l.ev.length).pc ((mcN t l l.ev.length).pc.length)).la else false then 0 else 23, bif bif ((toN j (mcN t l l.ev.length).pc ((mcN t l l.ev.length).pc.length)).rs.length : Int) == 0 then true else ((toN j (mcN t l l.ev.length).pc ((mcN t l l.ev.length).pc.length)).rs.getD (Int.toNat 0) pc0).zn == (mcN t l l.ev.length).zs.getD (j : Int).toNat 0 then 0 else 13]) := by unfold toH toZ isOk toQ; rfl
      rw [q1] at hh
      refine ⟨Nat, fun k => match k with | 0 => ([(4, .ptr 1 0), (6, .ptr 2 0), (14, .ptr 12 0), (20, .ptr 20 0), (21, .bool true), (133, .own 18 (toN j (mcN t l l.ev.length).pc ((mcN t l l.ev.length).pc.length)).rs.length), (134, .int .i64 ((toN j (mcN t l l.ev.length).pc ((mcN t l l.ev.length).pc.length)).rs.length : Nat)), (135, .int .i64 ((0 : Nat)))], [.dead, .box (logC l (evS l.ev)), .box [.int .i64 0, .int .i64 0, .bool false, .slc0, .slc0], .dead, .dead, .dead, .dead, .dead, .dead, .dead, .dead, .dead, .box [.own 18 (toN j (mcN t l l.ev.length).pc ((mcN t l l.ev.length).pc.length)).rs.length], .dead, .dead, .dead, .dead, .dead, .list 140 7 (toN j (mcN t l l.ev.length).pc ((mcN t l l.ev.length).pc.length)).rs.length (fun a b => tbl (pcC ((toN j (mcN t l l.ev.length).pc ((mcN t l l.ev.length).pc.length)).rs.getD a pc0)) b) (toN j (mcN t l l.ev.length).pc ((mcN t l l.ev.length).pc.length)).rs.length, .dead, .box [.int .i64 ((mcN t l l.ev.length).tr.getD (j : Int).toNat mtp0).d, .int .i64 ((mcN t l l.ev.length).tr.getD (j : Int).toNat mtp0).s, .bool false, iRow ((mcN t l l.ev.length).tr.getD (j : Int).toNat mtp0).ex, .slc0]]) | k + 1 => ([(4, .ptr 1 0), (6, .ptr 2 0), (14, .ptr 12 0), (20, .ptr 20 0), (21, .bool (fitB l (toN j (mcN t l l.ev.length).pc ((mcN t l l.ev.length).pc.length)).rs (k + 1))), (133, .own 18 (toN j (mcN t l l.ev.length).pc ((mcN t l l.ev.length).pc.length)).rs.length), (134, .int .i64 ((toN j (mcN t l l.ev.length).pc ((mcN t l l.ev.length).pc.length)).rs.length : Nat)), (135, .int .i64 ((k + 1 : Nat)))], [.dead, .box (logC l (evS l.ev)), .box [.int .i64 0, .int .i64 0, .bool false, .slc0, .slc0], .dead, .dead, .dead, .dead, .dead, .dead, .dead, .dead, .dead, .box [.own 18 (toN j (mcN t l l.ev.length).pc ((mcN t l l.ev.length).pc.length)).rs.length], .dead, .dead, .dead, .dead, .dead, .list 140 7 (toN j (mcN t l l.ev.length).pc ((mcN t l l.ev.length).pc.length)).rs.length (fun a b => tbl (pcC ((toN j (mcN t l l.ev.length).pc ((mcN t l l.ev.length).pc.length)).rs.getD a pc0)) b) (toN j (mcN t l l.ev.length).pc ((mcN t l l.ev.length).pc.length)).rs.length, .dead, .box [.int .i64 ((mcN t l l.ev.length).tr.getD (j : Int).toNat mtp0).d, .int .i64 ((mcN t l l.ev.length).tr.getD (j : Int).toNat mtp0).s, .bool false, iRow ((mcN t l l.ev.length).tr.getD (j : Int).toNat mtp0).ex, .own 23 (k + 1)], .dead, .dead, .list 93 3 (k + 1) (fun a b => tbl (segC ((sgL l (toN j (mcN t l l.ev.length).pc ((mcN t l l.ev.length).pc.length)).rs (k + 1)).getD a seg0)) b) (k + 1)]), fun k => k ≤ (toN j (mcN t l l.ev.length).pc ((mcN t l l.ev.length).pc.length)).rs.length ∧ ∀ a, a < k → divB l ((toN j (mcN t l l.ev.length).pc ((mcN t l l.ev.length).pc.length)).rs.getD a pc0) = true, fun k => (toN j (mcN t l l.ev.length).pc ((mcN t l l.ev.length).pc.length)).rs.length - k, ⟨0, ⟨Nat.zero_le _, fun _ h => by omega⟩, .le ⟨by kernel_rfl, ⟨.dead _, .refl _, .refl _, .dead _, .dead _, .dead _, .dead _, .dead _, .dead _, .dead _, .dead _, .dead _, .refl _, .dead _, .dead _, .dead _, .dead _, .dead _, .refl _, .dead _, .refl _, trivial⟩, ⟨.refl _, .refl _, .refl _, .refl _, .refl _, .refl _, .refl _, .refl _, trivial⟩⟩⟩, fun k hk => ?_⟩
      obtain ⟨hk, hd⟩ := hk
      rcases k with _ | k
      · skip
        repeat' (first
          | ((with_reducible refine (?_ : Alt _ _)); first | (with_reducible apply callAlt (c72 hX _ _)) | (with_reducible apply callAlt (c49 hX _ _)) | ((with_reducible apply callAlt (c48_2 hX _ _)); case hl => (first | exact ⟨le_slc2 rfl rfl, trivial⟩ | exact ⟨le_slc3 rfl rfl rfl, trivial⟩ | exact ⟨le_slc5 rfl rfl rfl rfl rfl, trivial⟩ | exact AllLe.refl _)) | ((with_reducible apply callAlt (c48_3 hX _ _ _)); case hl => (first | exact ⟨le_slc2 rfl rfl, trivial⟩ | exact ⟨le_slc3 rfl rfl rfl, trivial⟩ | exact ⟨le_slc5 rfl rfl rfl rfl rfl, trivial⟩ | exact AllLe.refl _)) | (with_reducible apply callAlt (c73 hX _ ?_)) | (with_reducible refine Alt.one ?_))
          | ((with_reducible refine Ar.go ?_); first | exact ⟨le_slc2 rfl rfl, trivial⟩ | exact ⟨le_slc3 rfl rfl rfl, trivial⟩ | exact AllLe.refl _ | (repeat' (first | exact trivial | apply Le.aggs | apply Le.tups | apply Le.fns | exact Le.refl _ | refine ⟨?_, ?_⟩)))
          | with_reducible refine Ac.go ?_
          | ((with_reducible refine Rf.go ?_); rfl)
          | with_reducible refine nodupB_spec ?_
          | ((with_reducible refine Kf.go ?_); kernel_rfl)
          | ((with_reducible refine Lo.go ?_); first | exact LeOks.ofEq (by kernel_rfl) | (repeat' first | exact trivial | refine ⟨.refl _, ?_⟩))
          | ((fail_if_success with_reducible refine Stop.go ?_); (first | with_reducible refine And.intro ?_ ?_ | with_reducible refine Cut.go ?_ | (with_reducible (refine impI ?_; intro _)) | (with_reducible refine stuckI (by simp only [beqvv]; with_unfolding_all rfl) ?_) | ((with_reducible refine propI ?_); conv => whnf))))
        all_goals try (exact .of (Nat.le_of_ble_eq_true rfl))
        all_goals try (exact Sc.of ⟨show (0 + (0 + 1)) * 24 ≤ 140737488355328 by omega, show 0 + (0 + 1) ≤ 9223372036854775807 by omega⟩)
        all_goals try (exact Sc.of ⟨Nat.le_of_ble_eq_true rfl, Nat.le_of_ble_eq_true rfl⟩)
        all_goals try (have lt : 0 < (toN j (mcN t l l.ev.length).pc ((mcN t l l.ev.length).pc.length)).rs.length := (by have q := of_decide_eq_true ‹decide (((0 : Nat) : Int) < ((toN j (mcN t l l.ev.length).pc ((mcN t l l.ev.length).pc.length)).rs.length : Int)) = true›; omega); have w := tb.2 (0) lt; have w1 := w.tk; have w2 := w.pu; have w3 := w.q; have m3 := Int.mul_assoc 1000 ((toN j (mcN t l l.ev.length).pc ((mcN t l l.ev.length).pc.length)).rs.getD (0) pc0).pu ((toN j (mcN t l l.ev.length).pc ((mcN t l l.ev.length).pc.length)).rs.getD (0) pc0).tk; have cc := nm.1; have qb := quo_bd (a := 1000 * ((toN j (mcN t l l.ev.length).pc ((mcN t l l.ev.length).pc.length)).rs.getD (0) pc0).pu * ((toN j (mcN t l l.ev.length).pc ((mcN t l l.ev.length).pc.length)).rs.getD (0) pc0).tk) (d := l.c) (B := 30000000000) (by omega) (by omega) (by omega); first | exact .of ⟨by omega, by omega⟩ | exact .of (by omega) | (refine Sc.of ?_; rw [Int.toNat_natCast]; exact ⟨by omega, by omega⟩))
        · have lt : 0 < (toN j (mcN t l l.ev.length).pc ((mcN t l l.ev.length).pc.length)).rs.length := (by have q := of_decide_eq_true ‹decide (((0 : Nat) : Int) < ((toN j (mcN t l l.ev.length).pc ((mcN t l l.ev.length).pc.length)).rs.length : Int)) = true›; omega)
          have q1 : (3 : Int) ≠ 0 := by decide
          have q2 := bne_iff_ne.1 ‹((1000 * ((toN j (mcN t l l.ev.length).pc ((mcN t l l.ev.length).pc.length)).rs.getD (((0 : Nat) : Int)).toNat pc0).pu * ((toN j (mcN t l l.ev.length).pc ((mcN t l l.ev.length).pc.length)).rs.getD (((0 : Nat) : Int)).toNat pc0).tk).tmod l.c != 0) = true›
          rw [Int.toNat_natCast] at q2
          have hd0 : toD t l j = false := by unfold toD toQ; exact all_f (d := pc0) lt (by unfold divB; exact beq_false_of_ne q2)
          have e1 : toE t l j = 3 := toE_d hh hd0
          have e2 : toR t l j = .tup 2 (tbl [.agg 5 (tbl [.int .i64 0, .int .i64 0, .bool false, .slc0, .slc0]), .int .i64 3]) := by rw [toR_e (by rw [e1]; exact q1), e1]; rfl
          rw [e2]
          exact .mk [] [] _ rfl (.le (.tups ⟨⟨trivial, .aggs ⟨⟨⟨⟨⟨trivial, .refl _⟩, .refl _⟩, .refl _⟩, .refl _⟩, .refl _⟩⟩, .refl _⟩)) trivial rfl
        · have lt : 0 < (toN j (mcN t l l.ev.length).pc ((mcN t l l.ev.length).pc.length)).rs.length := (by have q := of_decide_eq_true ‹decide (((0 : Nat) : Int) < ((toN j (mcN t l l.ev.length).pc ((mcN t l l.ev.length).pc.length)).rs.length : Int)) = true›; omega)
          have q2 := bne_eq_false_iff_eq.1 ‹((1000 * ((toN j (mcN t l l.ev.length).pc ((mcN t l l.ev.length).pc.length)).rs.getD (((0 : Nat) : Int)).toNat pc0).pu * ((toN j (mcN t l l.ev.length).pc ((mcN t l l.ev.length).pc.length)).rs.getD (((0 : Nat) : Int)).toNat pc0).tk).tmod l.c != 0) = false›
          rw [Int.toNat_natCast] at q2
          refine ⟨0 + 1, ⟨by omega, all_lt hd (by unfold divB; rw [q2]; rfl)⟩, by show (toN j (mcN t l l.ev.length).pc ((mcN t l l.ev.length).pc.length)).rs.length - (0 + 1) < (toN j (mcN t l l.ev.length).pc ((mcN t l l.ev.length).pc.length)).rs.length - (0); omega, ?_⟩
          show StTo _ _ _ [(4, .ptr 1 0), (6, .ptr 2 0), (14, .ptr 12 0), (20, .ptr 20 0), (21, .bool (fitB l (toN j (mcN t l l.ev.length).pc ((mcN t l l.ev.length).pc.length)).rs (0 + 1))), (133, .own 18 (toN j (mcN t l l.ev.length).pc ((mcN t l l.ev.length).pc.length)).rs.length), (134, .int .i64 ((toN j (mcN t l l.ev.length).pc ((mcN t l l.ev.length).pc.length)).rs.length : Nat)), (135, .int .i64 ((0 + 1 : Nat)))] [.dead, .box (logC l (evS l.ev)), .box [.int .i64 0, .int .i64 0, .bool false, .slc0, .slc0], .dead, .dead, .dead, .dead, .dead, .dead, .dead, .dead, .dead, .box [.own 18 (toN j (mcN t l l.ev.length).pc ((mcN t l l.ev.length).pc.length)).rs.length], .dead, .dead, .dead, .dead, .dead, .list 140 7 (toN j (mcN t l l.ev.length).pc ((mcN t l l.ev.length).pc.length)).rs.length (fun a b => tbl (pcC ((toN j (mcN t l l.ev.length).pc ((mcN t l l.ev.length).pc.length)).rs.getD a pc0)) b) (toN j (mcN t l l.ev.length).pc ((mcN t l l.ev.length).pc.length)).rs.length, .dead, .box [.int .i64 ((mcN t l l.ev.length).tr.getD (j : Int).toNat mtp0).d, .int .i64 ((mcN t l l.ev.length).tr.getD (j : Int).toNat mtp0).s, .bool false, iRow ((mcN t l l.ev.length).tr.getD (j : Int).toNat mtp0).ex, .own 23 (0 + 1)], .dead, .dead, .list 93 3 (0 + 1) (fun a b => tbl (segC ((sgL l (toN j (mcN t l l.ev.length).pc ((mcN t l l.ev.length).pc.length)).rs (0 + 1)).getD a seg0)) b) (0 + 1)]
          refine .le ⟨by kernel_rfl, ⟨.refl _, .refl _, .refl _, .refl _, .refl _, .refl _, .refl _, .refl _, .refl _, .refl _, .refl _, .refl _, .refl _, .refl _, .refl _, .refl _, .refl _, .refl _, .refl _, .refl _, .refl _, .dead _, .dead _, .list (fun a b ha hb => .ofEq ?_), trivial⟩, ⟨.refl _, .refl _, .refl _, .refl _, .ofEq (by rw [Int.toNat_natCast]; rfl), .refl _, .refl _, .intI (by omega), trivial⟩⟩
          replace ha : a < 1 := ha
          obtain rfl : a = 0 := by omega
          show tbl (segC (sgO l ((toN j (mcN t l l.ev.length).pc ((mcN t l l.ev.length).pc.length)).rs.getD (((0 : Nat) : Int)).toNat pc0))) (0 * 3 + b) = tbl (segC (sgO l ((toN j (mcN t l l.ev.length).pc ((mcN t l l.ev.length).pc.length)).rs.getD (0) pc0))) b
          rw [Int.toNat_natCast, Nat.zero_mul, Nat.zero_add]
        all_goals (exfalso; have q := of_decide_eq_false ‹decide (((0 : Nat) : Int) < ((toN j (mcN t l l.ev.length).pc ((mcN t l l.ev.length).pc.length)).rs.length : Int)) = false›; omega)
      · skip
        repeat' (first
          | ((with_reducible refine (?_ : Alt _ _)); first | (with_reducible apply callAlt (c72 hX _ _)) | (with_reducible apply callAlt (c49 hX _ _)) | ((with_reducible apply callAlt (c48_2 hX _ _)); case hl => (first | exact ⟨le_slc2 rfl rfl, trivial⟩ | exact ⟨le_slc3 rfl rfl rfl, trivial⟩ | exact ⟨le_slc5 rfl rfl rfl rfl rfl, trivial⟩ | exact AllLe.refl _)) | ((with_reducible apply callAlt (c48_3 hX _ _ _)); case hl => (first | exact ⟨le_slc2 rfl rfl, trivial⟩ | exact ⟨le_slc3 rfl rfl rfl, trivial⟩ | exact ⟨le_slc5 rfl rfl rfl rfl rfl, trivial⟩ | exact AllLe.refl _)) | (with_reducible apply callAlt (c73 hX _ ?_)) | (with_reducible refine Alt.one ?_))
          | ((with_reducible refine Ar.go ?_); first | exact ⟨le_slc2 rfl rfl, trivial⟩ | exact ⟨le_slc3 rfl rfl rfl, trivial⟩ | exact AllLe.refl _ | (repeat' (first | exact trivial | apply Le.aggs | apply Le.tups | apply Le.fns | exact Le.refl _ | refine ⟨?_, ?_⟩)))
          | with_reducible refine Ac.go ?_
          | ((with_reducible refine Rf.go ?_); rfl)
          | with_reducible refine nodupB_spec ?_
          | ((with_reducible refine Kf.go ?_); kernel_rfl)
          | ((with_reducible refine Lo.go ?_); first | exact LeOks.ofEq (by kernel_rfl) | (repeat' first | exact trivial | refine ⟨.refl _, ?_⟩))
          | ((fail_if_success with_reducible refine Stop.go ?_); (first | with_reducible refine And.intro ?_ ?_ | with_reducible refine Cut.go ?_ | (with_reducible (refine impI ?_; intro _)) | (with_reducible refine stuckI (by simp only [beqvv]; with_unfolding_all rfl) ?_) | ((with_reducible refine propI ?_); conv => whnf))))
        all_goals try (exact .of (Nat.le_of_ble_eq_true rfl))
        all_goals try (exact Sc.of ⟨show (k + 1 + (0 + 1)) * 24 ≤ 140737488355328 by omega, show k + 1 + (0 + 1) ≤ 9223372036854775807 by omega⟩)
        all_goals try (exact Sc.of ⟨Nat.le_of_ble_eq_true rfl, Nat.le_of_ble_eq_true rfl⟩)
        all_goals try (have lt : k + 1 < (toN j (mcN t l l.ev.length).pc ((mcN t l l.ev.length).pc.length)).rs.length := (by have q := of_decide_eq_true ‹decide (((k + 1 : Nat) : Int) < ((toN j (mcN t l l.ev.length).pc ((mcN t l l.ev.length).pc.length)).rs.length : Int)) = true›; omega); have w := tb.2 (k + 1) lt; have w1 := w.tk; have w2 := w.pu; have w3 := w.q; have m3 := Int.mul_assoc 1000 ((toN j (mcN t l l.ev.length).pc ((mcN t l l.ev.length).pc.length)).rs.getD (k + 1) pc0).pu ((toN j (mcN t l l.ev.length).pc ((mcN t l l.ev.length).pc.length)).rs.getD (k + 1) pc0).tk; have cc := nm.1; have qb := quo_bd (a := 1000 * ((toN j (mcN t l l.ev.length).pc ((mcN t l l.ev.length).pc.length)).rs.getD (k + 1) pc0).pu * ((toN j (mcN t l l.ev.length).pc ((mcN t l l.ev.length).pc.length)).rs.getD (k + 1) pc0).tk) (d := l.c) (B := 30000000000) (by omega) (by omega) (by omega); first | exact .of ⟨by omega, by omega⟩ | exact .of (by omega) | (refine Sc.of ?_; rw [Int.toNat_natCast]; exact ⟨by omega, by omega⟩))
        · have lt : k + 1 < (toN j (mcN t l l.ev.length).pc ((mcN t l l.ev.length).pc.length)).rs.length := (by have q := of_decide_eq_true ‹decide (((k + 1 : Nat) : Int) < ((toN j (mcN t l l.ev.length).pc ((mcN t l l.ev.length).pc.length)).rs.length : Int)) = true›; omega)
          have q1 : (3 : Int) ≠ 0 := by decide
          have q2 := bne_iff_ne.1 ‹((1000 * ((toN j (mcN t l l.ev.length).pc ((mcN t l l.ev.length).pc.length)).rs.getD (((k + 1 : Nat) : Int)).toNat pc0).pu * ((toN j (mcN t l l.ev.length).pc ((mcN t l l.ev.length).pc.length)).rs.getD (((k + 1 : Nat) : Int)).toNat pc0).tk).tmod l.c != 0) = true›
          rw [Int.toNat_natCast] at q2
          have hd0 : toD t l j = false := by unfold toD toQ; exact all_f (d := pc0) lt (by unfold divB; exact beq_false_of_ne q2)
          have e1 : toE t l j = 3 := toE_d hh hd0
          have e2 : toR t l j = .tup 2 (tbl [.agg 5 (tbl [.int .i64 0, .int .i64 0, .bool false, .slc0, .slc0]), .int .i64 3]) := by rw [toR_e (by rw [e1]; exact q1), e1]; rfl
          rw [e2]
          exact .mk [] [] _ rfl (.le (.tups ⟨⟨trivial, .aggs ⟨⟨⟨⟨⟨trivial, .refl _⟩, .refl _⟩, .refl _⟩, .refl _⟩, .refl _⟩⟩, .refl _⟩)) trivial rfl
        · have lt : k + 1 < (toN j (mcN t l l.ev.length).pc ((mcN t l l.ev.length).pc.length)).rs.length := (by have q := of_decide_eq_true ‹decide (((k + 1 : Nat) : Int) < ((toN j (mcN t l l.ev.length).pc ((mcN t l l.ev.length).pc.length)).rs.length : Int)) = true›; omega)
          have q2 := bne_eq_false_iff_eq.1 ‹((1000 * ((toN j (mcN t l l.ev.length).pc ((mcN t l l.ev.length).pc.length)).rs.getD (((k + 1 : Nat) : Int)).toNat pc0).pu * ((toN j (mcN t l l.ev.length).pc ((mcN t l l.ev.length).pc.length)).rs.getD (((k + 1 : Nat) : Int)).toNat pc0).tk).tmod l.c != 0) = false›
          rw [Int.toNat_natCast] at q2
          refine ⟨k + 1 + 1, ⟨by omega, all_lt hd (by unfold divB; rw [q2]; rfl)⟩, by show (toN j (mcN t l l.ev.length).pc ((mcN t l l.ev.length).pc.length)).rs.length - (k + 1 + 1) < (toN j (mcN t l l.ev.length).pc ((mcN t l l.ev.length).pc.length)).rs.length - (k + 1); omega, ?_⟩
          show StTo _ _ _ [(4, .ptr 1 0), (6, .ptr 2 0), (14, .ptr 12 0), (20, .ptr 20 0), (21, .bool (fitB l (toN j (mcN t l l.ev.length).pc ((mcN t l l.ev.length).pc.length)).rs (k + 1 + 1))), (133, .own 18 (toN j (mcN t l l.ev.length).pc ((mcN t l l.ev.length).pc.length)).rs.length), (134, .int .i64 ((toN j (mcN t l l.ev.length).pc ((mcN t l l.ev.length).pc.length)).rs.length : Nat)), (135, .int .i64 ((k + 1 + 1 : Nat)))] [.dead, .box (logC l (evS l.ev)), .box [.int .i64 0, .int .i64 0, .bool false, .slc0, .slc0], .dead, .dead, .dead, .dead, .dead, .dead, .dead, .dead, .dead, .box [.own 18 (toN j (mcN t l l.ev.length).pc ((mcN t l l.ev.length).pc.length)).rs.length], .dead, .dead, .dead, .dead, .dead, .list 140 7 (toN j (mcN t l l.ev.length).pc ((mcN t l l.ev.length).pc.length)).rs.length (fun a b => tbl (pcC ((toN j (mcN t l l.ev.length).pc ((mcN t l l.ev.length).pc.length)).rs.getD a pc0)) b) (toN j (mcN t l l.ev.length).pc ((mcN t l l.ev.length).pc.length)).rs.length, .dead, .box [.int .i64 ((mcN t l l.ev.length).tr.getD (j : Int).toNat mtp0).d, .int .i64 ((mcN t l l.ev.length).tr.getD (j : Int).toNat mtp0).s, .bool false, iRow ((mcN t l l.ev.length).tr.getD (j : Int).toNat mtp0).ex, .own 23 (k + 1 + 1)], .dead, .dead, .list 93 3 (k + 1 + 1) (fun a b => tbl (segC ((sgL l (toN j (mcN t l l.ev.length).pc ((mcN t l l.ev.length).pc.length)).rs (k + 1 + 1)).getD a seg0)) b) (k + 1 + 1)]
          refine .le ⟨by kernel_rfl, ⟨.refl _, .refl _, .refl _, .refl _, .refl _, .refl _, .refl _, .refl _, .refl _, .refl _, .refl _, .refl _, .refl _, .refl _, .refl _, .refl _, .refl _, .refl _, .refl _, .refl _, .refl _, .refl _, .refl _, .list (fun a b ha hb => .ofEq ?_), trivial⟩, ⟨.refl _, .refl _, .refl _, .refl _, .ofEq (by rw [Int.toNat_natCast]; rfl), .refl _, .refl _, .intI (by omega), trivial⟩⟩
          exact sg_push (fun b => by show tbl (segC (sgO l ((toN j (mcN t l l.ev.length).pc ((mcN t l l.ev.length).pc.length)).rs.getD (((k + 1 : Nat) : Int)).toNat pc0))) (0 * 3 + b) = _; rw [Int.toNat_natCast, Nat.zero_mul, Nat.zero_add]) ha
        all_goals (have en : (toN j (mcN t l l.ev.length).pc ((mcN t l l.ev.length).pc.length)).rs.length = k + 1 := (by have q := of_decide_eq_false ‹decide (((k + 1 : Nat) : Int) < ((toN j (mcN t l l.ev.length).pc ((mcN t l l.ev.length).pc.length)).rs.length : Int)) = false›; omega))
        all_goals have hd1 : toD t l j = true := (by unfold toD toQ; exact all_t (d := pc0) (fun a ha => hd a (by omega)))
        all_goals have ht : toT t l j = (firstS [bif decide (0 < ((toN j (mcN t l l.ev.length).pc ((mcN t l l.ev.length).pc.length)).rs.length : Int)) then 0 else 12, bif (bif fitB l (toN j (mcN t l l.ev.length).pc ((mcN t l l.ev.length).pc.length)).rs (k + 1) then decide (((toN j (mcN t l l.ev.length).pc ((mcN t l l.ev.length).pc.length)).rs.length : Int) ≤ 60) else false) then 0 else 8]) := (by unfold toT toQ isOk; rw [← en])
        · have q1 := bne_iff_ne.1 ‹((firstS [bif decide (0 < ((toN j (mcN t l l.ev.length).pc ((mcN t l l.ev.length).pc.length)).rs.length : Int)) then 0 else 12, bif (bif fitB l (toN j (mcN t l l.ev.length).pc ((mcN t l l.ev.length).pc.length)).rs (k + 1) then decide (((toN j (mcN t l l.ev.length).pc ((mcN t l l.ev.length).pc.length)).rs.length : Int) ≤ 60) else false) then 0 else 8]) != 0) = true›
          have e1 : toE t l j = (firstS [bif decide (0 < ((toN j (mcN t l l.ev.length).pc ((mcN t l l.ev.length).pc.length)).rs.length : Int)) then 0 else 12, bif (bif fitB l (toN j (mcN t l l.ev.length).pc ((mcN t l l.ev.length).pc.length)).rs (k + 1) then decide (((toN j (mcN t l l.ev.length).pc ((mcN t l l.ev.length).pc.length)).rs.length : Int) ≤ 60) else false) then 0 else 8]) := (toE_t hh hd1).trans ht
          have e2 : toR t l j = .tup 2 (tbl [.agg 5 (tbl [.int .i64 0, .int .i64 0, .bool false, .slc0, .slc0]), .int .i64 (firstS [bif decide (0 < ((toN j (mcN t l l.ev.length).pc ((mcN t l l.ev.length).pc.length)).rs.length : Int)) then 0 else 12, bif (bif fitB l (toN j (mcN t l l.ev.length).pc ((mcN t l l.ev.length).pc.length)).rs (k + 1) then decide (((toN j (mcN t l l.ev.length).pc ((mcN t l l.ev.length).pc.length)).rs.length : Int) ≤ 60) else false) then 0 else 8])]) := by rw [toR_e (by rw [e1]; exact q1), e1]; rfl
          rw [e2]
          exact .mk [] [] _ rfl (.le (.tups ⟨⟨trivial, .aggs ⟨⟨⟨⟨⟨trivial, .refl _⟩, .refl _⟩, .refl _⟩, .refl _⟩, .refl _⟩⟩, .refl _⟩)) trivial rfl
        · have q1 := bne_eq_false_iff_eq.1 ‹((firstS [bif decide (0 < ((toN j (mcN t l l.ev.length).pc ((mcN t l l.ev.length).pc.length)).rs.length : Int)) then 0 else 12, bif (bif fitB l (toN j (mcN t l l.ev.length).pc ((mcN t l l.ev.length).pc.length)).rs (k + 1) then decide (((toN j (mcN t l l.ev.length).pc ((mcN t l l.ev.length).pc.length)).rs.length : Int) ≤ 60) else false) then 0 else 8]) != 0) = false›
          have e2 : toR t l j = .tup 2 (tbl [.agg 5 (tbl [.int .i64 ((mcN t l l.ev.length).tr.getD (j : Int).toNat mtp0).d, .int .i64 ((mcN t l l.ev.length).tr.getD (j : Int).toNat mtp0).s, .bool false, iRow ((mcN t l l.ev.length).tr.getD (j : Int).toNat mtp0).ex, .slc 3 (k + 1) (fun a b => tbl (segC ((sgL l (toN j (mcN t l l.ev.length).pc ((mcN t l l.ev.length).pc.length)).rs (k + 1)).getD a seg0)) b)]), .int .i64 0]) := by
            rw [toR_0 ((toE_t hh hd1).trans (ht.trans q1)), ← segS_n, ← en, Int.toNat_natCast]; rfl
          rw [e2]
          refine .mk [] [23] _ rfl (.tups ⟨⟨trivial, ?_⟩, .le (.refl _)⟩) trivial rfl
          refine .aggs (n := 5) ?_
          exact ⟨⟨⟨⟨⟨trivial, .le (.refl _)⟩, .le (.refl _)⟩, .le (.refl _)⟩, .le (.refl _)⟩, .own rfl fun _ _ _ _ => .refl _⟩
    · refine Side.mk ?_
      rw [Int.toNat_natCast]
      have := (iv.tr j hj).exl; have := (trf_ext g.trf).1; omega


end
end Go.Fx
