/-
  The reference's counts of a trip.
-/
import Derived.Test.YtfdegaojblmdiaaGreatDoorGx
import Derived.Test.YtfdegaojblmdiaaGreatDoorGm

set_option linter.all false

/-
  What was counted in a trip.
-/
namespace Go.Fx
open Go.Proofs Go.RowKit

theorem cnt_push {l : List Cnt} {x : Cnt} {i j : Nat} {f : Nat → Nat → AV} (hf : ∀ j, f 0 j = tbl (cntC x) j) (hi : i < l.length + 1) : joinF l.length (fun i j => tbl (cntC (l.getD i cnt0)) j) f i j = tbl (cntC ((l ++ [x]).getD i cnt0)) j := by
  unfold joinF
  by_cases h : i < l.length
  · rw [if_pos h]
    show tbl (cntC (l.getD i cnt0)) j = _
    rw [List.getD_eq_getElem?_getD, List.getD_eq_getElem?_getD, List.getElem?_append_left h]
  · obtain rfl : i = l.length := by omega
    rw [if_neg h, Nat.sub_self, hf]
    simp
theorem ou_y {j : Int} {q : List Pc} {r : Nat} (h : ouB (ouC j q r) = true) : ouN j q (r + 1) = ouN j q r ++ [ouC j q r] := by simp only [ouN, h, cond_true]
theorem ou_n {j : Int} {q : List Pc} {r : Nat} (h : ouB (ouC j q r) = false) : ouN j q (r + 1) = ouN j q r := by simp only [ouN, h, cond_false]
theorem ct_n {j : Int} {q : List Pc} {i : Nat} (h : inT j (q.getD i pc0) = false) (a : Nat) : ctN j q a i = ctN j q a (i + 1) := by simp only [ctN]; unfold ctB; rw [h]; rfl
theorem sameB_t (b : Bool) : sameB b true = b := by cases b <;> rfl
@[reducible] def mcCk (t : Trf) (l : Log) (s : Mc) (a b c d : Nat) : List AV := [.str t.name, .int .i64 t.unit, .int .i64 t.step, sRow t.zones, iRow t.hol, rulS t.rules, extS t.extras, fxdS t.fixed, .int .i64 l.c, .int .i64 l.d, .int .i64 l.t, evS l.ev, iRow (mrkS t),
  .int .i64 s.tk, .int .i64 s.pu, .int .i64 s.ps, .int .i64 s.zn, .int .i64 s.si, .int .i64 s.pa, .int .i64 s.st, .own a (2 * s.zs.length), .int .i64 s.fe, .int .i64 (t.unit * l.c), .int .i64 s.ad, .int .i64 s.at_, .own b (s.tr.length + 1), .own c (s.zs.length + 1), .own d (s.pc.length + 1)]
section
variable {W0 : World} (hX : (Xc W0 Gt).Good)
include hX
theorem c65 (t : Trf) (l : Log) (hs : Side (TOk t)) (hr : rnE t l = 0) (j : Nat) (hj : Side (j < (mcN t l l.ev.length).tr.length)) : Mut (Xc W0 Gt) 65 [trfA t, lgA l, .int .i64 j] [] (.tup 2 (tbl [.ptr 0 0, .int .i64 0])) (mcO t l (mcN t l l.ev.length)) := by
  have g := (rn_gd hs.get hr).1
  have hm := mcN_hm g (Nat.le_refl l.ev.length)
  have tl := hm.m.tr
  have hx0 : ((0 : Int) != 0) = true → False := fun q => by cases q
  refine mut_of' hX (show FnIs (Xc W0 Gt) 65 Tryz.f65 (codeOf Tryz.f65) from ⟨by kernel_rfl, by kernel_rfl, by kernel_rfl, by kernel_rfl⟩) rfl ?_
  repeat' (first
    | ((with_reducible refine (?_ : Alt _ _)); first | (with_reducible (apply altM (ks := []) (m := 5); apply And.intro; apply Sc.of; apply (c47 hX t l hs hr))) | (with_reducible apply callAlt (c50 hX _ _ _)) | (with_reducible apply callAlt (c49 hX _ _)) | (with_reducible refine Alt.one ?_))
    | ((with_reducible refine (?_ : AllLe _ _)); first | (first | exact AllLe.refl _ | (repeat' (first | exact trivial | apply Le.aggs | apply Le.tups | apply Le.fns | exact Le.refl _ | refine ⟨?_, ?_⟩))))
    | ((with_reducible refine (?_ : Sc _ (AllRen _ _ _))); refine Sc.of ?_; first | (repeat' (first | exact trivial | apply Le.aggs | apply Le.tups | apply Le.fns | exact Le.refl _ | refine ⟨?_, ?_⟩)))
    | ((with_reducible refine (?_ : (List.all _ _) = true)); rfl)
    | ((with_reducible refine (?_ : (and _ _) = true)); rfl)
    | ((with_reducible refine (?_ : List.Nodup _)); exact nodupB_spec rfl)
    | ((with_reducible refine (?_ : @Eq Nat _ _)); rfl)
    | ((with_reducible refine (?_ : @Eq (List (Option HObj)) _ _)); kernel_rfl)
    | ((with_reducible refine (?_ : LeOks _ _ _)); first | exact LeOks.ofEq (by kernel_rfl) | exact trivial | exact ⟨.refl _, trivial⟩ | exact ⟨.refl _, .refl _, trivial⟩)
    | ((fail_if_success with_reducible refine Stop.go ?_); (first | exact (hx0 ‹_›).elim | rw [beqvv ((mcN t l l.ev.length).tr.length + 1)] | rw [beqvv ((mcN t l l.ev.length).zs.length + 1)] | rw [beqvv ((mcN t l l.ev.length).pc.length + 1)] | rw [beqvv (mcN t l l.ev.length).tr.length] | rw [beqvv (mcN t l l.ev.length).zs.length] | rw [beqvv (mcN t l l.ev.length).pc.length] | rw [beqvv (2 * (mcN t l l.ev.length).zs.length)] | with_reducible refine And.intro ?_ ?_ | with_reducible refine Cut.go ?_ | (with_reducible (refine impI ?_; intro _)) | (with_reducible refine (?_ : footOK _ _ = true); kernel_rfl) | ((with_reducible refine propI ?_); conv => whnf))))
  all_goals try (exact .of (Nat.le_of_ble_eq_true rfl))
  all_goals try (exact .of ⟨by omega, by omega⟩)
  exact .mk [2, 3, 4, 5, 6] [] _ rfl (.le (.tups ⟨⟨trivial, .refl _⟩, .intI (by rw [inB_iff.2 (by have := hj.get; omega)]; rfl)⟩)) (.ofEq (by kernel_rfl)) (by kernel_rfl)
theorem c66 (t : Trf) (l : Log) (s : Mc) (j : Int) : Mut (Xc W0 Gt) 66 [.ptr 0 0, .int .i64 j] (mcO t l s) (.fn 94 2 (tbl [.ptr 5 0, .ptr 6 0])) (mcO t l s ++ [.box [.ptr 0 0], .box [.int .i64 j]]) := by
  refine mut_of' hX (show FnIs (Xc W0 Gt) 66 Tryz.f66 (codeOf Tryz.f66) from ⟨by kernel_rfl, by kernel_rfl, by kernel_rfl, by kernel_rfl⟩) rfl ?_
  repeat' (first
    | ((with_reducible refine (?_ : Alt _ _)); first | fail | (with_reducible refine Alt.one ?_))
    | ((with_reducible refine (?_ : AllLe _ _)); first | (first | exact AllLe.refl _ | (repeat' (first | exact trivial | apply Le.aggs | apply Le.tups | apply Le.fns | exact Le.refl _ | refine ⟨?_, ?_⟩))))
    | ((with_reducible refine (?_ : Sc _ (AllRen _ _ _))); refine Sc.of ?_; first | (repeat' (first | exact trivial | apply Le.aggs | apply Le.tups | apply Le.fns | exact Le.refl _ | refine ⟨?_, ?_⟩)))
    | ((with_reducible refine (?_ : (List.all _ _) = true)); rfl)
    | ((with_reducible refine (?_ : (and _ _) = true)); rfl)
    | ((with_reducible refine (?_ : List.Nodup _)); exact nodupB_spec rfl)
    | ((with_reducible refine (?_ : @Eq Nat _ _)); rfl)
    | ((with_reducible refine (?_ : @Eq (List (Option HObj)) _ _)); kernel_rfl)
    | ((with_reducible refine (?_ : LeOks _ _ _)); first | exact LeOks.ofEq (by kernel_rfl) | exact trivial | exact ⟨.refl _, trivial⟩ | exact ⟨.refl _, .refl _, trivial⟩)
    | ((fail_if_success with_reducible refine Stop.go ?_); (first | with_reducible refine And.intro ?_ ?_ | with_reducible refine Cut.go ?_ | (with_reducible (refine impI ?_; intro _)) | (with_reducible refine (?_ : footOK _ _ = true); kernel_rfl) | ((with_reducible refine propI ?_); conv => whnf))))
  all_goals try (exact .of (Nat.le_of_ble_eq_true rfl))
  exact .mk [5, 6] [] _ rfl (.le (.fns ⟨⟨trivial, .refl _⟩, .refl _⟩)) (.ofEq (by kernel_rfl)) (by kernel_rfl)
def adF (f : Nat → Cnt) (i : Nat) (p : Pc) (a : Nat) : Cnt := if a = i then addC (f a) p else f a
omit hX in
theorem ad_3 {f : Nat → Cnt} {i : Nat} {p : Pc} (h : (p.ps == 3) = true) (a : Nat) : adF f i p a = f a := by unfold adF addC; rw [h]; split <;> rfl
omit hX in
theorem ad_t {f : Nat → Cnt} {i : Nat} {p : Pc} (h : (p.ps == 3) = false) (h2 : p.tm = true) (a j : Nat) (hj : j < 3) : putF i 2 [.int .i64 ((f i).s + p.tk)] (fun a j => tbl (cntC (f a)) j) a j = tbl (cntC (adF f i p a)) j := by
  unfold adF addC putF
  rw [h, h2]
  by_cases e : a = i
  · subst e
    rw [if_pos (show a = a from rfl)]
    rcases (show j = 0 ∨ j = 1 ∨ j = 2 by omega) with q | q | q <;> subst q
    · rw [if_neg (by omega)]; rfl
    · rw [if_neg (by omega)]; rfl
    · rw [if_pos ⟨rfl, by omega, by show 2 < 2 + 1; omega⟩]; rfl
  · rw [if_neg (fun q => e q.1), if_neg e]
omit hX in
theorem ad_f {f : Nat → Cnt} {i : Nat} {p : Pc} (h : (p.ps == 3) = false) (h2 : p.tm = false) (a j : Nat) (hj : j < 3) : putF i 1 [.int .i64 ((f i).p + p.pu * max 1 p.tk)] (fun a j => tbl (cntC (f a)) j) a j = tbl (cntC (adF f i p a)) j := by
  unfold adF addC putF
  rw [h, h2]
  by_cases e : a = i
  · subst e
    rw [if_pos (show a = a from rfl)]
    rcases (show j = 0 ∨ j = 1 ∨ j = 2 by omega) with q | q | q <;> subst q
    · rw [if_neg (by omega)]; rfl
    · rw [if_pos ⟨rfl, by omega, by show 1 < 1 + 1; omega⟩]; rfl
    · rw [if_neg (by show ¬ (a = a ∧ 1 ≤ 2 ∧ 2 < 1 + 1); omega)]; rfl
  · rw [if_neg (fun q => e q.1), if_neg e]
set_option maxHeartbeats 400000 in
theorem c67 (p : Pc) (n i : Nat) (f : Nat → Cnt) (v : Nat) (hi : Side (i < n)) (hb : Side ((0 ≤ p.tk ∧ p.tk ≤ 1000000) ∧ (0 ≤ p.pu ∧ p.pu ≤ 30000000) ∧ (0 ≤ (f i).p ∧ (f i).p ≤ 30000000) ∧ (0 ≤ (f i).s ∧ (f i).s ≤ 2000000) ∧ (0 ≤ p.pu * max 1 p.tk ∧ p.pu * max 1 p.tk ≤ 30000000))) : Mut (Xc W0 Gt) 67 [.agg 7 (tbl (pcC p)), .lptr 0 v 3 i 0] [.list 108 3 n (fun a j => tbl (cntC (f a)) j) v] (.tup 0 (fun _ => .any)) [.list 108 3 n (fun a j => tbl (cntC (adF f i p a)) j) v] := by
  have hi := hi.get
  have hb := hb.get
  refine mut_of' hX (show FnIs (Xc W0 Gt) 67 Tryz.f67 (codeOf Tryz.f67) from ⟨by kernel_rfl, by kernel_rfl, by kernel_rfl, by kernel_rfl⟩) rfl ?_
  repeat' (first
    | ((with_reducible refine (?_ : Alt _ _)); first | fail | (with_reducible refine Alt.one ?_))
    | ((with_reducible refine (?_ : AllLe _ _)); first | (first | exact AllLe.refl _ | (repeat' (first | exact trivial | apply Le.aggs | apply Le.tups | apply Le.fns | exact Le.refl _ | refine ⟨?_, ?_⟩))))
    | ((with_reducible refine (?_ : Sc _ (AllRen _ _ _))); refine Sc.of ?_; first | (repeat' (first | exact trivial | apply Le.aggs | apply Le.tups | apply Le.fns | exact Le.refl _ | refine ⟨?_, ?_⟩)))
    | ((with_reducible refine (?_ : (List.all _ _) = true)); rfl)
    | ((with_reducible refine (?_ : (and _ _) = true)); rfl)
    | ((with_reducible refine (?_ : List.Nodup _)); exact nodupB_spec rfl)
    | ((with_reducible refine (?_ : @Eq Nat _ _)); rfl)
    | ((with_reducible refine (?_ : @Eq (List (Option HObj)) _ _)); kernel_rfl)
    | ((with_reducible refine (?_ : LeOks _ _ _)); first | exact LeOks.ofEq (by kernel_rfl) | exact trivial | exact ⟨.refl _, trivial⟩ | exact ⟨.refl _, .refl _, trivial⟩)
    | ((fail_if_success with_reducible refine Stop.go ?_); (first | rw [beqvv v] | with_reducible refine And.intro ?_ ?_ | with_reducible refine Cut.go ?_ | (with_reducible (refine impI ?_; intro _)) | (with_reducible refine (?_ : footOK _ _ = true); kernel_rfl) | ((with_reducible refine propI ?_); conv => whnf))))
  all_goals try (exact .of (Nat.le_of_ble_eq_true rfl))
  all_goals try (exact .of hi)
  all_goals try (exact .of ⟨by omega, by omega⟩)
  · conv => whnf
    rename_i h; exact .mk [] [] _ rfl (.le (.tups trivial)) ⟨.le (.list (fun a j ha hj => .ofEq (by rw [ad_3 h]))), trivial⟩ (by kernel_rfl)
  · rename_i h h2; exact .mk [] [] _ rfl (.le (.tups trivial)) ⟨.le (.list (fun a j ha hj => .ofEq (ad_t h h2 a j hj))), trivial⟩ (by kernel_rfl)
  · rename_i h h2; exact .mk [] [] _ rfl (.le (.tups trivial)) ⟨.le (.list (fun a j ha hj => .ofEq (ad_f h h2 a j hj))), trivial⟩ (by kernel_rfl)
omit hX in
theorem ct_y {j : Int} {q : List Pc} {i : Nat} (h : inT j (q.getD i pc0) = true) (a : Nat) : adF (fun a => ctN j q a i) (rlP (q.getD i pc0)) (q.getD i pc0) a = ctN j q a (i + 1) := by
  unfold adF
  simp only [ctN]
  unfold ctB
  rw [h]
  by_cases e : a = rlP (q.getD i pc0)
  · rw [if_pos e, decide_eq_true e.symm]; rfl
  · rw [if_neg e, decide_eq_false (fun c => e c.symm)]; rfl
set_option maxHeartbeats 4000000 in
theorem c25 (t : Trf) (l : Log) (hs : Side (TOk t)) (hr : rnE t l = 0) (j : Nat) (hj : Side (j < (mcN t l l.ev.length).tr.length)) : Pure (Xc W0 Gt) 25 [trfA t, lgA l, .int .i64 j] (.tup 2 (tbl [cntS (ouN j (mcN t l l.ev.length).pc t.rules.length), .int .i64 0])) := by
  have g := (rn_gd hs.get hr).1
  have hm := mcN_hm g (Nat.le_refl l.ev.length)
  have hjS := hj
  have tl := hm.m.tr
  have hx0 : ((0 : Int) != 0) = true → False := fun q => by cases q
  have rl := rules_len g.trf
  have iv := (mcN_iv g (rn_gd hs.get hr).2 l.ev.length (Nat.le_refl _)).1
  have ivp := iv.pk
  have ivq := iv.qq
  have ivt := iv.tt
  have nm := hm.nums
  have pl := hm.m.pc
  have hj := hj.get
  refine mut_of' hX (show FnIs (Xc W0 Gt) 25 Tryz.f25 (codeOf Tryz.f25) from ⟨by kernel_rfl, by kernel_rfl, by kernel_rfl, by kernel_rfl⟩) rfl ?_
  repeat' (first
    | ((with_reducible refine (?_ : Alt _ _)); first | (with_reducible (apply altM (ks := []) (m := 5); apply And.intro; apply Sc.of; apply (c65 hX t l hs hr j hjS))) | (with_reducible (apply altM (ks := [2, 3, 4, 5, 6]) (m := 2); apply And.intro; apply Sc.of; apply (c66 hX t l (mcN t l l.ev.length) j))) | (with_reducible refine Alt.one ?_))
    | ((with_reducible refine (?_ : AllLe _ _)); first | (first | exact AllLe.refl _ | (repeat' (first | exact trivial | apply Le.aggs | apply Le.tups | apply Le.fns | exact Le.refl _ | refine ⟨?_, ?_⟩))))
    | ((with_reducible refine (?_ : Sc _ (AllRen _ _ _))); refine Sc.of ?_; first | (repeat' (first | exact trivial | apply Le.aggs | apply Le.tups | apply Le.fns | exact Le.refl _ | refine ⟨?_, ?_⟩)))
    | ((with_reducible refine (?_ : (List.all _ _) = true)); rfl)
    | ((with_reducible refine (?_ : (and _ _) = true)); rfl)
    | ((with_reducible refine (?_ : List.Nodup _)); exact nodupB_spec rfl)
    | ((with_reducible refine (?_ : @Eq Nat _ _)); rfl)
    | ((with_reducible refine (?_ : @Eq (List (Option HObj)) _ _)); kernel_rfl)
    | ((with_reducible refine (?_ : LeOks _ _ _)); first | exact LeOks.ofEq (by kernel_rfl) | exact trivial | exact ⟨.refl _, trivial⟩ | exact ⟨.refl _, .refl _, trivial⟩)
    | ((fail_if_success with_reducible refine Stop.go ?_); (first | exact (hx0 ‹_›).elim | rw [beqvv ((mcN t l l.ev.length).tr.length + 1)] | rw [beqvv ((mcN t l l.ev.length).zs.length + 1)] | rw [beqvv ((mcN t l l.ev.length).pc.length + 1)] | rw [beqvv (mcN t l l.ev.length).tr.length] | rw [beqvv (mcN t l l.ev.length).zs.length] | rw [beqvv (mcN t l l.ev.length).pc.length] | rw [beqvv (2 * (mcN t l l.ev.length).zs.length)] | with_reducible refine And.intro ?_ ?_ | with_reducible refine Cut.go ?_ | (with_reducible (refine impI ?_; intro _)) | (with_reducible refine (?_ : footOK _ _ = true); kernel_rfl) | ((with_reducible refine propI ?_); conv => whnf))))
  all_goals try (exact .of (Nat.le_of_ble_eq_true rfl))
  · exact .of ⟨rfl, by omega, by show t.rules.length * 24 ≤ 281474976710656; omega, by omega⟩
  refine ⟨_, _, (show FnIs (Xc W0 Gt) 94 Tryz.f94 (codeOf Tryz.f94) from ⟨by kernel_rfl, by kernel_rfl, by kernel_rfl, by kernel_rfl⟩), rfl, ?_⟩
  repeat' (first
    | ((with_reducible refine (?_ : Alt _ _)); first | fail | (with_reducible refine Alt.one ?_))
    | ((with_reducible refine (?_ : AllLe _ _)); first | (first | exact AllLe.refl _ | (repeat' (first | exact trivial | apply Le.aggs | apply Le.tups | apply Le.fns | exact Le.refl _ | refine ⟨?_, ?_⟩))))
    | ((with_reducible refine (?_ : Sc _ (AllRen _ _ _))); refine Sc.of ?_; first | (repeat' (first | exact trivial | apply Le.aggs | apply Le.tups | apply Le.fns | exact Le.refl _ | refine ⟨?_, ?_⟩)))
    | ((with_reducible refine (?_ : (List.all _ _) = true)); rfl)
    | ((with_reducible refine (?_ : (and _ _) = true)); rfl)
    | ((with_reducible refine (?_ : List.Nodup _)); exact nodupB_spec rfl)
    | ((with_reducible refine (?_ : @Eq Nat _ _)); rfl)
    | ((with_reducible refine (?_ : @Eq (List (Option HObj)) _ _)); kernel_rfl)
    | ((with_reducible refine (?_ : LeOks _ _ _)); first | exact LeOks.ofEq (by kernel_rfl) | exact trivial | exact ⟨.refl _, trivial⟩ | exact ⟨.refl _, .refl _, trivial⟩)
    | ((fail_if_success with_reducible refine Stop.go ?_); (first | rw [beqvv ((mcN t l l.ev.length).tr.length + 1)] | rw [beqvv ((mcN t l l.ev.length).zs.length + 1)] | rw [beqvv ((mcN t l l.ev.length).pc.length + 1)] | rw [beqvv (mcN t l l.ev.length).tr.length] | rw [beqvv (mcN t l l.ev.length).zs.length] | rw [beqvv (mcN t l l.ev.length).pc.length] | rw [beqvv (2 * (mcN t l l.ev.length).zs.length)] | with_reducible refine And.intro ?_ ?_ | with_reducible refine Cut.go ?_ | (with_reducible (refine impI ?_; intro _)) | (with_reducible refine (?_ : footOK _ _ = true); kernel_rfl) | ((with_reducible refine propI ?_); conv => whnf))))
  · exact .of (Nat.le_of_ble_eq_true rfl)
  · exact .of (Nat.le_of_ble_eq_true rfl)
  generalize hL : HObj.lrec _ _ _ _ _ _ _ = L
  refine ⟨Nat, fun i => ([(0, .yld 11), (2, .ptr 10 0), (9, .own 6 ((mcN t l l.ev.length).pc.length + 1)), (10, .int .i64 (mcN t l l.ev.length).pc.length), (11, .int .i64 ((i : Nat)))], [.box (trfC t), .box (logC l (evS l.ev)), .box (mcCk t l (mcN t l l.ev.length) 3 4 5 6), mxO (mcN t l l.ev.length).ex (mxV (mcN t l l.ev.length)), trO (mcN t l l.ev.length).tr, zsO (mcN t l l.ev.length).zs, pcO (mcN t l l.ev.length).pc, .list 108 3 t.rules.length (fun a b => tbl (cntC (ctN j (mcN t l l.ev.length).pc a (i))) b) 1, .box [.own 7 1], .box [.ptr 2 0], .box [.int .i64 j], L]), fun i => i ≤ (mcN t l l.ev.length).pc.length, fun i => (mcN t l l.ev.length).pc.length - i, ⟨0, Nat.zero_le _, ?_⟩, fun i hi => ?_⟩
  all_goals subst hL
  · refine .le ⟨by kernel_rfl, ⟨.refl _, .refl _, .refl _, .refl _, .refl _, .refl _, .refl _, .list (fun a b ha hb => ?_), .refl _, .refl _, .refl _, .refl _, trivial⟩, ⟨.refl _, .refl _, .refl _, .refl _, .refl _, trivial⟩⟩
    replace hb : b < 3 := hb
    rcases (show b = 0 ∨ b = 1 ∨ b = 2 by omega) with q | q | q <;> subst q <;> exact .refl _
  replace hi : i ≤ (mcN t l l.ev.length).pc.length := hi
  have hA : ∀ b : Bool, sameB b true = true → sameB b true = false → False := fun b p q => by rw [p] at q; cases q
  have hB : ∀ b : Bool, (bif b then !true else false) = true → False := fun b q => by cases b <;> cases q
  have hC : ∀ a c : Bool, sameB a true = false → sameB (bif a then c else false) true = true → False := fun a c p q => by cases a <;> cases c <;> first | (cases p; done) | (cases q; done) | (exact absurd q (by decide))
  have hD : false = true → False := fun q => by cases q
  repeat' (first
    | ((with_reducible refine (?_ : Alt _ _)); first | (with_reducible (apply altM (ks := [7]) (m := 0); apply And.intro; apply Sc.of; apply (c67 hX ((mcN t l l.ev.length).pc.getD i pc0) t.rules.length (rlP ((mcN t l l.ev.length).pc.getD i pc0)) (fun a => ctN j (mcN t l l.ev.length).pc a i) 1 ?_ ?_))) | (with_reducible refine Alt.one ?_))
    | ((with_reducible refine (?_ : AllLe _ _)); first | (first | exact AllLe.refl _ | (repeat' (first | exact trivial | apply Le.aggs | apply Le.tups | apply Le.fns | exact Le.refl _ | refine ⟨?_, ?_⟩))))
    | ((with_reducible refine (?_ : Sc _ (AllRen _ _ _))); refine Sc.of ?_; first | (repeat' (first | exact trivial | apply Le.aggs | apply Le.tups | apply Le.fns | exact Le.refl _ | refine ⟨?_, ?_⟩)))
    | ((with_reducible refine (?_ : (List.all _ _) = true)); rfl)
    | ((with_reducible refine (?_ : (and _ _) = true)); rfl)
    | ((with_reducible refine (?_ : List.Nodup _)); exact nodupB_spec rfl)
    | ((with_reducible refine (?_ : @Eq Nat _ _)); rfl)
    | ((with_reducible refine (?_ : @Eq (List (Option HObj)) _ _)); kernel_rfl)
    | ((with_reducible refine (?_ : LeOks _ _ _)); first | exact LeOks.ofEq (by kernel_rfl) | exact trivial | exact ⟨.refl _, trivial⟩ | exact ⟨.refl _, .refl _, trivial⟩)
    | ((fail_if_success with_reducible refine Stop.go ?_); (first | exact (hA _ ‹_› ‹_›).elim | exact (hB _ ‹_›).elim | exact (hC _ _ ‹_› ‹_›).elim | exact (hD ‹_›).elim | rw [beqvv ((mcN t l l.ev.length).pc.length + 1)] | with_reducible refine And.intro ?_ ?_ | with_reducible refine Cut.go ?_ | (with_reducible (refine impI ?_; intro _)) | (with_reducible refine (?_ : footOK _ _ = true); kernel_rfl) | ((with_reducible refine propI ?_); conv => whnf))))
  all_goals try (exact .of (Nat.le_of_ble_eq_true rfl))
  all_goals try (have lt : i < (mcN t l l.ev.length).pc.length := (by have q := of_decide_eq_true ‹decide ((i : Int) < ((mcN t l l.ev.length).pc.length : Int)) = true›; omega); exact .of ⟨by omega, by omega⟩)
  all_goals try (have lt : i < (mcN t l l.ev.length).pc.length := (by have q := of_decide_eq_true ‹decide ((i : Int) < ((mcN t l l.ev.length).pc.length : Int)) = true›; omega); exact .of (by omega))
  all_goals try (exact .of (by have q := ‹sameB ((bif ((mcN t l l.ev.length).pc.getD (i : Int).toNat pc0).tr == (j : Int) then ((mcN t l l.ev.length).pc.getD (i : Int).toNat pc0).ps != 0 else false)) true = false›; rwa [sameB_t] at q))
  all_goals try (exact .of (by have q := ‹sameB (((mcN t l l.ev.length).pc.getD (i : Int).toNat pc0).tr == (j : Int)) true = false›; rwa [sameB_t] at q))
  all_goals try (exact .of rfl)
  all_goals try (have lt : i < (mcN t l l.ev.length).pc.length := (by have q := of_decide_eq_true ‹decide ((i : Int) < ((mcN t l l.ev.length).pc.length : Int)) = true›; omega); have q := ‹sameB ((bif ((mcN t l l.ev.length).pc.getD (i : Int).toNat pc0).tr == (j : Int) then ((mcN t l l.ev.length).pc.getD (i : Int).toNat pc0).ps != 0 else false)) true = true›; rw [sameB_t, Int.toNat_natCast] at q; have q2 := bne_iff_ne.1 (and_t q).2; have rr := (ivp i lt).ru q2; first | exact Side.mk rr | exact .of ⟨by omega, by rw [Int.toNat_natCast]; unfold rlP at rr; omega⟩ | (have o := ivp i lt; have o1 := o.tk; have o2 := o.pu; have sq := suQ_le ivp i (mcN t l l.ev.length).pc.length (by omega) (Nat.le_refl _); have sq1 := suQ_le ivp (i + 1) (mcN t l l.ev.length).pc.length (by omega) (Nat.le_refl _); simp only [suQ, suT] at sq1; have o3 : 0 ≤ ((mcN t l l.ev.length).pc.getD i pc0).pu * max 1 ((mcN t l l.ev.length).pc.getD i pc0).tk := Int.mul_nonneg o2 (by omega); have o4 : ((mcN t l l.ev.length).pc.getD i pc0).pu * 1 ≤ ((mcN t l l.ev.length).pc.getD i pc0).pu * max 1 ((mcN t l l.ev.length).pc.getD i pc0).tk := Int.mul_le_mul_of_nonneg_left (by omega) o2; have cb := ct_bd (j := (j : Int)) (r := rlP ((mcN t l l.ev.length).pc.getD i pc0)) i fun k hk => ivp k (by omega); have zq := (suQ_le ivp 0 i (Nat.zero_le _) (by omega)); simp only [suQ, suT] at zq; exact Side.mk ⟨⟨by omega, by omega⟩, ⟨by omega, by omega⟩, ⟨by omega, by omega⟩, ⟨by omega, by omega⟩, by omega, by omega⟩))
  all_goals try (exact .of ⟨by omega, by omega⟩)
  · have lt : i < (mcN t l l.ev.length).pc.length := (by have q := of_decide_eq_true ‹decide ((i : Int) < ((mcN t l l.ev.length).pc.length : Int)) = true›; omega); have q := ‹sameB ((bif ((mcN t l l.ev.length).pc.getD (i : Int).toNat pc0).tr == (j : Int) then ((mcN t l l.ev.length).pc.getD (i : Int).toNat pc0).ps != 0 else false)) true = true›; rw [sameB_t, Int.toNat_natCast] at q
    refine ⟨i + 1, by show i + 1 ≤ _; omega, by show (mcN t l l.ev.length).pc.length - (i + 1) < (mcN t l l.ev.length).pc.length - i; omega, .le ⟨by kernel_rfl, ⟨.refl _, .refl _, .refl _, .refl _, .refl _, .refl _, .refl _, .list (fun a b ha hb => .ofEq ?_), .refl _, .refl _, .refl _, .refl _, trivial⟩, ⟨.refl _, .refl _, .refl _, .refl _, .intI (by omega), trivial⟩⟩⟩
    show tbl (cntC (adF (fun a => ctN j (mcN t l l.ev.length).pc a i) (rlP ((mcN t l l.ev.length).pc.getD i pc0)) ((mcN t l l.ev.length).pc.getD i pc0) a)) b = _
    rw [ct_y q]
  · have lt : i < (mcN t l l.ev.length).pc.length := (by have q := of_decide_eq_true ‹decide ((i : Int) < ((mcN t l l.ev.length).pc.length : Int)) = true›; omega); have q := ‹sameB ((bif ((mcN t l l.ev.length).pc.getD (i : Int).toNat pc0).tr == (j : Int) then ((mcN t l l.ev.length).pc.getD (i : Int).toNat pc0).ps != 0 else false)) true = false›; rw [sameB_t, Int.toNat_natCast] at q
    refine ⟨i + 1, by show i + 1 ≤ _; omega, by show (mcN t l l.ev.length).pc.length - (i + 1) < (mcN t l l.ev.length).pc.length - i; omega, .le ⟨by kernel_rfl, ⟨.refl _, .refl _, .refl _, .refl _, .refl _, .refl _, .refl _, .list (fun a b ha hb => .ofEq ?_), .refl _, .refl _, .refl _, .refl _, trivial⟩, ⟨.refl _, .refl _, .refl _, .refl _, .intI (by omega), trivial⟩⟩⟩
    show tbl (cntC (ctN j (mcN t l l.ev.length).pc a i)) b = tbl (cntC (ctN j (mcN t l l.ev.length).pc a (i + 1))) b
    rw [ct_n q]
  · have lt : i < (mcN t l l.ev.length).pc.length := (by have q := of_decide_eq_true ‹decide ((i : Int) < ((mcN t l l.ev.length).pc.length : Int)) = true›; omega); have q := ‹sameB (((mcN t l l.ev.length).pc.getD (i : Int).toNat pc0).tr == (j : Int)) true = false›; rw [sameB_t, Int.toNat_natCast] at q
    refine ⟨i + 1, by show i + 1 ≤ _; omega, by show (mcN t l l.ev.length).pc.length - (i + 1) < (mcN t l l.ev.length).pc.length - i; omega, .le ⟨by kernel_rfl, ⟨.refl _, .refl _, .refl _, .refl _, .refl _, .refl _, .refl _, .list (fun a b ha hb => .ofEq ?_), .refl _, .refl _, .refl _, .refl _, trivial⟩, ⟨.refl _, .refl _, .refl _, .refl _, .intI (by omega), trivial⟩⟩⟩
    show tbl (cntC (ctN j (mcN t l l.ev.length).pc a i)) b = tbl (cntC (ctN j (mcN t l l.ev.length).pc a (i + 1))) b
    rw [ct_n (by unfold inT; rw [q]; rfl)]
  have q := of_decide_eq_false ‹decide ((i : Int) < ((mcN t l l.ev.length).pc.length : Int)) = false›
  obtain rfl : i = (mcN t l l.ev.length).pc.length := by omega
  clear hA hB hC hD
  refine ⟨Nat ⊕ Nat, fun y => match y with | .inl r => ([(12, .slc0), (40, .own 0 1), (41, .int .i64 t.rules.length), (42, .int .i64 ((r : Nat)))], [.list 108 3 t.rules.length (fun a b => tbl (cntC (ctN j (mcN t l l.ev.length).pc a ((mcN t l l.ev.length).pc.length))) b) 1]) | .inr r => ([(12, .own 1 (ouN (j : Int) (mcN t l l.ev.length).pc (r)).length), (40, .own 0 1), (41, .int .i64 t.rules.length), (42, .int .i64 ((r : Nat)))], [.list 108 3 t.rules.length (fun a b => tbl (cntC (ctN j (mcN t l l.ev.length).pc a ((mcN t l l.ev.length).pc.length))) b) 1, .list 108 3 (ouN (j : Int) (mcN t l l.ev.length).pc (r)).length (fun a b => tbl (cntC ((ouN (j : Int) (mcN t l l.ev.length).pc (r)).getD a cnt0)) b) (ouN (j : Int) (mcN t l l.ev.length).pc (r)).length]), fun y => match y with | .inl r => r ≤ t.rules.length ∧ (ouN (j : Int) (mcN t l l.ev.length).pc (r)) = [] | .inr r => r ≤ t.rules.length, fun y => match y with | .inl r => t.rules.length - r | .inr r => t.rules.length - r, ⟨.inl 0, ⟨Nat.zero_le _, rfl⟩, .fr [7] [] (by kernel_rfl) ⟨.le (.refl _), trivial⟩ ⟨.le (.refl _), .le (.refl _), .le (.refl _), .le (.refl _), trivial⟩⟩, fun y hy => ?_⟩
  rcases y with r | r
  · obtain ⟨hr2, he⟩ := hy
    repeat' (first
      | ((with_reducible refine (?_ : Alt _ _)); first | fail | (with_reducible refine Alt.one ?_))
      | ((with_reducible refine (?_ : AllLe _ _)); first | (first | exact AllLe.refl _ | (repeat' (first | exact trivial | apply Le.aggs | apply Le.tups | apply Le.fns | exact Le.refl _ | refine ⟨?_, ?_⟩))))
      | ((with_reducible refine (?_ : Sc _ (AllRen _ _ _))); refine Sc.of ?_; first | (repeat' (first | exact trivial | apply Le.aggs | apply Le.tups | apply Le.fns | exact Le.refl _ | refine ⟨?_, ?_⟩)))
      | ((with_reducible refine (?_ : (List.all _ _) = true)); rfl)
      | ((with_reducible refine (?_ : (and _ _) = true)); rfl)
      | ((with_reducible refine (?_ : List.Nodup _)); exact nodupB_spec rfl)
      | ((with_reducible refine (?_ : @Eq Nat _ _)); rfl)
      | ((with_reducible refine (?_ : @Eq (List (Option HObj)) _ _)); kernel_rfl)
      | ((with_reducible refine (?_ : LeOks _ _ _)); first | exact LeOks.ofEq (by kernel_rfl) | exact trivial | exact ⟨.refl _, trivial⟩ | exact ⟨.refl _, .refl _, trivial⟩)
      | ((fail_if_success with_reducible refine Stop.go ?_); (first | with_reducible refine And.intro ?_ ?_ | with_reducible refine Cut.go ?_ | (with_reducible (refine impI ?_; intro _)) | (with_reducible refine (?_ : footOK _ _ = true); kernel_rfl) | ((with_reducible refine propI ?_); conv => whnf))))
    all_goals try (exact .of (Nat.le_of_ble_eq_true rfl))
    all_goals try (have lt : r < t.rules.length := (by have q := of_decide_eq_true ‹decide ((r : Int) < (t.rules.length : Int)) = true›; omega); first | exact .of ⟨by omega, by omega⟩ | exact .of (by omega))
    all_goals try (exact .of ⟨Nat.le_of_ble_eq_true rfl, Nat.le_of_ble_eq_true rfl⟩)
    · have lt : r < t.rules.length := (by have q := of_decide_eq_true ‹decide ((r : Int) < (t.rules.length : Int)) = true›; omega); have ob : ouB (ouC j (mcN t l l.ev.length).pc r) = true := (by have q := ‹(bif decide (0 < (ctN j (mcN t l l.ev.length).pc (r : Int).toNat (mcN t l l.ev.length).pc.length).p) then true else decide (0 < (ctN j (mcN t l l.ev.length).pc (r : Int).toNat (mcN t l l.ev.length).pc.length).s)) = true›; rw [Int.toNat_natCast] at q; exact q)
      have ey := ou_y ob
      rw [he, List.nil_append] at ey
      refine ⟨.inr (r + 1), by show r + 1 ≤ _; omega, by show t.rules.length - (r + 1) < t.rules.length - r; omega, ?_⟩
      show StTo _ _ _ [(12, .own 1 (ouN (j : Int) (mcN t l l.ev.length).pc (r + 1)).length), (40, .own 0 1), (41, .int .i64 t.rules.length), (42, .int .i64 ((r + 1 : Nat)))] [.list 108 3 t.rules.length (fun a b => tbl (cntC (ctN j (mcN t l l.ev.length).pc a ((mcN t l l.ev.length).pc.length))) b) 1, .list 108 3 (ouN (j : Int) (mcN t l l.ev.length).pc (r + 1)).length (fun a b => tbl (cntC ((ouN (j : Int) (mcN t l l.ev.length).pc (r + 1)).getD a cnt0)) b) (ouN (j : Int) (mcN t l l.ev.length).pc (r + 1)).length]
      rw [ey]
      refine .fr [0, 2] [] (by kernel_rfl) ⟨.le (.refl _), .le (.list (fun a b ha hb => ?_)), trivial⟩ ⟨.le (.refl _), .le (.refl _), .le (.refl _), .le (.intI (by omega)), trivial⟩
      replace hb : b < 3 := hb
      replace ha : a < 1 := ha
      obtain rfl : a = 0 := by omega
      unfold ouC
      rcases (show b = 0 ∨ b = 1 ∨ b = 2 by omega) with q | q | q <;> subst q <;> (refine .ofEq ?_) <;> (simp only [Int.toNat_natCast]) <;> rfl
    · have lt : r < t.rules.length := (by have q := of_decide_eq_true ‹decide ((r : Int) < (t.rules.length : Int)) = true›; omega); have ob : ouB (ouC j (mcN t l l.ev.length).pc r) = false := (by have q := ‹(bif decide (0 < (ctN j (mcN t l l.ev.length).pc (r : Int).toNat (mcN t l l.ev.length).pc.length).p) then true else decide (0 < (ctN j (mcN t l l.ev.length).pc (r : Int).toNat (mcN t l l.ev.length).pc.length).s)) = false›; rw [Int.toNat_natCast] at q; exact q)
      exact ⟨.inl (r + 1), ⟨by omega, (ou_n ob).trans he⟩, by show t.rules.length - (r + 1) < t.rules.length - r; omega, .le ⟨by kernel_rfl, ⟨.refl _, trivial⟩, ⟨.refl _, .refl _, .refl _, .intI (by omega), trivial⟩⟩⟩
    · have q := of_decide_eq_false ‹decide ((r : Int) < (t.rules.length : Int)) = false›
      obtain rfl : r = t.rules.length := by omega
      refine .mk [] [] _ rfl (.le (.tups ⟨⟨trivial, ?_⟩, .refl _⟩)) trivial rfl
      show Le .slc0 (cntS (ouN (j : Int) (mcN t l l.ev.length).pc (t.rules.length)))
      rw [he]; exact .slc0 _ _
  · replace hy : r ≤ t.rules.length := hy
    have ol := ou_len (j := (j : Int)) (q := (mcN t l l.ev.length).pc) r
    repeat' (first
      | ((with_reducible refine (?_ : Alt _ _)); first | fail | (with_reducible refine Alt.one ?_))
      | ((with_reducible refine (?_ : AllLe _ _)); first | (first | exact AllLe.refl _ | (repeat' (first | exact trivial | apply Le.aggs | apply Le.tups | apply Le.fns | exact Le.refl _ | refine ⟨?_, ?_⟩))))
      | ((with_reducible refine (?_ : Sc _ (AllRen _ _ _))); refine Sc.of ?_; first | (repeat' (first | exact trivial | apply Le.aggs | apply Le.tups | apply Le.fns | exact Le.refl _ | refine ⟨?_, ?_⟩)))
      | ((with_reducible refine (?_ : (List.all _ _) = true)); rfl)
      | ((with_reducible refine (?_ : (and _ _) = true)); rfl)
      | ((with_reducible refine (?_ : List.Nodup _)); exact nodupB_spec rfl)
      | ((with_reducible refine (?_ : @Eq Nat _ _)); rfl)
      | ((with_reducible refine (?_ : @Eq (List (Option HObj)) _ _)); kernel_rfl)
      | ((with_reducible refine (?_ : LeOks _ _ _)); first | exact LeOks.ofEq (by kernel_rfl) | exact trivial | exact ⟨.refl _, trivial⟩ | exact ⟨.refl _, .refl _, trivial⟩)
      | ((fail_if_success with_reducible refine Stop.go ?_); (first | rw [beqvv (ouN (j : Int) (mcN t l l.ev.length).pc (r)).length] | with_reducible refine And.intro ?_ ?_ | with_reducible refine Cut.go ?_ | (with_reducible (refine impI ?_; intro _)) | (with_reducible refine (?_ : footOK _ _ = true); kernel_rfl) | ((with_reducible refine propI ?_); conv => whnf))))
    all_goals try (exact .of (Nat.le_of_ble_eq_true rfl))
    all_goals try (have lt : r < t.rules.length := (by have q := of_decide_eq_true ‹decide ((r : Int) < (t.rules.length : Int)) = true›; omega); first | exact .of ⟨by omega, by omega⟩ | exact .of (by omega) | exact Sc.of ⟨show ((ouN (j : Int) (mcN t l l.ev.length).pc (r)).length + (0 + 1)) * 24 ≤ 140737488355328 by omega, show (ouN (j : Int) (mcN t l l.ev.length).pc (r)).length + (0 + 1) ≤ 9223372036854775807 by omega⟩)
    · have lt : r < t.rules.length := (by have q := of_decide_eq_true ‹decide ((r : Int) < (t.rules.length : Int)) = true›; omega); have ob : ouB (ouC j (mcN t l l.ev.length).pc r) = true := (by have q := ‹(bif decide (0 < (ctN j (mcN t l l.ev.length).pc (r : Int).toNat (mcN t l l.ev.length).pc.length).p) then true else decide (0 < (ctN j (mcN t l l.ev.length).pc (r : Int).toNat (mcN t l l.ev.length).pc.length).s)) = true›; rw [Int.toNat_natCast] at q; exact q)
      have ey := ou_y ob
      have el : (ouN (j : Int) (mcN t l l.ev.length).pc (r + 1)).length = (ouN (j : Int) (mcN t l l.ev.length).pc (r)).length + 1 := by rw [ey]; simp
      refine ⟨.inr (r + 1), by show r + 1 ≤ _; omega, by show t.rules.length - (r + 1) < t.rules.length - r; omega, ?_⟩
      show StTo _ _ _ [(12, .own 1 (ouN (j : Int) (mcN t l l.ev.length).pc (r + 1)).length), (40, .own 0 1), (41, .int .i64 t.rules.length), (42, .int .i64 ((r + 1 : Nat)))] [.list 108 3 t.rules.length (fun a b => tbl (cntC (ctN j (mcN t l l.ev.length).pc a ((mcN t l l.ev.length).pc.length))) b) 1, .list 108 3 (ouN (j : Int) (mcN t l l.ev.length).pc (r + 1)).length (fun a b => tbl (cntC ((ouN (j : Int) (mcN t l l.ev.length).pc (r + 1)).getD a cnt0)) b) (ouN (j : Int) (mcN t l l.ev.length).pc (r + 1)).length]
      rw [el]
      refine .le ⟨by kernel_rfl, ⟨.refl _, .list (fun a b ha hb => .ofEq ?_), trivial⟩, ⟨.refl _, .refl _, .refl _, .intI (by omega), trivial⟩⟩
      rw [ey]
      exact cnt_push (x := ouC j (mcN t l l.ev.length).pc r) (fun b => by unfold ouC; show List.getD [AV.int .i64 (r : Int), AV.int .i64 (ctN j (mcN t l l.ev.length).pc (r : Int).toNat (mcN t l l.ev.length).pc.length).p, AV.int .i64 (ctN j (mcN t l l.ev.length).pc (r : Int).toNat (mcN t l l.ev.length).pc.length).s] (0 * 3 + b) _ = _; rw [Nat.zero_mul, Nat.zero_add, Int.toNat_natCast]; rfl) ha
    · have lt : r < t.rules.length := (by have q := of_decide_eq_true ‹decide ((r : Int) < (t.rules.length : Int)) = true›; omega); have ob : ouB (ouC j (mcN t l l.ev.length).pc r) = false := (by have q := ‹(bif decide (0 < (ctN j (mcN t l l.ev.length).pc (r : Int).toNat (mcN t l l.ev.length).pc.length).p) then true else decide (0 < (ctN j (mcN t l l.ev.length).pc (r : Int).toNat (mcN t l l.ev.length).pc.length).s)) = false›; rw [Int.toNat_natCast] at q; exact q)
      refine ⟨.inr (r + 1), by show r + 1 ≤ _; omega, by show t.rules.length - (r + 1) < t.rules.length - r; omega, ?_⟩
      show StTo _ _ _ [(12, .own 1 (ouN (j : Int) (mcN t l l.ev.length).pc (r + 1)).length), (40, .own 0 1), (41, .int .i64 t.rules.length), (42, .int .i64 ((r + 1 : Nat)))] [.list 108 3 t.rules.length (fun a b => tbl (cntC (ctN j (mcN t l l.ev.length).pc a ((mcN t l l.ev.length).pc.length))) b) 1, .list 108 3 (ouN (j : Int) (mcN t l l.ev.length).pc (r + 1)).length (fun a b => tbl (cntC ((ouN (j : Int) (mcN t l l.ev.length).pc (r + 1)).getD a cnt0)) b) (ouN (j : Int) (mcN t l l.ev.length).pc (r + 1)).length]
      rw [ou_n ob]
      exact .le ⟨by kernel_rfl, ⟨.refl _, .refl _, trivial⟩, ⟨.refl _, .refl _, .refl _, .intI (by omega), trivial⟩⟩
    · have q := of_decide_eq_false ‹decide ((r : Int) < (t.rules.length : Int)) = false›
      obtain rfl : r = t.rules.length := by omega
      exact .mk [] [1] _ rfl (.tups ⟨⟨trivial, .own rfl (fun _ _ _ _ => .refl _)⟩, .le (.refl _)⟩) trivial rfl

end
end Go.Fx
