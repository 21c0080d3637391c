/-
 Times of changes; NextChange.
-/
import Derived.Test.YtkinfbkpecjpnaaGreatDoorGs
import Derived.Test.YtkinfbkpecjpnaaGreatDoorGt
set_option linter.all false
/-
 Times of changes.
-/
namespace Go.Fx
open Go.Proofs Go.RowKit
theorem chg_at (t : Trf) {i a : Nat} {f : Nat -> Nat -> AV} (hf0 : f 0 0 = .int .i64 (t.rules.getD i rul0).bg) (hf1 : f 1 0 = .int .i64 ((t.rules.getD i rul0).en.tmod 86400)) (ha : a < (chgL t i).length + 2) :
  joinF (chgL t i).length (fun a _ => .int .i64 ((chgL t i).getD a 0)) f a 0 = .int .i64 ((chgL t (i + 1)).getD a 0) := by
 unfold joinF
 have e : chgL t (i + 1) = chgL t i ++ [(t.rules.getD i rul0).bg, (t.rules.getD i rul0).en.tmod 86400] := rfl
 by_cases h : a < (chgL t i).length
 ·rw [if_pos h, e]; simp [List.getD_eq_getElem?_getD, List.getElem?_append_left h]
 ·rw [if_neg h, e]
  rcases (show a = (chgL t i).length \/ a = (chgL t i).length + 1 by omega) with q | q
  ·rw [q, Nat.sub_self, hf0]; simp [List.getD_eq_getElem?_getD]
  ·rw [q, show (chgL t i).length + 1 - (chgL t i).length = 1 by omega, hf1]; simp [List.getD_eq_getElem?_getD]
def lastL (l : List Int) : Int := l.getD (l.length - 1) 0
section
variable {W0 : World} {G : Nat -> Option AV} (hX : (Xc W0 G).Good)
include hX
theorem c153 {l : List Int} {ver : Nat} {g : Nat -> AV} (hs : Side (l ≠ [] /\ l.length <= 1000)) : Mut (Xc W0 G) 153 [.own 0 ver] [.list 3 1 (l).length (fun i _ => .int .i64 ((l).getD i 0)) (ver)] (.tup 0 g) [.list 3 1 (sortI l).length (fun i _ => .int .i64 ((sortI l).getD i 0)) (ver)] :=
 mut_sort (enters_lib (by kernel_rfl)) hs.get.1 hs.get.2 fun b cap w h1 h2 => Tryz.slices_Sort_int b 0 cap l w h1 h2 (by have := hs.get.2; omega)
theorem c154 {l : List Int} {ver : Nat} (hs : Side (l ≠ [] /\ l.length <= 1000)) : Mut (Xc W0 G) 154 [.own 0 ver] [.list 3 1 (l).length (fun i _ => .int .i64 ((l).getD i 0)) (ver)] (.slc 1 (compI l).length (fun i _ => .int .i64 ((compI l).getD i 0))) [.dead] :=
 mut_comp (enters_lib (by kernel_rfl)) hs.get.1 hs.get.2 fun b cap w h1 h2 => Tryz.slices_Compact_int b 0 cap l w h1 (by have := hs.get.2; omega) h2
set_option maxHeartbeats 1000000 in
theorem c117 (t : Trf) (hs : Side (TOk t /\ trfE t = 0)) : Pure (Xc W0 G) 117 [trfA t] (iRow (timesL t)) := by
 have hs := hs.get
 have r12 := rules_len hs.2
 refine mut_of' hX (fnI Tryz.f117) rfl ?_
 repeat' (first
  | (refine Ax.go ?_; first | (with_reducible refine Alt.two ?_) | (with_reducible apply Alt.one))
  | exact Cl.go
  | ((fail_if_success refine Stop.go ?_); first | (with_reducible first | apply And.intro | apply Cut.go | (refine impI ?_; intro _)) | (refine propI ?_; conv => whnf)))
 all_goals try exact nbZ
 refine ⟨Nat, fun i => ([(3, .own 1 (i + 1)), (9, rulS t.rules), (10, .int .i64 t.rules.length), (11, .int .i64 i)], [.dead, .list 3 1 (chgL t (i)).length (fun a _ => .int .i64 ((chgL t (i)).getD a 0)) (i + 1)]), fun i => i <= t.rules.length, fun i => t.rules.length - i, ⟨0, Nat.zero_le _, .le ⟨rfl, ⟨.dead _, .list (fun a j ha hj => ?_), trivial⟩, rfZ⟩⟩, fun i hi => ?_⟩
 ·replace hj : j < 1 := hj
  replace ha : a < 1 := by omega
  obtain rfl : a = 0 := by omega
  obtain rfl : j = 0 := by omega
  exact .refl _
 repeat' (first
  | (refine Ax.go ?_; first | (with_reducible (apply altM (ks := [1]) (m := 0); apply And.intro; apply Sc.of; apply (c153 hX ?_))) | (with_reducible (apply altM (ks := [1]) (m := 0); apply And.intro; apply Sc.of; apply (c154 hX ?_))) | (with_reducible apply Alt.one))
  | exact Cl.go
  | ((fail_if_success refine Stop.go ?_); first | rw [beqvv (i + 1)] | rw [beqvv i] | (with_reducible first | apply And.intro | apply Cut.go | (refine impI ?_; intro _)) | (refine propI ?_; conv => whnf)))
 all_goals try exact nbZ
 all_goals try (exact fun _ => .any)
 all_goals try (rename_i q; have q := of_decide_eq_true q; have hl := chgL_len t i; first | exact .of ⟨by omega, by omega⟩ | exact .of (by decide) | (refine Sc.of ⟨show ((chgL t i).length + (1 + 1)) * 8 <= 140737488355328 by omega, show (chgL t i).length + (1 + 1) <= 9223372036854775807 by omega⟩))
 ·rename_i q; have q := of_decide_eq_true q
  refine ⟨i + 1, by show i + 1 <= _; omega, by show t.rules.length - (i + 1) < t.rules.length - i; omega, ?_⟩
  have e : (chgL t (i + 1)).length = (chgL t i).length + 2 := by simp [chgL]
  show StTo _ _ _ [(3, .own 1 ((i + 1) + 1)), (9, rulS t.rules), (10, .int .i64 t.rules.length), (11, .int .i64 ((i + 1 : Nat)))] [.dead, .list 3 1 (chgL t ((i + 1))).length (fun a _ => .int .i64 ((chgL t ((i + 1))).getD a 0)) ((i + 1) + 1)]
  rw [e]
  refine .le ⟨rfl, ⟨.dead _, .list (fun a j ha hj => ?_), trivial⟩, rfZ⟩
  replace hj : j < 1 := hj
  obtain rfl : j = 0 := by omega
  exact Le.ofEq (chg_at t rfl rfl ha)
 ·have hl := chgL_len t i; exact .mk ⟨chgL_ne t i, by omega⟩
 ·have hl := chgL_len t i; exact .mk ⟨sortI_ne (chgL_ne t i), by simp [sortI, List.length_mergeSort]; omega⟩
 ·rename_i q; have q := of_decide_eq_false q; replace hi : i <= t.rules.length := hi; obtain rfl : i = t.rules.length := by omega
  exact .mk [] [] _ rfl (.le (.refl _)) trivial rfl
theorem c58 (t : Trf) (a b : Int) : Mut (Xc W0 G) 58 [trfA t, .int .i64 a, .int .i64 b] [] (.fn 116 3 (tbl [.ptr 0 0, .ptr 1 0, .ptr 2 0])) [.box (trfC t), .box [.int .i64 a], .box [.int .i64 b]] := by
 refine mut_of' hX (fnI Tryz.f58) rfl ?_
 repeat' (first
  | (refine Ax.go ?_; first | (with_reducible apply Alt.one))
  | exact Cl.go
  | ((fail_if_success refine Stop.go ?_); first | (with_reducible first | apply And.intro | apply Cut.go | (refine impI ?_; intro _)) | (refine propI ?_; conv => whnf)))
 exact .mk [0, 1, 2] [] _ rfl (.le (.fns ⟨⟨⟨trivial, .refl _⟩, .refl _⟩, .refl _⟩)) ⟨.le (.refl _), .le (.refl _), .le (.refl _), trivial⟩ rfl
set_option maxHeartbeats 1000000 in
end
end Go.Fx
/-
 NextChange.
-/
namespace Go.Fx
open Go.Proofs Go.RowKit
theorem gate_is {t : Trf} {p : Plc} : firstS [trfE t, placeE t p] = gateE t p := by unfold gateE; rfl
theorem nxtN_lt {p : Plc} {d : Nat} : d < nxtN p ↔ p.m.d + d <= lastD p := by unfold nxtN; have := lastD_bd p; omega
theorem nxt_s {t : Trf} {p : Plc} {d i : Nat} (h : (bif p.m.d + (d : Int) == p.m.d then decide ((timesL t).getD (i : Int).toNat 0 <= p.m.s) else false) = true) : nxtP t p d i = false := by
 unfold nxtP nxtS; simp only [Int.toNat_natCast] at h; rw [h]; rfl
theorem nxt_d {t : Trf} {p : Plc} {d i : Nat} (h : (bif p.m.d + (d : Int) == p.m.d then decide ((timesL t).getD (i : Int).toNat 0 <= p.m.s) else false) = false) {b : Bool} (h2 : (!(oneN (holdI t (nxtC t p d i) t.rules.length) == nowN t p && (oneE (holdI t (nxtC t p d i) t.rules.length) == nowE t p && true))) = b) : nxtP t p d i = b := by
 unfold nxtP nxtS; simp only [Int.toNat_natCast] at h; rw [h, <- h2]
 show (!nxtD t p d i) = _
 unfold nxtD nowN nowE
 cases (oneN (holdI t (nxtC t p d i) t.rules.length) == oneN (holdI t p t.rules.length)) <;> cases (oneE (holdI t (nxtC t p d i) t.rules.length) == oneE (holdI t p t.rules.length)) <;> rfl
theorem last_min {p : Plc} : min (p.m.d + 400) 100000 = lastD p := by
 unfold lastD
 by_cases h : p.m.d + 400 < 100000
 ·simp [h]; omega
 ·simp [h]; omega
section
variable {W0 : World} {G : Nat -> Option AV} (hX : (Xc W0 G).Good)
include hX
set_option maxHeartbeats 1000000 in
theorem c22 (t : Trf) (p : Plc) (hs : Side (TOk t)) : Pure (Xc W0 G) 22 [trfA t, plcA p] (.tup 2 (tbl [momA (chM t p), .int .i64 (chE t p)])) := by
 have hs0 := hs
 have tk := hs.get
 have k1 := tk.zones
 refine mut_of' hX (fnI Tryz.f22) rfl ?_
 repeat' (first
  | (refine Ax.go ?_; first | (with_reducible apply callAlt (c54 hX t hs)) | (with_reducible apply callAlt (c56 hX t p (Side.mk k1))) | (with_reducible apply callAlt (c55_2 hX _ _)) | ((with_reducible apply callAlt (c57 hX t p ?_)); case hl => (first | exact AllLe.refl _ | ((repeat' (first | exact trivial | apply Le.aggs | apply Le.tups | apply Le.fns | exact Le.refl _ | refine ⟨?_, ?_⟩)); done))) | (with_reducible (apply altM (ks := []) (m := 3); apply And.intro; apply Sc.of; apply (c58 hX t _ _))) | (with_reducible apply Alt.one))
  | ((with_reducible refine Ar.go ?_); first | exact ⟨le_slc2 rfl rfl, trivial⟩)
  | exact Cl.go
  | ((fail_if_success refine Stop.go ?_); first | (with_reducible first | apply And.intro | apply Cut.go | (refine impI ?_; intro _)) | (refine propI ?_; conv => whnf)))
 all_goals try exact nbZ
 all_goals try (rename_i q; exact Side.mk ⟨tk, trf_sort (gate_ok.1 (gate_is.symm.trans (bne1 q))).1⟩)
 ·rename_i q; have w := ch_gate (gate_is (t := t) (p := p) ▸ bne0 q); exact .mk [] [] _ rfl (.le (.tups ⟨⟨trivial, by rw [w.2]; exact .aggs ⟨⟨trivial, .refl _⟩, .refl _⟩⟩, .intI (by rw [w.1, gate_is])⟩)) trivial rfl
 ·rename_i q; have g := gate_ok.1 (gate_is.symm.trans (bne1 q)); have b := mom_bd g.2.2; exact .of ⟨by omega, by omega⟩
 rename_i q
 have hg : gateE t p = 0 := gate_is.symm.trans (bne1 q)
 have ht := (gate_ok.1 hg).1
 have bm := mom_bd (gate_ok.1 hg).2.2
 have hk : Side (HOk t) := Side.mk ⟨tk, trf_sort ht⟩
 have tl := times_len ht
 have ld := lastD_bd p
 refine ⟨_, _, (fnI Tryz.f116), rfl, ?_⟩
 repeat' (first
  | (refine Ax.go ?_; first | (with_reducible apply callAlt (c117 hX t (Side.mk ⟨tk, ht⟩))) | (with_reducible apply Alt.one))
  | exact Cl.go
  | ((fail_if_success refine Stop.go ?_); first | (with_reducible first | apply And.intro | apply Cut.go | (refine impI ?_; intro _)) | (refine propI ?_; conv => whnf)))
 all_goals try exact nbZ
 generalize hL : HObj.lrec _ _ _ _ _ _ _ = L
 refine ⟨Nat, fun d => ([(0, .yld 9), (3, .ptr 8 0), (5, (iRow (timesL t))), (6, .int .i64 (p.m.d + d))], [.dead, .box (plcC p), .box [.int .i64 0, .int .i64 0], .box [.int .i64 0], .box (trfC t), .box [.int .i64 (nowN t p), .int .i64 (nowE t p)], .dead, .dead, .box [.int .i64 (p.m.d + 400)], L]), fun d => d <= nxtN p /\ ∀ d', d' < d -> decide (0 <= nxtI t p d') = false, fun d => nxtN p - d, ⟨0, ⟨Nat.zero_le _, fun _ h => by omega⟩, ?_⟩, fun d ⟨hd, h0⟩ => ?_⟩
 all_goals subst hL
 ·refine .le ⟨rfl, ⟨.dead _, .refl _, .refl _, .refl _, .refl _, .refl _, .dead _, .dead _, .refl _, .refl _, trivial⟩, ⟨.refl _, .refl _, .refl _, .intI ?_, trivial⟩⟩
  simp
 repeat' (first
  | (refine Ax.go ?_; first | (with_reducible apply Alt.one))
  | exact Cl.go
  | ((fail_if_success refine Stop.go ?_); first | (with_reducible first | apply And.intro | apply Cut.go | (refine impI ?_; intro _)) | (refine propI ?_; conv => whnf)))
 all_goals try exact nbZ
 all_goals try (rename_i q; rw [last_min] at q)
 ·rename_i q; have q := of_decide_eq_true q
  have hdn : d < nxtN p := nxtN_lt.2 q
  generalize hL : HObj.lrec _ _ _ _ _ _ _ = L
  refine ⟨Nat, fun i => ([(0, .yld 9), (3, .ptr 8 0), (5, (iRow (timesL t))), (6, .int .i64 (p.m.d + d)), (18, (iRow (timesL t))), (19, .int .i64 (timesL t).length), (20, .int .i64 i)], [.dead, .box (plcC p), .box [.int .i64 0, .int .i64 0], .box [.int .i64 0], .box (trfC t), .box [.int .i64 (nowN t p), .int .i64 (nowE t p)], .dead, .dead, .box [.int .i64 (p.m.d + 400)], L]), fun i => i <= (timesL t).length /\ ∀ j, j < i -> nxtP t p d j = false, fun i => (timesL t).length - i, ⟨0, ⟨Nat.zero_le _, fun _ h => by omega⟩, ?_⟩, fun i ⟨hi, h1⟩ => ?_⟩
  all_goals subst hL
  ·exact .le ⟨rfl, ⟨.dead _, .refl _, .refl _, .refl _, .refl _, .refl _, .dead _, .dead _, .refl _, .refl _, trivial⟩, rfZ⟩
  repeat' (first
   | (refine Ax.go ?_; first | ((with_reducible apply callAlt (c57 hX t (nxtC t p d i) hk)); case hl => (first | exact AllLe.refl _ | ((repeat' (first | exact trivial | apply Le.aggs | apply Le.tups | apply Le.fns | exact Le.refl _ | refine ⟨?_, ?_⟩)); done))) | (with_reducible apply Alt.one))
   | exact Cl.go
   | ((fail_if_success refine Stop.go ?_); first | (with_reducible first | apply And.intro | apply Cut.go | (refine impI ?_; intro _)) | (refine propI ?_; conv => whnf)))
  all_goals try exact nbZ
  all_goals try (first | (rename_i q4; exact absurd q4 (by decide)) | (rename_i q; have q := of_decide_eq_true q; exact .of ⟨by omega, by omega⟩) | (rename_i q q2; have q := of_decide_eq_true q; exact .of ⟨by omega, by omega⟩) | (rename_i q q2 q3; have q := of_decide_eq_true q; exact .of ⟨by omega, by omega⟩) | (rename_i q q2 q3 q4; have q := of_decide_eq_true q; exact .of ⟨by omega, by omega⟩) | exact Sc.imp fun _ => ⟨by omega, by omega⟩)
  ·rename_i q qs q4; have q := of_decide_eq_true q; exact ⟨i + 1, ⟨by omega, all_lt h1 (nxt_s qs)⟩, by show (timesL t).length - (i + 1) < (timesL t).length - i; omega, .le ⟨rfl, ⟨.dead _, .refl _, .refl _, .refl _, .refl _, .refl _, .dead _, .dead _, .refl _, .refl _, trivial⟩, rfZ⟩⟩
  ·rename_i q qs qd q4; have q := of_decide_eq_true q
   have w := ch_hit hg hdn (show i < (timesL t).length by omega) h0 h1 (nxt_d qs qd)
   exact .mk [] [] _ rfl (.le (.tups ⟨⟨trivial, by rw [w.2]; exact .aggs ⟨⟨trivial, .refl _⟩, .refl _⟩⟩, .intI w.1.symm⟩)) trivial rfl
  ·rename_i q qs qd q4; have q := of_decide_eq_true q; exact ⟨i + 1, ⟨by omega, all_lt h1 (nxt_d qs qd)⟩, by show (timesL t).length - (i + 1) < (timesL t).length - i; omega, .le ⟨rfl, ⟨.dead _, .refl _, .refl _, .refl _, .refl _, .refl _, .dead _, .dead _, .refl _, .refl _, trivial⟩, rfZ⟩⟩
  ·exact .of ⟨by omega, by omega⟩
  ·rename_i qe; have qe := of_decide_eq_false qe
   refine ⟨d + 1, ⟨by omega, all_lt h0 (find_neg fun j hj => h1 j (by omega))⟩, by show nxtN p - (d + 1) < nxtN p - d; omega, .le ⟨rfl, ⟨.dead _, .refl _, .refl _, .refl _, .refl _, .refl _, .dead _, .dead _, .refl _, .refl _, trivial⟩, ⟨.refl _, .refl _, .refl _, .intI (by omega), trivial⟩⟩⟩
 ·rename_i q; have q := of_decide_eq_false q
  have w := ch_none hg (fun d' hd' => h0 d' (by have := nxtN_lt.1 hd'; omega))
  exact .mk [] [] _ rfl (.le (.tups ⟨⟨trivial, by rw [w.2]; exact .aggs ⟨⟨trivial, .refl _⟩, .refl _⟩⟩, .intI w.1.symm⟩)) trivial rfl
end
end Go.Fx
