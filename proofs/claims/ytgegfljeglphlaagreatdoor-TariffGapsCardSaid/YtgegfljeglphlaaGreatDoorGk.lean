/-
  Gaps and overlaps.
-/
import Derived.Test.YtgegfljeglphlaaGreatDoorGu
import Derived.Test.YtgegfljeglphlaaGreatDoorGs

set_option linter.all false

/-
  The reference's NextChange.
-/
namespace Go.Fx
open Go.Proofs Go.RowKit

section
variable {W0 : World} {G : Nat → Option AV} (hX : (Xc W0 G).Good)
include hX
end
end Go.Fx

/-
  Gaps and overlaps of dates: what is told of them.
-/
namespace Go.Fx
open Go.Proofs Go.RowKit

@[irreducible] def datE (lo hi : Int) : Int := firstS [isOk (bif inB lo 0 100000 then inB hi 0 100000 else false) 2, isOk (decide (lo ≤ hi)) 9, isOk (decide (hi - lo < 400)) 8]
@[irreducible] def gpE (t : Trf) (lo hi : Int) : Int := bif decide (trfE t = 0) then datE lo hi else trfE t
structure DatOk (lo hi : Int) : Prop where
  a : 0 ≤ lo
  b : hi ≤ 100000
  le : lo ≤ hi
  n : hi - lo < 400
theorem dat_is {lo hi : Int} : datE lo hi = firstS [isOk (bif inB lo 0 100000 then inB hi 0 100000 else false) 2, isOk (decide (lo ≤ hi)) 9, isOk (decide (hi - lo < 400)) 8] := by unfold datE; rfl
theorem dat_0 {lo hi : Int} (h : datE lo hi = 0) : DatOk lo hi := by
  rw [dat_is] at h
  have h := firstS_zero h
  have a := and_t (isOk_0 (b := bif inB lo 0 100000 then inB hi 0 100000 else false) (e := 2) (h _ (by simp)) (by decide))
  have b := of_decide_eq_true (isOk_0 (b := decide (lo ≤ hi)) (e := 9) (h _ (by simp)) (by decide))
  have c := of_decide_eq_true (isOk_0 (b := decide (hi - lo < 400)) (e := 8) (h _ (by simp)) (by decide))
  have a1 := inB_iff.1 a.1; have a2 := inB_iff.1 a.2
  exact ⟨a1.1, a2.2, b, c⟩
theorem gp_0 {t : Trf} {lo hi : Int} (h : gpE t lo hi = 0) : trfE t = 0 ∧ datE lo hi = 0 := by
  unfold gpE at h
  by_cases a : trfE t = 0
  · rw [a] at h; exact ⟨a, h⟩
  · rw [decide_eq_false a] at h; exact absurd h a
theorem gp_t {t : Trf} {lo hi : Int} (h : trfE t ≠ 0) : gpE t lo hi = trfE t := by unfold gpE; rw [decide_eq_false h]; rfl
theorem gp_d {t : Trf} {lo hi : Int} (h : trfE t = 0) : gpE t lo hi = datE lo hi := by unfold gpE; rw [h]; rfl
/-- How the program looks: the tariff and the bounds, then the order. -/
theorem gp_1 {t : Trf} {lo hi : Int} (h : (firstS [trfE t, isOk (bif inB lo 0 100000 then inB hi 0 100000 else false) 2] != 0) = true) : gpE t lo hi = firstS [trfE t, isOk (bif inB lo 0 100000 then inB hi 0 100000 else false) 2] := by
  by_cases a : trfE t = 0
  · rw [gp_d a, a, dat_is]
    rw [a] at h
    cases b : (bif inB lo 0 100000 then inB hi 0 100000 else false)
    · rfl
    · rw [b] at h; cases h
  · rw [gp_t a]
    show trfE t = bif decide (trfE t = 0) then _ else trfE t
    rw [decide_eq_false a]; rfl
theorem gp_2 {t : Trf} {lo hi : Int} (h : (firstS [trfE t, isOk (bif inB lo 0 100000 then inB hi 0 100000 else false) 2] != 0) = false) : gpE t lo hi = firstS [isOk (decide (lo ≤ hi)) 9, isOk (decide (hi - lo < 400)) 8] := by
  have h := firstS_zero (bne_eq_false_iff_eq.1 h)
  have a := h (trfE t) (by simp)
  have b := isOk_0 (b := bif inB lo 0 100000 then inB hi 0 100000 else false) (e := 2) (h _ (by simp)) (by decide)
  rw [gp_d a, dat_is, b]; rfl
theorem dat_bd {t : Trf} {lo hi : Int} (h : (firstS [trfE t, isOk (bif inB lo 0 100000 then inB hi 0 100000 else false) 2] != 0) = false) : (0 ≤ lo ∧ lo ≤ 100000) ∧ (0 ≤ hi ∧ hi ≤ 100000) := by
  have h := firstS_zero (bne_eq_false_iff_eq.1 h)
  have b := and_t (isOk_0 (b := bif inB lo 0 100000 then inB hi 0 100000 else false) (e := 2) (h _ (by simp)) (by decide))
  exact ⟨inB_iff.1 b.1, inB_iff.1 b.2⟩

theorem dat_r1 {lo hi : Int} (h : (bif !inB lo 0 100000 then true else !inB hi 0 100000) = true) : datE lo hi = 2 := by
  rw [dat_is]
  cases a : inB lo 0 100000
  · rfl
  cases b : inB hi 0 100000
  · rfl
  rw [a, b] at h; cases h
theorem dat_r2 {lo hi : Int} (h : (bif !inB lo 0 100000 then true else !inB hi 0 100000) = false) : datE lo hi = bif decide (hi < lo) then 9 else bif decide (400 < hi - lo + 1) then 8 else 0 := by
  rw [dat_is]
  cases a : inB lo 0 100000
  · rw [a] at h; cases h
  cases b : inB hi 0 100000
  · rw [a, b] at h; cases h
  by_cases c : hi < lo
  · rw [decide_eq_false (by omega : ¬ lo ≤ hi), decide_eq_true c]; rfl
  · rw [decide_eq_true (by omega : lo ≤ hi), decide_eq_false c]
    by_cases d : 400 < hi - lo + 1
    · rw [decide_eq_true d, decide_eq_false (by omega : ¬ hi - lo < 400)]; rfl
    · rw [decide_eq_false d, decide_eq_true (by omega : hi - lo < 400)]; rfl
theorem dat_rb {lo hi : Int} (h : (bif !inB lo 0 100000 then true else !inB hi 0 100000) = false) : (0 ≤ lo ∧ lo ≤ 100000) ∧ (0 ≤ hi ∧ hi ≤ 100000) := by
  cases a : inB lo 0 100000
  · rw [a] at h; cases h
  cases b : inB hi 0 100000
  · rw [a, b] at h; cases h
  exact ⟨inB_iff.1 a, inB_iff.1 b⟩

/-- Is a moment behind another one? -/
def aftB (m k : Mom) : Bool := bif decide (k.d < m.d) then true else bif (m.d == k.d) then decide (k.s < m.s) else false

/-- The number of dates. -/
def nD (lo hi : Int) : Nat := (hi - lo + 1).toNat
@[irreducible] def skE (t : Trf) (lo hi e : Int) : Int := bif decide (0 ≤ seekD t lo e (nD lo hi)) then 0 else 12
@[irreducible] def skP (t : Trf) (lo hi e : Int) : Plc := bif decide (0 ≤ seekD t lo e (nD lo hi)) then seekR t lo e (nD lo hi) else ⟨0, ⟨0, 0⟩⟩
@[irreducible] def skL (t : Trf) (lo hi e : Int) : List Int := bif decide (0 ≤ seekD t lo e (nD lo hi)) then (holdI t (seekR t lo e (nD lo hi)) t.rules.length).take 2 else []
def seekC (t : Trf) (lo : Int) (d i z : Nat) : Plc := ⟨(z : Int), lo + d, (timesL t).getD i 0⟩
theorem sk_hit {t : Trf} {lo hi e : Int} {d i z : Nat} (hd : d < nD lo hi) (hi' : i < (timesL t).length) (hz : z < t.zones.length) (h1 : ∀ d', d' < d → decide (0 ≤ seekI t lo e d') = false) (h2 : ∀ i', i' < i → decide (0 ≤ seekZ t lo e d i') = false) (h3 : ∀ z', z' < z → seekP t lo e d i z' = false) (h4 : seekP t lo e d i z = true) :
    skE t lo hi e = 0 ∧ skP t lo hi e = seekC t lo d i z ∧ skL t lo hi e = (holdI t (seekC t lo d i z) t.rules.length).take 2 := by
  have w := seek_hit hd hi' hz h1 h2 h3 h4
  have p : decide (0 ≤ seekD t lo e (nD lo hi)) = true := decide_eq_true (by omega)
  unfold skE skP skL
  rw [p, w.2]
  exact ⟨rfl, rfl, rfl⟩
theorem sk_none {t : Trf} {lo hi e : Int} (h1 : ∀ d', d' < nD lo hi → decide (0 ≤ seekI t lo e d') = false) : skE t lo hi e = 12 ∧ skP t lo hi e = ⟨0, ⟨0, 0⟩⟩ ∧ skL t lo hi e = [] := by
  have w := seek_none h1
  have p : decide (0 ≤ seekD t lo e (nD lo hi)) = false := decide_eq_false (by omega)
  unfold skE skP skL
  rw [p]
  exact ⟨rfl, rfl, rfl⟩
theorem sk_cases {t : Trf} (ht : trfE t = 0) {lo hi e : Int} (D : DatOk lo hi) : (skE t lo hi e = 0 ∧ nowE t (skP t lo hi e) = e ∧ gateE t (skP t lo hi e) = 0 ∧ skL t lo hi e = (holdI t (skP t lo hi e) t.rules.length).take 2) ∨ (skE t lo hi e = 12 ∧ skL t lo hi e = []) := by
  have := D.a; have := D.b; have := D.le
  by_cases q : 0 ≤ seekD t lo e (nD lo hi)
  · left
    have w := seek_told ht q D.a (by unfold nD; omega)
    unfold skE skP skL
    rw [decide_eq_true q]
    exact ⟨rfl, w.2, w.1, rfl⟩
  · right
    unfold skE skL
    rw [decide_eq_false q]
    exact ⟨rfl, rfl⟩
theorem seekP_is {t : Trf} {lo e : Int} {d i z : Nat} : seekP t lo e d i z = (oneE (holdI t (seekC t lo d i z) t.rules.length) == e) := by
  unfold seekP seekC
  by_cases h : oneE (holdI t ⟨(z : Int), lo + d, (timesL t).getD i 0⟩ t.rules.length) = e
  · rw [decide_eq_true h, beq_iff_eq.2 h]
  · rw [decide_eq_false h, beq_eq_false_iff_ne.2 h]
theorem seekP_12 {t : Trf} {lo : Int} {d i z : Nat} : seekP t lo 12 d i z = (((holdI t (seekC t lo d i z) t.rules.length).length : Int) == 0) := by
  rw [seekP_is]
  rcases one_cases (holdI t (seekC t lo d i z) t.rules.length) with ⟨a, x, b, _⟩ | ⟨a, b, _⟩ | ⟨a, b, _⟩
  · rw [a, b]; rfl
  · rw [a, b]; rfl
  · rw [a]; symm; show _ = false; exact beq_eq_false_iff_ne.2 (by omega)
theorem seekP_13 {t : Trf} {lo : Int} {d i z : Nat} : seekP t lo 13 d i z = decide (1 < ((holdI t (seekC t lo d i z) t.rules.length).length : Int)) := by
  rw [seekP_is]
  rcases one_cases (holdI t (seekC t lo d i z) t.rules.length) with ⟨a, x, b, _⟩ | ⟨a, b, _⟩ | ⟨a, b, _⟩
  · rw [a, b]; rfl
  · rw [a, b]; rfl
  · rw [a, decide_eq_true (by omega)]; rfl
@[irreducible] def fnE (t : Trf) (lo hi e : Int) : Int := bif decide (gpE t lo hi = 0) then skE t lo hi e else gpE t lo hi
@[irreducible] def fnP (t : Trf) (lo hi e : Int) : Plc := bif decide (gpE t lo hi = 0) then skP t lo hi e else ⟨0, ⟨0, 0⟩⟩
@[irreducible] def fnL (t : Trf) (lo hi e : Int) (i : Nat) : Int := bif decide (gpE t lo hi = 0) then (skL t lo hi e).getD i 0 else 0
theorem fn_e {t : Trf} {lo hi e : Int} (h : gpE t lo hi ≠ 0) : fnE t lo hi e = gpE t lo hi ∧ fnP t lo hi e = ⟨0, ⟨0, 0⟩⟩ ∧ ∀ i, fnL t lo hi e i = 0 := by
  refine ⟨?_, ?_, fun i => ?_⟩
  · unfold fnE; rw [decide_eq_false h]; rfl
  · unfold fnP; rw [decide_eq_false h]; rfl
  · unfold fnL; rw [decide_eq_false h]; rfl
theorem fn_0 {t : Trf} {lo hi e : Int} (h : gpE t lo hi = 0) : fnE t lo hi e = skE t lo hi e ∧ fnP t lo hi e = skP t lo hi e ∧ ∀ i, fnL t lo hi e i = (skL t lo hi e).getD i 0 := by
  refine ⟨?_, ?_, fun i => ?_⟩
  · unfold fnE; rw [h]; rfl
  · unfold fnP; rw [h]; rfl
  · unfold fnL; rw [h]; rfl
theorem sk_bad {t : Trf} {lo hi e : Int} (h : skE t lo hi e ≠ 0) : skP t lo hi e = ⟨0, ⟨0, 0⟩⟩ ∧ skL t lo hi e = [] := by
  unfold skE at h
  unfold skP skL
  by_cases q : 0 ≤ seekD t lo e (nD lo hi)
  · rw [decide_eq_true q] at h; exact absurd rfl h
  · rw [decide_eq_false q]; exact ⟨rfl, rfl⟩
theorem take2 {l : List Int} (h : 1 < l.length) : (l.take 2).length = 2 ∧ (l.take 2).getD 0 0 = l.getD 0 0 ∧ (l.take 2).getD 1 0 = l.getD 1 0 := by
  match l, h with
  | a :: b :: r, _ => exact ⟨rfl, rfl, rfl⟩
theorem sk_13 {t : Trf} (ht : trfE t = 0) {lo hi : Int} (D : DatOk lo hi) (h : skE t lo hi 13 = 0) : (skL t lo hi 13).length = 2 := by
  rcases sk_cases (e := 13) ht D with ⟨_, w, _, l⟩ | ⟨w, _⟩
  · rcases one_cases (holdI t (skP t lo hi 13) t.rules.length) with ⟨a, _⟩ | ⟨a, _⟩ | ⟨_, b, _⟩
    · have : nowE t (skP t lo hi 13) = 0 := a
      rw [w] at this; cases this
    · have : nowE t (skP t lo hi 13) = 12 := a
      rw [w] at this; cases this
    · rw [l]; exact (take2 b).1
  · rw [h] at w; cases w
end Go.Fx

/-
  Gaps and overlaps, as the program finds them.
-/
namespace Go.Fx
open Go.Proofs Go.RowKit

@[reducible] def rngC (lo hi : Int) : AV := .agg 2 (tbl [.int .i64 lo, .int .i64 hi])
section
variable {W0 : World} {G : Nat → Option AV} (hX : (Xc W0 G).Good)
include hX
theorem c113 (t : Trf) (lo hi : Int) (hs : Side (TOk t)) : Pure (Xc W0 G) 113 [trfA t, rngC lo hi] (.tup 2 (tbl [trfA t, .int .i64 (gpE t lo hi)])) := by
  refine mut_of' hX (show FnIs (Xc W0 G) 113 Tryz.f113 (codeOf Tryz.f113) from ⟨by kernel_rfl, by kernel_rfl, by kernel_rfl, by kernel_rfl⟩) rfl ?_
  repeat' (first
    | ((with_reducible refine (?_ : Alt _ _)); first | (with_reducible apply callAlt (c91 hX t hs)) | (with_reducible apply callAlt (c71 hX _)) | (with_reducible apply callAlt (c67 hX _ _)) | ((with_reducible apply callAlt (c65_2 hX _ _)); case hl => (first | exact ⟨le_slc2 rfl rfl, trivial⟩ | exact ⟨le_slc3 rfl rfl rfl, trivial⟩ | exact ⟨le_slc5 rfl rfl rfl rfl rfl, trivial⟩ | exact AllLe.refl _)) | (with_reducible refine Alt.one ?_))
    | ((with_reducible refine (?_ : AllLe _ _)); first | (first | exact AllLe.refl _ | (repeat' (first | exact trivial | apply Le.aggs | apply Le.tups | apply Le.fns | exact Le.refl _ | refine ⟨?_, ?_⟩))))
    | ((with_reducible refine (?_ : Sc _ (AllRen _ _ _))); refine Sc.of ?_; first | (repeat' (first | exact trivial | apply Le.aggs | apply Le.tups | apply Le.fns | exact Le.refl _ | refine ⟨?_, ?_⟩)))
    | ((with_reducible refine (?_ : (List.all _ _) = true)); rfl)
    | ((with_reducible refine (?_ : (and _ _) = true)); rfl)
    | ((with_reducible refine (?_ : List.Nodup _)); exact nodupB_spec rfl)
    | ((with_reducible refine (?_ : @Eq Nat _ _)); rfl)
    | ((with_reducible refine (?_ : LeOks _ _ _)); first | exact trivial | exact ⟨.refl _, trivial⟩ | exact ⟨.refl _, .refl _, trivial⟩)
    | ((fail_if_success with_reducible refine Stop.go ?_); (first | with_reducible refine And.intro ?_ ?_ | with_reducible refine Cut.go ?_ | (with_reducible (refine impI ?_; intro _)) | (with_reducible refine (?_ : footOK _ _ = true); kernel_rfl) | ((with_reducible refine propI ?_); conv => whnf))))
  all_goals try (exact .of (Nat.le_of_ble_eq_true rfl))
  all_goals try (rename_i v; have b := dat_bd v; exact .of ⟨by omega, by omega⟩)
  · rename_i v; exact .mk [] [] _ rfl (.le (.tups ⟨⟨trivial, .aggs ⟨⟨⟨⟨⟨⟨⟨⟨trivial, .refl _⟩, .refl _⟩, .refl _⟩, .refl _⟩, .refl _⟩, .refl _⟩, .refl _⟩, .refl _⟩⟩, .intI (gp_1 v).symm⟩)) trivial rfl
  · rename_i v; exact .mk [] [] _ rfl (.le (.tups ⟨⟨trivial, .aggs ⟨⟨⟨⟨⟨⟨⟨⟨trivial, .refl _⟩, .refl _⟩, .refl _⟩, .refl _⟩, .refl _⟩, .refl _⟩, .refl _⟩, .refl _⟩⟩, .intI (gp_2 v).symm⟩)) trivial rfl
set_option maxHeartbeats 1000000 in
theorem c114 (t : Trf) (lo hi e : Int) (hs : Side (TOk t)) (hd : Side (trfE t = 0 ∧ DatOk lo hi)) : Pure (Xc W0 G) 114 [trfA t, rngC lo hi, .int .i64 e] (.tup 3 (tbl [plcA (skP t lo hi e), iRow (skL t lo hi e), .int .i64 (skE t lo hi e)])) := by
  have hs0 := hs
  have ht := hd.get.1
  have D := hd.get.2
  have tk := hs.get
  have k1 := tk.zones
  have hk : Side (HOk t) := Side.mk ⟨tk, trf_sort ht⟩
  have tl := times_len ht
  have d1 := D.a; have d2 := D.b; have d3 := D.le; have d4 := D.n
  refine mut_of' hX (show FnIs (Xc W0 G) 114 Tryz.f114 (codeOf Tryz.f114) from ⟨by kernel_rfl, by kernel_rfl, by kernel_rfl, by kernel_rfl⟩) rfl ?_
  repeat' (first
    | ((with_reducible refine (?_ : Alt _ _)); first | (with_reducible (apply altM (ks := []) (m := 3); apply And.intro; apply Sc.of; apply (c94 hX t _ _))) | (with_reducible refine Alt.one ?_))
    | ((with_reducible refine (?_ : AllLe _ _)); first | (first | exact AllLe.refl _ | (repeat' (first | exact trivial | apply Le.aggs | apply Le.tups | apply Le.fns | exact Le.refl _ | refine ⟨?_, ?_⟩))))
    | ((with_reducible refine (?_ : Sc _ (AllRen _ _ _))); refine Sc.of ?_; first | (repeat' (first | exact trivial | apply Le.aggs | apply Le.tups | apply Le.fns | exact Le.refl _ | refine ⟨?_, ?_⟩)))
    | ((with_reducible refine (?_ : (List.all _ _) = true)); rfl)
    | ((with_reducible refine (?_ : (and _ _) = true)); rfl)
    | ((with_reducible refine (?_ : List.Nodup _)); exact nodupB_spec rfl)
    | ((with_reducible refine (?_ : @Eq Nat _ _)); rfl)
    | ((with_reducible refine (?_ : LeOks _ _ _)); first | exact trivial | exact ⟨.refl _, trivial⟩ | exact ⟨.refl _, .refl _, trivial⟩)
    | ((fail_if_success with_reducible refine Stop.go ?_); (first | with_reducible refine And.intro ?_ ?_ | with_reducible refine Cut.go ?_ | (with_reducible (refine impI ?_; intro _)) | (with_reducible refine (?_ : footOK _ _ = true); kernel_rfl) | ((with_reducible refine propI ?_); conv => whnf))))
  all_goals try (exact .of (Nat.le_of_ble_eq_true rfl))
  refine ⟨_, _, (show FnIs (Xc W0 G) 136 Tryz.f136 (codeOf Tryz.f136) from ⟨by kernel_rfl, by kernel_rfl, by kernel_rfl, by kernel_rfl⟩), rfl, ?_⟩
  repeat' (first
    | ((with_reducible refine (?_ : Alt _ _)); first | (with_reducible apply callAlt (c137 hX t (Side.mk ⟨tk, ht⟩))) | (with_reducible refine Alt.one ?_))
    | ((with_reducible refine (?_ : AllLe _ _)); first | (first | exact AllLe.refl _ | (repeat' (first | exact trivial | apply Le.aggs | apply Le.tups | apply Le.fns | exact Le.refl _ | refine ⟨?_, ?_⟩))))
    | ((with_reducible refine (?_ : Sc _ (AllRen _ _ _))); refine Sc.of ?_; first | (repeat' (first | exact trivial | apply Le.aggs | apply Le.tups | apply Le.fns | exact Le.refl _ | refine ⟨?_, ?_⟩)))
    | ((with_reducible refine (?_ : (List.all _ _) = true)); rfl)
    | ((with_reducible refine (?_ : (and _ _) = true)); rfl)
    | ((with_reducible refine (?_ : List.Nodup _)); exact nodupB_spec rfl)
    | ((with_reducible refine (?_ : @Eq Nat _ _)); rfl)
    | ((with_reducible refine (?_ : LeOks _ _ _)); first | exact trivial | exact ⟨.refl _, trivial⟩ | exact ⟨.refl _, .refl _, trivial⟩)
    | ((fail_if_success with_reducible refine Stop.go ?_); (first | with_reducible refine And.intro ?_ ?_ | with_reducible refine Cut.go ?_ | (with_reducible (refine impI ?_; intro _)) | (with_reducible refine (?_ : footOK _ _ = true); kernel_rfl) | ((with_reducible refine propI ?_); conv => whnf))))
  all_goals try (exact .of (Nat.le_of_ble_eq_true rfl))
  generalize hL : HObj.lrec _ _ _ _ _ _ _ = L
  refine ⟨Nat, fun d => ([(0, .yld 9), (3, .ptr 8 0), (5, (iRow (timesL t))), (6, .int .i64 (lo + d))], [.box (trfC t), .dead, .box [.int .i64 e], .box [.int .i64 0, .int .i64 0, .int .i64 0], .box [.slc0], .box [.int .i64 0], .dead, .dead, .box [.int .i64 hi], L]), fun d => d ≤ nD lo hi ∧ ∀ d', d' < d → decide (0 ≤ seekI t lo e d') = false, fun d => nD lo hi - d, ⟨0, ⟨Nat.zero_le _, fun _ h => by omega⟩, ?_⟩, fun d ⟨hd, h0⟩ => ?_⟩
  all_goals subst hL
  · refine .le ⟨rfl, ⟨.refl _, .dead _, .refl _, .refl _, .refl _, .refl _, .dead _, .dead _, .refl _, .refl _, trivial⟩, ⟨.refl _, .refl _, .refl _, .intI ?_, trivial⟩⟩
    simp
  repeat' (first
    | ((with_reducible refine (?_ : Alt _ _)); first | fail | (with_reducible refine Alt.one ?_))
    | ((with_reducible refine (?_ : AllLe _ _)); first | (first | exact AllLe.refl _ | (repeat' (first | exact trivial | apply Le.aggs | apply Le.tups | apply Le.fns | exact Le.refl _ | refine ⟨?_, ?_⟩))))
    | ((with_reducible refine (?_ : Sc _ (AllRen _ _ _))); refine Sc.of ?_; first | (repeat' (first | exact trivial | apply Le.aggs | apply Le.tups | apply Le.fns | exact Le.refl _ | refine ⟨?_, ?_⟩)))
    | ((with_reducible refine (?_ : (List.all _ _) = true)); rfl)
    | ((with_reducible refine (?_ : (and _ _) = true)); rfl)
    | ((with_reducible refine (?_ : List.Nodup _)); exact nodupB_spec rfl)
    | ((with_reducible refine (?_ : @Eq Nat _ _)); rfl)
    | ((with_reducible refine (?_ : LeOks _ _ _)); first | exact trivial | exact ⟨.refl _, trivial⟩ | exact ⟨.refl _, .refl _, trivial⟩)
    | ((fail_if_success with_reducible refine Stop.go ?_); (first | with_reducible refine And.intro ?_ ?_ | with_reducible refine Cut.go ?_ | (with_reducible (refine impI ?_; intro _)) | (with_reducible refine (?_ : footOK _ _ = true); kernel_rfl) | ((with_reducible refine propI ?_); conv => whnf))))
  all_goals try (exact .of (Nat.le_of_ble_eq_true rfl))
  · rename_i q; have q := of_decide_eq_true q
    have hdn : d < nD lo hi := by unfold nD; omega
    generalize hL : HObj.lrec _ _ _ _ _ _ _ = L
    refine ⟨Nat, fun i => ([(0, .yld 9), (3, .ptr 8 0), (5, (iRow (timesL t))), (6, .int .i64 (lo + d)), (18, (iRow (timesL t))), (19, .int .i64 (timesL t).length), (20, .int .i64 i)], [.box (trfC t), .dead, .box [.int .i64 e], .box [.int .i64 0, .int .i64 0, .int .i64 0], .box [.slc0], .box [.int .i64 0], .dead, .dead, .box [.int .i64 hi], L]), fun i => i ≤ (timesL t).length ∧ ∀ j, j < i → decide (0 ≤ seekZ t lo e d j) = false, fun i => (timesL t).length - i, ⟨0, ⟨Nat.zero_le _, fun _ h => by omega⟩, ?_⟩, fun i ⟨hi', h1⟩ => ?_⟩
    all_goals subst hL
    · exact .le ⟨rfl, ⟨.refl _, .dead _, .refl _, .refl _, .refl _, .refl _, .dead _, .dead _, .refl _, .refl _, trivial⟩, ⟨.refl _, .refl _, .refl _, .refl _, .refl _, .refl _, .refl _, trivial⟩⟩
    repeat' (first
      | ((with_reducible refine (?_ : Alt _ _)); first | fail | (with_reducible refine Alt.one ?_))
      | ((with_reducible refine (?_ : AllLe _ _)); first | (first | exact AllLe.refl _ | (repeat' (first | exact trivial | apply Le.aggs | apply Le.tups | apply Le.fns | exact Le.refl _ | refine ⟨?_, ?_⟩))))
      | ((with_reducible refine (?_ : Sc _ (AllRen _ _ _))); refine Sc.of ?_; first | (repeat' (first | exact trivial | apply Le.aggs | apply Le.tups | apply Le.fns | exact Le.refl _ | refine ⟨?_, ?_⟩)))
      | ((with_reducible refine (?_ : (List.all _ _) = true)); rfl)
      | ((with_reducible refine (?_ : (and _ _) = true)); rfl)
      | ((with_reducible refine (?_ : List.Nodup _)); exact nodupB_spec rfl)
      | ((with_reducible refine (?_ : @Eq Nat _ _)); rfl)
      | ((with_reducible refine (?_ : LeOks _ _ _)); first | exact trivial | exact ⟨.refl _, trivial⟩ | exact ⟨.refl _, .refl _, trivial⟩)
      | ((fail_if_success with_reducible refine Stop.go ?_); (first | with_reducible refine And.intro ?_ ?_ | with_reducible refine Cut.go ?_ | (with_reducible (refine impI ?_; intro _)) | (with_reducible refine (?_ : footOK _ _ = true); kernel_rfl) | ((with_reducible refine propI ?_); conv => whnf))))
    all_goals try (exact .of (Nat.le_of_ble_eq_true rfl))
    · rename_i v; have v := of_decide_eq_true v; exact .of ⟨by omega, by omega⟩
    · rename_i v; have v := of_decide_eq_true v
      refine ⟨Nat, fun z => ([(3, .ptr 0 0), (5, .ptr 2 0), (6, .ptr 3 0), (7, .ptr 4 0), (8, .ptr 5 0), (9, .ptr 10 0), (24, .int .i64 t.zones.length), (25, .int .i64 ((z : Nat) : Int))], [.box (trfC t), .dead, .box [.int .i64 e], .box [.int .i64 0, .int .i64 0, .int .i64 0], .box [.slc0], .box [.int .i64 0], .dead, .dead, .box [.int .i64 hi], _, .box [.int .i64 (lo + d), .int .i64 ((timesL t).getD i 0)]]), fun z => z ≤ t.zones.length ∧ ∀ j, j < z → seekP t lo e d i j = false, fun z => t.zones.length - z, ⟨0, ⟨Nat.zero_le _, fun _ h => by omega⟩, .le ⟨rfl, ⟨.refl _, .dead _, .refl _, .refl _, .refl _, .refl _, .dead _, .dead _, .refl _, .refl _, .refl _, trivial⟩, ⟨.refl _, .refl _, .refl _, .refl _, .refl _, .refl _, .refl _, .refl _, trivial⟩⟩⟩, fun z ⟨hz, h2⟩ => ?_⟩
      repeat' (first
        | ((with_reducible refine (?_ : Alt _ _)); first | ((with_reducible apply callAlt (c93 hX t (seekC t lo d i z) hk)); case hl => (first | exact AllLe.refl _ | ((repeat' (first | exact trivial | apply Le.aggs | apply Le.tups | apply Le.fns | exact Le.refl _ | refine ⟨?_, ?_⟩)); done))) | (with_reducible refine Alt.one ?_))
        | ((with_reducible refine (?_ : AllLe _ _)); first | (first | exact AllLe.refl _ | (repeat' (first | exact trivial | apply Le.aggs | apply Le.tups | apply Le.fns | exact Le.refl _ | refine ⟨?_, ?_⟩))))
        | ((with_reducible refine (?_ : Sc _ (AllRen _ _ _))); refine Sc.of ?_; first | (repeat' (first | exact trivial | apply Le.aggs | apply Le.tups | apply Le.fns | exact Le.refl _ | refine ⟨?_, ?_⟩)))
        | ((with_reducible refine (?_ : (List.all _ _) = true)); rfl)
        | ((with_reducible refine (?_ : (and _ _) = true)); rfl)
        | ((with_reducible refine (?_ : List.Nodup _)); exact nodupB_spec rfl)
        | ((with_reducible refine (?_ : @Eq Nat _ _)); rfl)
        | ((with_reducible refine (?_ : LeOks _ _ _)); first | exact trivial | exact ⟨.refl _, trivial⟩ | exact ⟨.refl _, .refl _, trivial⟩)
        | ((fail_if_success with_reducible refine Stop.go ?_); (first | with_reducible refine And.intro ?_ ?_ | with_reducible refine Cut.go ?_ | (with_reducible (refine impI ?_; intro _)) | (with_reducible refine (?_ : footOK _ _ = true); kernel_rfl) | ((with_reducible refine propI ?_); conv => whnf))))
      all_goals try (exact .of (Nat.le_of_ble_eq_true rfl))
      all_goals try (rename_i v9; exact absurd v9 (by decide))
      all_goals try (rename_i v2 v3; have v2 := of_decide_eq_true v2; exact .of ⟨by omega, by omega⟩)
      all_goals try (rename_i v2 v3; have v2 := of_decide_eq_false v2; exact .of ⟨by omega, by omega⟩)
      · rename_i v2 v3 v4; have v2 := of_decide_eq_true v2
        have w := sk_hit hdn (show i < (timesL t).length by omega) (show z < t.zones.length by omega) h0 h1 h2 (seekP_is.trans v3)
        exact .mk [] [] _ rfl (.le (.tups ⟨⟨⟨trivial, by rw [w.2.1]; exact .aggs ⟨⟨⟨trivial, .refl _⟩, .refl _⟩, .refl _⟩⟩, by rw [w.2.2]; exact .refl _⟩, .intI w.1.symm⟩)) trivial rfl
      · rename_i v2 v3; have v2 := of_decide_eq_true v2
        exact ⟨z + 1, ⟨by omega, all_lt h2 (seekP_is.trans v3)⟩, by show t.zones.length - (z + 1) < t.zones.length - z; omega, .le ⟨rfl, ⟨.refl _, .dead _, .refl _, .refl _, .refl _, .refl _, .dead _, .dead _, .refl _, .refl _, .refl _, trivial⟩, ⟨.refl _, .refl _, .refl _, .refl _, .refl _, .refl _, .refl _, .refl _, trivial⟩⟩⟩
      · rename_i v2 v3; have v2 := of_decide_eq_false v2
        exact ⟨i + 1, ⟨by omega, all_lt h1 (find_neg fun j hj => h2 j (by omega))⟩, by show (timesL t).length - (i + 1) < (timesL t).length - i; omega, .le ⟨rfl, ⟨.refl _, .dead _, .refl _, .refl _, .refl _, .refl _, .dead _, .dead _, .refl _, .refl _, trivial⟩, ⟨.refl _, .refl _, .refl _, .refl _, .refl _, .refl _, .refl _, trivial⟩⟩⟩
    · exact .of ⟨by omega, by omega⟩
    · rename_i v; have v := of_decide_eq_false v
      refine ⟨d + 1, ⟨by omega, all_lt h0 (find_neg fun j hj => h1 j (by omega))⟩, by show nD lo hi - (d + 1) < nD lo hi - d; omega, .le ⟨rfl, ⟨.refl _, .dead _, .refl _, .refl _, .refl _, .refl _, .dead _, .dead _, .refl _, .refl _, trivial⟩, ⟨.refl _, .refl _, .refl _, .intI (by omega), trivial⟩⟩⟩
  · rename_i q; have q := of_decide_eq_false q
    have w := sk_none (t := t) (lo := lo) (hi := hi) (e := e) (fun d' hd' => h0 d' (by unfold nD at hd'; omega))
    exact .mk [] [] _ rfl (.le (.tups ⟨⟨⟨trivial, by rw [w.2.1]; exact .aggs ⟨⟨⟨trivial, .refl _⟩, .refl _⟩, .refl _⟩⟩, by rw [w.2.2]; exact .slc0 _ _⟩, .intI w.1.symm⟩)) trivial rfl
theorem c48 (t : Trf) (lo hi : Int) (hs : Side (TOk t)) : Pure (Xc W0 G) 48 [trfA t, rngC lo hi] (.tup 2 (tbl [plcA (fnP t lo hi 12), .int .i64 (fnE t lo hi 12)])) := by
  refine mut_of' hX (show FnIs (Xc W0 G) 48 Tryz.f48 (codeOf Tryz.f48) from ⟨by kernel_rfl, by kernel_rfl, by kernel_rfl, by kernel_rfl⟩) rfl ?_
  repeat' (first
    | ((with_reducible refine (?_ : Alt _ _)); first | (with_reducible apply callAlt (c113 hX t lo hi hs)) | (with_reducible apply callAlt (c114 hX t lo hi 12 hs ?_)) | (with_reducible refine Alt.one ?_))
    | ((with_reducible refine (?_ : AllLe _ _)); first | (first | exact AllLe.refl _ | (repeat' (first | exact trivial | apply Le.aggs | apply Le.tups | apply Le.fns | exact Le.refl _ | refine ⟨?_, ?_⟩))))
    | ((with_reducible refine (?_ : Sc _ (AllRen _ _ _))); refine Sc.of ?_; first | (repeat' (first | exact trivial | apply Le.aggs | apply Le.tups | apply Le.fns | exact Le.refl _ | refine ⟨?_, ?_⟩)))
    | ((with_reducible refine (?_ : (List.all _ _) = true)); rfl)
    | ((with_reducible refine (?_ : (and _ _) = true)); rfl)
    | ((with_reducible refine (?_ : List.Nodup _)); exact nodupB_spec rfl)
    | ((with_reducible refine (?_ : @Eq Nat _ _)); rfl)
    | ((with_reducible refine (?_ : LeOks _ _ _)); first | exact trivial | exact ⟨.refl _, trivial⟩ | exact ⟨.refl _, .refl _, trivial⟩)
    | ((fail_if_success with_reducible refine Stop.go ?_); (first | with_reducible refine And.intro ?_ ?_ | with_reducible refine Cut.go ?_ | (with_reducible (refine impI ?_; intro _)) | (with_reducible refine (?_ : footOK _ _ = true); kernel_rfl) | ((with_reducible refine propI ?_); conv => whnf))))
  all_goals try (exact .of (Nat.le_of_ble_eq_true rfl))
  all_goals try (rename_i v; have g := gp_0 (bne1 v); exact Side.mk ⟨g.1, dat_0 g.2⟩)
  · rename_i v; have w := fn_e (e := 12) (bne0 v)
    exact .mk [] [] _ rfl (.le (.tups ⟨⟨trivial, by rw [w.2.1]; exact .aggs ⟨⟨⟨trivial, .refl _⟩, .refl _⟩, .refl _⟩⟩, .intI w.1.symm⟩)) trivial rfl
  · rename_i v; have w := fn_0 (e := 12) (bne1 v)
    exact .mk [] [] _ rfl (.le (.tups ⟨⟨trivial, by rw [w.2.1]; exact .aggs ⟨⟨⟨trivial, .refl _⟩, .refl _⟩, .refl _⟩⟩, .intI w.1.symm⟩)) trivial rfl
theorem c49 (t : Trf) (lo hi : Int) (hs : Side (TOk t)) : Pure (Xc W0 G) 49 [trfA t, rngC lo hi] (.tup 3 (tbl [plcA (fnP t lo hi 13), .agg 2 (tbl [.int .i64 (fnL t lo hi 13 0), .int .i64 (fnL t lo hi 13 1)]), .int .i64 (fnE t lo hi 13)])) := by
  refine mut_of' hX (show FnIs (Xc W0 G) 49 Tryz.f49 (codeOf Tryz.f49) from ⟨by kernel_rfl, by kernel_rfl, by kernel_rfl, by kernel_rfl⟩) rfl ?_
  repeat' (first
    | ((with_reducible refine (?_ : Alt _ _)); first | (with_reducible apply callAlt (c113 hX t lo hi hs)) | (with_reducible apply callAlt (c114 hX t lo hi 13 hs ?_)) | (with_reducible refine Alt.one ?_))
    | ((with_reducible refine (?_ : AllLe _ _)); first | (first | exact AllLe.refl _ | (repeat' (first | exact trivial | apply Le.aggs | apply Le.tups | apply Le.fns | exact Le.refl _ | refine ⟨?_, ?_⟩))))
    | ((with_reducible refine (?_ : Sc _ (AllRen _ _ _))); refine Sc.of ?_; first | (repeat' (first | exact trivial | apply Le.aggs | apply Le.tups | apply Le.fns | exact Le.refl _ | refine ⟨?_, ?_⟩)))
    | ((with_reducible refine (?_ : (List.all _ _) = true)); rfl)
    | ((with_reducible refine (?_ : (and _ _) = true)); rfl)
    | ((with_reducible refine (?_ : List.Nodup _)); exact nodupB_spec rfl)
    | ((with_reducible refine (?_ : @Eq Nat _ _)); rfl)
    | ((with_reducible refine (?_ : LeOks _ _ _)); first | exact trivial | exact ⟨.refl _, trivial⟩ | exact ⟨.refl _, .refl _, trivial⟩)
    | ((fail_if_success with_reducible refine Stop.go ?_); (first | with_reducible refine And.intro ?_ ?_ | with_reducible refine Cut.go ?_ | (with_reducible (refine impI ?_; intro _)) | (with_reducible refine (?_ : footOK _ _ = true); kernel_rfl) | ((with_reducible refine propI ?_); conv => whnf))))
  all_goals try (exact .of (Nat.le_of_ble_eq_true rfl))
  all_goals try (rename_i v; have g := gp_0 (bne1 v); exact Side.mk ⟨g.1, dat_0 g.2⟩)
  all_goals try (rename_i v v2; have g := gp_0 (bne1 v); have l2 := sk_13 g.1 (dat_0 g.2) (bne1 v2); exact .of ⟨by omega, by omega⟩)
  · rename_i v; have w := fn_e (e := 13) (bne0 v)
    exact .mk [] [] _ rfl (.le (.tups ⟨⟨⟨trivial, by rw [w.2.1]; exact .aggs ⟨⟨⟨trivial, .refl _⟩, .refl _⟩, .refl _⟩⟩, .aggs ⟨⟨trivial, .intI ((w.2.2 0).symm)⟩, .intI ((w.2.2 1).symm)⟩⟩, .intI w.1.symm⟩)) trivial rfl
  · rename_i v v2; have w := fn_0 (e := 13) (bne1 v); have b := sk_bad (bne0 v2)
    exact .mk [] [] _ rfl (.le (.tups ⟨⟨⟨trivial, by rw [w.2.1, b.1]; exact .aggs ⟨⟨⟨trivial, .refl _⟩, .refl _⟩, .refl _⟩⟩, .aggs ⟨⟨trivial, .intI (by rw [w.2.2, b.2]; rfl)⟩, .intI (by rw [w.2.2, b.2]; rfl)⟩⟩, .intI w.1.symm⟩)) trivial rfl
  · rename_i v v2; have w := fn_0 (e := 13) (bne1 v); have z := bne1 v2
    exact .mk [] [] _ rfl (.le (.tups ⟨⟨⟨trivial, by rw [w.2.1]; exact .aggs ⟨⟨⟨trivial, .refl _⟩, .refl _⟩, .refl _⟩⟩, .aggs ⟨⟨trivial, .intI ((w.2.2 0).symm)⟩, .intI ((w.2.2 1).symm)⟩⟩, .intI (by rw [w.1, z])⟩)) trivial rfl
end
end Go.Fx

/-
  Gaps and overlaps, as the reference finds them.
-/
namespace Go.Fx
open Go.Proofs Go.RowKit

section
variable {W0 : World} {G : Nat → Option AV} (hX : (Xc W0 G).Good)
include hX
theorem c50 (lo hi : Int) : Pure (Xc W0 G) 50 [rngC lo hi] (.int .i64 (datE lo hi)) := by
  refine mut_of' hX (show FnIs (Xc W0 G) 50 Tryz.f50 (codeOf Tryz.f50) from ⟨by kernel_rfl, by kernel_rfl, by kernel_rfl, by kernel_rfl⟩) rfl ?_
  repeat' (first
    | ((with_reducible refine (?_ : Alt _ _)); first | ((with_reducible apply callAlt (c27 hX lo _ _)); case hl => (first | exact AllLe.refl _ | ((repeat' (first | exact trivial | apply Le.aggs | apply Le.tups | apply Le.fns | exact Le.refl _ | refine ⟨?_, ?_⟩)); done))) | ((with_reducible apply callAlt (c27 hX hi _ _)); case hl => (first | exact AllLe.refl _ | ((repeat' (first | exact trivial | apply Le.aggs | apply Le.tups | apply Le.fns | exact Le.refl _ | refine ⟨?_, ?_⟩)); done))) | (with_reducible refine Alt.one ?_))
    | ((with_reducible refine (?_ : AllLe _ _)); first | (first | exact AllLe.refl _ | (repeat' (first | exact trivial | apply Le.aggs | apply Le.tups | apply Le.fns | exact Le.refl _ | refine ⟨?_, ?_⟩))))
    | ((with_reducible refine (?_ : Sc _ (AllRen _ _ _))); refine Sc.of ?_; first | (repeat' (first | exact trivial | apply Le.aggs | apply Le.tups | apply Le.fns | exact Le.refl _ | refine ⟨?_, ?_⟩)))
    | ((with_reducible refine (?_ : (List.all _ _) = true)); rfl)
    | ((with_reducible refine (?_ : (and _ _) = true)); rfl)
    | ((with_reducible refine (?_ : List.Nodup _)); exact nodupB_spec rfl)
    | ((with_reducible refine (?_ : @Eq Nat _ _)); rfl)
    | ((with_reducible refine (?_ : LeOks _ _ _)); first | exact trivial | exact ⟨.refl _, trivial⟩ | exact ⟨.refl _, .refl _, trivial⟩)
    | ((fail_if_success with_reducible refine Stop.go ?_); (first | with_reducible refine And.intro ?_ ?_ | with_reducible refine Cut.go ?_ | (with_reducible (refine impI ?_; intro _)) | (with_reducible refine (?_ : footOK _ _ = true); kernel_rfl) | ((with_reducible refine propI ?_); conv => whnf))))
  all_goals try (exact .of (Nat.le_of_ble_eq_true rfl))
  all_goals try (rename_i v v2; have b := dat_rb v; exact .of ⟨by omega, by omega⟩)
  · rename_i v; exact .mk [] [] _ rfl (.le (.intI ((dat_r1 v).symm))) trivial rfl
  · rename_i v v2; exact .mk [] [] _ rfl (.le (.intI (by rw [dat_r2 v, v2]; rfl))) trivial rfl
  · rename_i v v2 v3; exact .mk [] [] _ rfl (.le (.intI (by rw [dat_r2 v, v2, v3]; rfl))) trivial rfl
  · rename_i v v2 v3; exact .mk [] [] _ rfl (.le (.intI (by rw [dat_r2 v, v2, v3]; rfl))) trivial rfl
set_option maxHeartbeats 1000000 in
theorem c115s (t : Trf) (lo hi : Int) (hs : Side (TOk t)) (hd : Side (trfE t = 0 ∧ DatOk lo hi)) : Pure (Xc W0 G) 115 [trfA t, rngC lo hi, .bool true] (.tup 3 (tbl [plcA (skP t lo hi 13), .agg 2 (tbl [.int .i64 ((skL t lo hi 13).getD 0 0), .int .i64 ((skL t lo hi 13).getD 1 0)]), .bool (decide (skE t lo hi 13 = 0))])) := by
  have tk := hs.get
  have ht := hd.get.1
  have D := hd.get.2
  have k1 := tk.zones
  have hk : Side (HOk t) := Side.mk ⟨tk, trf_sort ht⟩
  have tl := times_len ht
  have d1 := D.a; have d2 := D.b; have d3 := D.le; have d4 := D.n
  refine mut_of' hX (show FnIs (Xc W0 G) 115 Tryz.f115 (codeOf Tryz.f115) from ⟨by kernel_rfl, by kernel_rfl, by kernel_rfl, by kernel_rfl⟩) rfl ?_
  repeat' (first
    | ((with_reducible refine (?_ : Alt _ _)); first | (with_reducible apply callAlt (c97 hX t (Side.mk ⟨tk, ht⟩))) | (with_reducible refine Alt.one ?_))
    | ((with_reducible refine (?_ : AllLe _ _)); first | (first | exact AllLe.refl _ | (repeat' (first | exact trivial | apply Le.aggs | apply Le.tups | apply Le.fns | exact Le.refl _ | refine ⟨?_, ?_⟩))))
    | ((with_reducible refine (?_ : Sc _ (AllRen _ _ _))); refine Sc.of ?_; first | (repeat' (first | exact trivial | apply Le.aggs | apply Le.tups | apply Le.fns | exact Le.refl _ | refine ⟨?_, ?_⟩)))
    | ((with_reducible refine (?_ : (List.all _ _) = true)); rfl)
    | ((with_reducible refine (?_ : (and _ _) = true)); rfl)
    | ((with_reducible refine (?_ : List.Nodup _)); exact nodupB_spec rfl)
    | ((with_reducible refine (?_ : @Eq Nat _ _)); rfl)
    | ((with_reducible refine (?_ : LeOks _ _ _)); first | exact trivial | exact ⟨.refl _, trivial⟩ | exact ⟨.refl _, .refl _, trivial⟩)
    | ((fail_if_success with_reducible refine Stop.go ?_); (first | with_reducible refine And.intro ?_ ?_ | with_reducible refine Cut.go ?_ | (with_reducible (refine impI ?_; intro _)) | (with_reducible refine (?_ : footOK _ _ = true); kernel_rfl) | ((with_reducible refine propI ?_); conv => whnf))))
  all_goals try (exact .of (Nat.le_of_ble_eq_true rfl))
  refine ⟨Nat, fun d => ([(2, .bool true), (3, .ptr 0 0), (4, .ptr 1 0), (6, .ptr 2 0), (7, .ptr 3 0), (9, iRow (timesL t)), (10, .int .i64 (lo + d))], [.box (trfC t), .box [.int .i64 lo, .int .i64 hi], .box [.int .i64 0, .int .i64 0, .int .i64 0], .box [.int .i64 0, .int .i64 0]]), fun d => d ≤ nD lo hi ∧ ∀ d', d' < d → decide (0 ≤ seekI t lo 13 d') = false, fun d => nD lo hi - d, ⟨0, ⟨Nat.zero_le _, fun _ h => by omega⟩, .le ⟨rfl, ⟨.refl _, .refl _, .refl _, .refl _, trivial⟩, ⟨.refl _, .refl _, .refl _, .refl _, .refl _, .refl _, .intI (by simp), trivial⟩⟩⟩, fun d ⟨hd, h0⟩ => ?_⟩
  repeat' (first
    | ((with_reducible refine (?_ : Alt _ _)); first | fail | (with_reducible refine Alt.one ?_))
    | ((with_reducible refine (?_ : AllLe _ _)); first | (first | exact AllLe.refl _ | (repeat' (first | exact trivial | apply Le.aggs | apply Le.tups | apply Le.fns | exact Le.refl _ | refine ⟨?_, ?_⟩))))
    | ((with_reducible refine (?_ : Sc _ (AllRen _ _ _))); refine Sc.of ?_; first | (repeat' (first | exact trivial | apply Le.aggs | apply Le.tups | apply Le.fns | exact Le.refl _ | refine ⟨?_, ?_⟩)))
    | ((with_reducible refine (?_ : (List.all _ _) = true)); rfl)
    | ((with_reducible refine (?_ : (and _ _) = true)); rfl)
    | ((with_reducible refine (?_ : List.Nodup _)); exact nodupB_spec rfl)
    | ((with_reducible refine (?_ : @Eq Nat _ _)); rfl)
    | ((with_reducible refine (?_ : LeOks _ _ _)); first | exact trivial | exact ⟨.refl _, trivial⟩ | exact ⟨.refl _, .refl _, trivial⟩)
    | ((fail_if_success with_reducible refine Stop.go ?_); (first | with_reducible refine And.intro ?_ ?_ | with_reducible refine Cut.go ?_ | (with_reducible (refine impI ?_; intro _)) | (with_reducible refine (?_ : footOK _ _ = true); kernel_rfl) | ((with_reducible refine propI ?_); conv => whnf))))
  all_goals try (exact .of (Nat.le_of_ble_eq_true rfl))
  · rename_i q; have q := of_decide_eq_true q
    have hdn : d < nD lo hi := by unfold nD; omega
    refine ⟨Nat, fun i => ([(2, .bool true), (3, .ptr 0 0), (4, .ptr 1 0), (6, .ptr 2 0), (7, .ptr 3 0), (9, iRow (timesL t)), (10, .int .i64 (lo + d)), (11, .int .i64 ((i : Nat) : Int))], [.box (trfC t), .box [.int .i64 lo, .int .i64 hi], .box [.int .i64 0, .int .i64 0, .int .i64 0], .box [.int .i64 0, .int .i64 0]]), fun i => i ≤ (timesL t).length ∧ ∀ j, j < i → decide (0 ≤ seekZ t lo 13 d j) = false, fun i => (timesL t).length - i, ⟨0, ⟨Nat.zero_le _, fun _ h => by omega⟩, .le ⟨rfl, ⟨.refl _, .refl _, .refl _, .refl _, trivial⟩, ⟨.refl _, .refl _, .refl _, .refl _, .refl _, .refl _, .refl _, .refl _, trivial⟩⟩⟩, fun i ⟨hi', h1⟩ => ?_⟩
    repeat' (first
      | ((with_reducible refine (?_ : Alt _ _)); first | fail | (with_reducible refine Alt.one ?_))
      | ((with_reducible refine (?_ : AllLe _ _)); first | (first | exact AllLe.refl _ | (repeat' (first | exact trivial | apply Le.aggs | apply Le.tups | apply Le.fns | exact Le.refl _ | refine ⟨?_, ?_⟩))))
      | ((with_reducible refine (?_ : Sc _ (AllRen _ _ _))); refine Sc.of ?_; first | (repeat' (first | exact trivial | apply Le.aggs | apply Le.tups | apply Le.fns | exact Le.refl _ | refine ⟨?_, ?_⟩)))
      | ((with_reducible refine (?_ : (List.all _ _) = true)); rfl)
      | ((with_reducible refine (?_ : (and _ _) = true)); rfl)
      | ((with_reducible refine (?_ : List.Nodup _)); exact nodupB_spec rfl)
      | ((with_reducible refine (?_ : @Eq Nat _ _)); rfl)
      | ((with_reducible refine (?_ : LeOks _ _ _)); first | exact trivial | exact ⟨.refl _, trivial⟩ | exact ⟨.refl _, .refl _, trivial⟩)
      | ((fail_if_success with_reducible refine Stop.go ?_); (first | with_reducible refine And.intro ?_ ?_ | with_reducible refine Cut.go ?_ | (with_reducible (refine impI ?_; intro _)) | (with_reducible refine (?_ : footOK _ _ = true); kernel_rfl) | ((with_reducible refine propI ?_); conv => whnf))))
    all_goals try (exact .of (Nat.le_of_ble_eq_true rfl))
    · rename_i v; have v := of_decide_eq_true v
      refine ⟨Nat, fun z => ([(2, .bool true), (3, .ptr 0 0), (4, .ptr 1 0), (6, .ptr 2 0), (7, .ptr 3 0), (9, iRow (timesL t)), (10, .int .i64 (lo + d)), (11, .int .i64 ((i : Nat) : Int)), (12, .int .i64 ((z : Nat) : Int))], [.box (trfC t), .box [.int .i64 lo, .int .i64 hi], .box [.int .i64 0, .int .i64 0, .int .i64 0], .box [.int .i64 0, .int .i64 0]]), fun z => z ≤ t.zones.length ∧ ∀ j, j < z → seekP t lo 13 d i j = false, fun z => t.zones.length - z, ⟨0, ⟨Nat.zero_le _, fun _ h => by omega⟩, .le ⟨rfl, ⟨.refl _, .refl _, .refl _, .refl _, trivial⟩, ⟨.refl _, .refl _, .refl _, .refl _, .refl _, .refl _, .refl _, .refl _, .refl _, trivial⟩⟩⟩, fun z ⟨hz, h2⟩ => ?_⟩
      repeat' (first
        | ((with_reducible refine (?_ : Alt _ _)); first | ((with_reducible apply callAlt (c96 hX t (seekC t lo d i z) hk)); case hl => (first | exact AllLe.refl _ | ((repeat' (first | exact trivial | apply Le.aggs | apply Le.tups | apply Le.fns | exact Le.refl _ | refine ⟨?_, ?_⟩)); done))) | (with_reducible refine Alt.one ?_))
        | ((with_reducible refine (?_ : AllLe _ _)); first | (first | exact AllLe.refl _ | (repeat' (first | exact trivial | apply Le.aggs | apply Le.tups | apply Le.fns | exact Le.refl _ | refine ⟨?_, ?_⟩))))
        | ((with_reducible refine (?_ : Sc _ (AllRen _ _ _))); refine Sc.of ?_; first | (repeat' (first | exact trivial | apply Le.aggs | apply Le.tups | apply Le.fns | exact Le.refl _ | refine ⟨?_, ?_⟩)))
        | ((with_reducible refine (?_ : (List.all _ _) = true)); rfl)
        | ((with_reducible refine (?_ : (and _ _) = true)); rfl)
        | ((with_reducible refine (?_ : List.Nodup _)); exact nodupB_spec rfl)
        | ((with_reducible refine (?_ : @Eq Nat _ _)); rfl)
        | ((with_reducible refine (?_ : LeOks _ _ _)); first | exact trivial | exact ⟨.refl _, trivial⟩ | exact ⟨.refl _, .refl _, trivial⟩)
        | ((fail_if_success with_reducible refine Stop.go ?_); (first | with_reducible refine And.intro ?_ ?_ | with_reducible refine Cut.go ?_ | (with_reducible (refine impI ?_; intro _)) | (with_reducible refine (?_ : footOK _ _ = true); kernel_rfl) | ((with_reducible refine propI ?_); conv => whnf))))
      all_goals try (exact .of (Nat.le_of_ble_eq_true rfl))
      all_goals try (rename_i v9; exfalso; exact absurd v9 (by show ¬ (false = true); decide))
      all_goals try (rename_i _ v9 _; exfalso; exact absurd v9 (by show ¬ (false = true); decide))
      all_goals try (rename_i v2 v3; have v2 := of_decide_eq_true v2; have v3 := of_decide_eq_true (show decide (1 < ((holdI t (seekC t lo d i z) t.rules.length).length : Int)) = true from v3); exact .of ⟨by omega, by omega⟩)
      all_goals try (rename_i v2; first | (have v2 := of_decide_eq_true v2; exact .of ⟨by omega, by omega⟩) | (have v2 := of_decide_eq_false v2; exact .of ⟨by omega, by omega⟩))
      all_goals try (rename_i v2 v3 v4; have v2 := of_decide_eq_true v2; exact .of ⟨by omega, by omega⟩)
      · rename_i v2 v3; have v2 := of_decide_eq_true v2
        have l2 := of_decide_eq_true (show decide (1 < ((holdI t (seekC t lo d i z) t.rules.length).length : Int)) = true from v3)
        have w := sk_hit hdn (show i < (timesL t).length by omega) (show z < t.zones.length by omega) h0 h1 h2 (seekP_13.trans v3); have k := take2 (l := holdI t (seekC t lo d i z) t.rules.length) (by omega)
        exact .mk [] [] _ rfl (.le (.tups ⟨⟨⟨trivial, by rw [w.2.1]; exact .aggs ⟨⟨⟨trivial, .refl _⟩, .refl _⟩, .refl _⟩⟩, .aggs ⟨⟨trivial, .intI (by rw [w.2.2, k.2.1]; rfl)⟩, .intI (by rw [w.2.2, k.2.2]; rfl)⟩⟩, .boolT (by rw [w.1]; rfl)⟩)) trivial rfl
      · rename_i v2 v3 v4; have v2 := of_decide_eq_true v2
        exact ⟨z + 1, ⟨by omega, all_lt h2 (seekP_13.trans v3)⟩, by show t.zones.length - (z + 1) < t.zones.length - z; omega, .le ⟨rfl, ⟨.refl _, .refl _, .refl _, .refl _, trivial⟩, ⟨.refl _, .refl _, .refl _, .refl _, .refl _, .refl _, .refl _, .refl _, .refl _, trivial⟩⟩⟩
      · rename_i v2; have v2 := of_decide_eq_false v2
        exact ⟨i + 1, ⟨by omega, all_lt h1 (find_neg fun j hj => h2 j (by omega))⟩, by show (timesL t).length - (i + 1) < (timesL t).length - i; omega, .le ⟨rfl, ⟨.refl _, .refl _, .refl _, .refl _, trivial⟩, ⟨.refl _, .refl _, .refl _, .refl _, .refl _, .refl _, .refl _, .refl _, trivial⟩⟩⟩
    · exact .of ⟨by omega, by omega⟩
    · rename_i v; have v := of_decide_eq_false v
      exact ⟨d + 1, ⟨by omega, all_lt h0 (find_neg fun j hj => h1 j (by omega))⟩, by show nD lo hi - (d + 1) < nD lo hi - d; omega, .le ⟨rfl, ⟨.refl _, .refl _, .refl _, .refl _, trivial⟩, ⟨.refl _, .refl _, .refl _, .refl _, .refl _, .refl _, .intI (by omega), trivial⟩⟩⟩
  · rename_i q; have q := of_decide_eq_false q
    have w := sk_none (t := t) (lo := lo) (hi := hi) (e := 13) (fun d' hd' => h0 d' (by unfold nD at hd'; omega))
    exact .mk [] [] _ rfl (.le (.tups ⟨⟨⟨trivial, by rw [w.2.1]; exact .aggs ⟨⟨⟨trivial, .refl _⟩, .refl _⟩, .refl _⟩⟩, .aggs ⟨⟨trivial, .intI (by rw [w.2.2]; rfl)⟩, .intI (by rw [w.2.2]; rfl)⟩⟩, .boolT (by rw [w.1]; rfl)⟩)) trivial rfl

set_option maxHeartbeats 1000000 in
theorem c115g (t : Trf) (lo hi : Int) (hs : Side (TOk t)) (hd : Side (trfE t = 0 ∧ DatOk lo hi)) : Pure (Xc W0 G) 115 [trfA t, rngC lo hi, .bool false] (.tup 3 (tbl [plcA (skP t lo hi 12), .agg 2 (tbl [.int .i64 (0), .int .i64 (0)]), .bool (decide (skE t lo hi 12 = 0))])) := by
  have tk := hs.get
  have ht := hd.get.1
  have D := hd.get.2
  have k1 := tk.zones
  have hk : Side (HOk t) := Side.mk ⟨tk, trf_sort ht⟩
  have tl := times_len ht
  have d1 := D.a; have d2 := D.b; have d3 := D.le; have d4 := D.n
  refine mut_of' hX (show FnIs (Xc W0 G) 115 Tryz.f115 (codeOf Tryz.f115) from ⟨by kernel_rfl, by kernel_rfl, by kernel_rfl, by kernel_rfl⟩) rfl ?_
  repeat' (first
    | ((with_reducible refine (?_ : Alt _ _)); first | (with_reducible apply callAlt (c97 hX t (Side.mk ⟨tk, ht⟩))) | (with_reducible refine Alt.one ?_))
    | ((with_reducible refine (?_ : AllLe _ _)); first | (first | exact AllLe.refl _ | (repeat' (first | exact trivial | apply Le.aggs | apply Le.tups | apply Le.fns | exact Le.refl _ | refine ⟨?_, ?_⟩))))
    | ((with_reducible refine (?_ : Sc _ (AllRen _ _ _))); refine Sc.of ?_; first | (repeat' (first | exact trivial | apply Le.aggs | apply Le.tups | apply Le.fns | exact Le.refl _ | refine ⟨?_, ?_⟩)))
    | ((with_reducible refine (?_ : (List.all _ _) = true)); rfl)
    | ((with_reducible refine (?_ : (and _ _) = true)); rfl)
    | ((with_reducible refine (?_ : List.Nodup _)); exact nodupB_spec rfl)
    | ((with_reducible refine (?_ : @Eq Nat _ _)); rfl)
    | ((with_reducible refine (?_ : LeOks _ _ _)); first | exact trivial | exact ⟨.refl _, trivial⟩ | exact ⟨.refl _, .refl _, trivial⟩)
    | ((fail_if_success with_reducible refine Stop.go ?_); (first | with_reducible refine And.intro ?_ ?_ | with_reducible refine Cut.go ?_ | (with_reducible (refine impI ?_; intro _)) | (with_reducible refine (?_ : footOK _ _ = true); kernel_rfl) | ((with_reducible refine propI ?_); conv => whnf))))
  all_goals try (exact .of (Nat.le_of_ble_eq_true rfl))
  refine ⟨Nat, fun d => ([(2, .bool false), (3, .ptr 0 0), (4, .ptr 1 0), (6, .ptr 2 0), (7, .ptr 3 0), (9, iRow (timesL t)), (10, .int .i64 (lo + d))], [.box (trfC t), .box [.int .i64 lo, .int .i64 hi], .box [.int .i64 0, .int .i64 0, .int .i64 0], .box [.int .i64 0, .int .i64 0]]), fun d => d ≤ nD lo hi ∧ ∀ d', d' < d → decide (0 ≤ seekI t lo 12 d') = false, fun d => nD lo hi - d, ⟨0, ⟨Nat.zero_le _, fun _ h => by omega⟩, .le ⟨rfl, ⟨.refl _, .refl _, .refl _, .refl _, trivial⟩, ⟨.refl _, .refl _, .refl _, .refl _, .refl _, .refl _, .intI (by simp), trivial⟩⟩⟩, fun d ⟨hd, h0⟩ => ?_⟩
  repeat' (first
    | ((with_reducible refine (?_ : Alt _ _)); first | fail | (with_reducible refine Alt.one ?_))
    | ((with_reducible refine (?_ : AllLe _ _)); first | (first | exact AllLe.refl _ | (repeat' (first | exact trivial | apply Le.aggs | apply Le.tups | apply Le.fns | exact Le.refl _ | refine ⟨?_, ?_⟩))))
    | ((with_reducible refine (?_ : Sc _ (AllRen _ _ _))); refine Sc.of ?_; first | (repeat' (first | exact trivial | apply Le.aggs | apply Le.tups | apply Le.fns | exact Le.refl _ | refine ⟨?_, ?_⟩)))
    | ((with_reducible refine (?_ : (List.all _ _) = true)); rfl)
    | ((with_reducible refine (?_ : (and _ _) = true)); rfl)
    | ((with_reducible refine (?_ : List.Nodup _)); exact nodupB_spec rfl)
    | ((with_reducible refine (?_ : @Eq Nat _ _)); rfl)
    | ((with_reducible refine (?_ : LeOks _ _ _)); first | exact trivial | exact ⟨.refl _, trivial⟩ | exact ⟨.refl _, .refl _, trivial⟩)
    | ((fail_if_success with_reducible refine Stop.go ?_); (first | with_reducible refine And.intro ?_ ?_ | with_reducible refine Cut.go ?_ | (with_reducible (refine impI ?_; intro _)) | (with_reducible refine (?_ : footOK _ _ = true); kernel_rfl) | ((with_reducible refine propI ?_); conv => whnf))))
  all_goals try (exact .of (Nat.le_of_ble_eq_true rfl))
  · rename_i q; have q := of_decide_eq_true q
    have hdn : d < nD lo hi := by unfold nD; omega
    refine ⟨Nat, fun i => ([(2, .bool false), (3, .ptr 0 0), (4, .ptr 1 0), (6, .ptr 2 0), (7, .ptr 3 0), (9, iRow (timesL t)), (10, .int .i64 (lo + d)), (11, .int .i64 ((i : Nat) : Int))], [.box (trfC t), .box [.int .i64 lo, .int .i64 hi], .box [.int .i64 0, .int .i64 0, .int .i64 0], .box [.int .i64 0, .int .i64 0]]), fun i => i ≤ (timesL t).length ∧ ∀ j, j < i → decide (0 ≤ seekZ t lo 12 d j) = false, fun i => (timesL t).length - i, ⟨0, ⟨Nat.zero_le _, fun _ h => by omega⟩, .le ⟨rfl, ⟨.refl _, .refl _, .refl _, .refl _, trivial⟩, ⟨.refl _, .refl _, .refl _, .refl _, .refl _, .refl _, .refl _, .refl _, trivial⟩⟩⟩, fun i ⟨hi', h1⟩ => ?_⟩
    repeat' (first
      | ((with_reducible refine (?_ : Alt _ _)); first | fail | (with_reducible refine Alt.one ?_))
      | ((with_reducible refine (?_ : AllLe _ _)); first | (first | exact AllLe.refl _ | (repeat' (first | exact trivial | apply Le.aggs | apply Le.tups | apply Le.fns | exact Le.refl _ | refine ⟨?_, ?_⟩))))
      | ((with_reducible refine (?_ : Sc _ (AllRen _ _ _))); refine Sc.of ?_; first | (repeat' (first | exact trivial | apply Le.aggs | apply Le.tups | apply Le.fns | exact Le.refl _ | refine ⟨?_, ?_⟩)))
      | ((with_reducible refine (?_ : (List.all _ _) = true)); rfl)
      | ((with_reducible refine (?_ : (and _ _) = true)); rfl)
      | ((with_reducible refine (?_ : List.Nodup _)); exact nodupB_spec rfl)
      | ((with_reducible refine (?_ : @Eq Nat _ _)); rfl)
      | ((with_reducible refine (?_ : LeOks _ _ _)); first | exact trivial | exact ⟨.refl _, trivial⟩ | exact ⟨.refl _, .refl _, trivial⟩)
      | ((fail_if_success with_reducible refine Stop.go ?_); (first | with_reducible refine And.intro ?_ ?_ | with_reducible refine Cut.go ?_ | (with_reducible (refine impI ?_; intro _)) | (with_reducible refine (?_ : footOK _ _ = true); kernel_rfl) | ((with_reducible refine propI ?_); conv => whnf))))
    all_goals try (exact .of (Nat.le_of_ble_eq_true rfl))
    · rename_i v; have v := of_decide_eq_true v
      refine ⟨Nat, fun z => ([(2, .bool false), (3, .ptr 0 0), (4, .ptr 1 0), (6, .ptr 2 0), (7, .ptr 3 0), (9, iRow (timesL t)), (10, .int .i64 (lo + d)), (11, .int .i64 ((i : Nat) : Int)), (12, .int .i64 ((z : Nat) : Int))], [.box (trfC t), .box [.int .i64 lo, .int .i64 hi], .box [.int .i64 0, .int .i64 0, .int .i64 0], .box [.int .i64 0, .int .i64 0]]), fun z => z ≤ t.zones.length ∧ ∀ j, j < z → seekP t lo 12 d i j = false, fun z => t.zones.length - z, ⟨0, ⟨Nat.zero_le _, fun _ h => by omega⟩, .le ⟨rfl, ⟨.refl _, .refl _, .refl _, .refl _, trivial⟩, ⟨.refl _, .refl _, .refl _, .refl _, .refl _, .refl _, .refl _, .refl _, .refl _, trivial⟩⟩⟩, fun z ⟨hz, h2⟩ => ?_⟩
      repeat' (first
        | ((with_reducible refine (?_ : Alt _ _)); first | ((with_reducible apply callAlt (c96 hX t (seekC t lo d i z) hk)); case hl => (first | exact AllLe.refl _ | ((repeat' (first | exact trivial | apply Le.aggs | apply Le.tups | apply Le.fns | exact Le.refl _ | refine ⟨?_, ?_⟩)); done))) | (with_reducible refine Alt.one ?_))
        | ((with_reducible refine (?_ : AllLe _ _)); first | (first | exact AllLe.refl _ | (repeat' (first | exact trivial | apply Le.aggs | apply Le.tups | apply Le.fns | exact Le.refl _ | refine ⟨?_, ?_⟩))))
        | ((with_reducible refine (?_ : Sc _ (AllRen _ _ _))); refine Sc.of ?_; first | (repeat' (first | exact trivial | apply Le.aggs | apply Le.tups | apply Le.fns | exact Le.refl _ | refine ⟨?_, ?_⟩)))
        | ((with_reducible refine (?_ : (List.all _ _) = true)); rfl)
        | ((with_reducible refine (?_ : (and _ _) = true)); rfl)
        | ((with_reducible refine (?_ : List.Nodup _)); exact nodupB_spec rfl)
        | ((with_reducible refine (?_ : @Eq Nat _ _)); rfl)
        | ((with_reducible refine (?_ : LeOks _ _ _)); first | exact trivial | exact ⟨.refl _, trivial⟩ | exact ⟨.refl _, .refl _, trivial⟩)
        | ((fail_if_success with_reducible refine Stop.go ?_); (first | with_reducible refine And.intro ?_ ?_ | with_reducible refine Cut.go ?_ | (with_reducible (refine impI ?_; intro _)) | (with_reducible refine (?_ : footOK _ _ = true); kernel_rfl) | ((with_reducible refine propI ?_); conv => whnf))))
      all_goals try (exact .of (Nat.le_of_ble_eq_true rfl))
      all_goals try (rename_i v9; exfalso; exact absurd v9 (by show ¬ (false = true); decide))
      all_goals try (rename_i _ v9 _; exfalso; exact absurd v9 (by show ¬ (false = true); decide))
      all_goals try (rename_i v2 v3; have v2 := of_decide_eq_true v2; have v3 := of_decide_eq_true (show decide (1 < ((holdI t (seekC t lo d i z) t.rules.length).length : Int)) = true from v3); exact .of ⟨by omega, by omega⟩)
      all_goals try (rename_i v2; first | (have v2 := of_decide_eq_true v2; exact .of ⟨by omega, by omega⟩) | (have v2 := of_decide_eq_false v2; exact .of ⟨by omega, by omega⟩))
      all_goals try (rename_i v2 v3 v4; have v2 := of_decide_eq_true v2; exact .of ⟨by omega, by omega⟩)
      · rename_i v2 v3 v4; have v2 := of_decide_eq_true v2
        have w := sk_hit hdn (show i < (timesL t).length by omega) (show z < t.zones.length by omega) h0 h1 h2 (seekP_12.trans v4)
        exact .mk [] [] _ rfl (.le (.tups ⟨⟨⟨trivial, by rw [w.2.1]; exact .aggs ⟨⟨⟨trivial, .refl _⟩, .refl _⟩, .refl _⟩⟩, .aggs ⟨⟨trivial, .intI (rfl)⟩, .intI (rfl)⟩⟩, .boolT (by rw [w.1]; rfl)⟩)) trivial rfl
      · rename_i v2 v3 v4; have v2 := of_decide_eq_true v2
        exact ⟨z + 1, ⟨by omega, all_lt h2 (seekP_12.trans v4)⟩, by show t.zones.length - (z + 1) < t.zones.length - z; omega, .le ⟨rfl, ⟨.refl _, .refl _, .refl _, .refl _, trivial⟩, ⟨.refl _, .refl _, .refl _, .refl _, .refl _, .refl _, .refl _, .refl _, .refl _, trivial⟩⟩⟩
      · rename_i v2; have v2 := of_decide_eq_false v2
        exact ⟨i + 1, ⟨by omega, all_lt h1 (find_neg fun j hj => h2 j (by omega))⟩, by show (timesL t).length - (i + 1) < (timesL t).length - i; omega, .le ⟨rfl, ⟨.refl _, .refl _, .refl _, .refl _, trivial⟩, ⟨.refl _, .refl _, .refl _, .refl _, .refl _, .refl _, .refl _, .refl _, trivial⟩⟩⟩
    · exact .of ⟨by omega, by omega⟩
    · rename_i v; have v := of_decide_eq_false v
      exact ⟨d + 1, ⟨by omega, all_lt h0 (find_neg fun j hj => h1 j (by omega))⟩, by show nD lo hi - (d + 1) < nD lo hi - d; omega, .le ⟨rfl, ⟨.refl _, .refl _, .refl _, .refl _, trivial⟩, ⟨.refl _, .refl _, .refl _, .refl _, .refl _, .refl _, .intI (by omega), trivial⟩⟩⟩
  · rename_i q; have q := of_decide_eq_false q
    have w := sk_none (t := t) (lo := lo) (hi := hi) (e := 12) (fun d' hd' => h0 d' (by unfold nD at hd'; omega))
    exact .mk [] [] _ rfl (.le (.tups ⟨⟨⟨trivial, by rw [w.2.1]; exact .aggs ⟨⟨⟨trivial, .refl _⟩, .refl _⟩, .refl _⟩⟩, .aggs ⟨⟨trivial, .intI (rfl)⟩, .intI (rfl)⟩⟩, .boolT (by rw [w.1]; rfl)⟩)) trivial rfl

theorem c51 (t : Trf) (lo hi : Int) (hs : Side (TOk t)) (hd : Side (trfE t = 0 ∧ DatOk lo hi)) : Pure (Xc W0 G) 51 [trfA t, rngC lo hi] (.tup 2 (tbl [plcA (skP t lo hi 12), .bool (decide (skE t lo hi 12 = 0))])) := by
  refine mut_of' hX (show FnIs (Xc W0 G) 51 Tryz.f51 (codeOf Tryz.f51) from ⟨by kernel_rfl, by kernel_rfl, by kernel_rfl, by kernel_rfl⟩) rfl ?_
  repeat' (first
    | ((with_reducible refine (?_ : Alt _ _)); first | (with_reducible apply callAlt (c115g hX t lo hi hs hd)) | (with_reducible refine Alt.one ?_))
    | ((with_reducible refine (?_ : AllLe _ _)); first | (first | exact AllLe.refl _ | (repeat' (first | exact trivial | apply Le.aggs | apply Le.tups | apply Le.fns | exact Le.refl _ | refine ⟨?_, ?_⟩))))
    | ((with_reducible refine (?_ : Sc _ (AllRen _ _ _))); refine Sc.of ?_; first | (repeat' (first | exact trivial | apply Le.aggs | apply Le.tups | apply Le.fns | exact Le.refl _ | refine ⟨?_, ?_⟩)))
    | ((with_reducible refine (?_ : (List.all _ _) = true)); rfl)
    | ((with_reducible refine (?_ : (and _ _) = true)); rfl)
    | ((with_reducible refine (?_ : List.Nodup _)); exact nodupB_spec rfl)
    | ((with_reducible refine (?_ : @Eq Nat _ _)); rfl)
    | ((with_reducible refine (?_ : LeOks _ _ _)); first | exact trivial | exact ⟨.refl _, trivial⟩ | exact ⟨.refl _, .refl _, trivial⟩)
    | ((fail_if_success with_reducible refine Stop.go ?_); (first | with_reducible refine And.intro ?_ ?_ | with_reducible refine Cut.go ?_ | (with_reducible (refine impI ?_; intro _)) | (with_reducible refine (?_ : footOK _ _ = true); kernel_rfl) | ((with_reducible refine propI ?_); conv => whnf))))
  all_goals try (exact .of (Nat.le_of_ble_eq_true rfl))
  all_goals exact .mk [] [] _ rfl (.le (.tups ⟨⟨trivial, .aggs ⟨⟨⟨trivial, .refl _⟩, .refl _⟩, .refl _⟩⟩, .refl _⟩)) trivial rfl
theorem c52 (t : Trf) (lo hi : Int) (hs : Side (TOk t)) (hd : Side (trfE t = 0 ∧ DatOk lo hi)) : Pure (Xc W0 G) 52 [trfA t, rngC lo hi] (.tup 3 (tbl [plcA (skP t lo hi 13), .agg 2 (tbl [.int .i64 ((skL t lo hi 13).getD 0 0), .int .i64 ((skL t lo hi 13).getD 1 0)]), .bool (decide (skE t lo hi 13 = 0))])) := by
  refine mut_of' hX (show FnIs (Xc W0 G) 52 Tryz.f52 (codeOf Tryz.f52) from ⟨by kernel_rfl, by kernel_rfl, by kernel_rfl, by kernel_rfl⟩) rfl ?_
  repeat' (first
    | ((with_reducible refine (?_ : Alt _ _)); first | (with_reducible apply callAlt (c115s hX t lo hi hs hd)) | (with_reducible refine Alt.one ?_))
    | ((with_reducible refine (?_ : AllLe _ _)); first | (first | exact AllLe.refl _ | (repeat' (first | exact trivial | apply Le.aggs | apply Le.tups | apply Le.fns | exact Le.refl _ | refine ⟨?_, ?_⟩))))
    | ((with_reducible refine (?_ : Sc _ (AllRen _ _ _))); refine Sc.of ?_; first | (repeat' (first | exact trivial | apply Le.aggs | apply Le.tups | apply Le.fns | exact Le.refl _ | refine ⟨?_, ?_⟩)))
    | ((with_reducible refine (?_ : (List.all _ _) = true)); rfl)
    | ((with_reducible refine (?_ : (and _ _) = true)); rfl)
    | ((with_reducible refine (?_ : List.Nodup _)); exact nodupB_spec rfl)
    | ((with_reducible refine (?_ : @Eq Nat _ _)); rfl)
    | ((with_reducible refine (?_ : LeOks _ _ _)); first | exact trivial | exact ⟨.refl _, trivial⟩ | exact ⟨.refl _, .refl _, trivial⟩)
    | ((fail_if_success with_reducible refine Stop.go ?_); (first | with_reducible refine And.intro ?_ ?_ | with_reducible refine Cut.go ?_ | (with_reducible (refine impI ?_; intro _)) | (with_reducible refine (?_ : footOK _ _ = true); kernel_rfl) | ((with_reducible refine propI ?_); conv => whnf))))
  all_goals try (exact .of (Nat.le_of_ble_eq_true rfl))
  all_goals exact .mk [] [] _ rfl (.le (.tups ⟨⟨⟨trivial, .aggs ⟨⟨⟨trivial, .refl _⟩, .refl _⟩, .refl _⟩⟩, .aggs ⟨⟨trivial, .refl _⟩, .refl _⟩⟩, .refl _⟩)) trivial rfl
end
end Go.Fx
