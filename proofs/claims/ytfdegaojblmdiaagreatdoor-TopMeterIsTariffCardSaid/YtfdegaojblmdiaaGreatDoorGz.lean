/-
  The body of TopMeterIsTariff.
-/
import Derived.Test.YtfdegaojblmdiaaGreatDoorGd

set_option linter.all false

/-
  The body of TopMeterIsTariff.
-/
namespace Go.Fx
open Go.Proofs Go.RowKit
theorem tar_g {t : Trf} {ms : List Int} (h : (bif (bif !fewB t then true else (ms.length : Int) == 0) then true else decide (40 < (ms.length : Int))) = false) : TOk t ∧ 0 < ms.length ∧ ms.length ≤ 40 := by
  cases hf : fewB t
  · rw [hf] at h; cases h
  rw [hf] at h
  by_cases a : (ms.length : Int) = 0
  · rw [a] at h; cases h
  rw [beq_false_of_ne a] at h
  by_cases b : 40 < (ms.length : Int)
  · rw [decide_eq_true b] at h; cases h
  · exact ⟨(few_ok hf).1, by omega, by omega⟩
theorem own_eq3 (k v : Nat) : AV.own k v = AV.own k v := rfl
theorem jn2 {l : List Ev} {x : Ev} {F f : Nat → Nat → AV} {n : Nat} (hn : n = l.length) (hF : ∀ i j, i < n → j < 2 → F i j = tbl (evC (l.getD i ev0)) j) (hf : ∀ j, j < 2 → f 0 j = tbl (evC x) j) (i j : Nat) (hi : i < n + 1) (hj : j < 2) : joinF n F f i j = tbl (evC ((l ++ [x]).getD i ev0)) j := by
  subst hn
  unfold joinF
  by_cases h : i < l.length
  · rw [if_pos h, hF i j h hj, List.getD_eq_getElem?_getD, List.getD_eq_getElem?_getD, List.getElem?_append_left h]
  · obtain rfl : i = l.length := by omega
    rw [if_neg h, Nat.sub_self, hf j hj]; simp
theorem jn3 {l : List Seg} {x : Seg} {F f : Nat → Nat → AV} {n : Nat} (hn : n = l.length) (hF : ∀ i j, i < n → j < 3 → F i j = tbl (segC (l.getD i seg0)) j) (hf : ∀ j, j < 3 → f 0 j = tbl (segC x) j) (i j : Nat) (hi : i < n + 1) (hj : j < 3) : joinF n F f i j = tbl (segC ((l ++ [x]).getD i seg0)) j := by
  subst hn
  unfold joinF
  by_cases h : i < l.length
  · rw [if_pos h, hF i j h hj, List.getD_eq_getElem?_getD, List.getD_eq_getElem?_getD, List.getElem?_append_left h]
  · obtain rfl : i = l.length := by omega
    rw [if_neg h, Nat.sub_self, hf j hj]; simp
theorem ev_t {ms : List Int} {i n : Nat} {f1 f2 : Nat → Nat → AV} (h : 0 < ms.getD i 0) (hn : n = (evK ms i).length) (h1 : ∀ j, j < 2 → f1 0 j = tbl (evC ⟨0, ms.getD i 0⟩) j) (h2 : ∀ j, j < 2 → f2 0 j = tbl (evC ⟨1, 1⟩) j) (a j : Nat) (ha : a < n + 1 + 1) (hj : j < 2) : joinF (n + 1) (joinF n (fun a j => tbl (evC ((evK ms i).getD a ev0)) j) f1) f2 a j = tbl (evC ((evK ms (i + 1)).getD a ev0)) j := by
  rw [evK_1 h]
  exact jn2 (by subst hn; simp) (fun a j ha hj => jn2 hn (fun _ _ _ _ => rfl) h1 a j ha hj) h2 a j ha hj
theorem ev_f {ms : List Int} {i n : Nat} {f2 : Nat → Nat → AV} (h : ¬ 0 < ms.getD i 0) (hn : n = (evK ms i).length) (h2 : ∀ j, j < 2 → f2 0 j = tbl (evC ⟨1, 1⟩) j) (a j : Nat) (ha : a < n + 1) (hj : j < 2) : joinF n (fun a j => tbl (evC ((evK ms i).getD a ev0)) j) f2 a j = tbl (evC ((evK ms (i + 1)).getD a ev0)) j := by
  rw [evK_0 h]
  exact jn2 hn (fun _ _ _ _ => rfl) h2 a j ha hj
theorem sg_t {ms : List Int} {i : Nat} {f : Nat → Nat → AV} (h : ∀ j, j < 3 → f 0 j = tbl (segC ⟨0, ms.getD i 0, 1⟩) j) (a j : Nat) (ha : a < i + 1) (hj : j < 3) : joinF i (fun a j => tbl (segC ((sgK ms i).getD a seg0)) j) f a j = tbl (segC ((sgK ms (i + 1)).getD a seg0)) j := by
  have e : sgK ms (i + 1) = sgK ms i ++ [⟨0, ms.getD i 0, 1⟩] := rfl
  rw [e]
  exact jn3 (sgK_len i).symm (fun _ _ _ _ => rfl) h a j ha hj
theorem sg_0 {ms : List Int} (a j : Nat) (ha : a < 1) (hj : j < 3) : [AV.int .i64 0, .int .i64 (ms.getD (Int.toNat 0) 0), .int .i64 1].getD (a * 3 + j) .any = tbl (segC ((sgK ms 1).getD a seg0)) j := by
  obtain rfl : a = 0 := by omega
  rcases (show j = 0 ∨ j = 1 ∨ j = 2 by omega) with q | q | q <;> subst q <;> rfl
theorem suM_bdi {ms : List Int} : ∀ {i : Nat}, (∀ j, j < i → 0 ≤ ms.getD j 0 ∧ ms.getD j 0 ≤ 100) → 0 ≤ suM ms i ∧ suM ms i ≤ 100 * i
  | 0, _ => by simp [suM]
  | i + 1, h => by have := suM_bdi (i := i) (fun j hj => h j (by omega)); have := h i (by omega); simp only [suM]; omega
theorem szB {n b : Nat} (h : n ≤ 1000) (hb : b ≤ 1000) : n * b ≤ 140737488355328 ∧ n ≤ 9223372036854775807 := ⟨Nat.le_trans (Nat.mul_le_mul h hb) (by decide), by omega⟩
theorem ev_e {M : Mom} {ms : List Int} {n : Nat} {f : Nat → Nat → AV} (hn : n = (evK ms ms.length).length) (h0 : ∀ j, j < 2 → f 0 j = tbl (evC ⟨2, 3⟩) j) (h1 : ∀ j, j < 2 → f 1 j = tbl (evC ⟨2, 0⟩) j) : evIs (drL M ms) (n + 2) (joinF n (fun a j => tbl (evC ((evK ms ms.length).getD a ev0)) j) f) := by
  have w := dr_atE (M := M) (ms := ms)
  refine ⟨by rw [w.2.2, hn], fun i j hi hj => .ofEq ?_⟩
  unfold joinF
  by_cases c : i < n
  · rw [if_pos c]
    show tbl (evC ((evK ms ms.length).getD i ev0)) j = tbl (evC ((evK ms ms.length ++ ([⟨2, 3⟩, ⟨2, 0⟩] : List Ev)).getD i ev0)) j
    rw [List.getD_eq_getElem?_getD, List.getD_eq_getElem?_getD, List.getElem?_append_left (by omega)]
  · rw [if_neg c]
    by_cases d : i = n
    · rw [d, Nat.sub_self, h0 j hj, hn, w.1]
    · have e : i = n + 1 := by omega
      rw [e, show n + 1 - n = 1 by omega, h1 j hj, hn, w.2.1]
theorem xokX {t : Trf} {M : Mom} {ms : List Int} (h : TOk t) (hl : ms.length ≤ 40) : XOk (drX t M ms) := ⟨by show (List.replicate _ _).length ≤ 1000; rw [List.length_replicate]; exact h.extras, by rw [drX_len]; omega⟩
theorem xokO {t : Trf} {M : Mom} {ms : List Int} (h : TOk t) : XOk (drO t M ms) := ⟨by show (List.replicate _ _).length ≤ 1000; rw [List.length_replicate]; exact h.extras, by show 1 ≤ 1000; decide⟩
theorem one_fin {t : Trf} {O : Trp} {N : Int} (fx : O.fx = false) (fo : fareE t O (ptX t O) = 0) (le1 : totQ t O (ptX t O) ≤ N) (le2 : N ≤ totQ t O (ptB t O)) : (bif (bif fareE t O (ptX t O) == 0 then decide (fareZ t O (ptX t O) (totQ t O (ptX t O)) ≤ N) else false) then (bif rngE t O O == 8 then true else bif rngE t O O == 0 then decide (N ≤ rngZ t O O (totQ t O (ptB t O))) else false) else false) = true := by
  rw [fareZ_0 fo, fo, decide_eq_true le1]
  rcases fare_cases (t := t) (x := O) (f := ptB t O) with h | h | h
  · rw [fx] at h; cases h.1
  · have w := (rng_2 fo (by rw [h.2.2]; decide)).1
    rw [w, h.2.2]; rfl
  · have w := rng_3 fo h.2.2
    rw [w.1, w.2, decide_eq_true le2]; rfl
theorem seg1_le {z m s : Int} {f : Nat → Nat → AV} (h : ∀ j, j < 3 → f 0 j = tbl (segC ⟨z, m, s⟩) j) : Le (.slc 3 1 f) (segS [⟨z, m, s⟩]) := .slc fun i j hi hj => by
  obtain rfl : i = 0 := by omega
  exact .ofEq (h j hj)
theorem or_f {a b : Bool} (h : (bif a then true else b) = false) : a = false ∧ b = false := by cases a <;> simp_all
theorem el_t {ms : List Int} {i : Nat} (h : 0 < ms.getD i 0) : (evK ms (i + 1)).length = (evK ms i).length + 1 + 1 := by rw [evK_1 h]; simp
theorem el_f {ms : List Int} {i : Nat} (h : ¬ 0 < ms.getD i 0) : (evK ms (i + 1)).length = (evK ms i).length + 1 := by rw [evK_0 h]; simp
theorem in_t {n : Int} (h : (!inB n 0 100) = false) : 0 ≤ n ∧ n ≤ 100 := inB_iff.1 (by cases q : inB n 0 100 with | true => rfl | false => rw [q] at h; cases h)
section
variable {W0 : World} (hX : (Xc W0 Gt).Good) (haw : Pure (Xc W0 Gt) 34 [] (.bool true))
include hX haw
set_option maxHeartbeats 2000000 in
theorem c11 (t : Trf) (M : Mom) (ms : List Int) : Pure (Xc W0 Gt) 11 [trfA t, .agg 3 (tbl [.int .i64 M.d, .int .i64 M.s, iRow ms])] (.bool true) := by
  refine mut_of' hX (fnI Tryz.f11) rfl ?_
  repeat' (first
    | (refine Ax.go ?_; first | (with_reducible apply callAlt (haw)) | (with_reducible apply callAlt (c13 hX t)) | (with_reducible apply callAlt (c18 hX t ?_)) | (rw [own_eq3]; with_reducible refine Alt.two ?_) | refine Alt.one ?_)
    | exact Cl.go
    | exact Ck.go
    | ((fail_if_success refine Stop.go ?_); (first | (with_reducible first | refine And.intro ?_ ?_ | refine Cut.go ?_ | (refine impI ?_; intro _)) | (refine propI ?_; conv => whnf))))
  all_goals try (exact .of (Nat.le_of_ble_eq_true rfl))
  all_goals try (rename_i h; first | exact absurd h (by decide) | (cases h; done))
  all_goals try (exact .of (by decide))
  all_goals try (exact .mk [] [] _ rfl (.le (.refl _)) trivial rfl)
  all_goals have gg := tar_g ‹(bif (bif !fewB t then true else (ms.length : Int) == 0) then true else decide (40 < (ms.length : Int))) = false›
  all_goals try (have ex := gg.1.extras; exact Sc.of ⟨rfl, by omega, by show (t.extras.length : Int).toNat * 8 ≤ 281474976710656; omega, by omega⟩)
  refine ⟨Unit ⊕ Nat, fun y => match y with | .inl _ => ([(2, .ptr 0 0), (3, .ptr 1 0), (5, .ptr 3 0), (6, .ptr 4 0), (7, .int .i64 0), (8, .int .i64 0)], [.box (trfC t), .box [.int .i64 M.d, .int .i64 M.s, iRow ms], .list 41 2 (evK ms (0)).length (fun a j => tbl (evC ((evK ms (0)).getD a ev0)) j) (evK ms (0)).length, .box [.int .i64 1000, .int .i64 M.d, .int .i64 M.s, .own 2 (evK ms (0)).length], .box [.int .i64 M.d, .int .i64 M.s, .bool false, iRow (List.replicate t.extras.length 0), .slc0]]) | .inr i => ([(2, .ptr 0 0), (3, .ptr 1 0), (5, .ptr 3 0), (6, .ptr 4 0), (7, .int .i64 (suM ms (i))), (8, .int .i64 ((i : Nat) : Int))], [.box (trfC t), .box [.int .i64 M.d, .int .i64 M.s, iRow ms], .list 41 2 (evK ms (i)).length (fun a j => tbl (evC ((evK ms (i)).getD a ev0)) j) (evK ms (i)).length, .box [.int .i64 1000, .int .i64 M.d, .int .i64 M.s, .own 2 (evK ms (i)).length], .box [.int .i64 M.d, .int .i64 M.s, .bool false, iRow (List.replicate t.extras.length 0), .own 5 (i)], .list 93 3 (i) (fun a j => tbl (segC ((sgK ms (i)).getD a seg0)) j) (i)]), fun y => match y with | .inl _ => True | .inr i => 0 < i ∧ i ≤ ms.length ∧ ∀ j, j < i → 0 ≤ ms.getD j 0 ∧ ms.getD j 0 ≤ 100, fun y => match y with | .inl _ => ms.length | .inr i => ms.length - i, ⟨.inl (), trivial, .fr [0, 1, 2, 3, 5] [4] (by kernel_rfl) ⟨.le (.refl _), .le (.refl _), .le (.list (fun a j ha hj => ?_)), .box ⟨.le (.refl _), .le (.refl _), .le (.refl _), .le (.refl _), trivial⟩, .box ⟨.le (.refl _), .le (.refl _), .le (.refl _), .ownM rfl (by simp) (fun a j _ hj => ?_), .le (.refl _), trivial⟩, trivial⟩ ⟨.le (.refl _), .le (.refl _), .le (.refl _), .le (.refl _), .le (.refl _), .le (.refl _), trivial⟩⟩, fun y hy => ?_⟩
  · replace ha : a < 1 := ha
    replace hj : j < 2 := hj
    obtain rfl : a = 0 := by omega
    rcases (show j = 0 ∨ j = 1 by omega) with q | q <;> subst q <;> exact .refl _
  · replace hj : j < 1 := hj
    obtain rfl : j = 0 := by omega
    rw [rep_0]; exact .refl _
  have lp := gg.2.1
  have le40 := gg.2.2
  rcases y with i | i
  · clear hy
    have hx1 : decide ((0 : Int) < (ms.length : Int)) = false → False := fun q => by have q := of_decide_eq_false q; omega
    repeat' (first
      | (refine Ax.go ?_; first | ((with_reducible apply callAlt (c15 hX _ _ _)); case hl => (first | exact AllLe.refl _ | ((repeat' (first | exact trivial | apply Le.aggs | apply Le.tups | apply Le.fns | exact Le.refl _ | refine ⟨?_, ?_⟩)); done))) | refine Alt.one ?_)
      | exact Cl.go
      | exact Ck.go
      | ((fail_if_success refine Stop.go ?_); (first | exact (hx1 ‹_›).elim | (with_reducible first | refine And.intro ?_ ?_ | refine Cut.go ?_ | (refine impI ?_; intro _)) | (refine propI ?_; conv => whnf))))
    all_goals try (exact .of (Nat.le_of_ble_eq_true rfl))
    all_goals try (exact Sc.of (szB (by have eb := evK_len (ms := ms) 0; first | (show (evK ms 0).length + 1 ≤ 1000; omega) | (show (evK ms 0).length + 2 ≤ 1000; omega) | (show 1 ≤ 1000; omega)) (Nat.le_of_ble_eq_true rfl)))
    all_goals try (exact .of ⟨by omega, by omega⟩)
    all_goals try (exact .mk [] [] _ rfl (.le (.refl _)) trivial rfl)
    all_goals try (have n0 := in_t ‹(!inB (ms.getD (Int.toNat 0) 0) 0 100) = false›; exact .of (show inK .i64 (0 + ms.getD (Int.toNat 0) 0) from ⟨by omega, by omega⟩))
    all_goals try (have n0 := in_t ‹(!inB (ms.getD (i : Int).toNat 0) 0 100) = false›; exact .of (show inK .i64 (suM ms i + ms.getD (i : Int).toNat 0) from ⟨by omega, by omega⟩))
    · have h := of_decide_eq_true ‹decide (0 < ms.getD (Int.toNat 0) 0) = true›
      have n0 := in_t ‹(!inB (ms.getD (Int.toNat 0) 0) 0 100) = false›
      refine ⟨.inr 1, ⟨by omega, by omega, fun j hj => ?_⟩, by show ms.length - 1 < ms.length; omega, ?_⟩
      · obtain rfl : j = 0 := by omega
        exact n0
      · show StTo _ _ _ [(2, .ptr 0 0), (3, .ptr 1 0), (5, .ptr 3 0), (6, .ptr 4 0), (7, .int .i64 (suM ms (1))), (8, .int .i64 ((1 : Nat) : Int))] [.box (trfC t), .box [.int .i64 M.d, .int .i64 M.s, iRow ms], .list 41 2 (evK ms (1)).length (fun a j => tbl (evC ((evK ms (1)).getD a ev0)) j) (evK ms (1)).length, .box [.int .i64 1000, .int .i64 M.d, .int .i64 M.s, .own 2 (evK ms (1)).length], .box [.int .i64 M.d, .int .i64 M.s, .bool false, iRow (List.replicate t.extras.length 0), .own 5 (1)], .list 93 3 (1) (fun a j => tbl (segC ((sgK ms (1)).getD a seg0)) j) (1)]; rw [el_t (i := 0) h]; exact .le ⟨by kernel_rfl, ⟨.refl _, .refl _, .list (fun a j ha hj => .ofEq (ev_t (i := 0) h rfl (fun j hj => by rcases (show j = 0 ∨ j = 1 by omega) with q | q <;> subst q <;> rfl) (fun j hj => by rcases (show j = 0 ∨ j = 1 by omega) with q | q <;> subst q <;> rfl) a j ha hj)), .refl _, .refl _, .list (fun a j ha hj => .ofEq (sg_0 a j ha hj)), trivial⟩, ⟨.refl _, .refl _, .refl _, .refl _, .intI (by simp only [suM, Int.toNat_natCast]; try rfl), .intI (by omega), trivial⟩⟩
    · have h := of_decide_eq_false ‹decide (0 < ms.getD (Int.toNat 0) 0) = false›
      have n0 := in_t ‹(!inB (ms.getD (Int.toNat 0) 0) 0 100) = false›
      refine ⟨.inr 1, ⟨by omega, by omega, fun j hj => ?_⟩, by show ms.length - 1 < ms.length; omega, ?_⟩
      · obtain rfl : j = 0 := by omega
        exact n0
      · show StTo _ _ _ [(2, .ptr 0 0), (3, .ptr 1 0), (5, .ptr 3 0), (6, .ptr 4 0), (7, .int .i64 (suM ms (1))), (8, .int .i64 ((1 : Nat) : Int))] [.box (trfC t), .box [.int .i64 M.d, .int .i64 M.s, iRow ms], .list 41 2 (evK ms (1)).length (fun a j => tbl (evC ((evK ms (1)).getD a ev0)) j) (evK ms (1)).length, .box [.int .i64 1000, .int .i64 M.d, .int .i64 M.s, .own 2 (evK ms (1)).length], .box [.int .i64 M.d, .int .i64 M.s, .bool false, iRow (List.replicate t.extras.length 0), .own 5 (1)], .list 93 3 (1) (fun a j => tbl (segC ((sgK ms (1)).getD a seg0)) j) (1)]; rw [el_f (i := 0) h]; exact .le ⟨by kernel_rfl, ⟨.refl _, .refl _, .list (fun a j ha hj => .ofEq (ev_f (i := 0) h rfl (fun j hj => by rcases (show j = 0 ∨ j = 1 by omega) with q | q <;> subst q <;> rfl) a j ha hj)), .refl _, .refl _, .list (fun a j ha hj => .ofEq (sg_0 a j ha hj)), trivial⟩, ⟨.refl _, .refl _, .refl _, .refl _, .intI (by simp only [suM, Int.toNat_natCast]; try rfl), .intI (by omega), trivial⟩⟩
  · obtain ⟨i0, hi, hb⟩ := hy
    by_cases lt : i < ms.length
    · have hx1 : decide ((i : Int) < (ms.length : Int)) = false → False := fun q => by have q := of_decide_eq_false q; omega
      have sm := suM_bdi hb
      repeat' (first
        | (refine Ax.go ?_; first | ((with_reducible apply callAlt (c15 hX _ _ _)); case hl => (first | exact AllLe.refl _ | ((repeat' (first | exact trivial | apply Le.aggs | apply Le.tups | apply Le.fns | exact Le.refl _ | refine ⟨?_, ?_⟩)); done))) | refine Alt.one ?_)
        | exact Cl.go
        | exact Ck.go
        | ((fail_if_success refine Stop.go ?_); (first | exact (hx1 ‹_›).elim | rw [beqvv i] | rw [beqvv (evK ms i).length] | rw [beqvv ((evK ms i).length + 1)] | (with_reducible first | refine And.intro ?_ ?_ | refine Cut.go ?_ | (refine impI ?_; intro _)) | (refine propI ?_; conv => whnf))))
      all_goals try (exact .of (Nat.le_of_ble_eq_true rfl))
      all_goals try (exact Sc.of (szB (by have eb := evK_len (ms := ms) i; first | (show (evK ms i).length + 1 ≤ 1000; omega) | (show (evK ms i).length + 2 ≤ 1000; omega) | (show i + 1 ≤ 1000; omega)) (Nat.le_of_ble_eq_true rfl)))
      all_goals try (exact .of ⟨by omega, by omega⟩)
      all_goals try (exact .mk [] [] _ rfl (.le (.refl _)) trivial rfl)
      all_goals try (have n0 := in_t ‹(!inB (ms.getD (Int.toNat 0) 0) 0 100) = false›; exact .of (show inK .i64 (0 + ms.getD (Int.toNat 0) 0) from ⟨by omega, by omega⟩))
      all_goals try (have n0 := in_t ‹(!inB (ms.getD (i : Int).toNat 0) 0 100) = false›; exact .of (show inK .i64 (suM ms i + ms.getD (i : Int).toNat 0) from ⟨by omega, by omega⟩))
      all_goals try (refine Sc.of ?_; rw [Int.toNat_natCast]; exact lt)
      all_goals try (have n0 := in_t ‹(!inB (ms.getD (i : Int).toNat 0) 0 100) = false›; refine Sc.of ?_; rw [Int.toNat_natCast] at n0 ⊢; exact ⟨by omega, by omega⟩)
      · have h := of_decide_eq_true ‹decide (0 < ms.getD (i : Int).toNat 0) = true›
        have n0 := in_t ‹(!inB (ms.getD (i : Int).toNat 0) 0 100) = false›
        rw [Int.toNat_natCast] at h n0
        refine ⟨.inr (i + 1), ⟨by omega, by omega, all_lt hb n0⟩, by show ms.length - (i + 1) < ms.length - i; omega, ?_⟩
        show StTo _ _ _ [(2, .ptr 0 0), (3, .ptr 1 0), (5, .ptr 3 0), (6, .ptr 4 0), (7, .int .i64 (suM ms (i + 1))), (8, .int .i64 ((i + 1 : Nat) : Int))] [.box (trfC t), .box [.int .i64 M.d, .int .i64 M.s, iRow ms], .list 41 2 (evK ms (i + 1)).length (fun a j => tbl (evC ((evK ms (i + 1)).getD a ev0)) j) (evK ms (i + 1)).length, .box [.int .i64 1000, .int .i64 M.d, .int .i64 M.s, .own 2 (evK ms (i + 1)).length], .box [.int .i64 M.d, .int .i64 M.s, .bool false, iRow (List.replicate t.extras.length 0), .own 5 (i + 1)], .list 93 3 (i + 1) (fun a j => tbl (segC ((sgK ms (i + 1)).getD a seg0)) j) (i + 1)]; rw [el_t (i := i) h]; exact .le ⟨by kernel_rfl, ⟨.refl _, .refl _, .list (fun a j ha hj => .ofEq (ev_t (i := i) h rfl (fun j hj => by rcases (show j = 0 ∨ j = 1 by omega) with q | q <;> subst q <;> rfl) (fun j hj => by rcases (show j = 0 ∨ j = 1 by omega) with q | q <;> subst q <;> rfl) a j ha hj)), .refl _, .refl _, .list (fun a j ha hj => .ofEq (sg_t (i := i) (fun j hj => by rcases (show j = 0 ∨ j = 1 ∨ j = 2 by omega) with q | q | q <;> subst q <;> rfl) a j ha hj)), trivial⟩, ⟨.refl _, .refl _, .refl _, .refl _, .intI (by simp only [suM, Int.toNat_natCast]; try rfl), .intI (by omega), trivial⟩⟩
      · have h := of_decide_eq_false ‹decide (0 < ms.getD (i : Int).toNat 0) = false›
        have n0 := in_t ‹(!inB (ms.getD (i : Int).toNat 0) 0 100) = false›
        rw [Int.toNat_natCast] at h n0
        refine ⟨.inr (i + 1), ⟨by omega, by omega, all_lt hb n0⟩, by show ms.length - (i + 1) < ms.length - i; omega, ?_⟩
        show StTo _ _ _ [(2, .ptr 0 0), (3, .ptr 1 0), (5, .ptr 3 0), (6, .ptr 4 0), (7, .int .i64 (suM ms (i + 1))), (8, .int .i64 ((i + 1 : Nat) : Int))] [.box (trfC t), .box [.int .i64 M.d, .int .i64 M.s, iRow ms], .list 41 2 (evK ms (i + 1)).length (fun a j => tbl (evC ((evK ms (i + 1)).getD a ev0)) j) (evK ms (i + 1)).length, .box [.int .i64 1000, .int .i64 M.d, .int .i64 M.s, .own 2 (evK ms (i + 1)).length], .box [.int .i64 M.d, .int .i64 M.s, .bool false, iRow (List.replicate t.extras.length 0), .own 5 (i + 1)], .list 93 3 (i + 1) (fun a j => tbl (segC ((sgK ms (i + 1)).getD a seg0)) j) (i + 1)]; rw [el_f (i := i) h]; exact .le ⟨by kernel_rfl, ⟨.refl _, .refl _, .list (fun a j ha hj => .ofEq (ev_f (i := i) h rfl (fun j hj => by rcases (show j = 0 ∨ j = 1 by omega) with q | q <;> subst q <;> rfl) a j ha hj)), .refl _, .refl _, .list (fun a j ha hj => .ofEq (sg_t (i := i) (fun j hj => by rcases (show j = 0 ∨ j = 1 ∨ j = 2 by omega) with q | q | q <;> subst q <;> rfl) a j ha hj)), trivial⟩, ⟨.refl _, .refl _, .refl _, .refl _, .intI (by simp only [suM, Int.toNat_natCast]; try rfl), .intI (by omega), trivial⟩⟩
    · obtain rfl : i = ms.length := by omega
      have hx1 : decide ((ms.length : Int) < (ms.length : Int)) = true → False := fun q => by have q := of_decide_eq_true q; omega
      have mk : MsOk ms := ⟨lp, le40, hb⟩
      have eb := evK_len (ms := ms) ms.length
      have dm := dr_main (M := M) gg.1 mk
      have XO := xokX (M := M) gg.1 le40
      by_cases hr : rideE t (drX t M ms) = 0
      · by_cases hC : fareE t (drX t M ms) (ptX t (drX t M ms)) = 0 ∧ tkgE t (drL M ms) = 0
        · have dt : tkgN t (drL M ms) = totQ t (drX t M ms) (ptX t (drX t M ms)) := by
            rcases dm with d | d | d
            · rw [(tkg_e (by rw [d]; decide)).1, d] at hC; cases hC.2
            · exact absurd hr d.1
            · exact d.2.2.2.2
          have hx3 : (tkgN t (drL M ms) != fareZ t (drX t M ms) (ptX t (drX t M ms)) (totQ t (drX t M ms) (ptX t (drX t M ms)))) = true → False := fun q => bne_iff_ne.1 q (by rw [fareZ_0 hC.1, dt])
          have hx4 : (bif (0 : Int) != 0 then true else ((drX t M ms).sg.length : Int) != (ms.length : Int)) = true → False := fun q => by rw [drX_len] at q; simp at q
          have hx2 : (bif fareE t (drX t M ms) (ptX t (drX t M ms)) != 0 then true else tkgE t (drL M ms) != 0) = true → False := fun q => by rw [hC.1, hC.2] at q; cases q
          repeat' (first
            | (refine Ax.go ?_; first | (with_reducible apply callAlt (c18 hX t ?_)) | (with_reducible (apply altK (ks := [5]); apply And.intro; apply Sc.of; apply (c38v hX (drX t M ms) ms.length ms.length (fun a j => tbl (segC ((sgK ms ms.length).getD a seg0)) j) ?_ ?_))) | ((with_reducible (apply altM (ks := [2]) (m := 0); apply And.intro; apply Sc.of; apply (c16g hX (drL M ms) _ _ _ ?_ ?_))); case' right => (refine And.intro (Sc.of ?_) ?_; · ((repeat' (first | exact trivial | apply Le.aggs | apply Le.tups | apply Le.fns | exact Le.refl _ | refine ⟨?_, ?_⟩)); done))) | ((with_reducible apply callAlt (c36 hX t (drL M ms) ?_)); case hl => (first | exact AllLe.refl _ | ((repeat' (first | exact trivial | apply Le.aggs | apply Le.tups | apply Le.fns | exact Le.refl _ | refine ⟨?_, ?_⟩)); done))) | ((with_reducible apply callAlt (c33 hX t (drX t M ms) ?_ hr)); case hl => (first | exact AllLe.refl _ | ((repeat' (first | exact trivial | apply Le.aggs | apply Le.tups | apply Le.fns | exact Le.refl _ | refine ⟨?_, ?_⟩)); done))) | ((with_reducible apply callAlt (c39 hX t (drX t M ms) ?_ hr)); case hl => (first | exact AllLe.refl _ | ((repeat' (first | exact trivial | apply Le.aggs | apply Le.tups | apply Le.fns | exact Le.refl _ | refine ⟨?_, ?_⟩)); done))) | refine Alt.one ?_)
            | exact Cl.go
            | exact Ck.go
            | ((fail_if_success refine Stop.go ?_); (first | exact (hx1 ‹_›).elim | exact (hx2 ‹_›).elim | exact (hx3 ‹_›).elim | exact (hx4 ‹_›).elim | rw [beqvv ms.length] | rw [beqvv (evK ms ms.length).length] | rw [beqvv ((evK ms ms.length).length + 1)] | (with_reducible first | refine And.intro ?_ ?_ | refine Cut.go ?_ | (refine impI ?_; intro _)) | (refine propI ?_; conv => whnf))))
          all_goals try (exact .of (Nat.le_of_ble_eq_true rfl))
          all_goals try (exact Side.mk ⟨drX_len.symm, fun _ _ _ _ => .refl _⟩)
          all_goals try (exact Side.mk (ev_e rfl (fun j hj => by rcases (show j = 0 ∨ j = 1 by omega) with q | q <;> subst q <;> rfl) (fun j hj => by rcases (show j = 0 ∨ j = 1 by omega) with q | q <;> subst q <;> rfl)))
          all_goals try (exact Side.mk (show (drL M ms).ev.length ≤ 1000000 by rw [dr_atE.2.2]; omega))
          all_goals try (exact Sc.of (szB (by show (evK ms ms.length).length + 2 ≤ 1000; omega) (Nat.le_of_ble_eq_true rfl)))
          all_goals try (exact Side.mk gg.1)
          all_goals try (exact Side.mk XO)
          all_goals try (exact Side.mk ⟨gg.1, XO⟩)
          all_goals try (exact .of ⟨by omega, by omega⟩)
          refine ⟨Nat, fun k => ([(2, .ptr 0 0), (11, .int .i64 (tkgN t (drL M ms))), (13, .ptr 1 0), (14, rowF (segN t (drX t M ms)) (drX t M ms).sg.length), (16, .int .i64 ((k : Nat) : Int))], [.box (trfC t), .box [.int .i64 M.d, .int .i64 M.s, .bool false, iRow (List.replicate t.extras.length 0), segS [⟨0, suM ms ms.length, ms.length⟩]]]), fun k => (1 ≤ k ∧ k ≤ ms.length) ∧ ∀ j, j < k → segN t (drX t M ms) j = segN t (drX t M ms) 0, fun k => ms.length - k, ⟨1, ⟨⟨Nat.le_refl _, lp⟩, fun j hj => by rw [show j = 0 by omega]⟩, .fr [0, 7] [] (by kernel_rfl) ⟨.le (.refl _), .box ⟨.le (.refl _), .le (.refl _), .le (.refl _), .le (.refl _), .le (seg1_le (fun j hj => by rcases (show j = 0 ∨ j = 1 ∨ j = 2 by omega) with q | q | q <;> subst q <;> rfl)), trivial⟩, trivial⟩ ⟨.le (.refl _), .le (.refl _), .le (.refl _), .le (.refl _), .le (.refl _), trivial⟩⟩, fun k hk => ?_⟩
          have hs := hk.2
          have kb := hk.1
          clear hk
          by_cases lk : k < ms.length
          · have hx5 : decide ((k : Int) < ((drX t M ms).sg.length : Int)) = false → False := fun q => by have q := of_decide_eq_false q; rw [drX_len] at q; omega
            repeat' (first
              | (refine Ax.go ?_; refine Alt.one ?_)
              | exact Cl.go
              | exact Ck.go
              | ((fail_if_success refine Stop.go ?_); (first | exact (hx5 ‹_›).elim | (with_reducible first | refine And.intro ?_ ?_ | refine Cut.go ?_ | (refine impI ?_; intro _)) | (refine propI ?_; conv => whnf))))
            all_goals try (exact .of (Nat.le_of_ble_eq_true rfl))
            all_goals try (exact .mk [] [] _ rfl (.le (.refl _)) trivial rfl)
            all_goals try (refine Sc.of ?_; rw [drX_len]; exact ⟨by omega, by omega⟩)
            all_goals try (refine Sc.of ?_; rw [drX_len, Int.toNat_natCast]; exact lk)
            all_goals try (refine Sc.of ?_; rw [drX_len]; exact lp)
            all_goals try (exact .of ⟨by omega, by omega⟩)
            all_goals (have q := bne_eq_false_iff_eq.1 ‹(segN t (drX t M ms) (k : Int).toNat != segN t (drX t M ms) (Int.toNat 0)) = false›; rw [Int.toNat_natCast] at q; exact ⟨k + 1, ⟨⟨by omega, by omega⟩, all_lt hs q⟩, by show ms.length - (k + 1) < ms.length - k; omega, .le ⟨by kernel_rfl, ⟨.refl _, .refl _, trivial⟩, ⟨.refl _, .refl _, .refl _, .refl _, .intI (by omega), trivial⟩⟩⟩)
          · obtain rfl : k = ms.length := by omega
            have hx5 : decide ((ms.length : Int) < ((drX t M ms).sg.length : Int)) = true → False := fun q => by have q := of_decide_eq_true q; rw [drX_len] at q; omega
            have D := dr_one mk hr hs hC.1
            have ho := D.1
            have XP := xokO (M := M) (ms := ms) gg.1
            repeat' (first
              | (refine Ax.go ?_; first | (with_reducible apply callAlt (c18 hX t ?_)) | ((with_reducible apply callAlt (c38 hX (drO t M ms) ?_)); case hl => (first | exact AllLe.refl _ | ((repeat' (first | exact trivial | apply Le.aggs | apply Le.tups | apply Le.fns | exact Le.refl _ | refine ⟨?_, ?_⟩)); done))) | ((with_reducible apply callAlt (c33 hX t (drO t M ms) ?_ ho)); case hl => (first | exact AllLe.refl _ | ((repeat' (first | exact trivial | apply Le.aggs | apply Le.tups | apply Le.fns | exact Le.refl _ | refine ⟨?_, ?_⟩)); done))) | ((with_reducible apply callAlt (c40 hX t (drO t M ms) ?_ ho)); case hl => (first | exact AllLe.refl _ | ((repeat' (first | exact trivial | apply Le.aggs | apply Le.tups | apply Le.fns | exact Le.refl _ | refine ⟨?_, ?_⟩)); done))) | refine Alt.one ?_)
              | exact Cl.go
              | exact Ck.go
              | ((fail_if_success refine Stop.go ?_); (first | exact (hx5 ‹_›).elim | (with_reducible first | refine And.intro ?_ ?_ | refine Cut.go ?_ | (refine impI ?_; intro _)) | (refine propI ?_; conv => whnf))))
            all_goals try (exact .of (Nat.le_of_ble_eq_true rfl))
            all_goals try (exact Side.mk gg.1)
            all_goals try (exact Side.mk XP)
            all_goals try (exact Side.mk ⟨gg.1, XP⟩)
            all_goals (exact .mk [] [] _ rfl (.le (.boolT (one_fin rfl D.2.1 (by rw [dt]; exact D.2.2.1) (by rw [dt]; exact D.2.2.2)))) trivial rfl)
        · have hx2 : (bif fareE t (drX t M ms) (ptX t (drX t M ms)) != 0 then true else tkgE t (drL M ms) != 0) = false → False := fun q => hC ⟨bne_eq_false_iff_eq.1 (or_f q).1, bne_eq_false_iff_eq.1 (or_f q).2⟩
          have e8 : tkgE t (drL M ms) = 8 := by
            rcases dm with d | d | d
            · rw [(tkg_e (by rw [d]; decide)).1, d]
            · exact absurd hr d.1
            · exact absurd ⟨d.2.2.1, d.2.2.2.1⟩ hC
          repeat' (first
            | (refine Ax.go ?_; first | (with_reducible apply callAlt (c18 hX t ?_)) | (with_reducible (apply altK (ks := [5]); apply And.intro; apply Sc.of; apply (c38v hX (drX t M ms) ms.length ms.length (fun a j => tbl (segC ((sgK ms ms.length).getD a seg0)) j) ?_ ?_))) | ((with_reducible (apply altM (ks := [2]) (m := 0); apply And.intro; apply Sc.of; apply (c16g hX (drL M ms) _ _ _ ?_ ?_))); case' right => (refine And.intro (Sc.of ?_) ?_; · ((repeat' (first | exact trivial | apply Le.aggs | apply Le.tups | apply Le.fns | exact Le.refl _ | refine ⟨?_, ?_⟩)); done))) | ((with_reducible apply callAlt (c36 hX t (drL M ms) ?_)); case hl => (first | exact AllLe.refl _ | ((repeat' (first | exact trivial | apply Le.aggs | apply Le.tups | apply Le.fns | exact Le.refl _ | refine ⟨?_, ?_⟩)); done))) | ((with_reducible apply callAlt (c33 hX t (drX t M ms) ?_ hr)); case hl => (first | exact AllLe.refl _ | ((repeat' (first | exact trivial | apply Le.aggs | apply Le.tups | apply Le.fns | exact Le.refl _ | refine ⟨?_, ?_⟩)); done))) | ((with_reducible apply callAlt (c39 hX t (drX t M ms) ?_ hr)); case hl => (first | exact AllLe.refl _ | ((repeat' (first | exact trivial | apply Le.aggs | apply Le.tups | apply Le.fns | exact Le.refl _ | refine ⟨?_, ?_⟩)); done))) | refine Alt.one ?_)
            | exact Cl.go
            | exact Ck.go
            | ((fail_if_success refine Stop.go ?_); (first | exact (hx1 ‹_›).elim | exact (hx2 ‹_›).elim | rw [beqvv ms.length] | rw [beqvv (evK ms ms.length).length] | rw [beqvv ((evK ms ms.length).length + 1)] | (with_reducible first | refine And.intro ?_ ?_ | refine Cut.go ?_ | (refine impI ?_; intro _)) | (refine propI ?_; conv => whnf))))
          all_goals try (exact .of (Nat.le_of_ble_eq_true rfl))
          all_goals try (exact Side.mk ⟨drX_len.symm, fun _ _ _ _ => .refl _⟩)
          all_goals try (exact Side.mk (ev_e rfl (fun j hj => by rcases (show j = 0 ∨ j = 1 by omega) with q | q <;> subst q <;> rfl) (fun j hj => by rcases (show j = 0 ∨ j = 1 by omega) with q | q <;> subst q <;> rfl)))
          all_goals try (exact Side.mk (show (drL M ms).ev.length ≤ 1000000 by rw [dr_atE.2.2]; omega))
          all_goals try (exact Sc.of (szB (by show (evK ms ms.length).length + 2 ≤ 1000; omega) (Nat.le_of_ble_eq_true rfl)))
          all_goals try (exact Side.mk gg.1)
          all_goals try (exact Side.mk XO)
          all_goals try (exact Side.mk ⟨gg.1, XO⟩)
          all_goals try (exact .of ⟨by omega, by omega⟩)
          all_goals (exact .mk [] [] _ rfl (.le (.boolT (by rw [e8]; cases (bif fareE t (drX t M ms) (ptX t (drX t M ms)) == 8 then true else fareE t (drX t M ms) (ptX t (drX t M ms)) == 8) <;> rfl))) trivial rfl)
      · have hx2 : (bif rideE t (drX t M ms) != 0 then true else tkgE t (drL M ms) != 0) = false → False := fun q => hr (bne_eq_false_iff_eq.1 (or_f q).1)
        have e8 : tkgE t (drL M ms) = 8 ∨ tkgE t (drL M ms) = rideE t (drX t M ms) := by
          rcases dm with d | d | d
          · exact .inl (by rw [(tkg_e (by rw [d]; decide)).1, d])
          · exact .inr (by rw [(tkg_e (by rw [d.2]; exact d.1)).1, d.2])
          · exact absurd d.1 hr
        repeat' (first
          | (refine Ax.go ?_; first | (with_reducible apply callAlt (c18 hX t ?_)) | (with_reducible (apply altK (ks := [5]); apply And.intro; apply Sc.of; apply (c38v hX (drX t M ms) ms.length ms.length (fun a j => tbl (segC ((sgK ms ms.length).getD a seg0)) j) ?_ ?_))) | ((with_reducible (apply altM (ks := [2]) (m := 0); apply And.intro; apply Sc.of; apply (c16g hX (drL M ms) _ _ _ ?_ ?_))); case' right => (refine And.intro (Sc.of ?_) ?_; · ((repeat' (first | exact trivial | apply Le.aggs | apply Le.tups | apply Le.fns | exact Le.refl _ | refine ⟨?_, ?_⟩)); done))) | ((with_reducible apply callAlt (c36 hX t (drL M ms) ?_)); case hl => (first | exact AllLe.refl _ | ((repeat' (first | exact trivial | apply Le.aggs | apply Le.tups | apply Le.fns | exact Le.refl _ | refine ⟨?_, ?_⟩)); done))) | ((with_reducible apply callAlt (c33e hX t (drX t M ms) ?_ hr)); case hl => (first | exact AllLe.refl _ | ((repeat' (first | exact trivial | apply Le.aggs | apply Le.tups | apply Le.fns | exact Le.refl _ | refine ⟨?_, ?_⟩)); done))) | refine Alt.one ?_)
          | exact Cl.go
          | exact Ck.go
          | ((fail_if_success refine Stop.go ?_); (first | exact (hx1 ‹_›).elim | exact (hx2 ‹_›).elim | rw [beqvv ms.length] | rw [beqvv (evK ms ms.length).length] | rw [beqvv ((evK ms ms.length).length + 1)] | (with_reducible first | refine And.intro ?_ ?_ | refine Cut.go ?_ | (refine impI ?_; intro _)) | (refine propI ?_; conv => whnf))))
        all_goals try (exact .of (Nat.le_of_ble_eq_true rfl))
        all_goals try (exact Side.mk ⟨drX_len.symm, fun _ _ _ _ => .refl _⟩)
        all_goals try (exact Side.mk (ev_e rfl (fun j hj => by rcases (show j = 0 ∨ j = 1 by omega) with q | q <;> subst q <;> rfl) (fun j hj => by rcases (show j = 0 ∨ j = 1 by omega) with q | q <;> subst q <;> rfl)))
        all_goals try (exact Side.mk (show (drL M ms).ev.length ≤ 1000000 by rw [dr_atE.2.2]; omega))
        all_goals try (exact Sc.of (szB (by show (evK ms ms.length).length + 2 ≤ 1000; omega) (Nat.le_of_ble_eq_true rfl)))
        all_goals try (exact Side.mk gg.1)
        all_goals try (exact Side.mk XO)
        all_goals try (exact Side.mk ⟨gg.1, XO⟩)
        all_goals try (exact .of ⟨by omega, by omega⟩)
        all_goals (exact .mk [] [] _ rfl (.le (.boolT (by rcases e8 with e | e; (rw [e]; cases rideE t (drX t M ms) == 8 <;> rfl); (rw [e, beq_self_eq_true]; rfl)))) trivial rfl)

end
end Go.Fx
