/-
  The body of MeterRises.
-/
import Derived.Test.YtfdegaojblmdiaaGreatDoorGx
import Derived.Test.YtfdegaojblmdiaaGreatDoorGu
import Derived.Test.YtfdegaojblmdiaaGreatDoorGy

set_option linter.all false

/-
  The body of MeterRises.
-/
namespace Go.Fx
open Go.Proofs Go.RowKit
theorem rise_g {t : Trf} {l : Log} {b c : Bool} (h : (bif (bif (bif !fewB t then true else !briefB l) then true else b) then true else !c) = false) : TOk t ∧ l.ev.length ≤ 202 ∧ b = false ∧ c = true := by
  cases hf : fewB t
  · rw [hf] at h; cases h
  cases hx : briefB l
  · rw [hf, hx] at h; cases h
  · rw [hf, hx] at h
    cases b
    · cases c
      · cases h
      · exact ⟨(few_ok hf).1, brief_len hx, rfl, rfl⟩
    · cases h
theorem moreB_eq (l : Log) (x : Int) : (bif (bif inB x 0 (l.ev.length - 1) then (l.ev.getD x.toNat ev0).k == 0 else false) then inB (l.ev.getD x.toNat ev0).n 1 100000 else false) = moreB l x := by
  unfold moreB; cases inB x 0 (l.ev.length - 1) <;> rfl
theorem moreB_in {l : Log} {x : Int} (h : moreB l x = true) : (0 ≤ x ∧ x < l.ev.length) ∧ 1 ≤ (l.ev.getD x.toNat ev0).n ∧ (l.ev.getD x.toNat ev0).n ≤ 100000 := by
  unfold moreB at h
  have a := and_t h
  have b := and_t a.2
  have c := inB_iff.1 a.1
  exact ⟨by omega, inB_iff.1 b.2⟩
theorem more_t {l : Log} {x y : Int} (h : moreB l x = true) (i j : Nat) (hj : j < 2) : Le (putF x.toNat 1 [.int .i64 (min 100000 ((l.ev.getD x.toNat ev0).n + y))] (fun i j => tbl (evC (l.ev.getD i ev0)) j) i j) (tbl (evC ((moreL l x y).ev.getD i ev0)) j) := by
  have w := moreB_in h
  refine .ofEq ?_
  unfold moreL putF
  rw [h]
  show _ = tbl (evC ((l.ev.set x.toNat _).getD i ev0)) j
  rw [ev_set]
  by_cases c : i = x.toNat
  · subst c
    rw [if_pos (show x.toNat = x.toNat ∧ x.toNat < l.ev.length from ⟨rfl, by omega⟩)]
    rcases (show j = 0 ∨ j = 1 by omega) with q | q <;> subst q
    · rw [if_neg (by omega)]; rfl
    · rw [if_pos ⟨rfl, by omega, by show 1 < 1 + 1; omega⟩]; rfl
  · rw [if_neg (fun q => c q.1), if_neg (fun q => c q.1.symm)]
theorem more_f {l : Log} {x y : Int} (h : moreB l x = false) (i j : Nat) : Le (tbl (evC (l.ev.getD i ev0)) j) (tbl (evC ((moreL l x y).ev.getD i ev0)) j) := by
  refine .ofEq ?_
  unfold moreL
  rw [h]; rfl
theorem more_sl {e n : Nat} {H : List HObj} {k v : Nat} {l : Log} {x y : Int} {F : Nat → Nat → AV} (hk : H[k]? = some (.list e 2 n F v)) (hn : n = l.ev.length) (h : ∀ i j, j < 2 → Le (F i j) (tbl (evC ((moreL l x y).ev.getD i ev0)) j)) : LeH H (.own k v) (evS (moreL l x y).ev) :=
  .ownM hk (by rw [more_len.1]; exact hn) fun i j _ hj => h i j hj
/-- The fare of the state before. -/
def prF (t : Trf) (l : Log) : Nat → Int
  | 0 => 0
  | i + 1 => mFare t l (mcN t l i)
theorem prF_le {t : Trf} {l : Log} (g : Gd t l) (h0 : ∀ j, j < l.ev.length → mcE t l j = 0) : ∀ i, i ≤ l.ev.length → (mcN t l i).ps ≠ 0 → prF t l i ≤ mFare t l (mcN t l i)
  | 0, _, _ => (fare_bd (mcN_hm g (Nat.zero_le _))).1
  | i + 1, hi, hp => ev_rise g hi (h0 i hi) hp
section
variable {W0 : World} (hX : (Xc W0 Gt).Good) (haw : Pure (Xc W0 Gt) 12 [] (.bool true))
include hX haw
omit haw in
theorem c17n (t : Trf) (l : Log) (hs : Side (TOk t)) (i : Nat) (hr : rnE t l = 0) (hi : Side (i ≤ l.ev.length)) : Pure (Xc W0 Gt) 17 [trfA t, lgA l, .int .i64 i] (.tup 2 (tbl [staA t l (mcN t l i), .int .i64 0])) := by
  have w := c17 hX t l hs i hr (inB_iff.2 (by have := hi.get; omega))
  rwa [Int.toNat_natCast] at w
set_option maxHeartbeats 1000000 in
theorem c3e (t : Trf) (l : Log) (x y : Int) (hr : rnE t l ≠ 0) : Pure (Xc W0 Gt) 3 [trfA t, lgA l, .agg 2 (tbl [.int .i64 x, .int .i64 y])] (.bool true) := by
  refine mut_of' hX (show FnIs (Xc W0 Gt) 3 Tryz.f3 (codeOf Tryz.f3) from ⟨by kernel_rfl, by kernel_rfl, by kernel_rfl, by kernel_rfl⟩) rfl ?_
  repeat' (first
    | ((with_reducible refine (?_ : Alt _ _)); first | (with_reducible apply callAlt (haw)) | (with_reducible apply callAlt (c13 hX t)) | (with_reducible apply callAlt (c18 hX t ?_)) | (with_reducible apply callAlt (c14 hX l)) | ((with_reducible apply callAlt (c15 hX _ _ _)); case hl => (first | exact AllLe.refl _ | ((repeat' (first | exact trivial | apply Le.aggs | apply Le.tups | apply Le.fns | exact Le.refl _ | refine ⟨?_, ?_⟩)); done))) | (with_reducible (apply altM (ks := []) (m := 1); apply And.intro; apply Sc.of; apply (c16o hX l ?_))) | (with_reducible refine Alt.one ?_))
    | ((with_reducible refine (?_ : AllLe _ _)); first | (first | exact AllLe.refl _ | (repeat' (first | exact trivial | apply Le.aggs | apply Le.tups | apply Le.fns | exact Le.refl _ | refine ⟨?_, ?_⟩))))
    | ((with_reducible refine (?_ : Sc _ (AllRen _ _ _))); refine Sc.of ?_; first | (repeat' (first | exact trivial | apply Le.aggs | apply Le.tups | apply Le.fns | exact Le.refl _ | refine ⟨?_, ?_⟩)))
    | ((with_reducible refine (?_ : (List.all _ _) = true)); rfl)
    | ((with_reducible refine (?_ : (and _ _) = true)); rfl)
    | ((with_reducible refine (?_ : List.Nodup _)); exact nodupB_spec rfl)
    | ((with_reducible refine (?_ : @Eq Nat _ _)); rfl)
    | ((with_reducible refine (?_ : @Eq (List (Option HObj)) _ _)); kernel_rfl)
    | ((with_reducible refine (?_ : LeOks _ _ _)); first | exact trivial | exact ⟨.refl _, trivial⟩ | exact ⟨.refl _, .refl _, trivial⟩)
    | ((fail_if_success with_reducible refine Stop.go ?_); (first | with_reducible refine And.intro ?_ ?_ | with_reducible refine Cut.go ?_ | (with_reducible (refine impI ?_; intro _)) | (with_reducible refine (?_ : footOK _ _ = true); kernel_rfl) | ((with_reducible refine propI ?_); conv => whnf))))
  all_goals try (exact .of (Nat.le_of_ble_eq_true rfl))
  all_goals try (rename_i h; first | exact absurd h (by decide) | (cases h; done))
  all_goals try (exact .of (by decide))
  all_goals try (exact Sc.imp fun _ => (by decide))
  all_goals try (exact .mk [] [] _ rfl (.le (.refl _)) trivial rfl)
  all_goals have gg := rise_g ‹(bif (bif (bif !fewB t then true else !briefB l) then true else decide (30 < (l.ev.length : Int))) then true else !inB y 0 100000) = false›
  all_goals have el := gg.2.1
  all_goals have yb := inB_iff.1 gg.2.2.2
  all_goals try (exact Side.mk (by omega))
  all_goals try (exact .of ⟨by omega, by omega⟩)
  all_goals try (exact Sc.imp fun v => (by have v := inB_iff.1 v; exact ⟨by omega, by omega⟩))
  all_goals try (exact Sc.imp fun v => (by have v := inB_iff.1 (and_t v).1; exact ⟨by omega, by omega⟩))
  all_goals (rename_i mb; rw [moreB_eq] at mb)
  all_goals try (have mi := moreB_in mb; first | exact .of ⟨by omega, by omega⟩ | exact .of (by omega))
  all_goals (refine ⟨Nat, fun i => ([(3, .ptr 0 0), (4, .ptr 1 0), (7, .ptr 2 0), (9, .int .i64 (0)), (10, .int .i64 ((i : Int)))], [.box (trfC t), .box (logC l (evS l.ev)), .box (logC (moreL l x y) (evS (moreL l x y).ev))]), fun i => i = 0, fun i => i, ⟨0, rfl, by first | exact .fr [0, 1, 4] [3] (by kernel_rfl) ⟨.le (.refl _), .le (.refl _), .box ⟨.le (.ofEq (by rw [more_len.2.1]; rfl)), .le (.ofEq (by rw [more_len.2.2.1]; rfl)), .le (.ofEq (by rw [more_len.2.2.2]; rfl)), more_sl rfl rfl (more_t mb), trivial⟩, trivial⟩ ⟨.le (.refl _), .le (.refl _), .le (.refl _), .le (.refl _), .le (.refl _), trivial⟩ | exact .fr [0, 1, 4] [3] (by kernel_rfl) ⟨.le (.refl _), .le (.refl _), .box ⟨.le (.ofEq (by rw [more_len.2.1]; rfl)), .le (.ofEq (by rw [more_len.2.2.1]; rfl)), .le (.ofEq (by rw [more_len.2.2.2]; rfl)), more_sl rfl rfl (fun i j _ => more_f mb i j), trivial⟩, trivial⟩ ⟨.le (.refl _), .le (.refl _), .le (.refl _), .le (.refl _), .le (.refl _), trivial⟩⟩, fun i hi => ?_⟩)
  all_goals clear mb
  all_goals replace hi : i = 0 := hi
  all_goals subst hi
  all_goals have hx0 : (soE t l ((0 : Nat) : Int) != 0) = false → False := fun q => by rw [so_e hr] at q; exact hr (bne_eq_false_iff_eq.1 q)
  all_goals (
    repeat' (first
      | ((with_reducible refine (?_ : Alt _ _)); first | (with_reducible apply callAlt (c18 hX t ?_)) | ((with_reducible apply callAlt (c16 hX l ?_)); case hl => (first | exact AllLe.refl _ | ((repeat' (first | exact trivial | apply Le.aggs | apply Le.tups | apply Le.fns | exact Le.refl _ | refine ⟨?_, ?_⟩)); done))) | ((with_reducible apply callAlt (c16 hX (moreL l x y) ?_)); case hl => (first | exact AllLe.refl _ | ((repeat' (first | exact trivial | apply Le.aggs | apply Le.tups | apply Le.fns | exact Le.refl _ | refine ⟨?_, ?_⟩)); done))) | ((with_reducible apply callAlt (c17e hX t l ?_ _ hr)); case hl => (first | exact AllLe.refl _ | ((repeat' (first | exact trivial | apply Le.aggs | apply Le.tups | apply Le.fns | exact Le.refl _ | refine ⟨?_, ?_⟩)); done))) | (with_reducible refine Alt.one ?_))
      | ((with_reducible refine (?_ : AllLe _ _)); first | (first | exact AllLe.refl _ | (repeat' (first | exact trivial | apply Le.aggs | apply Le.tups | apply Le.fns | exact Le.refl _ | refine ⟨?_, ?_⟩))))
      | ((with_reducible refine (?_ : Sc _ (AllRen _ _ _))); refine Sc.of ?_; first | (repeat' (first | exact trivial | apply Le.aggs | apply Le.tups | apply Le.fns | exact Le.refl _ | refine ⟨?_, ?_⟩)))
      | ((with_reducible refine (?_ : (List.all _ _) = true)); rfl)
      | ((with_reducible refine (?_ : (and _ _) = true)); rfl)
      | ((with_reducible refine (?_ : List.Nodup _)); exact nodupB_spec rfl)
      | ((with_reducible refine (?_ : @Eq Nat _ _)); rfl)
      | ((with_reducible refine (?_ : @Eq (List (Option HObj)) _ _)); kernel_rfl)
      | ((with_reducible refine (?_ : LeOks _ _ _)); first | exact trivial | exact ⟨.refl _, trivial⟩ | exact ⟨.refl _, .refl _, trivial⟩)
      | ((fail_if_success with_reducible refine Stop.go ?_); (first | exact (hx0 ‹_›).elim | with_reducible refine And.intro ?_ ?_ | with_reducible refine Cut.go ?_ | (with_reducible (refine impI ?_; intro _)) | (with_reducible refine (?_ : footOK _ _ = true); kernel_rfl) | ((with_reducible refine propI ?_); conv => whnf)))))
  all_goals try (exact .of (Nat.le_of_ble_eq_true rfl))
  all_goals try (exact Side.mk gg.1)
  all_goals try (exact Side.mk (by rw [more_len.1]; omega))
  all_goals try (rename_i q; exact Side.mk (by have q := of_decide_eq_true q; omega))
  all_goals try (rename_i q; exact Side.mk (by have q := of_decide_eq_true q; rw [more_len.1]; omega))
  all_goals try (exact Side.mk (by omega))
  all_goals try (exact Side.mk (by rw [more_len.1]; have q := of_decide_eq_true ‹decide ((i : Int) ≤ (l.ev.length : Int)) = true›; omega))
  all_goals try (exact .mk [] [] _ rfl (.le (.refl _)) trivial rfl)


set_option maxHeartbeats 1000000 in
theorem c3b (t : Trf) (l : Log) (x y : Int) (hr : rnE t l = 0) (hm : rnE t (moreL l x y) ≠ 0) : Pure (Xc W0 Gt) 3 [trfA t, lgA l, .agg 2 (tbl [.int .i64 x, .int .i64 y])] (.bool true) := by
  refine mut_of' hX (show FnIs (Xc W0 Gt) 3 Tryz.f3 (codeOf Tryz.f3) from ⟨by kernel_rfl, by kernel_rfl, by kernel_rfl, by kernel_rfl⟩) rfl ?_
  repeat' (first
    | ((with_reducible refine (?_ : Alt _ _)); first | (with_reducible apply callAlt (haw)) | (with_reducible apply callAlt (c13 hX t)) | (with_reducible apply callAlt (c18 hX t ?_)) | (with_reducible apply callAlt (c14 hX l)) | ((with_reducible apply callAlt (c15 hX _ _ _)); case hl => (first | exact AllLe.refl _ | ((repeat' (first | exact trivial | apply Le.aggs | apply Le.tups | apply Le.fns | exact Le.refl _ | refine ⟨?_, ?_⟩)); done))) | (with_reducible (apply altM (ks := []) (m := 1); apply And.intro; apply Sc.of; apply (c16o hX l ?_))) | (with_reducible refine Alt.one ?_))
    | ((with_reducible refine (?_ : AllLe _ _)); first | (first | exact AllLe.refl _ | (repeat' (first | exact trivial | apply Le.aggs | apply Le.tups | apply Le.fns | exact Le.refl _ | refine ⟨?_, ?_⟩))))
    | ((with_reducible refine (?_ : Sc _ (AllRen _ _ _))); refine Sc.of ?_; first | (repeat' (first | exact trivial | apply Le.aggs | apply Le.tups | apply Le.fns | exact Le.refl _ | refine ⟨?_, ?_⟩)))
    | ((with_reducible refine (?_ : (List.all _ _) = true)); rfl)
    | ((with_reducible refine (?_ : (and _ _) = true)); rfl)
    | ((with_reducible refine (?_ : List.Nodup _)); exact nodupB_spec rfl)
    | ((with_reducible refine (?_ : @Eq Nat _ _)); rfl)
    | ((with_reducible refine (?_ : @Eq (List (Option HObj)) _ _)); kernel_rfl)
    | ((with_reducible refine (?_ : LeOks _ _ _)); first | exact trivial | exact ⟨.refl _, trivial⟩ | exact ⟨.refl _, .refl _, trivial⟩)
    | ((fail_if_success with_reducible refine Stop.go ?_); (first | with_reducible refine And.intro ?_ ?_ | with_reducible refine Cut.go ?_ | (with_reducible (refine impI ?_; intro _)) | (with_reducible refine (?_ : footOK _ _ = true); kernel_rfl) | ((with_reducible refine propI ?_); conv => whnf))))
  all_goals try (exact .of (Nat.le_of_ble_eq_true rfl))
  all_goals try (rename_i h; first | exact absurd h (by decide) | (cases h; done))
  all_goals try (exact .of (by decide))
  all_goals try (exact Sc.imp fun _ => (by decide))
  all_goals try (exact .mk [] [] _ rfl (.le (.refl _)) trivial rfl)
  all_goals have gg := rise_g ‹(bif (bif (bif !fewB t then true else !briefB l) then true else decide (30 < (l.ev.length : Int))) then true else !inB y 0 100000) = false›
  all_goals have el := gg.2.1
  all_goals have yb := inB_iff.1 gg.2.2.2
  all_goals try (exact Side.mk (by omega))
  all_goals try (exact .of ⟨by omega, by omega⟩)
  all_goals try (exact Sc.imp fun v => (by have v := inB_iff.1 v; exact ⟨by omega, by omega⟩))
  all_goals try (exact Sc.imp fun v => (by have v := inB_iff.1 (and_t v).1; exact ⟨by omega, by omega⟩))
  all_goals (rename_i mb; rw [moreB_eq] at mb)
  all_goals try (have mi := moreB_in mb; first | exact .of ⟨by omega, by omega⟩ | exact .of (by omega))
  all_goals (refine ⟨Nat, fun i => ([(3, .ptr 0 0), (4, .ptr 1 0), (7, .ptr 2 0), (9, .int .i64 (0)), (10, .int .i64 ((i : Int)))], [.box (trfC t), .box (logC l (evS l.ev)), .box (logC (moreL l x y) (evS (moreL l x y).ev))]), fun i => i = 0, fun i => i, ⟨0, rfl, by first | exact .fr [0, 1, 4] [3] (by kernel_rfl) ⟨.le (.refl _), .le (.refl _), .box ⟨.le (.ofEq (by rw [more_len.2.1]; rfl)), .le (.ofEq (by rw [more_len.2.2.1]; rfl)), .le (.ofEq (by rw [more_len.2.2.2]; rfl)), more_sl rfl rfl (more_t mb), trivial⟩, trivial⟩ ⟨.le (.refl _), .le (.refl _), .le (.refl _), .le (.refl _), .le (.refl _), trivial⟩ | exact .fr [0, 1, 4] [3] (by kernel_rfl) ⟨.le (.refl _), .le (.refl _), .box ⟨.le (.ofEq (by rw [more_len.2.1]; rfl)), .le (.ofEq (by rw [more_len.2.2.1]; rfl)), .le (.ofEq (by rw [more_len.2.2.2]; rfl)), more_sl rfl rfl (fun i j _ => more_f mb i j), trivial⟩, trivial⟩ ⟨.le (.refl _), .le (.refl _), .le (.refl _), .le (.refl _), .le (.refl _), trivial⟩⟩, fun i hi => ?_⟩)
  all_goals clear mb
  all_goals replace hi : i = 0 := hi
  all_goals subst hi
  all_goals have g := rn_gd gg.1 hr
  all_goals have fb := fare_bd (mcN_hm g.1 (Nat.zero_le l.ev.length))
  all_goals have hx0 : (soE t (moreL l x y) ((0 : Nat) : Int) != 0) = false → False := fun q => by rw [so_e hm] at q; exact hm (bne_eq_false_iff_eq.1 q)
  all_goals have hx1 : decide (mFare t l (mcN t l 0) < 0) = true → False := fun q => by have q := of_decide_eq_true q; omega
  all_goals (
    repeat' (first
      | ((with_reducible refine (?_ : Alt _ _)); first | (with_reducible apply callAlt (c18 hX t ?_)) | ((with_reducible apply callAlt (c16 hX l ?_)); case hl => (first | exact AllLe.refl _ | ((repeat' (first | exact trivial | apply Le.aggs | apply Le.tups | apply Le.fns | exact Le.refl _ | refine ⟨?_, ?_⟩)); done))) | ((with_reducible apply callAlt (c16 hX (moreL l x y) ?_)); case hl => (first | exact AllLe.refl _ | ((repeat' (first | exact trivial | apply Le.aggs | apply Le.tups | apply Le.fns | exact Le.refl _ | refine ⟨?_, ?_⟩)); done))) | ((with_reducible apply callAlt (c17n hX t l ?_ _ hr ?_)); case hl => (first | exact AllLe.refl _ | ((repeat' (first | exact trivial | apply Le.aggs | apply Le.tups | apply Le.fns | exact Le.refl _ | refine ⟨?_, ?_⟩)); done))) | ((with_reducible apply callAlt (c17e hX t (moreL l x y) ?_ _ hm)); case hl => (first | exact AllLe.refl _ | ((repeat' (first | exact trivial | apply Le.aggs | apply Le.tups | apply Le.fns | exact Le.refl _ | refine ⟨?_, ?_⟩)); done))) | (with_reducible refine Alt.one ?_))
      | ((with_reducible refine (?_ : AllLe _ _)); first | (first | exact AllLe.refl _ | (repeat' (first | exact trivial | apply Le.aggs | apply Le.tups | apply Le.fns | exact Le.refl _ | refine ⟨?_, ?_⟩))))
      | ((with_reducible refine (?_ : Sc _ (AllRen _ _ _))); refine Sc.of ?_; first | (repeat' (first | exact trivial | apply Le.aggs | apply Le.tups | apply Le.fns | exact Le.refl _ | refine ⟨?_, ?_⟩)))
      | ((with_reducible refine (?_ : (List.all _ _) = true)); rfl)
      | ((with_reducible refine (?_ : (and _ _) = true)); rfl)
      | ((with_reducible refine (?_ : List.Nodup _)); exact nodupB_spec rfl)
      | ((with_reducible refine (?_ : @Eq Nat _ _)); rfl)
      | ((with_reducible refine (?_ : @Eq (List (Option HObj)) _ _)); kernel_rfl)
      | ((with_reducible refine (?_ : LeOks _ _ _)); first | exact trivial | exact ⟨.refl _, trivial⟩ | exact ⟨.refl _, .refl _, trivial⟩)
      | ((fail_if_success with_reducible refine Stop.go ?_); (first | exact (hx0 ‹_›).elim | exact (hx1 ‹_›).elim | with_reducible refine And.intro ?_ ?_ | with_reducible refine Cut.go ?_ | (with_reducible (refine impI ?_; intro _)) | (with_reducible refine (?_ : footOK _ _ = true); kernel_rfl) | ((with_reducible refine propI ?_); conv => whnf)))))
  all_goals try (exact .of (Nat.le_of_ble_eq_true rfl))
  all_goals try (exact Side.mk gg.1)
  all_goals try (exact Side.mk (by rw [more_len.1]; omega))
  all_goals try (rename_i q; exact Side.mk (by have q := of_decide_eq_true q; omega))
  all_goals try (rename_i q; exact Side.mk (by have q := of_decide_eq_true q; rw [more_len.1]; omega))
  all_goals try (exact Side.mk (by omega))
  all_goals try (exact Side.mk (by rw [more_len.1]; have q := of_decide_eq_true ‹decide ((i : Int) ≤ (l.ev.length : Int)) = true›; omega))
  all_goals try (exact .mk [] [] _ rfl (.le (.boolT (by rw [so_e hm]; rcases (more_law (x := x) gg.1 hr yb.1 (Nat.zero_le _)).1 with q | q; exact absurd q hm; rw [q]; rfl))) trivial rfl)
  all_goals try (exact .mk [] [] _ rfl (.le (.refl _)) trivial rfl)


set_option maxHeartbeats 1000000 in
theorem c3c (t : Trf) (l : Log) (x y : Int) (hr : rnE t l = 0) (hm : rnE t (moreL l x y) = 0) : Pure (Xc W0 Gt) 3 [trfA t, lgA l, .agg 2 (tbl [.int .i64 x, .int .i64 y])] (.bool true) := by
  refine mut_of' hX (show FnIs (Xc W0 Gt) 3 Tryz.f3 (codeOf Tryz.f3) from ⟨by kernel_rfl, by kernel_rfl, by kernel_rfl, by kernel_rfl⟩) rfl ?_
  repeat' (first
    | ((with_reducible refine (?_ : Alt _ _)); first | (with_reducible apply callAlt (haw)) | (with_reducible apply callAlt (c13 hX t)) | (with_reducible apply callAlt (c18 hX t ?_)) | (with_reducible apply callAlt (c14 hX l)) | ((with_reducible apply callAlt (c15 hX _ _ _)); case hl => (first | exact AllLe.refl _ | ((repeat' (first | exact trivial | apply Le.aggs | apply Le.tups | apply Le.fns | exact Le.refl _ | refine ⟨?_, ?_⟩)); done))) | (with_reducible (apply altM (ks := []) (m := 1); apply And.intro; apply Sc.of; apply (c16o hX l ?_))) | (with_reducible refine Alt.one ?_))
    | ((with_reducible refine (?_ : AllLe _ _)); first | (first | exact AllLe.refl _ | (repeat' (first | exact trivial | apply Le.aggs | apply Le.tups | apply Le.fns | exact Le.refl _ | refine ⟨?_, ?_⟩))))
    | ((with_reducible refine (?_ : Sc _ (AllRen _ _ _))); refine Sc.of ?_; first | (repeat' (first | exact trivial | apply Le.aggs | apply Le.tups | apply Le.fns | exact Le.refl _ | refine ⟨?_, ?_⟩)))
    | ((with_reducible refine (?_ : (List.all _ _) = true)); rfl)
    | ((with_reducible refine (?_ : (and _ _) = true)); rfl)
    | ((with_reducible refine (?_ : List.Nodup _)); exact nodupB_spec rfl)
    | ((with_reducible refine (?_ : @Eq Nat _ _)); rfl)
    | ((with_reducible refine (?_ : @Eq (List (Option HObj)) _ _)); kernel_rfl)
    | ((with_reducible refine (?_ : LeOks _ _ _)); first | exact trivial | exact ⟨.refl _, trivial⟩ | exact ⟨.refl _, .refl _, trivial⟩)
    | ((fail_if_success with_reducible refine Stop.go ?_); (first | with_reducible refine And.intro ?_ ?_ | with_reducible refine Cut.go ?_ | (with_reducible (refine impI ?_; intro _)) | (with_reducible refine (?_ : footOK _ _ = true); kernel_rfl) | ((with_reducible refine propI ?_); conv => whnf))))
  all_goals try (exact .of (Nat.le_of_ble_eq_true rfl))
  all_goals try (rename_i h; first | exact absurd h (by decide) | (cases h; done))
  all_goals try (exact .of (by decide))
  all_goals try (exact Sc.imp fun _ => (by decide))
  all_goals try (exact .mk [] [] _ rfl (.le (.refl _)) trivial rfl)
  all_goals have gg := rise_g ‹(bif (bif (bif !fewB t then true else !briefB l) then true else decide (30 < (l.ev.length : Int))) then true else !inB y 0 100000) = false›
  all_goals have el := gg.2.1
  all_goals have yb := inB_iff.1 gg.2.2.2
  all_goals try (exact Side.mk (by omega))
  all_goals try (exact .of ⟨by omega, by omega⟩)
  all_goals try (exact Sc.imp fun v => (by have v := inB_iff.1 v; exact ⟨by omega, by omega⟩))
  all_goals try (exact Sc.imp fun v => (by have v := inB_iff.1 (and_t v).1; exact ⟨by omega, by omega⟩))
  all_goals (rename_i mb; rw [moreB_eq] at mb)
  all_goals try (have mi := moreB_in mb; first | exact .of ⟨by omega, by omega⟩ | exact .of (by omega))
  all_goals (refine ⟨Nat, fun i => ([(3, .ptr 0 0), (4, .ptr 1 0), (7, .ptr 2 0), (9, .int .i64 (prF t l i)), (10, .int .i64 ((i : Int)))], [.box (trfC t), .box (logC l (evS l.ev)), .box (logC (moreL l x y) (evS (moreL l x y).ev))]), fun i => i ≤ l.ev.length + 1, fun i => l.ev.length + 1 - i, ⟨0, Nat.zero_le _, by first | exact .fr [0, 1, 4] [3] (by kernel_rfl) ⟨.le (.refl _), .le (.refl _), .box ⟨.le (.ofEq (by rw [more_len.2.1]; rfl)), .le (.ofEq (by rw [more_len.2.2.1]; rfl)), .le (.ofEq (by rw [more_len.2.2.2]; rfl)), more_sl rfl rfl (more_t mb), trivial⟩, trivial⟩ ⟨.le (.refl _), .le (.refl _), .le (.refl _), .le (.refl _), .le (.refl _), trivial⟩ | exact .fr [0, 1, 4] [3] (by kernel_rfl) ⟨.le (.refl _), .le (.refl _), .box ⟨.le (.ofEq (by rw [more_len.2.1]; rfl)), .le (.ofEq (by rw [more_len.2.2.1]; rfl)), .le (.ofEq (by rw [more_len.2.2.2]; rfl)), more_sl rfl rfl (fun i j _ => more_f mb i j), trivial⟩, trivial⟩ ⟨.le (.refl _), .le (.refl _), .le (.refl _), .le (.refl _), .le (.refl _), trivial⟩⟩, fun i hi => ?_⟩)
  all_goals clear mb
  all_goals replace hi : i ≤ l.ev.length + 1 := hi
  all_goals have g := rn_gd gg.1 hr
  all_goals have hx2 : i ≤ l.ev.length → decide (mFare t l (mcN t l i) < 0) = true → False := fun h q => by have q := of_decide_eq_true q; have := (fare_bd (mcN_hm g.1 h)).1; omega
  all_goals have hx3 : i ≤ l.ev.length → ((mcN t l i).ps == 0) = false → decide (mFare t l (mcN t l i) < prF t l i) = true → False := fun h p q => by have q := of_decide_eq_true q; have := prF_le g.1 g.2 i h (fun e => by rw [e] at p; cases p); omega
  all_goals have hx4 : i ≤ l.ev.length → decide (mFare t (moreL l x y) (mcN t (moreL l x y) i) < mFare t l (mcN t l i)) = true → False := fun h q => by have q := of_decide_eq_true q; have := (more_law (x := x) gg.1 hr yb.1 h).2 hm; omega
  all_goals have hx1 : ((0 : Int) != 0) = true → False := fun q => by cases q
  all_goals (
    repeat' (first
      | ((with_reducible refine (?_ : Alt _ _)); first | (with_reducible apply callAlt (c18 hX t ?_)) | ((with_reducible apply callAlt (c16 hX l ?_)); case hl => (first | exact AllLe.refl _ | ((repeat' (first | exact trivial | apply Le.aggs | apply Le.tups | apply Le.fns | exact Le.refl _ | refine ⟨?_, ?_⟩)); done))) | ((with_reducible apply callAlt (c16 hX (moreL l x y) ?_)); case hl => (first | exact AllLe.refl _ | ((repeat' (first | exact trivial | apply Le.aggs | apply Le.tups | apply Le.fns | exact Le.refl _ | refine ⟨?_, ?_⟩)); done))) | ((with_reducible apply callAlt (c17n hX t l ?_ _ hr ?_)); case hl => (first | exact AllLe.refl _ | ((repeat' (first | exact trivial | apply Le.aggs | apply Le.tups | apply Le.fns | exact Le.refl _ | refine ⟨?_, ?_⟩)); done))) | ((with_reducible apply callAlt (c17n hX t (moreL l x y) ?_ _ hm ?_)); case hl => (first | exact AllLe.refl _ | ((repeat' (first | exact trivial | apply Le.aggs | apply Le.tups | apply Le.fns | exact Le.refl _ | refine ⟨?_, ?_⟩)); done))) | (with_reducible refine Alt.one ?_))
      | ((with_reducible refine (?_ : AllLe _ _)); first | (first | exact AllLe.refl _ | (repeat' (first | exact trivial | apply Le.aggs | apply Le.tups | apply Le.fns | exact Le.refl _ | refine ⟨?_, ?_⟩))))
      | ((with_reducible refine (?_ : Sc _ (AllRen _ _ _))); refine Sc.of ?_; first | (repeat' (first | exact trivial | apply Le.aggs | apply Le.tups | apply Le.fns | exact Le.refl _ | refine ⟨?_, ?_⟩)))
      | ((with_reducible refine (?_ : (List.all _ _) = true)); rfl)
      | ((with_reducible refine (?_ : (and _ _) = true)); rfl)
      | ((with_reducible refine (?_ : List.Nodup _)); exact nodupB_spec rfl)
      | ((with_reducible refine (?_ : @Eq Nat _ _)); rfl)
      | ((with_reducible refine (?_ : @Eq (List (Option HObj)) _ _)); kernel_rfl)
      | ((with_reducible refine (?_ : LeOks _ _ _)); first | exact trivial | exact ⟨.refl _, trivial⟩ | exact ⟨.refl _, .refl _, trivial⟩)
      | ((fail_if_success with_reducible refine Stop.go ?_); (first | exact (hx1 ‹_›).elim | exact (hx2 (by have q := of_decide_eq_true ‹decide ((i : Int) ≤ (l.ev.length : Int)) = true›; omega) ‹_›).elim | exact (hx3 (by have q := of_decide_eq_true ‹decide ((i : Int) ≤ (l.ev.length : Int)) = true›; omega) ‹_› ‹_›).elim | exact (hx4 (by have q := of_decide_eq_true ‹decide ((i : Int) ≤ (l.ev.length : Int)) = true›; omega) ‹_›).elim | with_reducible refine And.intro ?_ ?_ | with_reducible refine Cut.go ?_ | (with_reducible (refine impI ?_; intro _)) | (with_reducible refine (?_ : footOK _ _ = true); kernel_rfl) | ((with_reducible refine propI ?_); conv => whnf)))))
  all_goals try (exact .of (Nat.le_of_ble_eq_true rfl))
  all_goals try (exact Side.mk gg.1)
  all_goals try (exact Side.mk (by rw [more_len.1]; omega))
  all_goals try (rename_i q; exact Side.mk (by have q := of_decide_eq_true q; omega))
  all_goals try (rename_i q; exact Side.mk (by have q := of_decide_eq_true q; rw [more_len.1]; omega))
  all_goals try (exact Side.mk (by omega))
  all_goals try (exact Side.mk (by rw [more_len.1]; have q := of_decide_eq_true ‹decide ((i : Int) ≤ (l.ev.length : Int)) = true›; omega))
  all_goals try (exact .mk [] [] _ rfl (.le (.refl _)) trivial rfl)
  all_goals try (exact .of ⟨by omega, by omega⟩)
  all_goals try (refine ⟨i + 1, ?_, ?_, .le ⟨rfl, ⟨.refl _, .refl _, .refl _, trivial⟩, ⟨.refl _, .refl _, .refl _, .refl _, .intI (by omega), trivial⟩⟩⟩ <;> (have q := of_decide_eq_true ‹decide ((i : Int) ≤ (l.ev.length : Int)) = true›); (show i + 1 ≤ l.ev.length + 1; omega); (show l.ev.length + 1 - (i + 1) < l.ev.length + 1 - i; omega))


theorem c3 (t : Trf) (l : Log) (x y : Int) : Pure (Xc W0 Gt) 3 [trfA t, lgA l, .agg 2 (tbl [.int .i64 x, .int .i64 y])] (.bool true) := by
  by_cases hr : rnE t l = 0
  · by_cases hm : rnE t (moreL l x y) = 0
    · exact c3c hX haw t l x y hr hm
    · exact c3b hX haw t l x y hr hm
  · exact c3e hX haw t l x y hr
end
end Go.Fx
