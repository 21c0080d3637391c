/-
  The body of MeterIsLaw.
-/
import Derived.Test.YtfdegaojblmdiaaGreatDoorGj
import Derived.Test.YtfdegaojblmdiaaGreatDoorGu
import Derived.Test.YtfdegaojblmdiaaGreatDoorGm
import Derived.Test.YtfdegaojblmdiaaGreatDoorGt

set_option linter.all false

/-
  The body of MeterIsLaw.
-/
namespace Go.Fx
open Go.Proofs Go.RowKit
theorem two_g {t : Trf} {l : Log} (h : (bif !fewB t then true else !briefB l) = false) : TOk t ∧ l.ev.length ≤ 202 := by
  cases hf : fewB t
  · rw [hf] at h; cases h
  cases hx : briefB l
  · rw [hf, hx] at h; cases h
  · exact ⟨(few_ok hf).1, brief_len hx⟩
section
variable {W0 : World} (hX : (Xc W0 Gt).Good) (haw : Pure (Xc W0 Gt) 12 [] (.bool true))
include hX haw
omit haw in
theorem c32z (t : Trf) (l : Log) (hs : Side (TOk t)) (hr : rnE t l = 0) (j : Nat) (hj : Side (j < (mcN t l l.ev.length).tr.length)) (he : toE t l j = 0) : Pure (Xc W0 Gt) 32 [trfA t, lgA l, .int .i64 j] (.tup 2 (tbl [trpA (toX t l j), .int .i64 0])) := by
  have w := c32 hX t l hs hr j hj
  rwa [toR_0 he] at w
omit haw in
theorem c32n (t : Trf) (l : Log) (hs : Side (TOk t)) (hr : rnE t l = 0) (j : Nat) (hj : Side (j < (mcN t l l.ev.length).tr.length)) (he : toE t l j ≠ 0) : Pure (Xc W0 Gt) 32 [trfA t, lgA l, .int .i64 j] (.tup 2 (tbl [tzA, .int .i64 (toE t l j)])) := by
  have w := c32 hX t l hs hr j hj
  rwa [toR_e he] at w
omit haw in
theorem c33l (t : Trf) (l : Log) (hs : Side (TOk t)) (hr : rnE t l = 0) (j : Nat) (hj : Side (j < (mcN t l l.ev.length).tr.length)) (he : toE t l j = 0) : Pure (Xc W0 Gt) 33 [trfA t, trpA (toX t l j)] (.tup 2 (tbl [.agg 4 (tbl [.int .i64 ((mcN t l l.ev.length).tr.getD j mtp0).st, .int .i64 (drvQ t (toX t l j) (ptX t (toX t l j))), .int .i64 (exS t (toX t l j) (toX t l j).ex.length), .int .i64 ((mcN t l l.ev.length).tr.getD j mtp0).fa]), .int .i64 0])) := by
  have g := rn_gd hs.get hr
  have T := (mcN_iv g.1 g.2 l.ev.length (Nat.le_refl _)).1.tr j hj.get
  have z := to_zero he
  have el := (trf_ext g.1.trf).1
  have xl := T.exl
  have xo : XOk (toX t l j) := ⟨by show ((mcN t l l.ev.length).tr.getD j mtp0).ex.length ≤ 1000; omega, by show (sgL _ _ _).length ≤ 1000; rw [sgL_len]; omega⟩
  have L := to_law hs.get hr hj.get he
  have w := c33 hX t (toX t l j) (Side.mk ⟨hs.get, xo⟩) L.1
  unfold fareA at w
  rw [fareZ_0 L.2.1, fareZ_0 L.2.1, fareZ_0 L.2.1, fareZ_0 L.2.1, L.2.2.1, L.2.2.2, L.2.1] at w
  exact w
set_option maxHeartbeats 2000000 in
theorem c7e (t : Trf) (l : Log) (hr : rnE t l ≠ 0) : Pure (Xc W0 Gt) 7 [trfA t, lgA l] (.bool true) := by
  have hx : (rnE t l != 0) = false → False := fun q => hr (bne_eq_false_iff_eq.1 q)
  refine mut_of' hX (show FnIs (Xc W0 Gt) 7 Tryz.f7 (codeOf Tryz.f7) by refine ⟨?_, ?_, ?_, ?_⟩ <;> kernel_rfl) rfl ?_
  repeat' (first
    | ((with_reducible refine (?_ : Alt _ _)); first | (with_reducible apply callAlt (haw)) | (with_reducible apply callAlt (c13 hX t)) | (with_reducible apply callAlt (c18 hX t ?_)) | (with_reducible apply callAlt (c14 hX l)) | (with_reducible apply callAlt (c16 hX l ?_)) | (with_reducible apply callAlt (c15 hX _ _ _)) | (with_reducible apply callAlt (c24e hX t l ?_ hr)) | (with_reducible refine Alt.one ?_))
    | ((with_reducible refine Ar.go ?_); first | exact AllLe.refl _ | (repeat' (first | exact trivial | apply Le.aggs | apply Le.tups | apply Le.fns | exact Le.refl _ | refine ⟨?_, ?_⟩)))
    | with_reducible refine Ac.go ?_
    | ((with_reducible refine Rf.go ?_); rfl)
    | with_reducible refine nodupB_spec ?_
    | ((with_reducible refine Kf.go ?_); kernel_rfl)
    | ((with_reducible refine Lo.go ?_); repeat' first | exact trivial | refine ⟨.refl _, ?_⟩)
    | ((fail_if_success with_reducible refine Stop.go ?_); (first | exact (hx ‹_›).elim | with_reducible refine And.intro ?_ ?_ | with_reducible refine Cut.go ?_ | (with_reducible (refine impI ?_; intro _)) | ((with_reducible refine propI ?_); conv => whnf))))
  all_goals try (exact .of (Nat.le_of_ble_eq_true rfl))
  all_goals try (rename_i h; first | exact absurd h (by decide) | (cases h; done))
  all_goals try (exact .of (by decide))
  all_goals try (exact .mk [] [] _ rfl (.le (.refl _)) trivial rfl)
  all_goals have gg := two_g ‹(bif !fewB t then true else !briefB l) = false›
  all_goals have el := gg.2
  all_goals try (exact Side.mk gg.1)
  all_goals try (exact Side.mk (by omega))
  all_goals try (exact .of ⟨by omega, by omega⟩)

set_option maxHeartbeats 2000000 in
theorem c7k (t : Trf) (l : Log) (hr : rnE t l = 0) : Pure (Xc W0 Gt) 7 [trfA t, lgA l] (.bool true) := by
  have hx0 : ((0 : Int) != 0) = true → False := fun q => by cases q
  have hx1 : TOk t → decide ((l.ev.length : Int) < ((mcN t l l.ev.length).tr.length : Int)) = true → False := fun k q => by have q := of_decide_eq_true q; have := (mcN_ok (rn_gd k hr).1 l.ev.length (Nat.le_refl _)).tr; omega
  refine mut_of' hX (show FnIs (Xc W0 Gt) 7 Tryz.f7 (codeOf Tryz.f7) by refine ⟨?_, ?_, ?_, ?_⟩ <;> kernel_rfl) rfl ?_
  repeat' (first
    | ((with_reducible refine (?_ : Alt _ _)); first | (with_reducible apply callAlt (haw)) | (with_reducible apply callAlt (c13 hX t)) | (with_reducible apply callAlt (c18 hX t ?_)) | (with_reducible apply callAlt (c14 hX l)) | (with_reducible apply callAlt (c16 hX l ?_)) | (with_reducible apply callAlt (c15 hX _ _ _)) | (with_reducible apply callAlt (c24 hX t l ?_ hr)) | (with_reducible refine Alt.one ?_))
    | ((with_reducible refine Ar.go ?_); first | exact AllLe.refl _ | (repeat' (first | exact trivial | apply Le.aggs | apply Le.tups | apply Le.fns | exact Le.refl _ | refine ⟨?_, ?_⟩)))
    | with_reducible refine Ac.go ?_
    | ((with_reducible refine Rf.go ?_); rfl)
    | with_reducible refine nodupB_spec ?_
    | ((with_reducible refine Kf.go ?_); kernel_rfl)
    | ((with_reducible refine Lo.go ?_); repeat' first | exact trivial | refine ⟨.refl _, ?_⟩)
    | ((fail_if_success with_reducible refine Stop.go ?_); (first | exact (hx0 ‹_›).elim | exact (hx1 (two_g ‹(bif !fewB t then true else !briefB l) = false›).1 ‹_›).elim | with_reducible refine And.intro ?_ ?_ | with_reducible refine Cut.go ?_ | (with_reducible (refine impI ?_; intro _)) | ((with_reducible refine propI ?_); conv => whnf))))
  all_goals try (exact .of (Nat.le_of_ble_eq_true rfl))
  all_goals try (rename_i h; first | exact absurd h (by decide) | (cases h; done))
  all_goals try (exact .of (by decide))
  all_goals try (exact .mk [] [] _ rfl (.le (.refl _)) trivial rfl)
  all_goals have gg := two_g ‹(bif !fewB t then true else !briefB l) = false›
  all_goals have el := gg.2
  all_goals try (exact Side.mk gg.1)
  all_goals try (exact Side.mk (by omega))
  all_goals try (exact .of ⟨by omega, by omega⟩)
  have g := rn_gd gg.1 hr
  refine ⟨Nat, fun i => ([(2, .ptr 0 0), (3, .ptr 1 0), (5, mtpS (mcN t l l.ev.length).tr), (7, .int .i64 ((i : Nat)))], [.box (trfC t), .box (logC l (evS l.ev))]), fun i => i ≤ (mcN t l l.ev.length).tr.length, fun i => (mcN t l l.ev.length).tr.length - i, ⟨0, Nat.zero_le _, .le ⟨by kernel_rfl, ⟨.refl _, .refl _, trivial⟩, ⟨.refl _, .refl _, .refl _, .refl _, trivial⟩⟩⟩, fun i hi => ?_⟩
  replace hi : i ≤ (mcN t l l.ev.length).tr.length := hi
  have tlb := (mcN_ok g.1 l.ev.length (Nat.le_refl _)).tr
  by_cases he : toE t l i = 0
  · have hx2 : (bif (bif (0 : Int) != 0 then true else ((mcN t l l.ev.length).tr.getD (i : Int).toNat mtp0).fa != ((mcN t l l.ev.length).tr.getD (i : Int).toNat mtp0).fa) then true else ((mcN t l l.ev.length).tr.getD (i : Int).toNat mtp0).st != ((mcN t l l.ev.length).tr.getD (i : Int).toNat mtp0).st) = true → False := fun q => by simp at q
    repeat' (first
      | ((with_reducible refine (?_ : Alt _ _)); first | (with_reducible apply callAlt (c18 hX t ?_)) | (with_reducible apply callAlt (c16 hX l ?_)) | (with_reducible apply callAlt (c32z hX t l ?_ hr i ?_ he)) | (with_reducible apply callAlt (c33l hX t l ?_ hr i ?_ he)) | (with_reducible refine Alt.one ?_))
      | ((with_reducible refine Ar.go ?_); first | exact AllLe.refl _ | (repeat' (first | exact trivial | apply Le.aggs | apply Le.tups | apply Le.fns | exact Le.refl _ | refine ⟨?_, ?_⟩)))
      | with_reducible refine Ac.go ?_
      | ((with_reducible refine Rf.go ?_); rfl)
      | with_reducible refine nodupB_spec ?_
      | ((with_reducible refine Kf.go ?_); kernel_rfl)
      | ((with_reducible refine Lo.go ?_); repeat' first | exact trivial | refine ⟨.refl _, ?_⟩)
      | ((fail_if_success with_reducible refine Stop.go ?_); (first | exact (hx0 ‹_›).elim | with_reducible refine And.intro ?_ ?_ | with_reducible refine Cut.go ?_ | (with_reducible (refine impI ?_; intro _)) | ((with_reducible refine propI ?_); conv => whnf))))
    all_goals try (exact .of (Nat.le_of_ble_eq_true rfl))
    all_goals try (exact Side.mk gg.1)
    all_goals try (exact Side.mk (by omega))
    all_goals try (exact .mk [] [] _ rfl (.le (.refl _)) trivial rfl)
    all_goals (have lt : i < (mcN t l l.ev.length).tr.length := (by have q := of_decide_eq_true ‹decide ((i : Int) < ((mcN t l l.ev.length).tr.length : Int)) = true›; omega))
    all_goals try (exact Side.mk lt)
    all_goals try (exact .of ⟨by omega, by omega⟩)
    all_goals try (exact .of (by omega))
    all_goals try (exact Sc.imp fun _ => ⟨by omega, by omega⟩)
    all_goals try (refine Sc.imp fun _ => ?_; rw [Int.toNat_natCast]; exact ⟨by omega, by omega⟩)
    all_goals try (exact ⟨i + 1, by show i + 1 ≤ _; omega, by show (mcN t l l.ev.length).tr.length - (i + 1) < (mcN t l l.ev.length).tr.length - i; omega, .le ⟨by kernel_rfl, ⟨.refl _, .refl _, trivial⟩, ⟨.refl _, .refl _, .refl _, .intI (by omega), trivial⟩⟩⟩)
    all_goals (exfalso; rename_i q; rw [Int.toNat_natCast] at q; simp at q)
  · have hxe : (toE t l i != 0) = false → False := fun q => he (bne_eq_false_iff_eq.1 q)
    repeat' (first
      | ((with_reducible refine (?_ : Alt _ _)); first | (with_reducible apply callAlt (c18 hX t ?_)) | (with_reducible apply callAlt (c16 hX l ?_)) | (with_reducible apply callAlt (c32n hX t l ?_ hr i ?_ he)) | (with_reducible refine Alt.one ?_))
      | ((with_reducible refine Ar.go ?_); first | exact AllLe.refl _ | (repeat' (first | exact trivial | apply Le.aggs | apply Le.tups | apply Le.fns | exact Le.refl _ | refine ⟨?_, ?_⟩)))
      | with_reducible refine Ac.go ?_
      | ((with_reducible refine Rf.go ?_); rfl)
      | with_reducible refine nodupB_spec ?_
      | ((with_reducible refine Kf.go ?_); kernel_rfl)
      | ((with_reducible refine Lo.go ?_); repeat' first | exact trivial | refine ⟨.refl _, ?_⟩)
      | ((fail_if_success with_reducible refine Stop.go ?_); (first | exact (hxe ‹_›).elim | with_reducible refine And.intro ?_ ?_ | with_reducible refine Cut.go ?_ | (with_reducible (refine impI ?_; intro _)) | ((with_reducible refine propI ?_); conv => whnf))))
    all_goals try (exact .of (Nat.le_of_ble_eq_true rfl))
    all_goals try (exact Side.mk gg.1)
    all_goals try (exact Side.mk (by omega))
    all_goals try (exact .mk [] [] _ rfl (.le (.refl _)) trivial rfl)
    all_goals (have lt : i < (mcN t l l.ev.length).tr.length := (by have q := of_decide_eq_true ‹decide ((i : Int) < ((mcN t l l.ev.length).tr.length : Int)) = true›; omega))
    all_goals try (exact Side.mk lt)
    all_goals try (exact .of ⟨by omega, by omega⟩)
    all_goals try (exact .of (by omega))
    all_goals try (exact Sc.imp fun _ => ⟨by omega, by omega⟩)
    all_goals try (refine Sc.imp fun _ => ?_; rw [Int.toNat_natCast]; exact ⟨by omega, by omega⟩)
    all_goals try (exact ⟨i + 1, by show i + 1 ≤ _; omega, by show (mcN t l l.ev.length).tr.length - (i + 1) < (mcN t l l.ev.length).tr.length - i; omega, .le ⟨by kernel_rfl, ⟨.refl _, .refl _, trivial⟩, ⟨.refl _, .refl _, .refl _, .intI (by omega), trivial⟩⟩⟩)

theorem c7 (t : Trf) (l : Log) : Pure (Xc W0 Gt) 7 [trfA t, lgA l] (.bool true) := by
  by_cases hr : rnE t l = 0
  · exact c7k hX haw t l hr
  · exact c7e hX haw t l hr
end
end Go.Fx
