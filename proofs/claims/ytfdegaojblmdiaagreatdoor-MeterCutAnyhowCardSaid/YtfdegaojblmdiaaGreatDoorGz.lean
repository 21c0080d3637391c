/-
  The body of MeterCutAnyhow.
-/
import Derived.Test.YtfdegaojblmdiaaGreatDoorGx
import Derived.Test.YtfdegaojblmdiaaGreatDoorGu
import Derived.Test.YtfdegaojblmdiaaGreatDoorGj

set_option linter.all false

/-
  The body of MeterCutAnyhow.
-/
namespace Go.Fx
open Go.Proofs Go.RowKit
theorem cut_g {t : Trf} {l : Log} (h : (bif !fewB t then true else !briefB l) = false) : TOk t ∧ l.ev.length ≤ 202 := by
  cases hf : fewB t
  · rw [hf] at h; cases h
  cases hx : briefB l
  · rw [hf, hx] at h; cases h
  · exact ⟨(few_ok hf).1, brief_len hx⟩
theorem rn_al0 {t : Trf} {l : Log} (h : rnE t l = 0) : aloneE l = 0 := Decidable.byContradiction fun q => by
  by_cases a : trfE t = 0
  · exact q ((rn_al a q).1.symm.trans h)
  · exact a ((rn_trf (l := l) a).1.symm.trans h)
structure Says (t : Trf) (l z : Log) : Prop where
  rn : rnE t z = 0
  sta : staC t z (mcN t z z.ev.length) = staC t l (mcN t l l.ev.length)
  tkE : tkgE t z = tkgE t l
  tkN : tkgN t z = tkgN t l
  len : z.ev.length ≤ 1000
theorem says_mg {t : Trf} {l : Log} (hk : TOk t) (h : rnE t l = 0) : Says t l (mgR l) := by
  obtain ⟨g, _⟩ := rn_gd hk h
  have e : mgR l = mgA l := by unfold mgR; rw [g.al]; rfl
  have w := mg_law hk h
  rw [e]
  refine ⟨w.1, w.2.1, w.2.2.1, w.2.2.2, ?_⟩
  have a := (gd_head g.al).2.2.2.1
  have b := mg_len l.ev l.ev.length
  show (mgN l.ev l.ev.length).length ≤ 1000
  omega
theorem says_sp {t : Trf} {l : Log} {a b : Int} (hk : TOk t) (h : rnE t l = 0) (hs : spE l a b = 0) : Says t l (spR l a b) := by
  have h1 : spA l a = 0 := Decidable.byContradiction fun q => by rw [(sp_a (p := b) q).1] at hs; exact q hs
  have w := spA_0 h1
  obtain ⟨k, rfl⟩ : ∃ k : Nat, a = k := ⟨a.toNat, by omega⟩
  have h2 : spB l k b = 0 := Decidable.byContradiction fun q => by rw [(sp_b h1 q).1] at hs; exact q hs
  have v := spB_0 h2
  have s := sp_law hk h (show k < l.ev.length by omega) v.1 v.2.1 v.2.2.1 v.2.2.2
  rw [(sp_c h1 h2).2]
  exact ⟨s.1, s.2.1, s.2.2.1, s.2.2.2, by rw [(sp_at (by omega)).1]; omega⟩
theorem says_id {t : Trf} {l : Log} (h : rnE t l = 0) (hl : l.ev.length ≤ 202) : Says t l l := ⟨h, rfl, rfl, rfl, by omega⟩
section
variable {W0 : World} (hX : (Xc W0 Gt).Good) (haw : Pure (Xc W0 Gt) 12 [] (.bool true))
include hX haw
omit haw in
theorem c17s (t : Trf) (l z : Log) (hs : Side (TOk t)) (S : Side (Says t l z)) : Pure (Xc W0 Gt) 17 [trfA t, lgA z, .int .i64 z.ev.length] (.tup 2 (tbl [staA t l (mcN t l l.ev.length), .int .i64 0])) := by
  have w := c17 hX t z hs z.ev.length S.get.rn (inB_iff.2 (by omega))
  rw [Int.toNat_natCast] at w
  unfold staA at w ⊢
  rw [S.get.sta] at w
  exact w
omit haw in
theorem c36s (t : Trf) (l z : Log) (hs : Side (TOk t)) (S : Side (Says t l z)) : Pure (Xc W0 Gt) 36 [trfA t, lgA z] (.tup 2 (tbl [.int .i64 (tkgN t l), .int .i64 (tkgE t l)])) := by
  have w := c36 hX t z hs
  rw [S.get.tkE, S.get.tkN] at w
  exact w
set_option maxHeartbeats 1000000 in
theorem c9e (t : Trf) (l : Log) (x y : Int) (hr : rnE t l ≠ 0) : Pure (Xc W0 Gt) 9 [trfA t, lgA l, .agg 2 (tbl [.int .i64 x, .int .i64 y])] (.bool true) := by
  have hx : (soE t l (l.ev.length : Int) != 0) = false → False := fun q => by rw [so_e hr] at q; exact hr (bne_eq_false_iff_eq.1 q)
  refine mut_of' hX (show FnIs (Xc W0 Gt) 9 Tryz.f9 (codeOf Tryz.f9) from ⟨by kernel_rfl, by kernel_rfl, by kernel_rfl, by kernel_rfl⟩) rfl ?_
  repeat' (first
    | ((with_reducible refine (?_ : Alt _ _)); first | (with_reducible apply callAlt (haw)) | (with_reducible apply callAlt (c13 hX t)) | (with_reducible apply callAlt (c18 hX t ?_)) | (with_reducible apply callAlt (c14 hX l)) | ((with_reducible apply callAlt (c16 hX l ?_)); case hl => (first | exact AllLe.refl _ | ((repeat' (first | exact trivial | apply Le.aggs | apply Le.tups | apply Le.fns | exact Le.refl _ | refine ⟨?_, ?_⟩)); done))) | ((with_reducible apply callAlt (c17e hX t l ?_ _ hr)); case hl => (first | exact AllLe.refl _ | ((repeat' (first | exact trivial | apply Le.aggs | apply Le.tups | apply Le.fns | exact Le.refl _ | refine ⟨?_, ?_⟩)); done))) | (with_reducible apply callAlt (c35 hX 0 0 0 0 0 0 [] 0 ?_)) | (with_reducible refine Alt.one ?_))
    | ((with_reducible refine (?_ : AllLe _ _)); first | exact ⟨.refl _, .aggs ⟨⟨⟨⟨⟨⟨⟨⟨trivial, .refl _⟩, .refl _⟩, .refl _⟩, .refl _⟩, .refl _⟩, .refl _⟩, .slc0 _ _⟩, .refl _⟩, trivial⟩ | (first | exact AllLe.refl _ | (repeat' (first | exact trivial | apply Le.aggs | apply Le.tups | apply Le.fns | exact Le.refl _ | refine ⟨?_, ?_⟩))))
    | ((with_reducible refine (?_ : Sc _ (AllRen _ _ _))); refine Sc.of ?_; first | (repeat' (first | exact trivial | apply Le.aggs | apply Le.tups | apply Le.fns | exact Le.refl _ | refine ⟨?_, ?_⟩)))
    | ((with_reducible refine (?_ : (List.all _ _) = true)); rfl)
    | ((with_reducible refine (?_ : (and _ _) = true)); rfl)
    | ((with_reducible refine (?_ : List.Nodup _)); exact nodupB_spec rfl)
    | ((with_reducible refine (?_ : @Eq Nat _ _)); rfl)
    | ((with_reducible refine (?_ : @Eq (List (Option HObj)) _ _)); kernel_rfl)
    | ((with_reducible refine (?_ : LeOks _ _ _)); first | exact trivial | exact ⟨.refl _, trivial⟩ | exact ⟨.refl _, .refl _, trivial⟩)
    | ((fail_if_success with_reducible refine Stop.go ?_); (first | exact (hx ‹_›).elim | with_reducible refine And.intro ?_ ?_ | with_reducible refine Cut.go ?_ | (with_reducible (refine impI ?_; intro _)) | (with_reducible refine (?_ : footOK _ _ = true); kernel_rfl) | ((with_reducible refine propI ?_); conv => whnf))))
  all_goals try (exact .of (Nat.le_of_ble_eq_true rfl))
  all_goals try (rename_i h; first | exact absurd h (by decide) | (cases h; done))
  all_goals try (exact .of (by decide))
  all_goals try (exact .mk [] [] _ rfl (.le (.refl _)) trivial rfl)
  all_goals have gg := cut_g ‹(bif !fewB t then true else !briefB l) = false›
  all_goals have el := gg.2
  all_goals try (exact Side.mk gg.1)
  all_goals try (exact Side.mk (by omega))
  all_goals try (exact .of ⟨by omega, by omega⟩)
  all_goals try (exact Le.slc0 _ _)
  all_goals try (exact Side.mk (by simp))

set_option maxHeartbeats 1000000 in
theorem c9k (t : Trf) (l : Log) (x y : Int) (hr : rnE t l = 0) : Pure (Xc W0 Gt) 9 [trfA t, lgA l, .agg 2 (tbl [.int .i64 x, .int .i64 y])] (.bool true) := by
  have hx0 : ((0 : Int) != 0) = true → False := fun q => by cases q
  have hx1 : (aloneE l != 0) = true → False := fun q => by rw [(rn_al0 hr)] at q; cases q
  have hx9 : ∀ a b : Int, (bif (bif (bif (0 : Int) != 0 then true else !true) then true else a != a) then true else b != b) = true → False := fun a b q => by simp at q
  refine mut_of' hX (show FnIs (Xc W0 Gt) 9 Tryz.f9 (codeOf Tryz.f9) from ⟨by kernel_rfl, by kernel_rfl, by kernel_rfl, by kernel_rfl⟩) rfl ?_
  repeat' (first
    | ((with_reducible refine (?_ : Alt _ _)); first | (with_reducible apply callAlt (haw)) | (with_reducible apply callAlt (c13 hX t)) | (with_reducible apply callAlt (c18 hX t ?_)) | (with_reducible apply callAlt (c14 hX l)) | ((with_reducible apply callAlt (c16 hX l ?_)); case hl => (first | exact AllLe.refl _ | ((repeat' (first | exact trivial | apply Le.aggs | apply Le.tups | apply Le.fns | exact Le.refl _ | refine ⟨?_, ?_⟩)); done))) | ((with_reducible apply callAlt (c17s hX t l l ?_ ?_)); case hl => (first | exact AllLe.refl _ | ((repeat' (first | exact trivial | apply Le.aggs | apply Le.tups | apply Le.fns | exact Le.refl _ | refine ⟨?_, ?_⟩)); done))) | ((with_reducible apply callAlt (c36 hX t l ?_)); case hl => (first | exact AllLe.refl _ | ((repeat' (first | exact trivial | apply Le.aggs | apply Le.tups | apply Le.fns | exact Le.refl _ | refine ⟨?_, ?_⟩)); done))) | ((with_reducible apply callAlt (c28 hX l ?_)); case hl => (first | exact AllLe.refl _ | ((repeat' (first | exact trivial | apply Le.aggs | apply Le.tups | apply Le.fns | exact Le.refl _ | refine ⟨?_, ?_⟩)); done))) | ((with_reducible apply callAlt (c27 hX l x y ?_)); case hl => (first | exact AllLe.refl _ | ((repeat' (first | exact trivial | apply Le.aggs | apply Le.tups | apply Le.fns | exact Le.refl _ | refine ⟨?_, ?_⟩)); done))) | (with_reducible refine Alt.one ?_))
    | ((with_reducible refine (?_ : AllLe _ _)); first | (first | exact AllLe.refl _ | (repeat' (first | exact trivial | apply Le.aggs | apply Le.tups | apply Le.fns | exact Le.refl _ | refine ⟨?_, ?_⟩))))
    | ((with_reducible refine (?_ : Sc _ (AllRen _ _ _))); refine Sc.of ?_; first | (repeat' (first | exact trivial | apply Le.aggs | apply Le.tups | apply Le.fns | exact Le.refl _ | refine ⟨?_, ?_⟩)))
    | ((with_reducible refine (?_ : (List.all _ _) = true)); rfl)
    | ((with_reducible refine (?_ : (and _ _) = true)); rfl)
    | ((with_reducible refine (?_ : List.Nodup _)); exact nodupB_spec rfl)
    | ((with_reducible refine (?_ : @Eq Nat _ _)); rfl)
    | ((with_reducible refine (?_ : @Eq (List (Option HObj)) _ _)); kernel_rfl)
    | ((with_reducible refine (?_ : LeOks _ _ _)); first | exact trivial | exact ⟨.refl _, trivial⟩ | exact ⟨.refl _, .refl _, trivial⟩)
    | ((fail_if_success with_reducible refine Stop.go ?_); (first | exact (hx0 ‹_›).elim | exact (hx1 ‹_›).elim | with_reducible refine And.intro ?_ ?_ | with_reducible refine Cut.go ?_ | (with_reducible (refine impI ?_; intro _)) | (with_reducible refine (?_ : footOK _ _ = true); kernel_rfl) | ((with_reducible refine propI ?_); conv => whnf))))
  all_goals try (exact .of (Nat.le_of_ble_eq_true rfl))
  all_goals try (rename_i h; first | exact absurd h (by decide) | (cases h; done))
  all_goals try (exact .of (by decide))
  all_goals try (exact .mk [] [] _ rfl (.le (.refl _)) trivial rfl)
  all_goals have gg := cut_g ‹(bif !fewB t then true else !briefB l) = false›
  all_goals have el := gg.2
  all_goals try (exact Side.mk gg.1)
  all_goals try (exact Side.mk (by omega))
  all_goals try (exact .of ⟨by omega, by omega⟩)
  all_goals try (exact Side.mk (says_id hr el))
  all_goals have xl : (mcN t l l.ev.length).ex.length ≤ 1000 := (by
    have g := (rn_gd gg.1 hr).1
    have hm := mcN_hm g (Nat.le_refl l.ev.length)
    have te := (trf_ext g.trf).1
    by_cases z : (mcN t l l.ev.length).ps = 0
    · rw [hm.m.ex0 z]; decide
    · rw [hm.m.exl z]; omega)
  · rename_i q
    have SM := says_mg gg.1 hr
    have SZ : Says t l l := says_id hr el
    have lm := SM.len
    have lz := SZ.len
    refine ⟨Nat, fun i => ([(3, .ptr 0 0), (7, .ptr 1 0), (9, .int .i64 (tkgN t l)), (10, .int .i64 (tkgE t l)), (11, .ptr 2 0), (13, .ptr 3 0), (15, .int .i64 (i : Int))], [.box (trfC t), .box (staC t l (mcN t l l.ev.length)), .box (logC (mgR l) (evS (mgR l).ev)), .box (logC l (evS l.ev))]), fun i => i ≤ 2, fun i => 2 - i, ⟨0, Nat.zero_le _, .fr [0, 3, 4, 5] [] (by kernel_rfl) ⟨.le (.refl _), .le (.refl _), .le (.refl _), .le (.refl _), trivial⟩ ⟨.le (.refl _), .le (.refl _), .le (.refl _), .le (.refl _), .le (.refl _), .le (.refl _), .le (.refl _), trivial⟩⟩, fun i hi => ?_⟩
    replace hi : i ≤ 2 := hi
    repeat' (first
      | ((with_reducible refine (?_ : Alt _ _)); first | (with_reducible apply callAlt (c18 hX t ?_)) | ((with_reducible apply callAlt (c16 hX (mgR l) ?_)); case hl => (first | exact AllLe.refl _ | ((repeat' (first | exact trivial | apply Le.aggs | apply Le.tups | apply Le.fns | exact Le.refl _ | refine ⟨?_, ?_⟩)); done))) | ((with_reducible apply callAlt (c16 hX l ?_)); case hl => (first | exact AllLe.refl _ | ((repeat' (first | exact trivial | apply Le.aggs | apply Le.tups | apply Le.fns | exact Le.refl _ | refine ⟨?_, ?_⟩)); done))) | ((with_reducible apply callAlt (c17s hX t l (mgR l) ?_ ?_)); case hl => (first | exact AllLe.refl _ | ((repeat' (first | exact trivial | apply Le.aggs | apply Le.tups | apply Le.fns | exact Le.refl _ | refine ⟨?_, ?_⟩)); done))) | ((with_reducible apply callAlt (c17s hX t l l ?_ ?_)); case hl => (first | exact AllLe.refl _ | ((repeat' (first | exact trivial | apply Le.aggs | apply Le.tups | apply Le.fns | exact Le.refl _ | refine ⟨?_, ?_⟩)); done))) | ((with_reducible apply callAlt (c36s hX t l (mgR l) ?_ ?_)); case hl => (first | exact AllLe.refl _ | ((repeat' (first | exact trivial | apply Le.aggs | apply Le.tups | apply Le.fns | exact Le.refl _ | refine ⟨?_, ?_⟩)); done))) | ((with_reducible apply callAlt (c36s hX t l l ?_ ?_)); case hl => (first | exact AllLe.refl _ | ((repeat' (first | exact trivial | apply Le.aggs | apply Le.tups | apply Le.fns | exact Le.refl _ | refine ⟨?_, ?_⟩)); done))) | ((with_reducible apply callAlt (c35 hX (mcN t l l.ev.length).tk (mcN t l l.ev.length).pu (mcN t l l.ev.length).ps (mcN t l l.ev.length).zn (mcN t l l.ev.length).si (stpZ t l (mcN t l l.ev.length)) (mcN t l l.ev.length).ex (mFare t l (mcN t l l.ev.length)) ?_)); case hl => (first | exact AllLe.refl _ | ((repeat' (first | exact trivial | apply Le.aggs | apply Le.tups | apply Le.fns | exact Le.refl _ | refine ⟨?_, ?_⟩)); done))) | (with_reducible refine Alt.one ?_))
      | ((with_reducible refine (?_ : AllLe _ _)); first | (first | exact AllLe.refl _ | (repeat' (first | exact trivial | apply Le.aggs | apply Le.tups | apply Le.fns | exact Le.refl _ | refine ⟨?_, ?_⟩))))
      | ((with_reducible refine (?_ : Sc _ (AllRen _ _ _))); refine Sc.of ?_; first | (repeat' (first | exact trivial | apply Le.aggs | apply Le.tups | apply Le.fns | exact Le.refl _ | refine ⟨?_, ?_⟩)))
      | ((with_reducible refine (?_ : (List.all _ _) = true)); rfl)
      | ((with_reducible refine (?_ : (and _ _) = true)); rfl)
      | ((with_reducible refine (?_ : List.Nodup _)); exact nodupB_spec rfl)
      | ((with_reducible refine (?_ : @Eq Nat _ _)); rfl)
      | ((with_reducible refine (?_ : @Eq (List (Option HObj)) _ _)); kernel_rfl)
      | ((with_reducible refine (?_ : LeOks _ _ _)); first | exact trivial | exact ⟨.refl _, trivial⟩ | exact ⟨.refl _, .refl _, trivial⟩)
      | ((fail_if_success with_reducible refine Stop.go ?_); (first | exact (hx9 _ _ ‹_›).elim | with_reducible refine And.intro ?_ ?_ | with_reducible refine Cut.go ?_ | (with_reducible (refine impI ?_; intro _)) | (with_reducible refine (?_ : footOK _ _ = true); kernel_rfl) | ((with_reducible refine propI ?_); conv => whnf))))
    all_goals try (exact .of (Nat.le_of_ble_eq_true rfl))
    all_goals try (exact .of (by decide))
    all_goals try (exact .mk [] [] _ rfl (.le (.refl _)) trivial rfl)
    all_goals try (exact Side.mk gg.1)
    all_goals try (exact Side.mk SM)
    all_goals try (exact Side.mk SZ)
    all_goals try (exact Side.mk (by omega))
    all_goals try (exact .of ⟨by omega, by omega⟩)
    all_goals try (exact Side.mk xl)
    all_goals try (refine ⟨i + 1, ?_, ?_, .le ⟨by kernel_rfl, ⟨.refl _, .refl _, .refl _, .refl _, trivial⟩, ⟨.refl _, .refl _, .refl _, .refl _, .refl _, .refl _, .intI (by omega), trivial⟩⟩⟩ <;> (have q := of_decide_eq_true ‹decide ((i : Int) < 2) = true›); (show i + 1 ≤ 2; omega); (show 2 - (i + 1) < 2 - i; omega))


  · rename_i q
    have SM := says_mg gg.1 hr
    have SZ : Says t l (spR l x y) := says_sp gg.1 hr (bne_eq_false_iff_eq.1 q)
    have lm := SM.len
    have lz := SZ.len
    refine ⟨Nat, fun i => ([(3, .ptr 0 0), (7, .ptr 1 0), (9, .int .i64 (tkgN t l)), (10, .int .i64 (tkgE t l)), (11, .ptr 2 0), (13, .ptr 3 0), (15, .int .i64 (i : Int))], [.box (trfC t), .box (staC t l (mcN t l l.ev.length)), .box (logC (mgR l) (evS (mgR l).ev)), .box (logC (spR l x y) (evS (spR l x y).ev))]), fun i => i ≤ 2, fun i => 2 - i, ⟨0, Nat.zero_le _, .fr [0, 3, 4, 5] [] (by kernel_rfl) ⟨.le (.refl _), .le (.refl _), .le (.refl _), .le (.refl _), trivial⟩ ⟨.le (.refl _), .le (.refl _), .le (.refl _), .le (.refl _), .le (.refl _), .le (.refl _), .le (.refl _), trivial⟩⟩, fun i hi => ?_⟩
    replace hi : i ≤ 2 := hi
    repeat' (first
      | ((with_reducible refine (?_ : Alt _ _)); first | (with_reducible apply callAlt (c18 hX t ?_)) | ((with_reducible apply callAlt (c16 hX (mgR l) ?_)); case hl => (first | exact AllLe.refl _ | ((repeat' (first | exact trivial | apply Le.aggs | apply Le.tups | apply Le.fns | exact Le.refl _ | refine ⟨?_, ?_⟩)); done))) | ((with_reducible apply callAlt (c16 hX (spR l x y) ?_)); case hl => (first | exact AllLe.refl _ | ((repeat' (first | exact trivial | apply Le.aggs | apply Le.tups | apply Le.fns | exact Le.refl _ | refine ⟨?_, ?_⟩)); done))) | ((with_reducible apply callAlt (c17s hX t l (mgR l) ?_ ?_)); case hl => (first | exact AllLe.refl _ | ((repeat' (first | exact trivial | apply Le.aggs | apply Le.tups | apply Le.fns | exact Le.refl _ | refine ⟨?_, ?_⟩)); done))) | ((with_reducible apply callAlt (c17s hX t l (spR l x y) ?_ ?_)); case hl => (first | exact AllLe.refl _ | ((repeat' (first | exact trivial | apply Le.aggs | apply Le.tups | apply Le.fns | exact Le.refl _ | refine ⟨?_, ?_⟩)); done))) | ((with_reducible apply callAlt (c36s hX t l (mgR l) ?_ ?_)); case hl => (first | exact AllLe.refl _ | ((repeat' (first | exact trivial | apply Le.aggs | apply Le.tups | apply Le.fns | exact Le.refl _ | refine ⟨?_, ?_⟩)); done))) | ((with_reducible apply callAlt (c36s hX t l (spR l x y) ?_ ?_)); case hl => (first | exact AllLe.refl _ | ((repeat' (first | exact trivial | apply Le.aggs | apply Le.tups | apply Le.fns | exact Le.refl _ | refine ⟨?_, ?_⟩)); done))) | ((with_reducible apply callAlt (c35 hX (mcN t l l.ev.length).tk (mcN t l l.ev.length).pu (mcN t l l.ev.length).ps (mcN t l l.ev.length).zn (mcN t l l.ev.length).si (stpZ t l (mcN t l l.ev.length)) (mcN t l l.ev.length).ex (mFare t l (mcN t l l.ev.length)) ?_)); case hl => (first | exact AllLe.refl _ | ((repeat' (first | exact trivial | apply Le.aggs | apply Le.tups | apply Le.fns | exact Le.refl _ | refine ⟨?_, ?_⟩)); done))) | (with_reducible refine Alt.one ?_))
      | ((with_reducible refine (?_ : AllLe _ _)); first | (first | exact AllLe.refl _ | (repeat' (first | exact trivial | apply Le.aggs | apply Le.tups | apply Le.fns | exact Le.refl _ | refine ⟨?_, ?_⟩))))
      | ((with_reducible refine (?_ : Sc _ (AllRen _ _ _))); refine Sc.of ?_; first | (repeat' (first | exact trivial | apply Le.aggs | apply Le.tups | apply Le.fns | exact Le.refl _ | refine ⟨?_, ?_⟩)))
      | ((with_reducible refine (?_ : (List.all _ _) = true)); rfl)
      | ((with_reducible refine (?_ : (and _ _) = true)); rfl)
      | ((with_reducible refine (?_ : List.Nodup _)); exact nodupB_spec rfl)
      | ((with_reducible refine (?_ : @Eq Nat _ _)); rfl)
      | ((with_reducible refine (?_ : @Eq (List (Option HObj)) _ _)); kernel_rfl)
      | ((with_reducible refine (?_ : LeOks _ _ _)); first | exact trivial | exact ⟨.refl _, trivial⟩ | exact ⟨.refl _, .refl _, trivial⟩)
      | ((fail_if_success with_reducible refine Stop.go ?_); (first | exact (hx9 _ _ ‹_›).elim | with_reducible refine And.intro ?_ ?_ | with_reducible refine Cut.go ?_ | (with_reducible (refine impI ?_; intro _)) | (with_reducible refine (?_ : footOK _ _ = true); kernel_rfl) | ((with_reducible refine propI ?_); conv => whnf))))
    all_goals try (exact .of (Nat.le_of_ble_eq_true rfl))
    all_goals try (exact .of (by decide))
    all_goals try (exact .mk [] [] _ rfl (.le (.refl _)) trivial rfl)
    all_goals try (exact Side.mk gg.1)
    all_goals try (exact Side.mk SM)
    all_goals try (exact Side.mk SZ)
    all_goals try (exact Side.mk (by omega))
    all_goals try (exact .of ⟨by omega, by omega⟩)
    all_goals try (exact Side.mk xl)
    all_goals try (refine ⟨i + 1, ?_, ?_, .le ⟨by kernel_rfl, ⟨.refl _, .refl _, .refl _, .refl _, trivial⟩, ⟨.refl _, .refl _, .refl _, .refl _, .refl _, .refl _, .intI (by omega), trivial⟩⟩⟩ <;> (have q := of_decide_eq_true ‹decide ((i : Int) < 2) = true›); (show i + 1 ≤ 2; omega); (show 2 - (i + 1) < 2 - i; omega))



theorem c9 (t : Trf) (l : Log) (x y : Int) : Pure (Xc W0 Gt) 9 [trfA t, lgA l, .agg 2 (tbl [.int .i64 x, .int .i64 y])] (.bool true) := by
  by_cases hr : rnE t l = 0
  · exact c9k hX haw t l x y hr
  · exact c9e hX haw t l x y hr
end
end Go.Fx
