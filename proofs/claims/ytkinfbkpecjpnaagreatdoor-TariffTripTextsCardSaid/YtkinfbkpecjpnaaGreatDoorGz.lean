/-
  The specification's texts of trips.
-/
import Derived.Test.YtkinfbkpecjpnaaGreatDoorGy

set_option linter.all false

/-
  The specification's texts of trips.
-/
namespace Go.Fx
open Go.Proofs Go.RowKit

structure InL (l : List Int) : Prop where
  len : l.length ≤ 100
  i : ∀ j, j < l.length → inK .i64 (l.getD j 0)
def joinI (l : List Int) (sep : Tx) : Tx := Lib.join (l.map Lib.itoa) sep
theorem join_snoc {ws : List Tx} {w sep : Tx} (h : ws ≠ []) : Lib.join (ws ++ [w]) sep = Lib.join ws sep ++ sep ++ w := by
  cases ws with
  | nil => exact absurd rfl h
  | cons x r => rw [List.cons_append, Lib.join_cons, Lib.join_cons]; simp [Lib.joinTail]
theorem take_snoc {l : List Int} {i : Nat} (h : i < l.length) : l.take (i + 1) = l.take i ++ [l.getD i 0] := by
  rw [List.take_add_one, List.getElem?_eq_getElem h]; simp [List.getD_eq_getElem?_getD, h]
theorem joinI_0 {l : List Int} {sep : Tx} (h : 0 < l.length) : joinI (l.take 1) sep = Lib.itoa (l.getD 0 0) := by
  unfold joinI; rw [take_snoc h]; simp [Lib.join_one]
theorem joinI_s {l : List Int} {sep : Tx} {i : Nat} (h : i < l.length) (h0 : 0 < i) : joinI (l.take (i + 1)) sep = joinI (l.take i) sep ++ sep ++ Lib.itoa (l.getD i 0) := by
  unfold joinI; rw [take_snoc h, List.map_append]; exact join_snoc (by intro h; rw [List.map_eq_nil_iff, List.take_eq_nil_iff] at h; rcases h with h | h <;> first | omega | (subst h; simp at *))
theorem itoa_le {n : Int} (h : inK .i64 n) : (Lib.itoa n).length ≤ 21 := by
  have h1 : -9223372036854775808 ≤ n := h.1
  have h2 : n ≤ 9223372036854775807 := h.2
  have key : ∀ u : Nat, u < 18446744073709551616 → (Lib.decDigits u).length ≤ 20 := fun u hu => by
    have a := decT_len 20 u (by omega)
    unfold decT at a
    by_cases h0 : u = 0
    · subst h0; rw [decD_small (by decide)]; simp
    · rwa [if_neg h0] at a
  by_cases hn : n < 0
  · rw [itoa_neg hn]; have := key n.natAbs (by omega); simp; omega
  · rw [itoa_pos hn]; have := key n.toNat (by omega); omega

structure XIn (x : Trp) : Prop where
  d : inK .i64 x.m.d
  s : inK .i64 x.m.s
  ex : InL x.ex
  len : x.sg.length ≤ 100
  sg : ∀ j, j < x.sg.length → inK .i64 (x.sg.getD j seg0).z ∧ inK .i64 (x.sg.getD j seg0).me ∧ inK .i64 (x.sg.getD j seg0).se
theorem seg3 {s : Seg} (h : inK .i64 s.z ∧ inK .i64 s.me ∧ inK .i64 s.se) : InL [s.z, s.me, s.se] ∧ ([44] : Tx).length ≤ 1 :=
  ⟨⟨by simp, fun j hj => by
    have hj : j < 3 := hj
    rcases (show j = 0 ∨ j = 1 ∨ j = 2 by omega) with rfl | rfl | rfl
    · exact h.1
    · exact h.2.1
    · exact h.2.2⟩, Nat.le_refl _⟩
theorem bsz (a : Array UInt8) : (⟨a⟩ : ByteArray).size = a.size := rfl
def headT (x : Trp) : Tx := Lib.join (headW x) [32]
def kindW (x : Trp) : Tx := if x.fx then fixW else metW
theorem headT_eq (x : Trp) : headT x = Lib.itoa x.m.d ++ [32] ++ Lib.itoa x.m.s ++ (32 :: kindW x ++ [32]) ++ exW x.ex := by
  unfold headT headW
  rw [Lib.join_cons]
  simp [Lib.joinTail, kindW]
theorem joinI_len {l : List Int} (h : InL l) : ∀ i, i ≤ l.length → (joinI (l.take i) [44]).length ≤ 22 * i
  | 0, _ => by simp [joinI, Lib.join_nil]
  | i + 1, hi => by
    have ih := joinI_len h i (by omega)
    have k := itoa_le (h.i i (by omega))
    by_cases h0 : 0 < i
    · rw [joinI_s (by omega) h0]; simp only [List.length_append, List.length_cons, List.length_nil]; omega
    · obtain rfl : i = 0 := by omega
      rw [joinI_0 (by omega)]; omega
theorem exW_len {l : List Int} (h : InL l) : (exW l).length ≤ 2200 := by
  unfold exW
  split
  · simp
  · have a := joinI_len h l.length (Nat.le_refl _)
    have b := h.len
    rw [List.take_length] at a
    unfold joinI at a
    omega
theorem headT_len {x : Trp} (h : XIn x) : (headT x).length ≤ 3000 := by
  have a := itoa_le h.d; have b := itoa_le h.s; have c := exW_len h.ex
  have d : (kindW x).length = 5 := by unfold kindW; split <;> rfl
  rw [headT_eq]; simp only [List.length_append, List.length_cons, List.length_nil]; omega
theorem segW_len {s : Seg} (h : inK .i64 s.z ∧ inK .i64 s.me ∧ inK .i64 s.se) : (segW s).length ≤ 66 := by
  have a := joinI_len (seg3 h).1 3 (Nat.le_refl _)
  exact a
def bodyT (x : Trp) (i : Nat) : Tx := Lib.join (headW x ++ (x.sg.take i).map segW) [32]
theorem bodyT_0 (x : Trp) : bodyT x 0 = headT x := by unfold bodyT headT; simp
theorem bodyT_s {x : Trp} {i : Nat} (h : i < x.sg.length) : bodyT x (i + 1) = bodyT x i ++ [32] ++ segW (x.sg.getD i seg0) := by
  unfold bodyT
  rw [List.take_add_one, List.getElem?_eq_getElem h]
  simp only [Option.toList, List.map_append, List.map_cons, List.map_nil]
  rw [← List.append_assoc, join_snoc (by simp [headW])]
  simp [List.getD_eq_getElem?_getD, h]
theorem bodyT_end (x : Trp) : toS (bodyT x x.sg.length) = fmtT x := by unfold bodyT fmtT wordsW; rw [List.take_length]
theorem len_0 {l : List Int} (h : ((l.length : Int) == 0) = true) : l = [] := by have := eq_of_beq h; exact List.eq_nil_of_length_eq_zero (by omega)
theorem len_1 {l : List Int} (h : ((l.length : Int) == 0) = false) : l ≠ [] := by rintro rfl; exact absurd h (by decide)
section
variable {W0 : World} {G : Nat → Option AV} (hX : (Xc W0 G).Good)
include hX
theorem c35 (l : List Int) (sep : Tx) (hs : Side (InL l ∧ sep.length ≤ 1)) : Pure (Xc W0 G) 35 [iRow l, .str (toS sep)] (.str (toS (joinI l sep))) := by
  have hs1 := hs.get.1.len
  have hs2 := hs.get.2
  refine mut_of' hX (show FnIs (Xc W0 G) 35 Tryz.f35 (codeOf Tryz.f35) from ⟨by kernel_rfl, by kernel_rfl, by kernel_rfl, by kernel_rfl⟩) rfl ?_
  repeat' (first
    | ((with_reducible refine (?_ : Alt _ _)); first | (with_reducible apply callAlt (c34 hX (l.getD i 0) ?_)) | (with_reducible refine Alt.one ?_))
    | ((with_reducible refine (?_ : AllLe _ _)); first | (first | exact AllLe.refl _ | (repeat' (first | exact trivial | apply Le.aggs | apply Le.tups | apply Le.fns | exact Le.refl _ | refine ⟨?_, ?_⟩))))
    | ((with_reducible refine (?_ : Sc _ (AllRen _ _ _))); refine Sc.of ?_; first | (repeat' (first | exact trivial | apply Le.aggs | apply Le.tups | apply Le.fns | exact Le.refl _ | refine ⟨?_, ?_⟩)))
    | ((with_reducible refine (?_ : (List.all _ _) = true)); rfl)
    | ((with_reducible refine (?_ : (and _ _) = true)); rfl)
    | ((with_reducible refine (?_ : List.Nodup _)); exact nodupB_spec rfl)
    | ((with_reducible refine (?_ : @Eq Nat _ _)); rfl)
    | ((with_reducible refine (?_ : @Eq (List (Option HObj)) _ _)); kernel_rfl)
    | ((with_reducible refine (?_ : LeOks _ _ _)); first | exact trivial | exact ⟨.refl _, trivial⟩ | exact ⟨.refl _, .refl _, trivial⟩)
    | ((fail_if_success with_reducible refine Stop.go ?_); (first | with_reducible refine And.intro ?_ ?_ | with_reducible refine Cut.go ?_ | (with_reducible (refine impI ?_; intro _)) | (with_reducible refine (?_ : footOK _ _ = true); kernel_rfl) | ((with_reducible refine propI ?_); conv => whnf))))
  all_goals try (exact .of (Nat.le_of_ble_eq_true rfl))
  refine ⟨Tx × Nat, fun (t, i) => ([(0, iRow l), (1, .str (toS sep)), (5, .str (toS t)), (6, .int .i64 (i : Nat))], []), fun (t, i) => t = joinI (l.take i) sep ∧ t.length ≤ 22 * i ∧ i ≤ l.length, fun (t, i) => l.length - i, ⟨([], 0), ⟨rfl, Nat.le_refl _, Nat.zero_le _⟩, .le ⟨rfl, trivial, ⟨.refl _, .refl _, .refl _, .refl _, trivial⟩⟩⟩, fun y hy => ?_⟩
  obtain ⟨t, i⟩ := y
  obtain ⟨h1, h2, h3⟩ := hy
  repeat' (first
    | ((with_reducible refine (?_ : Alt _ _)); first | (with_reducible apply callAlt (c34 hX (l.getD i 0) ?_)) | (with_reducible refine Alt.one ?_))
    | ((with_reducible refine (?_ : AllLe _ _)); first | (first | exact AllLe.refl _ | (repeat' (first | exact trivial | apply Le.aggs | apply Le.tups | apply Le.fns | exact Le.refl _ | refine ⟨?_, ?_⟩))))
    | ((with_reducible refine (?_ : Sc _ (AllRen _ _ _))); refine Sc.of ?_; first | (repeat' (first | exact trivial | apply Le.aggs | apply Le.tups | apply Le.fns | exact Le.refl _ | refine ⟨?_, ?_⟩)))
    | ((with_reducible refine (?_ : (List.all _ _) = true)); rfl)
    | ((with_reducible refine (?_ : (and _ _) = true)); rfl)
    | ((with_reducible refine (?_ : List.Nodup _)); exact nodupB_spec rfl)
    | ((with_reducible refine (?_ : @Eq Nat _ _)); rfl)
    | ((with_reducible refine (?_ : @Eq (List (Option HObj)) _ _)); kernel_rfl)
    | ((with_reducible refine (?_ : LeOks _ _ _)); first | exact trivial | exact ⟨.refl _, trivial⟩ | exact ⟨.refl _, .refl _, trivial⟩)
    | ((fail_if_success with_reducible refine Stop.go ?_); (first | with_reducible refine And.intro ?_ ?_ | with_reducible refine Cut.go ?_ | (with_reducible (refine impI ?_; intro _)) | (with_reducible refine (?_ : footOK _ _ = true); kernel_rfl) | ((with_reducible refine propI ?_); conv => whnf))))
  all_goals try (exact .of (Nat.le_of_ble_eq_true rfl))
  all_goals try (exact Side.mk (hs.get.1.i i (by rename_i q _; have := of_decide_eq_true q; omega)))
  all_goals try ((with_reducible refine (?_ : Sc _ _)); rename_i q _; have q := of_decide_eq_true q; have k := itoa_le (hs.get.1.i i (by omega)); refine Sc.of ?_; first | exact ⟨by omega, by omega⟩ | (simp only [toS_app, toS_size, List.length_append]; omega))
  · rename_i q q2; have q := of_decide_eq_true q; have q2 := of_decide_eq_true q2
    have k := itoa_le (hs.get.1.i i (by omega))
    refine ⟨(t ++ sep ++ Lib.itoa (l.getD i 0), i + 1), ⟨by rw [h1]; exact (joinI_s (by omega) (by omega)).symm, by simp only [List.length_append]; omega, by omega⟩, by show l.length - (i + 1) < l.length - i; omega, .le ⟨rfl, trivial, ⟨.refl _, .refl _, ?_, .refl _, trivial⟩⟩⟩
    exact Le.ofEq (congrArg AV.str (by rw [toS_app, toS_app]))
  · rename_i q q2; have q := of_decide_eq_true q; have q2 := of_decide_eq_false q2
    obtain rfl : i = 0 := by omega
    have k := itoa_le (hs.get.1.i 0 (by omega))
    have e : t = [] := by rw [h1]; rfl
    subst e
    refine ⟨(Lib.itoa (l.getD 0 0), 1), ⟨(joinI_0 (by omega)).symm, by omega, by omega⟩, by show l.length - 1 < l.length - 0; omega, .le ⟨rfl, trivial, ⟨.refl _, .refl _, ?_, .refl _, trivial⟩⟩⟩
    exact Le.ofEq (congrArg AV.str (by rw [toS_app]; rfl))
  · rename_i q; have q := of_decide_eq_false q
    refine .mk [] [] _ rfl (.le (Le.ofEq (congrArg AV.str ?_))) trivial rfl
    rw [h1, List.take_of_length_le (by omega)]
theorem c11 (x : Trp) (hs : Side (XIn x)) : Pure (Xc W0 G) 11 [trpA x] (.str (fmtT x)) := by
  have hs := hs.get
  refine mut_of' hX (show FnIs (Xc W0 G) 11 Tryz.f11 (codeOf Tryz.f11) from ⟨by kernel_rfl, by kernel_rfl, by kernel_rfl, by kernel_rfl⟩) rfl ?_
  repeat' (first
    | ((with_reducible refine (?_ : Alt _ _)); first | ((with_reducible apply callAlt (c34 hX x.m.d ?_)); case hl => (first | exact AllLe.refl _ | ((repeat' (first | exact trivial | apply Le.aggs | apply Le.tups | apply Le.fns | exact Le.refl _ | refine ⟨?_, ?_⟩)); done))) | ((with_reducible apply callAlt (c34 hX x.m.s ?_)); case hl => (first | exact AllLe.refl _ | ((repeat' (first | exact trivial | apply Le.aggs | apply Le.tups | apply Le.fns | exact Le.refl _ | refine ⟨?_, ?_⟩)); done))) | (with_reducible apply callAlt (c35 hX x.ex [44] ?_)) | (with_reducible refine Alt.one ?_))
    | ((with_reducible refine (?_ : AllLe _ _)); first | (first | exact AllLe.refl _ | (repeat' (first | exact trivial | apply Le.aggs | apply Le.tups | apply Le.fns | exact Le.refl _ | refine ⟨?_, ?_⟩))))
    | ((with_reducible refine (?_ : Sc _ (AllRen _ _ _))); refine Sc.of ?_; first | (repeat' (first | exact trivial | apply Le.aggs | apply Le.tups | apply Le.fns | exact Le.refl _ | refine ⟨?_, ?_⟩)))
    | ((with_reducible refine (?_ : (List.all _ _) = true)); rfl)
    | ((with_reducible refine (?_ : (and _ _) = true)); rfl)
    | ((with_reducible refine (?_ : List.Nodup _)); exact nodupB_spec rfl)
    | ((with_reducible refine (?_ : @Eq Nat _ _)); rfl)
    | ((with_reducible refine (?_ : @Eq (List (Option HObj)) _ _)); kernel_rfl)
    | ((with_reducible refine (?_ : LeOks _ _ _)); first | exact trivial | exact ⟨.refl _, trivial⟩ | exact ⟨.refl _, .refl _, trivial⟩)
    | ((fail_if_success with_reducible refine Stop.go ?_); (first | with_reducible refine And.intro ?_ ?_ | with_reducible refine Cut.go ?_ | (with_reducible (refine impI ?_; intro _)) | (with_reducible refine (?_ : footOK _ _ = true); kernel_rfl) | ((with_reducible refine propI ?_); conv => whnf))))
  all_goals try (exact .of (Nat.le_of_ble_eq_true rfl))
  all_goals try (exact Side.mk hs.d)
  all_goals try (exact Side.mk hs.s)
  all_goals try (exact Side.mk ⟨hs.ex, Nat.le_refl _⟩)
  all_goals try ((with_reducible refine (?_ : Sc _ _)); have k1 := itoa_le hs.d; have k2 := itoa_le hs.s; have k3 := joinI_len hs.ex x.ex.length (Nat.le_refl _); have k4 := hs.ex.len; rw [List.take_length] at k3; refine Sc.of ?_; simp only [ByteArray.size_append, toS_size, bsz, List.size_toArray, List.length_cons, List.length_nil]; omega)
  · rename_i f0 f1; have hk : kindW x = fixW := by unfold kindW; rw [f0]; rfl
    have he : exW x.ex = [45] := by unfold exW; rw [if_pos (len_0 f1)]
    refine ⟨Tx × Nat, fun (t, i) => ([(1, .ptr 0 0), (3, .str (toS t)), (4, .int .i64 (i : Nat))], [.box (trpC x)]), fun (t, i) => t = bodyT x i ∧ t.length ≤ 3000 + 70 * i ∧ i ≤ x.sg.length, fun (t, i) => x.sg.length - i, ⟨(headT x, 0), ⟨(bodyT_0 x).symm, headT_len hs, Nat.zero_le _⟩, .le ⟨rfl, ⟨.refl _, trivial⟩, ⟨.refl _, ?_, .refl _, trivial⟩⟩⟩, fun y hy => ?_⟩
    · refine Le.ofEq (congrArg AV.str ?_)
      rw [headT_eq, hk, he]
      rw [show joinI x.ex [44] = [] from by rw [len_0 f1]; rfl]; show toS (Lib.itoa x.m.d) ++ toS [32] ++ toS (Lib.itoa x.m.s) ++ toS (32 :: fixW ++ [32]) ++ toS [45] ++ toS [] = _
      simp only [toS_app]
      all_goals (refine congrArg toS ?_; simp)
    obtain ⟨t, i⟩ := y
    obtain ⟨h1, h2, h3⟩ := hy
    repeat' (first
      | ((with_reducible refine (?_ : Alt _ _)); first | (with_reducible apply callAlt (c35 hX [(x.sg.getD i seg0).z, (x.sg.getD i seg0).me, (x.sg.getD i seg0).se] [44] ?_)) | (with_reducible refine Alt.one ?_))
      | ((with_reducible refine (?_ : AllLe _ _)); first | exact ⟨le_slc3 rfl rfl rfl, .refl _, trivial⟩ | (first | exact AllLe.refl _ | (repeat' (first | exact trivial | apply Le.aggs | apply Le.tups | apply Le.fns | exact Le.refl _ | refine ⟨?_, ?_⟩))))
      | ((with_reducible refine (?_ : Sc _ (AllRen _ _ _))); refine Sc.of ?_; first | (repeat' (first | exact trivial | apply Le.aggs | apply Le.tups | apply Le.fns | exact Le.refl _ | refine ⟨?_, ?_⟩)))
      | ((with_reducible refine (?_ : (List.all _ _) = true)); rfl)
      | ((with_reducible refine (?_ : (and _ _) = true)); rfl)
      | ((with_reducible refine (?_ : List.Nodup _)); exact nodupB_spec rfl)
      | ((with_reducible refine (?_ : @Eq Nat _ _)); rfl)
      | ((with_reducible refine (?_ : @Eq (List (Option HObj)) _ _)); kernel_rfl)
      | ((with_reducible refine (?_ : LeOks _ _ _)); first | exact trivial | exact ⟨.refl _, trivial⟩ | exact ⟨.refl _, .refl _, trivial⟩)
      | ((fail_if_success with_reducible refine Stop.go ?_); (first | with_reducible refine And.intro ?_ ?_ | with_reducible refine Cut.go ?_ | (with_reducible (refine impI ?_; intro _)) | (with_reducible refine (?_ : footOK _ _ = true); kernel_rfl) | ((with_reducible refine propI ?_); conv => whnf))))
    all_goals try (exact .of (Nat.le_of_ble_eq_true rfl))
    all_goals try (refine Side.mk ?_; rename_i q; have q := of_decide_eq_true q; exact seg3 (hs.sg i (by omega)))
    all_goals try ((with_reducible refine (?_ : Sc _ _)); rename_i q; have q := of_decide_eq_true q; have k := segW_len (hs.sg i (by omega)); have k2 := hs.len; refine Sc.of ?_; first | exact ⟨by omega, by omega⟩ | (show (toS t ++ toS [32]).size + (toS (segW (x.sg.getD i seg0))).size ≤ _; simp only [toS_app, toS_size, List.length_append, List.length_cons, List.length_nil]; omega) | (show (toS t).size + (toS [32]).size ≤ _; simp only [toS_app, toS_size, List.length_append, List.length_cons, List.length_nil]; omega))
    · rename_i q; have q := of_decide_eq_true q
      have k := segW_len (hs.sg i (by omega))
      refine ⟨(t ++ [32] ++ segW (x.sg.getD i seg0), i + 1), ⟨by rw [h1]; exact (bodyT_s (by omega)).symm, by simp only [List.length_append, List.length_cons, List.length_nil]; omega, by omega⟩, by show x.sg.length - (i + 1) < x.sg.length - i; omega, .le ⟨rfl, ⟨.refl _, trivial⟩, ⟨.refl _, ?_, .refl _, trivial⟩⟩⟩
      exact Le.ofEq (congrArg AV.str (by rw [← toS_app, ← toS_app]; rfl))
    · rename_i q; have q := of_decide_eq_false q
      refine .mk [] [] _ rfl (.le (Le.ofEq (congrArg AV.str ?_))) trivial rfl
      rw [← bodyT_end, h1, show i = x.sg.length by omega]
  · rename_i f0 f1; have hk : kindW x = fixW := by unfold kindW; rw [f0]; rfl
    have he : exW x.ex = joinI x.ex [44] := by unfold exW joinI; rw [if_neg (len_1 f1)]
    refine ⟨Tx × Nat, fun (t, i) => ([(1, .ptr 0 0), (3, .str (toS t)), (4, .int .i64 (i : Nat))], [.box (trpC x)]), fun (t, i) => t = bodyT x i ∧ t.length ≤ 3000 + 70 * i ∧ i ≤ x.sg.length, fun (t, i) => x.sg.length - i, ⟨(headT x, 0), ⟨(bodyT_0 x).symm, headT_len hs, Nat.zero_le _⟩, .le ⟨rfl, ⟨.refl _, trivial⟩, ⟨.refl _, ?_, .refl _, trivial⟩⟩⟩, fun y hy => ?_⟩
    · refine Le.ofEq (congrArg AV.str ?_)
      rw [headT_eq, hk, he]
      show toS (Lib.itoa x.m.d) ++ toS [32] ++ toS (Lib.itoa x.m.s) ++ toS (32 :: fixW ++ [32]) ++ toS (joinI x.ex [44]) = _
      simp only [toS_app]
      all_goals (refine congrArg toS ?_; simp)
    obtain ⟨t, i⟩ := y
    obtain ⟨h1, h2, h3⟩ := hy
    repeat' (first
      | ((with_reducible refine (?_ : Alt _ _)); first | (with_reducible apply callAlt (c35 hX [(x.sg.getD i seg0).z, (x.sg.getD i seg0).me, (x.sg.getD i seg0).se] [44] ?_)) | (with_reducible refine Alt.one ?_))
      | ((with_reducible refine (?_ : AllLe _ _)); first | exact ⟨le_slc3 rfl rfl rfl, .refl _, trivial⟩ | (first | exact AllLe.refl _ | (repeat' (first | exact trivial | apply Le.aggs | apply Le.tups | apply Le.fns | exact Le.refl _ | refine ⟨?_, ?_⟩))))
      | ((with_reducible refine (?_ : Sc _ (AllRen _ _ _))); refine Sc.of ?_; first | (repeat' (first | exact trivial | apply Le.aggs | apply Le.tups | apply Le.fns | exact Le.refl _ | refine ⟨?_, ?_⟩)))
      | ((with_reducible refine (?_ : (List.all _ _) = true)); rfl)
      | ((with_reducible refine (?_ : (and _ _) = true)); rfl)
      | ((with_reducible refine (?_ : List.Nodup _)); exact nodupB_spec rfl)
      | ((with_reducible refine (?_ : @Eq Nat _ _)); rfl)
      | ((with_reducible refine (?_ : @Eq (List (Option HObj)) _ _)); kernel_rfl)
      | ((with_reducible refine (?_ : LeOks _ _ _)); first | exact trivial | exact ⟨.refl _, trivial⟩ | exact ⟨.refl _, .refl _, trivial⟩)
      | ((fail_if_success with_reducible refine Stop.go ?_); (first | with_reducible refine And.intro ?_ ?_ | with_reducible refine Cut.go ?_ | (with_reducible (refine impI ?_; intro _)) | (with_reducible refine (?_ : footOK _ _ = true); kernel_rfl) | ((with_reducible refine propI ?_); conv => whnf))))
    all_goals try (exact .of (Nat.le_of_ble_eq_true rfl))
    all_goals try (refine Side.mk ?_; rename_i q; have q := of_decide_eq_true q; exact seg3 (hs.sg i (by omega)))
    all_goals try ((with_reducible refine (?_ : Sc _ _)); rename_i q; have q := of_decide_eq_true q; have k := segW_len (hs.sg i (by omega)); have k2 := hs.len; refine Sc.of ?_; first | exact ⟨by omega, by omega⟩ | (show (toS t ++ toS [32]).size + (toS (segW (x.sg.getD i seg0))).size ≤ _; simp only [toS_app, toS_size, List.length_append, List.length_cons, List.length_nil]; omega) | (show (toS t).size + (toS [32]).size ≤ _; simp only [toS_app, toS_size, List.length_append, List.length_cons, List.length_nil]; omega))
    · rename_i q; have q := of_decide_eq_true q
      have k := segW_len (hs.sg i (by omega))
      refine ⟨(t ++ [32] ++ segW (x.sg.getD i seg0), i + 1), ⟨by rw [h1]; exact (bodyT_s (by omega)).symm, by simp only [List.length_append, List.length_cons, List.length_nil]; omega, by omega⟩, by show x.sg.length - (i + 1) < x.sg.length - i; omega, .le ⟨rfl, ⟨.refl _, trivial⟩, ⟨.refl _, ?_, .refl _, trivial⟩⟩⟩
      exact Le.ofEq (congrArg AV.str (by rw [← toS_app, ← toS_app]; rfl))
    · rename_i q; have q := of_decide_eq_false q
      refine .mk [] [] _ rfl (.le (Le.ofEq (congrArg AV.str ?_))) trivial rfl
      rw [← bodyT_end, h1, show i = x.sg.length by omega]
  · rename_i f0 f1; have hk : kindW x = metW := by unfold kindW; rw [f0]; rfl
    have he : exW x.ex = [45] := by unfold exW; rw [if_pos (len_0 f1)]
    refine ⟨Tx × Nat, fun (t, i) => ([(1, .ptr 0 0), (3, .str (toS t)), (4, .int .i64 (i : Nat))], [.box (trpC x)]), fun (t, i) => t = bodyT x i ∧ t.length ≤ 3000 + 70 * i ∧ i ≤ x.sg.length, fun (t, i) => x.sg.length - i, ⟨(headT x, 0), ⟨(bodyT_0 x).symm, headT_len hs, Nat.zero_le _⟩, .le ⟨rfl, ⟨.refl _, trivial⟩, ⟨.refl _, ?_, .refl _, trivial⟩⟩⟩, fun y hy => ?_⟩
    · refine Le.ofEq (congrArg AV.str ?_)
      rw [headT_eq, hk, he]
      rw [show joinI x.ex [44] = [] from by rw [len_0 f1]; rfl]; show toS (Lib.itoa x.m.d) ++ toS [32] ++ toS (Lib.itoa x.m.s) ++ toS (32 :: metW ++ [32]) ++ toS [45] ++ toS [] = _
      simp only [toS_app]
      all_goals (refine congrArg toS ?_; simp)
    obtain ⟨t, i⟩ := y
    obtain ⟨h1, h2, h3⟩ := hy
    repeat' (first
      | ((with_reducible refine (?_ : Alt _ _)); first | (with_reducible apply callAlt (c35 hX [(x.sg.getD i seg0).z, (x.sg.getD i seg0).me, (x.sg.getD i seg0).se] [44] ?_)) | (with_reducible refine Alt.one ?_))
      | ((with_reducible refine (?_ : AllLe _ _)); first | exact ⟨le_slc3 rfl rfl rfl, .refl _, trivial⟩ | (first | exact AllLe.refl _ | (repeat' (first | exact trivial | apply Le.aggs | apply Le.tups | apply Le.fns | exact Le.refl _ | refine ⟨?_, ?_⟩))))
      | ((with_reducible refine (?_ : Sc _ (AllRen _ _ _))); refine Sc.of ?_; first | (repeat' (first | exact trivial | apply Le.aggs | apply Le.tups | apply Le.fns | exact Le.refl _ | refine ⟨?_, ?_⟩)))
      | ((with_reducible refine (?_ : (List.all _ _) = true)); rfl)
      | ((with_reducible refine (?_ : (and _ _) = true)); rfl)
      | ((with_reducible refine (?_ : List.Nodup _)); exact nodupB_spec rfl)
      | ((with_reducible refine (?_ : @Eq Nat _ _)); rfl)
      | ((with_reducible refine (?_ : @Eq (List (Option HObj)) _ _)); kernel_rfl)
      | ((with_reducible refine (?_ : LeOks _ _ _)); first | exact trivial | exact ⟨.refl _, trivial⟩ | exact ⟨.refl _, .refl _, trivial⟩)
      | ((fail_if_success with_reducible refine Stop.go ?_); (first | with_reducible refine And.intro ?_ ?_ | with_reducible refine Cut.go ?_ | (with_reducible (refine impI ?_; intro _)) | (with_reducible refine (?_ : footOK _ _ = true); kernel_rfl) | ((with_reducible refine propI ?_); conv => whnf))))
    all_goals try (exact .of (Nat.le_of_ble_eq_true rfl))
    all_goals try (refine Side.mk ?_; rename_i q; have q := of_decide_eq_true q; exact seg3 (hs.sg i (by omega)))
    all_goals try ((with_reducible refine (?_ : Sc _ _)); rename_i q; have q := of_decide_eq_true q; have k := segW_len (hs.sg i (by omega)); have k2 := hs.len; refine Sc.of ?_; first | exact ⟨by omega, by omega⟩ | (show (toS t ++ toS [32]).size + (toS (segW (x.sg.getD i seg0))).size ≤ _; simp only [toS_app, toS_size, List.length_append, List.length_cons, List.length_nil]; omega) | (show (toS t).size + (toS [32]).size ≤ _; simp only [toS_app, toS_size, List.length_append, List.length_cons, List.length_nil]; omega))
    · rename_i q; have q := of_decide_eq_true q
      have k := segW_len (hs.sg i (by omega))
      refine ⟨(t ++ [32] ++ segW (x.sg.getD i seg0), i + 1), ⟨by rw [h1]; exact (bodyT_s (by omega)).symm, by simp only [List.length_append, List.length_cons, List.length_nil]; omega, by omega⟩, by show x.sg.length - (i + 1) < x.sg.length - i; omega, .le ⟨rfl, ⟨.refl _, trivial⟩, ⟨.refl _, ?_, .refl _, trivial⟩⟩⟩
      exact Le.ofEq (congrArg AV.str (by rw [← toS_app, ← toS_app]; rfl))
    · rename_i q; have q := of_decide_eq_false q
      refine .mk [] [] _ rfl (.le (Le.ofEq (congrArg AV.str ?_))) trivial rfl
      rw [← bodyT_end, h1, show i = x.sg.length by omega]
  · rename_i f0 f1; have hk : kindW x = metW := by unfold kindW; rw [f0]; rfl
    have he : exW x.ex = joinI x.ex [44] := by unfold exW joinI; rw [if_neg (len_1 f1)]
    refine ⟨Tx × Nat, fun (t, i) => ([(1, .ptr 0 0), (3, .str (toS t)), (4, .int .i64 (i : Nat))], [.box (trpC x)]), fun (t, i) => t = bodyT x i ∧ t.length ≤ 3000 + 70 * i ∧ i ≤ x.sg.length, fun (t, i) => x.sg.length - i, ⟨(headT x, 0), ⟨(bodyT_0 x).symm, headT_len hs, Nat.zero_le _⟩, .le ⟨rfl, ⟨.refl _, trivial⟩, ⟨.refl _, ?_, .refl _, trivial⟩⟩⟩, fun y hy => ?_⟩
    · refine Le.ofEq (congrArg AV.str ?_)
      rw [headT_eq, hk, he]
      show toS (Lib.itoa x.m.d) ++ toS [32] ++ toS (Lib.itoa x.m.s) ++ toS (32 :: metW ++ [32]) ++ toS (joinI x.ex [44]) = _
      simp only [toS_app]
      all_goals (refine congrArg toS ?_; simp)
    obtain ⟨t, i⟩ := y
    obtain ⟨h1, h2, h3⟩ := hy
    repeat' (first
      | ((with_reducible refine (?_ : Alt _ _)); first | (with_reducible apply callAlt (c35 hX [(x.sg.getD i seg0).z, (x.sg.getD i seg0).me, (x.sg.getD i seg0).se] [44] ?_)) | (with_reducible refine Alt.one ?_))
      | ((with_reducible refine (?_ : AllLe _ _)); first | exact ⟨le_slc3 rfl rfl rfl, .refl _, trivial⟩ | (first | exact AllLe.refl _ | (repeat' (first | exact trivial | apply Le.aggs | apply Le.tups | apply Le.fns | exact Le.refl _ | refine ⟨?_, ?_⟩))))
      | ((with_reducible refine (?_ : Sc _ (AllRen _ _ _))); refine Sc.of ?_; first | (repeat' (first | exact trivial | apply Le.aggs | apply Le.tups | apply Le.fns | exact Le.refl _ | refine ⟨?_, ?_⟩)))
      | ((with_reducible refine (?_ : (List.all _ _) = true)); rfl)
      | ((with_reducible refine (?_ : (and _ _) = true)); rfl)
      | ((with_reducible refine (?_ : List.Nodup _)); exact nodupB_spec rfl)
      | ((with_reducible refine (?_ : @Eq Nat _ _)); rfl)
      | ((with_reducible refine (?_ : @Eq (List (Option HObj)) _ _)); kernel_rfl)
      | ((with_reducible refine (?_ : LeOks _ _ _)); first | exact trivial | exact ⟨.refl _, trivial⟩ | exact ⟨.refl _, .refl _, trivial⟩)
      | ((fail_if_success with_reducible refine Stop.go ?_); (first | with_reducible refine And.intro ?_ ?_ | with_reducible refine Cut.go ?_ | (with_reducible (refine impI ?_; intro _)) | (with_reducible refine (?_ : footOK _ _ = true); kernel_rfl) | ((with_reducible refine propI ?_); conv => whnf))))
    all_goals try (exact .of (Nat.le_of_ble_eq_true rfl))
    all_goals try (refine Side.mk ?_; rename_i q; have q := of_decide_eq_true q; exact seg3 (hs.sg i (by omega)))
    all_goals try ((with_reducible refine (?_ : Sc _ _)); rename_i q; have q := of_decide_eq_true q; have k := segW_len (hs.sg i (by omega)); have k2 := hs.len; refine Sc.of ?_; first | exact ⟨by omega, by omega⟩ | (show (toS t ++ toS [32]).size + (toS (segW (x.sg.getD i seg0))).size ≤ _; simp only [toS_app, toS_size, List.length_append, List.length_cons, List.length_nil]; omega) | (show (toS t).size + (toS [32]).size ≤ _; simp only [toS_app, toS_size, List.length_append, List.length_cons, List.length_nil]; omega))
    · rename_i q; have q := of_decide_eq_true q
      have k := segW_len (hs.sg i (by omega))
      refine ⟨(t ++ [32] ++ segW (x.sg.getD i seg0), i + 1), ⟨by rw [h1]; exact (bodyT_s (by omega)).symm, by simp only [List.length_append, List.length_cons, List.length_nil]; omega, by omega⟩, by show x.sg.length - (i + 1) < x.sg.length - i; omega, .le ⟨rfl, ⟨.refl _, trivial⟩, ⟨.refl _, ?_, .refl _, trivial⟩⟩⟩
      exact Le.ofEq (congrArg AV.str (by rw [← toS_app, ← toS_app]; rfl))
    · rename_i q; have q := of_decide_eq_false q
      refine .mk [] [] _ rfl (.le (Le.ofEq (congrArg AV.str ?_))) trivial rfl
      rw [← bodyT_end, h1, show i = x.sg.length by omega]

end
end Go.Fx

/-
  The specification reads numbers.
-/
namespace Go.Fx
open Go.Proofs Go.RowKit

theorem push_f {n a : Nat} {f : Nat → Int} {g : Nat → Nat → AV} (hg : g 0 0 = .int .i64 (f n)) (ha : a < n + 1) : joinF n (fun a _ => .int .i64 (f a)) g a 0 = .int .i64 (f a) := by
  unfold joinF
  by_cases h : a < n
  · rw [if_pos h]
  · obtain rfl : a = n := by omega
    rw [if_neg h, Nat.sub_self, hg]
def nsW (s : ByteArray) : List Int := bif nsB s then nsV s else []
theorem nsW_1 {s : ByteArray} (h : nsB s = true) : nsW s = nsV s := by unfold nsW; rw [h]; rfl
theorem nsW_0 {s : ByteArray} (h : nsB s = false) : nsW s = [] := by unfold nsW; rw [h]; rfl
def cp (s : ByteArray) (a : Nat) : ByteArray := (cutS 44 s).getD a bs0
theorem cp_size (s : ByteArray) (a : Nat) : (cp s a).size ≤ s.size := by
  unfold cp
  rw [cutS_at, toS_size, size_len s]
  rcases Nat.lt_or_ge a (cut 44 s.data.toList).length with h | h
  · rw [List.getD_eq_getElem?_getD, List.getElem?_eq_getElem h]
    exact (cut_mem 44 _ _ (List.getElem_mem h)).1
  · rw [List.getD_eq_getElem?_getD, List.getElem?_eq_none h]; simp
theorem cutS_pos (c : UInt8) (s : ByteArray) : 0 < (cutS c s).length := by rw [cutS_len]; exact List.length_pos_iff.2 (cut_ne _ _)
theorem cutS_len_le (c : UInt8) (s : ByteArray) : (cutS c s).length ≤ s.size + 1 := by rw [cutS_len, size_len]; exact cut_len _ _
theorem ns_bad {s : ByteArray} {i : Nat} (h : i < (cutS 44 s).length) (hb : nB (cp s i) = false) : nsB s = false := by
  cases hn : nsB s with
  | false => rfl
  | true => have := (nsB_iff s).1 hn i h; rw [show (cutS 44 s).getD i bs0 = cp s i from rfl, hb] at this; cases this
theorem ns_good {s : ByteArray} (h : ∀ j, j < (cutS 44 s).length → nB (cp s j) = true) : nsB s = true := (nsB_iff s).2 h
theorem ns_le {s : ByteArray} {i : Nat} (h : ∀ j, j < (cutS 44 s).length → nB (cp s j) = true) (hi : i < (cutS 44 s).length) : (nsW s).getD i 0 = nV (cp s i) := by
  rw [nsW_1 (ns_good h)]; exact nsV_at s i hi
section
variable {W0 : World} {G : Nat → Option AV} (hX : (Xc W0 G).Good)
include hX
set_option maxHeartbeats 1000000 in
theorem c33 (s : ByteArray) (hs : Side (s.size ≤ 1000000)) : Pure (Xc W0 G) 33 [.str s] (.tup 2 (tbl [iRow (nsW s), .bool (nsB s)])) := by
  have hs := hs.get
  refine mut_of' hX (show FnIs (Xc W0 G) 33 Tryz.f33 (codeOf Tryz.f33) from ⟨by kernel_rfl, by kernel_rfl, by kernel_rfl, by kernel_rfl⟩) rfl ?_
  repeat' (first
    | ((with_reducible refine (?_ : Alt _ _)); first | (with_reducible apply callAlt (c31 hX s 44 (Side.mk hs))) | (with_reducible refine Alt.one ?_))
    | ((with_reducible refine (?_ : AllLe _ _)); first | (first | exact AllLe.refl _ | (repeat' (first | exact trivial | apply Le.aggs | apply Le.tups | apply Le.fns | exact Le.refl _ | refine ⟨?_, ?_⟩))))
    | ((with_reducible refine (?_ : Sc _ (AllRen _ _ _))); refine Sc.of ?_; first | (repeat' (first | exact trivial | apply Le.aggs | apply Le.tups | apply Le.fns | exact Le.refl _ | refine ⟨?_, ?_⟩)))
    | ((with_reducible refine (?_ : (List.all _ _) = true)); rfl)
    | ((with_reducible refine (?_ : (and _ _) = true)); rfl)
    | ((with_reducible refine (?_ : List.Nodup _)); exact nodupB_spec rfl)
    | ((with_reducible refine (?_ : @Eq Nat _ _)); rfl)
    | ((with_reducible refine (?_ : @Eq (List (Option HObj)) _ _)); kernel_rfl)
    | ((with_reducible refine (?_ : LeOks _ _ _)); first | exact trivial | exact ⟨.refl _, trivial⟩ | exact ⟨.refl _, .refl _, trivial⟩)
    | ((fail_if_success with_reducible refine Stop.go ?_); (first | with_reducible refine And.intro ?_ ?_ | with_reducible refine Cut.go ?_ | (with_reducible (refine impI ?_; intro _)) | (with_reducible refine (?_ : footOK _ _ = true); kernel_rfl) | ((with_reducible refine propI ?_); conv => whnf))))
  all_goals try (exact .of (Nat.le_of_ble_eq_true rfl))
  refine ⟨Nat, fun i => match i with | 0 => ([(4, .slc0), (5, sRow (cutS 44 s)), (6, .int .i64 ((0 : Nat) : Int))], []) | i + 1 => ([(4, .own 0 (i + 1)), (5, sRow (cutS 44 s)), (6, .int .i64 ((i + 1 : Nat) : Int))], [.list 3 1 (i + 1) (fun a _ => .int .i64 (nV (cp s a))) (i + 1)]), fun i => i ≤ (cutS 44 s).length ∧ ∀ j, j < i → nB (cp s j) = true, fun i => (cutS 44 s).length - i, ⟨0, ⟨Nat.zero_le _, fun _ h => by omega⟩, .le ⟨rfl, trivial, ⟨.refl _, .refl _, .refl _, trivial⟩⟩⟩, fun i ⟨hi, h0⟩ => ?_⟩
  have hp := cutS_pos 44 s
  have hq := cutS_len_le 44 s
  rcases i with _ | i
  · skip
    repeat' (first
      | ((with_reducible refine (?_ : Alt _ _)); first | (with_reducible apply callAlt (c32 hX (cp s (0)) (Side.mk (Nat.le_trans (cp_size s _) hs)))) | (with_reducible refine Alt.one ?_))
      | ((with_reducible refine (?_ : AllLe _ _)); first | (first | exact AllLe.refl _ | (repeat' (first | exact trivial | apply Le.aggs | apply Le.tups | apply Le.fns | exact Le.refl _ | refine ⟨?_, ?_⟩))))
      | ((with_reducible refine (?_ : Sc _ (AllRen _ _ _))); refine Sc.of ?_; first | (repeat' (first | exact trivial | apply Le.aggs | apply Le.tups | apply Le.fns | exact Le.refl _ | refine ⟨?_, ?_⟩)))
      | ((with_reducible refine (?_ : (List.all _ _) = true)); rfl)
      | ((with_reducible refine (?_ : (and _ _) = true)); rfl)
      | ((with_reducible refine (?_ : List.Nodup _)); exact nodupB_spec rfl)
      | ((with_reducible refine (?_ : @Eq Nat _ _)); rfl)
      | ((with_reducible refine (?_ : @Eq (List (Option HObj)) _ _)); kernel_rfl)
      | ((with_reducible refine (?_ : LeOks _ _ _)); first | exact trivial | exact ⟨.refl _, trivial⟩ | exact ⟨.refl _, .refl _, trivial⟩)
      | ((fail_if_success with_reducible refine Stop.go ?_); (first | with_reducible refine And.intro ?_ ?_ | with_reducible refine Cut.go ?_ | (with_reducible (refine impI ?_; intro _)) | (with_reducible refine (?_ : footOK _ _ = true); kernel_rfl) | ((with_reducible refine propI ?_); conv => whnf))))
    all_goals try (exact .of (Nat.le_of_ble_eq_true rfl))
    all_goals try ((with_reducible refine (?_ : Sc _ _)); rename_i q _; have q := of_decide_eq_true q; first | exact .of ⟨by omega, by omega⟩ | exact .of ⟨Nat.le_of_ble_eq_true rfl, Nat.le_of_ble_eq_true rfl⟩ | (refine Sc.of ⟨show (0 + (0 + 1)) * 8 ≤ 140737488355328 by omega, show 0 + (0 + 1) ≤ 9223372036854775807 by omega⟩))
    all_goals try ((with_reducible refine (?_ : Sc _ _)); rename_i q; have q := of_decide_eq_true q; exact .of ⟨by omega, by omega⟩)
    · rename_i q q2; have q := of_decide_eq_true q
      have w := ns_bad (by omega) (not_t q2)
      exact .mk [] [] _ rfl (.le (.tups ⟨⟨trivial, by rw [nsW_0 w]; exact Le.slc0 1 _⟩, .boolT w.symm⟩)) trivial rfl
    · rename_i q q2; have q := of_decide_eq_true q
      refine ⟨0 + 1, ⟨by omega, all_lt h0 (not_f q2)⟩, by show (cutS 44 s).length - (0 + 1) < (cutS 44 s).length - (0); omega, .le ⟨rfl, ⟨.list (fun a j ha hj => ?_), trivial⟩, ⟨.refl _, .refl _, .refl _, trivial⟩⟩⟩
      replace hj : j < 1 := hj
      obtain rfl : j = 0 := by omega
      replace ha : a < 1 := by omega
      obtain rfl : a = 0 := by omega
      exact .refl _
    · rename_i q; have q := of_decide_eq_false q; omega

  · skip
    repeat' (first
      | ((with_reducible refine (?_ : Alt _ _)); first | (with_reducible apply callAlt (c32 hX (cp s ((i + 1))) (Side.mk (Nat.le_trans (cp_size s _) hs)))) | (with_reducible refine Alt.one ?_))
      | ((with_reducible refine (?_ : AllLe _ _)); first | (first | exact AllLe.refl _ | (repeat' (first | exact trivial | apply Le.aggs | apply Le.tups | apply Le.fns | exact Le.refl _ | refine ⟨?_, ?_⟩))))
      | ((with_reducible refine (?_ : Sc _ (AllRen _ _ _))); refine Sc.of ?_; first | (repeat' (first | exact trivial | apply Le.aggs | apply Le.tups | apply Le.fns | exact Le.refl _ | refine ⟨?_, ?_⟩)))
      | ((with_reducible refine (?_ : (List.all _ _) = true)); rfl)
      | ((with_reducible refine (?_ : (and _ _) = true)); rfl)
      | ((with_reducible refine (?_ : List.Nodup _)); exact nodupB_spec rfl)
      | ((with_reducible refine (?_ : @Eq Nat _ _)); rfl)
      | ((with_reducible refine (?_ : @Eq (List (Option HObj)) _ _)); kernel_rfl)
      | ((with_reducible refine (?_ : LeOks _ _ _)); first | exact trivial | exact ⟨.refl _, trivial⟩ | exact ⟨.refl _, .refl _, trivial⟩)
      | ((fail_if_success with_reducible refine Stop.go ?_); (first | rw [beqvv (i + 1)] | rw [beqvv i] | with_reducible refine And.intro ?_ ?_ | with_reducible refine Cut.go ?_ | (with_reducible (refine impI ?_; intro _)) | (with_reducible refine (?_ : footOK _ _ = true); kernel_rfl) | ((with_reducible refine propI ?_); conv => whnf))))
    all_goals try (exact .of (Nat.le_of_ble_eq_true rfl))
    all_goals try ((with_reducible refine (?_ : Sc _ _)); rename_i q _; have q := of_decide_eq_true q; first | exact .of ⟨by omega, by omega⟩ | exact .of ⟨Nat.le_of_ble_eq_true rfl, Nat.le_of_ble_eq_true rfl⟩ | (refine Sc.of ⟨show ((i + 1) + (0 + 1)) * 8 ≤ 140737488355328 by omega, show (i + 1) + (0 + 1) ≤ 9223372036854775807 by omega⟩))
    all_goals try ((with_reducible refine (?_ : Sc _ _)); rename_i q; have q := of_decide_eq_true q; exact .of ⟨by omega, by omega⟩)
    · rename_i q q2; have q := of_decide_eq_true q
      have w := ns_bad (by omega) (not_t q2)
      exact .mk [] [] _ rfl (.le (.tups ⟨⟨trivial, by rw [nsW_0 w]; exact Le.slc0 1 _⟩, .boolT w.symm⟩)) trivial rfl
    · rename_i q q2; have q := of_decide_eq_true q
      refine ⟨(i + 1) + 1, ⟨by omega, all_lt h0 (not_f q2)⟩, by show (cutS 44 s).length - ((i + 1) + 1) < (cutS 44 s).length - ((i + 1)); omega, .le ⟨rfl, ⟨.list (fun a j ha hj => ?_), trivial⟩, ⟨.refl _, .refl _, .refl _, trivial⟩⟩⟩
      replace hj : j < 1 := hj
      obtain rfl : j = 0 := by omega
      exact Le.ofEq (push_f rfl ha)
      skip
      skip
    · rename_i q; have q := of_decide_eq_false q
      have hg : ∀ j, j < (cutS 44 s).length → nB (cp s j) = true := fun j hj => h0 j (by omega)
      refine .mk [] [0] _ rfl (.tups ⟨⟨trivial, ?_⟩, .le (.boolT (ns_good hg).symm)⟩) trivial rfl
      have hl : (nsW s).length = i + 1 := by rw [nsW_1 (ns_good hg), nsV_len]; omega
      unfold iRow
      rw [hl]
      refine .own rfl fun a j ha hj => ?_
      replace hj : j < 1 := hj
      obtain rfl : j = 0 := by omega
      rw [ns_le hg (by omega)]; exact .refl _

end
end Go.Fx

/-
  The specification reads a trip.
-/
namespace Go.Fx
open Go.Proofs Go.RowKit

theorem wd_size (s : ByteArray) (a : Nat) : (wd s a).size ≤ s.size := by
  unfold wd
  rw [cutS_at, toS_size, size_len s]
  rcases Nat.lt_or_ge a (cut 32 s.data.toList).length with h | h
  · rw [List.getD_eq_getElem?_getD, List.getElem?_eq_getElem h]
    exact (cut_mem 32 _ _ (List.getElem_mem h)).1
  · rw [List.getD_eq_getElem?_getD, List.getElem?_eq_none h]; simp
theorem hd_is (s : ByteArray) : (bif decide (((cutS 32 s).length : Int) < 5) then true else (bif !decide (wd s 2 = toS fixW) then !decide (wd s 2 = toS metW) else false)) = !hdB s := by
  unfold hdB wn
  by_cases h : ((cutS 32 s).length : Int) < 5
  · rw [decide_eq_true h, show Nat.ble 5 (cutS 32 s).length = false from by rw [← Bool.not_eq_true, Nat.ble_eq]; omega]; rfl
  · rw [decide_eq_false h, show Nat.ble 5 (cutS 32 s).length = true from Nat.ble_eq ▸ (show 5 ≤ (cutS 32 s).length by omega)]
    cases decide (wd s 2 = toS fixW) <;> cases decide (wd s 2 = toS metW) <;> rfl
theorem dt_is (s : ByteArray) : (bif !nB (wd s 0) then true else !nB (wd s 1)) = !dtB s := by
  unfold dtB; cases nB (wd s 0) <;> cases nB (wd s 1) <;> rfl
theorem hd_len {s : ByteArray} (h : hdB s = true) : 5 ≤ (cutS 32 s).length := by
  unfold hdB at h; simp only [Bool.and_eq_true] at h; exact Nat.le_of_ble_eq_true h.1
theorem par_f1 {s : ByteArray} (h : (!hdB s) = true) : parB s = false := by unfold parB; rw [not_t h]; rfl
theorem par_f2 {s : ByteArray} (h : (!dtB s) = true) : parB s = false := by unfold parB; rw [not_t h]; cases hdB s <;> rfl
theorem par_f3 {s : ByteArray} (h1 : wd s 3 ≠ toS [45]) (h : nsB (wd s 3) = false) : parB s = false := by
  unfold parB exB; rw [decide_eq_false h1, h]; cases hdB s <;> cases dtB s <;> rfl
theorem par_f4 {s : ByteArray} {i : Nat} (hi : 4 + i < (cutS 32 s).length) (h : segB (wd s (4 + i)) = false) : parB s = false := by
  have : sgB s = false := by
    cases hs : sgB s with
    | false => rfl
    | true =>
      unfold sgB wn at hs
      have := List.all_eq_true.1 hs i (List.mem_range.2 (by omega))
      rw [h] at this; cases this
  unfold parB; rw [this]; cases hdB s <;> cases dtB s <;> cases exB s <;> rfl
theorem par_t {s : ByteArray} (h1 : hdB s = true) (h2 : dtB s = true) (h3 : exB s = true) (h4 : ∀ j, j < (cutS 32 s).length - 4 → segB (wd s (4 + j)) = true) : parB s = true := by
  have : sgB s = true := by
    unfold sgB wn
    exact List.all_eq_true.2 fun j hj => h4 j (List.mem_range.1 hj)
  unfold parB; rw [h1, h2, h3, this]; rfl
def sgv (s : ByteArray) (a : Nat) : Seg := ⟨(nsW (wd s (4 + a))).getD 0 0, (nsW (wd s (4 + a))).getD 1 0, (nsW (wd s (4 + a))).getD 2 0⟩
theorem seg_is (w : ByteArray) : (bif !nsB w then true else (((nsW w).length : Int) != 3)) = !segB w := by
  unfold segB
  cases h : nsB w with
  | false => rfl
  | true =>
    rw [nsW_1 h]
    show (((nsV w).length : Int) != 3) = !(true && Nat.beq (nsV w).length 3)
    by_cases hl : (nsV w).length = 3
    · rw [hl]; rfl
    · have : Nat.beq (nsV w).length 3 = false := by rw [← Bool.not_eq_true, Nat.beq_eq]; exact hl
      rw [this]; simp; omega
theorem seg_yes {w : ByteArray} (h : segB w = true) : nsB w = true ∧ (nsW w).length = 3 := by
  unfold segB at h
  simp only [Bool.and_eq_true] at h
  refine ⟨h.1, ?_⟩
  rw [nsW_1 h.1]
  exact Nat.eq_of_beq_eq_true h.2
theorem sgv_is {s : ByteArray} {a : Nat} (h : segB (wd s (4 + a)) = true) : sgv s a = segV (wd s (4 + a)) := by
  unfold sgv segV; rw [nsW_1 (seg_yes h).1]
theorem push_sg {n a j : Nat} {f : Nat → Seg} {g : Nat → Nat → AV} (hg : ∀ j, g 0 j = tbl (segC (f n)) (0 * 3 + j)) (ha : a < n + 1) : joinF n (fun a j => tbl (segC (f a)) j) g a j = tbl (segC (f a)) j := by
  unfold joinF
  by_cases h : a < n
  · rw [if_pos h]
  · obtain rfl : a = n := by omega
    rw [if_neg h, Nat.sub_self, hg, Nat.zero_mul, Nat.zero_add]
theorem exV_1 {s : ByteArray} (h : wd s 3 ≠ toS [45]) (h2 : nsB (wd s 3) = true) : exV s = nsW (wd s 3) := by unfold exV; rw [if_neg h, nsW_1 h2]
theorem exV_0 {s : ByteArray} (h : wd s 3 = toS [45]) : exV s = [] := by unfold exV; rw [if_pos h]
theorem ex_1 {s : ByteArray} (h2 : nsB (wd s 3) = true) : exB s = true := by unfold exB; rw [h2, Bool.or_true]
theorem ex_0 {s : ByteArray} (h : wd s 3 = toS [45]) : exB s = true := by unfold exB; rw [decide_eq_true h]; rfl
section
variable {W0 : World} {G : Nat → Option AV} (hX : (Xc W0 G).Good)
include hX
set_option maxHeartbeats 2000000 in
theorem c10 (s : ByteArray) (hs : Side (s.size ≤ 1000000)) : Pure (Xc W0 G) 10 [.str s] (.tup 2 (tbl [trpA (parT s), .int .i64 (parE s)])) := by
  have hs := hs.get
  have hq := cutS_len_le 32 s
  refine mut_of' hX (show FnIs (Xc W0 G) 10 Tryz.f10 (codeOf Tryz.f10) from ⟨by kernel_rfl, by kernel_rfl, by kernel_rfl, by kernel_rfl⟩) rfl ?_
  repeat' (first
    | ((with_reducible refine (?_ : Alt _ _)); first | (with_reducible apply callAlt (c31 hX s 32 (Side.mk hs))) | ((with_reducible apply callAlt (c32 hX (wd s 0) (Side.mk (Nat.le_trans (wd_size s _) hs)))); case hl => (first | exact AllLe.refl _ | ((repeat' (first | exact trivial | apply Le.aggs | apply Le.tups | apply Le.fns | exact Le.refl _ | refine ⟨?_, ?_⟩)); done))) | ((with_reducible apply callAlt (c32 hX (wd s 1) (Side.mk (Nat.le_trans (wd_size s _) hs)))); case hl => (first | exact AllLe.refl _ | ((repeat' (first | exact trivial | apply Le.aggs | apply Le.tups | apply Le.fns | exact Le.refl _ | refine ⟨?_, ?_⟩)); done))) | ((with_reducible apply callAlt (c33 hX (wd s 3) (Side.mk (Nat.le_trans (wd_size s _) hs)))); case hl => (first | exact AllLe.refl _ | ((repeat' (first | exact trivial | apply Le.aggs | apply Le.tups | apply Le.fns | exact Le.refl _ | refine ⟨?_, ?_⟩)); done))) | (with_reducible refine Alt.one ?_))
    | ((with_reducible refine (?_ : AllLe _ _)); first | (first | exact AllLe.refl _ | (repeat' (first | exact trivial | apply Le.aggs | apply Le.tups | apply Le.fns | exact Le.refl _ | refine ⟨?_, ?_⟩))))
    | ((with_reducible refine (?_ : Sc _ (AllRen _ _ _))); refine Sc.of ?_; first | (repeat' (first | exact trivial | apply Le.aggs | apply Le.tups | apply Le.fns | exact Le.refl _ | refine ⟨?_, ?_⟩)))
    | ((with_reducible refine (?_ : (List.all _ _) = true)); rfl)
    | ((with_reducible refine (?_ : (and _ _) = true)); rfl)
    | ((with_reducible refine (?_ : List.Nodup _)); exact nodupB_spec rfl)
    | ((with_reducible refine (?_ : @Eq Nat _ _)); rfl)
    | ((with_reducible refine (?_ : @Eq (List (Option HObj)) _ _)); kernel_rfl)
    | ((with_reducible refine (?_ : LeOks _ _ _)); first | exact trivial | exact ⟨.refl _, trivial⟩ | exact ⟨.refl _, .refl _, trivial⟩)
    | ((fail_if_success with_reducible refine Stop.go ?_); (first | with_reducible refine And.intro ?_ ?_ | with_reducible refine Cut.go ?_ | (with_reducible (refine impI ?_; intro _)) | (with_reducible refine (?_ : footOK _ _ = true); kernel_rfl) | ((with_reducible refine propI ?_); conv => whnf))))
  all_goals try (exact .of (Nat.le_of_ble_eq_true rfl))
  all_goals try (refine Sc.imp fun w => ?_; have w := of_decide_eq_false w; exact ⟨by omega, by omega⟩)
  all_goals try (refine Sc.imp fun w => ?_; have w := of_decide_eq_false w.1; exact ⟨by omega, by omega⟩)
  · rename_i q
    have w := par_f1 ((hd_is s).symm.trans q)
    exact .mk [] [] _ rfl (.le (.tups ⟨⟨trivial, by rw [(parE_1 w).2]; exact .aggs ⟨⟨⟨⟨⟨trivial, .refl _⟩, .refl _⟩, .refl _⟩, Le.slc0 1 _⟩, Le.slc0 3 _⟩⟩, .intI (by rw [(parE_1 w).1])⟩)) trivial rfl
  · rename_i q; have g1 := not_f ((hd_is s).symm.trans q); have g5 := hd_len g1; exact .of ⟨by omega, by omega⟩
  · rename_i q; have g1 := not_f ((hd_is s).symm.trans q); have g5 := hd_len g1; exact .of ⟨by omega, by omega⟩
  · rename_i q q2; rw [dt_is] at q2
    have w := par_f2 q2
    exact .mk [] [] _ rfl (.le (.tups ⟨⟨trivial, by rw [(parE_1 w).2]; exact .aggs ⟨⟨⟨⟨⟨trivial, .refl _⟩, .refl _⟩, .refl _⟩, Le.slc0 1 _⟩, Le.slc0 3 _⟩⟩, .intI (by rw [(parE_1 w).1])⟩)) trivial rfl
  · rename_i q q2; have g1 := not_f ((hd_is s).symm.trans q); have g5 := hd_len g1; exact .of ⟨by omega, by omega⟩
  · rename_i q q2; have g1 := not_f ((hd_is s).symm.trans q); have g5 := hd_len g1; exact .of ⟨by omega, by omega⟩
  · rename_i q q2 q3; have g1 := not_f ((hd_is s).symm.trans q); have g5 := hd_len g1; exact .of ⟨by omega, by omega⟩
  · rename_i q q2 q3 q4
    have z : ¬ wd s 3 = toS [45] := of_decide_eq_false (not_t q3)
    have w := par_f3 z (not_t q4)
    exact .mk [] [] _ rfl (.le (.tups ⟨⟨trivial, by rw [(parE_1 w).2]; exact .aggs ⟨⟨⟨⟨⟨trivial, .refl _⟩, .refl _⟩, .refl _⟩, Le.slc0 1 _⟩, Le.slc0 3 _⟩⟩, .intI (by rw [(parE_1 w).1])⟩)) trivial rfl
  · rename_i q q2 q3 q4
    have g1 := not_f ((hd_is s).symm.trans q); have g5 := hd_len g1; rw [dt_is] at q2; have g2 := not_f q2
    have z : ¬ wd s 3 = toS [45] := of_decide_eq_false (not_t q3)
    clear q q2 q3
    have g3 : exB s = true := ex_1 (not_f q4)
    refine ⟨Nat, fun i => match i with | 0 => ([(2, .ptr 0 0), (4, .int .i64 7), (5, sRow (cutS 32 s)), (10, .ptr 1 0), (11, .int .i64 ((4 + 0 : Nat) : Int))], [.box [.int .i64 0, .int .i64 0, .bool false, .slc0, .slc0], .box [.int .i64 (nV (wd s 0)), .int .i64 (nV (wd s 1)), .bool (decide (wd s 2 = toS fixW)), iRow (exV s), .slc0]]) | i + 1 => ([(2, .ptr 0 0), (4, .int .i64 7), (5, sRow (cutS 32 s)), (10, .ptr 1 0), (11, .int .i64 ((4 + (i + 1) : Nat) : Int))], [.box [.int .i64 0, .int .i64 0, .bool false, .slc0, .slc0], .box [.int .i64 (nV (wd s 0)), .int .i64 (nV (wd s 1)), .bool (decide (wd s 2 = toS fixW)), iRow (exV s), .own 2 (i + 1)], .list 72 3 (i + 1) (fun a j => tbl (segC (sgv s a)) j) (i + 1)]), fun i => 4 + i ≤ (cutS 32 s).length ∧ ∀ j, j < i → segB (wd s (4 + j)) = true, fun i => (cutS 32 s).length - i, ⟨0, ⟨by omega, fun _ h => by omega⟩, .le ⟨rfl, ⟨.refl _, .boxes ⟨.refl _, .refl _, .refl _, (by rw [exV_1 z (not_f q4)]; exact .refl _), .refl _, trivial⟩, trivial⟩, ⟨.refl _, .refl _, .refl _, .refl _, .refl _, trivial⟩⟩⟩, fun i ⟨hi, h0⟩ => ?_⟩
    rcases i with _ | i
    · skip
      repeat' (first
        | ((with_reducible refine (?_ : Alt _ _)); first | ((with_reducible apply callAlt (c33 hX (wd s (4 + 0)) (Side.mk (Nat.le_trans (wd_size s _) hs)))); case hl => (first | exact AllLe.refl _ | ((repeat' (first | exact trivial | apply Le.aggs | apply Le.tups | apply Le.fns | exact Le.refl _ | refine ⟨?_, ?_⟩)); done))) | (with_reducible refine Alt.one ?_))
        | ((with_reducible refine (?_ : AllLe _ _)); first | (first | exact AllLe.refl _ | (repeat' (first | exact trivial | apply Le.aggs | apply Le.tups | apply Le.fns | exact Le.refl _ | refine ⟨?_, ?_⟩))))
        | ((with_reducible refine (?_ : Sc _ (AllRen _ _ _))); refine Sc.of ?_; first | (repeat' (first | exact trivial | apply Le.aggs | apply Le.tups | apply Le.fns | exact Le.refl _ | refine ⟨?_, ?_⟩)))
        | ((with_reducible refine (?_ : (List.all _ _) = true)); rfl)
        | ((with_reducible refine (?_ : (and _ _) = true)); rfl)
        | ((with_reducible refine (?_ : List.Nodup _)); exact nodupB_spec rfl)
        | ((with_reducible refine (?_ : @Eq Nat _ _)); rfl)
        | ((with_reducible refine (?_ : @Eq (List (Option HObj)) _ _)); kernel_rfl)
        | ((with_reducible refine (?_ : LeOks _ _ _)); first | exact trivial | exact ⟨.refl _, trivial⟩ | exact ⟨.refl _, .refl _, trivial⟩)
        | ((fail_if_success with_reducible refine Stop.go ?_); (first | with_reducible refine And.intro ?_ ?_ | with_reducible refine Cut.go ?_ | (with_reducible (refine impI ?_; intro _)) | (with_reducible refine (?_ : footOK _ _ = true); kernel_rfl) | ((with_reducible refine propI ?_); conv => whnf))))
      all_goals try (exact .of (Nat.le_of_ble_eq_true rfl))
      all_goals try ((with_reducible refine (?_ : Sc _ _)); rename_i q; have q := of_decide_eq_true q; refine Sc.of ?_; exact ⟨by omega, by omega⟩)
      all_goals try ((with_reducible refine (?_ : Sc _ _)); rename_i q q2; have q := of_decide_eq_true q; rw [seg_is] at q2; have y := seg_yes (not_f q2); refine Sc.of ?_; first | exact ⟨by omega, by omega⟩ | exact ⟨Nat.le_of_ble_eq_true rfl, Nat.le_of_ble_eq_true rfl⟩ | exact ⟨show (0 + (0 + 1)) * 24 ≤ 140737488355328 by omega, show 0 + (0 + 1) ≤ 9223372036854775807 by omega⟩)
      all_goals try (refine Sc.imp fun w => ?_; rename_i q; have q := of_decide_eq_true q; exact ⟨by omega, by omega⟩)
      · rename_i q q2; have q := of_decide_eq_true q
        rw [seg_is] at q2
        have w := par_f4 (by omega) (not_t q2)
        exact .mk [] [] _ rfl (.le (.tups ⟨⟨trivial, by rw [(parE_1 w).2]; exact .aggs ⟨⟨⟨⟨⟨trivial, .refl _⟩, .refl _⟩, .refl _⟩, Le.slc0 1 _⟩, Le.slc0 3 _⟩⟩, .intI (by rw [(parE_1 w).1])⟩)) trivial rfl
      · rename_i q q2; have q := of_decide_eq_true q
        rw [seg_is] at q2
        refine ⟨0 + 1, ⟨by omega, all_lt h0 (not_f q2)⟩, by show (cutS 32 s).length - (0 + 1) < (cutS 32 s).length - (0); omega, .le ⟨rfl, ⟨.refl _, .refl _, .list (fun a j ha hj => ?_), trivial⟩, ⟨.refl _, .refl _, .refl _, .refl _, .intI (by first | rfl | omega), trivial⟩⟩⟩
        replace ha : a < 1 := by omega
        obtain rfl : a = 0 := by omega
        show Le (tbl (segC (sgv s 0)) (0 * 3 + j)) (tbl (segC (sgv s 0)) j); rw [Nat.zero_mul, Nat.zero_add]; exact .refl _
      · rename_i q; have q := of_decide_eq_false q; omega

    · skip
      repeat' (first
        | ((with_reducible refine (?_ : Alt _ _)); first | ((with_reducible apply callAlt (c33 hX (wd s (4 + (i + 1))) (Side.mk (Nat.le_trans (wd_size s _) hs)))); case hl => (first | exact AllLe.refl _ | ((repeat' (first | exact trivial | apply Le.aggs | apply Le.tups | apply Le.fns | exact Le.refl _ | refine ⟨?_, ?_⟩)); done))) | (with_reducible refine Alt.one ?_))
        | ((with_reducible refine (?_ : AllLe _ _)); first | (first | exact AllLe.refl _ | (repeat' (first | exact trivial | apply Le.aggs | apply Le.tups | apply Le.fns | exact Le.refl _ | refine ⟨?_, ?_⟩))))
        | ((with_reducible refine (?_ : Sc _ (AllRen _ _ _))); refine Sc.of ?_; first | (repeat' (first | exact trivial | apply Le.aggs | apply Le.tups | apply Le.fns | exact Le.refl _ | refine ⟨?_, ?_⟩)))
        | ((with_reducible refine (?_ : (List.all _ _) = true)); rfl)
        | ((with_reducible refine (?_ : (and _ _) = true)); rfl)
        | ((with_reducible refine (?_ : List.Nodup _)); exact nodupB_spec rfl)
        | ((with_reducible refine (?_ : @Eq Nat _ _)); rfl)
        | ((with_reducible refine (?_ : @Eq (List (Option HObj)) _ _)); kernel_rfl)
        | ((with_reducible refine (?_ : LeOks _ _ _)); first | exact trivial | exact ⟨.refl _, trivial⟩ | exact ⟨.refl _, .refl _, trivial⟩)
        | ((fail_if_success with_reducible refine Stop.go ?_); (first | rw [beqvv (i + 1)] | rw [beqvv i] | with_reducible refine And.intro ?_ ?_ | with_reducible refine Cut.go ?_ | (with_reducible (refine impI ?_; intro _)) | (with_reducible refine (?_ : footOK _ _ = true); kernel_rfl) | ((with_reducible refine propI ?_); conv => whnf))))
      all_goals try (exact .of (Nat.le_of_ble_eq_true rfl))
      all_goals try ((with_reducible refine (?_ : Sc _ _)); rename_i q; have q := of_decide_eq_true q; refine Sc.of ?_; exact ⟨by omega, by omega⟩)
      all_goals try ((with_reducible refine (?_ : Sc _ _)); rename_i q q2; have q := of_decide_eq_true q; rw [seg_is] at q2; have y := seg_yes (not_f q2); refine Sc.of ?_; first | exact ⟨by omega, by omega⟩ | exact ⟨Nat.le_of_ble_eq_true rfl, Nat.le_of_ble_eq_true rfl⟩ | exact ⟨show ((i + 1) + (0 + 1)) * 24 ≤ 140737488355328 by omega, show (i + 1) + (0 + 1) ≤ 9223372036854775807 by omega⟩)
      all_goals try (refine Sc.imp fun w => ?_; rename_i q; have q := of_decide_eq_true q; exact ⟨by omega, by omega⟩)
      · rename_i q q2; have q := of_decide_eq_true q
        rw [seg_is] at q2
        have w := par_f4 (by omega) (not_t q2)
        exact .mk [] [] _ rfl (.le (.tups ⟨⟨trivial, by rw [(parE_1 w).2]; exact .aggs ⟨⟨⟨⟨⟨trivial, .refl _⟩, .refl _⟩, .refl _⟩, Le.slc0 1 _⟩, Le.slc0 3 _⟩⟩, .intI (by rw [(parE_1 w).1])⟩)) trivial rfl
      · rename_i q q2; have q := of_decide_eq_true q
        rw [seg_is] at q2
        refine ⟨(i + 1) + 1, ⟨by omega, all_lt h0 (not_f q2)⟩, by show (cutS 32 s).length - ((i + 1) + 1) < (cutS 32 s).length - ((i + 1)); omega, .le ⟨rfl, ⟨.refl _, .refl _, .list (fun a j ha hj => ?_), trivial⟩, ⟨.refl _, .refl _, .refl _, .refl _, .intI (by first | rfl | omega), trivial⟩⟩⟩
        exact Le.ofEq (push_sg (fun j => rfl) ha)
        skip
        skip
      · rename_i q; have q := of_decide_eq_false q
        have w := par_t g1 g2 g3 (fun j hj => h0 j (by omega))
        refine .mk [] [2] _ rfl (.tups ⟨⟨trivial, ?_⟩, .le (.intI (by rw [(parE_0 w).1]))⟩) trivial rfl
        rw [(parE_0 w).2]
        refine .aggs (n := 5) ⟨⟨⟨⟨⟨trivial, .le (.refl _)⟩, .le (.refl _)⟩, .le (.refl _)⟩, .le (.refl _)⟩, ?_⟩
        show LeH _ _ (segS ((List.range (wn s - 4)).map fun i => segV (wd s (4 + i))))
        have hl : ((List.range (wn s - 4)).map fun i => segV (wd s (4 + i))).length = i + 1 := by simp [wn]; omega
        unfold segS
        rw [hl]
        refine .own rfl fun a j ha hj => ?_
        have e : ((List.range (wn s - 4)).map fun i => segV (wd s (4 + i))).getD a seg0 = segV (wd s (4 + a)) := by
          have : a < wn s - 4 := by unfold wn; omega
          simp [List.getD_eq_getElem?_getD, this]
        rw [e, ← sgv_is (h0 a (by omega))]
        exact .refl _

  · rename_i q q2 q3
    have g1 := not_f ((hd_is s).symm.trans q); have g5 := hd_len g1; rw [dt_is] at q2; have g2 := not_f q2
    have z : wd s 3 = toS [45] := of_decide_eq_true (not_f q3)
    clear q q2 q3
    have g3 : exB s = true := ex_0 z
    refine ⟨Nat, fun i => match i with | 0 => ([(2, .ptr 0 0), (4, .int .i64 7), (5, sRow (cutS 32 s)), (10, .ptr 1 0), (11, .int .i64 ((4 + 0 : Nat) : Int))], [.box [.int .i64 0, .int .i64 0, .bool false, .slc0, .slc0], .box [.int .i64 (nV (wd s 0)), .int .i64 (nV (wd s 1)), .bool (decide (wd s 2 = toS fixW)), iRow (exV s), .slc0]]) | i + 1 => ([(2, .ptr 0 0), (4, .int .i64 7), (5, sRow (cutS 32 s)), (10, .ptr 1 0), (11, .int .i64 ((4 + (i + 1) : Nat) : Int))], [.box [.int .i64 0, .int .i64 0, .bool false, .slc0, .slc0], .box [.int .i64 (nV (wd s 0)), .int .i64 (nV (wd s 1)), .bool (decide (wd s 2 = toS fixW)), iRow (exV s), .own 2 (i + 1)], .list 72 3 (i + 1) (fun a j => tbl (segC (sgv s a)) j) (i + 1)]), fun i => 4 + i ≤ (cutS 32 s).length ∧ ∀ j, j < i → segB (wd s (4 + j)) = true, fun i => (cutS 32 s).length - i, ⟨0, ⟨by omega, fun _ h => by omega⟩, .le ⟨rfl, ⟨.refl _, .boxes ⟨.refl _, .refl _, .refl _, (by rw [exV_0 z]; exact Le.slc0 1 _), .refl _, trivial⟩, trivial⟩, ⟨.refl _, .refl _, .refl _, .refl _, .refl _, trivial⟩⟩⟩, fun i ⟨hi, h0⟩ => ?_⟩
    rcases i with _ | i
    · skip
      repeat' (first
        | ((with_reducible refine (?_ : Alt _ _)); first | ((with_reducible apply callAlt (c33 hX (wd s (4 + 0)) (Side.mk (Nat.le_trans (wd_size s _) hs)))); case hl => (first | exact AllLe.refl _ | ((repeat' (first | exact trivial | apply Le.aggs | apply Le.tups | apply Le.fns | exact Le.refl _ | refine ⟨?_, ?_⟩)); done))) | (with_reducible refine Alt.one ?_))
        | ((with_reducible refine (?_ : AllLe _ _)); first | (first | exact AllLe.refl _ | (repeat' (first | exact trivial | apply Le.aggs | apply Le.tups | apply Le.fns | exact Le.refl _ | refine ⟨?_, ?_⟩))))
        | ((with_reducible refine (?_ : Sc _ (AllRen _ _ _))); refine Sc.of ?_; first | (repeat' (first | exact trivial | apply Le.aggs | apply Le.tups | apply Le.fns | exact Le.refl _ | refine ⟨?_, ?_⟩)))
        | ((with_reducible refine (?_ : (List.all _ _) = true)); rfl)
        | ((with_reducible refine (?_ : (and _ _) = true)); rfl)
        | ((with_reducible refine (?_ : List.Nodup _)); exact nodupB_spec rfl)
        | ((with_reducible refine (?_ : @Eq Nat _ _)); rfl)
        | ((with_reducible refine (?_ : @Eq (List (Option HObj)) _ _)); kernel_rfl)
        | ((with_reducible refine (?_ : LeOks _ _ _)); first | exact trivial | exact ⟨.refl _, trivial⟩ | exact ⟨.refl _, .refl _, trivial⟩)
        | ((fail_if_success with_reducible refine Stop.go ?_); (first | with_reducible refine And.intro ?_ ?_ | with_reducible refine Cut.go ?_ | (with_reducible (refine impI ?_; intro _)) | (with_reducible refine (?_ : footOK _ _ = true); kernel_rfl) | ((with_reducible refine propI ?_); conv => whnf))))
      all_goals try (exact .of (Nat.le_of_ble_eq_true rfl))
      all_goals try ((with_reducible refine (?_ : Sc _ _)); rename_i q; have q := of_decide_eq_true q; refine Sc.of ?_; exact ⟨by omega, by omega⟩)
      all_goals try ((with_reducible refine (?_ : Sc _ _)); rename_i q q2; have q := of_decide_eq_true q; rw [seg_is] at q2; have y := seg_yes (not_f q2); refine Sc.of ?_; first | exact ⟨by omega, by omega⟩ | exact ⟨Nat.le_of_ble_eq_true rfl, Nat.le_of_ble_eq_true rfl⟩ | exact ⟨show (0 + (0 + 1)) * 24 ≤ 140737488355328 by omega, show 0 + (0 + 1) ≤ 9223372036854775807 by omega⟩)
      all_goals try (refine Sc.imp fun w => ?_; rename_i q; have q := of_decide_eq_true q; exact ⟨by omega, by omega⟩)
      · rename_i q q2; have q := of_decide_eq_true q
        rw [seg_is] at q2
        have w := par_f4 (by omega) (not_t q2)
        exact .mk [] [] _ rfl (.le (.tups ⟨⟨trivial, by rw [(parE_1 w).2]; exact .aggs ⟨⟨⟨⟨⟨trivial, .refl _⟩, .refl _⟩, .refl _⟩, Le.slc0 1 _⟩, Le.slc0 3 _⟩⟩, .intI (by rw [(parE_1 w).1])⟩)) trivial rfl
      · rename_i q q2; have q := of_decide_eq_true q
        rw [seg_is] at q2
        refine ⟨0 + 1, ⟨by omega, all_lt h0 (not_f q2)⟩, by show (cutS 32 s).length - (0 + 1) < (cutS 32 s).length - (0); omega, .le ⟨rfl, ⟨.refl _, .refl _, .list (fun a j ha hj => ?_), trivial⟩, ⟨.refl _, .refl _, .refl _, .refl _, .intI (by first | rfl | omega), trivial⟩⟩⟩
        replace ha : a < 1 := by omega
        obtain rfl : a = 0 := by omega
        show Le (tbl (segC (sgv s 0)) (0 * 3 + j)) (tbl (segC (sgv s 0)) j); rw [Nat.zero_mul, Nat.zero_add]; exact .refl _
      · rename_i q; have q := of_decide_eq_false q; omega

    · skip
      repeat' (first
        | ((with_reducible refine (?_ : Alt _ _)); first | ((with_reducible apply callAlt (c33 hX (wd s (4 + (i + 1))) (Side.mk (Nat.le_trans (wd_size s _) hs)))); case hl => (first | exact AllLe.refl _ | ((repeat' (first | exact trivial | apply Le.aggs | apply Le.tups | apply Le.fns | exact Le.refl _ | refine ⟨?_, ?_⟩)); done))) | (with_reducible refine Alt.one ?_))
        | ((with_reducible refine (?_ : AllLe _ _)); first | (first | exact AllLe.refl _ | (repeat' (first | exact trivial | apply Le.aggs | apply Le.tups | apply Le.fns | exact Le.refl _ | refine ⟨?_, ?_⟩))))
        | ((with_reducible refine (?_ : Sc _ (AllRen _ _ _))); refine Sc.of ?_; first | (repeat' (first | exact trivial | apply Le.aggs | apply Le.tups | apply Le.fns | exact Le.refl _ | refine ⟨?_, ?_⟩)))
        | ((with_reducible refine (?_ : (List.all _ _) = true)); rfl)
        | ((with_reducible refine (?_ : (and _ _) = true)); rfl)
        | ((with_reducible refine (?_ : List.Nodup _)); exact nodupB_spec rfl)
        | ((with_reducible refine (?_ : @Eq Nat _ _)); rfl)
        | ((with_reducible refine (?_ : @Eq (List (Option HObj)) _ _)); kernel_rfl)
        | ((with_reducible refine (?_ : LeOks _ _ _)); first | exact trivial | exact ⟨.refl _, trivial⟩ | exact ⟨.refl _, .refl _, trivial⟩)
        | ((fail_if_success with_reducible refine Stop.go ?_); (first | rw [beqvv (i + 1)] | rw [beqvv i] | with_reducible refine And.intro ?_ ?_ | with_reducible refine Cut.go ?_ | (with_reducible (refine impI ?_; intro _)) | (with_reducible refine (?_ : footOK _ _ = true); kernel_rfl) | ((with_reducible refine propI ?_); conv => whnf))))
      all_goals try (exact .of (Nat.le_of_ble_eq_true rfl))
      all_goals try ((with_reducible refine (?_ : Sc _ _)); rename_i q; have q := of_decide_eq_true q; refine Sc.of ?_; exact ⟨by omega, by omega⟩)
      all_goals try ((with_reducible refine (?_ : Sc _ _)); rename_i q q2; have q := of_decide_eq_true q; rw [seg_is] at q2; have y := seg_yes (not_f q2); refine Sc.of ?_; first | exact ⟨by omega, by omega⟩ | exact ⟨Nat.le_of_ble_eq_true rfl, Nat.le_of_ble_eq_true rfl⟩ | exact ⟨show ((i + 1) + (0 + 1)) * 24 ≤ 140737488355328 by omega, show (i + 1) + (0 + 1) ≤ 9223372036854775807 by omega⟩)
      all_goals try (refine Sc.imp fun w => ?_; rename_i q; have q := of_decide_eq_true q; exact ⟨by omega, by omega⟩)
      · rename_i q q2; have q := of_decide_eq_true q
        rw [seg_is] at q2
        have w := par_f4 (by omega) (not_t q2)
        exact .mk [] [] _ rfl (.le (.tups ⟨⟨trivial, by rw [(parE_1 w).2]; exact .aggs ⟨⟨⟨⟨⟨trivial, .refl _⟩, .refl _⟩, .refl _⟩, Le.slc0 1 _⟩, Le.slc0 3 _⟩⟩, .intI (by rw [(parE_1 w).1])⟩)) trivial rfl
      · rename_i q q2; have q := of_decide_eq_true q
        rw [seg_is] at q2
        refine ⟨(i + 1) + 1, ⟨by omega, all_lt h0 (not_f q2)⟩, by show (cutS 32 s).length - ((i + 1) + 1) < (cutS 32 s).length - ((i + 1)); omega, .le ⟨rfl, ⟨.refl _, .refl _, .list (fun a j ha hj => ?_), trivial⟩, ⟨.refl _, .refl _, .refl _, .refl _, .intI (by first | rfl | omega), trivial⟩⟩⟩
        exact Le.ofEq (push_sg (fun j => rfl) ha)
        skip
        skip
      · rename_i q; have q := of_decide_eq_false q
        have w := par_t g1 g2 g3 (fun j hj => h0 j (by omega))
        refine .mk [] [2] _ rfl (.tups ⟨⟨trivial, ?_⟩, .le (.intI (by rw [(parE_0 w).1]))⟩) trivial rfl
        rw [(parE_0 w).2]
        refine .aggs (n := 5) ⟨⟨⟨⟨⟨trivial, .le (.refl _)⟩, .le (.refl _)⟩, .le (.refl _)⟩, .le (.refl _)⟩, ?_⟩
        show LeH _ _ (segS ((List.range (wn s - 4)).map fun i => segV (wd s (4 + i))))
        have hl : ((List.range (wn s - 4)).map fun i => segV (wd s (4 + i))).length = i + 1 := by simp [wn]; omega
        unfold segS
        rw [hl]
        refine .own rfl fun a j ha hj => ?_
        have e : ((List.range (wn s - 4)).map fun i => segV (wd s (4 + i))).getD a seg0 = segV (wd s (4 + a)) := by
          have : a < wn s - 4 := by unfold wn; omega
          simp [List.getD_eq_getElem?_getD, this]
        rw [e, ← sgv_is (h0 a (by omega))]
        exact .refl _


end
end Go.Fx
