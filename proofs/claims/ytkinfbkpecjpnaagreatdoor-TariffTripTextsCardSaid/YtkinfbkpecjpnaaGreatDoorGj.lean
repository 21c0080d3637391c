/-
  The program reads numbers.
-/
import Derived.Test.YtkinfbkpecjpnaaGreatDoorGi

set_option linter.all false

/-
  Numbers with commas between, as the program reads them.
-/
namespace Go.Fx
open Go.Proofs Go.RowKit
theorem idx_two (r : ByteArray) : Lib.indexByte r.data.toList 44 = -1 ∨ ∃ i : Nat, Lib.indexByte r.data.toList 44 = i := by
  have := Lib.indexByte_ge r.data.toList 44
  by_cases h : Lib.indexByte r.data.toList 44 = -1
  · exact .inl h
  · exact .inr ⟨(Lib.indexByte r.data.toList 44).toNat, by omega⟩
theorem cond_ok {w p : ByteArray} {v : Int} (e : p = w) (hv : Lib.atoiAll w.data.toList = .ok v) : (bif (bif false then true else !decide (toS (Lib.itoa v) = p)) then true else decide ((9 : Int) < ((toS (Lib.trimPrefix w.data.toList [45])).size : Nat))) = !nB w := by
  subst e
  rw [toS_size]
  by_cases h1 : Lib.itoa v = p.data.toList
  · have h1' : toS (Lib.itoa v) = p := by rw [h1, toS_data]
    rw [decide_eq_true h1']
    by_cases h2 : (Lib.trimPrefix p.data.toList [45]).length ≤ 9
    · have k := prog_num.1 ⟨hv, h1, h2⟩
      rw [decide_eq_false (by omega)]
      unfold nB numB; rw [k]; rfl
    · rw [decide_eq_true (by omega)]
      cases hn : nB p with
      | false => rfl
      | true => exact absurd (prog_num.2 (num_is hn)).2.2 h2
  · have h1' : ¬ toS (Lib.itoa v) = p := fun h => h1 (by rw [← h]; rfl)
    rw [decide_eq_false h1']
    cases hn : nB p with
    | false => rfl
    | true =>
      have k := prog_num.2 (num_is hn)
      rw [hv] at k
      have e := Lib.NumEnd.ok.inj k.1
      rw [e] at h1
      exact absurd k.2.1 h1
theorem cond_v {w : ByteArray} {v : Int} (hv : Lib.atoiAll w.data.toList = .ok v) (h : nB w = true) : v = nV w := by
  have k := (prog_num.2 (num_is h)).1
  rw [hv] at k
  exact Lib.NumEnd.ok.inj k
theorem cond_err {w : ByteArray} (hv : ∀ v, Lib.atoiAll w.data.toList ≠ .ok v) : nB w = false := by
  cases hn : nB w with
  | false => rfl
  | true => exact absurd (num_atoi (num_is hn)) (hv _)
theorem atoN_in (w : ByteArray) : inK .i64 (atoN w) := by
  show -9223372036854775808 ≤ atoN w ∧ atoN w ≤ 9223372036854775807
  unfold atoN Lib.atoiSat
  split
  · split <;> exact ⟨by decide, by decide⟩
  · exact ⟨by decide, by decide⟩
theorem atoi_two (w : ByteArray) : (∃ v, Lib.atoiAll w.data.toList = .ok v) ∨ ∀ v, Lib.atoiAll w.data.toList ≠ .ok v := by
  by_cases h : ∃ v, Lib.atoiAll w.data.toList = .ok v
  · exact .inl h
  · exact .inr fun v hv => h ⟨v, hv⟩
theorem nx_neg {s r : ByteArray} {k : Nat} (h : (cutS 44 s).drop k = cutS 44 r) (hi : Lib.indexByte r.data.toList 44 = -1) : r = cp s k ∧ k + 1 = (cutS 44 s).length := by
  have e : cutS 44 r = [r] := by rw [cutS_of (cut_miss hi)]; simp [toS_data]
  rw [e] at h
  have hl := congrArg List.length h
  simp only [List.length_drop, List.length_cons, List.length_nil] at hl
  refine ⟨?_, by omega⟩
  unfold cp
  have := congrArg (fun l => l.getD 0 bs0) h
  simp only [List.getD_eq_getElem?_getD, List.getElem?_drop, Nat.add_zero] at this
  rw [List.getD_eq_getElem?_getD, this]; rfl
theorem nx_pos {s r : ByteArray} {k i : Nat} (h : (cutS 44 s).drop k = cutS 44 r) (hi : Lib.indexByte r.data.toList 44 = i) : r.extract 0 ((i : Int) + 0).toNat = cp s k ∧ (cutS 44 s).drop (k + 1) = cutS 44 (r.extract (i + 1) r.size) ∧ k + 1 < (cutS 44 s).length ∧ i < r.size := by
  obtain ⟨h1, h2⟩ := cut_hit hi
  have e0 : cutS 44 (r.extract (i + 1) r.size) = (cut 44 (r.data.toList.drop (i + 1))).map toS := cutS_of (by
    rw [Lib.extract_data, size_len r, List.take_of_length_le (by rw [List.length_drop]; omega)])
  have e : cutS 44 r = toS (r.data.toList.take i) :: cutS 44 (r.extract (i + 1) r.size) := by rw [cutS_of h2, e0]; rfl
  rw [e] at h
  have hd : (cutS 44 s).drop (k + 1) = cutS 44 (r.extract (i + 1) r.size) := by
    rw [← List.tail_drop, h]; rfl
  refine ⟨?_, hd, ?_, by rw [size_len]; exact h1⟩
  · have := congrArg (fun l => l.getD 0 bs0) h
    simp only [List.getD_eq_getElem?_getD, List.getElem?_drop, Nat.add_zero] at this
    unfold cp
    rw [List.getD_eq_getElem?_getD, this, show ((i : Int) + 0).toNat = i by omega, ext_seg]
    simp [seg]
  · have hl := congrArg List.length hd
    have := cutS_pos 44 (r.extract (i + 1) r.size)
    rw [List.length_drop] at hl
    omega
section
variable {W0 : World} {G : Nat → Option AV} (hX : (Xc W0 G).Good) (hl : Laid W0)
include hX hl
theorem c123 (s p : ByteArray) : Mut (Xc W0 G) 123 [.str s, .str p, .int .i64 0] [] (.fn 163 3 (tbl [.ptr 1 0, .ptr 0 0, .ptr 2 0])) [.box [.str s], .box [.str p], .box [.int .i64 0]] := by
  refine mut_of' hX (show FnIs (Xc W0 G) 123 Tryz.f123 (codeOf Tryz.f123) from ⟨by kernel_rfl, by kernel_rfl, by kernel_rfl, by kernel_rfl⟩) rfl ?_
  repeat' (first
    | ((with_reducible refine (?_ : Alt _ _)); first | fail | (with_reducible refine Alt.one ?_))
    | ((with_reducible refine (?_ : AllLe _ _)); first | (first | exact AllLe.refl _ | (repeat' (first | exact trivial | apply Le.aggs | apply Le.tups | apply Le.fns | exact Le.refl _ | refine ⟨?_, ?_⟩))))
    | ((with_reducible refine (?_ : Sc _ (AllRen _ _ _))); refine Sc.of ?_; first | (repeat' (first | exact trivial | apply Le.aggs | apply Le.tups | apply Le.fns | exact Le.refl _ | refine ⟨?_, ?_⟩)))
    | ((with_reducible refine (?_ : (List.all _ _) = true)); rfl)
    | ((with_reducible refine (?_ : (and _ _) = true)); rfl)
    | ((with_reducible refine (?_ : List.Nodup _)); exact nodupB_spec rfl)
    | ((with_reducible refine (?_ : @Eq Nat _ _)); rfl)
    | ((with_reducible refine (?_ : @Eq (List (Option HObj)) _ _)); kernel_rfl)
    | ((with_reducible refine (?_ : LeOks _ _ _)); first | exact trivial | exact ⟨.refl _, trivial⟩ | exact ⟨.refl _, .refl _, trivial⟩)
    | ((fail_if_success with_reducible refine Stop.go ?_); (first | with_reducible refine And.intro ?_ ?_ | with_reducible refine Cut.go ?_ | (with_reducible (refine impI ?_; intro _)) | (with_reducible refine (?_ : footOK _ _ = true); kernel_rfl) | ((with_reducible refine propI ?_); conv => whnf))))
  all_goals try (exact .of (Nat.le_of_ble_eq_true rfl))
  all_goals exact .mk [0, 1, 2] [] _ rfl (.le (.fns ⟨⟨⟨trivial, .refl _⟩, .refl _⟩, .refl _⟩)) ⟨.le (.refl _), .le (.refl _), .le (.refl _), trivial⟩ rfl
theorem c64 (s p : ByteArray) : Mut (Xc W0 G) 64 [.str s, .str p] [] (.fn 163 3 (tbl [.ptr 1 0, .ptr 0 0, .ptr 2 0])) [.box [.str s], .box [.str p], .box [.int .i64 0]] := by
  refine mut_of' hX (show FnIs (Xc W0 G) 64 Tryz.f64 (codeOf Tryz.f64) from ⟨by kernel_rfl, by kernel_rfl, by kernel_rfl, by kernel_rfl⟩) rfl ?_
  repeat' (first
    | ((with_reducible refine (?_ : Alt _ _)); first | (with_reducible (apply altM (ks := []) (m := 3); apply And.intro; apply Sc.of; apply (c123 hX hl s p))) | (with_reducible refine Alt.one ?_))
    | ((with_reducible refine (?_ : AllLe _ _)); first | (first | exact AllLe.refl _ | (repeat' (first | exact trivial | apply Le.aggs | apply Le.tups | apply Le.fns | exact Le.refl _ | refine ⟨?_, ?_⟩))))
    | ((with_reducible refine (?_ : Sc _ (AllRen _ _ _))); refine Sc.of ?_; first | (repeat' (first | exact trivial | apply Le.aggs | apply Le.tups | apply Le.fns | exact Le.refl _ | refine ⟨?_, ?_⟩)))
    | ((with_reducible refine (?_ : (List.all _ _) = true)); rfl)
    | ((with_reducible refine (?_ : (and _ _) = true)); rfl)
    | ((with_reducible refine (?_ : List.Nodup _)); exact nodupB_spec rfl)
    | ((with_reducible refine (?_ : @Eq Nat _ _)); rfl)
    | ((with_reducible refine (?_ : @Eq (List (Option HObj)) _ _)); kernel_rfl)
    | ((with_reducible refine (?_ : LeOks _ _ _)); first | exact trivial | exact ⟨.refl _, trivial⟩ | exact ⟨.refl _, .refl _, trivial⟩)
    | ((fail_if_success with_reducible refine Stop.go ?_); (first | with_reducible refine And.intro ?_ ?_ | with_reducible refine Cut.go ?_ | (with_reducible (refine impI ?_; intro _)) | (with_reducible refine (?_ : footOK _ _ = true); kernel_rfl) | ((with_reducible refine propI ?_); conv => whnf))))
  all_goals try (exact .of (Nat.le_of_ble_eq_true rfl))
  all_goals exact .mk [0, 1, 2] [] _ rfl (.le (.fns ⟨⟨⟨trivial, .refl _⟩, .refl _⟩, .refl _⟩)) ⟨.le (.refl _), .le (.refl _), .le (.refl _), trivial⟩ rfl
set_option maxHeartbeats 16000000 in
theorem c30 (s : ByteArray) (hs : Side (s.size ≤ 1000000)) : Pure (Xc W0 G) 30 [.str s] (.tup 2 (tbl [iRow (nsW s), .bool (nsB s)])) := by
  have hs := hs.get
  have hq := cutS_len_le 44 s
  refine mut_of' hX (show FnIs (Xc W0 G) 30 Tryz.f30 (codeOf Tryz.f30) from ⟨by kernel_rfl, by kernel_rfl, by kernel_rfl, by kernel_rfl⟩) rfl ?_
  repeat' (first
    | ((with_reducible refine (?_ : Alt _ _)); first | (with_reducible (apply altM (ks := []) (m := 3); apply And.intro; apply Sc.of; apply (c64 hX hl s (toS [44])))) | (with_reducible refine Alt.one ?_))
    | ((with_reducible refine (?_ : AllLe _ _)); first | (first | exact AllLe.refl _ | (repeat' (first | exact trivial | apply Le.aggs | apply Le.tups | apply Le.fns | exact Le.refl _ | refine ⟨?_, ?_⟩))))
    | ((with_reducible refine (?_ : Sc _ (AllRen _ _ _))); refine Sc.of ?_; first | (repeat' (first | exact trivial | apply Le.aggs | apply Le.tups | apply Le.fns | exact Le.refl _ | refine ⟨?_, ?_⟩)))
    | ((with_reducible refine (?_ : (List.all _ _) = true)); rfl)
    | ((with_reducible refine (?_ : (and _ _) = true)); rfl)
    | ((with_reducible refine (?_ : List.Nodup _)); exact nodupB_spec rfl)
    | ((with_reducible refine (?_ : @Eq Nat _ _)); rfl)
    | ((with_reducible refine (?_ : @Eq (List (Option HObj)) _ _)); kernel_rfl)
    | ((with_reducible refine (?_ : LeOks _ _ _)); first | exact trivial | exact ⟨.refl _, trivial⟩ | exact ⟨.refl _, .refl _, trivial⟩)
    | ((fail_if_success with_reducible refine Stop.go ?_); (first | with_reducible refine And.intro ?_ ?_ | with_reducible refine Cut.go ?_ | (with_reducible (refine impI ?_; intro _)) | (with_reducible refine (?_ : footOK _ _ = true); kernel_rfl) | ((with_reducible refine propI ?_); conv => whnf))))
  all_goals try (exact .of (Nat.le_of_ble_eq_true rfl))
  refine ⟨_, _, (show FnIs (Xc W0 G) 163 Tryz.f163 (codeOf Tryz.f163) from ⟨by kernel_rfl, by kernel_rfl, by kernel_rfl, by kernel_rfl⟩), rfl, ?_⟩
  repeat' (first
    | ((with_reducible refine (?_ : Alt _ _)); first | fail | (with_reducible refine Alt.one ?_))
    | ((with_reducible refine (?_ : AllLe _ _)); first | (first | exact AllLe.refl _ | (repeat' (first | exact trivial | apply Le.aggs | apply Le.tups | apply Le.fns | exact Le.refl _ | refine ⟨?_, ?_⟩))))
    | ((with_reducible refine (?_ : Sc _ (AllRen _ _ _))); refine Sc.of ?_; first | (repeat' (first | exact trivial | apply Le.aggs | apply Le.tups | apply Le.fns | exact Le.refl _ | refine ⟨?_, ?_⟩)))
    | ((with_reducible refine (?_ : (List.all _ _) = true)); rfl)
    | ((with_reducible refine (?_ : (and _ _) = true)); rfl)
    | ((with_reducible refine (?_ : List.Nodup _)); exact nodupB_spec rfl)
    | ((with_reducible refine (?_ : @Eq Nat _ _)); rfl)
    | ((with_reducible refine (?_ : @Eq (List (Option HObj)) _ _)); kernel_rfl)
    | ((with_reducible refine (?_ : LeOks _ _ _)); first | exact trivial | exact ⟨.refl _, trivial⟩ | exact ⟨.refl _, .refl _, trivial⟩)
    | ((fail_if_success with_reducible refine Stop.go ?_); (first | with_reducible refine And.intro ?_ ?_ | with_reducible refine Cut.go ?_ | (with_reducible (refine impI ?_; intro _)) | (with_reducible refine (?_ : footOK _ _ = true); kernel_rfl) | ((with_reducible refine propI ?_); conv => whnf))))
  all_goals try (exact .of (Nat.le_of_ble_eq_true rfl))
  · rename_i q; exact absurd q (by decide)
  rename_i q; clear q
  generalize hL : HObj.lrec _ _ _ _ _ _ _ = L
  refine ⟨ByteArray ⊕ (ByteArray × Nat), fun y => match y with | .inl r => ([(0, .yld 6), (1, .ptr 4 0), (2, .ptr 3 0), (3, .ptr 5 0)], [.box [.slc0], .box [.bool false], .box [.slc0], .box [.str r], .box [.str (toS [44])], .box [.int .i64 0], L]) | .inr (r, k) => ([(0, .yld 6), (1, .ptr 4 0), (2, .ptr 3 0), (3, .ptr 5 0)], [.box [.slc0], .box [.bool false], .box [.own 7 k], .box [.str r], .box [.str (toS [44])], .box [.int .i64 0], L, .list 3 1 (k) (fun a _ => .int .i64 (nV (cp s a))) (k)]), fun y => match y with | .inl r => (cutS 44 s).drop 0 = cutS 44 r ∧ 0 < (cutS 44 s).length ∧ r.size ≤ s.size ∧ ∀ j, j < 0 → nB (cp s j) = true | .inr (r, k) => 0 < k ∧ (cutS 44 s).drop k = cutS 44 r ∧ k < (cutS 44 s).length ∧ r.size ≤ s.size ∧ ∀ j, j < k → nB (cp s j) = true, fun y => match y with | .inl r => (cutS 44 r).length | .inr (r, k) => (cutS 44 r).length, ⟨.inl s, ⟨rfl, cutS_pos 44 s, Nat.le_refl _, fun _ h => by omega⟩, ?_⟩, fun y hy => ?_⟩
  all_goals subst hL
  · exact .le ⟨rfl, ⟨.refl _, .refl _, .refl _, .refl _, .refl _, .refl _, .refl _, trivial⟩, ⟨.refl _, .refl _, .refl _, .refl _, trivial⟩⟩
  rcases y with r | ⟨r, k⟩
  · obtain ⟨h1, h2, h3, h4⟩ := hy
    rcases idx_two r with hi | hi
    · have w0 := nx_neg h1 hi
      obtain ⟨w, hwd⟩ : ∃ w, w = cp s 0 := ⟨_, rfl⟩
      have hw : Side (w.size ≤ 1000000) := Side.mk (by rw [hwd]; exact Nat.le_trans (cp_size s _) hs)
      have e1 : r = w := by rw [hwd]; exact w0.1
      rcases atoi_two w with ⟨v, hv⟩ | hv
      · skip
        repeat' (first
          | ((with_reducible refine (?_ : Alt _ _)); first | (with_reducible apply callAlt ((show Pure (Xc W0 G) 108 [.str r, .str (toS [44])] (.int .i64 (-1)) from hi ▸ c108 hl r))) | (with_reducible apply callAlt (c65o hl w v hw hv)) | (with_reducible apply callAlt (c24 hl v (Side.mk (atoi_in hv)))) | (with_reducible apply callAlt (c66 hl w)) | (with_reducible refine Alt.one ?_))
          | ((with_reducible refine (?_ : AllLe _ _)); first | exact ⟨Le.ofEq (congrArg AV.str e1), trivial⟩ | exact ⟨Le.ofEq (congrArg AV.str e1), .refl _, trivial⟩ | (first | exact AllLe.refl _ | (repeat' (first | exact trivial | apply Le.aggs | apply Le.tups | apply Le.fns | exact Le.refl _ | refine ⟨?_, ?_⟩))))
          | ((with_reducible refine (?_ : Sc _ (AllRen _ _ _))); refine Sc.of ?_; first | (repeat' (first | exact trivial | apply Le.aggs | apply Le.tups | apply Le.fns | exact Le.refl _ | refine ⟨?_, ?_⟩)))
          | ((with_reducible refine (?_ : (List.all _ _) = true)); rfl)
          | ((with_reducible refine (?_ : (and _ _) = true)); rfl)
          | ((with_reducible refine (?_ : List.Nodup _)); exact nodupB_spec rfl)
          | ((with_reducible refine (?_ : @Eq Nat _ _)); rfl)
          | ((with_reducible refine (?_ : @Eq (List (Option HObj)) _ _)); kernel_rfl)
          | ((with_reducible refine (?_ : LeOks _ _ _)); first | exact trivial | exact ⟨.refl _, trivial⟩ | exact ⟨.refl _, .refl _, trivial⟩)
          | ((fail_if_success with_reducible refine Stop.go ?_); (first | with_reducible refine And.intro ?_ ?_ | with_reducible refine Cut.go ?_ | (with_reducible (refine impI ?_; intro _); try (first | (exfalso; refine absurd (a := decide ((-1 : Int) < 0) = false) ?_ (by decide); assumption))) | (with_reducible refine (?_ : footOK _ _ = true); kernel_rfl) | ((with_reducible refine propI ?_); conv => whnf))))
        all_goals try (exact .of (Nat.le_of_ble_eq_true rfl))
        all_goals try (exfalso; refine absurd (a := decide ((-1 : Int) < 0) = false) ?_ (by decide); assumption)
        all_goals try ((with_reducible refine (?_ : Sc _ _)); first | exact .of ⟨Nat.le_of_ble_eq_true rfl, Nat.le_of_ble_eq_true rfl⟩ | exact .of ⟨by omega, by omega⟩ | exact .of ⟨by omega, by omega, by omega⟩ | (refine Sc.of ⟨show (0 + (0 + 1)) * 8 ≤ 140737488355328 by omega, show 0 + (0 + 1) ≤ 9223372036854775807 by omega⟩) | (have z : (toS [44]).size = 1 := rfl; first | exact .of ⟨by omega, by omega⟩ | exact .of ⟨by omega, by omega, by omega⟩))
        · rename_i c; replace c := (cond_ok e1 hv).symm.trans c
          have u := ns_bad h2 (by rw [← hwd]; exact not_t c)
          exact .mk [] [] _ rfl (.le (.tups ⟨⟨trivial, by rw [nsW_0 u]; exact Le.slc0 1 _⟩, .boolT u.symm⟩)) trivial rfl
        all_goals (rename_i c; replace c := (cond_ok e1 hv).symm.trans c; have cg := not_f c; have ev := cond_v hv cg; rw [hwd] at cg ev; have hg := all_lt h4 cg)
        · have hg2 : ∀ j, j < (cutS 44 s).length → nB (cp s j) = true := fun j hj => hg j (by omega)
          refine .mk [] [7] _ rfl (.tups ⟨⟨trivial, ?_⟩, .le (.boolT (ns_good hg2).symm)⟩) trivial rfl
          have hln : (nsW s).length = 0 + 1 := by rw [nsW_1 (ns_good hg2), nsV_len]; omega
          unfold iRow
          rw [hln]
          refine .own rfl fun a j ha hj => ?_
          replace hj : j < 1 := hj
          obtain rfl : j = 0 := by omega
          rw [ns_le hg2 (by omega)]
          replace ha : a < 1 := by omega
          obtain rfl : a = 0 := by omega
          exact Le.intI ev

      · skip
        repeat' (first
          | ((with_reducible refine (?_ : Alt _ _)); first | (with_reducible apply callAlt ((show Pure (Xc W0 G) 108 [.str r, .str (toS [44])] (.int .i64 (-1)) from hi ▸ c108 hl r))) | (with_reducible apply callAlt (c65e hl w  hw hv)) | (with_reducible apply callAlt (c24 hl (atoN w) (Side.mk (atoN_in w)))) | (with_reducible apply callAlt (c66 hl w)) | (with_reducible refine Alt.one ?_))
          | ((with_reducible refine (?_ : AllLe _ _)); first | exact ⟨Le.ofEq (congrArg AV.str e1), trivial⟩ | exact ⟨Le.ofEq (congrArg AV.str e1), .refl _, trivial⟩ | (first | exact AllLe.refl _ | (repeat' (first | exact trivial | apply Le.aggs | apply Le.tups | apply Le.fns | exact Le.refl _ | refine ⟨?_, ?_⟩))))
          | ((with_reducible refine (?_ : Sc _ (AllRen _ _ _))); refine Sc.of ?_; first | (repeat' (first | exact trivial | apply Le.aggs | apply Le.tups | apply Le.fns | exact Le.refl _ | refine ⟨?_, ?_⟩)))
          | ((with_reducible refine (?_ : (List.all _ _) = true)); rfl)
          | ((with_reducible refine (?_ : (and _ _) = true)); rfl)
          | ((with_reducible refine (?_ : List.Nodup _)); exact nodupB_spec rfl)
          | ((with_reducible refine (?_ : @Eq Nat _ _)); rfl)
          | ((with_reducible refine (?_ : @Eq (List (Option HObj)) _ _)); kernel_rfl)
          | ((with_reducible refine (?_ : LeOks _ _ _)); first | exact trivial | exact ⟨.refl _, trivial⟩ | exact ⟨.refl _, .refl _, trivial⟩)
          | ((fail_if_success with_reducible refine Stop.go ?_); (first | with_reducible refine And.intro ?_ ?_ | with_reducible refine Cut.go ?_ | (with_reducible (refine impI ?_; intro _); try (first | (exfalso; refine absurd (a := decide ((-1 : Int) < 0) = false) ?_ (by decide); assumption))) | (with_reducible refine (?_ : footOK _ _ = true); kernel_rfl) | ((with_reducible refine propI ?_); conv => whnf))))
        all_goals try (exact .of (Nat.le_of_ble_eq_true rfl))
        all_goals try (exfalso; refine absurd (a := decide ((-1 : Int) < 0) = false) ?_ (by decide); assumption)
        all_goals try ((with_reducible refine (?_ : Sc _ _)); first | exact .of ⟨Nat.le_of_ble_eq_true rfl, Nat.le_of_ble_eq_true rfl⟩ | exact .of ⟨by omega, by omega⟩ | exact .of ⟨by omega, by omega, by omega⟩ | (refine Sc.of ⟨show (0 + (0 + 1)) * 8 ≤ 140737488355328 by omega, show 0 + (0 + 1) ≤ 9223372036854775807 by omega⟩) | (have z : (toS [44]).size = 1 := rfl; first | exact .of ⟨by omega, by omega⟩ | exact .of ⟨by omega, by omega, by omega⟩))
        all_goals try (rename_i c; exact Bool.noConfusion (show true = false from c))
        have u := ns_bad h2 (by rw [← hwd]; exact cond_err hv)
        exact .mk [] [] _ rfl (.le (.tups ⟨⟨trivial, by rw [nsW_0 u]; exact Le.slc0 1 _⟩, .boolT u.symm⟩)) trivial rfl

    · obtain ⟨i, hi⟩ := hi
      have w0 := nx_pos h1 hi
      obtain ⟨w, hwd⟩ : ∃ w, w = cp s 0 := ⟨_, rfl⟩
      have hw : Side (w.size ≤ 1000000) := Side.mk (by rw [hwd]; exact Nat.le_trans (cp_size s _) hs)
      have e1 : r.extract 0 ((i : Int) + 0).toNat = w := by rw [hwd]; exact w0.1
      rcases atoi_two w with ⟨v, hv⟩ | hv
      · skip
        repeat' (first
          | ((with_reducible refine (?_ : Alt _ _)); first | (with_reducible apply callAlt ((show Pure (Xc W0 G) 108 [.str r, .str (toS [44])] (.int .i64 (i : Nat)) from hi ▸ c108 hl r))) | (with_reducible apply callAlt (c65o hl w v hw hv)) | (with_reducible apply callAlt (c24 hl v (Side.mk (atoi_in hv)))) | (with_reducible apply callAlt (c66 hl w)) | (with_reducible refine Alt.one ?_))
          | ((with_reducible refine (?_ : AllLe _ _)); first | exact ⟨Le.ofEq (congrArg AV.str e1), trivial⟩ | exact ⟨Le.ofEq (congrArg AV.str e1), .refl _, trivial⟩ | (first | exact AllLe.refl _ | (repeat' (first | exact trivial | apply Le.aggs | apply Le.tups | apply Le.fns | exact Le.refl _ | refine ⟨?_, ?_⟩))))
          | ((with_reducible refine (?_ : Sc _ (AllRen _ _ _))); refine Sc.of ?_; first | (repeat' (first | exact trivial | apply Le.aggs | apply Le.tups | apply Le.fns | exact Le.refl _ | refine ⟨?_, ?_⟩)))
          | ((with_reducible refine (?_ : (List.all _ _) = true)); rfl)
          | ((with_reducible refine (?_ : (and _ _) = true)); rfl)
          | ((with_reducible refine (?_ : List.Nodup _)); exact nodupB_spec rfl)
          | ((with_reducible refine (?_ : @Eq Nat _ _)); rfl)
          | ((with_reducible refine (?_ : @Eq (List (Option HObj)) _ _)); kernel_rfl)
          | ((with_reducible refine (?_ : LeOks _ _ _)); first | exact trivial | exact ⟨.refl _, trivial⟩ | exact ⟨.refl _, .refl _, trivial⟩)
          | ((fail_if_success with_reducible refine Stop.go ?_); (first | with_reducible refine And.intro ?_ ?_ | with_reducible refine Cut.go ?_ | (with_reducible (refine impI ?_; intro _); try (first | (exfalso; refine absurd (a := decide (((i : Nat) : Int) < 0) = true) ?_ (by simp); assumption))) | (with_reducible refine (?_ : footOK _ _ = true); kernel_rfl) | ((with_reducible refine propI ?_); conv => whnf))))
        all_goals try (exact .of (Nat.le_of_ble_eq_true rfl))
        all_goals try (exfalso; refine absurd (a := decide (((i : Nat) : Int) < 0) = true) ?_ (by simp); assumption)
        all_goals try ((with_reducible refine (?_ : Sc _ _)); first | exact .of ⟨Nat.le_of_ble_eq_true rfl, Nat.le_of_ble_eq_true rfl⟩ | exact .of ⟨by omega, by omega⟩ | exact .of ⟨by omega, by omega, by omega⟩ | (refine Sc.of ⟨show (0 + (0 + 1)) * 8 ≤ 140737488355328 by omega, show 0 + (0 + 1) ≤ 9223372036854775807 by omega⟩) | (have z : (toS [44]).size = 1 := rfl; first | exact .of ⟨by omega, by omega⟩ | exact .of ⟨by omega, by omega, by omega⟩))
        all_goals try (rename_i z; first | exact Bool.noConfusion (show true = false from z) | exact Bool.noConfusion (show false = true from z))
        · rename_i c z; replace c := (cond_ok e1 hv).symm.trans c
          have u := ns_bad h2 (by rw [← hwd]; exact not_t c)
          exact .mk [] [] _ rfl (.le (.tups ⟨⟨trivial, by rw [nsW_0 u]; exact Le.slc0 1 _⟩, .boolT u.symm⟩)) trivial rfl
        all_goals (rename_i c z; replace c := (cond_ok e1 hv).symm.trans c; have cg := not_f c; have ev := cond_v hv cg; rw [hwd] at cg ev; have hg := all_lt h4 cg)
        · have hex : r.extract ((i : Int) + ((toS [44]).size : Int)).toNat r.size = r.extract (i + 1) r.size := by rw [show ((i : Int) + ((toS [44]).size : Int)).toNat = i + 1 from by have z : (toS [44]).size = 1 := rfl; omega]
          refine ⟨.inr (r.extract (i + 1) r.size, 0 + 1), ⟨by omega, w0.2.1, w0.2.2.1, by rw [ByteArray.size_extract]; omega, hg⟩, ?_, .le ⟨rfl, ⟨.refl _, .refl _, .refl _, .boxes ⟨Le.ofEq (congrArg AV.str hex), trivial⟩, .refl _, .refl _, .refl _, .list (fun a j ha hj => ?_), trivial⟩, ⟨.refl _, .refl _, .refl _, .refl _, trivial⟩⟩⟩
          · show (cutS 44 (r.extract (i + 1) r.size)).length < (cutS 44 r).length
            rw [← w0.2.1, ← h1, List.length_drop, List.length_drop]; omega
          replace hj : j < 1 := hj
          obtain rfl : j = 0 := by omega
          replace ha : a < 1 := by omega
          obtain rfl : a = 0 := by omega
          exact Le.intI ev

      · skip
        repeat' (first
          | ((with_reducible refine (?_ : Alt _ _)); first | (with_reducible apply callAlt ((show Pure (Xc W0 G) 108 [.str r, .str (toS [44])] (.int .i64 (i : Nat)) from hi ▸ c108 hl r))) | (with_reducible apply callAlt (c65e hl w  hw hv)) | (with_reducible apply callAlt (c24 hl (atoN w) (Side.mk (atoN_in w)))) | (with_reducible apply callAlt (c66 hl w)) | (with_reducible refine Alt.one ?_))
          | ((with_reducible refine (?_ : AllLe _ _)); first | exact ⟨Le.ofEq (congrArg AV.str e1), trivial⟩ | exact ⟨Le.ofEq (congrArg AV.str e1), .refl _, trivial⟩ | (first | exact AllLe.refl _ | (repeat' (first | exact trivial | apply Le.aggs | apply Le.tups | apply Le.fns | exact Le.refl _ | refine ⟨?_, ?_⟩))))
          | ((with_reducible refine (?_ : Sc _ (AllRen _ _ _))); refine Sc.of ?_; first | (repeat' (first | exact trivial | apply Le.aggs | apply Le.tups | apply Le.fns | exact Le.refl _ | refine ⟨?_, ?_⟩)))
          | ((with_reducible refine (?_ : (List.all _ _) = true)); rfl)
          | ((with_reducible refine (?_ : (and _ _) = true)); rfl)
          | ((with_reducible refine (?_ : List.Nodup _)); exact nodupB_spec rfl)
          | ((with_reducible refine (?_ : @Eq Nat _ _)); rfl)
          | ((with_reducible refine (?_ : @Eq (List (Option HObj)) _ _)); kernel_rfl)
          | ((with_reducible refine (?_ : LeOks _ _ _)); first | exact trivial | exact ⟨.refl _, trivial⟩ | exact ⟨.refl _, .refl _, trivial⟩)
          | ((fail_if_success with_reducible refine Stop.go ?_); (first | with_reducible refine And.intro ?_ ?_ | with_reducible refine Cut.go ?_ | (with_reducible (refine impI ?_; intro _); try (first | (exfalso; refine absurd (a := decide (((i : Nat) : Int) < 0) = true) ?_ (by simp); assumption))) | (with_reducible refine (?_ : footOK _ _ = true); kernel_rfl) | ((with_reducible refine propI ?_); conv => whnf))))
        all_goals try (exact .of (Nat.le_of_ble_eq_true rfl))
        all_goals try (exfalso; refine absurd (a := decide (((i : Nat) : Int) < 0) = true) ?_ (by simp); assumption)
        all_goals try ((with_reducible refine (?_ : Sc _ _)); first | exact .of ⟨Nat.le_of_ble_eq_true rfl, Nat.le_of_ble_eq_true rfl⟩ | exact .of ⟨by omega, by omega⟩ | exact .of ⟨by omega, by omega, by omega⟩ | (refine Sc.of ⟨show (0 + (0 + 1)) * 8 ≤ 140737488355328 by omega, show 0 + (0 + 1) ≤ 9223372036854775807 by omega⟩) | (have z : (toS [44]).size = 1 := rfl; first | exact .of ⟨by omega, by omega⟩ | exact .of ⟨by omega, by omega, by omega⟩))
        all_goals try (rename_i z; first | exact Bool.noConfusion (show true = false from z) | exact Bool.noConfusion (show false = true from z))
        all_goals try (rename_i c z; exact Bool.noConfusion (show true = false from c))
        have u := ns_bad h2 (by rw [← hwd]; exact cond_err hv)
        exact .mk [] [] _ rfl (.le (.tups ⟨⟨trivial, by rw [nsW_0 u]; exact Le.slc0 1 _⟩, .boolT u.symm⟩)) trivial rfl


  · obtain ⟨h0, h1, h2, h3, h4⟩ := hy
    rcases idx_two r with hi | hi
    · have w0 := nx_neg h1 hi
      obtain ⟨w, hwd⟩ : ∃ w, w = cp s k := ⟨_, rfl⟩
      have hw : Side (w.size ≤ 1000000) := Side.mk (by rw [hwd]; exact Nat.le_trans (cp_size s _) hs)
      have e1 : r = w := by rw [hwd]; exact w0.1
      rcases atoi_two w with ⟨v, hv⟩ | hv
      · skip
        repeat' (first
          | ((with_reducible refine (?_ : Alt _ _)); first | (with_reducible apply callAlt ((show Pure (Xc W0 G) 108 [.str r, .str (toS [44])] (.int .i64 (-1)) from hi ▸ c108 hl r))) | (with_reducible apply callAlt (c65o hl w v hw hv)) | (with_reducible apply callAlt (c24 hl v (Side.mk (atoi_in hv)))) | (with_reducible apply callAlt (c66 hl w)) | (with_reducible refine Alt.one ?_))
          | ((with_reducible refine (?_ : AllLe _ _)); first | exact ⟨Le.ofEq (congrArg AV.str e1), trivial⟩ | exact ⟨Le.ofEq (congrArg AV.str e1), .refl _, trivial⟩ | (first | exact AllLe.refl _ | (repeat' (first | exact trivial | apply Le.aggs | apply Le.tups | apply Le.fns | exact Le.refl _ | refine ⟨?_, ?_⟩))))
          | ((with_reducible refine (?_ : Sc _ (AllRen _ _ _))); refine Sc.of ?_; first | (repeat' (first | exact trivial | apply Le.aggs | apply Le.tups | apply Le.fns | exact Le.refl _ | refine ⟨?_, ?_⟩)))
          | ((with_reducible refine (?_ : (List.all _ _) = true)); rfl)
          | ((with_reducible refine (?_ : (and _ _) = true)); rfl)
          | ((with_reducible refine (?_ : List.Nodup _)); exact nodupB_spec rfl)
          | ((with_reducible refine (?_ : @Eq Nat _ _)); rfl)
          | ((with_reducible refine (?_ : @Eq (List (Option HObj)) _ _)); kernel_rfl)
          | ((with_reducible refine (?_ : LeOks _ _ _)); first | exact trivial | exact ⟨.refl _, trivial⟩ | exact ⟨.refl _, .refl _, trivial⟩)
          | ((fail_if_success with_reducible refine Stop.go ?_); (first | rw [beqvv k] | with_reducible refine And.intro ?_ ?_ | with_reducible refine Cut.go ?_ | (with_reducible (refine impI ?_; intro _); try (first | (exfalso; refine absurd (a := decide ((-1 : Int) < 0) = false) ?_ (by decide); assumption))) | (with_reducible refine (?_ : footOK _ _ = true); kernel_rfl) | ((with_reducible refine propI ?_); conv => whnf))))
        all_goals try (exact .of (Nat.le_of_ble_eq_true rfl))
        all_goals try (exfalso; refine absurd (a := decide ((-1 : Int) < 0) = false) ?_ (by decide); assumption)
        all_goals try ((with_reducible refine (?_ : Sc _ _)); first | exact .of ⟨Nat.le_of_ble_eq_true rfl, Nat.le_of_ble_eq_true rfl⟩ | exact .of ⟨by omega, by omega⟩ | exact .of ⟨by omega, by omega, by omega⟩ | (refine Sc.of ⟨show (k + (0 + 1)) * 8 ≤ 140737488355328 by omega, show k + (0 + 1) ≤ 9223372036854775807 by omega⟩) | (have z : (toS [44]).size = 1 := rfl; first | exact .of ⟨by omega, by omega⟩ | exact .of ⟨by omega, by omega, by omega⟩))
        · rename_i c; replace c := (cond_ok e1 hv).symm.trans c
          have u := ns_bad h2 (by rw [← hwd]; exact not_t c)
          exact .mk [] [] _ rfl (.le (.tups ⟨⟨trivial, by rw [nsW_0 u]; exact Le.slc0 1 _⟩, .boolT u.symm⟩)) trivial rfl
        all_goals (rename_i c; replace c := (cond_ok e1 hv).symm.trans c; have cg := not_f c; have ev := cond_v hv cg; rw [hwd] at cg ev; have hg := all_lt h4 cg)
        · have hg2 : ∀ j, j < (cutS 44 s).length → nB (cp s j) = true := fun j hj => hg j (by omega)
          refine .mk [] [7] _ rfl (.tups ⟨⟨trivial, ?_⟩, .le (.boolT (ns_good hg2).symm)⟩) trivial rfl
          have hln : (nsW s).length = k + 1 := by rw [nsW_1 (ns_good hg2), nsV_len]; omega
          unfold iRow
          rw [hln]
          refine .own rfl fun a j ha hj => ?_
          replace hj : j < 1 := hj
          obtain rfl : j = 0 := by omega
          rw [ns_le hg2 (by omega)]
          exact Le.ofEq (push_f (congrArg (AV.int .i64) ev) ha)

      · skip
        repeat' (first
          | ((with_reducible refine (?_ : Alt _ _)); first | (with_reducible apply callAlt ((show Pure (Xc W0 G) 108 [.str r, .str (toS [44])] (.int .i64 (-1)) from hi ▸ c108 hl r))) | (with_reducible apply callAlt (c65e hl w  hw hv)) | (with_reducible apply callAlt (c24 hl (atoN w) (Side.mk (atoN_in w)))) | (with_reducible apply callAlt (c66 hl w)) | (with_reducible refine Alt.one ?_))
          | ((with_reducible refine (?_ : AllLe _ _)); first | exact ⟨Le.ofEq (congrArg AV.str e1), trivial⟩ | exact ⟨Le.ofEq (congrArg AV.str e1), .refl _, trivial⟩ | (first | exact AllLe.refl _ | (repeat' (first | exact trivial | apply Le.aggs | apply Le.tups | apply Le.fns | exact Le.refl _ | refine ⟨?_, ?_⟩))))
          | ((with_reducible refine (?_ : Sc _ (AllRen _ _ _))); refine Sc.of ?_; first | (repeat' (first | exact trivial | apply Le.aggs | apply Le.tups | apply Le.fns | exact Le.refl _ | refine ⟨?_, ?_⟩)))
          | ((with_reducible refine (?_ : (List.all _ _) = true)); rfl)
          | ((with_reducible refine (?_ : (and _ _) = true)); rfl)
          | ((with_reducible refine (?_ : List.Nodup _)); exact nodupB_spec rfl)
          | ((with_reducible refine (?_ : @Eq Nat _ _)); rfl)
          | ((with_reducible refine (?_ : @Eq (List (Option HObj)) _ _)); kernel_rfl)
          | ((with_reducible refine (?_ : LeOks _ _ _)); first | exact trivial | exact ⟨.refl _, trivial⟩ | exact ⟨.refl _, .refl _, trivial⟩)
          | ((fail_if_success with_reducible refine Stop.go ?_); (first | rw [beqvv k] | with_reducible refine And.intro ?_ ?_ | with_reducible refine Cut.go ?_ | (with_reducible (refine impI ?_; intro _); try (first | (exfalso; refine absurd (a := decide ((-1 : Int) < 0) = false) ?_ (by decide); assumption))) | (with_reducible refine (?_ : footOK _ _ = true); kernel_rfl) | ((with_reducible refine propI ?_); conv => whnf))))
        all_goals try (exact .of (Nat.le_of_ble_eq_true rfl))
        all_goals try (exfalso; refine absurd (a := decide ((-1 : Int) < 0) = false) ?_ (by decide); assumption)
        all_goals try ((with_reducible refine (?_ : Sc _ _)); first | exact .of ⟨Nat.le_of_ble_eq_true rfl, Nat.le_of_ble_eq_true rfl⟩ | exact .of ⟨by omega, by omega⟩ | exact .of ⟨by omega, by omega, by omega⟩ | (refine Sc.of ⟨show (k + (0 + 1)) * 8 ≤ 140737488355328 by omega, show k + (0 + 1) ≤ 9223372036854775807 by omega⟩) | (have z : (toS [44]).size = 1 := rfl; first | exact .of ⟨by omega, by omega⟩ | exact .of ⟨by omega, by omega, by omega⟩))
        all_goals try (rename_i c; exact Bool.noConfusion (show true = false from c))
        have u := ns_bad h2 (by rw [← hwd]; exact cond_err hv)
        exact .mk [] [] _ rfl (.le (.tups ⟨⟨trivial, by rw [nsW_0 u]; exact Le.slc0 1 _⟩, .boolT u.symm⟩)) trivial rfl

    · obtain ⟨i, hi⟩ := hi
      have w0 := nx_pos h1 hi
      obtain ⟨w, hwd⟩ : ∃ w, w = cp s k := ⟨_, rfl⟩
      have hw : Side (w.size ≤ 1000000) := Side.mk (by rw [hwd]; exact Nat.le_trans (cp_size s _) hs)
      have e1 : r.extract 0 ((i : Int) + 0).toNat = w := by rw [hwd]; exact w0.1
      rcases atoi_two w with ⟨v, hv⟩ | hv
      · skip
        repeat' (first
          | ((with_reducible refine (?_ : Alt _ _)); first | (with_reducible apply callAlt ((show Pure (Xc W0 G) 108 [.str r, .str (toS [44])] (.int .i64 (i : Nat)) from hi ▸ c108 hl r))) | (with_reducible apply callAlt (c65o hl w v hw hv)) | (with_reducible apply callAlt (c24 hl v (Side.mk (atoi_in hv)))) | (with_reducible apply callAlt (c66 hl w)) | (with_reducible refine Alt.one ?_))
          | ((with_reducible refine (?_ : AllLe _ _)); first | exact ⟨Le.ofEq (congrArg AV.str e1), trivial⟩ | exact ⟨Le.ofEq (congrArg AV.str e1), .refl _, trivial⟩ | (first | exact AllLe.refl _ | (repeat' (first | exact trivial | apply Le.aggs | apply Le.tups | apply Le.fns | exact Le.refl _ | refine ⟨?_, ?_⟩))))
          | ((with_reducible refine (?_ : Sc _ (AllRen _ _ _))); refine Sc.of ?_; first | (repeat' (first | exact trivial | apply Le.aggs | apply Le.tups | apply Le.fns | exact Le.refl _ | refine ⟨?_, ?_⟩)))
          | ((with_reducible refine (?_ : (List.all _ _) = true)); rfl)
          | ((with_reducible refine (?_ : (and _ _) = true)); rfl)
          | ((with_reducible refine (?_ : List.Nodup _)); exact nodupB_spec rfl)
          | ((with_reducible refine (?_ : @Eq Nat _ _)); rfl)
          | ((with_reducible refine (?_ : @Eq (List (Option HObj)) _ _)); kernel_rfl)
          | ((with_reducible refine (?_ : LeOks _ _ _)); first | exact trivial | exact ⟨.refl _, trivial⟩ | exact ⟨.refl _, .refl _, trivial⟩)
          | ((fail_if_success with_reducible refine Stop.go ?_); (first | rw [beqvv k] | with_reducible refine And.intro ?_ ?_ | with_reducible refine Cut.go ?_ | (with_reducible (refine impI ?_; intro _); try (first | (exfalso; refine absurd (a := decide (((i : Nat) : Int) < 0) = true) ?_ (by simp); assumption))) | (with_reducible refine (?_ : footOK _ _ = true); kernel_rfl) | ((with_reducible refine propI ?_); conv => whnf))))
        all_goals try (exact .of (Nat.le_of_ble_eq_true rfl))
        all_goals try (exfalso; refine absurd (a := decide (((i : Nat) : Int) < 0) = true) ?_ (by simp); assumption)
        all_goals try ((with_reducible refine (?_ : Sc _ _)); first | exact .of ⟨Nat.le_of_ble_eq_true rfl, Nat.le_of_ble_eq_true rfl⟩ | exact .of ⟨by omega, by omega⟩ | exact .of ⟨by omega, by omega, by omega⟩ | (refine Sc.of ⟨show (k + (0 + 1)) * 8 ≤ 140737488355328 by omega, show k + (0 + 1) ≤ 9223372036854775807 by omega⟩) | (have z : (toS [44]).size = 1 := rfl; first | exact .of ⟨by omega, by omega⟩ | exact .of ⟨by omega, by omega, by omega⟩))
        all_goals try (rename_i z; first | exact Bool.noConfusion (show true = false from z) | exact Bool.noConfusion (show false = true from z))
        · rename_i c z; replace c := (cond_ok e1 hv).symm.trans c
          have u := ns_bad h2 (by rw [← hwd]; exact not_t c)
          exact .mk [] [] _ rfl (.le (.tups ⟨⟨trivial, by rw [nsW_0 u]; exact Le.slc0 1 _⟩, .boolT u.symm⟩)) trivial rfl
        all_goals (rename_i c z; replace c := (cond_ok e1 hv).symm.trans c; have cg := not_f c; have ev := cond_v hv cg; rw [hwd] at cg ev; have hg := all_lt h4 cg)
        · have hex : r.extract ((i : Int) + ((toS [44]).size : Int)).toNat r.size = r.extract (i + 1) r.size := by rw [show ((i : Int) + ((toS [44]).size : Int)).toNat = i + 1 from by have z : (toS [44]).size = 1 := rfl; omega]
          refine ⟨.inr (r.extract (i + 1) r.size, k + 1), ⟨by omega, w0.2.1, w0.2.2.1, by rw [ByteArray.size_extract]; omega, hg⟩, ?_, .le ⟨rfl, ⟨.refl _, .refl _, .refl _, .boxes ⟨Le.ofEq (congrArg AV.str hex), trivial⟩, .refl _, .refl _, .refl _, .list (fun a j ha hj => ?_), trivial⟩, ⟨.refl _, .refl _, .refl _, .refl _, trivial⟩⟩⟩
          · show (cutS 44 (r.extract (i + 1) r.size)).length < (cutS 44 r).length
            rw [← w0.2.1, ← h1, List.length_drop, List.length_drop]; omega
          replace hj : j < 1 := hj
          obtain rfl : j = 0 := by omega
          exact Le.ofEq (push_f (congrArg (AV.int .i64) ev) ha)

      · skip
        repeat' (first
          | ((with_reducible refine (?_ : Alt _ _)); first | (with_reducible apply callAlt ((show Pure (Xc W0 G) 108 [.str r, .str (toS [44])] (.int .i64 (i : Nat)) from hi ▸ c108 hl r))) | (with_reducible apply callAlt (c65e hl w  hw hv)) | (with_reducible apply callAlt (c24 hl (atoN w) (Side.mk (atoN_in w)))) | (with_reducible apply callAlt (c66 hl w)) | (with_reducible refine Alt.one ?_))
          | ((with_reducible refine (?_ : AllLe _ _)); first | exact ⟨Le.ofEq (congrArg AV.str e1), trivial⟩ | exact ⟨Le.ofEq (congrArg AV.str e1), .refl _, trivial⟩ | (first | exact AllLe.refl _ | (repeat' (first | exact trivial | apply Le.aggs | apply Le.tups | apply Le.fns | exact Le.refl _ | refine ⟨?_, ?_⟩))))
          | ((with_reducible refine (?_ : Sc _ (AllRen _ _ _))); refine Sc.of ?_; first | (repeat' (first | exact trivial | apply Le.aggs | apply Le.tups | apply Le.fns | exact Le.refl _ | refine ⟨?_, ?_⟩)))
          | ((with_reducible refine (?_ : (List.all _ _) = true)); rfl)
          | ((with_reducible refine (?_ : (and _ _) = true)); rfl)
          | ((with_reducible refine (?_ : List.Nodup _)); exact nodupB_spec rfl)
          | ((with_reducible refine (?_ : @Eq Nat _ _)); rfl)
          | ((with_reducible refine (?_ : @Eq (List (Option HObj)) _ _)); kernel_rfl)
          | ((with_reducible refine (?_ : LeOks _ _ _)); first | exact trivial | exact ⟨.refl _, trivial⟩ | exact ⟨.refl _, .refl _, trivial⟩)
          | ((fail_if_success with_reducible refine Stop.go ?_); (first | rw [beqvv k] | with_reducible refine And.intro ?_ ?_ | with_reducible refine Cut.go ?_ | (with_reducible (refine impI ?_; intro _); try (first | (exfalso; refine absurd (a := decide (((i : Nat) : Int) < 0) = true) ?_ (by simp); assumption))) | (with_reducible refine (?_ : footOK _ _ = true); kernel_rfl) | ((with_reducible refine propI ?_); conv => whnf))))
        all_goals try (exact .of (Nat.le_of_ble_eq_true rfl))
        all_goals try (exfalso; refine absurd (a := decide (((i : Nat) : Int) < 0) = true) ?_ (by simp); assumption)
        all_goals try ((with_reducible refine (?_ : Sc _ _)); first | exact .of ⟨Nat.le_of_ble_eq_true rfl, Nat.le_of_ble_eq_true rfl⟩ | exact .of ⟨by omega, by omega⟩ | exact .of ⟨by omega, by omega, by omega⟩ | (refine Sc.of ⟨show (k + (0 + 1)) * 8 ≤ 140737488355328 by omega, show k + (0 + 1) ≤ 9223372036854775807 by omega⟩) | (have z : (toS [44]).size = 1 := rfl; first | exact .of ⟨by omega, by omega⟩ | exact .of ⟨by omega, by omega, by omega⟩))
        all_goals try (rename_i z; first | exact Bool.noConfusion (show true = false from z) | exact Bool.noConfusion (show false = true from z))
        all_goals try (rename_i c z; exact Bool.noConfusion (show true = false from c))
        have u := ns_bad h2 (by rw [← hwd]; exact cond_err hv)
        exact .mk [] [] _ rfl (.le (.tups ⟨⟨trivial, by rw [nsW_0 u]; exact Le.slc0 1 _⟩, .boolT u.symm⟩)) trivial rfl



end
end Go.Fx
