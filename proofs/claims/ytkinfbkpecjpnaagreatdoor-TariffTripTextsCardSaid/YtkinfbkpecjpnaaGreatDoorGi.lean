/-
  The library on texts; the program writes a trip.
-/
import Derived.Test.YtkinfbkpecjpnaaGreatDoorGz
import Derived.Test.YtkinfbkpecjpnaaGreatDoorGg

set_option linter.all false

/-
  The library's functions on texts.
-/
namespace Go.Fx
open Go.Proofs Go.RowKit

section
variable {X : Ctx}
/-- Strings joined, of a list of one's own that stays as it is. -/
theorem mut_join {f : FuncId} {e : TypeId} {Q : List Tx} {sep : Tx} {ver : Nat} (hent : Enters X.P f) (hQ : Q ≠ [])
    (h : ∀ (b cap : Nat) (w : World), (∀ (j : Nat) x, (Q.map toS)[j]? = some x → w.cell? ⟨b, 0 + j, none⟩ = some (.string x)) → b < w.heap.size → Q.length ≤ cap → Calls X.P f #[.slice (some ⟨b, 0, none⟩) Q.length cap, .string (toS sep)] w fun e w' =>
      e = .returned (.string (toS (Lib.join Q sep))) ∧ Below w.heap.size w w') :
    Mut X f [.own 0 ver, .str (toS sep)] [.list e 1 Q.length (fun i _ => .str (toS (Q.getD i []))) ver] (.str (toS (Lib.join Q sep))) [.list e 1 Q.length (fun i _ => .str (toS (Q.getD i []))) ver] := by
  refine ⟨hent, fun c cargs hok hb hL hcs hargs => ?_⟩
  have hk : c.H[0]? = some (.list e 1 Q.length (fun i _ => .str (toS (Q.getD i []))) ver) := by rw [hL]; rfl
  obtain ⟨xs, _, hlen, _, ⟨ad, cap, h4, h5, h6⟩, hxs, hcell⟩ := own_slice hok hk
  have hpos : 0 < Q.length := List.length_pos_iff.2 hQ
  obtain ⟨b, rfl, hvb⟩ := h6 hpos
  obtain ⟨v, a1, a2⟩ := hargs 0 _ rfl
  have a3 : v = (c.g 0).v := a2.2.2.2 (hok.obj 0 _ hk).1
  obtain ⟨u, b1, b2⟩ := hargs 1 _ rfl
  have b2 : u = .string (toS sep) := b2
  have ea : cargs = #[.slice (some ⟨b, 0, none⟩) Q.length cap, .string (toS sep)] := by
    apply Array.ext (by simpa using hcs)
    intro j h1 h2
    have h2 : j < 2 := by simpa using h2
    rcases (show j = 0 ∨ j = 1 by omega) with rfl | rfl
    · rw [Array.getElem?_eq_getElem h1] at a1
      cases a1
      rw [a3, h4]; rfl
    · rw [Array.getElem?_eq_getElem h1] at b1
      cases b1
      rw [b2]; rfl
  subst ea
  have hbk : blk c.g 0 (.list e 1 Q.length (fun i _ => .str (toS (Q.getD i []))) ver) = some b := hvb
  refine (h b cap c.w (fun j x hj => ?_) (hok.old 0 _ b hk hbk) h5).mono fun e' w' ⟨he, hB⟩ => ?_
  · have hj2 : j < Q.length := by have := (List.getElem?_eq_some_iff.1 hj).1; simpa using this
    obtain ⟨y, y1, y2⟩ := hxs j 0 hj2 Nat.one_pos
    rw [show j * 1 + 0 = j by omega] at y1
    have y2 : y = .string (toS (Q.getD j [])) := y2
    rw [show 0 + j = j by omega, hcell b hvb j y y1, y2]
    simp [List.getD_eq_getElem?_getD, hj2] at hj ⊢
    exact hj
  · have tr := Tr.imm (c := c) hok (w' := w') (I' := c.I) hB.os hB.tape hB.output hB.size (fun b hb => hB.block b hb) (fun _ _ h => h) (fun _ _ h => .inl h)
    exact ⟨_, ⟨c.g, c.I, w', c.H⟩, he, rfl, tr, hL, rfl⟩
end

section
variable {W0 : World} {G : Nat → Option AV} (hl : Laid W0)
include hl
theorem c24 (n : Int) (hs : Side (inK .i64 n)) : Pure (Xc W0 G) 24 [.int .i64 n] (.str (toS (Lib.itoa n))) := lib_itoa hl hs.get
theorem c28 (s : ByteArray) (hs : Side (s.size ≤ 1000000)) : Pure (Xc W0 G) 28 [.str s, .str (toS [32])] (sRow (cutS 32 s)) :=
  (lib_split hl (sep := toS [32]) (by have := hs.get; omega) (Nat.le_refl 1)).leO (by
    unfold sRow
    rw [show Lib.splitB (toS [32]) 0 (Lib.countB s (toS [32])) s = cutS 32 s from splitB_cut 32 s]
    refine .slcN (by simp) fun i j hi hj => ?_
    obtain rfl : j = 0 := by omega
    have hi2 : i < (cutS 32 s).length := by simpa using hi
    refine Le.ofEq ?_
    show ((cutS 32 s).map AV.str).getD (i * 1 + 0) .any = _
    simp [List.getD_eq_getElem?_getD, hi2]) trivial
theorem c26 (Q : List Tx) (sep : Tx) (ver : Nat) (hs : Side (Q ≠ [] ∧ Q.length ≤ 1000 ∧ (Lib.join Q sep).length ≤ 1000000)) : Mut (Xc W0 G) 26 [.own 0 ver, .str (toS sep)] [.list 9 1 Q.length (fun i _ => .str (toS (Q.getD i []))) ver] (.str (toS (Lib.join Q sep))) [.list 9 1 Q.length (fun i _ => .str (toS (Q.getD i []))) ver] :=
  mut_join (enters_lib (by kernel_rfl)) hs.get.1 fun b cap w h1 h2 h3 => by
    have e : (Q.map toS).map (·.data.toList) = Q := by rw [List.map_map]; conv => rhs; rw [← List.map_id Q]
                                                       rfl
    have hq := hs.get
    have k := Tryz.strings_Join b 0 cap (Q.map toS) (toS sep) w h1 h2 (by rw [List.length_map]; omega) (by rw [List.length_map]; exact h3) (by rw [e]; show (Lib.join Q sep).length ≤ _; omega)
    rw [List.length_map, e] at k
    exact k
theorem c66 (s : ByteArray) : Pure (Xc W0 G) 66 [.str s, .str (toS [45])] (.str (toS (Lib.trimPrefix s.data.toList [45]))) := lib_trim
theorem c108 (s : ByteArray) : Pure (Xc W0 G) 108 [.str s, .str (toS [44])] (.int .i64 (Lib.indexByte s.data.toList 44)) := lib_index (Nat.le_refl 1) (Nat.le_refl 1)
theorem c65o (s : ByteArray) (v : Int) (hs : Side (s.size ≤ 1000000)) (h : Lib.atoiAll s.data.toList = .ok v) : Pure (Xc W0 G) 65 [.str s] (.tup 2 (tbl [.int .i64 v, .val .nilIface])) :=
  lib_atoi hl (by have := hs.get; omega) (by rw [h]; rfl)
end
def atoN (s : ByteArray) : Int := match Lib.atoiAll s.data.toList with | .range => Lib.atoiSat s.data.toList | _ => 0
section
variable {W0 : World} {G : Nat → Option AV} (hl : Laid W0)
include hl
theorem c65e (s : ByteArray) (hs : Side (s.size ≤ 1000000)) (h : ∀ v, Lib.atoiAll s.data.toList ≠ .ok v) : Pure (Xc W0 G) 65 [.str s] (.tup 2 (tbl [.int .i64 (atoN s), .ifc])) := by
  refine lib_atoi hl (by have := hs.get; omega) ?_
  unfold atoN
  cases hv : Lib.atoiAll s.data.toList with
  | ok v => exact absurd hv (h v)
  | _ => rfl
end
theorem atoi_in {s : Tx} {v : Int} (h : Lib.atoiAll s = .ok v) : inK .i64 v := by
  unfold Lib.atoiAll at h
  cases s with
  | nil => cases h
  | cons c r =>
    simp only at h
    split at h
    · cases h
    · cases h
    · rename_i u _
      split at h
      · cases h
      · split at h
        · cases h
        · rename_i h1 h2
          have h := Lib.NumEnd.ok.inj h
          show -9223372036854775808 ≤ v ∧ v ≤ 9223372036854775807
          split at h <;> omega
end Go.Fx

/-
  The program's texts of trips.
-/
namespace Go.Fx
open Go.Proofs Go.RowKit

theorem mapT_at {l : List Int} {k : Nat} (h : k < l.length) : (l.map Lib.itoa).getD k [] = Lib.itoa (l.getD k 0) := by simp [List.getD_eq_getElem?_getD, h]
theorem push_tx {n a : Nat} {f : Nat → Tx} {g : Nat → Nat → AV} (hg : g 0 0 = .str (toS (f n))) (ha : a < n + 1) : joinF n (fun a _ => .str (toS (f a))) g a 0 = .str (toS (f a)) := by
  unfold joinF
  by_cases h : a < n
  · rw [if_pos h]
  · obtain rfl : a = n := by omega
    rw [if_neg h, Nat.sub_self, hg]
theorem exW_ne {l : List Int} (h : l ≠ []) : exW l = Lib.join (l.map Lib.itoa) [44] := by unfold exW; rw [if_neg h]
theorem word_at {x : Trp} {i : Nat} (h : i < x.sg.length) : (wordsW x).getD (i + 4) [] = exW [(x.sg.getD i seg0).z, (x.sg.getD i seg0).me, (x.sg.getD i seg0).se] := by
  rw [exW_ne (by simp)]
  unfold wordsW headW
  simp [List.getD_eq_getElem?_getD, h, segW]
theorem body_len {x : Trp} (hs : XIn x) : ∀ i, i ≤ x.sg.length → (bodyT x i).length ≤ 3000 + 70 * i
  | 0, _ => by rw [bodyT_0]; exact headT_len hs
  | i + 1, hi => by
    have ih := body_len hs i (by omega)
    have k := segW_len (hs.sg i (by omega))
    rw [bodyT_s (by omega)]; simp only [List.length_append, List.length_cons, List.length_nil]; omega
section
variable {W0 : World} {G : Nat → Option AV} (hX : (Xc W0 G).Good) (hl : Laid W0)
include hX hl
set_option maxHeartbeats 1000000 in
theorem c25 (l : List Int) (hs : Side (InL l)) : Pure (Xc W0 G) 25 [iRow l] (.str (toS (exW l))) := by
  have hs := hs.get
  have hs1 := hs.len
  refine mut_of' hX (show FnIs (Xc W0 G) 25 Tryz.f25 (codeOf Tryz.f25) from ⟨by kernel_rfl, by kernel_rfl, by kernel_rfl, by kernel_rfl⟩) rfl ?_
  repeat' (first
    | ((with_reducible refine (?_ : Alt _ _)); first | fail | (with_reducible refine Alt.one ?_))
    | ((with_reducible refine (?_ : AllLe _ _)); first | (first | exact AllLe.refl _ | (repeat' (first | exact trivial | apply Le.aggs | apply Le.tups | apply Le.fns | exact Le.refl _ | refine ⟨?_, ?_⟩))))
    | ((with_reducible refine (?_ : Sc _ (AllRen _ _ _))); refine Sc.of ?_; first | (repeat' (first | exact trivial | apply Le.aggs | apply Le.tups | apply Le.fns | exact Le.refl _ | refine ⟨?_, ?_⟩)))
    | ((with_reducible refine (?_ : (List.all _ _) = true)); rfl)
    | ((with_reducible refine (?_ : (and _ _) = true)); rfl)
    | ((with_reducible refine (?_ : List.Nodup _)); exact nodupB_spec rfl)
    | ((with_reducible refine (?_ : @Eq Nat _ _)); rfl)
    | ((with_reducible refine (?_ : @Eq (List (Option HObj)) _ _)); kernel_rfl)
    | ((with_reducible refine (?_ : LeOks _ _ _)); first | exact trivial | exact ⟨.refl _, trivial⟩ | exact ⟨.refl _, .refl _, trivial⟩)
    | ((fail_if_success with_reducible refine Stop.go ?_); (first | with_reducible refine And.intro ?_ ?_ | with_reducible refine Cut.go ?_ | (with_reducible (refine impI ?_; intro _)) | (with_reducible refine (?_ : footOK _ _ = true); kernel_rfl) | ((with_reducible refine propI ?_); conv => whnf))))
  all_goals try (exact .of (Nat.le_of_ble_eq_true rfl))
  · rename_i q
    exact .mk [] [] _ rfl (.le (Le.ofEq (congrArg AV.str (show _ = toS (exW l) from by rw [len_0 q]; rfl)))) trivial rfl
  rename_i q0
  have hne := len_1 q0
  have hpos : 0 < l.length := List.length_pos_iff.2 hne
  have hqn : (l.map Lib.itoa).length = l.length := by simp
  refine ⟨Unit ⊕ Nat, fun y => match y with | .inl _ => ([(3, .slc0), (9, iRow l), (10, .int .i64 (l.length : Nat)), (11, .int .i64 ((0 : Nat) : Int))], []) | .inr k => ([(3, .own 0 (k)), (9, iRow l), (10, .int .i64 (l.length : Nat)), (11, .int .i64 ((k : Nat) : Int))], [.list 9 1 (k) (fun a _ => .str (toS ((l.map Lib.itoa).getD a []))) (k)]), fun y => match y with | .inl _ => True | .inr k => 0 < k ∧ k ≤ l.length, fun y => match y with | .inl _ => l.length | .inr k => l.length - k, ⟨.inl (), trivial, .le ⟨rfl, trivial, ⟨.refl _, .refl _, .refl _, .refl _, trivial⟩⟩⟩, fun y hy => ?_⟩
  rcases y with _ | k
  · clear hy
    repeat' (first
      | ((with_reducible refine (?_ : Alt _ _)); first | (with_reducible apply callAlt (c24 hl (l.getD 0 0) ?_)) | (with_reducible refine Alt.one ?_))
      | ((with_reducible refine (?_ : AllLe _ _)); first | (first | exact AllLe.refl _ | (repeat' (first | exact trivial | apply Le.aggs | apply Le.tups | apply Le.fns | exact Le.refl _ | refine ⟨?_, ?_⟩))))
      | ((with_reducible refine (?_ : Sc _ (AllRen _ _ _))); refine Sc.of ?_; first | (repeat' (first | exact trivial | apply Le.aggs | apply Le.tups | apply Le.fns | exact Le.refl _ | refine ⟨?_, ?_⟩)))
      | ((with_reducible refine (?_ : (List.all _ _) = true)); rfl)
      | ((with_reducible refine (?_ : (and _ _) = true)); rfl)
      | ((with_reducible refine (?_ : List.Nodup _)); exact nodupB_spec rfl)
      | ((with_reducible refine (?_ : @Eq Nat _ _)); rfl)
      | ((with_reducible refine (?_ : @Eq (List (Option HObj)) _ _)); kernel_rfl)
      | ((with_reducible refine (?_ : LeOks _ _ _)); first | exact trivial | exact ⟨.refl _, trivial⟩ | exact ⟨.refl _, .refl _, trivial⟩)
      | ((fail_if_success with_reducible refine Stop.go ?_); (first | with_reducible refine And.intro ?_ ?_ | with_reducible refine Cut.go ?_ | (with_reducible (refine impI ?_; intro _)) | (with_reducible refine (?_ : footOK _ _ = true); kernel_rfl) | ((with_reducible refine propI ?_); conv => whnf))))
    all_goals try (exact .of (Nat.le_of_ble_eq_true rfl))
    all_goals try (rename_i q; have q := of_decide_eq_true q; exact Side.mk (hs.i 0 (by omega)))
    all_goals try ((with_reducible refine (?_ : Sc _ _)); first | exact .of ⟨Nat.le_of_ble_eq_true rfl, Nat.le_of_ble_eq_true rfl⟩ | (rename_i q; have q := of_decide_eq_true q; first | exact .of ⟨by omega, by omega⟩ | (refine Sc.of ⟨show (k + (0 + 1)) * 16 ≤ 140737488355328 by omega, show k + (0 + 1) ≤ 9223372036854775807 by omega⟩)))
    · rename_i q
      refine ⟨.inr (0 + 1), ⟨by omega, by omega⟩, by show l.length - (0 + 1) < l.length - (0); omega, .le ⟨rfl, ⟨.list (fun a j ha hj => ?_), trivial⟩, ⟨.refl _, .refl _, .refl _, .refl _, trivial⟩⟩⟩
      replace hj : j < 1 := hj
      obtain rfl : j = 0 := by omega
      replace ha : a < 1 := by omega
      obtain rfl : a = 0 := by omega
      exact Le.ofEq (congrArg (fun t => AV.str (toS t)) (mapT_at (by omega)).symm)
    · exfalso; rename_i q; have q := of_decide_eq_false q; omega
  · obtain ⟨h0, hk⟩ := hy
    rcases Nat.lt_or_ge k l.length with hlt | hge
    · skip
      repeat' (first
        | ((with_reducible refine (?_ : Alt _ _)); first | (with_reducible apply callAlt (c24 hl (l.getD k 0) ?_)) | (with_reducible refine Alt.one ?_))
        | ((with_reducible refine (?_ : AllLe _ _)); first | (first | exact AllLe.refl _ | (repeat' (first | exact trivial | apply Le.aggs | apply Le.tups | apply Le.fns | exact Le.refl _ | refine ⟨?_, ?_⟩))))
        | ((with_reducible refine (?_ : Sc _ (AllRen _ _ _))); refine Sc.of ?_; first | (repeat' (first | exact trivial | apply Le.aggs | apply Le.tups | apply Le.fns | exact Le.refl _ | refine ⟨?_, ?_⟩)))
        | ((with_reducible refine (?_ : (List.all _ _) = true)); rfl)
        | ((with_reducible refine (?_ : (and _ _) = true)); rfl)
        | ((with_reducible refine (?_ : List.Nodup _)); exact nodupB_spec rfl)
        | ((with_reducible refine (?_ : @Eq Nat _ _)); rfl)
        | ((with_reducible refine (?_ : @Eq (List (Option HObj)) _ _)); kernel_rfl)
        | ((with_reducible refine (?_ : LeOks _ _ _)); first | exact trivial | exact ⟨.refl _, trivial⟩ | exact ⟨.refl _, .refl _, trivial⟩)
        | ((fail_if_success with_reducible refine Stop.go ?_); (first | rw [beqvv k] | with_reducible refine And.intro ?_ ?_ | with_reducible refine Cut.go ?_ | (with_reducible (refine impI ?_; intro _)) | (with_reducible refine (?_ : footOK _ _ = true); kernel_rfl) | ((with_reducible refine propI ?_); conv => whnf))))
      all_goals try (exact .of (Nat.le_of_ble_eq_true rfl))
      all_goals try (rename_i q; have q := of_decide_eq_true q; exact Side.mk (hs.i k (by omega)))
      all_goals try ((with_reducible refine (?_ : Sc _ _)); first | exact .of ⟨Nat.le_of_ble_eq_true rfl, Nat.le_of_ble_eq_true rfl⟩ | (rename_i q; have q := of_decide_eq_true q; first | exact .of ⟨by omega, by omega⟩ | (refine Sc.of ⟨show (k + (0 + 1)) * 16 ≤ 140737488355328 by omega, show k + (0 + 1) ≤ 9223372036854775807 by omega⟩)))
      · rename_i q
        refine ⟨.inr (k + 1), ⟨by omega, by omega⟩, by show l.length - (k + 1) < l.length - (k); omega, .le ⟨rfl, ⟨.list (fun a j ha hj => ?_), trivial⟩, ⟨.refl _, .refl _, .refl _, .refl _, trivial⟩⟩⟩
        replace hj : j < 1 := hj
        obtain rfl : j = 0 := by omega
        exact Le.ofEq (push_tx (f := fun a => (l.map Lib.itoa).getD a []) (congrArg (fun t => AV.str (toS t)) (mapT_at (by omega)).symm) ha)
        skip
        skip
      all_goals (exfalso; rename_i q; have q := of_decide_eq_false q; omega)
    · obtain rfl : k = (l.map Lib.itoa).length := by omega
      repeat' (first
        | ((with_reducible refine (?_ : Alt _ _)); first | (with_reducible (apply altM (ks := [0]) (m := 0); apply And.intro; apply Sc.of; apply (c26 hl (l.map Lib.itoa) [44] (l.map Lib.itoa).length ?_))) | (with_reducible refine Alt.one ?_))
        | ((with_reducible refine (?_ : AllLe _ _)); first | (first | exact AllLe.refl _ | (repeat' (first | exact trivial | apply Le.aggs | apply Le.tups | apply Le.fns | exact Le.refl _ | refine ⟨?_, ?_⟩))))
        | ((with_reducible refine (?_ : Sc _ (AllRen _ _ _))); refine Sc.of ?_; first | (repeat' (first | exact trivial | apply Le.aggs | apply Le.tups | apply Le.fns | exact Le.refl _ | refine ⟨?_, ?_⟩)))
        | ((with_reducible refine (?_ : (List.all _ _) = true)); rfl)
        | ((with_reducible refine (?_ : (and _ _) = true)); rfl)
        | ((with_reducible refine (?_ : List.Nodup _)); exact nodupB_spec rfl)
        | ((with_reducible refine (?_ : @Eq Nat _ _)); rfl)
        | ((with_reducible refine (?_ : @Eq (List (Option HObj)) _ _)); kernel_rfl)
        | ((with_reducible refine (?_ : LeOks _ _ _)); first | exact trivial | exact ⟨.refl _, trivial⟩ | exact ⟨.refl _, .refl _, trivial⟩)
        | ((fail_if_success with_reducible refine Stop.go ?_); (first | rw [beqvv (l.map Lib.itoa).length] | with_reducible refine And.intro ?_ ?_ | with_reducible refine Cut.go ?_ | (with_reducible (refine impI ?_; intro _)) | (with_reducible refine (?_ : footOK _ _ = true); kernel_rfl) | ((with_reducible refine propI ?_); conv => whnf))))
      all_goals try (exact .of (Nat.le_of_ble_eq_true rfl))
      all_goals try (exfalso; rename_i q; have q := of_decide_eq_true q; omega)
      · refine Side.mk ⟨by simpa using hne, by omega, ?_⟩
        have a := joinI_len hs l.length (Nat.le_refl _)
        rw [List.take_length] at a
        unfold joinI at a
        omega
      · exact .mk [] [] _ rfl (.le (Le.ofEq (congrArg AV.str (by rw [exW_ne hne])))) trivial rfl

set_option maxHeartbeats 1000000 in
theorem c7 (x : Trp) (hs : Side (XIn x)) : Pure (Xc W0 G) 7 [trpA x] (.str (fmtT x)) := by
  have hs := hs.get
  refine mut_of' hX (show FnIs (Xc W0 G) 7 Tryz.f7 (codeOf Tryz.f7) from ⟨by kernel_rfl, by kernel_rfl, by kernel_rfl, by kernel_rfl⟩) rfl ?_
  repeat' (first
    | ((with_reducible refine (?_ : Alt _ _)); first | ((with_reducible apply callAlt (c24 hl x.m.d ?_)); case hl => (first | exact AllLe.refl _ | ((repeat' (first | exact trivial | apply Le.aggs | apply Le.tups | apply Le.fns | exact Le.refl _ | refine ⟨?_, ?_⟩)); done))) | ((with_reducible apply callAlt (c24 hl x.m.s ?_)); case hl => (first | exact AllLe.refl _ | ((repeat' (first | exact trivial | apply Le.aggs | apply Le.tups | apply Le.fns | exact Le.refl _ | refine ⟨?_, ?_⟩)); done))) | (with_reducible apply callAlt (c25 hX hl x.ex ?_)) | (with_reducible refine Alt.two ?_))
    | ((with_reducible refine (?_ : AllLe _ _)); first | (first | exact AllLe.refl _ | (repeat' (first | exact trivial | apply Le.aggs | apply Le.tups | apply Le.fns | exact Le.refl _ | refine ⟨?_, ?_⟩))))
    | ((with_reducible refine (?_ : Sc _ (AllRen _ _ _))); refine Sc.of ?_; first | (repeat' (first | exact trivial | apply Le.aggs | apply Le.tups | apply Le.fns | exact Le.refl _ | refine ⟨?_, ?_⟩)))
    | ((with_reducible refine (?_ : (List.all _ _) = true)); rfl)
    | ((with_reducible refine (?_ : (and _ _) = true)); rfl)
    | ((with_reducible refine (?_ : List.Nodup _)); exact nodupB_spec rfl)
    | ((with_reducible refine (?_ : @Eq Nat _ _)); rfl)
    | ((with_reducible refine (?_ : @Eq (List (Option HObj)) _ _)); kernel_rfl)
    | ((with_reducible refine (?_ : LeOks _ _ _)); first | exact trivial | exact ⟨.refl _, trivial⟩ | exact ⟨.refl _, .refl _, trivial⟩)
    | ((fail_if_success with_reducible refine Stop.go ?_); (first | with_reducible refine And.intro ?_ ?_ | with_reducible refine Cut.go ?_ | (with_reducible (refine impI ?_; intro _)) | (with_reducible refine (?_ : footOK _ _ = true); kernel_rfl) | ((with_reducible refine propI ?_); conv => whnf))))
  all_goals try (exact .of (Nat.le_of_ble_eq_true rfl))
  all_goals try (exact Side.mk hs.d)
  all_goals try (exact Side.mk hs.s)
  all_goals try (exact Side.mk hs.ex)
  all_goals (have hlx := hs.len)
  · rename_i f0
    have hk : (if x.fx then fixW else metW) = fixW := by rw [f0]; rfl
    refine ⟨Nat × Nat × Nat, fun (i, k, v) => ([(4, .own 1 (v)), (23, segS x.sg), (24, .int .i64 (x.sg.length : Nat)), (25, .int .i64 ((i : Nat) : Int))], [.box (trpC x), .list 9 1 (k) (fun a _ => .str (toS ((wordsW x).getD a []))) (v)]), fun (i, k, v) => k = i + 4 ∧ v = i + 1 ∧ i ≤ x.sg.length, fun (i, k, v) => x.sg.length - i, ⟨(0, 4, 1), ⟨rfl, rfl, Nat.zero_le _⟩, .le ⟨rfl, ⟨.refl _, .list (fun a j ha hj => ?_), trivial⟩, ⟨.refl _, .refl _, .refl _, .refl _, trivial⟩⟩⟩, fun y hy => ?_⟩
    · replace hj : j < 1 := hj
      obtain rfl : j = 0 := by omega
      replace ha : a < 4 := ha
      rcases (show a = 0 ∨ a = 1 ∨ a = 2 ∨ a = 3 by omega) with rfl | rfl | rfl | rfl
      · exact .refl _
      · exact .refl _
      · exact Le.ofEq (congrArg (fun t => AV.str (toS t)) hk.symm)
      · exact .refl _
    obtain ⟨i, k, v⟩ := y
    obtain ⟨hk1, hv1, hi⟩ := hy
    rcases Nat.lt_or_ge i x.sg.length with hlt | hge
    · skip
      repeat' (first
        | ((with_reducible refine (?_ : Alt _ _)); first | (with_reducible apply callAlt (c25 hX hl [(x.sg.getD i seg0).z, (x.sg.getD i seg0).me, (x.sg.getD i seg0).se] ?_)) | (with_reducible refine Alt.one ?_))
        | ((with_reducible refine (?_ : AllLe _ _)); first | exact ⟨le_slc3 rfl rfl rfl, trivial⟩ | (first | exact AllLe.refl _ | (repeat' (first | exact trivial | apply Le.aggs | apply Le.tups | apply Le.fns | exact Le.refl _ | refine ⟨?_, ?_⟩))))
        | ((with_reducible refine (?_ : Sc _ (AllRen _ _ _))); refine Sc.of ?_; first | (repeat' (first | exact trivial | apply Le.aggs | apply Le.tups | apply Le.fns | exact Le.refl _ | refine ⟨?_, ?_⟩)))
        | ((with_reducible refine (?_ : (List.all _ _) = true)); rfl)
        | ((with_reducible refine (?_ : (and _ _) = true)); rfl)
        | ((with_reducible refine (?_ : List.Nodup _)); exact nodupB_spec rfl)
        | ((with_reducible refine (?_ : @Eq Nat _ _)); rfl)
        | ((with_reducible refine (?_ : @Eq (List (Option HObj)) _ _)); kernel_rfl)
        | ((with_reducible refine (?_ : LeOks _ _ _)); first | exact trivial | exact ⟨.refl _, trivial⟩ | exact ⟨.refl _, .refl _, trivial⟩)
        | ((fail_if_success with_reducible refine Stop.go ?_); (first | rw [beqvv v] | with_reducible refine And.intro ?_ ?_ | with_reducible refine Cut.go ?_ | (with_reducible (refine impI ?_; intro _)) | (with_reducible refine (?_ : footOK _ _ = true); kernel_rfl) | ((with_reducible refine propI ?_); conv => whnf))))
      all_goals try (exact .of (Nat.le_of_ble_eq_true rfl))
      all_goals try (exact Side.mk (seg3 (hs.sg i hlt)).1)
      all_goals try ((with_reducible refine (?_ : Sc _ _)); first | exact .of ⟨by omega, by omega⟩ | (refine Sc.of ⟨show (k + (0 + 1)) * 16 ≤ 140737488355328 by omega, show k + (0 + 1) ≤ 9223372036854775807 by omega⟩))
      · refine ⟨(i + 1, k + 1, v + 1), ⟨by omega, by omega, by omega⟩, by show x.sg.length - (i + 1) < x.sg.length - i; omega, .le ⟨rfl, ⟨.refl _, .list (fun a j ha hj => ?_), trivial⟩, ⟨.refl _, .refl _, .refl _, .refl _, trivial⟩⟩⟩
        replace hj : j < 1 := hj
        obtain rfl : j = 0 := by omega
        refine Le.ofEq (push_tx (f := fun a => (wordsW x).getD a []) (congrArg (fun t => AV.str (toS t)) ?_) ha)
        rw [hk1]
        exact (word_at hlt).symm
      all_goals (exfalso; rename_i q; have q := of_decide_eq_false q; omega)
    · have hw : (wordsW x).length = x.sg.length + 4 := by simp [wordsW, headW]
      obtain rfl : k = (wordsW x).length := by omega
      repeat' (first
        | ((with_reducible refine (?_ : Alt _ _)); first | (with_reducible (apply altM (ks := [1]) (m := 0); apply And.intro; apply Sc.of; apply (c26 hl (wordsW x) [32] v ?_))) | (with_reducible refine Alt.one ?_))
        | ((with_reducible refine (?_ : AllLe _ _)); first | (first | exact AllLe.refl _ | (repeat' (first | exact trivial | apply Le.aggs | apply Le.tups | apply Le.fns | exact Le.refl _ | refine ⟨?_, ?_⟩))))
        | ((with_reducible refine (?_ : Sc _ (AllRen _ _ _))); refine Sc.of ?_; first | (repeat' (first | exact trivial | apply Le.aggs | apply Le.tups | apply Le.fns | exact Le.refl _ | refine ⟨?_, ?_⟩)))
        | ((with_reducible refine (?_ : (List.all _ _) = true)); rfl)
        | ((with_reducible refine (?_ : (and _ _) = true)); rfl)
        | ((with_reducible refine (?_ : List.Nodup _)); exact nodupB_spec rfl)
        | ((with_reducible refine (?_ : @Eq Nat _ _)); rfl)
        | ((with_reducible refine (?_ : @Eq (List (Option HObj)) _ _)); kernel_rfl)
        | ((with_reducible refine (?_ : LeOks _ _ _)); first | exact trivial | exact ⟨.refl _, trivial⟩ | exact ⟨.refl _, .refl _, trivial⟩)
        | ((fail_if_success with_reducible refine Stop.go ?_); (first | rw [beqvv v] | with_reducible refine And.intro ?_ ?_ | with_reducible refine Cut.go ?_ | (with_reducible (refine impI ?_; intro _)) | (with_reducible refine (?_ : footOK _ _ = true); kernel_rfl) | ((with_reducible refine propI ?_); conv => whnf))))
      all_goals try (exact .of (Nat.le_of_ble_eq_true rfl))
      all_goals try (exfalso; rename_i q; have q := of_decide_eq_true q; omega)
      · refine Side.mk ⟨by simp [wordsW, headW], by omega, ?_⟩
        have a := body_len hs x.sg.length (Nat.le_refl _)
        unfold bodyT at a
        rw [List.take_length] at a
        show (Lib.join (headW x ++ x.sg.map segW) [32]).length ≤ _
        omega
      · exact .mk [] [] _ rfl (.le (.refl _)) trivial rfl
  · rename_i f0
    have hk : (if x.fx then fixW else metW) = metW := by rw [f0]; rfl
    refine ⟨Nat × Nat × Nat, fun (i, k, v) => ([(4, .own 1 (v)), (23, segS x.sg), (24, .int .i64 (x.sg.length : Nat)), (25, .int .i64 ((i : Nat) : Int))], [.box (trpC x), .list 9 1 (k) (fun a _ => .str (toS ((wordsW x).getD a []))) (v)]), fun (i, k, v) => k = i + 4 ∧ v = i + 1 ∧ i ≤ x.sg.length, fun (i, k, v) => x.sg.length - i, ⟨(0, 4, 1), ⟨rfl, rfl, Nat.zero_le _⟩, .le ⟨rfl, ⟨.refl _, .list (fun a j ha hj => ?_), trivial⟩, ⟨.refl _, .refl _, .refl _, .refl _, trivial⟩⟩⟩, fun y hy => ?_⟩
    · replace hj : j < 1 := hj
      obtain rfl : j = 0 := by omega
      replace ha : a < 4 := ha
      rcases (show a = 0 ∨ a = 1 ∨ a = 2 ∨ a = 3 by omega) with rfl | rfl | rfl | rfl
      · exact .refl _
      · exact .refl _
      · exact Le.ofEq (congrArg (fun t => AV.str (toS t)) hk.symm)
      · exact .refl _
    obtain ⟨i, k, v⟩ := y
    obtain ⟨hk1, hv1, hi⟩ := hy
    rcases Nat.lt_or_ge i x.sg.length with hlt | hge
    · skip
      repeat' (first
        | ((with_reducible refine (?_ : Alt _ _)); first | (with_reducible apply callAlt (c25 hX hl [(x.sg.getD i seg0).z, (x.sg.getD i seg0).me, (x.sg.getD i seg0).se] ?_)) | (with_reducible refine Alt.one ?_))
        | ((with_reducible refine (?_ : AllLe _ _)); first | exact ⟨le_slc3 rfl rfl rfl, trivial⟩ | (first | exact AllLe.refl _ | (repeat' (first | exact trivial | apply Le.aggs | apply Le.tups | apply Le.fns | exact Le.refl _ | refine ⟨?_, ?_⟩))))
        | ((with_reducible refine (?_ : Sc _ (AllRen _ _ _))); refine Sc.of ?_; first | (repeat' (first | exact trivial | apply Le.aggs | apply Le.tups | apply Le.fns | exact Le.refl _ | refine ⟨?_, ?_⟩)))
        | ((with_reducible refine (?_ : (List.all _ _) = true)); rfl)
        | ((with_reducible refine (?_ : (and _ _) = true)); rfl)
        | ((with_reducible refine (?_ : List.Nodup _)); exact nodupB_spec rfl)
        | ((with_reducible refine (?_ : @Eq Nat _ _)); rfl)
        | ((with_reducible refine (?_ : @Eq (List (Option HObj)) _ _)); kernel_rfl)
        | ((with_reducible refine (?_ : LeOks _ _ _)); first | exact trivial | exact ⟨.refl _, trivial⟩ | exact ⟨.refl _, .refl _, trivial⟩)
        | ((fail_if_success with_reducible refine Stop.go ?_); (first | rw [beqvv v] | with_reducible refine And.intro ?_ ?_ | with_reducible refine Cut.go ?_ | (with_reducible (refine impI ?_; intro _)) | (with_reducible refine (?_ : footOK _ _ = true); kernel_rfl) | ((with_reducible refine propI ?_); conv => whnf))))
      all_goals try (exact .of (Nat.le_of_ble_eq_true rfl))
      all_goals try (exact Side.mk (seg3 (hs.sg i hlt)).1)
      all_goals try ((with_reducible refine (?_ : Sc _ _)); first | exact .of ⟨by omega, by omega⟩ | (refine Sc.of ⟨show (k + (0 + 1)) * 16 ≤ 140737488355328 by omega, show k + (0 + 1) ≤ 9223372036854775807 by omega⟩))
      · refine ⟨(i + 1, k + 1, v + 1), ⟨by omega, by omega, by omega⟩, by show x.sg.length - (i + 1) < x.sg.length - i; omega, .le ⟨rfl, ⟨.refl _, .list (fun a j ha hj => ?_), trivial⟩, ⟨.refl _, .refl _, .refl _, .refl _, trivial⟩⟩⟩
        replace hj : j < 1 := hj
        obtain rfl : j = 0 := by omega
        refine Le.ofEq (push_tx (f := fun a => (wordsW x).getD a []) (congrArg (fun t => AV.str (toS t)) ?_) ha)
        rw [hk1]
        exact (word_at hlt).symm
      all_goals (exfalso; rename_i q; have q := of_decide_eq_false q; omega)
    · have hw : (wordsW x).length = x.sg.length + 4 := by simp [wordsW, headW]
      obtain rfl : k = (wordsW x).length := by omega
      repeat' (first
        | ((with_reducible refine (?_ : Alt _ _)); first | (with_reducible (apply altM (ks := [1]) (m := 0); apply And.intro; apply Sc.of; apply (c26 hl (wordsW x) [32] v ?_))) | (with_reducible refine Alt.one ?_))
        | ((with_reducible refine (?_ : AllLe _ _)); first | (first | exact AllLe.refl _ | (repeat' (first | exact trivial | apply Le.aggs | apply Le.tups | apply Le.fns | exact Le.refl _ | refine ⟨?_, ?_⟩))))
        | ((with_reducible refine (?_ : Sc _ (AllRen _ _ _))); refine Sc.of ?_; first | (repeat' (first | exact trivial | apply Le.aggs | apply Le.tups | apply Le.fns | exact Le.refl _ | refine ⟨?_, ?_⟩)))
        | ((with_reducible refine (?_ : (List.all _ _) = true)); rfl)
        | ((with_reducible refine (?_ : (and _ _) = true)); rfl)
        | ((with_reducible refine (?_ : List.Nodup _)); exact nodupB_spec rfl)
        | ((with_reducible refine (?_ : @Eq Nat _ _)); rfl)
        | ((with_reducible refine (?_ : @Eq (List (Option HObj)) _ _)); kernel_rfl)
        | ((with_reducible refine (?_ : LeOks _ _ _)); first | exact trivial | exact ⟨.refl _, trivial⟩ | exact ⟨.refl _, .refl _, trivial⟩)
        | ((fail_if_success with_reducible refine Stop.go ?_); (first | rw [beqvv v] | with_reducible refine And.intro ?_ ?_ | with_reducible refine Cut.go ?_ | (with_reducible (refine impI ?_; intro _)) | (with_reducible refine (?_ : footOK _ _ = true); kernel_rfl) | ((with_reducible refine propI ?_); conv => whnf))))
      all_goals try (exact .of (Nat.le_of_ble_eq_true rfl))
      all_goals try (exfalso; rename_i q; have q := of_decide_eq_true q; omega)
      · refine Side.mk ⟨by simp [wordsW, headW], by omega, ?_⟩
        have a := body_len hs x.sg.length (Nat.le_refl _)
        unfold bodyT at a
        rw [List.take_length] at a
        show (Lib.join (headW x ++ x.sg.map segW) [32]).length ≤ _
        omega
      · exact .mk [] [] _ rfl (.le (.refl _)) trivial rfl

end
end Go.Fx
