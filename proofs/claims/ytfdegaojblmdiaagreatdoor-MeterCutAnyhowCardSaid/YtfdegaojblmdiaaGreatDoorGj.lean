/-
  slices.Insert at events; Split and Merged.
-/
import Derived.Test.YtfdegaojblmdiaaGreatDoorGu
import Derived.Test.YtfdegaojblmdiaaGreatDoorGf
import Derived.Shelf.Spec.SlicesInsert
import Derived.Shelf.Spec.SlicesInsertGrow
import Derived.Test.YtfdegaojblmdiaaGreatDoorGm

set_option linter.all false

/-
  slices.Insert of one element into a slice of events.
-/
namespace Go.Fx
open Go Go.Proofs Go.Shelf Go.RowKit Go.Lib

theorem run_copy_rows {P : Program} (w : World) (dT sT ty elem : TypeId) (b o dLen dCap : Nat) (a : Addr) (sLen sCap es : Nat) (cs : List Value)
    (hu : P.underlying dT = some (.slice elem)) (hz : ∀ w, (Go.sizeOf elem).run P w = .ok es w) (hn : cs.length = Nat.min sLen dLen * es)
    (hsrc : ∀ j v, cs[j]? = some v → w.cell? (a.add j) = some v) (hc : ∀ j, j < cs.length → (w.cell? ⟨b, o + j, none⟩).isSome = true) (hf : ∀ j, j < cs.length → w.frozen? ⟨b, o + j, none⟩ = false) (h1 : ∀ v ∈ cs, v.oneCell' = true) :
    (Builtin.copy_ #[dT, sT] ty #[.slice (some ⟨b, o, none⟩) dLen dCap, .slice (some a) sLen sCap]).run P w = .ok (goInt (Nat.min sLen dLen)) (w.setCells b o cs) := by
  have hfc := run_firstCells_some (P := P) w es (Nat.min sLen dLen) a sLen sCap cs hn hsrc
  have hst := run_storeCells_cells (P := P) b o cs 0 w (by simpa using hc) (by simpa using hf) h1
  simp [Builtin.copy_, run_underlying hu, Builtin.lenOf, hz, hfc, hst]

section
theorem it0 : Tryz.prog.underlying 0 = some (TypeDesc.tuple #[]) := by kernel_rfl
theorem it3 : Tryz.prog.underlying 3 = some (TypeDesc.int IntKind.i64) := by kernel_rfl
theorem it4 : Tryz.prog.underlying 4 = some TypeDesc.bool := by kernel_rfl
theorem it31 : Tryz.prog.underlying 31 = some (TypeDesc.slice 41) := by kernel_rfl
theorem ia0 (w : World) : (isAgg 0).run Tryz.prog w = .ok false w := by unfold isAgg; simp [run_underlying it0]
theorem ia3 (w : World) : (isAgg 3).run Tryz.prog w = .ok false w := by unfold isAgg; simp [run_underlying it3]
theorem ia4 (w : World) : (isAgg 4).run Tryz.prog w = .ok false w := by unfold isAgg; simp [run_underlying it4]
theorem ia31 (w : World) : (isAgg 31).run Tryz.prog w = .ok false w := by unfold isAgg; simp [run_underlying it31]
theorem iz3 (w : World) : (Go.sizeOf 3).run Tryz.prog w = .ok 1 w := (tab_ok.at (show tab.getD 3 none = some _ from rfl)).run_sizeOf w
theorem iz4 (w : World) : (Go.sizeOf 4).run Tryz.prog w = .ok 1 w := (tab_ok.at (show tab.getD 4 none = some _ from rfl)).run_sizeOf w
theorem iz31 (w : World) : (Go.sizeOf 31).run Tryz.prog w = .ok 1 w := (tab_ok.at (show tab.getD 31 none = some _ from rfl)).run_sizeOf w
theorem iz41 (w : World) : (Go.sizeOf 41).run Tryz.prog w = .ok 2 w := (tab_ok.at (show tab.getD 41 none = some _ from rfl)).run_sizeOf w
theorem if70 : Tryz.prog.funcs[70]? = some Tryz.f70 := by kernel_rfl
theorem if115 : Tryz.prog.funcs[115]? = some Tryz.f115 := by kernel_rfl
theorem in70 : Tryz.f70.ntmps = 95 := by kernel_rfl
theorem imix : Tryz.prog.follows .mixedOrders = true := by kernel_rfl
set_option maxHeartbeats 4000000 in
set_option maxRecDepth 100000 in
theorem ins_shift (b n c i vb voff vc : Nat) (cs vs : List Value) (w : World) (hi : i < n) (hroom : n + 1 ≤ c) (hc63 : c ≤ 9223372036854775807) (hvb : vb ≠ b)
    (hcl : cs.length = n * 2) (hvl : vs.length = 2)
    (hcs : ∀ j v, cs[j]? = some v → w.cell? ⟨b, j, none⟩ = some v) (hsp : ∀ j, j < (n + 1) * 2 → (w.cell? ⟨b, j, none⟩).isSome = true) (hfz : ∀ j, j < (n + 1) * 2 → w.frozen? ⟨b, j, none⟩ = false)
    (hvs : ∀ j v, vs[j]? = some v → w.cell? ⟨vb, voff + j, none⟩ = some v) (h1c : ∀ v ∈ cs, v.oneCell' = true) (h1v : ∀ v ∈ vs, v.oneCell' = true)
    (tA tB : TypeId) (kA kB : Nat) (hsa : w.shape? vb = some (tA, kA)) (hsb : w.shape? b = some (tB, kB)) (hkB : kB ≠ 0) (hfa : w.frozen? ⟨vb, voff, none⟩ = false) (hfe : w.frozen? ⟨vb, kA, none⟩ = false) :
    Calls Tryz.prog 70 #[.slice (some ⟨b, 0, none⟩) n c, .int .i64 i, .slice (some ⟨vb, voff, none⟩) 1 vc] w fun e w' =>
      e = .returned (.slice (some ⟨b, 0, none⟩) (n + 1) c) ∧ w' = (w.drew.setCells b ((i + 1) * 2) (cs.drop (i * 2))).setCells b (i * 2) vs := by
  have t0 := it0; have a0 := ia0; have t3 := it3; have a3 := ia3; have z3 := iz3; have t4 := it4; have a4 := ia4; have z4 := iz4; have t31 := it31; have a31 := ia31; have z31 := iz31; have z41 := iz41
  have u0 := run_underlying it0; have u3 := run_underlying it3; have u4 := run_underlying it4; have u31 := run_underlying it31
  have hz2 : ¬ ((i : Int) = (n : Int)) := by omega
  have hov : ∀ lb cb, (callFunc 115 #[.slice (some ⟨vb, voff, none⟩) 1 vc, .slice (some ⟨b, (i + 1) * 2, none⟩) lb cb]).run Tryz.prog w = .ok (.value (.bool false)) w := fun lb cb => by
    rw [run_callFunc_extern if115 (by kernel_rfl) (by kernel_rfl) (by kernel_rfl) (e := Extern.SlicesOverlaps.overlaps #[31, 31] #[4]) (by kernel_rfl),
      Lib.run_overlaps_apart w 31 4 41 it31 2 iz41 ⟨vb, voff, none⟩ ⟨b, (i + 1) * 2, none⟩ 1 vc lb cb hvb tA tB kA kB hsa hsb hkB hfa hfe]
    rfl
  have hdl : (cs.drop (i * 2)).length = (n - i) * 2 := by rw [List.length_drop, hcl]; omega
  have mixed := imix
  have hw1 : IntKind.i64.wrap ((i : Int) + 1) = (i : Int) + 1 := by rw [IntKind.wrap_i64]; omega
  have hw2 : IntKind.i64.wrap ((n : Int) + 1) = (n : Int) + 1 := by rw [IntKind.wrap_i64]; omega
  have hin : i ≤ n := by omega
  have htn : ((i : Int) + 1).toNat = i + 1 := by omega
  have htn2 : ((n : Int) + 1).toNat = n + 1 := by omega
  have hb1 : (0 : Int) ≤ (i : Int) + 1 := by omega
  have hb2 : ¬ (c = i + 1) := by omega
  have hb3 : (i : Int) ≤ (n : Int) + 1 := by omega
  have hb4 : ¬ (c = i) := by omega
  have hb5 : i ≤ n + 1 := by omega
  have hcp1 : ∀ ty dc sc, (Builtin.copy_ #[31, 31] ty #[.slice (some ⟨b, (i + 1) * 2, none⟩) (n - i) dc, .slice (some ⟨b, i * 2, none⟩) (n + 1 - i) sc]).run Tryz.prog w.drew = .ok (goInt (Nat.min (n + 1 - i) (n - i))) (w.drew.setCells b ((i + 1) * 2) (cs.drop (i * 2))) := fun ty dc sc =>
    run_copy_rows w.drew _ _ ty 41 b ((i + 1) * 2) (n - i) dc ⟨b, i * 2, none⟩ (n + 1 - i) sc 2 (cs.drop (i * 2)) it31 iz41 (by rw [hdl]; simp only [Nat.min_def]; split <;> omega)
      (fun j v hj => by rw [Addr.add_lit]; exact hcs (i * 2 + j) v (by rwa [List.getElem?_drop] at hj))
      (fun j hj => hsp _ (by omega)) (fun j hj => hfz _ (by omega)) (fun v hv => h1c v (List.mem_of_mem_drop hv))
  obtain ⟨W1, hW1⟩ : ∃ W1, W1 = w.drew.setCells b ((i + 1) * 2) (cs.drop (i * 2)) := ⟨_, rfl⟩
  have hsp1 : ∀ k, k < (n + 1) * 2 → (W1.cell? ⟨b, k, none⟩).isSome = true := fun k hk => by
    rw [hW1]
    exact isSome_setCells b (cs.drop (i * 2)) ((i + 1) * 2) w.drew (fun j hj => hsp _ (by rw [hdl] at hj; omega)) _ (hsp k hk)
  have hcp2 : ∀ (W : World), (∀ x, W.cell? x = W1.cell? x) → (∀ x, W.frozen? x = W1.frozen? x) → ∀ ty dc, (Builtin.copy_ #[31, 31] ty #[.slice (some ⟨b, i * 2, none⟩) (n + 1 - i) dc, .slice (some ⟨vb, voff, none⟩) 1 vc]).run Tryz.prog W = .ok (goInt (Nat.min 1 (n + 1 - i))) (W.setCells b (i * 2) vs) := fun W hWc hWf ty dc =>
    run_copy_rows W _ _ ty 41 b (i * 2) (n + 1 - i) dc ⟨vb, voff, none⟩ 1 vc 2 vs it31 iz41 (by rw [hvl]; simp only [Nat.min_def]; split <;> omega)
      (fun j v hj => by
        rw [Addr.add_lit, hWc, hW1, World.cell?_setCells_out b _ _ _ _ (fun h _ => absurd h hvb)]
        exact hvs j v hj)
      (fun j hj => by rw [hWc]; exact hsp1 _ (by omega)) (fun j hj => by rw [hWf, hW1, World.frozen?_setCells]; exact hfz _ (by omega)) h1v
  rw [← hW1] at hcp1
  go_enter if70, in70
  go_wp2_with (simp only [hov])
  go_region_law_o (refine step_copy_runI rfl _ _ 31 31 rfl _ _ (by simp [Act.eval, Act.put]) (by simp [Act.eval, Act.put]) (hcp1 _ _ _) ?_)
  go_wp2_with (at_builtin; refine wpList_copy_runI _ rfl _ _ 31 31 rfl _ _ rfl rfl (hcp2 _ (fun _ => by first | rfl | (rw [hW1]; rfl)) (fun _ => by first | rfl | (rw [hW1]; rfl)) _ _) ?_)
  go_ret
  first | exact ⟨rfl, rfl⟩ | exact ⟨rfl, by rw [hW1]⟩
set_option maxHeartbeats 4000000 in
set_option maxRecDepth 100000 in
theorem ins_grow (b n c i vb voff vc : Nat) (cs vs : List Value) (w : World) (hi : i < n) (hnc : n ≤ c) (hroom : c < n + 1) (hbig : (n + 1) * 16 ≤ 140737488355328)
    (hcl : cs.length = n * 2) (hvl : vs.length = 2)
    (hcs : ∀ j v, cs[j]? = some v → w.cell? ⟨b, j, none⟩ = some v)
    (hvs : ∀ j v, vs[j]? = some v → w.cell? ⟨vb, voff + j, none⟩ = some v) (h1c : ∀ v ∈ cs, v.oneCell' = true) (h1v : ∀ v ∈ vs, v.oneCell' = true)
    (i0 : TypeInfo) (z : Value) (hi0 : Tryz.prog.info? 41 = some i0) (hz0 : i0.zero = some z) (hzs : i0.size = 2) (hzb : i0.bytes = 16) (hzc : z.cells.size = 2) :
    Calls Tryz.prog 70 #[.slice (some ⟨b, 0, none⟩) n c, .int .i64 i, .slice (some ⟨vb, voff, none⟩) 1 vc] w fun e w' =>
      e = .returned (.slice (some ⟨w.heap.size, 0, none⟩) (n + 1) (grownCap w (n + 1) c 41)) ∧
      w' = (((w.alloc (.cells ((cs.take (i * 2)).toArray ++ Builtin.zeroCells z.cells (n + 1 - i) ++ Builtin.zeroCells z.cells (grownCap w (n + 1) c 41 - (n + 1))) 41)).drew.setCells w.heap.size (i * 2) vs).drew).setCells w.heap.size ((i + 1) * 2) (cs.drop (i * 2)) := by
  have t0 := it0; have a0 := ia0; have t3 := it3; have a3 := ia3; have z3 := iz3; have t4 := it4; have a4 := ia4; have z4 := iz4; have t31 := it31; have a31 := ia31; have z31 := iz31; have z41 := iz41
  have u0 := run_underlying it0; have u3 := run_underlying it3; have u4 := run_underlying it4; have u31 := run_underlying it31
  have mixed := imix
  have hz2 : ¬ ((i : Int) = (n : Int)) := by omega
  have hz3 : (c : Int) < (n : Int) + 1 := by omega
  have hbw : b < w.heap.size := block_lt_of_cell (hcs 0 _ (List.getElem?_eq_getElem (by omega)))
  have hvw : vb < w.heap.size := block_lt_of_cell (hvs 0 _ (List.getElem?_eq_getElem (by omega)))
  have hkk : (n : Int) + 1 - (i : Int) = ((n + 1 - i : Nat) : Int) := by omega
  have hik : i + (n + 1 - i) = n + 1 := by omega
  have hold : (Builtin.firstCells i0.size i (.slice (some ⟨b, 0, none⟩) i c)).run Tryz.prog w.drew = .ok (cs.take (i * 2)).toArray w.drew := by
    rw [hzs]
    exact run_firstCells_some w.drew 2 i ⟨b, 0, none⟩ i c (cs.take (i * 2)) (by rw [List.length_take]; omega) (fun j v hj => by
      rw [Addr.add_lit, Nat.zero_add]
      rw [List.getElem?_take] at hj
      split at hj
      · exact hcs j v hj
      · cases hj)
  have hrz : ∀ ty, (Builtin.append_ #[31, 3] ty #[.slice (some ⟨b, 0, none⟩) i c, .int .i64 ((n : Int) + 1 - (i : Int))]).run Tryz.prog w =
      .ok (.slice (some ⟨w.heap.size, 0, none⟩) (n + 1) (grownCap w (n + 1) c 41)) (w.drew.alloc (.cells ((cs.take (i * 2)).toArray ++ Builtin.zeroCells z.cells (n + 1 - i) ++ Builtin.zeroCells z.cells (grownCap w (n + 1) c 41 - (n + 1))) 41)) := fun ty => by
    have h := Lib.run_append_grow_zeros w 31 3 ty 41 i0 z .i64 .i64 it31 it3 hi0 hz0 (some ⟨b, 0, none⟩) i c (cs.take (i * 2)) hold (n + 1 - i) (by omega) (by omega) (by omega) (by omega) (by rw [hzb]; omega) (by rw [hzb, hik]; exact growslice_fits hroom hbig)
    rw [hik] at h
    rw [hkk]
    exact h
  obtain ⟨G, hG⟩ : ∃ G, G = grownCap w (n + 1) c 41 := ⟨_, rfl⟩
  obtain ⟨ROW, hROW⟩ : ∃ ROW : Array Value, ROW = (cs.take (i * 2)).toArray ++ Builtin.zeroCells z.cells (n + 1 - i) ++ Builtin.zeroCells z.cells (G - (n + 1)) := ⟨_, rfl⟩
  rw [← hG] at hrz ⊢
  rw [← hROW] at hrz ⊢
  have hRl : (n + 1) * 2 ≤ ROW.size := by
    rw [hROW]
    simp [Builtin.zeroCells, hzc]
    omega
  obtain ⟨W1, hW1⟩ : ∃ W1, W1 = w.drew.alloc (.cells ROW 41) := ⟨_, rfl⟩
  rw [← hW1] at hrz
  have hN : ∀ j, j < (n + 1) * 2 → (W1.cell? ⟨w.heap.size, j, none⟩).isSome = true := fun j hj => by
    rw [hW1, World.cell?_alloc_at (w := w.drew) ROW _ w.heap.size j rfl, Array.getElem?_eq_getElem (by omega)]; rfl
  have hNf : ∀ j, W1.frozen? ⟨w.heap.size, j, none⟩ = false := fun j => by rw [hW1]; exact World.frozen?_alloc_at (w := w.drew) ROW _ w.heap.size j rfl
  have hOb : ∀ j v, w.cell? ⟨b, j, none⟩ = some v → W1.cell? ⟨b, j, none⟩ = some v := fun j v h => by rw [hW1, World.cell?_alloc_past (w := w.drew) _ b j hbw]; exact h
  have hOv : ∀ j v, w.cell? ⟨vb, j, none⟩ = some v → W1.cell? ⟨vb, j, none⟩ = some v := fun j v h => by rw [hW1, World.cell?_alloc_past (w := w.drew) _ vb j hvw]; exact h
  have hcpA : ∀ (W : World), (∀ x, W.cell? x = W1.cell? x) → (∀ x, W.frozen? x = W1.frozen? x) → ∀ ty dc, (Builtin.copy_ #[31, 31] ty #[.slice (some ⟨w.heap.size, i * 2, none⟩) (n + 1 - i) dc, .slice (some ⟨vb, voff, none⟩) 1 vc]).run Tryz.prog W = .ok (goInt (Nat.min 1 (n + 1 - i))) (W.setCells w.heap.size (i * 2) vs) := fun W hWc hWf ty dc =>
    run_copy_rows W _ _ ty 41 w.heap.size (i * 2) (n + 1 - i) dc ⟨vb, voff, none⟩ 1 vc 2 vs it31 iz41 (by rw [hvl]; simp only [Nat.min_def]; split <;> omega)
      (fun j v hj => by rw [Addr.add_lit, hWc]; exact hOv _ v (hvs j v hj))
      (fun j hj => by rw [hWc]; exact hN _ (by omega)) (fun j hj => by rw [hWf]; exact hNf _) h1v
  have hGn : n + 1 ≤ G := by rw [hG]; exact grownCap_ge w _ _ _
  have hG63 : G ≤ 9223372036854775807 := by
    have := grownCap_le_maxLen w (n + 1) c 41 (by unfold maxLen; omega)
    rw [← hG] at this
    unfold maxLen at this
    omega
  have hGi : ¬ (G = i) := by omega
  have hGim : ¬ (G = i + 1) := by omega
  have hci : ¬ (c = i) := by omega
  have hbN : b ≠ w.heap.size := by omega
  have hdl : (cs.drop (i * 2)).length = (n - i) * 2 := by rw [List.length_drop, hcl]; omega
  have hcpB : ∀ (W : World), (∀ x, W.cell? x = (W1.setCells w.heap.size (i * 2) vs).cell? x) → (∀ x, W.frozen? x = (W1.setCells w.heap.size (i * 2) vs).frozen? x) → ∀ ty dc sc, (Builtin.copy_ #[31, 31] ty #[.slice (some ⟨w.heap.size, (i + 1) * 2, none⟩) (n - i) dc, .slice (some ⟨b, i * 2, none⟩) (n - i) sc]).run Tryz.prog W = .ok (goInt (Nat.min (n - i) (n - i))) (W.setCells w.heap.size ((i + 1) * 2) (cs.drop (i * 2))) := fun W hWc hWf ty dc sc =>
    run_copy_rows W _ _ ty 41 w.heap.size ((i + 1) * 2) (n - i) dc ⟨b, i * 2, none⟩ (n - i) sc 2 (cs.drop (i * 2)) it31 iz41 (by rw [hdl]; simp only [Nat.min_def]; split <;> omega)
      (fun j v hj => by
        rw [Addr.add_lit, hWc, World.cell?_setCells_out _ _ _ _ _ (fun h _ => absurd h hbN)]
        exact hOb _ v (hcs (i * 2 + j) v (by rwa [List.getElem?_drop] at hj)))
      (fun j hj => by rw [hWc]; exact isSome_setCells w.heap.size vs (i * 2) W1 (fun t ht => hN _ (by rw [hvl] at ht; omega)) _ (hN _ (by rw [hdl] at hj; omega)))
      (fun j hj => by rw [hWf, World.frozen?_setCells]; exact hNf _) (fun v hv => h1c v (List.mem_of_mem_drop hv))
  subst hW1
  have hE1 : ∀ x, ((w.alloc (.cells ROW 41)).drew).cell? x = (w.drew.alloc (.cells ROW 41)).cell? x := fun x => rfl
  have hE2 : ∀ x, ((w.alloc (.cells ROW 41)).drew).frozen? x = (w.drew.alloc (.cells ROW 41)).frozen? x := fun x => rfl
  have hF1 : ∀ x, (((w.alloc (.cells ROW 41)).drew.setCells w.heap.size (i * 2) vs).drew).cell? x = ((w.drew.alloc (.cells ROW 41)).setCells w.heap.size (i * 2) vs).cell? x := fun x => rfl
  have hF2 : ∀ x, (((w.alloc (.cells ROW 41)).drew.setCells w.heap.size (i * 2) vs).drew).frozen? x = ((w.drew.alloc (.cells ROW 41)).setCells w.heap.size (i * 2) vs).frozen? x := fun x => rfl
  have hw1 : IntKind.i64.wrap ((i : Int) + 1) = (i : Int) + 1 := by rw [IntKind.wrap_i64]; omega
  have hw2 : IntKind.i64.wrap ((n : Int) + 1) = (n : Int) + 1 := by rw [IntKind.wrap_i64]; omega
  have hw3 : IntKind.i64.wrap ((n : Int) + 1 - (i : Int)) = (n : Int) + 1 - (i : Int) := by rw [IntKind.wrap_i64]; omega
  have hb1 : (0 : Int) ≤ (i : Int) + 1 := by omega
  have hin : i ≤ n := by omega
  have htn : ((i : Int) + 1).toNat = i + 1 := by omega
  have hb3 : (i : Int) ≤ (n : Int) := by omega
  have hb5 : i ≤ n + 1 := by omega
  have hb6 : i ≤ G := by omega
  clear hkk hik hold hROW hG hRl
  go_enter if70, in70
  go_wp2_with (first
    | (at_builtin; refine Lib.wpList_append_run _ rfl _ _ _ _ rfl _ _ rfl rfl _ _ (hrz _) ?_)
    | (at_builtin; refine wpList_copy_runI _ rfl _ _ 31 31 rfl _ _ rfl rfl (hcpA _ hE1 hE2 _ _) ?_)
    | (at_builtin; refine wpList_copy_runI _ rfl _ _ 31 31 rfl _ _ rfl rfl (hcpB _ (fun _ => rfl) (fun _ => rfl) _ _ _) ?_))
  go_region_law_o (refine step_copy_runI rfl _ _ 31 31 rfl (.slice (some ⟨w.heap.size, (i + 1) * 2, none⟩) (n - i) (G - (i + 1))) (.slice (some ⟨b, i * 2, none⟩) (n - i) (c - i)) (by simp [Act.eval, Act.put]) (by simp [Act.eval, Act.put]) (hcpB _ hF1 hF2 3 (G - (i + 1)) (c - i)) ?_)
  go_wp2
  go_ret
  exact ⟨rfl, rfl⟩
end
end Go.Fx

/-
  slices.Insert of one element, as what it turns own lists into.
-/
namespace Go.Fx
open Go Go.Proofs Go.Shelf Go.RowKit Go.Lib

theorem set_row (b : Nat) : ∀ (vs : List Value) (o : Nat) (w : World) (cur : Array Value) (e : TypeId), w.heap[b]? = some (.cells cur e (0, 0)) → o + vs.length ≤ cur.size →
    ∃ cur' : Array Value, (w.setCells b o vs).heap[b]? = some (.cells cur' e (0, 0)) ∧ cur'.size = cur.size ∧ (∀ j, j < vs.length → cur'[o + j]? = vs[j]?) ∧ (∀ j, j < o ∨ o + vs.length ≤ j → cur'[j]? = cur[j]?) ∧
      (∀ k, k ≠ b → (w.setCells b o vs).heap[k]? = w.heap[k]?) ∧ (w.setCells b o vs).heap.size = w.heap.size ∧ (w.setCells b o vs).os = w.os ∧ (w.setCells b o vs).tape = w.tape ∧ (w.setCells b o vs).output = w.output
  | [], o, w, cur, e, h, _ => ⟨cur, h, rfl, fun j hj => absurd hj (Nat.not_lt_zero j), fun _ _ => rfl, fun _ _ => rfl, rfl, rfl, rfl, rfl⟩
  | v :: r, o, w, cur, e, h, hs => by
    have h1 : (w.setCell ⟨b, o, none⟩ v).heap[b]? = some (.cells (cur.setIfInBounds o v) e (0, 0)) := by
      simp [World.setCell, Array.getElem?_modify, h]
    have hs2 : o + (r.length + 1) ≤ cur.size := by simpa using hs
    obtain ⟨cur', a1, a2, a3, a4, a5, a6, a7, a8, a9⟩ := set_row b r (o + 1) _ _ e h1 (by simp; omega)
    refine ⟨cur', a1, by rw [a2]; simp, fun j hj => ?_, fun j hj => ?_, fun k hk => ?_, ?_, a7, a8, a9⟩
    · cases j with
      | zero => rw [Nat.add_zero, a4 o (.inl (by omega)), Array.getElem?_setIfInBounds_self_of_lt (by omega)]; rfl
      | succ j => rw [show o + (j + 1) = o + 1 + j by omega, a3 j (by simpa using hj)]; rfl
    · have hj : j < o ∨ o + (r.length + 1) ≤ j := by simpa using hj
      rw [a4 j (by omega), Array.getElem?_setIfInBounds_ne (by omega)]
    · show (World.setCells (w.setCell ⟨b, o, none⟩ v) b (o + 1) r).heap[k]? = _
      rw [a5 k hk]; simp [World.setCell, Array.getElem?_modify, Ne.symm hk]
    · show (World.setCells (w.setCell ⟨b, o, none⟩ v) b (o + 1) r).heap.size = _
      rw [a6]; simp [World.setCell]

def insF (i : Nat) (f g : Nat → Nat → AV) (a j : Nat) : AV := bif decide (a < i) then f a j else bif decide (a = i) then g 0 j else f (a - 1) j
theorem ins_list {cs vs : List Value} {i n : Nat} (hc : cs.length = n * 2) (hv : vs.length = 2) (hi : i ≤ n) :
    (cs.take (i * 2) ++ vs ++ cs.drop (i * 2)).length = (n + 1) * 2 ∧ (∀ q, q < i * 2 → (cs.take (i * 2) ++ vs ++ cs.drop (i * 2))[q]? = cs[q]?) ∧ (∀ j, j < 2 → (cs.take (i * 2) ++ vs ++ cs.drop (i * 2))[i * 2 + j]? = vs[j]?) ∧
      ∀ q, i * 2 ≤ q → (cs.take (i * 2) ++ vs ++ cs.drop (i * 2))[q + 2]? = cs[q]? := by
  have ht : (cs.take (i * 2)).length = i * 2 := by rw [List.length_take]; omega
  refine ⟨by simp [ht, hv, hc]; omega, fun q hq => ?_, fun j hj => ?_, fun q hq => ?_⟩
  · rw [List.append_assoc, List.getElem?_append_left (by omega), List.getElem?_take_of_lt hq]
  · rw [List.append_assoc, List.getElem?_append_right (by omega), ht, Nat.add_sub_cancel_left, List.getElem?_append_left (by omega)]
  · rw [List.getElem?_append_right (by simp [ht, hv]; omega)]
    simp only [List.length_append, ht, hv, List.getElem?_drop]
    congr 1; omega
structure InsR (c : Cfg) (n i : Nat) (f g : Nat → Nat → AV) (v : Value) (w' : World) : Prop where
  own : ∃ xs, OwnsL w' 41 2 v (n + 1) xs ∧ (∀ x ∈ xs, x.oneCell' = true) ∧ ∀ a j, a < n + 1 → j < 2 → ∃ x, xs[a * 2 + j]? = some x ∧ Reads c.g c.I c.w (insF i f g a j) 0 x
  os : w'.os = c.w.os
  tape : w'.tape = c.w.tape
  output : w'.output = c.w.output
  size : c.w.heap.size ≤ w'.heap.size
  block : ∀ b, b < c.w.heap.size → vblk (c.g 0).v ≠ some b → w'.heap[b]? = c.w.heap[b]?
  blk : ∀ b, vblk v = some b → (c.w.heap.size ≤ b ∧ b < w'.heap.size) ∨ vblk (c.g 0).v = some b
theorem ins_reads {c : Cfg} {n i : Nat} {f g : Nat → Nat → AV} {cs vs : List Value} (hc : cs.length = n * 2) (hv : vs.length = 2) (hi : i ≤ n)
    (hf : ∀ a j, a < n → j < 2 → ∃ x, cs[a * 2 + j]? = some x ∧ Reads c.g c.I c.w (f a j) 0 x) (hg : ∀ j, j < 2 → ∃ x, vs[j]? = some x ∧ Reads c.g c.I c.w (g 0 j) 0 x) :
    ∀ a j, a < n + 1 → j < 2 → ∃ x, (cs.take (i * 2) ++ vs ++ cs.drop (i * 2))[a * 2 + j]? = some x ∧ Reads c.g c.I c.w (insF i f g a j) 0 x := fun a j ha hj => by
  obtain ⟨_, l1, l2, l3⟩ := ins_list hc hv hi
  unfold insF
  rcases Nat.lt_trichotomy a i with h | h | h
  · rw [decide_eq_true h, l1 _ (by omega)]; exact hf a j (by omega) hj
  · subst h; rw [decide_eq_false (Nat.lt_irrefl a), decide_eq_true rfl, l2 j hj]; exact hg j hj
  · rw [decide_eq_false (by omega), decide_eq_false (by omega)]
    obtain ⟨m, rfl⟩ : ∃ m, a = m + 1 := ⟨a - 1, by omega⟩
    rw [show (m + 1) * 2 + j = (m * 2 + j) + 2 by omega, l3 _ (by omega)]
    exact hf m j (by omega) hj
end Go.Fx

/-
  slices.Insert of one element: its three roads, told of a configuration.
-/
namespace Go.Fx
open Go Go.Proofs Go.Shelf Go.RowKit Go.Lib

theorem cell_row {w : World} {b : Nat} {cur : Array Value} {e : TypeId} (h : w.heap[b]? = some (.cells cur e (0, 0))) (j : Nat) : w.cell? ⟨b, j, none⟩ = cur[j]? := by
  simp [World.cell?, h]
theorem own_at {c : Cfg} (hok : c.Ok) {k e es n ver : Nat} {f : Nat → Nat → AV} (hk : c.H[k]? = some (.list e es n f ver)) (hn : 0 < n) :
    (c.g k).ver = ver ∧ 0 < ver ∧ ∃ (b cap : Nat) (cur : Array Value) (xs : List Value), (c.g k).v = .slice (some ⟨b, 0, none⟩) n cap ∧ c.w.heap[b]? = some (.cells cur e (0, 0)) ∧ n ≤ cap ∧ cap ≤ maxLen ∧ cur.size = cap * es ∧ xs.length = n * es ∧
      (∀ q, q < n * es → cur[q]? = xs[q]?) ∧ (∀ x ∈ xs, x.oneCell' = true) ∧ ∀ i j, i < n → j < es → ∃ x, xs[i * es + j]? = some x ∧ Reads c.g c.I c.w (f i j) 0 x := by
  obtain ⟨hv, hp, xs, ho, h1, hx⟩ := hok.obj k _ hk
  refine ⟨hv, hp, ?_⟩
  rcases ho with ⟨h0, _⟩ | ⟨b, cap, cur, a1, a2, a3, a4, a5, a6, a7⟩
  · omega
  · have hle : n * es ≤ cur.size := by rw [a6]; exact Nat.mul_le_mul_right _ a4
    refine ⟨b, cap, cur, xs, a1, a3, a4, a5, a6, ?_, fun q hq => ?_, h1, hx⟩
    · rw [← a7, List.length_take]; simp; exact Nat.min_eq_left hle
    · rw [← a7, List.getElem?_take_of_lt hq]; simp
theorem wslice {n : Nat} {b cap : Nat} (h : 0 < cap) : vblk (.slice (some ⟨b, 0, none⟩) n cap) = some b := by
  obtain ⟨c, rfl⟩ : ∃ c, cap = c + 1 := ⟨cap - 1, by omega⟩
  rfl
section
variable {c : Cfg} (hok : c.Ok) {n ver ver2 i : Nat} {f g : Nat → Nat → AV} (h0 : c.H[0]? = some (.list 41 2 n f ver)) (h1 : c.H[1]? = some (.list 41 2 1 g ver2)) (hn : 0 < n) (hn2 : n ≤ 1000) (hi : i < n)
include hok h0 h1 hn hn2 hi
theorem ins_mid : Calls Tryz.prog 70 #[(c.g 0).v, .int .i64 i, (c.g 1).v] c.w fun e w' => ∃ v, e = .returned v ∧ InsR c n i f g v w' := by
  obtain ⟨_, _, b, cap, cur, xs, a1, a2, a3, a4, a5, a6, a7, a8, a9⟩ := own_at hok h0 hn
  obtain ⟨_, _, vb, vc, curv, vs, b1, b2, b3, b4, b5, b6, b7, b8, b9⟩ := own_at hok h1 Nat.one_pos
  have hne : vb ≠ b := fun e => hok.apart 0 1 _ _ b h0 h1 (by decide) (by show vblk (c.g 0).v = some b; rw [a1]; exact wslice (by omega)) (by show vblk (c.g 1).v = some b; rw [b1, e]; exact wslice (by omega))
  have b6 : vs.length = 2 := b6
  have hg : ∀ j, j < 2 → ∃ x, vs[j]? = some x ∧ Reads c.g c.I c.w (g 0 j) 0 x := fun j hj => by have := b9 0 j Nat.one_pos hj; rwa [Nat.zero_mul, Nat.zero_add] at this
  have hm : cap ≤ 9223372036854775807 := a4
  obtain ⟨l0, l1, l2, l3⟩ := ins_list a6 b6 (Nat.le_of_lt hi)
  have hone : ∀ x ∈ (xs.take (i * 2) ++ vs ++ xs.drop (i * 2)), x.oneCell' = true := fun x hx => by
    rcases List.mem_append.1 hx with hx | hx
    · rcases List.mem_append.1 hx with hx | hx
      · exact a8 x (List.mem_of_mem_take hx)
      · exact b8 x hx
    · exact a8 x (List.mem_of_mem_drop hx)
  have hdl : (xs.drop (i * 2)).length = (n - i) * 2 := by rw [List.length_drop, a6]; omega
  have hcs : ∀ j v, xs[j]? = some v → c.w.cell? ⟨b, j, none⟩ = some v := fun j v hj => by
    rw [cell_row a2, a7 j (by have := (List.getElem?_eq_some_iff.1 hj).1; omega)]; exact hj
  have hvs : ∀ j v, vs[j]? = some v → c.w.cell? ⟨vb, 0 + j, none⟩ = some v := fun j v hj => by
    rw [cell_row b2, Nat.zero_add, b7 j (by have := (List.getElem?_eq_some_iff.1 hj).1; omega)]; exact hj
  rw [a1, b1]
  by_cases hroom : n + 1 ≤ cap
  · refine (ins_shift b n cap i vb 0 vc xs vs c.w hi hroom hm hne a6 b6 hcs (fun j hj => by rw [cell_row a2, Array.getElem?_eq_getElem (by omega)]; rfl) (fun j hj => frozen_no a2 (by omega)) hvs a8 b8
      41 41 curv.size cur.size (by simp [World.shape?, b2]) (by simp [World.shape?, a2]) (by omega) (by simp [World.frozen?, b2]) (by simp [World.frozen?, b2])).mono fun e w' ⟨he, hw⟩ => ?_
    subst hw
    obtain ⟨cu1, p1, p2, p3, p4, p5, p6, p7, p8, p9⟩ := set_row b (xs.drop (i * 2)) ((i + 1) * 2) c.w.drew cur 41 a2 (by rw [hdl]; omega)
    obtain ⟨cu2, q1, q2, q3, q4, q5, q6, q7, q8, q9⟩ := set_row b vs (i * 2) _ cu1 41 p1 (by rw [b6]; omega)
    refine ⟨_, he, ⟨_, .inr ⟨b, cap, cu2, rfl, by omega, q1, hroom, a4, by omega, ?_⟩, hone, ins_reads a6 b6 (Nat.le_of_lt hi) a9 hg⟩, q7.trans p7, q8.trans p8, q9.trans p9, by rw [q6, p6]; exact Nat.le_refl _, fun k hk hne2 => ?_, fun k hk => .inr ?_⟩
    · apply List.ext_getElem?
      intro q
      rcases Nat.lt_or_ge q ((n + 1) * 2) with h | h
      · rw [List.getElem?_take_of_lt h, Array.getElem?_toList]
        rcases Nat.lt_or_ge q (i * 2) with h2 | h2
        · rw [q4 q (.inl h2), p4 q (.inl (by omega)), a7 q (by omega), l1 q h2]
        · rcases Nat.lt_or_ge q (i * 2 + 2) with h3 | h3
          · obtain ⟨j, rfl⟩ : ∃ j, q = i * 2 + j := ⟨q - i * 2, by omega⟩
            rw [q3 j (by omega), l2 j (by omega)]
          · obtain ⟨j, rfl⟩ : ∃ j, q = (i + 1) * 2 + j := ⟨q - (i + 1) * 2, by omega⟩
            rw [q4 _ (.inr (by rw [b6]; omega)), p3 j (by rw [hdl]; omega), List.getElem?_drop, show (i + 1) * 2 + j = (i * 2 + j) + 2 by omega, l3 _ (by omega)]
      · rw [List.getElem?_take_eq_none h, List.getElem?_eq_none (by rw [l0]; exact h)]
    · have hkb : k ≠ b := fun e => hne2 (by rw [a1, e]; exact wslice (by omega))
      rw [q5 k hkb, p5 k hkb]; rfl
    · rw [wslice (by omega)] at hk
      rw [a1, ← hk]; exact wslice (by omega)
  · have hE : TIok Tryz.prog 41 _ := tab_ok.at (show tab.getD 41 none = some _ from rfl)
    obtain ⟨i0, z, z1, z2, z3, z4, z5⟩ := hE.info
    have hz3 : z.cells.size = 2 := by
      have : z.cells.toList.length = 2 := by rw [z5]; rfl
      simpa using this
    refine (ins_grow b n cap i vb 0 vc xs vs c.w hi a3 (by omega) (by omega) a6 b6 hcs hvs a8 b8 i0 z z1 z4 z2 z3 hz3).mono fun e w' ⟨he, hw⟩ => ?_
    have hGn := grownCap_ge c.w (n + 1) cap 41
    have hGm := grownCap_le_maxLen c.w (n + 1) cap 41 (by unfold maxLen; omega)
    generalize hG : grownCap c.w (n + 1) cap 41 = G at he hw hGn hGm
    generalize hR : (xs.take (i * 2)).toArray ++ Builtin.zeroCells z.cells (n + 1 - i) ++ Builtin.zeroCells z.cells (G - (n + 1)) = ROW at hw
    have ht : (xs.take (i * 2)).length = i * 2 := by rw [List.length_take]; omega
    have hRs : ROW.size = G * 2 := by
      rw [← hR]
      simp [Builtin.zeroCells, hz3]
      omega
    have hRl : ∀ q, q < i * 2 → ROW[q]? = xs[q]? := fun q hq => by
      rw [← hR, Array.append_assoc, Array.getElem?_append_left (by simpa [ht] using hq)]
      simp [List.getElem?_take_of_lt hq]
    have hp : (c.w.alloc (.cells ROW 41)).drew.heap[c.w.heap.size]? = some (.cells ROW 41 (0, 0)) := by
      show (c.w.heap.push (.cells ROW 41))[c.w.heap.size]? = _
      simp
    subst hw
    obtain ⟨cu1, p1, p2, p3, p4, p5, p6, p7, p8, p9⟩ := set_row c.w.heap.size vs (i * 2) _ ROW 41 hp (by rw [b6]; omega)
    obtain ⟨cu2, q1, q2, q3, q4, q5, q6, q7, q8, q9⟩ := set_row c.w.heap.size (xs.drop (i * 2)) ((i + 1) * 2) ((c.w.alloc (.cells ROW 41)).drew.setCells c.w.heap.size (i * 2) vs).drew cu1 41 p1 (by rw [hdl]; omega)
    have hsz : (c.w.alloc (.cells ROW 41)).drew.heap.size = c.w.heap.size + 1 := by show (c.w.heap.push _).size = _; simp
    refine ⟨_, he, ⟨_, .inr ⟨c.w.heap.size, G, cu2, rfl, by omega, q1, hGn, hGm, by omega, ?_⟩, hone, ins_reads a6 b6 (Nat.le_of_lt hi) a9 hg⟩, q7.trans p7, q8.trans p8, q9.trans p9, by rw [q6]; show _ ≤ ((c.w.alloc (.cells ROW 41)).drew.setCells c.w.heap.size (i * 2) vs).heap.size; rw [p6, hsz]; omega, fun k hk _ => ?_, fun k hk => .inl ?_⟩
    · apply List.ext_getElem?
      intro q
      rcases Nat.lt_or_ge q ((n + 1) * 2) with h | h
      · rw [List.getElem?_take_of_lt h, Array.getElem?_toList]
        rcases Nat.lt_or_ge q (i * 2) with h2 | h2
        · rw [q4 q (.inl (by omega)), p4 q (.inl h2), hRl q h2, l1 q h2]
        · rcases Nat.lt_or_ge q (i * 2 + 2) with h3 | h3
          · obtain ⟨j, rfl⟩ : ∃ j, q = i * 2 + j := ⟨q - i * 2, by omega⟩
            rw [q4 _ (.inl (by omega)), p3 j (by omega), l2 j (by omega)]
          · obtain ⟨j, rfl⟩ : ∃ j, q = (i + 1) * 2 + j := ⟨q - (i + 1) * 2, by omega⟩
            rw [q3 j (by rw [hdl]; omega), List.getElem?_drop, show (i + 1) * 2 + j = (i * 2 + j) + 2 by omega, l3 _ (by omega)]
      · rw [List.getElem?_take_eq_none h, List.getElem?_eq_none (by rw [l0]; exact h)]
    · rw [q5 k (by omega)]
      show ((c.w.alloc (.cells ROW 41)).drew.setCells c.w.heap.size (i * 2) vs).heap[k]? = _
      rw [p5 k (by omega)]
      show (c.w.heap.push (.cells ROW 41))[k]? = _
      rw [Array.getElem?_push_lt hk]; simp [Array.getElem?_eq_getElem hk]
    · rw [wslice (by omega)] at hk
      cases hk
      refine ⟨Nat.le_refl _, ?_⟩
      rw [q6]
      show _ < ((c.w.alloc (.cells ROW 41)).drew.setCells c.w.heap.size (i * 2) vs).heap.size
      rw [p6, hsz]; omega
end

set_option maxHeartbeats 4000000 in
set_option maxRecDepth 100000 in
theorem ins_last (b n c vb vc : Nat) (w w' : World) (v' : Value) (hnc : n ≤ c) (hc63 : c ≤ 9223372036854775807)
    (hap : (Builtin.append_ #[31, 31] 31 #[.slice (some ⟨b, 0, none⟩) n c, .slice (some ⟨vb, 0, none⟩) 1 vc]).run Tryz.prog w = .ok v' w') :
    Calls Tryz.prog 70 #[.slice (some ⟨b, 0, none⟩) n c, .int .i64 n, .slice (some ⟨vb, 0, none⟩) 1 vc] w fun e w2 => e = .returned v' ∧ w2 = w' := by
  have t0 := it0; have a0 := ia0; have t3 := it3; have a3 := ia3; have z3 := iz3; have t4 := it4; have a4 := ia4; have z4 := iz4; have t31 := it31; have a31 := ia31; have z31 := iz31; have z41 := iz41
  have u0 := run_underlying it0; have u3 := run_underlying it3; have u4 := run_underlying it4; have u31 := run_underlying it31
  have mixed := imix
  go_enter if70, in70
  go_wp2_with (at_builtin; refine Lib.wpList_append_run _ rfl _ _ _ _ rfl _ _ rfl rfl _ _ hap ?_)
  all_goals (go_ret; exact ⟨rfl, rfl⟩)
theorem ins_end {W0 : World} {G : Nat → Option AV} (hX : (Xc W0 G).Good) {c : Cfg} (hok : c.Ok) {n ver ver2 : Nat} {f g : Nat → Nat → AV} (h0 : c.H[0]? = some (.list 41 2 n f ver)) (h1 : c.H[1]? = some (.list 41 2 1 g ver2)) (hn : 0 < n) (hn2 : n ≤ 1000) :
    Calls Tryz.prog 70 #[(c.g 0).v, .int .i64 n, (c.g 1).v] c.w fun e w' => ∃ v, e = .returned v ∧ InsR c n n f g v w' := by
  obtain ⟨_, _, b, cap, cur, xs, a1, a2, a3, a4, a5, a6, a7, a8, a9⟩ := own_at hok h0 hn
  obtain ⟨_, _, vb, vc, curv, vs, b1, b2, b3, b4, b5, b6, b7, b8, b9⟩ := own_at hok h1 Nat.one_pos
  have hown : OwnsL c.w 41 2 (c.g 0).v n xs := by
    obtain ⟨_, _, ys, ho, _, _⟩ := hok.obj 0 _ h0
    rcases ho with ⟨e, _⟩ | ⟨b', cap', cur', k1, k2, k3, k4, k5, k6, k7⟩
    · omega
    · refine .inr ⟨b', cap', cur', k1, k2, k3, k4, k5, k6, ?_⟩
      rw [a1] at k1; cases k1
      rw [a2] at k3; cases k3
      apply List.ext_getElem?
      intro q
      rcases Nat.lt_or_ge q (n * 2) with h | h
      · rw [List.getElem?_take_of_lt h, Array.getElem?_toList, a7 q h]
      · rw [List.getElem?_take_eq_none h, List.getElem?_eq_none (by omega)]
  have hy : Elems c 2 1 g (c.g 1).v := by
    refine ⟨some ⟨vb, 0, none⟩, vc, vs, b1, b6, b8, fun a ha j x hj => ?_, (fun _ h => by cases h), b9⟩
    cases ha
    rw [Addr.add_lit, cell_row b2, Nat.zero_add, b7 j (by have := (List.getElem?_eq_some_iff.1 hj).1; omega)]; exact hj
  obtain ⟨v, w', ys, r1, r2, r3, r4, r5, r6, r7, r8, r9, r10, r11⟩ := run_append' (ty := 31) hX (t := 31) (u := 31) (e := 41) (ti := _) (ei := _) (show tab.getD 31 none = some _ from rfl) (by rfl) (show tab.getD 41 none = some _ from rfl) rfl (by decide) (cl := default) hown a8 hy (by show (n + 1) * 16 ≤ _; omega) (by unfold maxLen; omega)
  rw [a1, b1] at r1 ⊢
  have hm : cap ≤ 9223372036854775807 := a4
  refine (ins_last b n cap vb vc c.w w' v a3 hm r1).mono fun e w2 ⟨he, hw⟩ => ?_
  subst hw
  have r3 : ys.length = 2 := r3
  refine ⟨v, he, ⟨_, r2, fun x hx => ?_, fun a j ha hj => ?_⟩, r6, r7, r8, r9, r10, r11⟩
  · rcases List.mem_append.1 hx with hx | hx
    · exact a8 x hx
    · exact r4 x hx
  · unfold insF
    by_cases h : a < n
    · rw [decide_eq_true h, List.getElem?_append_left (by omega)]; exact a9 a j h hj
    · obtain rfl : a = n := by omega
      rw [decide_eq_false h, decide_eq_true rfl, List.getElem?_append_right (by omega), a6, Nat.add_sub_cancel_left]
      have := r5 0 j Nat.one_pos hj
      rwa [Nat.zero_mul, Nat.zero_add] at this
theorem c70 {W0 : World} {G : Nat → Option AV} (hX : (Xc W0 G).Good) (n i ver ver2 : Nat) (f g : Nat → Nat → AV) (hs : Side (0 < n ∧ n ≤ 1000 ∧ i ≤ n)) :
    Mut (Xc W0 G) 70 [.own 0 ver, .int .i64 (i : Int), .own 1 ver2] [.list 41 2 n f ver, .list 41 2 1 g ver2] (.own 0 (ver + 1)) [.list 41 2 (n + 1) (insF i f g) (ver + 1), .dead] := by
  obtain ⟨hn, hn2, hi⟩ := hs.get
  refine ⟨enters_lib (by kernel_rfl), fun c cargs hok hb hL hcs hargs => ?_⟩
  have h0 : c.H[0]? = some (.list 41 2 n f ver) := by rw [hL]; rfl
  have h1 : c.H[1]? = some (.list 41 2 1 g ver2) := by rw [hL]; rfl
  obtain ⟨hv0, hp0, _⟩ := own_at hok h0 hn
  obtain ⟨hv1, hp1, _⟩ := own_at hok h1 Nat.one_pos
  obtain ⟨u0, x0, y0⟩ := hargs 0 _ rfl
  obtain ⟨u1, x1, y1⟩ := hargs 1 _ rfl
  obtain ⟨u2, x2, y2⟩ := hargs 2 _ rfl
  have e0 : u0 = (c.g 0).v := y0.2.2.2 hv0
  have e1 : u1 = .int .i64 (i : Int) := y1
  have e2 : u2 = (c.g 1).v := y2.2.2.2 hv1
  have ea : cargs = #[(c.g 0).v, .int .i64 (i : Int), (c.g 1).v] := by
    have hsz : cargs.size = 3 := by simpa using hcs
    apply Array.ext_getElem?
    intro q
    rcases q with _ | _ | _ | q
    · rw [x0, e0]; rfl
    · rw [x1, e1]; rfl
    · rw [x2, e2]; rfl
    · rw [Array.getElem?_eq_none (by omega), Array.getElem?_eq_none (by simp)]
  subst ea
  have key : Calls Tryz.prog 70 #[(c.g 0).v, .int .i64 (i : Int), (c.g 1).v] c.w fun e w' => ∃ v, e = .returned v ∧ InsR c n i f g v w' := by
    rcases Nat.lt_or_eq_of_le hi with h | h
    · exact ins_mid hok h0 h1 hn hn2 h
    · subst h; exact ins_end hX hok h0 h1 hn hn2
  refine key.mono fun e w' ⟨v, he, R⟩ => ?_
  obtain ⟨xs, o1, o2, o3⟩ := R.own
  have t1 := turn_list (f' := insF i f g) (ver' := ver + 1) hok h0 R.os R.tape R.output R.size R.block (Nat.le_succ _) (fun h => by omega) R.blk o1 o2 o3
  rw [hL] at t1
  have t2 := Tr.weaken t1.ok (H' := [.list 41 2 (n + 1) (insF i f g) (ver + 1), .dead]) rfl (fun k o o' ho ho' => by
    rcases k with _ | _ | k
    · simp at ho ho'; subst ho; subst ho'; exact .refl _
    · simp at ho ho'; subst ho; subst ho'; exact .dead _
    · simp at ho)
  have hvo : v.oneCell' = true := by
    rcases o1 with ⟨_, _, _, h⟩ | ⟨_, _, _, h, _⟩
    · rw [h]; rfl
    · rw [h]; rfl
  refine ⟨v, _, he, rfl, t1.trans t2, rfl, ?_⟩
  exact ⟨Nat.zero_lt_succ _, by show ver + 1 ≤ (upd c.g 0 ⟨(c.g 0).b, v, ver + 1⟩ 0).ver; rw [upd_same]; exact Nat.le_refl _, hvo, fun _ => by show v = (upd c.g 0 ⟨(c.g 0).b, v, ver + 1⟩ 0).v; rw [upd_same]⟩
end Go.Fx

/-
  States compared.
-/
namespace Go.Fx
open Go.Proofs Go.RowKit

def sgA (a b c d e f : Int) (x : List Int) (g : Int) : AV := .agg 8 (tbl [.int .i64 a, .int .i64 b, .int .i64 c, .int .i64 d, .int .i64 e, .int .i64 f, iRow x, .int .i64 g])
section
variable {W0 : World} {G : Nat → Option AV} (hX : (Xc W0 G).Good)
include hX
theorem c77 (l : List Int) (hs : Side (l.length ≤ 1000)) : Pure (Xc W0 G) 77 [iRow l, iRow l] (.bool true) := by
  have hs := hs.get
  refine mut_of' hX (show FnIs (Xc W0 G) 77 Tryz.f77 (codeOf Tryz.f77) from ⟨by kernel_rfl, by kernel_rfl, by kernel_rfl, by kernel_rfl⟩) rfl ?_
  repeat' (first
    | ((with_reducible refine (?_ : Alt _ _)); first | fail | (with_reducible refine Alt.one ?_))
    | ((with_reducible refine (?_ : AllLe _ _)); first | (first | exact AllLe.refl _ | (repeat' (first | exact trivial | apply Le.aggs | apply Le.tups | apply Le.fns | exact Le.refl _ | refine ⟨?_, ?_⟩))))
    | ((with_reducible refine (?_ : Sc _ (AllRen _ _ _))); refine Sc.of ?_; first | (repeat' (first | exact trivial | apply Le.aggs | apply Le.tups | apply Le.fns | exact Le.refl _ | refine ⟨?_, ?_⟩)))
    | ((with_reducible refine (?_ : (List.all _ _) = true)); rfl)
    | ((with_reducible refine (?_ : (and _ _) = true)); rfl)
    | ((with_reducible refine (?_ : List.Nodup _)); exact nodupB_spec rfl)
    | ((with_reducible refine (?_ : @Eq Nat _ _)); rfl)
    | ((with_reducible refine (?_ : @Eq (List (Option HObj)) _ _)); kernel_rfl)
    | ((with_reducible refine (?_ : LeOks _ _ _)); first | exact trivial | exact ⟨.refl _, trivial⟩ | exact ⟨.refl _, .refl _, trivial⟩)
    | ((fail_if_success with_reducible refine Stop.go ?_); (first | with_reducible refine And.intro ?_ ?_ | with_reducible refine Cut.go ?_ | (with_reducible (refine impI ?_; intro _)) | (with_reducible refine (?_ : footOK _ _ = true); kernel_rfl) | ((with_reducible refine propI ?_); conv => whnf))))
  all_goals try (exact .of (Nat.le_of_ble_eq_true rfl))
  all_goals try (rename_i q; exfalso; simp at q; done)
  refine ⟨Nat, fun i => ([(0, iRow l), (1, iRow l), (5, .int .i64 ((i : Nat)))], []), fun i => i ≤ l.length, fun i => l.length - i, ⟨0, Nat.zero_le _, .le ⟨rfl, trivial, ⟨.refl _, .refl _, .refl _, trivial⟩⟩⟩, fun i hi => ?_⟩
  repeat' (first
    | ((with_reducible refine (?_ : Alt _ _)); first | fail | (with_reducible refine Alt.one ?_))
    | ((with_reducible refine (?_ : AllLe _ _)); first | (first | exact AllLe.refl _ | (repeat' (first | exact trivial | apply Le.aggs | apply Le.tups | apply Le.fns | exact Le.refl _ | refine ⟨?_, ?_⟩))))
    | ((with_reducible refine (?_ : Sc _ (AllRen _ _ _))); refine Sc.of ?_; first | (repeat' (first | exact trivial | apply Le.aggs | apply Le.tups | apply Le.fns | exact Le.refl _ | refine ⟨?_, ?_⟩)))
    | ((with_reducible refine (?_ : (List.all _ _) = true)); rfl)
    | ((with_reducible refine (?_ : (and _ _) = true)); rfl)
    | ((with_reducible refine (?_ : List.Nodup _)); exact nodupB_spec rfl)
    | ((with_reducible refine (?_ : @Eq Nat _ _)); rfl)
    | ((with_reducible refine (?_ : @Eq (List (Option HObj)) _ _)); kernel_rfl)
    | ((with_reducible refine (?_ : LeOks _ _ _)); first | exact trivial | exact ⟨.refl _, trivial⟩ | exact ⟨.refl _, .refl _, trivial⟩)
    | ((fail_if_success with_reducible refine Stop.go ?_); (first | with_reducible refine And.intro ?_ ?_ | with_reducible refine Cut.go ?_ | (with_reducible (refine impI ?_; intro _)) | (with_reducible refine (?_ : footOK _ _ = true); kernel_rfl) | ((with_reducible refine propI ?_); conv => whnf))))
  all_goals replace hi : i ≤ l.length := hi
  all_goals try (exact .of (Nat.le_of_ble_eq_true rfl))
  all_goals try (rename_i q; have q := of_decide_eq_true q; first | exact .of ⟨by omega, by omega⟩ | exact .of (by decide))
  all_goals try (rename_i q2 q; exfalso; simp at q; done)
  all_goals try (rename_i q q2; have q := of_decide_eq_true q; exact .of ⟨by omega, by omega⟩)
  · rename_i q q2; have q := of_decide_eq_true q
    exact ⟨i + 1, by show i + 1 ≤ l.length; omega, by show l.length - (i + 1) < l.length - i; omega, .le ⟨rfl, trivial, ⟨.refl _, .refl _, .refl _, trivial⟩⟩⟩
  · exact .mk [] [] _ rfl (.le (.refl _)) trivial rfl
theorem c35 (a b c d e f : Int) (x : List Int) (g : Int) (hs : Side (x.length ≤ 1000)) : Pure (Xc W0 G) 35 [sgA a b c d e f x g, sgA a b c d e f x g] (.bool true) := by
  refine mut_of' hX (show FnIs (Xc W0 G) 35 Tryz.f35 (codeOf Tryz.f35) from ⟨by kernel_rfl, by kernel_rfl, by kernel_rfl, by kernel_rfl⟩) rfl ?_
  repeat' (first
    | ((with_reducible refine (?_ : Alt _ _)); first | (with_reducible apply callAlt (c77 hX x hs)) | (with_reducible refine Alt.one ?_))
    | ((with_reducible refine (?_ : AllLe _ _)); first | (first | exact AllLe.refl _ | (repeat' (first | exact trivial | apply Le.aggs | apply Le.tups | apply Le.fns | exact Le.refl _ | refine ⟨?_, ?_⟩))))
    | ((with_reducible refine (?_ : Sc _ (AllRen _ _ _))); refine Sc.of ?_; first | (repeat' (first | exact trivial | apply Le.aggs | apply Le.tups | apply Le.fns | exact Le.refl _ | refine ⟨?_, ?_⟩)))
    | ((with_reducible refine (?_ : (List.all _ _) = true)); rfl)
    | ((with_reducible refine (?_ : (and _ _) = true)); rfl)
    | ((with_reducible refine (?_ : List.Nodup _)); exact nodupB_spec rfl)
    | ((with_reducible refine (?_ : @Eq Nat _ _)); rfl)
    | ((with_reducible refine (?_ : @Eq (List (Option HObj)) _ _)); kernel_rfl)
    | ((with_reducible refine (?_ : LeOks _ _ _)); first | exact trivial | exact ⟨.refl _, trivial⟩ | exact ⟨.refl _, .refl _, trivial⟩)
    | ((fail_if_success with_reducible refine Stop.go ?_); (first | with_reducible refine And.intro ?_ ?_ | with_reducible refine Cut.go ?_ | (with_reducible (refine impI ?_; intro _)) | (with_reducible refine (?_ : footOK _ _ = true); kernel_rfl) | ((with_reducible refine propI ?_); conv => whnf))))
  all_goals try (exact .of (Nat.le_of_ble_eq_true rfl))
  all_goals (exact .mk [] [] _ rfl (.le (.boolT (by simp))) trivial rfl)
end
end Go.Fx

/-
  Logs cut and joined: the program's and the reference's.
-/
namespace Go.Fx
open Go.Proofs Go.RowKit

theorem list_eq : HObj.list 41 2 = HObj.list 41 2 := rfl
def spA (l : Log) (k : Int) : Int := firstS [aloneE l, bif inB k 0 ((l.ev.length : Int) - 1) then 0 else 6]
def spB (l : Log) (k : Nat) (p : Int) : Int := firstS [bif (bif (l.ev.getD k ev0).k == 0 then true else (l.ev.getD k ev0).k == 1) then 0 else 15, bif inB p 1 ((l.ev.getD k ev0).n - 1) then 0 else 2, bif decide ((l.ev.length : Int) < 200) then 0 else 16]
@[irreducible] def spE (l : Log) (k p : Int) : Int := bif decide (spA l k = 0) then spB l k.toNat p else spA l k
@[irreducible] def spR (l : Log) (k p : Int) : Log := bif decide (spE l k p = 0) then spL l k.toNat p else log0
theorem sp_a {l : Log} {k p : Int} (h : spA l k ≠ 0) : spE l k p = spA l k ∧ spR l k p = log0 := by
  have e : spE l k p = spA l k := by unfold spE; rw [decide_eq_false h]; rfl
  exact ⟨e, by unfold spR; rw [e, decide_eq_false h]; rfl⟩
theorem sp_b {l : Log} {k : Nat} {p : Int} (h : spA l k = 0) (h2 : spB l k p ≠ 0) : spE l k p = spB l k p ∧ spR l k p = log0 := by
  have e : spE l k p = spB l k p := by unfold spE; rw [h, Int.toNat_natCast]; rfl
  exact ⟨e, by unfold spR; rw [e, decide_eq_false h2]; rfl⟩
theorem sp_c {l : Log} {k : Nat} {p : Int} (h : spA l k = 0) (h2 : spB l k p = 0) : spE l k p = 0 ∧ spR l k p = spL l k p := by
  have e : spE l k p = 0 := by unfold spE; rw [h, Int.toNat_natCast]; exact h2
  exact ⟨e, by unfold spR; rw [e, Int.toNat_natCast]; rfl⟩
theorem spA_0 {l : Log} {k : Int} (h : spA l k = 0) : aloneE l = 0 ∧ 0 ≤ k ∧ k < l.ev.length := by
  unfold spA at h
  have w := firstS_two h
  refine ⟨w.1, ?_⟩
  have w2 := w.2
  cases q : inB k 0 ((l.ev.length : Int) - 1) with
  | false => rw [q] at w2; cases w2
  | true => have := inB_iff.1 q; omega
theorem spB_0 {l : Log} {k : Nat} {p : Int} (h : spB l k p = 0) : ((l.ev.getD k ev0).k = 0 ∨ (l.ev.getD k ev0).k = 1) ∧ 1 ≤ p ∧ p ≤ (l.ev.getD k ev0).n - 1 ∧ l.ev.length < 200 := by
  unfold spB at h
  have w := firstS_zero h
  have w1 := w (bif (bif (l.ev.getD k ev0).k == 0 then true else (l.ev.getD k ev0).k == 1) then 0 else 15) (by simp)
  have w2 := w (bif inB p 1 ((l.ev.getD k ev0).n - 1) then 0 else 2) (by simp)
  have w3 := w (bif decide ((l.ev.length : Int) < 200) then 0 else 16) (by simp)
  refine ⟨?_, ?_⟩
  · by_cases q : (l.ev.getD k ev0).k = 0
    · exact .inl q
    · by_cases r : (l.ev.getD k ev0).k = 1
      · exact .inr r
      · rw [beq_false_of_ne q, beq_false_of_ne r] at w1; cases w1
  · cases q : inB p 1 ((l.ev.getD k ev0).n - 1) with
    | false => rw [q] at w2; cases w2
    | true =>
      have := inB_iff.1 q
      by_cases r : (l.ev.length : Int) < 200
      · omega
      · rw [decide_eq_false r] at w3; cases w3
theorem sp_list {l : Log} {k : Nat} {p : Int} (hk : k < l.ev.length) {g : Nat → Nat → AV} (hg : ∀ j, j < 2 → g 0 j = tbl (evC ⟨(l.ev.getD k ev0).k, (l.ev.getD k ev0).n - p⟩) j) (i j : Nat) (hj : j < 2) :
    insF (k + 1) (putF k 1 [.int .i64 p] (fun i j => tbl (evC (l.ev.getD i ev0)) j)) g i j = tbl (evC ((spL l k p).ev.getD i ev0)) j := by
  have w := sp_at (p := p) hk
  unfold insF
  by_cases h : i < k + 1
  · rw [decide_eq_true h, cond_true]
    unfold putF
    by_cases e : i = k
    · subst e
      rw [w.2.2.1]
      rcases (show j = 0 ∨ j = 1 by omega) with q | q <;> subst q
      · rw [if_neg (by omega)]; rfl
      · rw [if_pos ⟨rfl, by omega, by show 1 < 1 + 1; omega⟩]; rfl
    · rw [if_neg (fun q => e q.1), w.2.1 i (by omega)]
  · rw [decide_eq_false h]
    by_cases e : i = k + 1
    · subst e; rw [decide_eq_true rfl, w.2.2.2.1]; exact hg j hj
    · rw [decide_eq_false e, cond_false]
      obtain ⟨m, rfl⟩ : ∃ m, i = m + 1 := ⟨i - 1, by omega⟩
      rw [w.2.2.2.2 m (by omega), Nat.add_sub_cancel, cond_false]
      unfold putF
      rw [if_neg (fun q => by have := q.1; omega)]
section
variable {W0 : World} (hX : (Xc W0 Gt).Good)
include hX
theorem c70k (k n : Nat) (f g : Nat → Nat → AV) (hs : Side (0 < n ∧ n ≤ 1000 ∧ k < n)) : Mut (Xc W0 Gt) 70 [.own 0 1, .int .i64 ((k : Int) + 1), .own 1 1] [.list 41 2 n f 1, .list 41 2 1 g 1] (.own 0 2) [.list 41 2 (n + 1) (insF (k + 1) f g) 2, .dead] :=
  c70 hX n (k + 1) 1 1 f g (.mk ⟨hs.get.1, hs.get.2.1, hs.get.2.2⟩)
theorem c27a (l : Log) (k p : Int) (hl : Side (l.ev.length ≤ 1000000)) (h : spA l k ≠ 0) : Pure (Xc W0 Gt) 27 [lgA l, .int .i64 k, .int .i64 p] (.tup 2 (tbl [lgA (spR l k p), .int .i64 (spE l k p)])) := by
  have hl := hl.get
  have hx : (firstS [aloneE l, bif inB k 0 ((l.ev.length : Int) - 1) then 0 else 6] != 0) = false → False := fun q => h (bne_eq_false_iff_eq.1 q)
  refine mut_of' hX (show FnIs (Xc W0 Gt) 27 Tryz.f27 (codeOf Tryz.f27) from ⟨by kernel_rfl, by kernel_rfl, by kernel_rfl, by kernel_rfl⟩) rfl ?_
  repeat' (first
    | ((with_reducible refine (?_ : Alt _ _)); first | (with_reducible apply callAlt (c61 hX l)) | (with_reducible apply callAlt (c50 hX _ _ _)) | (with_reducible apply callAlt (c49 hX _ _)) | ((with_reducible apply callAlt (c48_2 hX _ _)); case hl => (first | exact ⟨le_slc2 rfl rfl, trivial⟩ | exact ⟨le_slc3 rfl rfl rfl, trivial⟩ | exact ⟨le_slc5 rfl rfl rfl rfl rfl, trivial⟩ | exact AllLe.refl _)) | (with_reducible refine Alt.one ?_))
    | ((with_reducible refine (?_ : AllLe _ _)); first | (first | exact AllLe.refl _ | (repeat' (first | exact trivial | apply Le.aggs | apply Le.tups | apply Le.fns | exact Le.refl _ | refine ⟨?_, ?_⟩))))
    | ((with_reducible refine (?_ : Sc _ (AllRen _ _ _))); refine Sc.of ?_; first | (repeat' (first | exact trivial | apply Le.aggs | apply Le.tups | apply Le.fns | exact Le.refl _ | refine ⟨?_, ?_⟩)))
    | ((with_reducible refine (?_ : (List.all _ _) = true)); rfl)
    | ((with_reducible refine (?_ : (and _ _) = true)); rfl)
    | ((with_reducible refine (?_ : List.Nodup _)); exact nodupB_spec rfl)
    | ((with_reducible refine (?_ : @Eq Nat _ _)); rfl)
    | ((with_reducible refine (?_ : @Eq (List (Option HObj)) _ _)); kernel_rfl)
    | ((with_reducible refine (?_ : LeOks _ _ _)); first | exact trivial | exact ⟨.refl _, trivial⟩ | exact ⟨.refl _, .refl _, trivial⟩)
    | ((fail_if_success with_reducible refine Stop.go ?_); (first | exact (hx ‹_›).elim | with_reducible refine And.intro ?_ ?_ | with_reducible refine Cut.go ?_ | (with_reducible (refine impI ?_; intro _)) | (with_reducible refine (?_ : footOK _ _ = true); kernel_rfl) | ((with_reducible refine propI ?_); conv => whnf))))
  all_goals try (exact .of (Nat.le_of_ble_eq_true rfl))
  all_goals try (exact .of ⟨by omega, by omega⟩)
  all_goals try (refine Sc.of ?_; rw [Int.toNat_natCast]; first | exact ⟨by omega, by omega⟩ | omega)
  all_goals try (exact Side.mk (by omega))
  all_goals try (exact Side.mk ⟨by omega, by omega, by omega⟩)
  · have e := sp_a (p := p) h; rw [e.1, e.2]; exact .mk [] [] _ rfl (.le (.tups ⟨⟨trivial, .aggs ⟨⟨⟨⟨trivial, .refl _⟩, .refl _⟩, .refl _⟩, .slc0 _ _⟩⟩, .intI rfl⟩)) trivial rfl
theorem c27b (l : Log) (k : Nat) (p : Int) (hl : Side (l.ev.length ≤ 1000000)) (h : spA l k = 0) (h2 : spB l k p ≠ 0) : Pure (Xc W0 Gt) 27 [lgA l, .int .i64 k, .int .i64 p] (.tup 2 (tbl [lgA (spR l k p), .int .i64 (spE l k p)])) := by
  have hl := hl.get
  have hx : (firstS [aloneE l, bif inB k 0 ((l.ev.length : Int) - 1) then 0 else 6] != 0) = true → False := fun q => bne_iff_ne.1 q h
  have ha := spA_0 h
  have hk : k < l.ev.length := by omega
  have hl2 := (gd_head ha.1).2.2.2.1
  have hn := (ev_ok ((gd_head ha.1).2.2.2.2 k hk)).2.2.2.2
  have hy : (firstS [bif (bif (l.ev.getD (k : Int).toNat ev0).k == 0 then true else (l.ev.getD (k : Int).toNat ev0).k == 1) then 0 else 15, bif inB p 1 ((l.ev.getD (k : Int).toNat ev0).n - 1) then 0 else 2, bif decide ((l.ev.length : Int) < 200) then 0 else 16] != 0) = false → False := fun q => by rw [Int.toNat_natCast] at q; exact h2 (bne_eq_false_iff_eq.1 q)
  refine mut_of' hX (show FnIs (Xc W0 Gt) 27 Tryz.f27 (codeOf Tryz.f27) from ⟨by kernel_rfl, by kernel_rfl, by kernel_rfl, by kernel_rfl⟩) rfl ?_
  repeat' (first
    | ((with_reducible refine (?_ : Alt _ _)); first | (with_reducible apply callAlt (c61 hX l)) | (with_reducible apply callAlt (c50 hX _ _ _)) | (with_reducible apply callAlt (c49 hX _ _)) | ((with_reducible apply callAlt (c48_2 hX _ _)); case hl => (first | exact ⟨le_slc2 rfl rfl, trivial⟩ | exact ⟨le_slc3 rfl rfl rfl, trivial⟩ | exact ⟨le_slc5 rfl rfl rfl rfl rfl, trivial⟩ | exact AllLe.refl _)) | ((with_reducible apply callAlt (c48_3 hX _ _ _)); case hl => (first | exact ⟨le_slc2 rfl rfl, trivial⟩ | exact ⟨le_slc3 rfl rfl rfl, trivial⟩ | exact ⟨le_slc5 rfl rfl rfl rfl rfl, trivial⟩ | exact AllLe.refl _)) | (with_reducible refine Alt.one ?_))
    | ((with_reducible refine (?_ : AllLe _ _)); first | (first | exact AllLe.refl _ | (repeat' (first | exact trivial | apply Le.aggs | apply Le.tups | apply Le.fns | exact Le.refl _ | refine ⟨?_, ?_⟩))))
    | ((with_reducible refine (?_ : Sc _ (AllRen _ _ _))); refine Sc.of ?_; first | (repeat' (first | exact trivial | apply Le.aggs | apply Le.tups | apply Le.fns | exact Le.refl _ | refine ⟨?_, ?_⟩)))
    | ((with_reducible refine (?_ : (List.all _ _) = true)); rfl)
    | ((with_reducible refine (?_ : (and _ _) = true)); rfl)
    | ((with_reducible refine (?_ : List.Nodup _)); exact nodupB_spec rfl)
    | ((with_reducible refine (?_ : @Eq Nat _ _)); rfl)
    | ((with_reducible refine (?_ : @Eq (List (Option HObj)) _ _)); kernel_rfl)
    | ((with_reducible refine (?_ : LeOks _ _ _)); first | exact trivial | exact ⟨.refl _, trivial⟩ | exact ⟨.refl _, .refl _, trivial⟩)
    | ((fail_if_success with_reducible refine Stop.go ?_); (first | exact (hx ‹_›).elim | exact (hy ‹_›).elim | with_reducible refine And.intro ?_ ?_ | with_reducible refine Cut.go ?_ | (with_reducible (refine impI ?_; intro _)) | (with_reducible refine (?_ : footOK _ _ = true); kernel_rfl) | ((with_reducible refine propI ?_); conv => whnf))))
  all_goals try (exact .of (Nat.le_of_ble_eq_true rfl))
  all_goals try (exact .of ⟨by omega, by omega⟩)
  all_goals try (refine Sc.of ?_; rw [Int.toNat_natCast]; first | exact ⟨by omega, by omega⟩ | omega)
  all_goals try (exact Side.mk (by omega))
  all_goals try (exact Side.mk ⟨by omega, by omega, by omega⟩)
  · have e := sp_b h h2; rw [e.1, e.2]; exact .mk [] [] _ rfl (.le (.tups ⟨⟨trivial, .aggs ⟨⟨⟨⟨trivial, .refl _⟩, .refl _⟩, .refl _⟩, .slc0 _ _⟩⟩, .intI (by rw [Int.toNat_natCast]; rfl)⟩)) trivial rfl
theorem c27c (l : Log) (k : Nat) (p : Int) (hl : Side (l.ev.length ≤ 1000000)) (h : spA l k = 0) (h2 : spB l k p = 0) : Pure (Xc W0 Gt) 27 [lgA l, .int .i64 k, .int .i64 p] (.tup 2 (tbl [lgA (spR l k p), .int .i64 (spE l k p)])) := by
  have hl := hl.get
  have hx : (firstS [aloneE l, bif inB k 0 ((l.ev.length : Int) - 1) then 0 else 6] != 0) = true → False := fun q => bne_iff_ne.1 q h
  have ha := spA_0 h
  have hk : k < l.ev.length := by omega
  have hl2 := (gd_head ha.1).2.2.2.1
  have hn := (ev_ok ((gd_head ha.1).2.2.2.2 k hk)).2.2.2.2
  have hy : (firstS [bif (bif (l.ev.getD (k : Int).toNat ev0).k == 0 then true else (l.ev.getD (k : Int).toNat ev0).k == 1) then 0 else 15, bif inB p 1 ((l.ev.getD (k : Int).toNat ev0).n - 1) then 0 else 2, bif decide ((l.ev.length : Int) < 200) then 0 else 16] != 0) = true → False := fun q => by rw [Int.toNat_natCast] at q; exact bne_iff_ne.1 q h2
  have hb := spB_0 h2
  refine mut_of' hX (show FnIs (Xc W0 Gt) 27 Tryz.f27 (codeOf Tryz.f27) from ⟨by kernel_rfl, by kernel_rfl, by kernel_rfl, by kernel_rfl⟩) rfl ?_
  repeat' (first
    | ((with_reducible refine (?_ : Alt _ _)); first | (with_reducible apply callAlt (c61 hX l)) | (with_reducible apply callAlt (c50 hX _ _ _)) | (with_reducible apply callAlt (c49 hX _ _)) | ((with_reducible apply callAlt (c48_2 hX _ _)); case hl => (first | exact ⟨le_slc2 rfl rfl, trivial⟩ | exact ⟨le_slc3 rfl rfl rfl, trivial⟩ | exact ⟨le_slc5 rfl rfl rfl rfl rfl, trivial⟩ | exact AllLe.refl _)) | ((with_reducible apply callAlt (c48_3 hX _ _ _)); case hl => (first | exact ⟨le_slc2 rfl rfl, trivial⟩ | exact ⟨le_slc3 rfl rfl rfl, trivial⟩ | exact ⟨le_slc5 rfl rfl rfl rfl rfl, trivial⟩ | exact AllLe.refl _)) | ((with_reducible (apply altM (ks := []) (m := 1); apply And.intro; apply Sc.of; apply (c63o hX l.ev ?_))); case' right => (refine And.intro (Sc.of ?_) ?_; · ((repeat' (first | exact trivial | apply Le.aggs | apply Le.tups | apply Le.fns | exact Le.refl _ | refine ⟨?_, ?_⟩)); done))) | (with_reducible (apply altM (ks := [3]) (m := 0); apply And.intro; apply Sc.of; apply (c62 hX l))) | ((with_reducible (apply altM (ks := [3, 4]) (m := 0); apply And.intro; apply Sc.of; apply (c70k hX k l.ev.length _ _ ?_))); case' right => (refine And.intro (Sc.of ?_) ?_; · ((repeat' (first | exact trivial | apply Le.aggs | apply Le.tups | apply Le.fns | exact Le.refl _ | refine ⟨?_, ?_⟩)); done))) | (rw [list_eq]; with_reducible refine Alt.two ?_) | (with_reducible refine Alt.one ?_))
    | ((with_reducible refine (?_ : AllLe _ _)); first | (first | exact AllLe.refl _ | (repeat' (first | exact trivial | apply Le.aggs | apply Le.tups | apply Le.fns | exact Le.refl _ | refine ⟨?_, ?_⟩))))
    | ((with_reducible refine (?_ : Sc _ (AllRen _ _ _))); refine Sc.of ?_; first | (repeat' (first | exact trivial | apply Le.aggs | apply Le.tups | apply Le.fns | exact Le.refl _ | refine ⟨?_, ?_⟩)))
    | ((with_reducible refine (?_ : (List.all _ _) = true)); rfl)
    | ((with_reducible refine (?_ : (and _ _) = true)); rfl)
    | ((with_reducible refine (?_ : List.Nodup _)); exact nodupB_spec rfl)
    | ((with_reducible refine (?_ : @Eq Nat _ _)); rfl)
    | ((with_reducible refine (?_ : @Eq (List (Option HObj)) _ _)); kernel_rfl)
    | ((with_reducible refine (?_ : LeOks _ _ _)); first | exact trivial | exact ⟨.refl _, trivial⟩ | exact ⟨.refl _, .refl _, trivial⟩)
    | ((fail_if_success with_reducible refine Stop.go ?_); (first | exact (hx ‹_›).elim | exact (hy ‹_›).elim | with_reducible refine And.intro ?_ ?_ | with_reducible refine Cut.go ?_ | (with_reducible (refine impI ?_; intro _)) | (with_reducible refine (?_ : footOK _ _ = true); kernel_rfl) | ((with_reducible refine propI ?_); conv => whnf))))
  all_goals try (exact .of (Nat.le_of_ble_eq_true rfl))
  all_goals try (exact .of ⟨by omega, by omega⟩)
  all_goals try (refine Sc.of ?_; rw [Int.toNat_natCast]; first | exact ⟨by omega, by omega⟩ | omega)
  all_goals try (exact Side.mk (by omega))
  all_goals try (exact Side.mk ⟨by omega, by omega, by omega⟩)
  · have e := sp_c h h2; rw [e.1, e.2]
    have sl : ∀ i j, i < l.ev.length + 1 → j < 2 → Le (insF (k + 1) (putF (k : Int).toNat 1 [.int .i64 p] (fun i j => tbl (evC (l.ev.getD i ev0)) j)) (fun i j => tbl [.int .i64 (l.ev.getD (k : Int).toNat ev0).k, .int .i64 ((l.ev.getD (k : Int).toNat ev0).n - p)] (i * 2 + j)) i j) (tbl (evC ((spL l k p).ev.getD i ev0)) j) := fun i j _ hj => .ofEq (by
      rw [Int.toNat_natCast]
      exact sp_list hk (fun j hj => by rw [Nat.zero_mul, Nat.zero_add]; rfl) i j hj)
    exact .mk [] [3] _ rfl (.tups ⟨⟨trivial, .aggs ⟨⟨⟨⟨trivial, .le (.refl _)⟩, .le (.refl _)⟩, .le (.refl _)⟩, .ownM rfl (sp_at hk).1.symm sl⟩⟩, .le (.refl _)⟩) trivial rfl
theorem c27 (l : Log) (k p : Int) (hl : Side (l.ev.length ≤ 1000000)) : Pure (Xc W0 Gt) 27 [lgA l, .int .i64 k, .int .i64 p] (.tup 2 (tbl [lgA (spR l k p), .int .i64 (spE l k p)])) := by
  by_cases h : spA l k = 0
  · have w := spA_0 h
    obtain ⟨m, rfl⟩ : ∃ m : Nat, k = m := ⟨k.toNat, by omega⟩
    by_cases h2 : spB l m p = 0
    · exact c27c hX l m p hl h h2
    · exact c27b hX l m p hl h h2
  · exact c27a hX l k p hl h
end
end Go.Fx

/-
  Logs joined: the program's and the reference's.
-/
namespace Go.Fx
open Go.Proofs Go.RowKit

theorem evHi_eq (k : Int) : evHi k = rangesL.getD (k.toNat * 2 + 1) 0 := by unfold evHi; rfl
theorem mg_ne (l : List Ev) : ∀ i, 0 < i → 0 < (mgN l i).length
  | 0, h => absurd h (Nat.lt_irrefl 0)
  | i + 1, _ => by
    simp only [mgN]; unfold mgS
    cases q : mgB (mgN l i) (l.getD i ev0)
    · show 0 < (_ ++ [_]).length; simp
    · show 0 < (List.set _ _ _).length; rw [List.length_set]; exact (mgB_t q).1
theorem mg_y {l : List Ev} {i : Nat} (h : mgB (mgN l i) (l.getD i ev0) = true) : mgN l (i + 1) = (mgN l i).set ((mgN l i).length - 1) ⟨((mgN l i).getD ((mgN l i).length - 1) ev0).k, ((mgN l i).getD ((mgN l i).length - 1) ev0).n + (l.getD i ev0).n⟩ := by simp only [mgN]; unfold mgS; rw [h]; rfl
theorem mg_n {l : List Ev} {i : Nat} (h : mgB (mgN l i) (l.getD i ev0) = false) : mgN l (i + 1) = mgN l i ++ [l.getD i ev0] := by simp only [mgN]; unfold mgS; rw [h]; rfl
theorem mgB_w {e : List Ev} {v : Ev} {i x : Nat} {b : Bool} (h : (bif (bif (bif decide (0 < (e.length : Int)) then (bif v.k == 0 then true else v.k == 1) else false) then (e.getD i ev0).k == v.k else false) then decide ((e.getD i ev0).n + v.n ≤ rangesL.getD x 0) else false) = b) (hi : i = e.length - 1) (hx : x = v.k.toNat * 2 + 1) : mgB e v = b := by
  subst hi hx
  rw [← h]
  unfold mgB
  rw [evHi_eq, show decide (0 < (e.length : Int)) = decide (0 < e.length) from decide_eq_decide.2 (by omega)]
  cases decide (0 < e.length) <;> cases (bif v.k == 0 then true else v.k == 1) <;> rfl
theorem mg_put {e : List Ev} {m : Ev} (h : 0 < e.length) (hk : m.k = (e.getD (e.length - 1) ev0).k) {p : Nat} (hp : p = e.length - 1) (a j : Nat) (hj : j < 2) : putF p 1 [.int .i64 m.n] (fun a j => tbl (evC (e.getD a ev0)) j) a j = tbl (evC ((e.set (e.length - 1) m).getD a ev0)) j := by
  subst hp
  unfold putF
  rw [ev_set]
  by_cases c : a = e.length - 1
  · subst c
    rw [if_pos (show e.length - 1 = e.length - 1 ∧ e.length - 1 < e.length from ⟨rfl, by omega⟩)]
    rcases (show j = 0 ∨ j = 1 by omega) with q | q <;> subst q
    · rw [if_neg (by omega)]; show AV.int .i64 (e.getD (e.length - 1) ev0).k = .int .i64 m.k; rw [hk]
    · rw [if_pos ⟨rfl, by omega, by show 1 < 1 + 1; omega⟩]; rfl
  · rw [if_neg (fun q => c q.1), if_neg (fun q => c q.1.symm)]
theorem mg_1 (l : List Ev) : mgN l 1 = [l.getD 0 ev0] := rfl
@[irreducible] def mgR (l : Log) : Log := bif decide (aloneE l = 0) then mgA l else log0
section
variable {W0 : World} (hX : (Xc W0 Gt).Good)
include hX
theorem c62z (l : Log) : Pure (Xc W0 Gt) 62 [lgA l, .slc0] (.agg 4 (tbl (logC l .slc0))) := by
  refine mut_of' hX (show FnIs (Xc W0 Gt) 62 Tryz.f62 (codeOf Tryz.f62) from ⟨by kernel_rfl, by kernel_rfl, by kernel_rfl, by kernel_rfl⟩) rfl ?_
  repeat' (first
    | ((with_reducible refine (?_ : Alt _ _)); first | fail | (with_reducible refine Alt.one ?_))
    | ((with_reducible refine (?_ : AllLe _ _)); first | (first | exact AllLe.refl _ | (repeat' (first | exact trivial | apply Le.aggs | apply Le.tups | apply Le.fns | exact Le.refl _ | refine ⟨?_, ?_⟩))))
    | ((with_reducible refine (?_ : Sc _ (AllRen _ _ _))); refine Sc.of ?_; first | (repeat' (first | exact trivial | apply Le.aggs | apply Le.tups | apply Le.fns | exact Le.refl _ | refine ⟨?_, ?_⟩)))
    | ((with_reducible refine (?_ : (List.all _ _) = true)); rfl)
    | ((with_reducible refine (?_ : (and _ _) = true)); rfl)
    | ((with_reducible refine (?_ : List.Nodup _)); exact nodupB_spec rfl)
    | ((with_reducible refine (?_ : @Eq Nat _ _)); rfl)
    | ((with_reducible refine (?_ : @Eq (List (Option HObj)) _ _)); kernel_rfl)
    | ((with_reducible refine (?_ : LeOks _ _ _)); first | exact trivial | exact ⟨.refl _, trivial⟩ | exact ⟨.refl _, .refl _, trivial⟩)
    | ((fail_if_success with_reducible refine Stop.go ?_); (first | with_reducible refine And.intro ?_ ?_ | with_reducible refine Cut.go ?_ | (with_reducible (refine impI ?_; intro _)) | (with_reducible refine (?_ : footOK _ _ = true); kernel_rfl) | ((with_reducible refine propI ?_); conv => whnf))))
  all_goals try (exact .of (Nat.le_of_ble_eq_true rfl))
  all_goals exact .mk [] [] _ rfl (.le (.aggs ⟨⟨⟨⟨trivial, .refl _⟩, .refl _⟩, .refl _⟩, .refl _⟩)) trivial rfl
set_option maxHeartbeats 1000000 in
theorem c28 (l : Log) (hl : Side (l.ev.length ≤ 1000000)) : Pure (Xc W0 Gt) 28 [lgA l] (.tup 2 (tbl [lgA (mgR l), .int .i64 (aloneE l)])) := by
  have hl := hl.get
  refine mut_of' hX (show FnIs (Xc W0 Gt) 28 Tryz.f28 (codeOf Tryz.f28) from ⟨by kernel_rfl, by kernel_rfl, by kernel_rfl, by kernel_rfl⟩) rfl ?_
  repeat' (first
    | ((with_reducible refine (?_ : Alt _ _)); first | (with_reducible apply callAlt (c61 hX l)) | (with_reducible refine Alt.one ?_))
    | ((with_reducible refine (?_ : AllLe _ _)); first | (first | exact AllLe.refl _ | (repeat' (first | exact trivial | apply Le.aggs | apply Le.tups | apply Le.fns | exact Le.refl _ | refine ⟨?_, ?_⟩))))
    | ((with_reducible refine (?_ : Sc _ (AllRen _ _ _))); refine Sc.of ?_; first | (repeat' (first | exact trivial | apply Le.aggs | apply Le.tups | apply Le.fns | exact Le.refl _ | refine ⟨?_, ?_⟩)))
    | ((with_reducible refine (?_ : (List.all _ _) = true)); rfl)
    | ((with_reducible refine (?_ : (and _ _) = true)); rfl)
    | ((with_reducible refine (?_ : List.Nodup _)); exact nodupB_spec rfl)
    | ((with_reducible refine (?_ : @Eq Nat _ _)); rfl)
    | ((with_reducible refine (?_ : @Eq (List (Option HObj)) _ _)); kernel_rfl)
    | ((with_reducible refine (?_ : LeOks _ _ _)); first | exact trivial | exact ⟨.refl _, trivial⟩ | exact ⟨.refl _, .refl _, trivial⟩)
    | ((fail_if_success with_reducible refine Stop.go ?_); (first | with_reducible refine And.intro ?_ ?_ | with_reducible refine Cut.go ?_ | (with_reducible (refine impI ?_; intro _)) | (with_reducible refine (?_ : footOK _ _ = true); kernel_rfl) | ((with_reducible refine propI ?_); conv => whnf))))
  all_goals try (exact .of (Nat.le_of_ble_eq_true rfl))
  · rename_i q; have q := bne_iff_ne.1 q
    rw [show mgR l = log0 by unfold mgR; rw [decide_eq_false q]; rfl]; exact .mk [] [] _ rfl (.le (.tups ⟨⟨trivial, .aggs ⟨⟨⟨⟨trivial, .refl _⟩, .refl _⟩, .refl _⟩, .slc0 _ _⟩⟩, .intI rfl⟩)) trivial rfl
  rename_i q0; have q0 := bne_eq_false_iff_eq.1 q0
  have gh := gd_head q0
  have l2 := gh.2.2.2.1
  have er : mgR l = mgA l := by unfold mgR; rw [q0]; rfl
  refine ⟨Unit ⊕ Nat, fun y => match y with | .inl _ => ([(1, .ptr 0 0), (2, .ptr 1 0), (6, .slc0), (21, evS l.ev), (22, .int .i64 l.ev.length), (23, .int .i64 0)], [.box (logC l (evS l.ev)), .box [.int .i64 0, .int .i64 0, .int .i64 0, .slc0]]) | .inr i => ([(1, .ptr 0 0), (2, .ptr 1 0), (6, .own 2 (mgN l.ev (i)).length), (21, evS l.ev), (22, .int .i64 l.ev.length), (23, .int .i64 ((i : Int)))], [.box (logC l (evS l.ev)), .box [.int .i64 0, .int .i64 0, .int .i64 0, .slc0], .list 41 2 (mgN l.ev (i)).length (fun a j => tbl (evC ((mgN l.ev (i)).getD a ev0)) j) (mgN l.ev (i)).length]), fun y => match y with | .inl _ => True | .inr i => 0 < i ∧ i ≤ l.ev.length, fun y => match y with | .inl _ => l.ev.length | .inr i => l.ev.length - i, ⟨.inl (), trivial, .le ⟨rfl, ⟨.refl _, .refl _, trivial⟩, ⟨.refl _, .refl _, .refl _, .refl _, .refl _, .refl _, trivial⟩⟩⟩, fun y hy => ?_⟩
  rcases y with i | i
  · clear hy
    have hx : ∀ b c d : Bool, (bif (bif (bif decide (0 < ((0 : Nat) : Int)) then b else false) then c else false) then d else false) = true → False := fun b c d q => by simp at q
    repeat' (first
      | ((with_reducible refine (?_ : Alt _ _)); first | (with_reducible apply callAlt (c62z hX l)) | (with_reducible refine Alt.one ?_))
      | ((with_reducible refine (?_ : AllLe _ _)); first | (first | exact AllLe.refl _ | (repeat' (first | exact trivial | apply Le.aggs | apply Le.tups | apply Le.fns | exact Le.refl _ | refine ⟨?_, ?_⟩))))
      | ((with_reducible refine (?_ : Sc _ (AllRen _ _ _))); refine Sc.of ?_; first | (repeat' (first | exact trivial | apply Le.aggs | apply Le.tups | apply Le.fns | exact Le.refl _ | refine ⟨?_, ?_⟩)))
      | ((with_reducible refine (?_ : (List.all _ _) = true)); rfl)
      | ((with_reducible refine (?_ : (and _ _) = true)); rfl)
      | ((with_reducible refine (?_ : List.Nodup _)); exact nodupB_spec rfl)
      | ((with_reducible refine (?_ : @Eq Nat _ _)); rfl)
      | ((with_reducible refine (?_ : @Eq (List (Option HObj)) _ _)); kernel_rfl)
      | ((with_reducible refine (?_ : LeOks _ _ _)); first | exact trivial | exact ⟨.refl _, trivial⟩ | exact ⟨.refl _, .refl _, trivial⟩)
      | ((fail_if_success with_reducible refine Stop.go ?_); (first | exact (hx _ _ _ ‹_›).elim | with_reducible refine And.intro ?_ ?_ | with_reducible refine Cut.go ?_ | (with_reducible (refine impI ?_; intro _)) | (with_reducible refine (?_ : footOK _ _ = true); kernel_rfl) | ((with_reducible refine propI ?_); conv => whnf))))
    all_goals try (exact .of (Nat.le_of_ble_eq_true rfl))
    all_goals try (exact Sc.imp fun v => (by simp at v))
    all_goals try (exact .of ⟨by omega, by omega⟩)
    all_goals try (exact .of ⟨by omega, of_decide_eq_true ‹decide ((0 : Int) < (l.ev.length : Int)) = true›⟩)
    all_goals try (exact .of ⟨Nat.le_of_ble_eq_true rfl, Nat.le_of_ble_eq_true rfl⟩)
    · have lt := of_decide_eq_true ‹decide ((0 : Int) < (l.ev.length : Int)) = true›
      refine ⟨.inr 1, ⟨Nat.one_pos, by omega⟩, by show l.ev.length - 1 < l.ev.length; omega, ?_⟩
      show StTo _ _ _ [(1, .ptr 0 0), (2, .ptr 1 0), (6, .own 2 (mgN l.ev (1)).length), (21, evS l.ev), (22, .int .i64 l.ev.length), (23, .int .i64 (((1 : Nat) : Int)))] [.box (logC l (evS l.ev)), .box [.int .i64 0, .int .i64 0, .int .i64 0, .slc0], .list 41 2 (mgN l.ev (1)).length (fun a j => tbl (evC ((mgN l.ev (1)).getD a ev0)) j) (mgN l.ev (1)).length]
      rw [mg_1]
      refine .fr [0, 1, 3] [] (by kernel_rfl) ⟨.le (.refl _), .le (.refl _), .le (.list (fun a j ha hj => ?_)), trivial⟩ ⟨.le (.refl _), .le (.refl _), .le (.refl _), .le (.refl _), .le (.refl _), .le (.refl _), trivial⟩
      replace hj : j < 2 := hj
      replace ha : a < 1 := ha
      obtain rfl : a = 0 := by omega
      rcases (show j = 0 ∨ j = 1 by omega) with q | q <;> subst q <;> exact .refl _
    · have q := of_decide_eq_false ‹decide ((0 : Int) < (l.ev.length : Int)) = false›
      have e0 : l.ev.length = 0 := by omega
      rw [er]
      have e1 : (mgA l).ev = [] := by show mgN l.ev l.ev.length = []; rw [e0]; rfl
      refine .mk [] [] _ rfl (.le (.tups ⟨⟨trivial, .aggs ⟨⟨⟨⟨trivial, .refl _⟩, .refl _⟩, .refl _⟩, ?_⟩⟩, .intI q0.symm⟩)) trivial rfl
      show Le .slc0 (evS (mgA l).ev)
      rw [e1]; exact .slc0 _ _
  · obtain ⟨h0, hi⟩ := hy
    have hm := mg_ne l.ev i h0
    have ml := mg_len l.ev i
    have mo := mg_ok gh.2.2.2.2 i hi ((mgN l.ev i).length - 1) (by omega)
    have o1 := (ev_ok mo).2.2.2.2
    repeat' (first
      | ((with_reducible refine (?_ : Alt _ _)); first | (with_reducible (apply altM (ks := [2]) (m := 0); apply And.intro; apply Sc.of; apply (c62 hX l))) | (with_reducible refine Alt.one ?_))
      | ((with_reducible refine (?_ : AllLe _ _)); first | (first | exact AllLe.refl _ | (repeat' (first | exact trivial | apply Le.aggs | apply Le.tups | apply Le.fns | exact Le.refl _ | refine ⟨?_, ?_⟩))))
      | ((with_reducible refine (?_ : Sc _ (AllRen _ _ _))); refine Sc.of ?_; first | (repeat' (first | exact trivial | apply Le.aggs | apply Le.tups | apply Le.fns | exact Le.refl _ | refine ⟨?_, ?_⟩)))
      | ((with_reducible refine (?_ : (List.all _ _) = true)); rfl)
      | ((with_reducible refine (?_ : (and _ _) = true)); rfl)
      | ((with_reducible refine (?_ : List.Nodup _)); exact nodupB_spec rfl)
      | ((with_reducible refine (?_ : @Eq Nat _ _)); rfl)
      | ((with_reducible refine (?_ : @Eq (List (Option HObj)) _ _)); kernel_rfl)
      | ((with_reducible refine (?_ : LeOks _ _ _)); first | exact trivial | exact ⟨.refl _, trivial⟩ | exact ⟨.refl _, .refl _, trivial⟩)
      | ((fail_if_success with_reducible refine Stop.go ?_); (first | rw [beqvv (mgN l.ev i).length] | with_reducible refine And.intro ?_ ?_ | with_reducible refine Cut.go ?_ | (with_reducible (refine impI ?_; intro _)) | (with_reducible refine (?_ : footOK _ _ = true); kernel_rfl) | ((with_reducible refine propI ?_); conv => whnf))))
    all_goals try (exact .of (Nat.le_of_ble_eq_true rfl))
    all_goals try (exact Sc.of ⟨show ((mgN l.ev i).length + (0 + 1)) * 16 ≤ 140737488355328 by omega, show (mgN l.ev i).length + (0 + 1) ≤ 9223372036854775807 by omega⟩)
    all_goals try (have lt : i < l.ev.length := (by have q := of_decide_eq_true ‹decide ((i : Int) < (l.ev.length : Int)) = true›; omega); have o2 := ev_ok (gh.2.2.2.2 i lt); have o3 := o2.2.2.2.2; have o4 := o2.1; have ix : (((mgN l.ev i).length : Int) - 1).toNat = (mgN l.ev i).length - 1 := (by omega); first | exact .of ⟨by omega, by omega⟩ | exact .of (by omega) | (refine Sc.of ?_; rw [ix, Int.toNat_natCast]; exact ⟨by omega, by omega⟩) | exact Sc.imp fun _ => ⟨by omega, by omega⟩ | exact Sc.imp fun _ => (by omega) | exact Sc.imp fun _ => (by rw [Int.toNat_natCast]; exact ⟨by omega, by omega⟩) | exact Sc.imp fun _ => (by rw [ix, Int.toNat_natCast]; exact ⟨by omega, by omega⟩))
    · have lt : i < l.ev.length := (by have q := of_decide_eq_true ‹decide ((i : Int) < (l.ev.length : Int)) = true›; omega)
      rename_i v; simp only [Int.toNat_natCast] at v
      have hb := mgB_w v (by omega) (by simp)
      have ey := mg_y hb
      have el : (mgN l.ev (i + 1)).length = (mgN l.ev (i)).length := by rw [ey, List.length_set]
      have put : ∀ a j, j < 2 → Le (putF (((mgN l.ev (i)).length : Int) - 1).toNat 1 [.int .i64 (((mgN l.ev (i)).getD (((mgN l.ev (i)).length : Int) - 1).toNat ev0).n + (l.ev.getD (i : Int).toNat ev0).n)] (fun a j => tbl (evC ((mgN l.ev (i)).getD a ev0)) j) a j) (tbl (evC ((mgN l.ev (i + 1)).getD a ev0)) j) := fun a j hj => .ofEq (by
        rw [Int.toNat_natCast, show (((mgN l.ev (i)).length : Int) - 1).toNat = (mgN l.ev (i)).length - 1 by omega, ey]
        exact mg_put (m := ⟨((mgN l.ev (i)).getD ((mgN l.ev (i)).length - 1) ev0).k, ((mgN l.ev (i)).getD ((mgN l.ev (i)).length - 1) ev0).n + (l.ev.getD i ev0).n⟩) hm rfl rfl a j hj)
      refine ⟨.inr (i + 1), ⟨by omega, by omega⟩, by show l.ev.length - (i + 1) < l.ev.length - i; omega, ?_⟩
      show StTo _ _ _ [(1, .ptr 0 0), (2, .ptr 1 0), (6, .own 2 (mgN l.ev ((i + 1))).length), (21, evS l.ev), (22, .int .i64 l.ev.length), (23, .int .i64 (((i + 1 : Nat) : Int)))] [.box (logC l (evS l.ev)), .box [.int .i64 0, .int .i64 0, .int .i64 0, .slc0], .list 41 2 (mgN l.ev ((i + 1))).length (fun a j => tbl (evC ((mgN l.ev ((i + 1))).getD a ev0)) j) (mgN l.ev ((i + 1))).length]
      rw [el]
      exact .le ⟨rfl, ⟨.refl _, .refl _, .list (fun a j _ hj => put a j hj), trivial⟩, ⟨.refl _, .refl _, .refl _, .refl _, .refl _, .refl _, trivial⟩⟩
    · have lt : i < l.ev.length := (by have q := of_decide_eq_true ‹decide ((i : Int) < (l.ev.length : Int)) = true›; omega)
      rename_i v; simp only [Int.toNat_natCast] at v
      have hb := mgB_w v (by omega) (by simp)
      have en := mg_n hb
      have el : (mgN l.ev (i + 1)).length = (mgN l.ev (i)).length + 1 := by rw [en]; simp
      refine ⟨.inr (i + 1), ⟨by omega, by omega⟩, by show l.ev.length - (i + 1) < l.ev.length - i; omega, ?_⟩
      show StTo _ _ _ [(1, .ptr 0 0), (2, .ptr 1 0), (6, .own 2 (mgN l.ev ((i + 1))).length), (21, evS l.ev), (22, .int .i64 l.ev.length), (23, .int .i64 (((i + 1 : Nat) : Int)))] [.box (logC l (evS l.ev)), .box [.int .i64 0, .int .i64 0, .int .i64 0, .slc0], .list 41 2 (mgN l.ev ((i + 1))).length (fun a j => tbl (evC ((mgN l.ev ((i + 1))).getD a ev0)) j) (mgN l.ev ((i + 1))).length]
      rw [el]
      refine .le ⟨rfl, ⟨.refl _, .refl _, .list (fun a j ha hj => .ofEq ?_), trivial⟩, ⟨.refl _, .refl _, .refl _, .refl _, .refl _, .refl _, trivial⟩⟩
      rw [en]
      exact push_at (x := l.ev.getD i ev0) (fun j => by rw [show (l.ev.getD i ev0) = l.ev.getD (i : Int).toNat ev0 by rw [Int.toNat_natCast]]; show List.getD _ (0 * 2 + j) _ = _; rw [Nat.zero_mul, Nat.zero_add]; rfl) ha
    · have q := of_decide_eq_false ‹decide ((i : Int) < (l.ev.length : Int)) = false›
      obtain rfl : i = l.ev.length := by omega
      rw [er]
      exact .mk [] [2] _ rfl (.tups ⟨⟨trivial, .aggs ⟨⟨⟨⟨trivial, .le (.refl _)⟩, .le (.refl _)⟩, .le (.refl _)⟩, .ownM rfl rfl (fun _ _ _ _ => .refl _)⟩⟩, .le (.intI q0.symm)⟩) trivial rfl

end
end Go.Fx
