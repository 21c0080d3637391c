/-
  What the rows of chapter 2 share; the core of MeterTracks.
-/
import Derived.Test.YtgegeclgiiengaaGreatDoorFn
import Derived.Test.YtgegeclgiiengaaGreatDoorFm
import Derived.Test.YtgegeclgiiengaaGreatDoorFl
import Derived.Lay
import Derived.Test.YtgegeclgiiengaaGreatDoorCards
import Derived.Test.YtgegeclgiiengaaGreatDoorTie

/-
  What the rows of chapter 2 share.
-/
namespace Go.Fx
open Go.Proofs Go.Proofs.YtgegeclgiiengaaGreatDoor Go.ChangeShapes Go.WideShapes Go.RowKit

theorem own : ownKnob Tryz.prog.godebug = none := by kernel_rfl
theorem laidOut : laidOutB Tryz.prog = true := by kernel_rfl
theorem bool4 : Tryz.prog.underlying 4 = some .bool := by kernel_rfl
theorem laid_met (os : Os) (args : Array Value) : laidMetH Tryz.prog Rows.meterTracksRow.laid ((World.laidAll Tryz.prog os Rows.meterTracksRow.laid).forCall (fun _ _ => 0) ⟨#[], args, []⟩).memory := by
  rw [MakeChecks.laidMetH_plain _ _ _ (by kernel_rfl)]; exact laidMet_laidAll _ (by kernel_rfl) (by kernel_rfl)
end Go.Fx

/-
  MeterTracks.
-/
namespace Go.Fx
open Go.Proofs Go.Proofs.YtgegeclgiiengaaGreatDoor Go.ChangeShapes Go.WideShapes Go.RowKit

theorem params7 : Tryz.f7.params = #[3, 3, 34] := by kernel_rfl
theorem int3 : Tryz.prog.underlying 3 = some (.int .i64) := by kernel_rfl
theorem func7 : Tryz.checked.prog.funcs[7]? = some Tryz.f7 := by kernel_rfl

theorem plain_agg {t : TypeId} {n : Nat} {l : List AV} {cs : Array Value} {W : World} (h : ReadsL W cs.toList l) (hn : cs.size = n) : Reads (fun _ => default) (fun b _ => b < W.heap.size) W (.agg n (tbl l)) 0 (.agg cs) :=
  ⟨cs, rfl, hn, fun j hj => by
    have hj1 : j < cs.toList.length := by simpa [hn] using hj
    have hj2 : j < l.length := by rw [← h.1]; exact hj1
    have := h.2 j _ _ (List.getElem?_eq_getElem hj1) (List.getElem?_eq_getElem hj2)
    refine ⟨cs[j]'(by omega), Array.getElem?_eq_getElem (by omega), ?_⟩
    have e : tbl l j = l[j] := by simp [tbl, List.getElem?_eq_getElem hj2]
    rw [e]
    simpa using ⟨this.1, this.2 _⟩⟩

set_option maxRecDepth 100000 in
theorem okWide_agg {t : TypeId} {W : World} {b n : Nat} {e : TypeId} {v : Value} (ht : Tryz.prog.underlying t = some (.array n e)) (h : Value.okWide Tryz.prog W .any b t v) : ∃ cs, v = .agg cs ∧ cs.size = Tryz.prog.cellsOf t := by
  unfold Value.okWide at h
  rw [ht] at h
  obtain ⟨cs, h1, h2, _⟩ := h
  exact ⟨cs, h1, h2⟩

set_option maxRecDepth 100000 in
theorem tracks_calls {H : Type} {enc : TypeId × Value → H} (W : World) (base : Nat) (args : Array Value) (ds : List (DataW H)) (ps : List MemPlace)
    (hval : ∀ (j : Nat) t v, Tryz.f7.params[j]? = some t → args[j]? = some v → Value.okWide Tryz.prog W .any base t v)
    (hA : DataW.TrodAll enc Tryz.prog W 0 (fun _ => true) true Tryz.f7.params.toList args.toList ds ps) (hL : laidMetH Tryz.prog Rows.meterTracksRow.laid W) (hs : W.ShapedOpen Tryz.prog) :
    Calls Tryz.prog 7 args W fun e W' => e = .returned (.bool true) ∧ Below W.heap.size W W' := by
  have st := stand_of hL hs
  rw [params7] at hA hval
  obtain ⟨v0, vs, d0, ds1, p0, q0, hva, hda, -, ⟨f0, h0⟩, hA⟩ := trodAll_cons hA
  obtain ⟨v1, vs1, d1, ds2, p1, q1, rfl, rfl, -, ⟨f1, h1⟩, hA⟩ := trodAll_cons hA
  obtain ⟨v2, vs2, d2, ds3, p2, q2, rfl, rfl, -, ⟨f2, h2⟩, hA⟩ := trodAll_cons hA
  obtain ⟨rfl, rfl, _⟩ := trodAll_nil hA
  have hargs : args = #[v0, v1, v2] := by rw [← Array.toList_inj, hva]
  subst hargs
  obtain ⟨c, rfl, -, -, -⟩ := open_int int3 (hval 0 3 v0 rfl rfl) ⟨f0, h0⟩
  obtain ⟨p, rfl, -, -, -⟩ := open_int int3 (hval 1 3 v1 rfl rfl) ⟨f1, h1⟩
  obtain ⟨cs, rfl, hsz⟩ := okWide_agg (n := 2) (e := 3) (by kernel_rfl) (hval 2 34 v2 rfl rfl)
  have r := trod_reads Tt_ok 3 34 cs.toList d2 (by kernel_rfl) ⟨f2, p2, h2⟩
  obtain ⟨xs, m, -, hx, -, hxl, hel⟩ := DataW.trod_array (n := 2) (e := 3) (by kernel_rfl) h2
  cases hx
  have i0 := hel 0 (by decide)
  have i1 := hel 1 (by decide)
  match xs, hxl, i0, i1, r with
  | [x0, x1], _, i0, i1, r =>
    obtain ⟨a, -, hx0, -⟩ := DataW.trod_int int3 i0
    obtain ⟨b, -, hx1, -⟩ := DataW.trod_int int3 i1
    subst hx0; subst hx1
    have r : ReadsL W cs.toList [.int .i64 a, .int .i64 b] := r
    refine calls_of_pure (X := Xc W Gt) (c7 st.good (awake_ok st) c p a b) rfl fun j av hj => ?_
    match j, hj with
    | 0, hj => cases hj; exact ⟨_, rfl, rfl⟩
    | 1, hj => cases hj; exact ⟨_, rfl, rfl⟩
    | 2, hj => cases hj; exact ⟨_, rfl, plain_agg (t := 34) r (by rw [hsz]; kernel_rfl)⟩
    | j + 3, hj => cases hj

set_option maxRecDepth 100000 in
theorem tracks_lifted (os : Os) (started : os.Started) (H : Type) (enc : TypeId × Value → H) :
    ReturnsInHanded {} Tryz.checked os 7 .any (fun w args => (Rows.meterTracksSpec.pre enc Tryz.prog Tryz.f7 [] false w args ∧ laidMetH Tryz.prog Rows.meterTracksRow.laid w) ∧ sizedMet enc Tryz.prog Tryz.f7 (OpenSpec.ofChange Rows.meterTracksSpec) false w args)
      (Rows.meterTracksSpec.post enc Tryz.prog Tryz.f7 false true false false) :=
  law_returns (C := Tryz.checked) (X := fun w _ => laidMetH Tryz.prog Rows.meterTracksRow.laid w) (fun _ _ _ hh h => h.of_heap hh) own started (by kernel_rfl) func7
    (ChangeSpec.witness_shaped (enc := enc) (C := Tryz.checked) (os := os) (X := fun w _ => laidMetH Tryz.prog Rows.meterTracksRow.laid w) false (World.laidAll Tryz.prog os Rows.meterTracksRow.laid) #[.int .i64 0, .int .i64 0, .agg #[.int .i64 0, .int .i64 0]] 8 (World.laidAll_os _ _ _)
      (World.shaped_of_ZipB (by kernel_rfl) (by kernel_rfl)) (by kernel_rfl) (by kernel_rfl) (by kernel_rfl) (laid_met os _))
    laidOut (by
      have h : (Tryz.f7.params.toList.all fun t => Tryz.prog.readableRec t && Nat.blt t Tryz.prog.types.size) = true := by kernel_rfl
      intro t ht
      have := List.all_eq_true.1 h t ht
      simp only [Bool.and_eq_true, Nat.blt_eq] at this
      exact this) (show Tryz.f7.resultTypes = #[4] by kernel_rfl) bool4 rfl
    (fun ds hd => by
      match ds, hd with
      | [a, b, c], _ => rfl)
    (fun W base args ds ps hval hA _ hx hs => tracks_calls W base args ds ps hval hA hx hs)
end Go.Fx
