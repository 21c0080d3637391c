/-
  TopMeterIsTariff returns true whatever its two arguments are, and its arguments read behind the call as they did before: at every input, where the two package-level variables that the row lists hold what the row lays (the tied card).
-/
import Derived.Test.YtfdegaojblmdiaaGreatDoorGz
import Derived.Test.YtfdegaojblmdiaaGreatDoorGk
import Derived.Test.YtfdegaojblmdiaaGreatDoorGj
import Derived.Test.YtfdegaojblmdiaaGreatDoorGo
import Derived.SevenTiedAt

set_option linter.all false

namespace Go.Fx
open Go.Proofs Go.Proofs.YtfdegaojblmdiaaGreatDoor Go.ChangeShapes Go.WideShapes Go.RowKit

theorem params11 : Tryz.f11.params = #[28, 91] := by kernel_rfl
theorem func11 : Tryz.checked.prog.funcs[11]? = some Tryz.f11 := by kernel_rfl

theorem drv_arg {H : Type} (d : DataW H) : Le (argAV Tt 6 91 d) (.agg 3 (tbl [.int .i64 (momOf (dN d 0)).d, .int .i64 (momOf (dN d 0)).s, iRow ((dE (dN d 1)).map dI)])) := by
  have e : argAV Tt 6 91 d = .agg 3 (tbl [.int .i64 (momOf (dN d 0)).d, .int .i64 (momOf (dN d 0)).s, .slc 1 (dE (dN d 1)).length (fun i j => (cellsD Tt 4 3 ((dE (dN d 1)).getD i .nil)).getD j .any)]) := by kernel_rfl
  rw [e]
  exact .aggs ⟨⟨⟨trivial, .refl _⟩, .refl _⟩, le_row1 dI (.int .i64) 0 _ _ int_cells⟩
theorem topMeterIsTariff_contract {W : World} (hX : (Xc W Gt).Good) {H : Type} (d0 d1 : DataW H) : Pure (Xc W Gt) 11 (argsAV Tt 6 [28, 91] [d0, d1]) (.bool true) :=
  (c11 hX (metered_ok hX) (trfOf d0) (momOf (dN d1 0)) ((dE (dN d1 1)).map dI)).args ⟨trf_arg d0, drv_arg d1, trivial⟩

set_option maxRecDepth 100000 in
theorem topMeterIsTariff_lifted (os : Os) (started : os.Started) (H : Type) (enc : TypeId × Value → H) :
    ReturnsInHanded {} Tryz.checked os 11 .any (fun w args => (Rows.topMeterIsTariffSpec.pre enc Tryz.prog Tryz.f11 [] false w args ∧ laidMetH Tryz.prog Rows.topMeterIsTariffRow.laid w) ∧ sizedMet enc Tryz.prog Tryz.f11 (OpenSpec.ofChange Rows.topMeterIsTariffSpec) false w args)
      (Rows.topMeterIsTariffSpec.post enc Tryz.prog Tryz.f11 false true false false) :=
  law_returns (C := Tryz.checked) (X := fun w _ => laidMetH Tryz.prog Rows.topMeterIsTariffRow.laid w) (fun _ _ _ hh h => h.of_heap hh) own started (by kernel_rfl) func11
    (ChangeSpec.witness_shaped (enc := enc) (C := Tryz.checked) (os := os) (X := fun w _ => laidMetH Tryz.prog Rows.topMeterIsTariffRow.laid w) false (World.laidAll Tryz.prog os Rows.topMeterIsTariffRow.laid) #[.agg #[.string ⟨#[]⟩, .int .i64 0, .int .i64 0, .slice none 0 0, .slice none 0 0, .slice none 0 0, .slice none 0 0, .slice none 0 0], .agg #[.int .i64 0, .int .i64 0, .slice none 0 0]] 8 (World.laidAll_os _ _ _)
      (World.shaped_of_ZipB (by kernel_rfl) (by kernel_rfl)) (by kernel_rfl) (by kernel_rfl) (by kernel_rfl) (laid_met0 os _))
    laidOut (by
      have h : (Tryz.f11.params.toList.all fun t => Tryz.prog.readableRec t && Nat.blt t Tryz.prog.types.size) = true := by kernel_rfl
      intro t ht
      have := List.all_eq_true.1 h t ht
      simp only [Bool.and_eq_true, Nat.blt_eq] at this
      exact this) (show Tryz.f11.resultTypes = #[4] by kernel_rfl) bool4 rfl
    (fun ds hd => by
      match ds, hd with
      | [d0, d1], _ => rfl)
    (fun W base args ds ps hval hA _ hx hs => law_calls0 (F := 6) (ts := [28, 91]) (by kernel_rfl) (by kernel_rfl) W base args ds ps (fun st ds hd => by
      match ds, hd with
      | [d0, d1], _ => exact topMeterIsTariff_contract st d0 d1) hval hA hx hs)
end Go.Fx

namespace Go.Proofs.YtfdegaojblmdiaaGreatDoor
open Go Go.Proofs Go.Fx

theorem topMeterIsTariff_f1 : (Rows.topMeterIsTariffRow.inPlace == Tryz.prog.inPlace 11) = true := by kernel_rfl
theorem topMeterIsTariff_f2 : (Rows.topMeterIsTariffRow.unfollowed == Tryz.prog.unfollowed 11) = true := by kernel_rfl
theorem topMeterIsTariff_f3 : (Rows.topMeterIsTariffRow.recurses == Tryz.prog.recurses 11) = true := by kernel_rfl
theorem topMeterIsTariff_f4 : (Rows.topMeterIsTariffRow.named == Tryz.prog.varsNamed 11) = true := by kernel_rfl
theorem topMeterIsTariff_closed : joinedFacts Tryz.prog 11 Tryz.f11 Rows.topMeterIsTariffSpec Rows.topMeterIsTariffRow = true := by
  unfold joinedFacts
  simp only [Bool.and_eq_true]
  repeat' (with_reducible apply And.intro)
  all_goals first
    | with_reducible exact topMeterIsTariff_f1
    | with_reducible exact topMeterIsTariff_f2
    | with_reducible exact topMeterIsTariff_f3
    | with_reducible exact topMeterIsTariff_f4
    | kernel_rfl
theorem topMeterIsTariff_wrap : Tryz.f11.isWrapper Tryz.prog Rows.topMeterIsTariffRow.wrapper Rows.topMeterIsTariffRow.mainSum := by unfold Func.isWrapper; first | (rw [if_pos (by decide +kernel)]; kernel_rfl) | (rw [if_neg (by decide +kernel)]; exact ⟨rfl, rfl⟩)

theorem topMeterIsTariff_holds : Rows.TopMeterIsTariffSaid :=
  OpenClaim.holds_of_wide 11 Tryz.f11 rfl rfl rfl rfl rfl rfl rfl ⟨rfl, rfl, rfl, rfl, rfl⟩ rfl rfl rfl rfl rfl (by kernel_rfl) func11 topMeterIsTariff_closed
    (of_decide_eq_true (by kernel_rfl)) topMeterIsTariff_wrap
    (fun os started H enc _ => topMeterIsTariff_lifted os started H enc)

theorem topMeterIsTariff_card : Rows.TopMeterIsTariffCardSaid :=
  Claim7.holds_tied_plain_at .later [] [.widerDeep, .data] true (true, "053c707958f8f6d0a278dcb7c1e4b71ef29e98e650e46a6897f571e09eecf087") true
    topMeterIsTariff_holds (fun _ h => by cases h) (by kernel_rfl) (fun _ h => by cases h) topMeterIsTariff_row_tie rfl ⟨rfl, rfl⟩ (by kernel_rfl) rfl
    (fun f fn hf hfn => by
      obtain rfl : f = 11 := Option.some.inj ((show Tryz.prog.funcNamed "fiacre/fiacretop.TopMeterIsTariff" = some 11 by kernel_rfl).symm.trans hf) |>.symm
      obtain rfl : fn = Tryz.f11 := (Option.some.inj (func11.symm.trans hfn)).symm
      exact ⟨by kernel_rfl, fun j t ht => by
        rw [params11] at ht
        have hm : t ∈ [28, 91] := by simpa using Array.mem_of_getElem? ht
        have hall : ([28, 91].all fun u => !Tryz.prog.wantsStandIn u) = true := by kernel_rfl
        exact (show Tryz.prog.wantsStandIn t = false by simpa using List.all_eq_true.1 hall t hm)⟩)
    (by kernel_rfl)
#print axioms topMeterIsTariff_card
end Go.Proofs.YtfdegaojblmdiaaGreatDoor
