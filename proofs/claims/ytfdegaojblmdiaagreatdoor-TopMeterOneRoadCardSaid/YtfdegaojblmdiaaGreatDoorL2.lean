/-
  TopMeterOneRoad returns true whatever its two arguments are, and its arguments read behind the call as they did before: at every input, where the two package-level variables that the row lists hold what the row lays (the tied card).
-/
import Derived.Test.YtfdegaojblmdiaaGreatDoorGz
import Derived.Test.YtfdegaojblmdiaaGreatDoorGk
import Derived.Test.YtfdegaojblmdiaaGreatDoorGj
import Derived.Test.YtfdegaojblmdiaaGreatDoorGo
import Derived.SevenTiedAt

set_option linter.all false

namespace Go.Fx
open Go.Proofs Go.Proofs.YtfdegaojblmdiaaGreatDoor Go.ChangeShapes Go.WideShapes Go.RowKit

theorem params8 : Tryz.f8.params = #[28, 33] := by kernel_rfl
theorem func8 : Tryz.checked.prog.funcs[8]? = some Tryz.f8 := by kernel_rfl

theorem topMeterOneRoad_contract {W : World} (hX : (Xc W Gt).Good) {H : Type} (d0 d1 : DataW H) : Pure (Xc W Gt) 8 (argsAV Tt 6 [28, 33] [d0, d1]) (.bool true) :=
  (c8 hX (metered_ok hX) (trfOf d0) (logOf d1)).args ⟨trf_arg d0, log_arg d1, trivial⟩

set_option maxRecDepth 100000 in
theorem topMeterOneRoad_lifted (os : Os) (started : os.Started) (H : Type) (enc : TypeId × Value → H) :
    ReturnsInHanded {} Tryz.checked os 8 .any (fun w args => (Rows.topMeterOneRoadSpec.pre enc Tryz.prog Tryz.f8 [] false w args ∧ laidMetH Tryz.prog Rows.topMeterOneRoadRow.laid w) ∧ sizedMet enc Tryz.prog Tryz.f8 (OpenSpec.ofChange Rows.topMeterOneRoadSpec) false w args)
      (Rows.topMeterOneRoadSpec.post enc Tryz.prog Tryz.f8 false true false false) :=
  law_returns (C := Tryz.checked) (X := fun w _ => laidMetH Tryz.prog Rows.topMeterOneRoadRow.laid w) (fun _ _ _ hh h => h.of_heap hh) own started (by kernel_rfl) func8
    (ChangeSpec.witness_shaped (enc := enc) (C := Tryz.checked) (os := os) (X := fun w _ => laidMetH Tryz.prog Rows.topMeterOneRoadRow.laid w) false (World.laidAll Tryz.prog os Rows.topMeterOneRoadRow.laid) #[.agg #[.string ⟨#[]⟩, .int .i64 0, .int .i64 0, .slice none 0 0, .slice none 0 0, .slice none 0 0, .slice none 0 0, .slice none 0 0], .agg #[.int .i64 0, .int .i64 0, .int .i64 0, .slice none 0 0]] 8 (World.laidAll_os _ _ _)
      (World.shaped_of_ZipB (by kernel_rfl) (by kernel_rfl)) (by kernel_rfl) (by kernel_rfl) (by kernel_rfl) (laid_met0 os _))
    laidOut (by
      have h : (Tryz.f8.params.toList.all fun t => Tryz.prog.readableRec t && Nat.blt t Tryz.prog.types.size) = true := by kernel_rfl
      intro t ht
      have := List.all_eq_true.1 h t ht
      simp only [Bool.and_eq_true, Nat.blt_eq] at this
      exact this) (show Tryz.f8.resultTypes = #[4] by kernel_rfl) bool4 rfl
    (fun ds hd => by
      match ds, hd with
      | [d0, d1], _ => rfl)
    (fun W base args ds ps hval hA _ hx hs => law_calls0 (F := 6) (ts := [28, 33]) (by kernel_rfl) (by kernel_rfl) W base args ds ps (fun st ds hd => by
      match ds, hd with
      | [d0, d1], _ => exact topMeterOneRoad_contract st d0 d1) hval hA hx hs)
end Go.Fx

namespace Go.Proofs.YtfdegaojblmdiaaGreatDoor
open Go Go.Proofs Go.Fx

theorem topMeterOneRoad_f1 : (Rows.topMeterOneRoadRow.inPlace == Tryz.prog.inPlace 8) = true := by kernel_rfl
theorem topMeterOneRoad_f2 : (Rows.topMeterOneRoadRow.unfollowed == Tryz.prog.unfollowed 8) = true := by kernel_rfl
theorem topMeterOneRoad_f3 : (Rows.topMeterOneRoadRow.recurses == Tryz.prog.recurses 8) = true := by kernel_rfl
theorem topMeterOneRoad_f4 : (Rows.topMeterOneRoadRow.named == Tryz.prog.varsNamed 8) = true := by kernel_rfl
theorem topMeterOneRoad_closed : joinedFacts Tryz.prog 8 Tryz.f8 Rows.topMeterOneRoadSpec Rows.topMeterOneRoadRow = true := by
  unfold joinedFacts
  simp only [Bool.and_eq_true]
  repeat' (with_reducible apply And.intro)
  all_goals first
    | with_reducible exact topMeterOneRoad_f1
    | with_reducible exact topMeterOneRoad_f2
    | with_reducible exact topMeterOneRoad_f3
    | with_reducible exact topMeterOneRoad_f4
    | kernel_rfl
theorem topMeterOneRoad_wrap : Tryz.f8.isWrapper Tryz.prog Rows.topMeterOneRoadRow.wrapper Rows.topMeterOneRoadRow.mainSum := by unfold Func.isWrapper; first | (rw [if_pos (by decide +kernel)]; kernel_rfl) | (rw [if_neg (by decide +kernel)]; exact ⟨rfl, rfl⟩)

theorem topMeterOneRoad_holds : Rows.TopMeterOneRoadSaid :=
  OpenClaim.holds_of_wide 8 Tryz.f8 rfl rfl rfl rfl rfl rfl rfl ⟨rfl, rfl, rfl, rfl, rfl⟩ rfl rfl rfl rfl rfl (by kernel_rfl) func8 topMeterOneRoad_closed
    (of_decide_eq_true (by kernel_rfl)) topMeterOneRoad_wrap
    (fun os started H enc _ => topMeterOneRoad_lifted os started H enc)

theorem topMeterOneRoad_card : Rows.TopMeterOneRoadCardSaid :=
  Claim7.holds_tied_plain_at .later [] [.widerDeep, .data] true (true, "053c707958f8f6d0a278dcb7c1e4b71ef29e98e650e46a6897f571e09eecf087") true
    topMeterOneRoad_holds (fun _ h => by cases h) (by kernel_rfl) (fun _ h => by cases h) topMeterOneRoad_row_tie rfl ⟨rfl, rfl⟩ (by kernel_rfl) rfl
    (fun f fn hf hfn => by
      obtain rfl : f = 8 := Option.some.inj ((show Tryz.prog.funcNamed "fiacre/fiacretop.TopMeterOneRoad" = some 8 by kernel_rfl).symm.trans hf) |>.symm
      obtain rfl : fn = Tryz.f8 := (Option.some.inj (func8.symm.trans hfn)).symm
      exact ⟨by kernel_rfl, fun j t ht => by
        rw [params8] at ht
        have hm : t ∈ [28, 33] := by simpa using Array.mem_of_getElem? ht
        have hall : ([28, 33].all fun u => !Tryz.prog.wantsStandIn u) = true := by kernel_rfl
        exact (show Tryz.prog.wantsStandIn t = false by simpa using List.all_eq_true.1 hall t hm)⟩)
    (by kernel_rfl)
#print axioms topMeterOneRoad_card
end Go.Proofs.YtfdegaojblmdiaaGreatDoor
