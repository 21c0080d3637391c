/-
  TariffEstimates returns true whatever its three arguments are, and its arguments read behind the call as they did before: at every input, where the seven package-level variables that the row lists hold what the row lays (the tied card).
-/
import Derived.Test.YtgegfljeglphlaaGreatDoorGm
import Derived.Test.YtgegfljeglphlaaGreatDoorGl
import Derived.Test.YtgegfljeglphlaaGreatDoorGo
import Derived.SevenTiedAt

set_option linter.all false

namespace Go.Fx
open Go.Proofs Go.Proofs.YtgegfljeglphlaaGreatDoor Go.ChangeShapes Go.WideShapes Go.RowKit

theorem params9 : Tryz.f9.params = #[28, 93, 64] := by kernel_rfl
theorem func9 : Tryz.checked.prog.funcs[9]? = some Tryz.f9 := by kernel_rfl

theorem tariffEstimates_contract {W : World} (st : Stand W) {H : Type} (d0 d1 d2 : DataW H) : Pure (Xc W Gt) 9 (argsAV Tt 6 [28, 93, 64] [d0, d1, d2]) (.bool true) :=
  (c9 st.good (awake_ok st) (trfOf d0) (qstOf d1) (dI (dN d2 0)) (dI (dN d2 1))).args ⟨trf_arg d0, .ofEq (qst_arg d1), .ofEq (pr2_arg d2), trivial⟩

set_option maxRecDepth 100000 in
theorem tariffEstimates_lifted (os : Os) (started : os.Started) (H : Type) (enc : TypeId × Value → H) :
    ReturnsInHanded {} Tryz.checked os 9 .any (fun w args => (Rows.tariffEstimatesSpec.pre enc Tryz.prog Tryz.f9 [] false w args ∧ laidMetH Tryz.prog Rows.tariffEstimatesRow.laid w) ∧ sizedMet enc Tryz.prog Tryz.f9 (OpenSpec.ofChange Rows.tariffEstimatesSpec) false w args)
      (Rows.tariffEstimatesSpec.post enc Tryz.prog Tryz.f9 false true false false) :=
  law_returns (C := Tryz.checked) (X := fun w _ => laidMetH Tryz.prog Rows.tariffEstimatesRow.laid w) (fun _ _ _ hh h => h.of_heap hh) own started (by kernel_rfl) func9
    (ChangeSpec.witness_shaped (enc := enc) (C := Tryz.checked) (os := os) (X := fun w _ => laidMetH Tryz.prog Rows.tariffEstimatesRow.laid w) false (World.laidAll Tryz.prog os Rows.tariffEstimatesRow.laid) #[.agg #[.string ⟨#[]⟩, .int .i64 0, .int .i64 0, .slice none 0 0, .slice none 0 0, .slice none 0 0, .slice none 0 0, .slice none 0 0], .agg #[.int .i64 0, .int .i64 0, .int .i64 0, .int .i64 0, .int .i64 0, .int .i64 0, .int .i64 0], .agg #[.int .i64 0, .int .i64 0]] 8 (World.laidAll_os _ _ _)
      (World.shaped_of_ZipB (by kernel_rfl) (by kernel_rfl)) (by kernel_rfl) (by kernel_rfl) (by kernel_rfl) (laid_met os _))
    laidOut (by
      have h : (Tryz.f9.params.toList.all fun t => Tryz.prog.readableRec t && Nat.blt t Tryz.prog.types.size) = true := by kernel_rfl
      intro t ht
      have := List.all_eq_true.1 h t ht
      simp only [Bool.and_eq_true, Nat.blt_eq] at this
      exact this) (show Tryz.f9.resultTypes = #[4] by kernel_rfl) bool4 rfl
    (fun ds hd => by
      match ds, hd with
      | [d0, d1, d2], _ => rfl)
    (fun W base args ds ps hval hA _ hx hs => law_calls (F := 6) (ts := [28, 93, 64]) (by kernel_rfl) (by kernel_rfl) W base args ds ps (fun st ds hd => by
      match ds, hd with
      | [d0, d1, d2], _ => exact tariffEstimates_contract st d0 d1 d2) hval hA hx hs)
end Go.Fx

namespace Go.Proofs.YtgegfljeglphlaaGreatDoor
open Go Go.Proofs Go.Fx

theorem tariffEstimates_f1 : (Rows.tariffEstimatesRow.inPlace == Tryz.prog.inPlace 9) = true := by kernel_rfl
theorem tariffEstimates_f2 : (Rows.tariffEstimatesRow.unfollowed == Tryz.prog.unfollowed 9) = true := by kernel_rfl
theorem tariffEstimates_f3 : (Rows.tariffEstimatesRow.recurses == Tryz.prog.recurses 9) = true := by kernel_rfl
theorem tariffEstimates_f4 : (Rows.tariffEstimatesRow.named == Tryz.prog.varsNamed 9) = true := by kernel_rfl
theorem tariffEstimates_closed : joinedFacts Tryz.prog 9 Tryz.f9 Rows.tariffEstimatesSpec Rows.tariffEstimatesRow = true := by
  unfold joinedFacts
  simp only [Bool.and_eq_true]
  repeat' (with_reducible apply And.intro)
  all_goals first
    | with_reducible exact tariffEstimates_f1
    | with_reducible exact tariffEstimates_f2
    | with_reducible exact tariffEstimates_f3
    | with_reducible exact tariffEstimates_f4
    | kernel_rfl
theorem tariffEstimates_wrap : Tryz.f9.isWrapper Tryz.prog Rows.tariffEstimatesRow.wrapper Rows.tariffEstimatesRow.mainSum := by unfold Func.isWrapper; first | (rw [if_pos (by decide +kernel)]; kernel_rfl) | (rw [if_neg (by decide +kernel)]; exact ⟨rfl, rfl⟩)

theorem tariffEstimates_holds : Rows.TariffEstimatesSaid :=
  OpenClaim.holds_of_wide 9 Tryz.f9 rfl rfl rfl rfl rfl rfl rfl ⟨rfl, rfl, rfl, rfl, rfl⟩ rfl rfl rfl rfl rfl (by kernel_rfl) func9 tariffEstimates_closed
    (of_decide_eq_true (by kernel_rfl)) tariffEstimates_wrap
    (fun os started H enc _ => tariffEstimates_lifted os started H enc)

theorem tariffEstimates_card : Rows.TariffEstimatesCardSaid :=
  Claim7.holds_tied_plain_at .later [] [.data, .data, .data, .data, .sentinel, .sentinel, .pinned] true (true, "885e9f61563aa1e73879a7516f885ed9a9696ca4c9812cc34814189d661ec386") true
    tariffEstimates_holds (fun _ h => by cases h) (by kernel_rfl) (fun _ h => by cases h) tariffEstimates_row_tie rfl ⟨rfl, rfl⟩ (by kernel_rfl) rfl
    (fun f fn hf hfn => by
      obtain rfl : f = 9 := Option.some.inj ((show Tryz.prog.funcNamed "fiacre/fiacrelaw01.TariffEstimates" = some 9 by kernel_rfl).symm.trans hf) |>.symm
      obtain rfl : fn = Tryz.f9 := (Option.some.inj (func9.symm.trans hfn)).symm
      exact ⟨by kernel_rfl, fun j t ht => by
        rw [params9] at ht
        have hm : t ∈ [28, 93, 64] := by simpa using Array.mem_of_getElem? ht
        have hall : ([28, 93, 64].all fun u => !Tryz.prog.wantsStandIn u) = true := by kernel_rfl
        exact (show Tryz.prog.wantsStandIn t = false by simpa using List.all_eq_true.1 hall t hm)⟩)
    (by kernel_rfl)
#print axioms tariffEstimates_card
end Go.Proofs.YtgegfljeglphlaaGreatDoor
