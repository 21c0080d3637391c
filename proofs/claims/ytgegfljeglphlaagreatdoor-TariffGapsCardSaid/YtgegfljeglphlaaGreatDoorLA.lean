/-
  TariffGaps returns true whatever its two arguments are, and its arguments read behind the call as they did before: at every input, where the seven package-level variables that the row lists hold what the row lays (the tied card).
-/
import Derived.Test.YtgegfljeglphlaaGreatDoorGm
import Derived.Test.YtgegfljeglphlaaGreatDoorGl
import Derived.Test.YtgegfljeglphlaaGreatDoorGo
import Derived.SevenTiedAt

set_option linter.all false

namespace Go.Fx
open Go.Proofs Go.Proofs.YtgegfljeglphlaaGreatDoor Go.ChangeShapes Go.WideShapes Go.RowKit

theorem params10 : Tryz.f10.params = #[28, 77] := by kernel_rfl
theorem func10 : Tryz.checked.prog.funcs[10]? = some Tryz.f10 := by kernel_rfl

theorem tariffGaps_contract {W : World} (st : Stand W) {H : Type} (d0 d1 : DataW H) : Pure (Xc W Gt) 10 (argsAV Tt 6 [28, 77] [d0, d1]) (.bool true) :=
  (c10 st.good (awake_ok st) (trfOf d0) (dI (dN d1 0)) (dI (dN d1 1))).args ⟨trf_arg d0, .ofEq (rng_arg d1), trivial⟩

set_option maxRecDepth 100000 in
theorem tariffGaps_lifted (os : Os) (started : os.Started) (H : Type) (enc : TypeId × Value → H) :
    ReturnsInHanded {} Tryz.checked os 10 .any (fun w args => (Rows.tariffGapsSpec.pre enc Tryz.prog Tryz.f10 [] false w args ∧ laidMetH Tryz.prog Rows.tariffGapsRow.laid w) ∧ sizedMet enc Tryz.prog Tryz.f10 (OpenSpec.ofChange Rows.tariffGapsSpec) false w args)
      (Rows.tariffGapsSpec.post enc Tryz.prog Tryz.f10 false true false false) :=
  law_returns (C := Tryz.checked) (X := fun w _ => laidMetH Tryz.prog Rows.tariffGapsRow.laid w) (fun _ _ _ hh h => h.of_heap hh) own started (by kernel_rfl) func10
    (ChangeSpec.witness_shaped (enc := enc) (C := Tryz.checked) (os := os) (X := fun w _ => laidMetH Tryz.prog Rows.tariffGapsRow.laid w) false (World.laidAll Tryz.prog os Rows.tariffGapsRow.laid) #[.agg #[.string ⟨#[]⟩, .int .i64 0, .int .i64 0, .slice none 0 0, .slice none 0 0, .slice none 0 0, .slice none 0 0, .slice none 0 0], .agg #[.int .i64 0, .int .i64 0]] 8 (World.laidAll_os _ _ _)
      (World.shaped_of_ZipB (by kernel_rfl) (by kernel_rfl)) (by kernel_rfl) (by kernel_rfl) (by kernel_rfl) (laid_met os _))
    laidOut (by
      have h : (Tryz.f10.params.toList.all fun t => Tryz.prog.readableRec t && Nat.blt t Tryz.prog.types.size) = true := by kernel_rfl
      intro t ht
      have := List.all_eq_true.1 h t ht
      simp only [Bool.and_eq_true, Nat.blt_eq] at this
      exact this) (show Tryz.f10.resultTypes = #[4] by kernel_rfl) bool4 rfl
    (fun ds hd => by
      match ds, hd with
      | [d0, d1], _ => rfl)
    (fun W base args ds ps hval hA _ hx hs => law_calls (F := 6) (ts := [28, 77]) (by kernel_rfl) (by kernel_rfl) W base args ds ps (fun st ds hd => by
      match ds, hd with
      | [d0, d1], _ => exact tariffGaps_contract st d0 d1) hval hA hx hs)
end Go.Fx

namespace Go.Proofs.YtgegfljeglphlaaGreatDoor
open Go Go.Proofs Go.Fx

theorem tariffGaps_f1 : (Rows.tariffGapsRow.inPlace == Tryz.prog.inPlace 10) = true := by kernel_rfl
theorem tariffGaps_f2 : (Rows.tariffGapsRow.unfollowed == Tryz.prog.unfollowed 10) = true := by kernel_rfl
theorem tariffGaps_f3 : (Rows.tariffGapsRow.recurses == Tryz.prog.recurses 10) = true := by kernel_rfl
theorem tariffGaps_f4 : (Rows.tariffGapsRow.named == Tryz.prog.varsNamed 10) = true := by kernel_rfl
theorem tariffGaps_closed : joinedFacts Tryz.prog 10 Tryz.f10 Rows.tariffGapsSpec Rows.tariffGapsRow = true := by
  unfold joinedFacts
  simp only [Bool.and_eq_true]
  repeat' (with_reducible apply And.intro)
  all_goals first
    | with_reducible exact tariffGaps_f1
    | with_reducible exact tariffGaps_f2
    | with_reducible exact tariffGaps_f3
    | with_reducible exact tariffGaps_f4
    | kernel_rfl
theorem tariffGaps_wrap : Tryz.f10.isWrapper Tryz.prog Rows.tariffGapsRow.wrapper Rows.tariffGapsRow.mainSum := by unfold Func.isWrapper; first | (rw [if_pos (by decide +kernel)]; kernel_rfl) | (rw [if_neg (by decide +kernel)]; exact ⟨rfl, rfl⟩)

theorem tariffGaps_holds : Rows.TariffGapsSaid :=
  OpenClaim.holds_of_wide 10 Tryz.f10 rfl rfl rfl rfl rfl rfl rfl ⟨rfl, rfl, rfl, rfl, rfl⟩ rfl rfl rfl rfl rfl (by kernel_rfl) func10 tariffGaps_closed
    (of_decide_eq_true (by kernel_rfl)) tariffGaps_wrap
    (fun os started H enc _ => tariffGaps_lifted os started H enc)

theorem tariffGaps_card : Rows.TariffGapsCardSaid :=
  Claim7.holds_tied_plain_at .later [] [.data, .data, .data, .data, .sentinel, .sentinel, .pinned] true (true, "885e9f61563aa1e73879a7516f885ed9a9696ca4c9812cc34814189d661ec386") true
    tariffGaps_holds (fun _ h => by cases h) (by kernel_rfl) (fun _ h => by cases h) tariffGaps_row_tie rfl ⟨rfl, rfl⟩ (by kernel_rfl) rfl
    (fun f fn hf hfn => by
      obtain rfl : f = 10 := Option.some.inj ((show Tryz.prog.funcNamed "fiacre/fiacrelaw01.TariffGaps" = some 10 by kernel_rfl).symm.trans hf) |>.symm
      obtain rfl : fn = Tryz.f10 := (Option.some.inj (func10.symm.trans hfn)).symm
      exact ⟨by kernel_rfl, fun j t ht => by
        rw [params10] at ht
        have hm : t ∈ [28, 77] := by simpa using Array.mem_of_getElem? ht
        have hall : ([28, 77].all fun u => !Tryz.prog.wantsStandIn u) = true := by kernel_rfl
        exact (show Tryz.prog.wantsStandIn t = false by simpa using List.all_eq_true.1 hall t hm)⟩)
    (by kernel_rfl)
#print axioms tariffGaps_card
end Go.Proofs.YtgegfljeglphlaaGreatDoor
