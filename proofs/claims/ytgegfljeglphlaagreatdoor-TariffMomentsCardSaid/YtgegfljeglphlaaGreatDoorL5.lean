/-
  TariffMoments returns true whatever its three arguments are, and its arguments read behind the call as they did before: at every input, where the seven package-level variables that the row lists hold what the row lays (the tied card).
-/
import Derived.Test.YtgegfljeglphlaaGreatDoorFm
import Derived.Test.YtgegfljeglphlaaGreatDoorFv
import Derived.Test.YtgegfljeglphlaaGreatDoorFl
import Derived.Test.YtgegfljeglphlaaGreatDoorFo
import Derived.SevenTiedAt

set_option linter.all false

namespace Go.Fx
open Go.Proofs Go.Proofs.YtgegfljeglphlaaGreatDoor Go.ChangeShapes Go.WideShapes Go.RowKit

theorem params5 : Tryz.f5.params = #[28, 40, 3] := by kernel_rfl
theorem func5 : Tryz.checked.prog.funcs[5]? = some Tryz.f5 := by kernel_rfl

theorem tariffMoments_contract {W : World} (st : Stand W) {H : Type} (d0 d1 d2 : DataW H) : Pure (Xc W Gt) 5 (argsAV Tt 6 [28, 40, 3] [d0, d1, d2]) (.bool true) :=
  (c5 st.good (awake_ok st) (trfOf d0) (momOf d1) (dI d2)).args ⟨trf_arg d0, (mom_arg d1) ▸ .refl _, (show argAV Tt 6 3 d2 = .int .i64 (dI d2) by kernel_rfl) ▸ .refl _, trivial⟩

set_option maxRecDepth 100000 in
theorem tariffMoments_lifted (os : Os) (started : os.Started) (H : Type) (enc : TypeId × Value → H) :
    ReturnsInHanded {} Tryz.checked os 5 .any (fun w args => (Rows.tariffMomentsSpec.pre enc Tryz.prog Tryz.f5 [] false w args ∧ laidMetH Tryz.prog Rows.tariffMomentsRow.laid w) ∧ sizedMet enc Tryz.prog Tryz.f5 (OpenSpec.ofChange Rows.tariffMomentsSpec) false w args)
      (Rows.tariffMomentsSpec.post enc Tryz.prog Tryz.f5 false true false false) :=
  law_returns (C := Tryz.checked) (X := fun w _ => laidMetH Tryz.prog Rows.tariffMomentsRow.laid w) (fun _ _ _ hh h => h.of_heap hh) own started (by kernel_rfl) func5
    (ChangeSpec.witness_shaped (enc := enc) (C := Tryz.checked) (os := os) (X := fun w _ => laidMetH Tryz.prog Rows.tariffMomentsRow.laid w) false (World.laidAll Tryz.prog os Rows.tariffMomentsRow.laid) #[.agg #[.string ⟨#[]⟩, .int .i64 0, .int .i64 0, .slice none 0 0, .slice none 0 0, .slice none 0 0, .slice none 0 0, .slice none 0 0], .agg #[.int .i64 0, .int .i64 0], .int .i64 0] 8 (World.laidAll_os _ _ _)
      (World.shaped_of_ZipB (by kernel_rfl) (by kernel_rfl)) (by kernel_rfl) (by kernel_rfl) (by kernel_rfl) (laid_met os _))
    laidOut (by
      have h : (Tryz.f5.params.toList.all fun t => Tryz.prog.readableRec t && Nat.blt t Tryz.prog.types.size) = true := by kernel_rfl
      intro t ht
      have := List.all_eq_true.1 h t ht
      simp only [Bool.and_eq_true, Nat.blt_eq] at this
      exact this) (show Tryz.f5.resultTypes = #[4] by kernel_rfl) bool4 rfl
    (fun ds hd => by
      match ds, hd with
      | [d0, d1, d2], _ => rfl)
    (fun W base args ds ps hval hA _ hx hs => law_calls (F := 6) (ts := [28, 40, 3]) (by kernel_rfl) (by kernel_rfl) W base args ds ps (fun st ds hd => by
      match ds, hd with
      | [d0, d1, d2], _ => exact tariffMoments_contract st d0 d1 d2) hval hA hx hs)
end Go.Fx

namespace Go.Proofs.YtgegfljeglphlaaGreatDoor
open Go Go.Proofs Go.Fx

theorem tariffMoments_f1 : (Rows.tariffMomentsRow.inPlace == Tryz.prog.inPlace 5) = true := by kernel_rfl
theorem tariffMoments_f2 : (Rows.tariffMomentsRow.unfollowed == Tryz.prog.unfollowed 5) = true := by kernel_rfl
theorem tariffMoments_f3 : (Rows.tariffMomentsRow.recurses == Tryz.prog.recurses 5) = true := by kernel_rfl
theorem tariffMoments_f4 : (Rows.tariffMomentsRow.named == Tryz.prog.varsNamed 5) = true := by kernel_rfl
theorem tariffMoments_closed : joinedFacts Tryz.prog 5 Tryz.f5 Rows.tariffMomentsSpec Rows.tariffMomentsRow = true := by
  unfold joinedFacts
  simp only [Bool.and_eq_true]
  repeat' (with_reducible apply And.intro)
  all_goals first
    | with_reducible exact tariffMoments_f1
    | with_reducible exact tariffMoments_f2
    | with_reducible exact tariffMoments_f3
    | with_reducible exact tariffMoments_f4
    | kernel_rfl
theorem tariffMoments_wrap : Tryz.f5.isWrapper Tryz.prog Rows.tariffMomentsRow.wrapper Rows.tariffMomentsRow.mainSum := by unfold Func.isWrapper; first | (rw [if_pos (by decide +kernel)]; kernel_rfl) | (rw [if_neg (by decide +kernel)]; exact ⟨rfl, rfl⟩)

theorem tariffMoments_holds : Rows.TariffMomentsSaid :=
  OpenClaim.holds_of_wide 5 Tryz.f5 rfl rfl rfl rfl rfl rfl rfl ⟨rfl, rfl, rfl, rfl, rfl⟩ rfl rfl rfl rfl rfl (by kernel_rfl) func5 tariffMoments_closed
    (of_decide_eq_true (by kernel_rfl)) tariffMoments_wrap
    (fun os started H enc _ => tariffMoments_lifted os started H enc)

theorem tariffMoments_card : Rows.TariffMomentsCardSaid :=
  Claim7.holds_tied_plain_at .later [] [.data, .data, .data, .data, .sentinel, .sentinel, .pinned] true (true, "885e9f61563aa1e73879a7516f885ed9a9696ca4c9812cc34814189d661ec386") true
    tariffMoments_holds (fun _ h => by cases h) (by kernel_rfl) (fun _ h => by cases h) tariffMoments_row_tie rfl ⟨rfl, rfl⟩ (by kernel_rfl) rfl
    (fun f fn hf hfn => by
      obtain rfl : f = 5 := Option.some.inj ((show Tryz.prog.funcNamed "fiacre/fiacrelaw01.TariffMoments" = some 5 by kernel_rfl).symm.trans hf) |>.symm
      obtain rfl : fn = Tryz.f5 := (Option.some.inj (func5.symm.trans hfn)).symm
      exact ⟨by kernel_rfl, fun j t ht => by
        rw [params5] at ht
        have hm : t ∈ [28, 40, 3] := by simpa using Array.mem_of_getElem? ht
        have hall : ([28, 40, 3].all fun u => !Tryz.prog.wantsStandIn u) = true := by kernel_rfl
        exact (show Tryz.prog.wantsStandIn t = false by simpa using List.all_eq_true.1 hall t hm)⟩)
    (by kernel_rfl)
#print axioms tariffMoments_card
end Go.Proofs.YtgegfljeglphlaaGreatDoor
