/-
  TariffHolds returns true whatever its two arguments are, and its arguments read behind the call as they did before: at every input, where the seven package-level variables that the row lists hold what the row lays (the tied card).
-/
import Derived.Test.YtgegfljeglphlaaGreatDoorFk
import Derived.Test.YtgegfljeglphlaaGreatDoorFv
import Derived.Test.YtgegfljeglphlaaGreatDoorFl
import Derived.Test.YtgegfljeglphlaaGreatDoorFo
import Derived.SevenTiedAt

set_option linter.all false

namespace Go.Fx
open Go.Proofs Go.Proofs.YtgegfljeglphlaaGreatDoor Go.ChangeShapes Go.WideShapes Go.RowKit

theorem params4 : Tryz.f4.params = #[28, 42] := by kernel_rfl
theorem func4 : Tryz.checked.prog.funcs[4]? = some Tryz.f4 := by kernel_rfl

theorem tariffHolds_contract {W : World} (st : Stand W) {H : Type} (d0 d1 : DataW H) : Pure (Xc W Gt) 4 (argsAV Tt 6 [28, 42] [d0, d1]) (.bool true) :=
  (c4 st.good (awake_ok st) (trfOf d0) (plcOf d1)).args ⟨trf_arg d0, (plc_arg d1) ▸ .refl _, trivial⟩

set_option maxRecDepth 100000 in
theorem tariffHolds_lifted (os : Os) (started : os.Started) (H : Type) (enc : TypeId × Value → H) :
    ReturnsInHanded {} Tryz.checked os 4 .any (fun w args => (Rows.tariffHoldsSpec.pre enc Tryz.prog Tryz.f4 [] false w args ∧ laidMetH Tryz.prog Rows.tariffHoldsRow.laid w) ∧ sizedMet enc Tryz.prog Tryz.f4 (OpenSpec.ofChange Rows.tariffHoldsSpec) false w args)
      (Rows.tariffHoldsSpec.post enc Tryz.prog Tryz.f4 false true false false) :=
  law_returns (C := Tryz.checked) (X := fun w _ => laidMetH Tryz.prog Rows.tariffHoldsRow.laid w) (fun _ _ _ hh h => h.of_heap hh) own started (by kernel_rfl) func4
    (ChangeSpec.witness_shaped (enc := enc) (C := Tryz.checked) (os := os) (X := fun w _ => laidMetH Tryz.prog Rows.tariffHoldsRow.laid w) false (World.laidAll Tryz.prog os Rows.tariffHoldsRow.laid) #[.agg #[.string ⟨#[]⟩, .int .i64 0, .int .i64 0, .slice none 0 0, .slice none 0 0, .slice none 0 0, .slice none 0 0, .slice none 0 0], .agg #[.int .i64 0, .int .i64 0, .int .i64 0]] 8 (World.laidAll_os _ _ _)
      (World.shaped_of_ZipB (by kernel_rfl) (by kernel_rfl)) (by kernel_rfl) (by kernel_rfl) (by kernel_rfl) (laid_met os _))
    laidOut (by
      have h : (Tryz.f4.params.toList.all fun t => Tryz.prog.readableRec t && Nat.blt t Tryz.prog.types.size) = true := by kernel_rfl
      intro t ht
      have := List.all_eq_true.1 h t ht
      simp only [Bool.and_eq_true, Nat.blt_eq] at this
      exact this) (show Tryz.f4.resultTypes = #[4] by kernel_rfl) bool4 rfl
    (fun ds hd => by
      match ds, hd with
      | [d0, d1], _ => rfl)
    (fun W base args ds ps hval hA _ hx hs => law_calls (F := 6) (ts := [28, 42]) (by kernel_rfl) (by kernel_rfl) W base args ds ps (fun st ds hd => by
      match ds, hd with
      | [d0, d1], _ => exact tariffHolds_contract st d0 d1) hval hA hx hs)
end Go.Fx

namespace Go.Proofs.YtgegfljeglphlaaGreatDoor
open Go Go.Proofs Go.Fx

theorem tariffHolds_f1 : (Rows.tariffHoldsRow.inPlace == Tryz.prog.inPlace 4) = true := by kernel_rfl
theorem tariffHolds_f2 : (Rows.tariffHoldsRow.unfollowed == Tryz.prog.unfollowed 4) = true := by kernel_rfl
theorem tariffHolds_f3 : (Rows.tariffHoldsRow.recurses == Tryz.prog.recurses 4) = true := by kernel_rfl
theorem tariffHolds_f4 : (Rows.tariffHoldsRow.named == Tryz.prog.varsNamed 4) = true := by kernel_rfl
theorem tariffHolds_closed : joinedFacts Tryz.prog 4 Tryz.f4 Rows.tariffHoldsSpec Rows.tariffHoldsRow = true := by
  unfold joinedFacts
  simp only [Bool.and_eq_true]
  repeat' (with_reducible apply And.intro)
  all_goals first
    | with_reducible exact tariffHolds_f1
    | with_reducible exact tariffHolds_f2
    | with_reducible exact tariffHolds_f3
    | with_reducible exact tariffHolds_f4
    | kernel_rfl
theorem tariffHolds_wrap : Tryz.f4.isWrapper Tryz.prog Rows.tariffHoldsRow.wrapper Rows.tariffHoldsRow.mainSum := by unfold Func.isWrapper; first | (rw [if_pos (by decide +kernel)]; kernel_rfl) | (rw [if_neg (by decide +kernel)]; exact ⟨rfl, rfl⟩)

theorem tariffHolds_holds : Rows.TariffHoldsSaid :=
  OpenClaim.holds_of_wide 4 Tryz.f4 rfl rfl rfl rfl rfl rfl rfl ⟨rfl, rfl, rfl, rfl, rfl⟩ rfl rfl rfl rfl rfl (by kernel_rfl) func4 tariffHolds_closed
    (of_decide_eq_true (by kernel_rfl)) tariffHolds_wrap
    (fun os started H enc _ => tariffHolds_lifted os started H enc)

theorem tariffHolds_card : Rows.TariffHoldsCardSaid :=
  Claim7.holds_tied_plain_at .later [] [.data, .data, .data, .data, .sentinel, .sentinel, .pinned] true (true, "885e9f61563aa1e73879a7516f885ed9a9696ca4c9812cc34814189d661ec386") true
    tariffHolds_holds (fun _ h => by cases h) (by kernel_rfl) (fun _ h => by cases h) tariffHolds_row_tie rfl ⟨rfl, rfl⟩ (by kernel_rfl) rfl
    (fun f fn hf hfn => by
      obtain rfl : f = 4 := Option.some.inj ((show Tryz.prog.funcNamed "fiacre/fiacrelaw01.TariffHolds" = some 4 by kernel_rfl).symm.trans hf) |>.symm
      obtain rfl : fn = Tryz.f4 := (Option.some.inj (func4.symm.trans hfn)).symm
      exact ⟨by kernel_rfl, fun j t ht => by
        rw [params4] at ht
        have hm : t ∈ [28, 42] := by simpa using Array.mem_of_getElem? ht
        have hall : ([28, 42].all fun u => !Tryz.prog.wantsStandIn u) = true := by kernel_rfl
        exact (show Tryz.prog.wantsStandIn t = false by simpa using List.all_eq_true.1 hall t hm)⟩)
    (by kernel_rfl)
#print axioms tariffHolds_card
end Go.Proofs.YtgegfljeglphlaaGreatDoor
