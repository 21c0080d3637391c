/-
  MeterIsLaw returns true whatever its two arguments are, and its arguments read behind the call as they did before: at every input, where the nine package-level variables that the row lists hold what the row lays (the tied card).
-/
import Derived.Test.YtfdegaojblmdiaaGreatDoorGz
import Derived.Test.YtfdegaojblmdiaaGreatDoorGk
import Derived.Test.YtfdegaojblmdiaaGreatDoorGl
import Derived.Test.YtfdegaojblmdiaaGreatDoorGo
import Derived.SevenTiedAt

set_option linter.all false

namespace Go.Fx
open Go.Proofs Go.Proofs.YtfdegaojblmdiaaGreatDoor Go.ChangeShapes Go.WideShapes Go.RowKit

theorem params7 : Tryz.f7.params = #[28, 33] := by kernel_rfl
theorem func7 : Tryz.checked.prog.funcs[7]? = some Tryz.f7 := by kernel_rfl

theorem meterIsLaw_contract {W : World} (st : Stand W) {H : Type} (d0 d1 : DataW H) : Pure (Xc W Gt) 7 (argsAV Tt 6 [28, 33] [d0, d1]) (.bool true) :=
  (c7 st.good (awake_ok st) (trfOf d0) (logOf d1)).args ⟨trf_arg d0, log_arg d1, trivial⟩

set_option maxRecDepth 100000 in
theorem meterIsLaw_lifted (os : Os) (started : os.Started) (H : Type) (enc : TypeId × Value → H) :
    ReturnsInHanded {} Tryz.checked os 7 .any (fun w args => (Rows.meterIsLawSpec.pre enc Tryz.prog Tryz.f7 [] false w args ∧ laidMetH Tryz.prog Rows.meterIsLawRow.laid w) ∧ sizedMet enc Tryz.prog Tryz.f7 (OpenSpec.ofChange Rows.meterIsLawSpec) false w args)
      (Rows.meterIsLawSpec.post enc Tryz.prog Tryz.f7 false true false false) :=
  law_returns (C := Tryz.checked) (X := fun w _ => laidMetH Tryz.prog Rows.meterIsLawRow.laid w) (fun _ _ _ hh h => h.of_heap hh) own started (by kernel_rfl) func7
    (ChangeSpec.witness_shaped (enc := enc) (C := Tryz.checked) (os := os) (X := fun w _ => laidMetH Tryz.prog Rows.meterIsLawRow.laid w) false (World.laidAll Tryz.prog os Rows.meterIsLawRow.laid) #[.agg #[.string ⟨#[]⟩, .int .i64 0, .int .i64 0, .slice none 0 0, .slice none 0 0, .slice none 0 0, .slice none 0 0, .slice none 0 0], .agg #[.int .i64 0, .int .i64 0, .int .i64 0, .slice none 0 0]] 8 (World.laidAll_os _ _ _)
      (World.shaped_of_ZipB (by kernel_rfl) (by kernel_rfl)) (by kernel_rfl) (by kernel_rfl) (by kernel_rfl) (laid_met os _))
    laidOut (by
      have h : (Tryz.f7.params.toList.all fun t => Tryz.prog.readableRec t && Nat.blt t Tryz.prog.types.size) = true := by kernel_rfl
      intro t ht
      have := List.all_eq_true.1 h t ht
      simp only [Bool.and_eq_true, Nat.blt_eq] at this
      exact this) (show Tryz.f7.resultTypes = #[4] by kernel_rfl) bool4 rfl
    (fun ds hd => by
      match ds, hd with
      | [d0, d1], _ => rfl)
    (fun W base args ds ps hval hA _ hx hs => law_calls (F := 6) (ts := [28, 33]) (by kernel_rfl) (by kernel_rfl) W base args ds ps (fun st ds hd => by
      match ds, hd with
      | [d0, d1], _ => exact meterIsLaw_contract st d0 d1) hval hA hx hs)
end Go.Fx

namespace Go.Proofs.YtfdegaojblmdiaaGreatDoor
open Go Go.Proofs Go.Fx

theorem meterIsLaw_f1 : (Rows.meterIsLawRow.inPlace == Tryz.prog.inPlace 7) = true := by kernel_rfl
theorem meterIsLaw_f2 : (Rows.meterIsLawRow.unfollowed == Tryz.prog.unfollowed 7) = true := by kernel_rfl
theorem meterIsLaw_f3 : (Rows.meterIsLawRow.recurses == Tryz.prog.recurses 7) = true := by kernel_rfl
theorem meterIsLaw_f4 : (Rows.meterIsLawRow.named == Tryz.prog.varsNamed 7) = true := by kernel_rfl
theorem meterIsLaw_closed : joinedFacts Tryz.prog 7 Tryz.f7 Rows.meterIsLawSpec Rows.meterIsLawRow = true := by
  unfold joinedFacts
  simp only [Bool.and_eq_true]
  repeat' (with_reducible apply And.intro)
  all_goals first
    | with_reducible exact meterIsLaw_f1
    | with_reducible exact meterIsLaw_f2
    | with_reducible exact meterIsLaw_f3
    | with_reducible exact meterIsLaw_f4
    | kernel_rfl
theorem meterIsLaw_wrap : Tryz.f7.isWrapper Tryz.prog Rows.meterIsLawRow.wrapper Rows.meterIsLawRow.mainSum := by unfold Func.isWrapper; first | (rw [if_pos (by decide +kernel)]; kernel_rfl) | (rw [if_neg (by decide +kernel)]; exact ⟨rfl, rfl⟩)

theorem meterIsLaw_holds : Rows.MeterIsLawSaid :=
  OpenClaim.holds_of_wide 7 Tryz.f7 rfl rfl rfl rfl rfl rfl rfl ⟨rfl, rfl, rfl, rfl, rfl⟩ rfl rfl rfl rfl rfl (by kernel_rfl) func7 meterIsLaw_closed
    (of_decide_eq_true (by kernel_rfl)) meterIsLaw_wrap
    (fun os started H enc _ => meterIsLaw_lifted os started H enc)

theorem meterIsLaw_card : Rows.MeterIsLawCardSaid :=
  Claim7.holds_tied_plain_at .later [] [.data, .data, .data, .data, .sentinel, .sentinel, .widerDeep, .data, .pinned] true (true, "053c707958f8f6d0a278dcb7c1e4b71ef29e98e650e46a6897f571e09eecf087") true
    meterIsLaw_holds (fun _ h => by cases h) (by kernel_rfl) (fun _ h => by cases h) meterIsLaw_row_tie rfl ⟨rfl, rfl⟩ (by kernel_rfl) rfl
    (fun f fn hf hfn => by
      obtain rfl : f = 7 := Option.some.inj ((show Tryz.prog.funcNamed "fiacre/fiacrelaw02.MeterIsLaw" = some 7 by kernel_rfl).symm.trans hf) |>.symm
      obtain rfl : fn = Tryz.f7 := (Option.some.inj (func7.symm.trans hfn)).symm
      exact ⟨by kernel_rfl, fun j t ht => by
        rw [params7] at ht
        have hm : t ∈ [28, 33] := by simpa using Array.mem_of_getElem? ht
        have hall : ([28, 33].all fun u => !Tryz.prog.wantsStandIn u) = true := by kernel_rfl
        exact (show Tryz.prog.wantsStandIn t = false by simpa using List.all_eq_true.1 hall t hm)⟩)
    (by kernel_rfl)
#print axioms meterIsLaw_card
end Go.Proofs.YtfdegaojblmdiaaGreatDoor
