/-
  TariffCovered returns true whatever its three arguments are, and its arguments read behind the call as they did before: at every input, where the seven package-level variables that the row lists hold what the row lays (the tied card).
-/
import Derived.Test.YtgegfljeglphlaaGreatDoorGm
import Derived.Test.YtgegfljeglphlaaGreatDoorGl
import Derived.Test.YtgegfljeglphlaaGreatDoorGo
import Derived.SevenTiedAt

set_option linter.all false

namespace Go.Fx
open Go.Proofs Go.Proofs.YtgegfljeglphlaaGreatDoor Go.ChangeShapes Go.WideShapes Go.RowKit

theorem params11 : Tryz.f11.params = #[28, 77, 42] := by kernel_rfl
theorem func11 : Tryz.checked.prog.funcs[11]? = some Tryz.f11 := by kernel_rfl

theorem tariffCovered_contract {W : World} (st : Stand W) {H : Type} (d0 d1 d2 : DataW H) : Pure (Xc W Gt) 11 (argsAV Tt 6 [28, 77, 42] [d0, d1, d2]) (.bool true) :=
  (c11 st.good (awake_ok st) (trfOf d0) (dI (dN d1 0)) (dI (dN d1 1)) (plcOf d2)).args ⟨trf_arg d0, .ofEq (rng_arg d1), .ofEq (plc_arg d2), trivial⟩

set_option maxRecDepth 100000 in
theorem tariffCovered_lifted (os : Os) (started : os.Started) (H : Type) (enc : TypeId × Value → H) :
    ReturnsInHanded {} Tryz.checked os 11 .any (fun w args => (Rows.tariffCoveredSpec.pre enc Tryz.prog Tryz.f11 [] false w args ∧ laidMetH Tryz.prog Rows.tariffCoveredRow.laid w) ∧ sizedMet enc Tryz.prog Tryz.f11 (OpenSpec.ofChange Rows.tariffCoveredSpec) false w args)
      (Rows.tariffCoveredSpec.post enc Tryz.prog Tryz.f11 false true false false) :=
  law_returns (C := Tryz.checked) (X := fun w _ => laidMetH Tryz.prog Rows.tariffCoveredRow.laid w) (fun _ _ _ hh h => h.of_heap hh) own started (by kernel_rfl) func11
    (ChangeSpec.witness_shaped (enc := enc) (C := Tryz.checked) (os := os) (X := fun w _ => laidMetH Tryz.prog Rows.tariffCoveredRow.laid w) false (World.laidAll Tryz.prog os Rows.tariffCoveredRow.laid) #[.agg #[.string ⟨#[]⟩, .int .i64 0, .int .i64 0, .slice none 0 0, .slice none 0 0, .slice none 0 0, .slice none 0 0, .slice none 0 0], .agg #[.int .i64 0, .int .i64 0], .agg #[.int .i64 0, .int .i64 0, .int .i64 0]] 8 (World.laidAll_os _ _ _)
      (World.shaped_of_ZipB (by kernel_rfl) (by kernel_rfl)) (by kernel_rfl) (by kernel_rfl) (by kernel_rfl) (laid_met os _))
    laidOut (by
      have h : (Tryz.f11.params.toList.all fun t => Tryz.prog.readableRec t && Nat.blt t Tryz.prog.types.size) = true := by kernel_rfl
      intro t ht
      have := List.all_eq_true.1 h t ht
      simp only [Bool.and_eq_true, Nat.blt_eq] at this
      exact this) (show Tryz.f11.resultTypes = #[4] by kernel_rfl) bool4 rfl
    (fun ds hd => by
      match ds, hd with
      | [d0, d1, d2], _ => rfl)
    (fun W base args ds ps hval hA _ hx hs => law_calls (F := 6) (ts := [28, 77, 42]) (by kernel_rfl) (by kernel_rfl) W base args ds ps (fun st ds hd => by
      match ds, hd with
      | [d0, d1, d2], _ => exact tariffCovered_contract st d0 d1 d2) hval hA hx hs)
end Go.Fx

namespace Go.Proofs.YtgegfljeglphlaaGreatDoor
open Go Go.Proofs Go.Fx

theorem tariffCovered_f1 : (Rows.tariffCoveredRow.inPlace == Tryz.prog.inPlace 11) = true := by kernel_rfl
theorem tariffCovered_f2 : (Rows.tariffCoveredRow.unfollowed == Tryz.prog.unfollowed 11) = true := by kernel_rfl
theorem tariffCovered_f3 : (Rows.tariffCoveredRow.recurses == Tryz.prog.recurses 11) = true := by kernel_rfl
theorem tariffCovered_f4 : (Rows.tariffCoveredRow.named == Tryz.prog.varsNamed 11) = true := by kernel_rfl
theorem tariffCovered_closed : joinedFacts Tryz.prog 11 Tryz.f11 Rows.tariffCoveredSpec Rows.tariffCoveredRow = true := by
  unfold joinedFacts
  simp only [Bool.and_eq_true]
  repeat' (with_reducible apply And.intro)
  all_goals first
    | with_reducible exact tariffCovered_f1
    | with_reducible exact tariffCovered_f2
    | with_reducible exact tariffCovered_f3
    | with_reducible exact tariffCovered_f4
    | kernel_rfl
theorem tariffCovered_wrap : Tryz.f11.isWrapper Tryz.prog Rows.tariffCoveredRow.wrapper Rows.tariffCoveredRow.mainSum := by unfold Func.isWrapper; first | (rw [if_pos (by decide +kernel)]; kernel_rfl) | (rw [if_neg (by decide +kernel)]; exact ⟨rfl, rfl⟩)

theorem tariffCovered_holds : Rows.TariffCoveredSaid :=
  OpenClaim.holds_of_wide 11 Tryz.f11 rfl rfl rfl rfl rfl rfl rfl ⟨rfl, rfl, rfl, rfl, rfl⟩ rfl rfl rfl rfl rfl (by kernel_rfl) func11 tariffCovered_closed
    (of_decide_eq_true (by kernel_rfl)) tariffCovered_wrap
    (fun os started H enc _ => tariffCovered_lifted os started H enc)

theorem tariffCovered_card : Rows.TariffCoveredCardSaid :=
  Claim7.holds_tied_plain_at .later [] [.data, .data, .data, .data, .sentinel, .sentinel, .pinned] true (true, "885e9f61563aa1e73879a7516f885ed9a9696ca4c9812cc34814189d661ec386") true
    tariffCovered_holds (fun _ h => by cases h) (by kernel_rfl) (fun _ h => by cases h) tariffCovered_row_tie rfl ⟨rfl, rfl⟩ (by kernel_rfl) rfl
    (fun f fn hf hfn => by
      obtain rfl : f = 11 := Option.some.inj ((show Tryz.prog.funcNamed "fiacre/fiacrelaw01.TariffCovered" = some 11 by kernel_rfl).symm.trans hf) |>.symm
      obtain rfl : fn = Tryz.f11 := (Option.some.inj (func11.symm.trans hfn)).symm
      exact ⟨by kernel_rfl, fun j t ht => by
        rw [params11] at ht
        have hm : t ∈ [28, 77, 42] := by simpa using Array.mem_of_getElem? ht
        have hall : ([28, 77, 42].all fun u => !Tryz.prog.wantsStandIn u) = true := by kernel_rfl
        exact (show Tryz.prog.wantsStandIn t = false by simpa using List.all_eq_true.1 hall t hm)⟩)
    (by kernel_rfl)
#print axioms tariffCovered_card
end Go.Proofs.YtgegfljeglphlaaGreatDoor
