/-
  TariffChecks returns true whatever its tariff is, and its argument reads behind the call as it did before: at every input, where the seven package-level variables that the row lists hold what the row lays (the tied card).
-/
import Derived.Test.YtgegfljeglphlaaGreatDoorFw
import Derived.Test.YtgegfljeglphlaaGreatDoorFv
import Derived.Test.YtgegfljeglphlaaGreatDoorFl
import Derived.Test.YtgegfljeglphlaaGreatDoorFo
import Derived.SevenTiedAt

set_option linter.all false

namespace Go.Fx
open Go.Proofs Go.Proofs.YtgegfljeglphlaaGreatDoor Go.ChangeShapes Go.WideShapes Go.RowKit

theorem params3 : Tryz.f3.params = #[28] := by kernel_rfl
theorem func3 : Tryz.checked.prog.funcs[3]? = some Tryz.f3 := by kernel_rfl

theorem tariffChecks_contract {W : World} (st : Stand W) {H : Type} (d0 : DataW H) : Pure (Xc W Gt) 3 (argsAV Tt 6 [28] [d0]) (.bool true) :=
  (c3 st.good (awake_ok st) (trfOf d0)).args ⟨trf_arg d0, trivial⟩

set_option maxRecDepth 100000 in
theorem tariffChecks_lifted (os : Os) (started : os.Started) (H : Type) (enc : TypeId × Value → H) :
    ReturnsInHanded {} Tryz.checked os 3 .any (fun w args => (Rows.tariffChecksSpec.pre enc Tryz.prog Tryz.f3 [] false w args ∧ laidMetH Tryz.prog Rows.tariffChecksRow.laid w) ∧ sizedMet enc Tryz.prog Tryz.f3 (OpenSpec.ofChange Rows.tariffChecksSpec) false w args)
      (Rows.tariffChecksSpec.post enc Tryz.prog Tryz.f3 false true false false) :=
  law_returns (C := Tryz.checked) (X := fun w _ => laidMetH Tryz.prog Rows.tariffChecksRow.laid w) (fun _ _ _ hh h => h.of_heap hh) own started (by kernel_rfl) func3
    (ChangeSpec.witness_shaped (enc := enc) (C := Tryz.checked) (os := os) (X := fun w _ => laidMetH Tryz.prog Rows.tariffChecksRow.laid w) false (World.laidAll Tryz.prog os Rows.tariffChecksRow.laid) #[.agg #[.string ⟨#[]⟩, .int .i64 0, .int .i64 0, .slice none 0 0, .slice none 0 0, .slice none 0 0, .slice none 0 0, .slice none 0 0]] 8 (World.laidAll_os _ _ _)
      (World.shaped_of_ZipB (by kernel_rfl) (by kernel_rfl)) (by kernel_rfl) (by kernel_rfl) (by kernel_rfl) (laid_met os _))
    laidOut (by
      have h : (Tryz.f3.params.toList.all fun t => Tryz.prog.readableRec t && Nat.blt t Tryz.prog.types.size) = true := by kernel_rfl
      intro t ht
      have := List.all_eq_true.1 h t ht
      simp only [Bool.and_eq_true, Nat.blt_eq] at this
      exact this) (show Tryz.f3.resultTypes = #[4] by kernel_rfl) bool4 rfl
    (fun ds hd => by
      match ds, hd with
      | [d0], _ => rfl)
    (fun W base args ds ps hval hA _ hx hs => law_calls (F := 6) (ts := [28]) (by kernel_rfl) (by kernel_rfl) W base args ds ps (fun st ds hd => by
      match ds, hd with
      | [d0], _ => exact tariffChecks_contract st d0) hval hA hx hs)
end Go.Fx

namespace Go.Proofs.YtgegfljeglphlaaGreatDoor
open Go Go.Proofs Go.Fx

theorem tariffChecks_f1 : (Rows.tariffChecksRow.inPlace == Tryz.prog.inPlace 3) = true := by kernel_rfl
theorem tariffChecks_f2 : (Rows.tariffChecksRow.unfollowed == Tryz.prog.unfollowed 3) = true := by kernel_rfl
theorem tariffChecks_f3 : (Rows.tariffChecksRow.recurses == Tryz.prog.recurses 3) = true := by kernel_rfl
theorem tariffChecks_f4 : (Rows.tariffChecksRow.named == Tryz.prog.varsNamed 3) = true := by kernel_rfl
theorem tariffChecks_closed : joinedFacts Tryz.prog 3 Tryz.f3 Rows.tariffChecksSpec Rows.tariffChecksRow = true := by
  unfold joinedFacts
  simp only [Bool.and_eq_true]
  repeat' (with_reducible apply And.intro)
  all_goals first
    | with_reducible exact tariffChecks_f1
    | with_reducible exact tariffChecks_f2
    | with_reducible exact tariffChecks_f3
    | with_reducible exact tariffChecks_f4
    | kernel_rfl
theorem tariffChecks_wrap : Tryz.f3.isWrapper Tryz.prog Rows.tariffChecksRow.wrapper Rows.tariffChecksRow.mainSum := by unfold Func.isWrapper; first | (rw [if_pos (by decide +kernel)]; kernel_rfl) | (rw [if_neg (by decide +kernel)]; exact ⟨rfl, rfl⟩)

theorem tariffChecks_holds : Rows.TariffChecksSaid :=
  OpenClaim.holds_of_wide 3 Tryz.f3 rfl rfl rfl rfl rfl rfl rfl ⟨rfl, rfl, rfl, rfl, rfl⟩ rfl rfl rfl rfl rfl (by kernel_rfl) func3 tariffChecks_closed
    (of_decide_eq_true (by kernel_rfl)) tariffChecks_wrap
    (fun os started H enc _ => tariffChecks_lifted os started H enc)

theorem tariffChecks_card : Rows.TariffChecksCardSaid :=
  Claim7.holds_tied_plain_at .later [] [.data, .data, .data, .data, .sentinel, .sentinel, .pinned] true (true, "885e9f61563aa1e73879a7516f885ed9a9696ca4c9812cc34814189d661ec386") true
    tariffChecks_holds (fun _ h => by cases h) (by kernel_rfl) (fun _ h => by cases h) tariffChecks_row_tie rfl ⟨rfl, rfl⟩ (by kernel_rfl) rfl
    (fun f fn hf hfn => by
      obtain rfl : f = 3 := Option.some.inj ((show Tryz.prog.funcNamed "fiacre/fiacrelaw01.TariffChecks" = some 3 by kernel_rfl).symm.trans hf) |>.symm
      obtain rfl : fn = Tryz.f3 := (Option.some.inj (func3.symm.trans hfn)).symm
      exact ⟨by kernel_rfl, fun j t ht => by
        rw [params3] at ht
        have hm : t ∈ [28] := by simpa using Array.mem_of_getElem? ht
        have hall : ([28].all fun u => !Tryz.prog.wantsStandIn u) = true := by kernel_rfl
        exact (show Tryz.prog.wantsStandIn t = false by simpa using List.all_eq_true.1 hall t hm)⟩)
    (by kernel_rfl)
#print axioms tariffChecks_card
end Go.Proofs.YtgegfljeglphlaaGreatDoor
