/-
  TariffCutAnyhow returns true whatever its three arguments are, and its arguments read behind the call as they did before: at every input, where the seven package-level variables that the row lists hold what the row lays (the tied card).
-/
import Derived.Test.YtgegfljeglphlaaGreatDoorGm
import Derived.Test.YtgegfljeglphlaaGreatDoorGl
import Derived.Test.YtgegfljeglphlaaGreatDoorGo
import Derived.SevenTiedAt

set_option linter.all false

namespace Go.Fx
open Go.Proofs Go.Proofs.YtgegfljeglphlaaGreatDoor Go.ChangeShapes Go.WideShapes Go.RowKit

theorem params12 : Tryz.f12.params = #[28, 63, 111] := by kernel_rfl
theorem func12 : Tryz.checked.prog.funcs[12]? = some Tryz.f12 := by kernel_rfl

theorem tariffCutAnyhow_contract {W : World} (st : Stand W) {H : Type} (d0 d1 d2 : DataW H) : Pure (Xc W Gt) 12 (argsAV Tt 6 [28, 63, 111] [d0, d1, d2]) (.bool true) :=
  (c12 st.good (awake_ok st) (trfOf d0) (trpOf d1) (dI (dN d2 0)) (dI (dN d2 1)) (dI (dN d2 2)) (trp_in d1)).args ⟨trf_arg d0, trp_arg d1, .ofEq (kni_arg d2), trivial⟩

set_option maxRecDepth 100000 in
theorem tariffCutAnyhow_lifted (os : Os) (started : os.Started) (H : Type) (enc : TypeId × Value → H) :
    ReturnsInHanded {} Tryz.checked os 12 .any (fun w args => (Rows.tariffCutAnyhowSpec.pre enc Tryz.prog Tryz.f12 [] false w args ∧ laidMetH Tryz.prog Rows.tariffCutAnyhowRow.laid w) ∧ sizedMet enc Tryz.prog Tryz.f12 (OpenSpec.ofChange Rows.tariffCutAnyhowSpec) false w args)
      (Rows.tariffCutAnyhowSpec.post enc Tryz.prog Tryz.f12 false true false false) :=
  law_returns (C := Tryz.checked) (X := fun w _ => laidMetH Tryz.prog Rows.tariffCutAnyhowRow.laid w) (fun _ _ _ hh h => h.of_heap hh) own started (by kernel_rfl) func12
    (ChangeSpec.witness_shaped (enc := enc) (C := Tryz.checked) (os := os) (X := fun w _ => laidMetH Tryz.prog Rows.tariffCutAnyhowRow.laid w) false (World.laidAll Tryz.prog os Rows.tariffCutAnyhowRow.laid) #[.agg #[.string ⟨#[]⟩, .int .i64 0, .int .i64 0, .slice none 0 0, .slice none 0 0, .slice none 0 0, .slice none 0 0, .slice none 0 0], .agg #[.int .i64 0, .int .i64 0, .bool false, .slice none 0 0, .slice none 0 0], .agg #[.int .i64 0, .int .i64 0, .int .i64 0]] 8 (World.laidAll_os _ _ _)
      (World.shaped_of_ZipB (by kernel_rfl) (by kernel_rfl)) (by kernel_rfl) (by kernel_rfl) (by kernel_rfl) (laid_met os _))
    laidOut (by
      have h : (Tryz.f12.params.toList.all fun t => Tryz.prog.readableRec t && Nat.blt t Tryz.prog.types.size) = true := by kernel_rfl
      intro t ht
      have := List.all_eq_true.1 h t ht
      simp only [Bool.and_eq_true, Nat.blt_eq] at this
      exact this) (show Tryz.f12.resultTypes = #[4] by kernel_rfl) bool4 rfl
    (fun ds hd => by
      match ds, hd with
      | [d0, d1, d2], _ => rfl)
    (fun W base args ds ps hval hA _ hx hs => law_calls (F := 6) (ts := [28, 63, 111]) (by kernel_rfl) (by kernel_rfl) W base args ds ps (fun st ds hd => by
      match ds, hd with
      | [d0, d1, d2], _ => exact tariffCutAnyhow_contract st d0 d1 d2) hval hA hx hs)
end Go.Fx

namespace Go.Proofs.YtgegfljeglphlaaGreatDoor
open Go Go.Proofs Go.Fx

theorem tariffCutAnyhow_f1 : (Rows.tariffCutAnyhowRow.inPlace == Tryz.prog.inPlace 12) = true := by kernel_rfl
theorem tariffCutAnyhow_f2 : (Rows.tariffCutAnyhowRow.unfollowed == Tryz.prog.unfollowed 12) = true := by kernel_rfl
theorem tariffCutAnyhow_f3 : (Rows.tariffCutAnyhowRow.recurses == Tryz.prog.recurses 12) = true := by kernel_rfl
theorem tariffCutAnyhow_f4 : (Rows.tariffCutAnyhowRow.named == Tryz.prog.varsNamed 12) = true := by kernel_rfl
theorem tariffCutAnyhow_closed : joinedFacts Tryz.prog 12 Tryz.f12 Rows.tariffCutAnyhowSpec Rows.tariffCutAnyhowRow = true := by
  unfold joinedFacts
  simp only [Bool.and_eq_true]
  repeat' (with_reducible apply And.intro)
  all_goals first
    | with_reducible exact tariffCutAnyhow_f1
    | with_reducible exact tariffCutAnyhow_f2
    | with_reducible exact tariffCutAnyhow_f3
    | with_reducible exact tariffCutAnyhow_f4
    | kernel_rfl
theorem tariffCutAnyhow_wrap : Tryz.f12.isWrapper Tryz.prog Rows.tariffCutAnyhowRow.wrapper Rows.tariffCutAnyhowRow.mainSum := by unfold Func.isWrapper; first | (rw [if_pos (by decide +kernel)]; kernel_rfl) | (rw [if_neg (by decide +kernel)]; exact ⟨rfl, rfl⟩)

theorem tariffCutAnyhow_holds : Rows.TariffCutAnyhowSaid :=
  OpenClaim.holds_of_wide 12 Tryz.f12 rfl rfl rfl rfl rfl rfl rfl ⟨rfl, rfl, rfl, rfl, rfl⟩ rfl rfl rfl rfl rfl (by kernel_rfl) func12 tariffCutAnyhow_closed
    (of_decide_eq_true (by kernel_rfl)) tariffCutAnyhow_wrap
    (fun os started H enc _ => tariffCutAnyhow_lifted os started H enc)

theorem tariffCutAnyhow_card : Rows.TariffCutAnyhowCardSaid :=
  Claim7.holds_tied_plain_at .later [] [.data, .data, .data, .data, .sentinel, .sentinel, .pinned] true (true, "885e9f61563aa1e73879a7516f885ed9a9696ca4c9812cc34814189d661ec386") true
    tariffCutAnyhow_holds (fun _ h => by cases h) (by kernel_rfl) (fun _ h => by cases h) tariffCutAnyhow_row_tie rfl ⟨rfl, rfl⟩ (by kernel_rfl) rfl
    (fun f fn hf hfn => by
      obtain rfl : f = 12 := Option.some.inj ((show Tryz.prog.funcNamed "fiacre/fiacrelaw01.TariffCutAnyhow" = some 12 by kernel_rfl).symm.trans hf) |>.symm
      obtain rfl : fn = Tryz.f12 := (Option.some.inj (func12.symm.trans hfn)).symm
      exact ⟨by kernel_rfl, fun j t ht => by
        rw [params12] at ht
        have hm : t ∈ [28, 63, 111] := by simpa using Array.mem_of_getElem? ht
        have hall : ([28, 63, 111].all fun u => !Tryz.prog.wantsStandIn u) = true := by kernel_rfl
        exact (show Tryz.prog.wantsStandIn t = false by simpa using List.all_eq_true.1 hall t hm)⟩)
    (by kernel_rfl)
#print axioms tariffCutAnyhow_card
end Go.Proofs.YtgegfljeglphlaaGreatDoor
