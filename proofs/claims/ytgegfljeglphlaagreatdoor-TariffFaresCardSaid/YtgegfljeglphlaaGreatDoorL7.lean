/-
  TariffFares returns true whatever its two arguments are, and its arguments read behind the call as they did before: at every input, where the seven package-level variables that the row lists hold what the row lays (the tied card).
-/
import Derived.Test.YtgegfljeglphlaaGreatDoorGm
import Derived.Test.YtgegfljeglphlaaGreatDoorGv
import Derived.Test.YtgegfljeglphlaaGreatDoorGl
import Derived.Test.YtgegfljeglphlaaGreatDoorGo
import Derived.SevenTiedAt

set_option linter.all false

namespace Go.Fx
open Go.Proofs Go.Proofs.YtgegfljeglphlaaGreatDoor Go.ChangeShapes Go.WideShapes Go.RowKit

theorem params7 : Tryz.f7.params = #[28, 63] := by kernel_rfl
theorem func7 : Tryz.checked.prog.funcs[7]? = some Tryz.f7 := by kernel_rfl

theorem tariffFares_contract {W : World} (st : Stand W) {H : Type} (d0 d1 : DataW H) : Pure (Xc W Gt) 7 (argsAV Tt 6 [28, 63] [d0, d1]) (.bool true) :=
  (c7 st.good (awake_ok st) (trfOf d0) (trpOf d1)).args ⟨trf_arg d0, trp_arg d1, trivial⟩

set_option maxRecDepth 100000 in
theorem tariffFares_lifted (os : Os) (started : os.Started) (H : Type) (enc : TypeId × Value → H) :
    ReturnsInHanded {} Tryz.checked os 7 .any (fun w args => (Rows.tariffFaresSpec.pre enc Tryz.prog Tryz.f7 [] false w args ∧ laidMetH Tryz.prog Rows.tariffFaresRow.laid w) ∧ sizedMet enc Tryz.prog Tryz.f7 (OpenSpec.ofChange Rows.tariffFaresSpec) false w args)
      (Rows.tariffFaresSpec.post enc Tryz.prog Tryz.f7 false true false false) :=
  law_returns (C := Tryz.checked) (X := fun w _ => laidMetH Tryz.prog Rows.tariffFaresRow.laid w) (fun _ _ _ hh h => h.of_heap hh) own started (by kernel_rfl) func7
    (ChangeSpec.witness_shaped (enc := enc) (C := Tryz.checked) (os := os) (X := fun w _ => laidMetH Tryz.prog Rows.tariffFaresRow.laid w) false (World.laidAll Tryz.prog os Rows.tariffFaresRow.laid) #[.agg #[.string ⟨#[]⟩, .int .i64 0, .int .i64 0, .slice none 0 0, .slice none 0 0, .slice none 0 0, .slice none 0 0, .slice none 0 0], .agg #[.int .i64 0, .int .i64 0, .bool false, .slice none 0 0, .slice none 0 0]] 8 (World.laidAll_os _ _ _)
      (World.shaped_of_ZipB (by kernel_rfl) (by kernel_rfl)) (by kernel_rfl) (by kernel_rfl) (by kernel_rfl) (laid_met os _))
    laidOut (by
      have h : (Tryz.f7.params.toList.all fun t => Tryz.prog.readableRec t && Nat.blt t Tryz.prog.types.size) = true := by kernel_rfl
      intro t ht
      have := List.all_eq_true.1 h t ht
      simp only [Bool.and_eq_true, Nat.blt_eq] at this
      exact this) (show Tryz.f7.resultTypes = #[4] by kernel_rfl) bool4 rfl
    (fun ds hd => by
      match ds, hd with
      | [d0, d1], _ => rfl)
    (fun W base args ds ps hval hA _ hx hs => law_calls (F := 6) (ts := [28, 63]) (by kernel_rfl) (by kernel_rfl) W base args ds ps (fun st ds hd => by
      match ds, hd with
      | [d0, d1], _ => exact tariffFares_contract st d0 d1) hval hA hx hs)
end Go.Fx

namespace Go.Proofs.YtgegfljeglphlaaGreatDoor
open Go Go.Proofs Go.Fx

theorem tariffFares_f1 : (Rows.tariffFaresRow.inPlace == Tryz.prog.inPlace 7) = true := by kernel_rfl
theorem tariffFares_f2 : (Rows.tariffFaresRow.unfollowed == Tryz.prog.unfollowed 7) = true := by kernel_rfl
theorem tariffFares_f3 : (Rows.tariffFaresRow.recurses == Tryz.prog.recurses 7) = true := by kernel_rfl
theorem tariffFares_f4 : (Rows.tariffFaresRow.named == Tryz.prog.varsNamed 7) = true := by kernel_rfl
theorem tariffFares_closed : joinedFacts Tryz.prog 7 Tryz.f7 Rows.tariffFaresSpec Rows.tariffFaresRow = true := by
  unfold joinedFacts
  simp only [Bool.and_eq_true]
  repeat' (with_reducible apply And.intro)
  all_goals first
    | with_reducible exact tariffFares_f1
    | with_reducible exact tariffFares_f2
    | with_reducible exact tariffFares_f3
    | with_reducible exact tariffFares_f4
    | kernel_rfl
theorem tariffFares_wrap : Tryz.f7.isWrapper Tryz.prog Rows.tariffFaresRow.wrapper Rows.tariffFaresRow.mainSum := by unfold Func.isWrapper; first | (rw [if_pos (by decide +kernel)]; kernel_rfl) | (rw [if_neg (by decide +kernel)]; exact ⟨rfl, rfl⟩)

theorem tariffFares_holds : Rows.TariffFaresSaid :=
  OpenClaim.holds_of_wide 7 Tryz.f7 rfl rfl rfl rfl rfl rfl rfl ⟨rfl, rfl, rfl, rfl, rfl⟩ rfl rfl rfl rfl rfl (by kernel_rfl) func7 tariffFares_closed
    (of_decide_eq_true (by kernel_rfl)) tariffFares_wrap
    (fun os started H enc _ => tariffFares_lifted os started H enc)

theorem tariffFares_card : Rows.TariffFaresCardSaid :=
  Claim7.holds_tied_plain_at .later [] [.data, .data, .data, .data, .sentinel, .sentinel, .pinned] true (true, "885e9f61563aa1e73879a7516f885ed9a9696ca4c9812cc34814189d661ec386") true
    tariffFares_holds (fun _ h => by cases h) (by kernel_rfl) (fun _ h => by cases h) tariffFares_row_tie rfl ⟨rfl, rfl⟩ (by kernel_rfl) rfl
    (fun f fn hf hfn => by
      obtain rfl : f = 7 := Option.some.inj ((show Tryz.prog.funcNamed "fiacre/fiacrelaw01.TariffFares" = some 7 by kernel_rfl).symm.trans hf) |>.symm
      obtain rfl : fn = Tryz.f7 := (Option.some.inj (func7.symm.trans hfn)).symm
      exact ⟨by kernel_rfl, fun j t ht => by
        rw [params7] at ht
        have hm : t ∈ [28, 63] := by simpa using Array.mem_of_getElem? ht
        have hall : ([28, 63].all fun u => !Tryz.prog.wantsStandIn u) = true := by kernel_rfl
        exact (show Tryz.prog.wantsStandIn t = false by simpa using List.all_eq_true.1 hall t hm)⟩)
    (by kernel_rfl)
#print axioms tariffFares_card
end Go.Proofs.YtgegfljeglphlaaGreatDoor
