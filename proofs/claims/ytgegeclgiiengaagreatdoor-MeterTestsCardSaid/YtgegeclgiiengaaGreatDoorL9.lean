/-
  MeterTests returns true whatever its two arguments are, and its arguments read behind the call as they did before: at every input, where the nine package-level variables that the row lists hold what the row lays (the tied card).
-/
import Derived.Test.YtgegeclgiiengaaGreatDoorFm
import Derived.Test.YtgegeclgiiengaaGreatDoorFl
import Derived.Test.YtgegeclgiiengaaGreatDoorFo
import Derived.SevenTiedAt

set_option linter.all false

namespace Go.Fx
open Go.Proofs Go.Proofs.YtgegeclgiiengaaGreatDoor Go.ChangeShapes Go.WideShapes Go.RowKit

theorem params9 : Tryz.f9.params = #[3, 90] := by kernel_rfl
theorem func9 : Tryz.checked.prog.funcs[9]? = some Tryz.f9 := by kernel_rfl

theorem meterTests_contract {W : World} (st : Stand W) {H : Type} (d0 d1 : DataW H) : Pure (Xc W Gt) 9 (argsAV Tt 6 [3, 90] [d0, d1]) (.bool true) :=
  (show argsAV Tt 6 [3, 90] [d0, d1] = [.int .i64 (dI d0), tstA (dI (dN (dN d1 0) 0)) (dI (dN (dN d1 0) 1)) (dI (dN d1 1)) (dI (dN d1 2))] by kernel_rfl) ▸ c9 st.good (awake_ok st) _ _ _ _ _

set_option maxRecDepth 100000 in
theorem meterTests_lifted (os : Os) (started : os.Started) (H : Type) (enc : TypeId × Value → H) :
    ReturnsInHanded {} Tryz.checked os 9 .any (fun w args => (Rows.meterTestsSpec.pre enc Tryz.prog Tryz.f9 [] false w args ∧ laidMetH Tryz.prog Rows.meterTestsRow.laid w) ∧ sizedMet enc Tryz.prog Tryz.f9 (OpenSpec.ofChange Rows.meterTestsSpec) false w args)
      (Rows.meterTestsSpec.post enc Tryz.prog Tryz.f9 false true false false) :=
  law_returns (C := Tryz.checked) (X := fun w _ => laidMetH Tryz.prog Rows.meterTestsRow.laid w) (fun _ _ _ hh h => h.of_heap hh) own started (by kernel_rfl) func9
    (ChangeSpec.witness_shaped (enc := enc) (C := Tryz.checked) (os := os) (X := fun w _ => laidMetH Tryz.prog Rows.meterTestsRow.laid w) false (World.laidAll Tryz.prog os Rows.meterTestsRow.laid) #[.int .i64 0, .agg #[.int .i64 0, .int .i64 0, .int .i64 0, .int .i64 0]] 8 (World.laidAll_os _ _ _)
      (World.shaped_of_ZipB (by kernel_rfl) (by kernel_rfl)) (by kernel_rfl) (by kernel_rfl) (by kernel_rfl) (laid_met os _))
    laidOut (by
      have h : (Tryz.f9.params.toList.all fun t => Tryz.prog.readableRec t && Nat.blt t Tryz.prog.types.size) = true := by kernel_rfl
      intro t ht
      have := List.all_eq_true.1 h t ht
      simp only [Bool.and_eq_true, Nat.blt_eq] at this
      exact this) (show Tryz.f9.resultTypes = #[4] by kernel_rfl) bool4 rfl
    (fun ds hd => by
      match ds, hd with
      | [d0, d1], _ => rfl)
    (fun W base args ds ps hval hA _ hx hs => law_calls (F := 6) (ts := [3, 90]) (by kernel_rfl) (by kernel_rfl) W base args ds ps (fun st ds hd => by
      match ds, hd with
      | [d0, d1], _ => exact meterTests_contract st d0 d1) hval hA hx hs)
end Go.Fx

namespace Go.Proofs.YtgegeclgiiengaaGreatDoor
open Go Go.Proofs Go.Fx

theorem meterTests_holds : Rows.MeterTestsSaid :=
  OpenClaim.holds_of_wide 9 Tryz.f9 rfl rfl rfl rfl rfl rfl rfl ⟨rfl, rfl, rfl, rfl, rfl⟩ rfl rfl rfl rfl rfl (by kernel_rfl) func9 (by kernel_rfl)
    (of_decide_eq_true (by kernel_rfl)) (by unfold Func.isWrapper; first | (rw [if_pos (by decide +kernel)]; kernel_rfl) | (rw [if_neg (by decide +kernel)]; exact ⟨rfl, rfl⟩))
    (fun os started H enc _ => meterTests_lifted os started H enc)

theorem meterTests_card : Rows.MeterTestsCardSaid :=
  Claim7.holds_tied_plain_at .later [] [.data, .data, .data, .data, .sentinel, .sentinel, .widerDeep, .data, .pinned] true (true, "0b33c2fb51e57563363a1cdaf555e9b725e775456060360aa6928afda8dbbfd7") true
    meterTests_holds (fun _ h => by cases h) (by kernel_rfl) (fun _ h => by cases h) meterTests_row_tie rfl ⟨rfl, rfl⟩ (by kernel_rfl) rfl
    (fun f fn hf hfn => by
      obtain rfl : f = 9 := Option.some.inj ((show Tryz.prog.funcNamed "fiacre/fiacrelaw02.MeterTests" = some 9 by kernel_rfl).symm.trans hf) |>.symm
      obtain rfl : fn = Tryz.f9 := (Option.some.inj (func9.symm.trans hfn)).symm
      exact ⟨by kernel_rfl, fun j t ht => by
        rw [params9] at ht
        have hm : t ∈ [3, 90] := by simpa using Array.mem_of_getElem? ht
        have hall : ([3, 90].all fun u => !Tryz.prog.wantsStandIn u) = true := by kernel_rfl
        exact (show Tryz.prog.wantsStandIn t = false by simpa using List.all_eq_true.1 hall t hm)⟩)
    (by kernel_rfl)
#print axioms meterTests_card
end Go.Proofs.YtgegeclgiiengaaGreatDoor
