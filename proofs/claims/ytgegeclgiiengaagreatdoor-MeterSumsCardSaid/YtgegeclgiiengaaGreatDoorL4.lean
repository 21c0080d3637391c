/-
  MeterSums returns true whatever its two arguments are, and its arguments read behind the call as they did before: at every input, where the nine package-level variables that the row lists hold what the row lays (the tied card).
-/
import Derived.Test.YtgegeclgiiengaaGreatDoorFq
import Derived.Test.YtgegeclgiiengaaGreatDoorFr
import Derived.Test.YtgegeclgiiengaaGreatDoorFl
import Derived.Test.YtgegeclgiiengaaGreatDoorFo
import Derived.SevenTiedAt

set_option linter.all false

namespace Go.Fx
open Go.Proofs Go.Proofs.YtgegeclgiiengaaGreatDoor Go.ChangeShapes Go.WideShapes Go.RowKit

theorem params4 : Tryz.f4.params = #[33, 3] := by kernel_rfl
theorem func4 : Tryz.checked.prog.funcs[4]? = some Tryz.f4 := by kernel_rfl

theorem meterSums_contract {W : World} (st : Stand W) {H : Type} (d0 d1 : DataW H) : Pure (Xc W Gt) 4 (argsAV Tt 6 [33, 3] [d0, d1]) (.bool true) :=
  (c4 st.good (awake_ok st) (logOf d0) (dI d1)).args ⟨log_arg d0, (show argAV Tt 6 3 d1 = .int .i64 (dI d1) by kernel_rfl) ▸ .refl _, trivial⟩

set_option maxRecDepth 100000 in
theorem meterSums_lifted (os : Os) (started : os.Started) (H : Type) (enc : TypeId × Value → H) :
    ReturnsInHanded {} Tryz.checked os 4 .any (fun w args => (Rows.meterSumsSpec.pre enc Tryz.prog Tryz.f4 [] false w args ∧ laidMetH Tryz.prog Rows.meterSumsRow.laid w) ∧ sizedMet enc Tryz.prog Tryz.f4 (OpenSpec.ofChange Rows.meterSumsSpec) false w args)
      (Rows.meterSumsSpec.post enc Tryz.prog Tryz.f4 false true false false) :=
  law_returns (C := Tryz.checked) (X := fun w _ => laidMetH Tryz.prog Rows.meterSumsRow.laid w) (fun _ _ _ hh h => h.of_heap hh) own started (by kernel_rfl) func4
    (ChangeSpec.witness_shaped (enc := enc) (C := Tryz.checked) (os := os) (X := fun w _ => laidMetH Tryz.prog Rows.meterSumsRow.laid w) false (World.laidAll Tryz.prog os Rows.meterSumsRow.laid) #[.agg #[.int .i64 0, .int .i64 0, .int .i64 0, .slice none 0 0], .int .i64 0] 8 (World.laidAll_os _ _ _)
      (World.shaped_of_ZipB (by kernel_rfl) (by kernel_rfl)) (by kernel_rfl) (by kernel_rfl) (by kernel_rfl) (laid_met os _))
    laidOut (by
      have h : (Tryz.f4.params.toList.all fun t => Tryz.prog.readableRec t && Nat.blt t Tryz.prog.types.size) = true := by kernel_rfl
      intro t ht
      have := List.all_eq_true.1 h t ht
      simp only [Bool.and_eq_true, Nat.blt_eq] at this
      exact this) (show Tryz.f4.resultTypes = #[4] by kernel_rfl) bool4 rfl
    (fun ds hd => by
      match ds, hd with
      | [d0, d1], _ => rfl)
    (fun W base args ds ps hval hA _ hx hs => law_calls (F := 6) (ts := [33, 3]) (by kernel_rfl) (by kernel_rfl) W base args ds ps (fun st ds hd => by
      match ds, hd with
      | [d0, d1], _ => exact meterSums_contract st d0 d1) hval hA hx hs)
end Go.Fx

namespace Go.Proofs.YtgegeclgiiengaaGreatDoor
open Go Go.Proofs Go.Fx

theorem meterSums_holds : Rows.MeterSumsSaid :=
  OpenClaim.holds_of_wide 4 Tryz.f4 rfl rfl rfl rfl rfl rfl rfl ⟨rfl, rfl, rfl, rfl, rfl⟩ rfl rfl rfl rfl rfl (by kernel_rfl) func4 (by kernel_rfl)
    (of_decide_eq_true (by kernel_rfl)) (by unfold Func.isWrapper; first | (rw [if_pos (by decide +kernel)]; kernel_rfl) | (rw [if_neg (by decide +kernel)]; exact ⟨rfl, rfl⟩))
    (fun os started H enc _ => meterSums_lifted os started H enc)

theorem meterSums_card : Rows.MeterSumsCardSaid :=
  Claim7.holds_tied_plain_at .later [] [.data, .data, .data, .data, .sentinel, .sentinel, .widerDeep, .data, .pinned] true (true, "0b33c2fb51e57563363a1cdaf555e9b725e775456060360aa6928afda8dbbfd7") true
    meterSums_holds (fun _ h => by cases h) (by kernel_rfl) (fun _ h => by cases h) meterSums_row_tie rfl ⟨rfl, rfl⟩ (by kernel_rfl) rfl
    (fun f fn hf hfn => by
      obtain rfl : f = 4 := Option.some.inj ((show Tryz.prog.funcNamed "fiacre/fiacrelaw02.MeterSums" = some 4 by kernel_rfl).symm.trans hf) |>.symm
      obtain rfl : fn = Tryz.f4 := (Option.some.inj (func4.symm.trans hfn)).symm
      exact ⟨by kernel_rfl, fun j t ht => by
        rw [params4] at ht
        have hm : t ∈ [33, 3] := by simpa using Array.mem_of_getElem? ht
        have hall : ([33, 3].all fun u => !Tryz.prog.wantsStandIn u) = true := by kernel_rfl
        exact (show Tryz.prog.wantsStandIn t = false by simpa using List.all_eq_true.1 hall t hm)⟩)
    (by kernel_rfl)
#print axioms meterSums_card
end Go.Proofs.YtgegeclgiiengaaGreatDoor
