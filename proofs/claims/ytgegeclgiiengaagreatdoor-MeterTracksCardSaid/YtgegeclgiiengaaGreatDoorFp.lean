/-
  MeterTracks returns true whatever its three arguments are, and its arguments read behind the call as they did before: at every input, where the nine package-level variables that the row lists hold what the row lays (the tied card).
-/
import Derived.Test.YtgegeclgiiengaaGreatDoorFo
import Derived.SevenTiedAt

/-
  MeterTracks: the row and the tied card.
-/
namespace Go.Proofs.YtgegeclgiiengaaGreatDoor
open Go Go.Proofs Go.Fx

theorem meterTracks_holds : Rows.MeterTracksSaid :=
  OpenClaim.holds_of_wide 7 Tryz.f7 rfl rfl rfl rfl rfl rfl rfl ⟨rfl, rfl, rfl, rfl, rfl⟩ rfl rfl rfl rfl rfl (by kernel_rfl) func7 (by kernel_rfl)
    (of_decide_eq_true (by kernel_rfl)) (by unfold Func.isWrapper; first | (rw [if_pos (by decide +kernel)]; kernel_rfl) | (rw [if_neg (by decide +kernel)]; exact ⟨rfl, rfl⟩))
    (fun os started H enc _ => tracks_lifted os started H enc)

theorem meterTracks_card : Rows.MeterTracksCardSaid :=
  Claim7.holds_tied_plain_at .later [] [.data, .data, .data, .data, .sentinel, .sentinel, .widerDeep, .data, .pinned] true (true, "0b33c2fb51e57563363a1cdaf555e9b725e775456060360aa6928afda8dbbfd7") true
    meterTracks_holds (fun _ h => by cases h) (by kernel_rfl) (fun _ h => by cases h) meterTracks_row_tie rfl ⟨rfl, rfl⟩ (by kernel_rfl) rfl
    (fun f fn hf hfn => by
      obtain rfl : f = 7 := Option.some.inj ((show Tryz.prog.funcNamed "fiacre/fiacrelaw02.MeterTracks" = some 7 by kernel_rfl).symm.trans hf) |>.symm
      obtain rfl : fn = Tryz.f7 := (Option.some.inj (func7.symm.trans hfn)).symm
      exact ⟨by kernel_rfl, fun j t ht => by
        rw [params7] at ht
        have hm : t ∈ [3, 3, 34] := by simpa using Array.mem_of_getElem? ht
        have hall : ([3, 3, 34].all fun u => !Tryz.prog.wantsStandIn u) = true := by kernel_rfl
        exact (show Tryz.prog.wantsStandIn t = false by simpa using List.all_eq_true.1 hall t hm)⟩)
    (by kernel_rfl)
#print axioms meterTracks_card
end Go.Proofs.YtgegeclgiiengaaGreatDoor
