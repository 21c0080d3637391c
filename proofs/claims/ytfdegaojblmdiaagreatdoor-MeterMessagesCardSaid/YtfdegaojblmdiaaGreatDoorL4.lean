/-
  MeterMessages returns true whatever its three arguments are, and its arguments read behind the call as they did before: at every input, where the nine package-level variables that the row lists hold what the row lays (the tied card).
-/
import Derived.Test.YtfdegaojblmdiaaGreatDoorGz
import Derived.Test.YtfdegaojblmdiaaGreatDoorGk
import Derived.Test.YtfdegaojblmdiaaGreatDoorGl
import Derived.Test.YtfdegaojblmdiaaGreatDoorGo
import Derived.SevenTiedAt

set_option linter.all false

namespace Go.Fx
open Go.Proofs Go.Proofs.YtfdegaojblmdiaaGreatDoor Go.ChangeShapes Go.WideShapes Go.RowKit

theorem params6 : Tryz.f6.params = #[33, 3, 3] := by kernel_rfl
theorem func6 : Tryz.checked.prog.funcs[6]? = some Tryz.f6 := by kernel_rfl

theorem meterMessages_contract {W : World} (st : Stand W) {H : Type} (d0 d1 d2 : DataW H) : Pure (Xc W Gt) 6 (argsAV Tt 6 [33, 3, 3] [d0, d1, d2]) (.bool true) :=
  (c6 st.good (awake_ok st) (logOf d0) (dI d1) (dI d2)).args ⟨log_arg d0, .ofEq (int_arg d1), .ofEq (int_arg d2), trivial⟩

set_option maxRecDepth 100000 in
theorem meterMessages_lifted (os : Os) (started : os.Started) (H : Type) (enc : TypeId × Value → H) :
    ReturnsInHanded {} Tryz.checked os 6 .any (fun w args => (Rows.meterMessagesSpec.pre enc Tryz.prog Tryz.f6 [] false w args ∧ laidMetH Tryz.prog Rows.meterMessagesRow.laid w) ∧ sizedMet enc Tryz.prog Tryz.f6 (OpenSpec.ofChange Rows.meterMessagesSpec) false w args)
      (Rows.meterMessagesSpec.post enc Tryz.prog Tryz.f6 false true false false) :=
  law_returns (C := Tryz.checked) (X := fun w _ => laidMetH Tryz.prog Rows.meterMessagesRow.laid w) (fun _ _ _ hh h => h.of_heap hh) own started (by kernel_rfl) func6
    (ChangeSpec.witness_shaped (enc := enc) (C := Tryz.checked) (os := os) (X := fun w _ => laidMetH Tryz.prog Rows.meterMessagesRow.laid w) false (World.laidAll Tryz.prog os Rows.meterMessagesRow.laid) #[.agg #[.int .i64 0, .int .i64 0, .int .i64 0, .slice none 0 0], .int .i64 0, .int .i64 0] 8 (World.laidAll_os _ _ _)
      (World.shaped_of_ZipB (by kernel_rfl) (by kernel_rfl)) (by kernel_rfl) (by kernel_rfl) (by kernel_rfl) (laid_met os _))
    laidOut (by
      have h : (Tryz.f6.params.toList.all fun t => Tryz.prog.readableRec t && Nat.blt t Tryz.prog.types.size) = true := by kernel_rfl
      intro t ht
      have := List.all_eq_true.1 h t ht
      simp only [Bool.and_eq_true, Nat.blt_eq] at this
      exact this) (show Tryz.f6.resultTypes = #[4] by kernel_rfl) bool4 rfl
    (fun ds hd => by
      match ds, hd with
      | [d0, d1, d2], _ => rfl)
    (fun W base args ds ps hval hA _ hx hs => law_calls (F := 6) (ts := [33, 3, 3]) (by kernel_rfl) (by kernel_rfl) W base args ds ps (fun st ds hd => by
      match ds, hd with
      | [d0, d1, d2], _ => exact meterMessages_contract st d0 d1 d2) hval hA hx hs)
end Go.Fx

namespace Go.Proofs.YtfdegaojblmdiaaGreatDoor
open Go Go.Proofs Go.Fx

theorem meterMessages_f1 : (Rows.meterMessagesRow.inPlace == Tryz.prog.inPlace 6) = true := by kernel_rfl
theorem meterMessages_f2 : (Rows.meterMessagesRow.unfollowed == Tryz.prog.unfollowed 6) = true := by kernel_rfl
theorem meterMessages_f3 : (Rows.meterMessagesRow.recurses == Tryz.prog.recurses 6) = true := by kernel_rfl
theorem meterMessages_f4 : (Rows.meterMessagesRow.named == Tryz.prog.varsNamed 6) = true := by kernel_rfl
theorem meterMessages_closed : joinedFacts Tryz.prog 6 Tryz.f6 Rows.meterMessagesSpec Rows.meterMessagesRow = true := by
  unfold joinedFacts
  simp only [Bool.and_eq_true]
  repeat' (with_reducible apply And.intro)
  all_goals first
    | with_reducible exact meterMessages_f1
    | with_reducible exact meterMessages_f2
    | with_reducible exact meterMessages_f3
    | with_reducible exact meterMessages_f4
    | kernel_rfl
theorem meterMessages_wrap : Tryz.f6.isWrapper Tryz.prog Rows.meterMessagesRow.wrapper Rows.meterMessagesRow.mainSum := by unfold Func.isWrapper; first | (rw [if_pos (by decide +kernel)]; kernel_rfl) | (rw [if_neg (by decide +kernel)]; exact ⟨rfl, rfl⟩)

theorem meterMessages_holds : Rows.MeterMessagesSaid :=
  OpenClaim.holds_of_wide 6 Tryz.f6 rfl rfl rfl rfl rfl rfl rfl ⟨rfl, rfl, rfl, rfl, rfl⟩ rfl rfl rfl rfl rfl (by kernel_rfl) func6 meterMessages_closed
    (of_decide_eq_true (by kernel_rfl)) meterMessages_wrap
    (fun os started H enc _ => meterMessages_lifted os started H enc)

theorem meterMessages_card : Rows.MeterMessagesCardSaid :=
  Claim7.holds_tied_plain_at .later [] [.data, .data, .data, .data, .sentinel, .sentinel, .widerDeep, .data, .pinned] true (true, "053c707958f8f6d0a278dcb7c1e4b71ef29e98e650e46a6897f571e09eecf087") true
    meterMessages_holds (fun _ h => by cases h) (by kernel_rfl) (fun _ h => by cases h) meterMessages_row_tie rfl ⟨rfl, rfl⟩ (by kernel_rfl) rfl
    (fun f fn hf hfn => by
      obtain rfl : f = 6 := Option.some.inj ((show Tryz.prog.funcNamed "fiacre/fiacrelaw02.MeterMessages" = some 6 by kernel_rfl).symm.trans hf) |>.symm
      obtain rfl : fn = Tryz.f6 := (Option.some.inj (func6.symm.trans hfn)).symm
      exact ⟨by kernel_rfl, fun j t ht => by
        rw [params6] at ht
        have hm : t ∈ [33, 3, 3] := by simpa using Array.mem_of_getElem? ht
        have hall : ([33, 3, 3].all fun u => !Tryz.prog.wantsStandIn u) = true := by kernel_rfl
        exact (show Tryz.prog.wantsStandIn t = false by simpa using List.all_eq_true.1 hall t hm)⟩)
    (by kernel_rfl)
#print axioms meterMessages_card
end Go.Proofs.YtfdegaojblmdiaaGreatDoor
