/-
 MeterFound returns true whatever its three arguments are, and its arguments read behind the call as they did before: at every input, where the nine package-level variables that the row lists hold what the row lays (the tied card).
-/
import Derived.Test.YtfdegaojblmdiaaGreatDoorGz
import Derived.Test.YtfdegaojblmdiaaGreatDoorGk
import Derived.Test.YtfdegaojblmdiaaGreatDoorGo
import Derived.SevenTiedAt
set_option linter.all false
namespace Go.Fx
open Go.Proofs Go.Proofs.YtfdegaojblmdiaaGreatDoor Go.ChangeShapes Go.WideShapes Go.RowKit
theorem params4 : Tryz.f4.params = #[28, 33, 34] := by kernel_rfl
theorem func4 : Tryz.checked.prog.funcs[4]? = some Tryz.f4 := by kernel_rfl
theorem meterFound_contract {W : World} (st : Stand W) {H : Type} (d0 d1 d2 : DataW H) : Pure (Xc W Gt) 4 (argsAV Tt 6 [28, 33, 34] [d0, d1, d2]) (.bool true) :=
 (c4 st.good (awake_ok st) (trfOf d0) (logOf d1) (pairOf d2).1 (pairOf d2).2).args ⟨trf_arg d0, log_arg d1, .ofEq (pair_arg d2), trivial⟩
set_option maxRecDepth 100000 in
theorem meterFound_lifted (os : Os) (started : os.Started) (H : Type) (enc : TypeId × Value -> H) :
  ReturnsInHanded {} Tryz.checked os 4 .any (fun w args => (Rows.meterFoundSpec.pre enc Tryz.prog Tryz.f4 [] false w args /\ laidMetH Tryz.prog Rows.meterFoundRow.laid w) /\ sizedMet enc Tryz.prog Tryz.f4 (OpenSpec.ofChange Rows.meterFoundSpec) false w args)
   (Rows.meterFoundSpec.post enc Tryz.prog Tryz.f4 false true false false) :=
 law_returns (C := Tryz.checked) (X := fun w _ => laidMetH Tryz.prog Rows.meterFoundRow.laid w) (fun _ _ _ hh h => h.of_heap hh) own started (by kernel_rfl) func4
  (ChangeSpec.witness_shaped (enc := enc) (C := Tryz.checked) (os := os) (X := fun w _ => laidMetH Tryz.prog Rows.meterFoundRow.laid w) false (World.laidAll Tryz.prog os Rows.meterFoundRow.laid) #[.agg #[.string ⟨#[]⟩, .int .i64 0, .int .i64 0, .slice none 0 0, .slice none 0 0, .slice none 0 0, .slice none 0 0, .slice none 0 0], .agg #[.int .i64 0, .int .i64 0, .int .i64 0, .slice none 0 0], .agg #[.int .i64 0, .int .i64 0]] 8 (World.laidAll_os _ _ _)
   (World.shaped_of_ZipB (by kernel_rfl) (by kernel_rfl)) (by kernel_rfl) (by kernel_rfl) (by kernel_rfl) (laid_met os _))
  laidOut (by
   have h : (Tryz.f4.params.toList.all fun t => Tryz.prog.readableRec t && Nat.blt t Tryz.prog.types.size) = true := by kernel_rfl
   intro t ht
   have := List.all_eq_true.1 h t ht
   simp only [Bool.and_eq_true, Nat.blt_eq] at this
   exact this) (show Tryz.f4.resultTypes = #[4] by kernel_rfl) bool4 rfl
  (fun ds hd => by
   match ds, hd with
   | [d0, d1, d2], _ => rfl)
  (fun W base args ds ps hval hA _ hx hs => law_calls (F := 6) (ts := [28, 33, 34]) (by kernel_rfl) (by kernel_rfl) W base args ds ps (fun st ds hd => by
   match ds, hd with
   | [d0, d1, d2], _ => exact meterFound_contract st d0 d1 d2) hval hA hx hs)
end Go.Fx
namespace Go.Proofs.YtfdegaojblmdiaaGreatDoor
open Go Go.Proofs Go.Fx
theorem meterFound_f1 : (Rows.meterFoundRow.inPlace == Tryz.prog.inPlace 4) = true := by kernel_rfl
theorem meterFound_f2 : (Rows.meterFoundRow.unfollowed == Tryz.prog.unfollowed 4) = true := by kernel_rfl
theorem meterFound_f3 : (Rows.meterFoundRow.recurses == Tryz.prog.recurses 4) = true := by kernel_rfl
theorem meterFound_f4 : (Rows.meterFoundRow.named == Tryz.prog.varsNamed 4) = true := by kernel_rfl
theorem meterFound_closed : joinedFacts Tryz.prog 4 Tryz.f4 Rows.meterFoundSpec Rows.meterFoundRow = true := by
 unfold joinedFacts
 simp only [Bool.and_eq_true]
 repeat' (with_reducible apply And.intro)
 all_goals first
  | with_reducible exact meterFound_f1
  | with_reducible exact meterFound_f2
  | with_reducible exact meterFound_f3
  | with_reducible exact meterFound_f4
  | kernel_rfl
theorem meterFound_wrap : Tryz.f4.isWrapper Tryz.prog Rows.meterFoundRow.wrapper Rows.meterFoundRow.mainSum := by unfold Func.isWrapper; first | (rw [if_pos (by decide +kernel)]; kernel_rfl) | (rw [if_neg (by decide +kernel)]; exact ⟨rfl, rfl⟩)
theorem meterFound_holds : Rows.MeterFoundSaid :=
 OpenClaim.holds_of_wide 4 Tryz.f4 rfl rfl rfl rfl rfl rfl rfl ⟨rfl, rfl, rfl, rfl, rfl⟩ rfl rfl rfl rfl rfl (by kernel_rfl) func4 meterFound_closed
  (of_decide_eq_true (by kernel_rfl)) meterFound_wrap
  (fun os started H enc _ => meterFound_lifted os started H enc)
theorem meterFound_card : Rows.MeterFoundCardSaid :=
 Claim7.holds_tied_plain_at .later [] [.data, .data, .data, .data, .sentinel, .sentinel, .widerDeep, .data, .pinned] true (true, "053c707958f8f6d0a278dcb7c1e4b71ef29e98e650e46a6897f571e09eecf087") true
  meterFound_holds (fun _ h => by cases h) (by kernel_rfl) (fun _ h => by cases h) meterFound_row_tie rfl ⟨rfl, rfl⟩ (by kernel_rfl) rfl
  (fun f fn hf hfn => by
   obtain rfl : f = 4 := Option.some.inj ((show Tryz.prog.funcNamed "fiacre/fiacrelaw02.MeterFound" = some 4 by kernel_rfl).symm.trans hf) |>.symm
   obtain rfl : fn = Tryz.f4 := (Option.some.inj (func4.symm.trans hfn)).symm
   exact ⟨by kernel_rfl, fun j t ht => by
    rw [params4] at ht
    have hm : t ∈ [28, 33, 34] := by simpa using Array.mem_of_getElem? ht
    have hall : ([28, 33, 34].all fun u => !Tryz.prog.wantsStandIn u) = true := by kernel_rfl
    exact (show Tryz.prog.wantsStandIn t = false by simpa using List.all_eq_true.1 hall t hm)⟩)
  (by kernel_rfl)
#print axioms meterFound_card
end Go.Proofs.YtfdegaojblmdiaaGreatDoor
