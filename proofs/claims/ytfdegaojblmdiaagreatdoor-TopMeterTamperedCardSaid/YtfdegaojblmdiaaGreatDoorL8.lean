/-
 TopMeterTampered returns true whatever its three arguments are, and its arguments read behind the call as they did before: at every input, where the two package-level variables that the row lists hold what the row lays (the tied card).
-/
import Derived.Test.YtfdegaojblmdiaaGreatDoorGz
import Derived.Test.YtfdegaojblmdiaaGreatDoorGk
import Derived.Test.YtfdegaojblmdiaaGreatDoorGj
import Derived.Test.YtfdegaojblmdiaaGreatDoorGo
import Derived.SevenTiedAt
set_option linter.all false
namespace Go.Fx
open Go.Proofs Go.Proofs.YtfdegaojblmdiaaGreatDoor Go.ChangeShapes Go.WideShapes Go.RowKit
theorem params10 : Tryz.f10.params = #[28, 33, 87] := by kernel_rfl
theorem func10 : Tryz.checked.prog.funcs[10]? = some Tryz.f10 := by kernel_rfl
theorem topMeterTampered_contract {W : World} (hX : (Xc W Gt).Good) {H : Type} (d0 d1 d2 : DataW H) : Pure (Xc W Gt) 10 (argsAV Tt 6 [28, 33, 87] [d0, d1, d2]) (.bool true) :=
 (c10 hX (metered_ok hX) (trfOf d0) (logOf d1) (dI (dN d2 0)) (dI (dN d2 1)) (dI (dN d2 2))).args ⟨trf_arg d0, log_arg d1, .ofEq (triple_arg d2), trivial⟩
set_option maxRecDepth 100000 in
theorem topMeterTampered_lifted (os : Os) (started : os.Started) (H : Type) (enc : TypeId × Value -> H) :
  ReturnsInHanded {} Tryz.checked os 10 .any (fun w args => (Rows.topMeterTamperedSpec.pre enc Tryz.prog Tryz.f10 [] false w args /\ laidMetH Tryz.prog Rows.topMeterTamperedRow.laid w) /\ sizedMet enc Tryz.prog Tryz.f10 (OpenSpec.ofChange Rows.topMeterTamperedSpec) false w args)
   (Rows.topMeterTamperedSpec.post enc Tryz.prog Tryz.f10 false true false false) :=
 law_returns (C := Tryz.checked) (X := fun w _ => laidMetH Tryz.prog Rows.topMeterTamperedRow.laid w) (fun _ _ _ hh h => h.of_heap hh) own started (by kernel_rfl) func10
  (ChangeSpec.witness_shaped (enc := enc) (C := Tryz.checked) (os := os) (X := fun w _ => laidMetH Tryz.prog Rows.topMeterTamperedRow.laid w) false (World.laidAll Tryz.prog os Rows.topMeterTamperedRow.laid) #[.agg #[.string ⟨#[]⟩, .int .i64 0, .int .i64 0, .slice none 0 0, .slice none 0 0, .slice none 0 0, .slice none 0 0, .slice none 0 0], .agg #[.int .i64 0, .int .i64 0, .int .i64 0, .slice none 0 0], .agg #[.int .i64 0, .int .i64 0, .int .i64 0]] 8 (World.laidAll_os _ _ _)
   (World.shaped_of_ZipB (by kernel_rfl) (by kernel_rfl)) (by kernel_rfl) (by kernel_rfl) (by kernel_rfl) (laid_met0 os _))
  laidOut (by
   have h : (Tryz.f10.params.toList.all fun t => Tryz.prog.readableRec t && Nat.blt t Tryz.prog.types.size) = true := by kernel_rfl
   intro t ht
   have := List.all_eq_true.1 h t ht
   simp only [Bool.and_eq_true, Nat.blt_eq] at this
   exact this) (show Tryz.f10.resultTypes = #[4] by kernel_rfl) bool4 rfl
  (fun ds hd => by
   match ds, hd with
   | [d0, d1, d2], _ => rfl)
  (fun W base args ds ps hval hA _ hx hs => law_calls0 (F := 6) (ts := [28, 33, 87]) (by kernel_rfl) (by kernel_rfl) W base args ds ps (fun st ds hd => by
   match ds, hd with
   | [d0, d1, d2], _ => exact topMeterTampered_contract st d0 d1 d2) hval hA hx hs)
end Go.Fx
namespace Go.Proofs.YtfdegaojblmdiaaGreatDoor
open Go Go.Proofs Go.Fx
theorem topMeterTampered_f1 : (Rows.topMeterTamperedRow.inPlace == Tryz.prog.inPlace 10) = true := by kernel_rfl
theorem topMeterTampered_f2 : (Rows.topMeterTamperedRow.unfollowed == Tryz.prog.unfollowed 10) = true := by kernel_rfl
theorem topMeterTampered_f3 : (Rows.topMeterTamperedRow.recurses == Tryz.prog.recurses 10) = true := by kernel_rfl
theorem topMeterTampered_f4 : (Rows.topMeterTamperedRow.named == Tryz.prog.varsNamed 10) = true := by kernel_rfl
theorem topMeterTampered_closed : joinedFacts Tryz.prog 10 Tryz.f10 Rows.topMeterTamperedSpec Rows.topMeterTamperedRow = true := by
 unfold joinedFacts
 simp only [Bool.and_eq_true]
 repeat' (with_reducible apply And.intro)
 all_goals first
  | with_reducible exact topMeterTampered_f1
  | with_reducible exact topMeterTampered_f2
  | with_reducible exact topMeterTampered_f3
  | with_reducible exact topMeterTampered_f4
  | kernel_rfl
theorem topMeterTampered_wrap : Tryz.f10.isWrapper Tryz.prog Rows.topMeterTamperedRow.wrapper Rows.topMeterTamperedRow.mainSum := by unfold Func.isWrapper; first | (rw [if_pos (by decide +kernel)]; kernel_rfl) | (rw [if_neg (by decide +kernel)]; exact ⟨rfl, rfl⟩)
theorem topMeterTampered_holds : Rows.TopMeterTamperedSaid :=
 OpenClaim.holds_of_wide 10 Tryz.f10 rfl rfl rfl rfl rfl rfl rfl ⟨rfl, rfl, rfl, rfl, rfl⟩ rfl rfl rfl rfl rfl (by kernel_rfl) func10 topMeterTampered_closed
  (of_decide_eq_true (by kernel_rfl)) topMeterTampered_wrap
  (fun os started H enc _ => topMeterTampered_lifted os started H enc)
theorem topMeterTampered_card : Rows.TopMeterTamperedCardSaid :=
 Claim7.holds_tied_plain_at .later [] [.widerDeep, .data] true (true, "053c707958f8f6d0a278dcb7c1e4b71ef29e98e650e46a6897f571e09eecf087") true
  topMeterTampered_holds (fun _ h => by cases h) (by kernel_rfl) (fun _ h => by cases h) topMeterTampered_row_tie rfl ⟨rfl, rfl⟩ (by kernel_rfl) rfl
  (fun f fn hf hfn => by
   obtain rfl : f = 10 := Option.some.inj ((show Tryz.prog.funcNamed "fiacre/fiacretop.TopMeterTampered" = some 10 by kernel_rfl).symm.trans hf) |>.symm
   obtain rfl : fn = Tryz.f10 := (Option.some.inj (func10.symm.trans hfn)).symm
   exact ⟨by kernel_rfl, fun j t ht => by
    rw [params10] at ht
    have hm : t ∈ [28, 33, 87] := by simpa using Array.mem_of_getElem? ht
    have hall : ([28, 33, 87].all fun u => !Tryz.prog.wantsStandIn u) = true := by kernel_rfl
    exact (show Tryz.prog.wantsStandIn t = false by simpa using List.all_eq_true.1 hall t hm)⟩)
  (by kernel_rfl)
#print axioms topMeterTampered_card
end Go.Proofs.YtfdegaojblmdiaaGreatDoor
