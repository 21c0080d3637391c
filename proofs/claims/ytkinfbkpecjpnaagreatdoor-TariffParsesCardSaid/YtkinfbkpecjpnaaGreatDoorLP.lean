/-
  TariffParses returns true whatever its argument is, and its argument reads behind the call as it did before: at every input, where the seven package-level variables that the row lists hold what the row lays (the tied card).
-/
import Derived.Test.YtkinfbkpecjpnaaGreatDoorHi
import Derived.Test.YtkinfbkpecjpnaaGreatDoorGv
import Derived.Test.YtkinfbkpecjpnaaGreatDoorGl
import Derived.Test.YtkinfbkpecjpnaaGreatDoorGo
import Derived.SevenTiedAt

set_option linter.all false

namespace Go.Fx
open Go.Proofs Go.Proofs.YtkinfbkpecjpnaaGreatDoor Go.ChangeShapes Go.WideShapes Go.RowKit

theorem params4 : Tryz.f4.params = #[9] := by kernel_rfl
theorem func4 : Tryz.checked.prog.funcs[4]? = some Tryz.f4 := by kernel_rfl

theorem str_arg {H : Type} (d : DataW H) : argAV Tt 6 9 d = .str (dS d) := by kernel_rfl
theorem tariffParses_contract {W : World} (st : Stand W) {H : Type} (d0 : DataW H) : Pure (Xc W Gt) 4 (argsAV Tt 6 [9] [d0]) (.bool true) :=
  (c4 st.good st.laid (awake_ok st) (dS d0)).args ⟨str_arg d0 ▸ .refl _, trivial⟩

set_option maxRecDepth 100000 in
theorem tariffParses_lifted (os : Os) (started : os.Started) (H : Type) (enc : TypeId × Value → H) :
    ReturnsInHanded {} Tryz.checked os 4 .any (fun w args => (Rows.tariffParsesSpec.pre enc Tryz.prog Tryz.f4 [] false w args ∧ laidMetH Tryz.prog Rows.tariffParsesRow.laid w) ∧ sizedMet enc Tryz.prog Tryz.f4 (OpenSpec.ofChange Rows.tariffParsesSpec) false w args)
      (Rows.tariffParsesSpec.post enc Tryz.prog Tryz.f4 false true false false) :=
  law_returns (C := Tryz.checked) (X := fun w _ => laidMetH Tryz.prog Rows.tariffParsesRow.laid w) (fun _ _ _ hh h => h.of_heap hh) own started (by kernel_rfl) func4
    (ChangeSpec.witness_shaped (enc := enc) (C := Tryz.checked) (os := os) (X := fun w _ => laidMetH Tryz.prog Rows.tariffParsesRow.laid w) false (World.laidAll Tryz.prog os Rows.tariffParsesRow.laid) #[.string ByteArray.empty] 8 (World.laidAll_os _ _ _)
      (World.shaped_of_ZipB (by kernel_rfl) (by kernel_rfl)) (by kernel_rfl) (by kernel_rfl) (by kernel_rfl) (laid_met os _))
    laidOut (by
      have h : (Tryz.f4.params.toList.all fun t => Tryz.prog.readableRec t && Nat.blt t Tryz.prog.types.size) = true := by kernel_rfl
      intro t ht
      have := List.all_eq_true.1 h t ht
      simp only [Bool.and_eq_true, Nat.blt_eq] at this
      exact this) (show Tryz.f4.resultTypes = #[4] by kernel_rfl) bool4 rfl
    (fun ds hd => by
      match ds, hd with
      | [d0], _ => rfl)
    (fun W base args ds ps hval hA _ hx hs => law_calls (F := 6) (ts := [9]) (by kernel_rfl) (by kernel_rfl) W base args ds ps (fun st ds hd => by
      match ds, hd with
      | [d0], _ => exact tariffParses_contract st d0) hval hA hx hs)
end Go.Fx

namespace Go.Proofs.YtkinfbkpecjpnaaGreatDoor
open Go Go.Proofs Go.Fx

theorem tariffParses_f1 : (Rows.tariffParsesRow.inPlace == Tryz.prog.inPlace 4) = true := by kernel_rfl
theorem tariffParses_f2 : (Rows.tariffParsesRow.unfollowed == Tryz.prog.unfollowed 4) = true := by kernel_rfl
theorem tariffParses_f3 : (Rows.tariffParsesRow.recurses == Tryz.prog.recurses 4) = true := by kernel_rfl
theorem tariffParses_f4 : (Rows.tariffParsesRow.named == Tryz.prog.varsNamed 4) = true := by kernel_rfl
theorem tariffParses_closed : joinedFacts Tryz.prog 4 Tryz.f4 Rows.tariffParsesSpec Rows.tariffParsesRow = true := by
  unfold joinedFacts
  simp only [Bool.and_eq_true]
  repeat' (with_reducible apply And.intro)
  all_goals first
    | with_reducible exact tariffParses_f1
    | with_reducible exact tariffParses_f2
    | with_reducible exact tariffParses_f3
    | with_reducible exact tariffParses_f4
    | kernel_rfl
theorem tariffParses_wrap : Tryz.f4.isWrapper Tryz.prog Rows.tariffParsesRow.wrapper Rows.tariffParsesRow.mainSum := by unfold Func.isWrapper; first | (rw [if_pos (by decide +kernel)]; kernel_rfl) | (rw [if_neg (by decide +kernel)]; exact ⟨rfl, rfl⟩)

theorem tariffParses_holds : Rows.TariffParsesSaid :=
  OpenClaim.holds_of_wide 4 Tryz.f4 rfl rfl rfl rfl rfl rfl rfl ⟨rfl, rfl, rfl, rfl, rfl⟩ rfl rfl rfl rfl rfl (by kernel_rfl) func4 tariffParses_closed
    (of_decide_eq_true (by kernel_rfl)) tariffParses_wrap
    (fun os started H enc _ => tariffParses_lifted os started H enc)

theorem tariffParses_card : Rows.TariffParsesCardSaid :=
  Claim7.holds_tied_plain_at .later [] [.data, .data, .data, .data, .sentinel, .sentinel, .pinned] true (true, "a7e0027a1a911584dab699016040a482f0711160249ae3bad81287b14bf41df3") true
    tariffParses_holds (fun _ h => by cases h) (by kernel_rfl) (fun _ h => by cases h) tariffParses_row_tie rfl ⟨rfl, rfl⟩ (by kernel_rfl) rfl
    (fun f fn hf hfn => by
      obtain rfl : f = 4 := Option.some.inj ((show Tryz.prog.funcNamed "fiacre/fiacrelaw01.TariffParses" = some 4 by kernel_rfl).symm.trans hf) |>.symm
      obtain rfl : fn = Tryz.f4 := (Option.some.inj (func4.symm.trans hfn)).symm
      exact ⟨by kernel_rfl, fun j t ht => by
        rw [params4] at ht
        have hm : t ∈ [9] := by simpa using Array.mem_of_getElem? ht
        have hall : ([9].all fun u => !Tryz.prog.wantsStandIn u) = true := by kernel_rfl
        exact (show Tryz.prog.wantsStandIn t = false by simpa using List.all_eq_true.1 hall t hm)⟩)
    (by kernel_rfl)
#print axioms tariffParses_card
end Go.Proofs.YtkinfbkpecjpnaaGreatDoor
