/-
  TariffTripTexts returns true whatever its two arguments are, and its arguments read behind the call as they did before: at every input, where the seven package-level variables that the row lists hold what the row lays (the tied card).
-/
import Derived.Test.YtkinfbkpecjpnaaGreatDoorGm
import Derived.Test.YtkinfbkpecjpnaaGreatDoorGv
import Derived.Test.YtkinfbkpecjpnaaGreatDoorGl
import Derived.Test.YtkinfbkpecjpnaaGreatDoorGo
import Derived.SevenTiedAt

set_option linter.all false

namespace Go.Fx
open Go.Proofs Go.Proofs.YtkinfbkpecjpnaaGreatDoor Go.ChangeShapes Go.WideShapes Go.RowKit

theorem params3 : Tryz.f3.params = #[27, 9] := by kernel_rfl
theorem func3 : Tryz.checked.prog.funcs[3]? = some Tryz.f3 := by kernel_rfl

theorem map_in {H : Type} (l : List (DataW H)) (j : Nat) (h : j < (l.map dI).length) : inK .i64 ((l.map dI).getD j 0) := by
  rw [getD_map dI l j .nil 0 (by simpa using h)]
  exact dI_in _
theorem trp_in {H : Type} (d : DataW H) : XR (trpOf d) :=
  ⟨dI_in _, dI_in _, fun j h => map_in _ j h, fun j h => by
    have h2 : j < (dE (dN d 3)).length := by simpa [trpOf] using h
    show inK .i64 (((dE (dN d 3)).map segOf).getD j seg0).z ∧ inK .i64 (((dE (dN d 3)).map segOf).getD j seg0).me ∧ inK .i64 (((dE (dN d 3)).map segOf).getD j seg0).se
    rw [getD_map segOf _ j .nil seg0 h2]
    exact ⟨dI_in _, dI_in _, dI_in _⟩⟩
theorem str_arg {H : Type} (d : DataW H) : argAV Tt 6 9 d = .str (dS d) := by kernel_rfl
theorem tariffTripTexts_contract {W : World} (st : Stand W) {H : Type} (d0 d1 : DataW H) : Pure (Xc W Gt) 3 (argsAV Tt 6 [27, 9] [d0, d1]) (.bool true) :=
  (c3 st.good st.laid (awake_ok st) (trpOf d0) (dS d1) (trp_in d0)).args ⟨trp_arg d0, str_arg d1 ▸ .refl _, trivial⟩

set_option maxRecDepth 100000 in
theorem tariffTripTexts_lifted (os : Os) (started : os.Started) (H : Type) (enc : TypeId × Value → H) :
    ReturnsInHanded {} Tryz.checked os 3 .any (fun w args => (Rows.tariffTripTextsSpec.pre enc Tryz.prog Tryz.f3 [] false w args ∧ laidMetH Tryz.prog Rows.tariffTripTextsRow.laid w) ∧ sizedMet enc Tryz.prog Tryz.f3 (OpenSpec.ofChange Rows.tariffTripTextsSpec) false w args)
      (Rows.tariffTripTextsSpec.post enc Tryz.prog Tryz.f3 false true false false) :=
  law_returns (C := Tryz.checked) (X := fun w _ => laidMetH Tryz.prog Rows.tariffTripTextsRow.laid w) (fun _ _ _ hh h => h.of_heap hh) own started (by kernel_rfl) func3
    (ChangeSpec.witness_shaped (enc := enc) (C := Tryz.checked) (os := os) (X := fun w _ => laidMetH Tryz.prog Rows.tariffTripTextsRow.laid w) false (World.laidAll Tryz.prog os Rows.tariffTripTextsRow.laid) #[.agg #[.int .i64 0, .int .i64 0, .bool false, .slice none 0 0, .slice none 0 0], .string ByteArray.empty] 8 (World.laidAll_os _ _ _)
      (World.shaped_of_ZipB (by kernel_rfl) (by kernel_rfl)) (by kernel_rfl) (by kernel_rfl) (by kernel_rfl) (laid_met os _))
    laidOut (by
      have h : (Tryz.f3.params.toList.all fun t => Tryz.prog.readableRec t && Nat.blt t Tryz.prog.types.size) = true := by kernel_rfl
      intro t ht
      have := List.all_eq_true.1 h t ht
      simp only [Bool.and_eq_true, Nat.blt_eq] at this
      exact this) (show Tryz.f3.resultTypes = #[4] by kernel_rfl) bool4 rfl
    (fun ds hd => by
      match ds, hd with
      | [d0, d1], _ => rfl)
    (fun W base args ds ps hval hA _ hx hs => law_calls (F := 6) (ts := [27, 9]) (by kernel_rfl) (by kernel_rfl) W base args ds ps (fun st ds hd => by
      match ds, hd with
      | [d0, d1], _ => exact tariffTripTexts_contract st d0 d1) hval hA hx hs)
end Go.Fx

namespace Go.Proofs.YtkinfbkpecjpnaaGreatDoor
open Go Go.Proofs Go.Fx

theorem tariffTripTexts_f1 : (Rows.tariffTripTextsRow.inPlace == Tryz.prog.inPlace 3) = true := by kernel_rfl
theorem tariffTripTexts_f2 : (Rows.tariffTripTextsRow.unfollowed == Tryz.prog.unfollowed 3) = true := by kernel_rfl
theorem tariffTripTexts_f3 : (Rows.tariffTripTextsRow.recurses == Tryz.prog.recurses 3) = true := by kernel_rfl
theorem tariffTripTexts_f4 : (Rows.tariffTripTextsRow.named == Tryz.prog.varsNamed 3) = true := by kernel_rfl
theorem tariffTripTexts_closed : joinedFacts Tryz.prog 3 Tryz.f3 Rows.tariffTripTextsSpec Rows.tariffTripTextsRow = true := by
  unfold joinedFacts
  simp only [Bool.and_eq_true]
  repeat' (with_reducible apply And.intro)
  all_goals first
    | with_reducible exact tariffTripTexts_f1
    | with_reducible exact tariffTripTexts_f2
    | with_reducible exact tariffTripTexts_f3
    | with_reducible exact tariffTripTexts_f4
    | kernel_rfl
theorem tariffTripTexts_wrap : Tryz.f3.isWrapper Tryz.prog Rows.tariffTripTextsRow.wrapper Rows.tariffTripTextsRow.mainSum := by unfold Func.isWrapper; first | (rw [if_pos (by decide +kernel)]; kernel_rfl) | (rw [if_neg (by decide +kernel)]; exact ⟨rfl, rfl⟩)

theorem tariffTripTexts_holds : Rows.TariffTripTextsSaid :=
  OpenClaim.holds_of_wide 3 Tryz.f3 rfl rfl rfl rfl rfl rfl rfl ⟨rfl, rfl, rfl, rfl, rfl⟩ rfl rfl rfl rfl rfl (by kernel_rfl) func3 tariffTripTexts_closed
    (of_decide_eq_true (by kernel_rfl)) tariffTripTexts_wrap
    (fun os started H enc _ => tariffTripTexts_lifted os started H enc)

theorem tariffTripTexts_card : Rows.TariffTripTextsCardSaid :=
  Claim7.holds_tied_plain_at .later [] [.data, .data, .data, .data, .sentinel, .sentinel, .pinned] true (true, "a7e0027a1a911584dab699016040a482f0711160249ae3bad81287b14bf41df3") true
    tariffTripTexts_holds (fun _ h => by cases h) (by kernel_rfl) (fun _ h => by cases h) tariffTripTexts_row_tie rfl ⟨rfl, rfl⟩ (by kernel_rfl) rfl
    (fun f fn hf hfn => by
      obtain rfl : f = 3 := Option.some.inj ((show Tryz.prog.funcNamed "fiacre/fiacrelaw01.TariffTripTexts" = some 3 by kernel_rfl).symm.trans hf) |>.symm
      obtain rfl : fn = Tryz.f3 := (Option.some.inj (func3.symm.trans hfn)).symm
      exact ⟨by kernel_rfl, fun j t ht => by
        rw [params3] at ht
        have hm : t ∈ [27, 9] := by simpa using Array.mem_of_getElem? ht
        have hall : ([27, 9].all fun u => !Tryz.prog.wantsStandIn u) = true := by kernel_rfl
        exact (show Tryz.prog.wantsStandIn t = false by simpa using List.all_eq_true.1 hall t hm)⟩)
    (by kernel_rfl)
#print axioms tariffTripTexts_card
end Go.Proofs.YtkinfbkpecjpnaaGreatDoor
