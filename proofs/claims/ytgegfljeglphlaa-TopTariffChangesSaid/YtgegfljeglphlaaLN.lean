/-
  TopTariffChanges returns true whatever its three arguments are, and its arguments read behind the call as they did before: at every input.
-/
import Derived.Test.YtgegfljeglphlaaFz
import Derived.Test.YtgegfljeglphlaaFv
import Derived.Test.YtgegfljeglphlaaFo

set_option linter.all false

namespace Go.Fx
open Go.Proofs Go.Proofs.Ytgegfljeglphlaa Go.ChangeShapes Go.WideShapes Go.RowKit

theorem func4 : Try.checked.prog.funcs[4]? = some Try.f4 := by kernel_rfl

theorem topTariffChanges_contract {W : World} {H : Type} (d0 d1 d2 : DataW H) : Pure (Xc W Gn) 4 (argsAV Tt 6 [28, 53, 3] [d0, d1, d2]) (.bool true) :=
  (c4 (good_n W) (trfOf d0) (plcOf d1) (dI d2)).args ⟨trf_arg d0, .ofEq (plc_arg d1), .ofEq (int_arg d2), trivial⟩

set_option maxRecDepth 100000 in
theorem topTariffChanges_lifted (os : Os) (started : os.Started) (H : Type) (enc : TypeId × Value → H) :
    ReturnsInHanded {} Try.checked os 4 .any (fun w args => Rows.topTariffChangesSpec.pre enc Try.prog Try.f4 [] false w args ∧ sizedMet enc Try.prog Try.f4 (OpenSpec.ofChange Rows.topTariffChangesSpec) false w args)
      (Rows.topTariffChangesSpec.post enc Try.prog Try.f4 false true false false) :=
  law_returns (C := Try.checked) own started (by kernel_rfl) func4
    (by
      obtain ⟨w, tape, i, a, b, c, d, e⟩ := ChangeSpec.witness_shaped (enc := enc) (s := Rows.topTariffChangesSpec) (f := 4) (fn := Try.f4) (conds := []) (C := Try.checked) (os := os) (X := fun _ _ => True) false (World.laidAll Try.prog os Rows.topTariffChangesRow.laid) #[.agg #[.string ⟨#[]⟩, .int .i64 0, .int .i64 0, .slice none 0 0, .slice none 0 0, .slice none 0 0, .slice none 0 0, .slice none 0 0], .agg #[.int .i64 0, .int .i64 0, .int .i64 0], .int .i64 0] 8 (World.laidAll_os _ _ _)
        (World.shaped_of_ZipB (by kernel_rfl) (by kernel_rfl)) (by kernel_rfl) (by kernel_rfl) (by kernel_rfl) trivial
      exact ⟨w, tape, i, a, b, c, d, ⟨e.1.1.1, e.1.2⟩, e.2⟩)
    laidOut (by
      have h : (Try.f4.params.toList.all fun t => Try.prog.readableRec t && Nat.blt t Try.prog.types.size) = true := by kernel_rfl
      intro t ht
      have := List.all_eq_true.1 h t ht
      simp only [Bool.and_eq_true, Nat.blt_eq] at this
      exact this) (show Try.f4.resultTypes = #[4] by kernel_rfl) bool4 rfl
    (fun ds hd => by
      match ds, hd with
      | [d0, d1, d2], _ => rfl)
    (fun W base args ds ps hval hA _ _ => law_calls (F := 6) (ts := [28, 53, 3]) (by kernel_rfl) (by kernel_rfl) W base args ds ps (fun ds hd => by
      match ds, hd with
      | [d0, d1, d2], _ => exact topTariffChanges_contract (W := W) d0 d1 d2) hval hA)
end Go.Fx

namespace Go.Proofs.Ytgegfljeglphlaa
open Go Go.Proofs Go.Fx

theorem topTariffChanges_f1 : (Rows.topTariffChangesRow.inPlace == Try.prog.inPlace 4) = true := by kernel_rfl
theorem topTariffChanges_f2 : (Rows.topTariffChangesRow.unfollowed == Try.prog.unfollowed 4) = true := by kernel_rfl
theorem topTariffChanges_f3 : (Rows.topTariffChangesRow.recurses == Try.prog.recurses 4) = true := by kernel_rfl
theorem topTariffChanges_f4 : (Rows.topTariffChangesRow.named == Try.prog.varsNamed 4) = true := by kernel_rfl
theorem topTariffChanges_closed : joinedFacts Try.prog 4 Try.f4 Rows.topTariffChangesSpec Rows.topTariffChangesRow = true := by
  unfold joinedFacts
  simp only [Bool.and_eq_true]
  repeat' (with_reducible apply And.intro)
  all_goals first
    | with_reducible exact topTariffChanges_f1
    | with_reducible exact topTariffChanges_f2
    | with_reducible exact topTariffChanges_f3
    | with_reducible exact topTariffChanges_f4
    | kernel_rfl
theorem topTariffChanges_wrap : Try.f4.isWrapper Try.prog Rows.topTariffChangesRow.wrapper Rows.topTariffChangesRow.mainSum := by unfold Func.isWrapper; first | (rw [if_pos (by decide +kernel)]; kernel_rfl) | (rw [if_neg (by decide +kernel)]; exact ⟨rfl, rfl⟩)

theorem topTariffChanges_holds : Rows.TopTariffChangesSaid :=
  OpenClaim.holds_of_wide 4 Try.f4 rfl rfl rfl rfl rfl rfl rfl ⟨rfl, rfl, rfl, rfl, rfl⟩ rfl rfl rfl rfl rfl (by kernel_rfl) func4 topTariffChanges_closed
    (of_decide_eq_true (by kernel_rfl)) topTariffChanges_wrap
    (fun os started H enc _ => topTariffChanges_lifted os started H enc)

#print axioms topTariffChanges_holds
end Go.Proofs.Ytgegfljeglphlaa
