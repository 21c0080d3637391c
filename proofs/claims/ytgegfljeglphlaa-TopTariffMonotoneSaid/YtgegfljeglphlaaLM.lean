/-
  TopTariffMonotone returns true whatever its three arguments are, and its arguments read behind the call as they did before: at every input.
-/
import Derived.Test.YtgegfljeglphlaaFm
import Derived.Test.YtgegfljeglphlaaFv
import Derived.Test.YtgegfljeglphlaaFo

set_option linter.all false

namespace Go.Fx
open Go.Proofs Go.Proofs.Ytgegfljeglphlaa Go.ChangeShapes Go.WideShapes Go.RowKit

theorem func3 : Try.checked.prog.funcs[3]? = some Try.f3 := by kernel_rfl

theorem topTariffMonotone_contract {W : World} {H : Type} (d0 d1 d2 : DataW H) : Pure (Xc W Gn) 3 (argsAV Tt 6 [28, 33, 23] [d0, d1, d2]) (.bool true) :=
  (c3 (good_n W) (trfOf d0) (trpOf d1) ((dE d2).map dI)).args ⟨trf_arg d0, trp_arg d1, ints_arg d2, trivial⟩

set_option maxRecDepth 100000 in
theorem topTariffMonotone_lifted (os : Os) (started : os.Started) (H : Type) (enc : TypeId × Value → H) :
    ReturnsInHanded {} Try.checked os 3 .any (fun w args => Rows.topTariffMonotoneSpec.pre enc Try.prog Try.f3 [] false w args ∧ sizedMet enc Try.prog Try.f3 (OpenSpec.ofChange Rows.topTariffMonotoneSpec) false w args)
      (Rows.topTariffMonotoneSpec.post enc Try.prog Try.f3 false true false false) :=
  law_returns (C := Try.checked) own started (by kernel_rfl) func3
    (by
      obtain ⟨w, tape, i, a, b, c, d, e⟩ := ChangeSpec.witness_shaped (enc := enc) (s := Rows.topTariffMonotoneSpec) (f := 3) (fn := Try.f3) (conds := []) (C := Try.checked) (os := os) (X := fun _ _ => True) false (World.laidAll Try.prog os Rows.topTariffMonotoneRow.laid) #[.agg #[.string ⟨#[]⟩, .int .i64 0, .int .i64 0, .slice none 0 0, .slice none 0 0, .slice none 0 0, .slice none 0 0, .slice none 0 0], .agg #[.int .i64 0, .int .i64 0, .bool false, .slice none 0 0, .slice none 0 0], .slice none 0 0] 8 (World.laidAll_os _ _ _)
        (World.shaped_of_ZipB (by kernel_rfl) (by kernel_rfl)) (by kernel_rfl) (by kernel_rfl) (by kernel_rfl) trivial
      exact ⟨w, tape, i, a, b, c, d, ⟨e.1.1.1, e.1.2⟩, e.2⟩)
    laidOut (by
      have h : (Try.f3.params.toList.all fun t => Try.prog.readableRec t && Nat.blt t Try.prog.types.size) = true := by kernel_rfl
      intro t ht
      have := List.all_eq_true.1 h t ht
      simp only [Bool.and_eq_true, Nat.blt_eq] at this
      exact this) (show Try.f3.resultTypes = #[4] by kernel_rfl) bool4 rfl
    (fun ds hd => by
      match ds, hd with
      | [d0, d1, d2], _ => rfl)
    (fun W base args ds ps hval hA _ _ => law_calls (F := 6) (ts := [28, 33, 23]) (by kernel_rfl) (by kernel_rfl) W base args ds ps (fun ds hd => by
      match ds, hd with
      | [d0, d1, d2], _ => exact topTariffMonotone_contract (W := W) d0 d1 d2) hval hA)
end Go.Fx

namespace Go.Proofs.Ytgegfljeglphlaa
open Go Go.Proofs Go.Fx

theorem topTariffMonotone_f1 : (Rows.topTariffMonotoneRow.inPlace == Try.prog.inPlace 3) = true := by kernel_rfl
theorem topTariffMonotone_f2 : (Rows.topTariffMonotoneRow.unfollowed == Try.prog.unfollowed 3) = true := by kernel_rfl
theorem topTariffMonotone_f3 : (Rows.topTariffMonotoneRow.recurses == Try.prog.recurses 3) = true := by kernel_rfl
theorem topTariffMonotone_f4 : (Rows.topTariffMonotoneRow.named == Try.prog.varsNamed 3) = true := by kernel_rfl
theorem topTariffMonotone_closed : joinedFacts Try.prog 3 Try.f3 Rows.topTariffMonotoneSpec Rows.topTariffMonotoneRow = true := by
  unfold joinedFacts
  simp only [Bool.and_eq_true]
  repeat' (with_reducible apply And.intro)
  all_goals first
    | with_reducible exact topTariffMonotone_f1
    | with_reducible exact topTariffMonotone_f2
    | with_reducible exact topTariffMonotone_f3
    | with_reducible exact topTariffMonotone_f4
    | kernel_rfl
theorem topTariffMonotone_wrap : Try.f3.isWrapper Try.prog Rows.topTariffMonotoneRow.wrapper Rows.topTariffMonotoneRow.mainSum := by unfold Func.isWrapper; first | (rw [if_pos (by decide +kernel)]; kernel_rfl) | (rw [if_neg (by decide +kernel)]; exact ⟨rfl, rfl⟩)

theorem topTariffMonotone_holds : Rows.TopTariffMonotoneSaid :=
  OpenClaim.holds_of_wide 3 Try.f3 rfl rfl rfl rfl rfl rfl rfl ⟨rfl, rfl, rfl, rfl, rfl⟩ rfl rfl rfl rfl rfl (by kernel_rfl) func3 topTariffMonotone_closed
    (of_decide_eq_true (by kernel_rfl)) topTariffMonotone_wrap
    (fun os started H enc _ => topTariffMonotone_lifted os started H enc)

#print axioms topTariffMonotone_holds
end Go.Proofs.Ytgegfljeglphlaa
