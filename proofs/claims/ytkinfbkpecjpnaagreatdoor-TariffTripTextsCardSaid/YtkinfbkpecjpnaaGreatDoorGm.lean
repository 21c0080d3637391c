/-
  The body of TariffTripTexts.
-/
import Derived.Test.YtkinfbkpecjpnaaGreatDoorGk
import Derived.Test.YtkinfbkpecjpnaaGreatDoorGh

set_option linter.all false

/-
  The body of TariffTripTexts.
-/
namespace Go.Fx
open Go.Proofs Go.RowKit
/-- Numbers as the machine has them. -/
structure XR (x : Trp) : Prop where
  d : inK .i64 x.m.d
  s : inK .i64 x.m.s
  ex : ∀ j, j < x.ex.length → inK .i64 (x.ex.getD j 0)
  sg : ∀ j, j < x.sg.length → inK .i64 (x.sg.getD j seg0).z ∧ inK .i64 (x.sg.getD j seg0).me ∧ inK .i64 (x.sg.getD j seg0).se
theorem short_8 {x : Trp} (h : shortB x = true) : x.ex.length ≤ 8 := by
  unfold shortB at h
  have b := of_decide_eq_true (and_t h).2
  omega
theorem fmt_size {x : Trp} (hs : XIn x) : (fmtT x).size ≤ 3000 + 70 * x.sg.length := by
  have a := body_len hs x.sg.length (Nat.le_refl _)
  rw [← bodyT_end, toS_size]; exact a
theorem par_len (s : ByteArray) : (parT s).ex.length ≤ s.size + 1 ∧ (parT s).sg.length ≤ s.size + 1 := by
  cases h : parB s with
  | false => rw [(parE_1 h).2]; exact ⟨Nat.zero_le _, Nat.zero_le _⟩
  | true =>
    rw [(parE_0 h).2]
    refine ⟨?_, ?_⟩
    · show (exV s).length ≤ _
      unfold exV
      split
      · simp
      · rw [nsV_len]
        have := cutS_len_le 44 (wd s 3)
        have := wd_size s 3
        omega
    · show ((List.range (wn s - 4)).map fun i => segV (wd s (4 + i))).length ≤ _
      have := cutS_len_le 32 s
      simp [wn]; omega
theorem parE_two (s : ByteArray) : parE s = 0 ∨ (parE s = 7 ∧ parT s = trp0) := by
  cases h : parB s with
  | true => exact .inl (parE_0 h).1
  | false => exact .inr (parE_1 h)
section
variable {W0 : World} (hX : (Xc W0 Gt).Good) (hl : Laid W0) (haw : Pure (Xc W0 Gt) 5 [] (.bool true))
include hX hl haw
set_option maxHeartbeats 4000000 in
theorem c3 (x : Trp) (s : ByteArray) (hr : XR x) : Pure (Xc W0 Gt) 3 [trpA x, .str s] (.bool true) := by
  refine mut_of' hX (show FnIs (Xc W0 Gt) 3 Tryz.f3 (codeOf Tryz.f3) from ⟨by kernel_rfl, by kernel_rfl, by kernel_rfl, by kernel_rfl⟩) rfl ?_
  by_cases hg : (bif (bif !shortB x then true else decide ((8 : Int) < (x.sg.length : Int))) then true else decide ((200 : Int) < (s.size : Int))) = true
  · skip
    repeat' (first
      | ((with_reducible refine (?_ : Alt _ _)); first | (with_reducible apply callAlt (haw)) | (with_reducible apply callAlt (c6 hX x)) | (with_reducible refine Alt.one ?_))
      | ((with_reducible refine (?_ : AllLe _ _)); first | (first | exact AllLe.refl _ | (repeat' (first | exact trivial | apply Le.aggs | apply Le.tups | apply Le.fns | exact Le.refl _ | refine ⟨?_, ?_⟩))))
      | ((with_reducible refine (?_ : Sc _ (AllRen _ _ _))); refine Sc.of ?_; first | (repeat' (first | exact trivial | apply Le.aggs | apply Le.tups | apply Le.fns | exact Le.refl _ | refine ⟨?_, ?_⟩)))
      | ((with_reducible refine (?_ : (List.all _ _) = true)); rfl)
      | ((with_reducible refine (?_ : (and _ _) = true)); rfl)
      | ((with_reducible refine (?_ : List.Nodup _)); exact nodupB_spec rfl)
      | ((with_reducible refine (?_ : @Eq Nat _ _)); rfl)
      | ((with_reducible refine (?_ : @Eq (List (Option HObj)) _ _)); kernel_rfl)
      | ((with_reducible refine (?_ : LeOks _ _ _)); first | exact trivial | exact ⟨.refl _, trivial⟩ | exact ⟨.refl _, .refl _, trivial⟩)
      | ((fail_if_success with_reducible refine Stop.go ?_); (first | with_reducible refine And.intro ?_ ?_ | with_reducible refine Cut.go ?_ | (with_reducible (refine impI ?_; intro _); try (first | (exfalso; refine absurd hg ?_; rename_i q; rw [q]; decide))) | (with_reducible refine (?_ : footOK _ _ = true); kernel_rfl) | ((with_reducible refine propI ?_); conv => whnf))))
    all_goals try (exact .of (Nat.le_of_ble_eq_true rfl))
    all_goals try (rename_i h; first | exact absurd h (by decide) | (cases h; done))
    all_goals exact .mk [] [] _ rfl (.le (.refl _)) trivial rfl
  · have hg : (bif (bif !shortB x then true else decide ((8 : Int) < (x.sg.length : Int))) then true else decide ((200 : Int) < (s.size : Int))) = false := by simpa using hg
    simp only [bAnd, bOr, Bool.or_eq_false_iff, decide_eq_false_iff_not] at hg
    obtain ⟨⟨g1, g2⟩, g3⟩ := hg
    have g1 := not_f g1
    have g4 := short_8 g1
    have hin : Side (XIn x) := Side.mk ⟨hr.d, hr.s, ⟨by omega, hr.ex⟩, by omega, hr.sg⟩
    have hs1 : Side (s.size ≤ 1000000) := Side.mk (by omega)
    have hfz := fmt_size hin.get
    have hs2 : Side ((fmtT x).size ≤ 1000000) := Side.mk (by omega)
    have hp1 : Side ((parT s).ex.length ≤ 1000000 ∧ (parT s).sg.length ≤ 1000000) := Side.mk (by have := par_len s; omega)
    have hp2 : Side (x.ex.length ≤ 1000000 ∧ x.sg.length ≤ 1000000) := Side.mk (by omega)
    have k9 := c9 hX hl (fmtT x) hs2
    have k10 := c10 hX (fmtT x) hs2
    rcases parE_two (fmtT x) with hE | ⟨hE, hT⟩
    · rw [hE, parse_back x hE] at k9 k10
      repeat' (first
        | ((with_reducible refine (?_ : Alt _ _)); first | (with_reducible apply callAlt (haw)) | (with_reducible apply callAlt (c6 hX x)) | (with_reducible apply callAlt (c8 hX x ?_)) | (with_reducible apply callAlt (c7 hX hl x hin)) | (with_reducible apply callAlt (c11 hX x hin)) | ((with_reducible apply callAlt (c9 hX hl s hs1)); case hl => (first | exact AllLe.refl _ | ((repeat' (first | exact trivial | apply Le.aggs | apply Le.tups | apply Le.fns | exact Le.refl _ | refine ⟨?_, ?_⟩)); done))) | ((with_reducible apply callAlt (c10 hX s hs1)); case hl => (first | exact AllLe.refl _ | ((repeat' (first | exact trivial | apply Le.aggs | apply Le.tups | apply Le.fns | exact Le.refl _ | refine ⟨?_, ?_⟩)); done))) | ((with_reducible apply callAlt (k9)); case hl => (first | exact AllLe.refl _ | ((repeat' (first | exact trivial | apply Le.aggs | apply Le.tups | apply Le.fns | exact Le.refl _ | refine ⟨?_, ?_⟩)); done))) | ((with_reducible apply callAlt (k10)); case hl => (first | exact AllLe.refl _ | ((repeat' (first | exact trivial | apply Le.aggs | apply Le.tups | apply Le.fns | exact Le.refl _ | refine ⟨?_, ?_⟩)); done))) | ((with_reducible apply callAlt (c12 hX (parT s) hp1)); case hl => (first | exact AllLe.refl _ | ((repeat' (first | exact trivial | apply Le.aggs | apply Le.tups | apply Le.fns | exact Le.refl _ | refine ⟨?_, ?_⟩)); done))) | ((with_reducible apply callAlt (c12 hX x hp2)); case hl => (first | exact AllLe.refl _ | ((repeat' (first | exact trivial | apply Le.aggs | apply Le.tups | apply Le.fns | exact Le.refl _ | refine ⟨?_, ?_⟩)); done))) | (with_reducible refine Alt.one ?_))
        | ((with_reducible refine (?_ : AllLe _ _)); first | (first | exact AllLe.refl _ | (repeat' (first | exact trivial | apply Le.aggs | apply Le.tups | apply Le.fns | exact Le.refl _ | refine ⟨?_, ?_⟩))))
        | ((with_reducible refine (?_ : Sc _ (AllRen _ _ _))); refine Sc.of ?_; first | (repeat' (first | exact trivial | apply Le.aggs | apply Le.tups | apply Le.fns | exact Le.refl _ | refine ⟨?_, ?_⟩)))
        | ((with_reducible refine (?_ : (List.all _ _) = true)); rfl)
        | ((with_reducible refine (?_ : (and _ _) = true)); rfl)
        | ((with_reducible refine (?_ : List.Nodup _)); exact nodupB_spec rfl)
        | ((with_reducible refine (?_ : @Eq Nat _ _)); rfl)
        | ((with_reducible refine (?_ : @Eq (List (Option HObj)) _ _)); kernel_rfl)
        | ((with_reducible refine (?_ : LeOks _ _ _)); first | exact trivial | exact ⟨.refl _, trivial⟩ | exact ⟨.refl _, .refl _, trivial⟩)
        | ((fail_if_success with_reducible refine Stop.go ?_); (first | with_reducible refine And.intro ?_ ?_ | with_reducible refine Cut.go ?_ | (with_reducible (refine impI ?_; intro _)) | (with_reducible refine (?_ : footOK _ _ = true); kernel_rfl) | ((with_reducible refine propI ?_); conv => whnf))))
      all_goals try (exact .of (Nat.le_of_ble_eq_true rfl))
      all_goals try (rename_i h; first | exact absurd h (by decide) | (cases h; done))
      all_goals try (exact Side.mk ⟨by omega, by omega⟩)
      all_goals try (rename_i q; exfalso; simp at q; done)
      · exact .mk [] [] _ rfl (.le (.refl _)) trivial rfl
      · exact .mk [] [] _ rfl (.le (.boolT (by decide))) trivial rfl
    · rw [hE, hT] at k9 k10
      repeat' (first
        | ((with_reducible refine (?_ : Alt _ _)); first | (with_reducible apply callAlt (haw)) | (with_reducible apply callAlt (c6 hX x)) | (with_reducible apply callAlt (c8 hX x ?_)) | (with_reducible apply callAlt (c7 hX hl x hin)) | (with_reducible apply callAlt (c11 hX x hin)) | ((with_reducible apply callAlt (c9 hX hl s hs1)); case hl => (first | exact AllLe.refl _ | ((repeat' (first | exact trivial | apply Le.aggs | apply Le.tups | apply Le.fns | exact Le.refl _ | refine ⟨?_, ?_⟩)); done))) | ((with_reducible apply callAlt (c10 hX s hs1)); case hl => (first | exact AllLe.refl _ | ((repeat' (first | exact trivial | apply Le.aggs | apply Le.tups | apply Le.fns | exact Le.refl _ | refine ⟨?_, ?_⟩)); done))) | ((with_reducible apply callAlt (k9)); case hl => (first | exact AllLe.refl _ | ((repeat' (first | exact trivial | apply Le.aggs | apply Le.tups | apply Le.fns | exact Le.refl _ | refine ⟨?_, ?_⟩)); done))) | ((with_reducible apply callAlt (k10)); case hl => (first | exact AllLe.refl _ | ((repeat' (first | exact trivial | apply Le.aggs | apply Le.tups | apply Le.fns | exact Le.refl _ | refine ⟨?_, ?_⟩)); done))) | ((with_reducible apply callAlt (c12 hX (parT s) hp1)); case hl => (first | exact AllLe.refl _ | ((repeat' (first | exact trivial | apply Le.aggs | apply Le.tups | apply Le.fns | exact Le.refl _ | refine ⟨?_, ?_⟩)); done))) | ((with_reducible apply callAlt (c12 hX trp0 (Side.mk ⟨by decide, by decide⟩))); case hl => (first | exact AllLe.refl _ | ((repeat' (first | exact trivial | apply Le.aggs | apply Le.tups | apply Le.fns | exact Le.refl _ | refine ⟨?_, ?_⟩)); done))) | (with_reducible apply callAltS (X := Xc W0 Gt) (f := 12) (bs := [trpA trp0, trpA x]) (r := .bool true) ?_) | (with_reducible refine Alt.one ?_))
        | ((with_reducible refine (?_ : AllLe _ _)); first | (first | exact AllLe.refl _ | (repeat' (first | exact trivial | apply Le.aggs | apply Le.tups | apply Le.fns | exact Le.refl _ | refine ⟨?_, ?_⟩))))
        | ((with_reducible refine (?_ : Sc _ (AllRen _ _ _))); refine Sc.of ?_; first | (repeat' (first | exact trivial | apply Le.aggs | apply Le.tups | apply Le.fns | exact Le.refl _ | refine ⟨?_, ?_⟩)))
        | ((with_reducible refine (?_ : (List.all _ _) = true)); rfl)
        | ((with_reducible refine (?_ : (and _ _) = true)); rfl)
        | ((with_reducible refine (?_ : List.Nodup _)); exact nodupB_spec rfl)
        | ((with_reducible refine (?_ : @Eq Nat _ _)); rfl)
        | ((with_reducible refine (?_ : @Eq (List (Option HObj)) _ _)); kernel_rfl)
        | ((with_reducible refine (?_ : LeOks _ _ _)); first | exact trivial | exact ⟨.refl _, trivial⟩ | exact ⟨.refl _, .refl _, trivial⟩)
        | ((fail_if_success with_reducible refine Stop.go ?_); (first | with_reducible refine And.intro ?_ ?_ | with_reducible refine Cut.go ?_ | (with_reducible (refine impI ?_; intro _)) | (with_reducible refine (?_ : footOK _ _ = true); kernel_rfl) | ((with_reducible refine propI ?_); conv => whnf))))
      all_goals try (exact .of (Nat.le_of_ble_eq_true rfl))
      all_goals try (rename_i h; first | exact absurd h (by decide) | (cases h; done))
      all_goals try (exact Side.mk ⟨by omega, by omega⟩)
      all_goals try (rename_i q; exfalso; simp at q; done)
      · exact .mk [] [] _ rfl (.le (.refl _)) trivial rfl
      · exact .mk [] [] _ rfl (.le (.boolT (by decide))) trivial rfl
      · refine Sc.imp fun h => ?_
        have h7 : ((7 : Int) != 0) = false := h.1.2
        exact absurd h7 (by decide)


end
end Go.Fx
