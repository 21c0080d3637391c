/-
  The body of MeterMessages.
-/
import Derived.Test.YtfdegaojblmdiaaGreatDoorGx
import Derived.Test.YtfdegaojblmdiaaGreatDoorGu
import Derived.Test.YtfdegaojblmdiaaGreatDoorGj

set_option linter.all false

/-
  The body of MeterMessages.
-/
namespace Go.Fx
open Go.Proofs Go.RowKit
theorem spR_len {l : Log} {k p : Int} : (spR l k p).ev.length ≤ l.ev.length + 1 := by
  by_cases h : spA l k = 0
  · have w := spA_0 h
    obtain ⟨m, rfl⟩ : ∃ m : Nat, k = m := ⟨k.toNat, by omega⟩
    by_cases h2 : spB l m p = 0
    · rw [(sp_c h h2).2, (sp_at (by omega)).1]; exact Nat.le_refl _
    · rw [(sp_b h h2).2]; exact Nat.zero_le _
  · rw [(sp_a (p := p) h).2]; exact Nat.zero_le _
theorem mgR_len {l : Log} : (mgR l).ev.length ≤ l.ev.length := by
  unfold mgR
  cases decide (aloneE l = 0)
  · exact Nat.zero_le _
  · exact mg_len l.ev l.ev.length
section
variable {W0 : World} (hX : (Xc W0 Gt).Good) (haw : Pure (Xc W0 Gt) 12 [] (.bool true))
include hX haw
theorem c6 (l : Log) (k p : Int) : Pure (Xc W0 Gt) 6 [lgA l, .int .i64 k, .int .i64 p] (.bool true) := by
  refine mut_of' hX (show FnIs (Xc W0 Gt) 6 Tryz.f6 (codeOf Tryz.f6) from ⟨by kernel_rfl, by kernel_rfl, by kernel_rfl, by kernel_rfl⟩) rfl ?_
  repeat' (first
    | ((with_reducible refine (?_ : Alt _ _)); first | (with_reducible apply callAlt (haw)) | (with_reducible apply callAlt (c16 hX l ?_)) | (with_reducible apply callAlt (c27 hX l k p ?_)) | (with_reducible apply callAlt (c29 hX l k p ?_)) | (with_reducible apply callAlt (c28 hX l ?_)) | (with_reducible apply callAlt (c30 hX l ?_)) | ((with_reducible apply callAlt (c31 hX (spR l k p) ?_)); case hl => (first | exact AllLe.refl _ | ((repeat' (first | exact trivial | apply Le.aggs | apply Le.tups | apply Le.fns | exact Le.refl _ | refine ⟨?_, ?_⟩)); done))) | ((with_reducible apply callAlt (c31 hX (mgR l) ?_)); case hl => (first | exact AllLe.refl _ | ((repeat' (first | exact trivial | apply Le.aggs | apply Le.tups | apply Le.fns | exact Le.refl _ | refine ⟨?_, ?_⟩)); done))) | (with_reducible refine Alt.one ?_))
    | ((with_reducible refine (?_ : AllLe _ _)); first | (first | exact AllLe.refl _ | (repeat' (first | exact trivial | apply Le.aggs | apply Le.tups | apply Le.fns | exact Le.refl _ | refine ⟨?_, ?_⟩))))
    | ((with_reducible refine (?_ : Sc _ (AllRen _ _ _))); refine Sc.of ?_; first | (repeat' (first | exact trivial | apply Le.aggs | apply Le.tups | apply Le.fns | exact Le.refl _ | refine ⟨?_, ?_⟩)))
    | ((with_reducible refine (?_ : (List.all _ _) = true)); rfl)
    | ((with_reducible refine (?_ : (and _ _) = true)); rfl)
    | ((with_reducible refine (?_ : List.Nodup _)); exact nodupB_spec rfl)
    | ((with_reducible refine (?_ : @Eq Nat _ _)); rfl)
    | ((with_reducible refine (?_ : @Eq (List (Option HObj)) _ _)); kernel_rfl)
    | ((with_reducible refine (?_ : LeOks _ _ _)); first | exact trivial | exact ⟨.refl _, trivial⟩ | exact ⟨.refl _, .refl _, trivial⟩)
    | ((fail_if_success with_reducible refine Stop.go ?_); (first | with_reducible refine And.intro ?_ ?_ | with_reducible refine Cut.go ?_ | (with_reducible (refine impI ?_; intro _)) | (with_reducible refine (?_ : footOK _ _ = true); kernel_rfl) | ((with_reducible refine propI ?_); conv => whnf))))
  all_goals try (exact .of (Nat.le_of_ble_eq_true rfl))
  all_goals try (rename_i h; first | exact absurd h (by decide) | (cases h; done))
  all_goals try (exact .of (by decide))
  all_goals try (exact .mk [] [] _ rfl (.le (.refl _)) trivial rfl)
  all_goals have el := brL_len ‹(bif (bif decide (30 < (l.ev.length : Int)) then decide ((l.ev.length : Int) ≤ 200) else false) then true else decide (202 < (l.ev.length : Int))) = false›
  all_goals try (exact Side.mk (by omega))
  all_goals try (exact Side.mk (by have := spR_len (l := l) (k := k) (p := p); omega))
  all_goals try (exact Side.mk (by have := mgR_len (l := l); omega))
  all_goals (exact .mk [] [] _ rfl (.le (.boolT (by simp))) trivial rfl)

end
end Go.Fx
