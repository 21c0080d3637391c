/-
 The body of TariffParses.
-/
import Derived.Test.YtkinfbkpecjpnaaGreatDoorHh
import Derived.Test.YtkinfbkpecjpnaaGreatDoorGh
set_option linter.all false
/-
 The body of TariffParses.
-/
namespace Go.Fx
open Go.Proofs Go.RowKit
theorem trf0_ok : TOk trf0 := dft0_inv.tok (by decide)
theorem step_inv {d d' : Dft} {n : Nat} {t : Tx} (h : stepP d (n + 1) t = .ok d') (hi : DInv d n) (ht : t.length <= 600) : DInv d' (n + 1) := by
 unfold stepP at h
 split at h
 ·cases h; exact hi.mono (Nat.le_succ n)
 ·split at h
  ·cases h
  ·cases h; exact readP_inv _ hi (lnOf_ok ht)
theorem fromP_tok : ∀ (l : List Tx) (d : Dft) (n : Nat), (∀ t, t ∈ l -> t.length <= 600) -> DInv d n -> n + l.length <= 900 -> TOk (fromP l d n).t
 | [], d, n, _, hi, hn => by
  rw [fromP_nil]
  unfold endP
  split
  ·exact trf0_ok
  ·split
   ·exact trf0_ok
   ·exact hi.tok (by simpa using hn)
 | t :: r, d, n, ht, hi, hn => by
  cases q : stepP d (n + 1) t with
  | error x => obtain ⟨c, e⟩ := x; rw [fromP_bad q]; exact trf0_ok
  | ok d' =>
   rw [fromP_ok q]
   exact fromP_tok r d' (n + 1) (fun x hx => ht x (List.mem_cons_of_mem _ hx)) (step_inv q hi (ht t (List.mem_cons_self ..))) (by simp at hn; omega)
theorem lin_all (s : Tx) : ∀ t, t ∈ linT s -> t.length <= s.length := fun t ht => by
 obtain ⟨i, hi, e⟩ := List.getElem_of_mem ht
 have := lin_mem s i
 rw [List.getD_eq_getElem?_getD, List.getElem?_eq_getElem hi] at this
 rw [<- e]; exact this
theorem outP_tok {s : ByteArray} (h : SzP s) : TOk (outP s).t := by
 unfold outP
 split
 ·exact trf0_ok
 ·have hz := size_len s
  have h5 : s.size <= 500 := by rcases h with q | q <;> omega
  exact fromP_tok _ _ _ (fun t ht => Nat.le_trans (lin_all _ t ht) (by omega)) dft0_inv (by have := lin_len s.data.toList; omega)
theorem outT_tok {s : ByteArray} (h : SzP s) : TOk (outT s).1 := by
 unfold outT
 split
 ·exact trf0_ok
 ·exact outP_tok (by unfold SzP at *; rw [rp_size]; exact h)
section
variable {W0 : World} (hX : (Xc W0 Gt).Good) (hl : Laid W0) (haw : Pure (Xc W0 Gt) 5 [] (.bool true))
include hX hl haw
set_option maxRecDepth 20000 in
set_option maxHeartbeats 4000000 in
theorem c4 (s : ByteArray) : Pure (Xc W0 Gt) 4 [.str s] (.bool true) := by
 refine mut_of' hX (fnI Tryz.f4) rfl ?_
 by_cases hg : (bif bif decide ((500 : Int) < (s.size : Int)) then decide ((s.size : Int) <= 60000) else false then true else decide ((60010 : Int) < (s.size : Int))) = true
 ·skip
  repeat' (first
   | (refine Ax.go ?_; first | (with_reducible apply callAlt (haw)) | (with_reducible apply Alt.one))
   | exact Cl.go
   | ((fail_if_success refine Stop.go ?_); first | (with_reducible first | apply And.intro | apply Cut.go | (refine impI ?_; intro _; try (first | (exfalso; refine absurd hg ?_; rename_i q; rw [q]; decide)))) | (refine propI ?_; conv => whnf)))
  all_goals try exact nbZ
  all_goals try (rename_i h; first | exact absurd h (by decide) | (cases h; done))
  all_goals exact .mk [] [] _ rfl (.le (.refl _)) trivial rfl
 ·have hg2 : (bif bif decide ((500 : Int) < (s.size : Int)) then decide ((s.size : Int) <= 60000) else false then true else decide ((60010 : Int) < (s.size : Int))) = false := by simpa using hg
  have hz : Side (SzP s) := Side.mk (by
   by_cases q1 : (500 : Int) < (s.size : Int)
   ·by_cases q2 : (s.size : Int) <= 60000
    ·rw [decide_eq_true q1, decide_eq_true q2] at hg2; cases hg2
    ·by_cases q3 : (60010 : Int) < (s.size : Int)
     ·rw [decide_eq_true q3] at hg2
      revert hg2; cases (bif decide ((500 : Int) < (s.size : Int)) then decide ((s.size : Int) <= 60000) else false) <;> intro h <;> cases h
     ·exact .inr (by omega)
   ·exact .inl (by omega))
  have ht1 : Side (TOk (outP s).t) := Side.mk (outP_tok hz.get)
  have ht2 : Side (TOk (outT s).1) := Side.mk (outT_tok hz.get)
  repeat' (first
   | (refine Ax.go ?_; first | (with_reducible apply callAlt (haw)) | (with_reducible apply callAlt (c13 hX hl s hz)) | (with_reducible apply callAlt (c14 hX hl s hz)) | (with_reducible apply callAlt (c16 hX hl s hz)) | (with_reducible apply callAlt (c17 hX hl s hz)) | ((with_reducible apply callAlt (c15 hX (outP s).t ht1)); case hl => (first | exact AllLe.refl _ | ((repeat' (first | exact trivial | apply Le.aggs | apply Le.tups | apply Le.fns | exact Le.refl _ | refine ⟨?_, ?_⟩)); done))) | ((with_reducible apply callAlt (c15 hX (outT s).1 ht2)); case hl => (first | exact AllLe.refl _ | ((repeat' (first | exact trivial | apply Le.aggs | apply Le.tups | apply Le.fns | exact Le.refl _ | refine ⟨?_, ?_⟩)); done))) | (with_reducible apply Alt.one))
   | exact Cl.go
   | ((fail_if_success refine Stop.go ?_); first | (with_reducible first | apply And.intro | apply Cut.go | (refine impI ?_; intro _; try (first | (refine absurd ?_ hg; assumption)))) | (refine propI ?_; conv => whnf)))
  all_goals try exact nbZ
  all_goals try (rename_i h; first | exact absurd h (by decide) | (cases h; done))
  all_goals try ((with_reducible refine (?_ : Ends _ _ _ _ _ _ _)); rename_i q; exfalso; simp at q; done)
  all_goals try ((with_reducible refine (?_ : Sc _ _)); exact .of (Nat.le_of_ble_eq_true rfl))
  ·exact .mk [] [] _ rfl (.le (.boolT (show (bif (outT s).2 == (outT s).2 then true else false) = true by simp))) trivial rfl
end
end Go.Fx
