/-
 Logs of one's own that are looked at.
-/
import Derived.Test.YtfdegaojblmdiaaGreatDoorGc
set_option linter.all false
namespace Go.Fx
open Go.Proofs Go.RowKit
def evIs (y : Log) (n : Nat) (F : Nat -> Nat -> AV) : Prop := n = y.ev.length /\ ∀ i j, i < n -> j < 2 -> Le (F i j) (tbl (evC (y.ev.getD i ev0)) j)
theorem evIs_own {y : Log} {n e k v : Nat} {F : Nat -> Nat -> AV} {H : List HObj} (h : evIs y n F) (hk : H[k]? = some (.list e 2 n F v)) : LeH H (.own k v) (evS y.ev) := .ownM hk h.1 h.2
theorem evIs_give {y : Log} {n e v : Nat} {F : Nat -> Nat -> AV} (h : evIs y n F) : AllLe (([.agg 4 (tbl (logC y (.own 0 v)))] : List AV).map (frzF [0] [.list e 2 n F v])) [lgA y] := by
 have h4 : Le (frzF [0] [.list e 2 n F v] (.own 0 v)) (evS y.ev) := by
  have e1 : frzF [0] [.list e 2 n F v] (.own 0 v) = .slc 2 n F := by
   simp [frzF]
  rw [e1]
  exact .slcN h.1 fun i j hi hj => h.2 i j hi hj
 exact ⟨.aggs ⟨⟨⟨⟨trivial, .refl _⟩, .refl _⟩, .refl _⟩, h4⟩, trivial⟩
open Go.Proofs Go.RowKit
theorem chg_put {s : Log} {a : Nat} {n : Int} (ha : a < s.ev.length) : evIs (chgL' s a n) s.ev.length (putF a 1 [.int .i64 n] (fun i j => tbl (evC (s.ev.getD i ev0)) j)) := by
 refine ⟨chg_len.symm, fun i j hi hj => .ofEq ?_⟩
 unfold putF
 by_cases c : i = a
 ·subst c
  have e : (chgL' s i n).ev.getD i ev0 = ⟨(s.ev.getD i ev0).k, n⟩ := by
   show (s.ev.set i _).getD i ev0 = _
   rw [ev_set, if_pos ⟨rfl, ha⟩]
  rw [e]
  rcases (show j = 0 \/ j = 1 by omega) with q | q <;> subst q
  ·rw [if_neg (by omega)]; rfl
  ·rw [if_pos ⟨rfl, by omega, by show 1 < 1 + 1; omega⟩]; rfl
 ·rw [if_neg (fun q => c q.1), chg_at c]
section
variable {W0 : World} (hX : (Xc W0 Gt).Good)
include hX
theorem c19 (t : Trf) (l : Log) (hs : Side (TOk t)) : Pure (Xc W0 Gt) 19 [trfA t, lgA l] (.tup 2 (tbl [.agg 3 (tbl [.int .i64 (ffZ t l (ffI t l)), .int .i64 (ffZ t l (slN l (ffI t l).toNat)), .int .i64 (ffZ t l (bhN l (ffI t l).toNat))]), .int .i64 (ffE t l)])) := by
 by_cases h : rnE t l = 0
 ·exact c19k hX t l hs h
 ·exact c19e hX t l hs h
theorem c16w (y : Log) (n : Nat) (F : Nat -> Nat -> AV)  (hy : Side (evIs y n F)) (hn : Side (n <= 1000)) : Mut (Xc W0 Gt) 16 [.agg 4 (tbl (logC y (.own 0 1)))] [.list 41 2 n F 1] (lgA y) [.list 41 2 n F 1] := by
 have hy := hy.get
 have hn := hn.get
 refine mut_of' hX (fnI Tryz.f16) rfl ?_
 repeat' (first
  | (refine Ax.go ?_; apply Alt.one)
  | exact Cl.go
  | exact Ce.go
  | ((fail_if_success refine Stop.go ?_); first | (with_reducible first | apply And.intro | apply Cut.go | (refine impI ?_; intro _)) | (refine propI ?_; conv => whnf)))
 all_goals try exact nbZ
 all_goals try (exact owZ)
 all_goals try (exact Sc.of ⟨by show n * 16 <= 140737488355328; omega, by omega⟩)
 all_goals (exact .mk [] [3] _ rfl (.aggs ⟨⟨⟨⟨trivial, .le (.refl _)⟩, .le (.refl _)⟩, .le (.refl _)⟩, evIs_own hy rfl⟩) ⟨.le (.refl _), trivial⟩ rfl)
end
end Go.Fx
