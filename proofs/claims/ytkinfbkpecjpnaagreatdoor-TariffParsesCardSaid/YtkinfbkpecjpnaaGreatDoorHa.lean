/-
 The program's line of a tariff: words, names, numbers.
-/
import Derived.Test.YtkinfbkpecjpnaaGreatDoorGy
import Derived.Test.YtkinfbkpecjpnaaGreatDoorGi
import Derived.Test.YtkinfbkpecjpnaaGreatDoorGq
import Derived.Test.YtkinfbkpecjpnaaGreatDoorGj
set_option linter.all false
/-
 The words of a line.
-/
namespace Go.Fx
open Go.Proofs Go.RowKit
structure Wd where
 t : Tx
 c : Nat
def wd0 : Wd := ⟨[], 0⟩
def wdC (w : Wd) : List AV := [.str (toS w.t), .int .i64 (w.c : Nat)]
def wdS (l : List Wd) : AV := .slc 2 l.length (fun i j => tbl (wdC (l.getD i wd0)) j)
def bkB (b : UInt8) : Bool := decide (b = 32) || decide (b = 9)
def wgo : Tx -> Nat -> Option Wd -> List Wd
 | [], _, none => []
 | [], _, some w => [w]
 | b :: s, i, none => if bkB b then wgo s (i + 1) none else wgo s (i + 1) (some ⟨[b], i + 1⟩)
 | b :: s, i, some w => if bkB b then w :: wgo s (i + 1) none else wgo s (i + 1) (some ⟨w.t ++ [b], w.c⟩)
def wordsL (l : Tx) : List Wd := wgo l 0 none
theorem wgo_n {l : Tx} {i : Nat} (h : i < l.length) (hb : bkB l[i] = true) : wgo (l.drop i) i none = wgo (l.drop (i + 1)) (i + 1) none := by
 rw [dropT_at h, wgo, if_pos hb]
theorem wgo_b {l : Tx} {i : Nat} (h : i < l.length) (hb : bkB l[i] = false) : wgo (l.drop i) i none = wgo (l.drop (i + 1)) (i + 1) (some ⟨seg l i (i + 1), i + 1⟩) := by
 rw [dropT_at h, wgo, if_neg (by rw [hb]; decide), seg_snoc h (Nat.le_refl _), seg_self]
 rfl
theorem wgo_w {l : Tx} {i f : Nat} (h : i < l.length) (hf : f <= i) (hb : bkB l[i] = false) : wgo (l.drop i) i (some ⟨seg l f i, f + 1⟩) = wgo (l.drop (i + 1)) (i + 1) (some ⟨seg l f (i + 1), f + 1⟩) := by
 rw [dropT_at h, wgo, if_neg (by rw [hb]; decide), seg_snoc h hf]
theorem wgo_e {l : Tx} {i f : Nat} (h : i < l.length) (hb : bkB l[i] = true) : wgo (l.drop i) i (some ⟨seg l f i, f + 1⟩) = ⟨seg l f i, f + 1⟩ :: wgo (l.drop (i + 1)) (i + 1) none := by
 rw [dropT_at h, wgo, if_pos hb]
theorem wgo_en (l : Tx) (i : Nat) (h : i = l.length) : wgo (l.drop i) i none = [] := by subst h; rw [List.drop_length]; rfl
theorem wgo_ew (l : Tx) (i : Nat) (w : Wd) (h : i = l.length) : wgo (l.drop i) i (some w) = [w] := by subst h; rw [List.drop_length]; rfl
theorem gdE {l : Tx} {i : Nat} (h : i < l.length) : l.getD i 32 = l[i] := by simp [List.getD_eq_getElem?_getD, h]
theorem wgo_run {l : Tx} {i : Nat} : ∀ k, i < k -> k <= l.length -> (∀ j, i <= j -> j < k -> bkB (l.getD j 32) = false) -> wgo (l.drop i) i none = wgo (l.drop k) k (some ⟨seg l i k, i + 1⟩)
 | 0, h, _, _ => by omega
 | k + 1, h, hk, hb => by
  have b := hb k (by omega) (by omega)
  have e : l.getD k 32 = l[k] := by simp [List.getD_eq_getElem?_getD, show k < l.length by omega]
  rw [e] at b
  by_cases q : k = i
  ·subst q; exact wgo_b (by omega) b
  ·rw [wgo_run k (by omega) (by omega) (fun j h1 h2 => hb j h1 (by omega)), wgo_w (by omega) (by omega) b]
theorem wgo_word {l : Tx} {i k : Nat} (h : i < k) (hk : k <= l.length) (hb : ∀ j, i <= j -> j < k -> bkB (l.getD j 32) = false) (he : k = l.length \/ bkB (l.getD k 32) = true) : wgo (l.drop i) i none = ⟨seg l i k, i + 1⟩ :: wgo (l.drop k) k none := by
 rw [wgo_run k h hk hb]
 by_cases q : k = l.length
 ·rw [wgo_ew l k _ q, wgo_en l k q]
 ·have b : bkB (l.getD k 32) = true := by rcases he with he | he; exact absurd he q; exact he
  have e : l.getD k 32 = l[k] := by simp [List.getD_eq_getElem?_getD, show k < l.length by omega]
  rw [e] at b
  rw [wgo_e (by omega) b, wgo_n (by omega) b]
theorem blk_is {s : ByteArray} {i : Nat} (h : i < s.data.toList.length) : (bif (byteAt s i == 32) then true else (byteAt s i == 9)) = bkB (s.data.toList.getD i 32) := by
 rw [byte_at h, gdE h]
 unfold bkB
 rw [show (((s.data.toList[i].toNat : Int) == 32)) = decide (s.data.toList[i] = 32) from byte_beq (b := 32), show (((s.data.toList[i].toNat : Int) == 9)) = decide (s.data.toList[i] = 9) from byte_beq (b := 9)]
 cases decide (s.data.toList[i] = 32) <;> rfl
theorem blk_not {s : ByteArray} {i : Nat} (h : i < s.data.toList.length) : (bif (byteAt s i != 32) then (byteAt s i != 9) else false) = !bkB (s.data.toList.getD i 32) := by
 rw [<- blk_is h]
 show (bif !(byteAt s i == 32) then !(byteAt s i == 9) else false) = _
 cases (byteAt s i == 32) <;> cases (byteAt s i == 9) <;> rfl
theorem blk_T {s : ByteArray} {k : Nat} (h : (bif bif decide ((k : Int) < s.size) then byteAt s (k : Int).toNat != 32 else false then byteAt s (k : Int).toNat != 9 else false) = true) : k < s.data.toList.length /\ bkB (s.data.toList.getD k 32) = false := by
 have z := size_len s
 by_cases q : (k : Int) < s.size
 ·have q2 : k < s.data.toList.length := by omega
  rw [decide_eq_true q] at h
  have e := blk_not q2
  replace h : (bif byteAt s k != 32 then byteAt s k != 9 else false) = true := h
  rw [e] at h
  exact ⟨q2, by revert h; cases bkB (s.data.toList.getD k 32) <;> decide⟩
 ·rw [decide_eq_false q] at h; cases h
theorem blk_F {s : ByteArray} {k : Nat} (hk : k <= s.data.toList.length) (h : (bif bif decide ((k : Int) < s.size) then byteAt s (k : Int).toNat != 32 else false then byteAt s (k : Int).toNat != 9 else false) = false) : k = s.data.toList.length \/ bkB (s.data.toList.getD k 32) = true := by
 have z := size_len s
 by_cases q : (k : Int) < s.size
 ·have q2 : k < s.data.toList.length := by omega
  rw [decide_eq_true q] at h
  have e := blk_not q2
  replace h : (bif byteAt s k != 32 then byteAt s k != 9 else false) = false := h
  rw [e] at h
  exact .inr (by revert h; cases bkB (s.data.toList.getD k 32) <;> decide)
 ·exact .inl (by omega)
theorem push_w {Q : List Wd} {x : Wd} {i j : Nat} {f : Nat -> Nat -> AV} (hf : ∀ j, j < 2 -> Le (f 0 j) (tbl (wdC x) j)) (hj : j < 2) (hi : i < Q.length + 1) : Le (joinF Q.length (fun i j => tbl (wdC (Q.getD i wd0)) j) f i j) (tbl (wdC ((Q ++ [x]).getD i wd0)) j) := by
 unfold joinF
 by_cases h : i < Q.length
 ·rw [if_pos h]; simp only [List.getD_eq_getElem?_getD, List.getElem?_append_left h]; exact .refl _
 ·obtain rfl : i = Q.length := by omega
  rw [if_neg h, Nat.sub_self]
  simpa [List.getD_eq_getElem?_getD] using hf j hj
section
variable {W0 : World} {G : Nat -> Option AV} (hX : (Xc W0 G).Good)
include hX
set_option maxHeartbeats 1000000 in
theorem c42 (s : ByteArray) (hs : Side (s.size <= 1000000)) : Pure (Xc W0 G) 42 [.str s] (wdS (wordsL s.data.toList)) := by
 have hs := hs.get
 refine mut_of' hX (fnI Tryz.f42) rfl ?_
 repeat' (first
  | (refine Ax.go ?_; first | (with_reducible apply Alt.one))
  | exact Cl.go
  | ((fail_if_success refine Stop.go ?_); first | (with_reducible first | apply And.intro | apply Cut.go | (refine impI ?_; intro _)) | (refine propI ?_; conv => whnf)))
 all_goals try exact nbZ
 have hsz := size_len s
 refine ⟨Nat ⊕ (List Wd × Nat), fun y => match y with | .inl i => ([(0, .str s), (3, .slc0), (4, .int .i64 (i : Nat))], []) | .inr (Q, i) => ([(0, .str s), (3, .own 0 Q.length), (4, .int .i64 (i : Nat))], [.list 105 2 Q.length (fun a j => tbl (wdC (Q.getD a wd0)) j) Q.length]), fun y => match y with | .inl i => wordsL s.data.toList = wgo (s.data.toList.drop i) i none /\ i <= s.data.toList.length | .inr (Q, i) => Q ≠ [] /\ Q.length <= i /\ wordsL s.data.toList = Q ++ wgo (s.data.toList.drop i) i none /\ i <= s.data.toList.length, fun y => match y with | .inl i => s.size - i | .inr (Q, i) => s.size - i, ⟨.inl 0, ⟨rfl, Nat.zero_le _⟩, .le ⟨rfl, trivial, rfZ⟩⟩, fun y hy => ?_⟩
 rcases y with i | ⟨Q, i⟩
 ·obtain ⟨h1, h2⟩ := hy
  repeat' (first
   | (refine Ax.go ?_; first | (with_reducible apply Alt.one))
   | exact Cl.go
   | ((fail_if_success refine Stop.go ?_); first | (with_reducible first | apply And.intro | apply Cut.go | (refine impI ?_; intro _)) | (refine propI ?_; conv => whnf)))
  all_goals try exact nbZ
  all_goals try ((with_reducible refine (?_ : Sc _ _)); (try simp only [Int.toNat_natCast]); first
   | (rename_i q; have q := of_decide_eq_true q; first | exact Sc.of ⟨by omega, by omega⟩ | (refine Sc.imp fun _ => ?_; exact ⟨by omega, by omega⟩))
   | (rename_i q _; have q := of_decide_eq_true q; first | exact Sc.of ⟨by omega, by omega⟩ | (refine Sc.imp fun _ => ?_; exact ⟨by omega, by omega⟩))
   | (exact Sc.of ⟨by omega, by omega⟩) | (exact Sc.of ⟨show _ <= 140737488355328 by omega, show _ <= 9223372036854775807 by omega⟩))
  ·rename_i q q2; have q := of_decide_eq_true q
   have b := (blk_is (i := i) (by omega)).symm.trans q2
   rw [gdE (by omega)] at b
   exact ⟨.inl (i + 1), ⟨by rw [h1, wgo_n (by omega) b], by omega⟩, by show s.size - (i + 1) < s.size - i; omega, .le ⟨rfl, trivial, rfZ⟩⟩
  ·rename_i q q2; have q := of_decide_eq_true q
   have b := (blk_is (i := i) (by omega)).symm.trans q2
   refine ⟨Nat, fun k => ([(0, .str s), (3, .slc0), (4, .int .i64 (k : Nat)), (5, .int .i64 (i : Nat))], []), fun k => i <= k /\ k <= s.data.toList.length /\ ∀ j, i <= j -> j < k -> bkB (s.data.toList.getD j 32) = false, fun k => s.size - k, ⟨i, ⟨Nat.le_refl _, by omega, fun j _ _ => by omega⟩, .le ⟨rfl, trivial, rfZ⟩⟩, fun k hk => ?_⟩
   obtain ⟨k1, k2, k3⟩ := hk
   repeat' (first
    | (refine Ax.go ?_; first | (with_reducible apply Alt.one))
    | exact Cl.go
    | ((fail_if_success refine Stop.go ?_); first | (with_reducible first | apply And.intro | apply Cut.go | (refine impI ?_; intro _)) | (refine propI ?_; conv => whnf)))
   all_goals try exact nbZ
   all_goals try ((with_reducible refine (?_ : Sc _ _)); (try simp only [Int.toNat_natCast]); first
    | (rename_i q; have q := of_decide_eq_true q; first | exact Sc.of ⟨by omega, by omega⟩ | (refine Sc.imp fun _ => ?_; exact ⟨by omega, by omega⟩))
    | (rename_i q _; have q := of_decide_eq_true q; first | exact Sc.of ⟨by omega, by omega⟩ | (refine Sc.imp fun _ => ?_; exact ⟨by omega, by omega⟩))
    | (exact Sc.of ⟨by omega, by omega⟩) | (exact Sc.of ⟨show _ <= 140737488355328 by omega, show _ <= 9223372036854775807 by omega⟩))
   all_goals try ((with_reducible refine (?_ : Sc _ _)); first | (refine Sc.imp fun w => ?_; have w := of_decide_eq_true w; exact ⟨by omega, by omega⟩) | (refine Sc.imp fun w => ?_; have w : k < s.size := by { by_cases q : (k : Int) < s.size; omega; rw [decide_eq_false q] at w; cases w }; exact ⟨by omega, by omega⟩))
   ·rename_i q; obtain ⟨b1, b2⟩ := blk_T q
    refine ⟨k + 1, ⟨by omega, by omega, fun j h1 h2 => ?_⟩, by show s.size - (k + 1) < s.size - k; omega, .le ⟨rfl, trivial, rfZ⟩⟩
    by_cases e : j = k
    ·subst e; exact b2
    ·exact k3 j h1 (by omega)
   ·rename_i q; have b1 := blk_F k2 q
    have ik : i < k := by
     rcases Nat.lt_or_ge i k with w | w
     ·exact w
     ·obtain rfl : k = i := by omega
      rcases b1 with b1 | b1
      ·omega
      ·rw [b] at b1; cases b1
    have ww := wgo_word ik k2 k3 b1
    refine ⟨.inr ([(⟨seg s.data.toList i k, i + 1⟩ : Wd)], k), ⟨by simp, by simp; omega, by rw [h1, ww]; simp, k2⟩, by show s.size - k < s.size - i; omega, ?_⟩
    have hln : [(⟨seg s.data.toList i k, i + 1⟩ : Wd)].length = 1 := by simp
    refine .le ⟨rfl, ⟨?_, trivial⟩, ⟨.refl _, ?_, .refl _, trivial⟩⟩
    ·show LeO (.list 105 2 _ _ _) (.list 105 2 ([(⟨seg s.data.toList i k, i + 1⟩ : Wd)]).length (fun a j => tbl (wdC (([(⟨seg s.data.toList i k, i + 1⟩ : Wd)]).getD a wd0)) j) ([(⟨seg s.data.toList i k, i + 1⟩ : Wd)]).length)
     rw [hln]
     refine .list (fun a j ha hj => ?_)
     replace ha : a < 1 := ha; obtain rfl : a = 0 := by omega
     replace hj : j < 2 := hj
     revert j; exact fun j hj => by rcases (show j = 0 \/ j = 1 by omega) with rfl | rfl; exact Le.ofEq (congrArg AV.str (ext_seg _ _ _)); exact Le.intI rfl
    ·show Le (.own 0 _) (.own 0 ([(⟨seg s.data.toList i k, i + 1⟩ : Wd)]).length)
     rw [hln]; exact .refl _
  ·rename_i q; have q := of_decide_eq_false q
   have e : wordsL s.data.toList = [] := by rw [h1, wgo_en _ _ (by omega)]
   rw [e]
   exact .mk [] [] _ rfl (.le (Le.slc0 2 _)) trivial rfl
 ·obtain ⟨h0, h3, h1, h2⟩ := hy
  repeat' (first
   | (refine Ax.go ?_; first | (with_reducible apply Alt.one))
   | exact Cl.go
   | ((fail_if_success refine Stop.go ?_); first | rw [beqvv Q.length] | (with_reducible first | apply And.intro | apply Cut.go | (refine impI ?_; intro _)) | (refine propI ?_; conv => whnf)))
  all_goals try exact nbZ
  all_goals try ((with_reducible refine (?_ : Sc _ _)); (try simp only [Int.toNat_natCast]); first
   | (rename_i q; have q := of_decide_eq_true q; first | exact Sc.of ⟨by omega, by omega⟩ | (refine Sc.imp fun _ => ?_; exact ⟨by omega, by omega⟩))
   | (rename_i q _; have q := of_decide_eq_true q; first | exact Sc.of ⟨by omega, by omega⟩ | (refine Sc.imp fun _ => ?_; exact ⟨by omega, by omega⟩))
   | (exact Sc.of ⟨by omega, by omega⟩) | (exact Sc.of ⟨show _ <= 140737488355328 by omega, show _ <= 9223372036854775807 by omega⟩))
  ·rename_i q q2; have q := of_decide_eq_true q
   have b := (blk_is (i := i) (by omega)).symm.trans q2
   rw [gdE (by omega)] at b
   exact ⟨.inr (Q, i + 1), ⟨h0, by omega, by rw [h1, wgo_n (by omega) b], by omega⟩, by show s.size - (i + 1) < s.size - i; omega, .le ⟨rfl, ⟨.refl _, trivial⟩, rfZ⟩⟩
  ·rename_i q q2; have q := of_decide_eq_true q
   have b := (blk_is (i := i) (by omega)).symm.trans q2
   refine ⟨Nat, fun k => ([(0, .str s), (3, .own 0 Q.length), (4, .int .i64 (k : Nat)), (5, .int .i64 (i : Nat))], [.list 105 2 Q.length (fun a j => tbl (wdC (Q.getD a wd0)) j) Q.length]), fun k => i <= k /\ k <= s.data.toList.length /\ ∀ j, i <= j -> j < k -> bkB (s.data.toList.getD j 32) = false, fun k => s.size - k, ⟨i, ⟨Nat.le_refl _, by omega, fun j _ _ => by omega⟩, .le ⟨rfl, ⟨.refl _, trivial⟩, rfZ⟩⟩, fun k hk => ?_⟩
   obtain ⟨k1, k2, k3⟩ := hk
   repeat' (first
    | (refine Ax.go ?_; first | (with_reducible apply Alt.one))
    | exact Cl.go
    | ((fail_if_success refine Stop.go ?_); first | rw [beqvv Q.length] | rw [beqvv (Q.length + 1)] | (with_reducible first | apply And.intro | apply Cut.go | (refine impI ?_; intro _)) | (refine propI ?_; conv => whnf)))
   all_goals try exact nbZ
   all_goals try ((with_reducible refine (?_ : Sc _ _)); (try simp only [Int.toNat_natCast]); first
    | (rename_i q; have q := of_decide_eq_true q; first | exact Sc.of ⟨by omega, by omega⟩ | (refine Sc.imp fun _ => ?_; exact ⟨by omega, by omega⟩))
    | (rename_i q _; have q := of_decide_eq_true q; first | exact Sc.of ⟨by omega, by omega⟩ | (refine Sc.imp fun _ => ?_; exact ⟨by omega, by omega⟩))
    | (exact Sc.of ⟨by omega, by omega⟩) | (exact Sc.of ⟨show _ <= 140737488355328 by omega, show _ <= 9223372036854775807 by omega⟩))
   all_goals try ((with_reducible refine (?_ : Sc _ _)); first | (refine Sc.imp fun w => ?_; have w := of_decide_eq_true w; exact ⟨by omega, by omega⟩) | (refine Sc.imp fun w => ?_; have w : k < s.size := by { by_cases q : (k : Int) < s.size; omega; rw [decide_eq_false q] at w; cases w }; exact ⟨by omega, by omega⟩))
   ·rename_i q; obtain ⟨b1, b2⟩ := blk_T q
    refine ⟨k + 1, ⟨by omega, by omega, fun j h1 h2 => ?_⟩, by show s.size - (k + 1) < s.size - k; omega, .le ⟨rfl, ⟨.refl _, trivial⟩, rfZ⟩⟩
    by_cases e : j = k
    ·subst e; exact b2
    ·exact k3 j h1 (by omega)
   ·rename_i q; have b1 := blk_F k2 q
    have ik : i < k := by
     rcases Nat.lt_or_ge i k with w | w
     ·exact w
     ·obtain rfl : k = i := by omega
      rcases b1 with b1 | b1
      ·omega
      ·rw [b] at b1; cases b1
    have ww := wgo_word ik k2 k3 b1
    refine ⟨.inr ((Q ++ [(⟨seg s.data.toList i k, i + 1⟩ : Wd)]), k), ⟨by simp, by simp; omega, by rw [h1, ww]; simp, k2⟩, by show s.size - k < s.size - i; omega, ?_⟩
    have hln : (Q ++ [(⟨seg s.data.toList i k, i + 1⟩ : Wd)]).length = (Q.length + 1) := by simp
    refine .le ⟨rfl, ⟨?_, trivial⟩, ⟨.refl _, ?_, .refl _, trivial⟩⟩
    ·show LeO (.list 105 2 _ _ _) (.list 105 2 ((Q ++ [(⟨seg s.data.toList i k, i + 1⟩ : Wd)])).length (fun a j => tbl (wdC (((Q ++ [(⟨seg s.data.toList i k, i + 1⟩ : Wd)])).getD a wd0)) j) ((Q ++ [(⟨seg s.data.toList i k, i + 1⟩ : Wd)])).length)
     rw [hln]
     refine .list (fun a j ha hj => ?_)
     exact push_w (by exact fun j hj => by rcases (show j = 0 \/ j = 1 by omega) with rfl | rfl; exact Le.ofEq (congrArg AV.str (ext_seg _ _ _)); exact Le.intI rfl) hj ha
    ·show Le (.own 0 _) (.own 0 ((Q ++ [(⟨seg s.data.toList i k, i + 1⟩ : Wd)])).length)
     rw [hln]; exact .refl _
  ·rename_i q; have q := of_decide_eq_false q
   have e : wordsL s.data.toList = Q := by rw [h1, wgo_en _ _ (by omega), List.append_nil]
   rw [e]
   exact .mk [] [0] _ rfl (.own rfl fun a j ha hj => .refl _) trivial rfl
end
end Go.Fx
/-
 The program's words of a line.
-/
namespace Go.Fx
open Go.Proofs Go.RowKit
structure Ln where
 ws : List Wd
 en : Nat
 e : Int
 c : Int
def lnO (l : Ln) : HObj := .box [wdS l.ws, .int .i64 (l.en : Nat), .int .i64 l.e, .int .i64 l.c]
def bgI : Option Nat -> Int
 | none => -1
 | some f => (f : Nat)
def obW (l : Tx) (i : Nat) : Option Nat -> Option Wd
 | none => none
 | some f => some ⟨seg l f i, f + 1⟩
def enW (ws : List Wd) : Nat := match ws.getLast? with
 | none => 0
 | some w => w.c + w.t.length
theorem enW_snoc (Q : List Wd) (w : Wd) : enW (Q ++ [w]) = w.c + w.t.length := by unfold enW; simp
theorem seg_len {l : Tx} {f i : Nat} (h : i <= l.length) : (seg l f i).length = i - f := by unfold seg; rw [List.length_take, List.length_drop]; omega
def bkC (s : ByteArray) (i : Nat) : Bool := bif (bif ((i : Int) == s.size) then true else byteAt s i == 32) then true else byteAt s i == 9
theorem bkC_len {s : ByteArray} {i : Nat} (h : i = s.data.toList.length) : bkC s i = true := by
 have z := size_len s
 unfold bkC
 rw [show ((i : Int) == s.size) = true from by rw [beq_iff_eq]; omega]
 rfl
theorem bkC_lt {s : ByteArray} {i : Nat} (h : i < s.data.toList.length) : bkC s i = bkB (s.data.toList.getD i 32) := by
 have z := size_len s
 unfold bkC
 rw [show ((i : Int) == s.size) = false from by rw [beq_eq_false_iff_ne]; omega]
 exact blk_is h
theorem bg_0 {b : Option Nat} (h : bgI b < 0) : b = none := by cases b with
 | none => rfl
 | some f => exact absurd h (by show ¬ ((f : Nat) : Int) < 0; omega)
theorem bg_1 {b : Option Nat} (h : 0 <= bgI b) : ∃ f, b = some f := by cases b with
 | none => exact absurd h (by decide)
 | some f => exact ⟨f, rfl⟩
theorem brA {s : ByteArray} {i : Nat} {b : Option Nat} (hi : i <= s.data.toList.length) (h : (bif !bkC s i then decide (bgI b < 0) else false) = true) : i < s.data.toList.length /\ bkB (s.data.toList.getD i 32) = false /\ b = none := by
 rcases Nat.lt_or_ge i s.data.toList.length with k | k
 ·rw [bkC_lt k] at h
  cases e : bkB (s.data.toList.getD i 32) with
  | true => rw [e] at h; cases h
  | false => rw [e] at h; exact ⟨k, rfl, bg_0 (of_decide_eq_true h)⟩
 ·rw [bkC_len (by omega)] at h; cases h
theorem brB {s : ByteArray} {i : Nat} {b : Option Nat} (hi : i <= s.data.toList.length) (h : (bif bkC s i then decide (0 <= bgI b) else false) = true) : (i = s.data.toList.length \/ bkB (s.data.toList.getD i 32) = true) /\ ∃ f, b = some f := by
 rcases Nat.lt_or_ge i s.data.toList.length with k | k
 ·rw [bkC_lt k] at h
  cases e : bkB (s.data.toList.getD i 32) with
  | false => rw [e] at h; cases h
  | true => rw [e] at h; exact ⟨.inr rfl, bg_1 (of_decide_eq_true h)⟩
 ·rw [bkC_len (by omega)] at h; exact ⟨.inl (by omega), bg_1 (of_decide_eq_true h)⟩
theorem brC {s : ByteArray} {i : Nat} {b : Option Nat} (hi : i <= s.data.toList.length) (h1 : (bif !bkC s i then decide (bgI b < 0) else false) = false) (h2 : (bif bkC s i then decide (0 <= bgI b) else false) = false) : ((i < s.data.toList.length /\ bkB (s.data.toList.getD i 32) = false) /\ ∃ f, b = some f) \/ ((i = s.data.toList.length \/ bkB (s.data.toList.getD i 32) = true) /\ b = none) := by
 cases e : bkC s i with
 | false =>
  rw [e] at h1
  have q := of_decide_eq_false h1
  rcases Nat.lt_or_ge i s.data.toList.length with k | k
  ·exact .inl ⟨⟨k, by rw [<- bkC_lt k]; exact e⟩, bg_1 (by omega)⟩
  ·rw [bkC_len (by omega)] at e; cases e
 | true =>
  rw [e] at h2
  have q := of_decide_eq_false h2
  refine .inr ⟨?_, bg_0 (by omega)⟩
  rcases Nat.lt_or_ge i s.data.toList.length with k | k
  ·exact .inr (by rw [<- bkC_lt k]; exact e)
  ·exact .inl (by omega)
theorem nxPA {l : Tx} {i : Nat} (h : i < l.length) (hb : bkB (l.getD i 32) = false) : wgo (l.drop i) i (obW l i none) = wgo (l.drop (i + 1)) (i + 1) (obW l (i + 1) (some i)) := by
 rw [gdE h] at hb; exact wgo_b h hb
theorem nxW {l : Tx} {i f : Nat} (h : i < l.length) (hf : f < i) (hb : bkB (l.getD i 32) = false) : wgo (l.drop i) i (obW l i (some f)) = wgo (l.drop (i + 1)) (i + 1) (obW l (i + 1) (some f)) := by
 rw [gdE h] at hb; exact wgo_w h (Nat.le_of_lt hf) hb
theorem nxN {l : Tx} {i : Nat} (hi : i <= l.length) (hb : i = l.length \/ bkB (l.getD i 32) = true) : wgo (l.drop i) i (obW l i none) = wgo (l.drop (i + 1)) (i + 1) (obW l (i + 1) none) := by
 by_cases h : i = l.length
 ·subst h; rw [List.drop_length, List.drop_eq_nil_of_le (by omega)]; rfl
 ·rcases hb with hb | hb
  ·exact absurd hb h
  ·rw [gdE (by omega)] at hb; exact wgo_n (by omega) hb
theorem nxB {l : Tx} {i f : Nat} (hi : i <= l.length) (hb : i = l.length \/ bkB (l.getD i 32) = true) : wgo (l.drop i) i (obW l i (some f)) = ⟨seg l f i, f + 1⟩ :: wgo (l.drop (i + 1)) (i + 1) (obW l (i + 1) none) := by
 by_cases h : i = l.length
 ·subst h; rw [List.drop_length, List.drop_eq_nil_of_le (by omega)]; rfl
 ·rcases hb with hb | hb
  ·exact absurd hb h
  ·rw [gdE (by omega)] at hb; exact wgo_e (by omega) hb
theorem wgo_end {l : Tx} {i : Nat} {b : Option Nat} (hi : ¬ i <= l.length) (hb : i <= l.length \/ b = none) : wgo (l.drop i) i (obW l i b) = [] := by
 rcases hb with hb | hb
 ·exact absurd hb hi
 ·subst hb; rw [List.drop_eq_nil_of_le (by omega)]; rfl
def lnOf (l : Tx) : Ln := ⟨wordsL l, enW (wordsL l), 0, 0⟩
section
variable {W0 : World} {G : Nat -> Option AV} (hX : (Xc W0 G).Good)
include hX
set_option maxHeartbeats 1000000 in
theorem c38 (s : ByteArray) (hs : Side (s.size <= 1000000)) : Mut (Xc W0 G) 38 [.str s] [] (.ptr 0 0) [lnO (lnOf s.data.toList)] := by
 have hs := hs.get
 refine mut_of' hX (fnI Tryz.f38) rfl ?_
 repeat' (first
  | (refine Ax.go ?_; first | (with_reducible apply Alt.one))
  | exact Cl.go
  | ((fail_if_success refine Stop.go ?_); first | (with_reducible first | apply And.intro | apply Cut.go | (refine impI ?_; intro _)) | (refine propI ?_; conv => whnf)))
 all_goals try exact nbZ
 have hsz := size_len s
 refine ⟨(Nat × Option Nat) ⊕ (List Wd × Nat × Option Nat), fun y => match y with | .inl (i, b) => ([(0, .str s), (3, .ptr 0 0), (4, .int .i64 (bgI b)), (5, .int .i64 (i : Nat))], [.box [.slc0, .int .i64 ((enW [] : Nat) : Int), .int .i64 0, .int .i64 0]]) | .inr (Q, i, b) => ([(0, .str s), (3, .ptr 0 0), (4, .int .i64 (bgI b)), (5, .int .i64 (i : Nat))], [.box [.own 1 Q.length, .int .i64 ((enW Q : Nat) : Int), .int .i64 0, .int .i64 0], .list 160 2 Q.length (fun a j => tbl (wdC (Q.getD a wd0)) j) Q.length]), fun y => match y with | .inl (i, b) => wordsL s.data.toList = wgo (s.data.toList.drop i) i (obW s.data.toList i b) /\ i <= s.data.toList.length + 1 /\ (i <= s.data.toList.length \/ b = none) /\ (∀ f, b = some f -> f < i) | .inr (Q, i, b) => Q ≠ [] /\ Q.length <= i /\ wordsL s.data.toList = Q ++ wgo (s.data.toList.drop i) i (obW s.data.toList i b) /\ i <= s.data.toList.length + 1 /\ (i <= s.data.toList.length \/ b = none) /\ (∀ f, b = some f -> f < i), fun y => match y with | .inl (i, b) => s.size + 1 - i | .inr (Q, i, b) => s.size + 1 - i, ⟨.inl (0, none), ⟨rfl, Nat.zero_le _, .inr rfl, by simp⟩, .le ⟨rfl, ⟨.refl _, trivial⟩, rfZ⟩⟩, fun y hy => ?_⟩
 rcases y with ⟨i, b⟩ | ⟨Q, i, b⟩
 ·obtain ⟨h1, h2, h3, h4⟩ := hy
  repeat' (first
   | (refine Ax.go ?_; first | (with_reducible apply Alt.one))
   | exact Cl.go
   | ((fail_if_success refine Stop.go ?_); first | (with_reducible first | apply And.intro | apply Cut.go | (refine impI ?_; intro _)) | (refine propI ?_; conv => whnf)))
  all_goals try exact nbZ
  all_goals try ((with_reducible refine (?_ : Sc (some _) _)); rename_i q; have q := of_decide_eq_true q; refine Sc.imp fun w => ?_; have q2 : ¬ (i : Int) = s.size := by { intro e; rw [show ((i : Int) == s.size) = true from by rw [beq_iff_eq]; exact e] at w; cases w }; exact ⟨by omega, by omega⟩)
  all_goals try ((with_reducible refine (?_ : Sc none _)); first
   | (rename_i q _; have q := of_decide_eq_true q; exact Sc.of ⟨by omega, by omega⟩)
   | (rename_i q _ _; have q := of_decide_eq_true q; exact Sc.of ⟨by omega, by omega⟩)
   | (rename_i q _ q2; have q := of_decide_eq_true q; obtain ⟨u1, f, rfl⟩ := brB (by omega) q2; have v1 := h4 f rfl; first | exact Sc.of ⟨by show 0 <= ((f : Nat) : Int); omega, by show ((f : Nat) : Int) <= i; omega, by omega⟩ | exact Sc.of ⟨by show _ <= ((f : Nat) : Int) + 1; omega, by show ((f : Nat) : Int) + 1 <= _; omega⟩)
   | (exact Sc.of ⟨Nat.le_of_ble_eq_true rfl, Nat.le_of_ble_eq_true rfl⟩)
   | (rename_i q _ q2; have q := of_decide_eq_true q; exact Sc.of ⟨show (Q.length + (0 + 1)) * 24 <= 140737488355328 by omega, show Q.length + (0 + 1) <= 9223372036854775807 by omega⟩))
  ·rename_i q q2; have q := of_decide_eq_true q
   obtain ⟨u1, u2, rfl⟩ := brA (by omega) q2
   exact ⟨.inl (i + 1, some i), ⟨by rw [h1, nxPA u1 u2], by omega, .inl (by omega), fun f e => by cases e; omega⟩, by show s.size + 1 - (i + 1) < s.size + 1 - i; omega, .le ⟨rfl, ⟨.refl _, trivial⟩, rfZ⟩⟩
  ·rename_i q q3 q2; have q := of_decide_eq_true q
   obtain ⟨u1, f, rfl⟩ := brB (by omega) q2
   have v1 := h4 f rfl
   have hln : [(⟨seg s.data.toList f i, f + 1⟩ : Wd)].length = 1 := by simp
   have hen : (enW [(⟨seg s.data.toList f i, f + 1⟩ : Wd)] : Int) = (i : Int) + 1 := by
    have w := enW_snoc [] ⟨seg s.data.toList f i, f + 1⟩
    rw [show (⟨seg s.data.toList f i, f + 1⟩ : Wd).t.length = i - f from seg_len (by omega)] at w
    have w : enW [(⟨seg s.data.toList f i, f + 1⟩ : Wd)] = f + 1 + (i - f) := w
    rw [w]; omega
   refine ⟨.inr ([(⟨seg s.data.toList f i, f + 1⟩ : Wd)], i + 1, none), ⟨by simp, by rw [hln]; omega, by rw [h1, nxB (by omega) u1]; simp, by omega, .inr rfl, by simp⟩, by show s.size + 1 - (i + 1) < s.size + 1 - i; omega, .le ⟨rfl, ⟨.boxes ⟨?_, .intI hen.symm, .refl _, .refl _, trivial⟩, ?_, trivial⟩, rfZ⟩⟩
   ·show Le (.own 1 _) (.own 1 ([(⟨seg s.data.toList f i, f + 1⟩ : Wd)]).length)
    rw [hln]; exact .refl _
   ·show LeO (.list 160 2 _ _ _) (.list 160 2 ([(⟨seg s.data.toList f i, f + 1⟩ : Wd)]).length (fun a j => tbl (wdC (([(⟨seg s.data.toList f i, f + 1⟩ : Wd)]).getD a wd0)) j) ([(⟨seg s.data.toList f i, f + 1⟩ : Wd)]).length)
    rw [hln]
    refine .list (fun a j ha hj => ?_)
    replace ha : a < 1 := ha; obtain rfl : a = 0 := by omega
    replace hj : j < 2 := hj
    revert j; exact fun j hj => by rcases (show j = 0 \/ j = 1 by omega) with rfl | rfl; exact Le.ofEq (congrArg AV.str (ext_seg _ _ _)); exact Le.intI rfl
  ·rename_i q q3 q2; have q := of_decide_eq_true q
   rcases brC (by omega) q3 q2 with ⟨⟨u1, u2⟩, f, rfl⟩ | ⟨u1, rfl⟩
   ·have v1 := h4 f rfl
    exact ⟨.inl (i + 1, some f), ⟨by rw [h1, nxW u1 v1 u2], by omega, .inl (by omega), fun f e => by cases e; omega⟩, by show s.size + 1 - (i + 1) < s.size + 1 - i; omega, .le ⟨rfl, ⟨.refl _, trivial⟩, rfZ⟩⟩
   ·exact ⟨.inl (i + 1, none), ⟨by rw [h1, nxN (by omega) u1], by omega, .inr rfl, fun f e => by cases e⟩, by show s.size + 1 - (i + 1) < s.size + 1 - i; omega, .le ⟨rfl, ⟨.refl _, trivial⟩, rfZ⟩⟩
  ·rename_i q; have q := of_decide_eq_false q
   have e : wordsL s.data.toList = [] := by rw [h1, wgo_end (by omega) h3]
   unfold lnOf; rw [e]
   exact .mk [0] [] _ rfl (.le (.refl _)) ⟨.le (.boxes ⟨Le.slc0 2 _, .refl _, .refl _, .refl _, trivial⟩), trivial⟩ rfl
 ·obtain ⟨h0, h5, h1, h2, h3, h4⟩ := hy
  repeat' (first
   | (refine Ax.go ?_; first | (with_reducible apply Alt.one))
   | exact Cl.go
   | ((fail_if_success refine Stop.go ?_); first | rw [beqvv Q.length] | (with_reducible first | apply And.intro | apply Cut.go | (refine impI ?_; intro _)) | (refine propI ?_; conv => whnf)))
  all_goals try exact nbZ
  all_goals try ((with_reducible refine (?_ : Sc (some _) _)); rename_i q; have q := of_decide_eq_true q; refine Sc.imp fun w => ?_; have q2 : ¬ (i : Int) = s.size := by { intro e; rw [show ((i : Int) == s.size) = true from by rw [beq_iff_eq]; exact e] at w; cases w }; exact ⟨by omega, by omega⟩)
  all_goals try ((with_reducible refine (?_ : Sc none _)); first
   | (rename_i q _; have q := of_decide_eq_true q; exact Sc.of ⟨by omega, by omega⟩)
   | (rename_i q _ _; have q := of_decide_eq_true q; exact Sc.of ⟨by omega, by omega⟩)
   | (rename_i q _ q2; have q := of_decide_eq_true q; obtain ⟨u1, f, rfl⟩ := brB (by omega) q2; have v1 := h4 f rfl; first | exact Sc.of ⟨by show 0 <= ((f : Nat) : Int); omega, by show ((f : Nat) : Int) <= i; omega, by omega⟩ | exact Sc.of ⟨by show _ <= ((f : Nat) : Int) + 1; omega, by show ((f : Nat) : Int) + 1 <= _; omega⟩)
   | (exact Sc.of ⟨Nat.le_of_ble_eq_true rfl, Nat.le_of_ble_eq_true rfl⟩)
   | (rename_i q _ q2; have q := of_decide_eq_true q; exact Sc.of ⟨show (Q.length + (0 + 1)) * 24 <= 140737488355328 by omega, show Q.length + (0 + 1) <= 9223372036854775807 by omega⟩))
  ·rename_i q q2; have q := of_decide_eq_true q
   obtain ⟨u1, u2, rfl⟩ := brA (by omega) q2
   exact ⟨.inr (Q, i + 1, some i), ⟨h0, by omega, by rw [h1, nxPA u1 u2], by omega, .inl (by omega), fun f e => by cases e; omega⟩, by show s.size + 1 - (i + 1) < s.size + 1 - i; omega, .le ⟨rfl, ⟨.refl _, ⟨.refl _, trivial⟩⟩, rfZ⟩⟩
  ·rename_i q q3 q2; have q := of_decide_eq_true q
   obtain ⟨u1, f, rfl⟩ := brB (by omega) q2
   have v1 := h4 f rfl
   have hln : (Q ++ [(⟨seg s.data.toList f i, f + 1⟩ : Wd)]).length = (Q.length + 1) := by simp
   have hen : (enW (Q ++ [(⟨seg s.data.toList f i, f + 1⟩ : Wd)]) : Int) = (i : Int) + 1 := by
    have w := enW_snoc Q ⟨seg s.data.toList f i, f + 1⟩
    rw [show (⟨seg s.data.toList f i, f + 1⟩ : Wd).t.length = i - f from seg_len (by omega)] at w
    have w : enW (Q ++ [(⟨seg s.data.toList f i, f + 1⟩ : Wd)]) = f + 1 + (i - f) := w
    rw [w]; omega
   refine ⟨.inr ((Q ++ [(⟨seg s.data.toList f i, f + 1⟩ : Wd)]), i + 1, none), ⟨by simp, by rw [hln]; omega, by rw [h1, nxB (by omega) u1]; simp, by omega, .inr rfl, by simp⟩, by show s.size + 1 - (i + 1) < s.size + 1 - i; omega, .le ⟨rfl, ⟨.boxes ⟨?_, .intI hen.symm, .refl _, .refl _, trivial⟩, ?_, trivial⟩, rfZ⟩⟩
   ·show Le (.own 1 _) (.own 1 ((Q ++ [(⟨seg s.data.toList f i, f + 1⟩ : Wd)])).length)
    rw [hln]; exact .refl _
   ·show LeO (.list 160 2 _ _ _) (.list 160 2 ((Q ++ [(⟨seg s.data.toList f i, f + 1⟩ : Wd)])).length (fun a j => tbl (wdC (((Q ++ [(⟨seg s.data.toList f i, f + 1⟩ : Wd)])).getD a wd0)) j) ((Q ++ [(⟨seg s.data.toList f i, f + 1⟩ : Wd)])).length)
    rw [hln]
    refine .list (fun a j ha hj => ?_)
    exact push_w (by exact fun j hj => by rcases (show j = 0 \/ j = 1 by omega) with rfl | rfl; exact Le.ofEq (congrArg AV.str (ext_seg _ _ _)); exact Le.intI rfl) hj ha
  ·rename_i q q3 q2; have q := of_decide_eq_true q
   rcases brC (by omega) q3 q2 with ⟨⟨u1, u2⟩, f, rfl⟩ | ⟨u1, rfl⟩
   ·have v1 := h4 f rfl
    exact ⟨.inr (Q, i + 1, some f), ⟨h0, by omega, by rw [h1, nxW u1 v1 u2], by omega, .inl (by omega), fun f e => by cases e; omega⟩, by show s.size + 1 - (i + 1) < s.size + 1 - i; omega, .le ⟨rfl, ⟨.refl _, ⟨.refl _, trivial⟩⟩, rfZ⟩⟩
   ·exact ⟨.inr (Q, i + 1, none), ⟨h0, by omega, by rw [h1, nxN (by omega) u1], by omega, .inr rfl, fun f e => by cases e⟩, by show s.size + 1 - (i + 1) < s.size + 1 - i; omega, .le ⟨rfl, ⟨.refl _, ⟨.refl _, trivial⟩⟩, rfZ⟩⟩
  ·rename_i q; have q := of_decide_eq_false q
   have e : wordsL s.data.toList = Q := by rw [h1, wgo_end (by omega) h3]; simp
   unfold lnOf; rw [e]
   exact .mk [0] [1] _ rfl (.le (.refl _)) ⟨.box ⟨.own rfl (fun _ _ _ _ => .refl _), .le (.refl _), .le (.refl _), .le (.refl _), trivial⟩, trivial⟩ rfl
end
end Go.Fx
/-
 The program's line: fail, next, name.
-/
namespace Go.Fx
open Go.Proofs Go.RowKit
def failL (l : Ln) (e c : Int) : Ln := bif l.e == 0 then { l with e := e, c := c } else l
def nextL (g : Tx -> Int) (l : Ln) : Ln := match l.ws with
 | [] => failL l 6 (l.en : Nat)
 | w :: r => bif g w.t != 0 then failL { l with ws := r } (g w.t) w.c else { l with ws := r }
def nextW (l : Ln) : Tx := match l.ws with
 | [] => []
 | w :: _ => w.t
theorem nextL_1 {g : Tx -> Int} {w : Wd} {r : List Wd} {en : Nat} {e c : Int} (h : (g w.t != 0) = true) : nextL g ⟨w :: r, en, e, c⟩ = failL ⟨r, en, e, c⟩ (g w.t) w.c := by
 show (bif g w.t != 0 then failL ⟨r, en, e, c⟩ (g w.t) w.c else ⟨r, en, e, c⟩) = _; rw [h]; rfl
theorem nextL_0 {g : Tx -> Int} {w : Wd} {r : List Wd} {en : Nat} {e c : Int} (h : (g w.t != 0) = false) : nextL g ⟨w :: r, en, e, c⟩ = ⟨r, en, e, c⟩ := by
 show (bif g w.t != 0 then failL ⟨r, en, e, c⟩ (g w.t) w.c else ⟨r, en, e, c⟩) = _; rw [h]; rfl
structure LnOk (l : Ln) : Prop where
 n : l.ws.length <= 1000
 t : ∀ w, w ∈ l.ws -> w.t.length <= 600
theorem le_tail (w : Wd) (r : List Wd) : Le (.slc 2 (((w :: r).length : Int).toNat - Int.toNat 1) fun q j => (fun i j => tbl (wdC ((w :: r).getD i wd0)) j) (Int.toNat 1 + q) j) (wdS r) :=
 .slcN rfl fun i j _ _ => by
  show Le (tbl (wdC ((w :: r).getD (1 + i) wd0)) j) _
  rw [Nat.add_comm]; exact .refl _
theorem nextW_le {l : Ln} (h : LnOk l) : (nextW l).length <= 600 := by
 rcases l with ⟨_ | ⟨w, r⟩, en, e, c⟩
 ·exact Nat.zero_le _
 ·exact h.t w (List.mem_cons_self ..)
theorem failL_ws (l : Ln) (e c : Int) : (failL l e c).ws = l.ws := by unfold failL; cases l.e == 0 <;> rfl
theorem nextL_ws (g : Tx -> Int) (l : Ln) : (nextL g l).ws = l.ws.tail := by
 rcases l with ⟨_ | ⟨w, r⟩, en, e, c⟩
 ·exact failL_ws _ _ _
 ·show (bif g w.t != 0 then failL ⟨r, en, e, c⟩ (g w.t) w.c else ⟨r, en, e, c⟩).ws = r
  cases g w.t != 0
  ·rfl
  ·exact failL_ws _ _ _
theorem LnOk.next {l : Ln} (h : LnOk l) (g : Tx -> Int) : LnOk (nextL g l) :=
 ⟨by rw [nextL_ws, List.length_tail]; have := h.n; omega, fun w hw => h.t w (by rw [nextL_ws] at hw; exact List.mem_of_mem_tail hw)⟩
theorem failL_0 {l : Ln} {e c : Int} (h : (l.e == 0) = true) : failL l e c = { l with e := e, c := c } := by unfold failL; rw [h]; rfl
theorem failL_1 {l : Ln} {e c : Int} (h : (l.e == 0) = false) : failL l e c = l := by unfold failL; rw [h]; rfl
section
variable {W0 : World} {G : Nat -> Option AV} (hX : (Xc W0 G).Good)
include hX
theorem c129 (l : Ln) (e c : Int) : Mut (Xc W0 G) 129 [.ptr 0 0, .int .i64 e, .int .i64 c] [lnO l] (tupAV []) [lnO (failL l e c)] := by
 refine mut_of' hX (fnI Tryz.f129) rfl ?_
 repeat' (first
  | (refine Ax.go ?_; first | (with_reducible apply Alt.one))
  | exact Cl.go
  | ((fail_if_success refine Stop.go ?_); first | (with_reducible first | apply And.intro | apply Cut.go | (refine impI ?_; intro _)) | (refine propI ?_; conv => whnf)))
 all_goals try exact nbZ
 ·rename_i h; rw [failL_0 h]; exact .mk [] [] _ rfl (.le (.refl _)) ⟨.le (.refl _), trivial⟩ rfl
 ·rename_i h; rw [failL_1 h]; (with_reducible refine (?_ : Ends _ _ _ _ _ _ _)); exact .mk [] [] _ rfl (.le (.refl _)) ⟨.le (.refl _), trivial⟩ rfl
theorem c131 (s : ByteArray) (hs : Side (s.size <= 1000)) : Pure (Xc W0 G) 131 [.str s] (.int .i64 (isOk (nameB s) 4)) := by
 refine mut_of' hX (fnI Tryz.f131) rfl ?_
 repeat' (first
  | (refine Ax.go ?_; first | (with_reducible apply callAlt (c132 hX s hs)) | (with_reducible apply callAlt (c73 hX _ _)) | (with_reducible apply Alt.one))
  | exact Cl.go
  | ((fail_if_success refine Stop.go ?_); first | (with_reducible first | apply And.intro | apply Cut.go | (refine impI ?_; intro _)) | (refine propI ?_; conv => whnf)))
 all_goals try exact nbZ
 all_goals exact .mk [] [] _ rfl (.le (.refl _)) trivial rfl
theorem c71n0 (en : Nat) (e c : Int)  : Mut (Xc W0 G) 71 [.ptr 0 0, .fn 131 0 (fun _ => .any)] [lnO (⟨[], en, e, c⟩)] (.str (toS [])) [lnO (failL ⟨[], en, e, c⟩ 6 (en : Nat))] := by
 refine mut_of' hX (fnI Tryz.f71) rfl ?_
 repeat' (first
  | (refine Ax.go ?_; first | (with_reducible (apply altM (ks := [0]) (m := 0); apply And.intro; apply Sc.of; apply (c129 hX ⟨[], en, e, c⟩ 6 (en : Nat)))) | (with_reducible apply Alt.one))
  | exact Cl.go
  | ((fail_if_success refine Stop.go ?_); first | (with_reducible first | apply And.intro | apply Cut.go | (refine impI ?_; intro _)) | (refine propI ?_; conv => whnf)))
 all_goals try exact nbZ
 all_goals try (rename_i h; exact Bool.noConfusion (show true = false from h))
 all_goals ((with_reducible refine (?_ : Ends _ _ _ _ _ _ _)); exact .mk [] [] _ rfl (.le (.refl _)) ⟨.le (.refl _), trivial⟩ rfl)
theorem c71n1 (w : Wd) (r : List Wd) (en : Nat) (e c : Int)  (hw : Side (w.t.length <= 600)) : Mut (Xc W0 G) 71 [.ptr 0 0, .fn 131 0 (fun _ => .any)] [lnO (⟨w :: r, en, e, c⟩)] (.str (toS w.t)) [lnO (nextL (fun t => isOk (nameB (toS t)) 4) ⟨w :: r, en, e, c⟩)] := by
 have hzz : ¬ (((((⟨w :: r, en, e, c⟩ : Ln).ws.length : Nat) : Int) == 0) = true) := fun h => by have h : ((r.length + 1 : Nat) : Int) = 0 := eq_of_beq h; omega
 refine mut_of' hX (fnI Tryz.f71) rfl ?_
 repeat' (first
  | (refine Ax.go ?_; first | (with_reducible (apply altM (ks := [0]) (m := 0); apply And.intro; apply Sc.of; apply (c129 hX ⟨r, en, e, c⟩ ((fun t => isOk (nameB (toS t)) 4) w.t) w.c))) | (with_reducible apply callAlt (c131 hX (toS w.t) (Side.mk (by rw [toS_size]; have := hw.get; omega)))) | (with_reducible apply Alt.one))
  | ((with_reducible refine Lk.go ?_); exact ⟨.boxes ⟨le_tail w r, .refl _, .refl _, .refl _, trivial⟩, trivial⟩)
  | exact Cl.go
  | ((fail_if_success refine Stop.go ?_); first | (with_reducible first | apply And.intro | apply Cut.go | (refine impI ?_; intro _; try (first | exact ko hzz))) | (refine propI ?_; conv => whnf)))
 all_goals try exact nbZ
 all_goals try ((with_reducible refine (?_ : Sc _ _)); exact .of ⟨by decide, by show (0 : Int) < ((r.length + 1 : Nat) : Int); omega⟩)
 all_goals try ((with_reducible refine (?_ : Sc _ _)); exact .of ⟨by decide, by show (1 : Int) <= ((r.length + 1 : Nat) : Int); omega, by omega⟩)
 ·rename_i h; rw [nextL_1 (g := (fun t => isOk (nameB (toS t)) 4)) h]; (with_reducible refine (?_ : Ends _ _ _ _ _ _ _)); exact .mk [] [] _ rfl (.le (.refl _)) ⟨.le (.refl _), trivial⟩ rfl
 ·rename_i h; rw [nextL_0 (g := (fun t => isOk (nameB (toS t)) 4)) h]; (with_reducible refine (?_ : Ends _ _ _ _ _ _ _)); exact .mk [] [] _ rfl (.le (.refl _)) ⟨.le (.boxes ⟨le_tail w r, .refl _, .refl _, .refl _, trivial⟩), trivial⟩ rfl
theorem c71n (l : Ln)  (hok : Side (LnOk l)) : Mut (Xc W0 G) 71 [.ptr 0 0, .fn 131 0 (fun _ => .any)] [lnO (l)] (.str (toS (nextW l))) [lnO (nextL (fun t => isOk (nameB (toS t)) 4) l)] := by
 rcases l with ⟨_ | ⟨w, r⟩, en, e, c⟩
 ·exact c71n0 hX en e c 
 ·exact c71n1 hX w r en e c  (Side.mk (hok.get.t w (List.mem_cons_self ..)))
end
end Go.Fx
/-
 The program's line: a number.
-/
namespace Go.Fx
open Go.Proofs Go.RowKit
def dT (t : Tx) : Bool := numB t && !negT t
def dBy (s : ByteArray) : Bool := dT s.data.toList
def vT (t : Tx) : Int := match Lib.atoiAll t with
 | .ok v => v
 | _ => atoN (toS t)
theorem num_d {s : Tx} {v : Int} (ha : Lib.atoiAll s = .ok v) : (0 <= v /\ Lib.itoa v = s /\ s.length <= 9) ↔ dT s = true := by
 constructor
 ·rintro ⟨h1, h2, h3⟩
  have k := prog_num.1 ⟨ha, h2, Nat.le_trans (Lib.trimPrefix_le _ _) h3⟩
  have e : negT s = false := by rw [<- h2, itoa_pos (by omega)]; exact decD_noneg _
  unfold dT numB; rw [k, e]; rfl
 ·intro h
  unfold dT at h
  simp only [Bool.and_eq_true, Bool.not_eq_true'] at h
  obtain ⟨h1, h2⟩ := h
  obtain ⟨k1, k2, k3⟩ := prog_num.2 (num_is h1)
  rw [ha] at k1
  have e := Lib.NumEnd.ok.inj k1
  rw [<- e] at k2
  rw [trim_mag] at k3
  refine ⟨?_, k2, ?_⟩
  ·rcases Int.lt_or_le v 0 with q | q
   ·rw [<- k2, itoa_neg q] at h2; simp [negT] at h2
   ·exact q
  ·unfold magT at k3; rw [h2] at k3; exact k3
theorem dB_ok {s : ByteArray} {v : Int} (ha : Lib.atoiAll s.data.toList = .ok v) : (bif bif bif true then decide (0 <= v) else false then decide (toS (Lib.itoa v) = s) else false then decide ((s.size : Int) <= 9) else false) = dBy s := by
 have k := num_d ha
 have z := size_len s
 have e : (toS (Lib.itoa v) = s) ↔ Lib.itoa v = s.data.toList := ⟨fun h => by rw [<- h]; rfl, fun h => by rw [h, toS_data]⟩
 unfold dBy
 cases q : dT s.data.toList with
 | true =>
  obtain ⟨h1, h2, h3⟩ := k.2 q
  rw [decide_eq_true h1, decide_eq_true (e.2 h2), decide_eq_true (show (s.size : Int) <= 9 by omega)]; rfl
 | false =>
  by_cases h1 : 0 <= v
  ·by_cases h2 : Lib.itoa v = s.data.toList
   ·by_cases h3 : (s.size : Int) <= 9
    ·rw [k.1 ⟨h1, h2, by omega⟩] at q; cases q
    ·rw [decide_eq_false h3]; cases (bif bif true then decide (0 <= v) else false then decide (toS (Lib.itoa v) = s) else false) <;> rfl
   ·rw [decide_eq_false (fun h => h2 (e.1 h))]; cases (bif true then decide (0 <= v) else false) <;> rfl
  ·rw [decide_eq_false h1]; rfl
theorem dB_no {s : ByteArray} (ha : ∀ v, Lib.atoiAll s.data.toList ≠ .ok v) : dBy s = false := by
 cases q : dBy s with
 | false => rfl
 | true =>
  unfold dBy dT at q
  simp only [Bool.and_eq_true, Bool.not_eq_true'] at q
  exact absurd (prog_num.2 (num_is q.1)).1 (ha _)
theorem vT_eq {t : Tx} (h : dT t = true) : vT t = numV t := by
 unfold dT at h
 simp only [Bool.and_eq_true, Bool.not_eq_true'] at h
 unfold vT; rw [(prog_num.2 (num_is h.1)).1]
theorem vT_ok {t : Tx} {v : Int} (h : Lib.atoiAll t = .ok v) : vT t = v := by unfold vT; rw [h]
theorem vT_no {t : Tx} (h : ∀ v, Lib.atoiAll t ≠ .ok v) : vT t = atoN (toS t) := by
 unfold vT; split
 ·rename_i v hv; exact absurd hv (h v)
 ·rfl
section
variable {W0 : World} {G : Nat -> Option AV} (hX : (Xc W0 G).Good) (hl : Laid W0)
include hX hl
theorem c133 (s : ByteArray) (hw : Side (s.size <= 1000000)) : Pure (Xc W0 G) 133 [.str s] (.int .i64 (isOk (dBy s) 7)) := by
 rcases atoi_two s with ⟨v, hv⟩ | hv
 ·refine mut_of' hX (fnI Tryz.f133) rfl ?_
  repeat' (first
   | (refine Ax.go ?_; first | (with_reducible apply callAlt (c65o hl s v hw hv)) | (with_reducible apply callAlt (c24 hl v (Side.mk (atoi_in hv)))) | (with_reducible apply callAlt (c73 hX _ _)) | (with_reducible apply Alt.one))
   | exact Cl.go
   | ((fail_if_success refine Stop.go ?_); first | (with_reducible first | apply And.intro | apply Cut.go | (refine impI ?_; intro _)) | (refine propI ?_; conv => whnf)))
  all_goals try exact nbZ
  exact .mk [] [] _ rfl (.le (by rw [<- dB_ok hv]; exact .refl _)) trivial rfl
 ·refine mut_of' hX (fnI Tryz.f133) rfl ?_
  repeat' (first
   | (refine Ax.go ?_; first | (with_reducible apply callAlt (c65e hl s  hw hv)) | (with_reducible apply callAlt (c24 hl (atoN s) (Side.mk (atoN_in s)))) | (with_reducible apply callAlt (c73 hX _ _)) | (with_reducible apply Alt.one))
   | exact Cl.go
   | ((fail_if_success refine Stop.go ?_); first | (with_reducible first | apply And.intro | apply Cut.go | (refine impI ?_; intro _)) | (refine propI ?_; conv => whnf)))
  all_goals try exact nbZ
  exact .mk [] [] _ rfl (.le (by rw [dB_no hv]; exact .refl _)) trivial rfl
theorem c71d0 (en : Nat) (e c : Int)  : Mut (Xc W0 G) 71 [.ptr 0 0, .fn 133 0 (fun _ => .any)] [lnO (⟨[], en, e, c⟩)] (.str (toS [])) [lnO (failL ⟨[], en, e, c⟩ 6 (en : Nat))] := by
 refine mut_of' hX (fnI Tryz.f71) rfl ?_
 repeat' (first
  | (refine Ax.go ?_; first | (with_reducible (apply altM (ks := [0]) (m := 0); apply And.intro; apply Sc.of; apply (c129 hX ⟨[], en, e, c⟩ 6 (en : Nat)))) | (with_reducible apply Alt.one))
  | exact Cl.go
  | ((fail_if_success refine Stop.go ?_); first | (with_reducible first | apply And.intro | apply Cut.go | (refine impI ?_; intro _)) | (refine propI ?_; conv => whnf)))
 all_goals try exact nbZ
 all_goals try (rename_i h; exact Bool.noConfusion (show true = false from h))
 all_goals ((with_reducible refine (?_ : Ends _ _ _ _ _ _ _)); exact .mk [] [] _ rfl (.le (.refl _)) ⟨.le (.refl _), trivial⟩ rfl)
theorem c71d1 (w : Wd) (r : List Wd) (en : Nat) (e c : Int)  (hw : Side (w.t.length <= 600)) : Mut (Xc W0 G) 71 [.ptr 0 0, .fn 133 0 (fun _ => .any)] [lnO (⟨w :: r, en, e, c⟩)] (.str (toS w.t)) [lnO (nextL (fun t => isOk (dT t) 7) ⟨w :: r, en, e, c⟩)] := by
 have hzz : ¬ (((((⟨w :: r, en, e, c⟩ : Ln).ws.length : Nat) : Int) == 0) = true) := fun h => by have h : ((r.length + 1 : Nat) : Int) = 0 := eq_of_beq h; omega
 refine mut_of' hX (fnI Tryz.f71) rfl ?_
 repeat' (first
  | (refine Ax.go ?_; first | (with_reducible (apply altM (ks := [0]) (m := 0); apply And.intro; apply Sc.of; apply (c129 hX ⟨r, en, e, c⟩ ((fun t => isOk (dT t) 7) w.t) w.c))) | (with_reducible apply callAlt (c133 hX hl (toS w.t) (Side.mk (by rw [toS_size]; have := hw.get; omega)))) | (with_reducible apply Alt.one))
  | ((with_reducible refine Lk.go ?_); exact ⟨.boxes ⟨le_tail w r, .refl _, .refl _, .refl _, trivial⟩, trivial⟩)
  | exact Cl.go
  | ((fail_if_success refine Stop.go ?_); first | (with_reducible first | apply And.intro | apply Cut.go | (refine impI ?_; intro _; try (first | exact ko hzz))) | (refine propI ?_; conv => whnf)))
 all_goals try exact nbZ
 all_goals try ((with_reducible refine (?_ : Sc _ _)); exact .of ⟨by decide, by show (0 : Int) < ((r.length + 1 : Nat) : Int); omega⟩)
 all_goals try ((with_reducible refine (?_ : Sc _ _)); exact .of ⟨by decide, by show (1 : Int) <= ((r.length + 1 : Nat) : Int); omega, by omega⟩)
 ·rename_i h; rw [nextL_1 (g := (fun t => isOk (dT t) 7)) h]; (with_reducible refine (?_ : Ends _ _ _ _ _ _ _)); exact .mk [] [] _ rfl (.le (.refl _)) ⟨.le (.refl _), trivial⟩ rfl
 ·rename_i h; rw [nextL_0 (g := (fun t => isOk (dT t) 7)) h]; (with_reducible refine (?_ : Ends _ _ _ _ _ _ _)); exact .mk [] [] _ rfl (.le (.refl _)) ⟨.le (.boxes ⟨le_tail w r, .refl _, .refl _, .refl _, trivial⟩), trivial⟩ rfl
theorem c71d (l : Ln)  (hok : Side (LnOk l)) : Mut (Xc W0 G) 71 [.ptr 0 0, .fn 133 0 (fun _ => .any)] [lnO (l)] (.str (toS (nextW l))) [lnO (nextL (fun t => isOk (dT t) 7) l)] := by
 rcases l with ⟨_ | ⟨w, r⟩, en, e, c⟩
 ·exact c71d0 hX hl en e c 
 ·exact c71d1 hX hl w r en e c  (Side.mk (hok.get.t w (List.mem_cons_self ..)))
theorem c76 (l : Ln) (hs : Side (LnOk l)) : Mut (Xc W0 G) 76 [.ptr 0 0] [lnO l] (.str (toS (nextW l))) [lnO (nextL (fun t => isOk (nameB (toS t)) 4) l)] := by
 refine mut_of' hX (fnI Tryz.f76) rfl ?_
 repeat' (first
  | (refine Ax.go ?_; first | (with_reducible (apply altM (ks := [0]) (m := 0); apply And.intro; apply Sc.of; apply (c71n hX l hs))) | (with_reducible apply Alt.one))
  | exact Cl.go
  | ((fail_if_success refine Stop.go ?_); first | (with_reducible first | apply And.intro | apply Cut.go | (refine impI ?_; intro _)) | (refine propI ?_; conv => whnf)))
 all_goals try exact nbZ
 all_goals exact .mk [] [] _ rfl (.le (.refl _)) ⟨.le (.refl _), trivial⟩ rfl
theorem c77 (l : Ln) (hs : Side (LnOk l)) : Mut (Xc W0 G) 77 [.ptr 0 0] [lnO l] (.int .i64 (vT (nextW l))) [lnO (nextL (fun t => isOk (dT t) 7) l)] := by
 have hw : Side ((toS (nextW l)).size <= 1000000) := Side.mk (by rw [toS_size]; have := nextW_le hs.get; omega)
 rcases atoi_two (toS (nextW l)) with ⟨v, hv⟩ | hv
 ·rw [vT_ok (t := nextW l) hv]
  refine mut_of' hX (fnI Tryz.f77) rfl ?_
  repeat' (first
   | (refine Ax.go ?_; first | (with_reducible (apply altM (ks := [0]) (m := 0); apply And.intro; apply Sc.of; apply (c71d hX hl l hs))) | (with_reducible apply callAlt (c65o hl (toS (nextW l)) v hw hv)) | (with_reducible apply Alt.one))
   | exact Cl.go
   | ((fail_if_success refine Stop.go ?_); first | (with_reducible first | apply And.intro | apply Cut.go | (refine impI ?_; intro _)) | (refine propI ?_; conv => whnf)))
  all_goals try exact nbZ
  all_goals exact .mk [] [] _ rfl (.le (.refl _)) ⟨.le (.refl _), trivial⟩ rfl
 ·rw [vT_no (t := nextW l) hv]
  refine mut_of' hX (fnI Tryz.f77) rfl ?_
  repeat' (first
   | (refine Ax.go ?_; first | (with_reducible (apply altM (ks := [0]) (m := 0); apply And.intro; apply Sc.of; apply (c71d hX hl l hs))) | (with_reducible apply callAlt (c65e hl (toS (nextW l)) hw hv)) | (with_reducible apply Alt.one))
   | exact Cl.go
   | ((fail_if_success refine Stop.go ?_); first | (with_reducible first | apply And.intro | apply Cut.go | (refine impI ?_; intro _)) | (refine propI ?_; conv => whnf)))
  all_goals try exact nbZ
  all_goals exact .mk [] [] _ rfl (.le (.refl _)) ⟨.le (.refl _), trivial⟩ rfl
def closeL (l : Ln) : Ln := match l.ws with
 | [] => l
 | w :: _ => failL l 7 w.c
theorem c82_0 (en : Nat) (e c : Int) : Mut (Xc W0 G) 82 [.ptr 0 0] [lnO ⟨[], en, e, c⟩] (tupAV []) [lnO ⟨[], en, e, c⟩] := by
 have hz : ¬ decide ((0 : Int) < (((⟨[], en, e, c⟩ : Ln).ws.length : Nat) : Int)) = true := by show ¬ decide ((0 : Int) < 0) = true; decide
 refine mut_of' hX (fnI Tryz.f82) rfl ?_
 repeat' (first
  | (refine Ax.go ?_; first | (with_reducible (apply altM (ks := [0]) (m := 0); apply And.intro; apply Sc.of; apply (c129 hX ⟨[], en, e, c⟩ 7 0))) | (with_reducible apply Alt.one))
  | exact Cl.go
  | ((fail_if_success refine Stop.go ?_); first | (with_reducible first | apply And.intro | apply Cut.go | (refine impI ?_; intro _; try (first | exact ko hz))) | (refine propI ?_; conv => whnf)))
 all_goals try exact nbZ
 all_goals ((with_reducible refine (?_ : Ends _ _ _ _ _ _ _)); exact .mk [] [] _ rfl (.le (.refl _)) ⟨.le (.refl _), trivial⟩ rfl)
theorem c82_1 (w : Wd) (r : List Wd) (en : Nat) (e c : Int) : Mut (Xc W0 G) 82 [.ptr 0 0] [lnO ⟨w :: r, en, e, c⟩] (tupAV []) [lnO (closeL ⟨w :: r, en, e, c⟩)] := by
 have hz : ¬ decide ((0 : Int) < (((⟨w :: r, en, e, c⟩ : Ln).ws.length : Nat) : Int)) = false := by show ¬ decide ((0 : Int) < ((r.length + 1 : Nat) : Int)) = false; rw [decide_eq_true (by omega)]; decide
 refine mut_of' hX (fnI Tryz.f82) rfl ?_
 repeat' (first
  | (refine Ax.go ?_; first | (with_reducible (apply altM (ks := [0]) (m := 0); apply And.intro; apply Sc.of; apply (c129 hX ⟨w :: r, en, e, c⟩ 7 w.c))) | (with_reducible apply Alt.one))
  | exact Cl.go
  | ((fail_if_success refine Stop.go ?_); first | (with_reducible first | apply And.intro | apply Cut.go | (refine impI ?_; intro _; try (first | exact ko hz))) | (refine propI ?_; conv => whnf)))
 all_goals try exact nbZ
 all_goals try ((with_reducible refine (?_ : Sc _ _)); exact .of ⟨by decide, by show (0 : Int) < ((r.length + 1 : Nat) : Int); omega⟩)
 all_goals ((with_reducible refine (?_ : Ends _ _ _ _ _ _ _)); exact .mk [] [] _ rfl (.le (.refl _)) ⟨.le (.refl _), trivial⟩ rfl)
theorem c82 (l : Ln) : Mut (Xc W0 G) 82 [.ptr 0 0] [lnO l] (tupAV []) [lnO (closeL l)] := by
 rcases l with ⟨_ | ⟨w, r⟩, en, e, c⟩
 ·exact c82_0 hX hl en e c
 ·exact c82_1 hX hl w r en e c
end
end Go.Fx
