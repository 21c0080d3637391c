/-
 Numbers written and read, texts cut.
-/
import Derived.Test.YtkinfbkpecjpnaaGreatDoorGx
import Derived.Test.YtkinfbkpecjpnaaGreatDoorGt
set_option linter.all false
/-
 Texts: numbers written and read, texts cut.
-/
namespace Go.Fx
open Go.Proofs Go.RowKit
theorem toS_size (a : Tx) : (toS a).size = a.length := by simp [toS, ByteArray.size]
section
variable {W0 : World} {G : Nat -> Option AV} (hX : (Xc W0 G).Good)
include hX
end
end Go.Fx
/-
 A text cut at a byte.
-/
namespace Go.Fx
open Go.Proofs Go.RowKit
def seg (l : Tx) (a b : Nat) : Tx := (l.drop a).take (b - a)
theorem seg_self (l : Tx) (a : Nat) : seg l a a = [] := by simp [seg]
theorem seg_snoc {l : Tx} {a i : Nat} (h : i < l.length) (ha : a <= i) : seg l a (i + 1) = seg l a i ++ [l[i]] := by
 unfold seg
 rw [show i + 1 - a = (i - a) + 1 by omega, List.take_add_one, List.getElem?_drop, show a + (i - a) = i by omega, List.getElem?_eq_getElem h]
 rfl
theorem ext_seg (s : ByteArray) (a b : Nat) : s.extract a b = toS (seg s.data.toList a b) := bytes_eq (by rw [Lib.extract_data]; rfl)
theorem byte_at {s : ByteArray} {i : Nat} (h : i < s.data.toList.length) : byteAt s i = (s.data.toList[i].toNat : Int) := by
 unfold byteAt
 rw [<- Array.getElem?_toList, List.getElem?_eq_getElem h]
 rfl
theorem size_len (s : ByteArray) : s.size = s.data.toList.length := rfl
theorem byte_beq {a b : UInt8} : ((a.toNat : Int) == (b.toNat : Int)) = decide (a = b) := by
 by_cases h : a = b
 ·subst h; simp
 ·have : ¬ a.toNat = b.toNat := fun e => h (UInt8.toNat_inj.1 e)
  simp [h]; omega
theorem cutG_0 (c : UInt8) (l : Tx) : cut c l = [] ++ glue (seg l 0 0) (cut c (l.drop 0)) := by
 rw [seg_self, glue_nil (cut_ne _ _)]; rfl
theorem dropT_at {l : Tx} {i : Nat} (h : i < l.length) : l.drop i = l[i] :: l.drop (i + 1) := List.drop_eq_getElem_cons h
theorem cutG_no {c : UInt8} {l : Tx} {Q : List Tx} {f i : Nat} (h : cut c l = Q ++ glue (seg l f i) (cut c (l.drop i))) (hi : i < l.length) (hf : f <= i) (hb : ¬ l[i] = c) : cut c l = Q ++ glue (seg l f (i + 1)) (cut c (l.drop (i + 1))) := by
 rw [h, dropT_at hi, cut, if_neg hb, glue_glue, seg_snoc hi hf]
theorem cutG_hit {c : UInt8} {l : Tx} {Q : List Tx} {f i : Nat} (h : cut c l = Q ++ glue (seg l f i) (cut c (l.drop i))) (hi : i < l.length) (hb : l[i] = c) : cut c l = (Q ++ [seg l f i]) ++ glue (seg l (i + 1) (i + 1)) (cut c (l.drop (i + 1))) := by
 rw [h, dropT_at hi, cut, if_pos hb, seg_self, glue_nil (cut_ne _ _)]
 simp [glue]
theorem cutG_end {c : UInt8} {l : Tx} {Q : List Tx} {f i : Nat} (h : cut c l = Q ++ glue (seg l f i) (cut c (l.drop i))) (hi : i = l.length) : cut c l = Q ++ [seg l f i] := by
 subst hi
 rw [h, List.drop_length]
 simp [cut, glue]
theorem cutS_of {c : UInt8} {s : ByteArray} {Q : List Tx} (h : cut c s.data.toList = Q) : cutS c s = Q.map toS := by unfold cutS; rw [h]; rfl
theorem push_s {Q : List Tx} {x : Tx} {i : Nat} {f : Nat -> Nat -> AV} (hf : f 0 0 = .str (toS x)) (hi : i < Q.length + 1) : joinF Q.length (fun i _ => .str (toS (Q.getD i []))) f i 0 = .str (toS ((Q ++ [x]).getD i [])) := by
 unfold joinF
 by_cases h : i < Q.length
 ·rw [if_pos h]; simp [List.getD_eq_getElem?_getD, List.getElem?_append_left h]
 ·obtain rfl : i = Q.length := by omega
  rw [if_neg h, Nat.sub_self, hf]; simp [List.getD_eq_getElem?_getD]
theorem toS_getD (Q : List Tx) (i : Nat) : (Q.map toS).getD i bs0 = toS (Q.getD i []) := by
 rcases Nat.lt_or_ge i Q.length with h | h
 ·simp [List.getD_eq_getElem?_getD, h]
 ·simp [List.getD_eq_getElem?_getD, h]; rfl
section
variable {W0 : World} {G : Nat -> Option AV} (hX : (Xc W0 G).Good)
include hX
set_option maxHeartbeats 1000000 in
theorem c31 (s : ByteArray) (c : UInt8) (hs : Side (s.size <= 1000000)) : Pure (Xc W0 G) 31 [.str s, .int .u8 (c.toNat : Int)] (sRow (cutS c s)) := by
 have hs := hs.get
 refine mut_of' hX (fnI Tryz.f31) rfl ?_
 repeat' (first
  | (refine Ax.go ?_; first | (with_reducible apply Alt.one))
  | exact Cl.go
  | ((fail_if_success refine Stop.go ?_); first | (with_reducible first | apply And.intro | apply Cut.go | (refine impI ?_; intro _)) | (refine propI ?_; conv => whnf)))
 all_goals try exact nbZ
 refine ⟨(Nat × Nat) ⊕ (List Tx × Nat × Nat), fun y => match y with | .inl (f, i) => ([(0, .str s), (1, .int .u8 (c.toNat : Int)), (5, .slc0), (6, .int .i64 (f : Nat)), (7, .int .i64 (i : Nat))], []) | .inr (Q, f, i) => ([(0, .str s), (1, .int .u8 (c.toNat : Int)), (5, .own 0 Q.length), (6, .int .i64 ((f : Nat) : Int)), (7, .int .i64 ((i : Nat) : Int))], [.list 9 1 Q.length (fun a _ => .str (toS (Q.getD a []))) Q.length]), fun y => match y with | .inl (f, i) => cut c s.data.toList = [] ++ glue (seg s.data.toList f i) (cut c (s.data.toList.drop i)) /\ f <= i /\ i <= s.data.toList.length | .inr (Q, f, i) => Q ≠ [] /\ Q.length <= i /\ cut c s.data.toList = Q ++ glue (seg s.data.toList f i) (cut c (s.data.toList.drop i)) /\ f <= i /\ i <= s.data.toList.length, fun y => match y with | .inl (f, i) => s.size - i | .inr (Q, f, i) => s.size - i, ⟨.inl (0, 0), ⟨cutG_0 _ _, Nat.le_refl _, Nat.zero_le _⟩, .le ⟨rfl, trivial, rfZ⟩⟩, fun y hy => ?_⟩
 have hsz := size_len s
 rcases y with ⟨f, i⟩ | ⟨Q, f, i⟩
 ·obtain ⟨h1, h2, h3⟩ := hy
  repeat' (first
   | (refine Ax.go ?_; first | (with_reducible apply Alt.one))
   | exact Cl.go
   | ((fail_if_success refine Stop.go ?_); first | (with_reducible first | apply And.intro | apply Cut.go | (refine impI ?_; intro _)) | (refine propI ?_; conv => whnf)))
  all_goals try exact nbZ
  all_goals try ((with_reducible refine (?_ : Sc _ _)); (try simp only [decide_eq_true_eq, decide_eq_false_iff_not, Int.not_lt] at *); first | exact .of (Nat.le_of_ble_eq_true rfl) | exact .of ⟨Nat.le_of_ble_eq_true rfl, Nat.le_of_ble_eq_true rfl⟩ | exact .of ⟨by omega, by omega⟩ | exact .of ⟨by omega, by omega, by omega⟩ | exact .of ⟨show (Q.length + (0 + 1)) * 16 <= 140737488355328 by omega, show Q.length + (0 + 1) <= 9223372036854775807 by omega⟩)
  ·rename_i q q2; have q := of_decide_eq_true q
   have hi : i < s.data.toList.length := by omega
   have q2 : s.data.toList[i] = c := by
    rw [Int.toNat_natCast, byte_at hi, byte_beq] at q2; exact of_decide_eq_true q2
   refine ⟨.inr ((([] : List Tx) ++ [seg s.data.toList f i]), i + 1, i + 1), ⟨by simp, by simp only [List.length_append, List.length_cons, List.length_nil]; omega, cutG_hit h1 hi q2, Nat.le_refl _, hi⟩, by show s.size - (i + 1) < s.size - i; omega, ?_⟩
   show StTo _ _ _ [(0, .str s), (1, .int .u8 (c.toNat : Int)), (5, .own 0 (([] : List Tx) ++ [seg s.data.toList f i]).length), (6, .int .i64 (((i + 1) : Nat) : Int)), (7, .int .i64 (((i + 1) : Nat) : Int))] [.list 9 1 (([] : List Tx) ++ [seg s.data.toList f i]).length (fun a _ => .str (toS ((([] : List Tx) ++ [seg s.data.toList f i]).getD a []))) (([] : List Tx) ++ [seg s.data.toList f i]).length]
   rw [show (([] : List Tx) ++ [seg s.data.toList f i]).length = 0 + 1 by simp]
   refine .le ⟨rfl, ⟨.list (fun a j ha hj => ?_), trivial⟩, rfZ⟩
   replace hj : j < 1 := hj
   obtain rfl : j = 0 := by omega
   replace ha : a < 1 := by omega
   obtain rfl : a = 0 := by omega
   exact Le.ofEq (congrArg AV.str (ext_seg _ _ _))
  ·rename_i q q2; have q := of_decide_eq_true q
   have hi : i < s.data.toList.length := by omega
   have q2 : ¬ s.data.toList[i] = c := by
    rw [Int.toNat_natCast, byte_at hi, byte_beq] at q2; exact of_decide_eq_false q2
   exact ⟨(.inl (f, i + 1)), ⟨cutG_no h1 hi h2 q2, by omega, hi⟩, by show s.size - (i + 1) < s.size - i; omega, .le ⟨rfl, trivial, rfZ⟩⟩
  ·rename_i q; have q := of_decide_eq_false q
   have hi : i = s.data.toList.length := by omega
   have e := cutS_of (cutG_end h1 hi)
   rw [e]
   have el : (List.map toS ((([] : List Tx) ++ [seg s.data.toList f i]))).length = 0 + 1 := by simp
   unfold sRow
   rw [el]
   refine .mk [] [0] _ rfl (.own rfl fun a j ha hj => ?_) trivial rfl
   replace hj : j < 1 := hj
   obtain rfl : j = 0 := by omega
   rw [toS_getD]
   replace ha : a < 1 := by omega
   obtain rfl : a = 0 := by omega
   exact Le.ofEq (congrArg AV.str (by rw [hi, <- hsz]; exact ext_seg _ _ _))
 ·obtain ⟨h0, h4, h1, h2, h3⟩ := hy
  repeat' (first
   | (refine Ax.go ?_; first | (with_reducible apply Alt.one))
   | exact Cl.go
   | ((fail_if_success refine Stop.go ?_); first | rw [beqvv Q.length] | (with_reducible first | apply And.intro | apply Cut.go | (refine impI ?_; intro _)) | (refine propI ?_; conv => whnf)))
  all_goals try exact nbZ
  all_goals try ((with_reducible refine (?_ : Sc _ _)); (try simp only [decide_eq_true_eq, decide_eq_false_iff_not, Int.not_lt] at *); first | exact .of (Nat.le_of_ble_eq_true rfl) | exact .of ⟨Nat.le_of_ble_eq_true rfl, Nat.le_of_ble_eq_true rfl⟩ | exact .of ⟨by omega, by omega⟩ | exact .of ⟨by omega, by omega, by omega⟩ | exact .of ⟨show (Q.length + (0 + 1)) * 16 <= 140737488355328 by omega, show Q.length + (0 + 1) <= 9223372036854775807 by omega⟩)
  ·rename_i q q2; have q := of_decide_eq_true q
   have hi : i < s.data.toList.length := by omega
   have q2 : s.data.toList[i] = c := by
    rw [Int.toNat_natCast, byte_at hi, byte_beq] at q2; exact of_decide_eq_true q2
   refine ⟨.inr ((Q ++ [seg s.data.toList f i]), i + 1, i + 1), ⟨by simp, by simp only [List.length_append, List.length_cons, List.length_nil]; omega, cutG_hit h1 hi q2, Nat.le_refl _, hi⟩, by show s.size - (i + 1) < s.size - i; omega, ?_⟩
   show StTo _ _ _ [(0, .str s), (1, .int .u8 (c.toNat : Int)), (5, .own 0 (Q ++ [seg s.data.toList f i]).length), (6, .int .i64 (((i + 1) : Nat) : Int)), (7, .int .i64 (((i + 1) : Nat) : Int))] [.list 9 1 (Q ++ [seg s.data.toList f i]).length (fun a _ => .str (toS ((Q ++ [seg s.data.toList f i]).getD a []))) (Q ++ [seg s.data.toList f i]).length]
   rw [show (Q ++ [seg s.data.toList f i]).length = Q.length + 1 by simp]
   refine .le ⟨rfl, ⟨.list (fun a j ha hj => ?_), trivial⟩, rfZ⟩
   replace hj : j < 1 := hj
   obtain rfl : j = 0 := by omega
   skip
   exact Le.ofEq (push_s (congrArg AV.str (ext_seg _ _ _)) ha)
   skip
  ·rename_i q q2; have q := of_decide_eq_true q
   have hi : i < s.data.toList.length := by omega
   have q2 : ¬ s.data.toList[i] = c := by
    rw [Int.toNat_natCast, byte_at hi, byte_beq] at q2; exact of_decide_eq_false q2
   exact ⟨(.inr (Q, f, i + 1)), ⟨h0, by omega, cutG_no h1 hi h2 q2, by omega, hi⟩, by show s.size - (i + 1) < s.size - i; omega, .le ⟨rfl, ⟨.refl _, trivial⟩, rfZ⟩⟩
  ·rename_i q; have q := of_decide_eq_false q
   have hi : i = s.data.toList.length := by omega
   have e := cutS_of (cutG_end h1 hi)
   rw [e]
   have el : (List.map toS ((Q ++ [seg s.data.toList f i]))).length = Q.length + (0 + 1) := by simp
   unfold sRow
   rw [el]
   refine .mk [] [0] _ rfl (.own rfl fun a j ha hj => ?_) trivial rfl
   replace hj : j < 1 := hj
   obtain rfl : j = 0 := by omega
   rw [toS_getD]
   skip
   exact Le.ofEq (push_s (congrArg AV.str (by rw [hi, <- hsz]; exact ext_seg _ _ _)) ha)
   skip
end
end Go.Fx
/-
 A number read.
-/
namespace Go.Fx
open Go.Proofs Go.RowKit
theorem magT_drop {l : Tx} {a : Nat} (h : a = if negT l then 1 else 0) : magT l = l.drop a := by
 subst h; unfold magT; split <;> simp
theorem neg_yes {s : ByteArray} (h : 0 < s.data.toList.length) (h2 : (byteAt s 0 == 45) = true) : negT s.data.toList = true := by
 rw [byte_at h] at h2
 have h2 : ((s.data.toList[0].toNat : Int) == ((45 : UInt8).toNat : Int)) = true := h2
 rw [byte_beq] at h2
 have := of_decide_eq_true h2
 unfold negT
 rw [List.head?_eq_getElem?, List.getElem?_eq_getElem h, this]; rfl
theorem neg_not {s : ByteArray} (h : 0 < s.data.toList.length) (h2 : (byteAt s 0 == 45) = false) : negT s.data.toList = false := by
 rw [byte_at h] at h2
 have h2 : ((s.data.toList[0].toNat : Int) == ((45 : UInt8).toNat : Int)) = false := h2
 rw [byte_beq] at h2
 have := of_decide_eq_false h2
 unfold negT
 rw [List.head?_eq_getElem?, List.getElem?_eq_getElem h]
 simpa using this
theorem neg_nil {s : ByteArray} (h : ¬ 0 < s.data.toList.length) : negT s.data.toList = false := by
 have : s.data.toList = [] := List.eq_nil_of_length_eq_zero (by omega)
 rw [this]; rfl
structure NumA (s : ByteArray) (a : Nat) : Prop where
 at_ : a = if negT s.data.toList then 1 else 0
 len : a < s.data.toList.length
 nine : s.data.toList.length - a <= 9
 head : ¬ ((byteAt s a == 48) = true /\ 1 < s.data.toList.length)
theorem numT_none {l : Tx} (h : magT l = [] \/ 9 < (magT l).length \/ ((magT l).head? = some 48 /\ 1 < l.length)) : numT l = none := by unfold numT; rw [if_pos h]
theorem num_none {s : ByteArray} (h : numT s.data.toList = none) : nV s = 0 /\ nB s = false := by
 unfold nV nB numV numB; rw [h]; exact ⟨rfl, rfl⟩
theorem num_b1 {s : ByteArray} {a : Nat} (ha : a = if negT s.data.toList then 1 else 0) (h : s.data.toList.length = a) : nV s = 0 /\ nB s = false :=
 num_none (numT_none (.inl (by rw [magT_drop ha, <- h, List.drop_length])))
theorem num_b2 {s : ByteArray} {a : Nat} (ha : a = if negT s.data.toList then 1 else 0) (h : 9 < s.data.toList.length - a) : nV s = 0 /\ nB s = false :=
 num_none (numT_none (.inr (.inl (by rw [magT_drop ha, List.length_drop]; exact h))))
theorem mag_head {s : ByteArray} {a : Nat} (ha : a = if negT s.data.toList then 1 else 0) (hl : a < s.data.toList.length) : (magT s.data.toList).head? = some (s.data.toList[a]) := by
 rw [magT_drop ha, List.head?_drop, List.getElem?_eq_getElem hl]
theorem byte_48 {s : ByteArray} {a : Nat} (hl : a < s.data.toList.length) : (byteAt s a == 48) = decide (s.data.toList[a] = 48) := by
 rw [byte_at hl]; exact byte_beq (b := 48)
theorem num_b3 {s : ByteArray} {a : Nat} (ha : a = if negT s.data.toList then 1 else 0) (hl : a < s.data.toList.length) (h : (byteAt s a == 48) = true) (h1 : 1 < s.data.toList.length) : nV s = 0 /\ nB s = false :=
 num_none (numT_none (.inr (.inr ⟨by rw [mag_head ha hl]; rw [byte_48 hl] at h; rw [of_decide_eq_true h], h1⟩)))
theorem num_go {s : ByteArray} {a : Nat} (h : NumA s a) : numT s.data.toList = (Lib.decFrom 0 (s.data.toList.drop a)).map fun (m : Nat) => if negT s.data.toList then -(m : Int) else (m : Int) := by
 unfold numT
 rw [if_neg, magT_drop h.at_]
 rintro (e | e | ⟨e, e2⟩)
 ·rw [magT_drop h.at_] at e
  have := congrArg List.length e
  have := h.len
  simp at *; omega
 ·rw [magT_drop h.at_, List.length_drop] at e
  have := h.nine
  omega
 ·rw [mag_head h.at_ h.len] at e
  refine h.head ⟨?_, e2⟩
  rw [byte_48 h.len]
  simpa using e
theorem num_b4 {s : ByteArray} {a i : Nat} (h : NumA s a) (hi : a <= i) (hl : i < s.data.toList.length) (hb : byteAt s i < 48 \/ 57 < byteAt s i) : nV s = 0 /\ nB s = false := by
 refine num_none ?_
 rw [num_go h]
 cases hd : Lib.decFrom 0 (s.data.toList.drop a) with
 | none => rfl
 | some m =>
  have hk : (s.data.toList.drop a)[i - a]? = some s.data.toList[i] := by
   rw [List.getElem?_drop, show a + (i - a) = i by omega, List.getElem?_eq_getElem hl]
  obtain ⟨d, hd⟩ := Lib.digit_of_decFrom _ _ _ hd (i - a) _ hk
  have := Lib.digitVal_eq hd
  rw [byte_at hl] at hb
  omega
theorem num_st {s : ByteArray} {a i n : Nat} (hi : a <= i) (hl : i < s.data.toList.length) (hb : ¬ byteAt s i < 48) (hb2 : ¬ 57 < byteAt s i) (hd : Lib.decFrom 0 ((s.data.toList.drop a).take (i - a)) = some n) :
  ∃ d : Nat, d <= 9 /\ byteAt s i = 48 + (d : Int) /\ Lib.decFrom 0 ((s.data.toList.drop a).take (i + 1 - a)) = some (n * 10 + d) := by
 have hk : (s.data.toList.drop a)[i - a]? = some s.data.toList[i] := by
  rw [List.getElem?_drop, show a + (i - a) = i by omega, List.getElem?_eq_getElem hl]
 rw [byte_at hl] at *
 have hv : Lib.digitVal s.data.toList[i] = some (s.data.toList[i].toNat - 48) := by unfold Lib.digitVal; rw [if_pos (by omega)]
 refine ⟨s.data.toList[i].toNat - 48, by omega, by omega, ?_⟩
 rw [show i + 1 - a = i - a + 1 by omega]
 exact Lib.decFrom_take _ _ _ _ _ _ hd hk hv
theorem num_end {s : ByteArray} {a i n : Nat} (h : NumA s a) (hi : i = s.data.toList.length) (hd : Lib.decFrom 0 ((s.data.toList.drop a).take (i - a)) = some n) : nB s = true /\ nV s = if negT s.data.toList then -(n : Int) else (n : Int) := by
 rw [List.take_of_length_le (by rw [List.length_drop]; omega)] at hd
 have := num_go h
 rw [hd] at this
 unfold nB nV numB numV
 rw [this]
 exact ⟨rfl, rfl⟩
theorem bAnd {a b : Bool} : (bif a then b else false) = (a && b) := by cases a <;> rfl
theorem bOr {a b : Bool} : (bif a then true else b) = (a || b) := by cases a <;> rfl
theorem neg_a (s : ByteArray) (q : ¬ (0 : Int) < s.size \/ ¬ byteAt s (Int.toNat 0) = 45) : negT s.data.toList = false := by
 have hsz := size_len s
 by_cases z : 0 < s.data.toList.length
 ·rcases q with q | q
  ·omega
  ·exact neg_not z (beq_eq_false_iff_ne.2 q)
 ·exact neg_nil z
theorem dec_small {l : Tx} {n k : Nat} (hd : Lib.decFrom 0 (l.take k) = some n) (hk : k <= 9) : n < 10000000000 := by
 have := Lib.decFrom_lt _ _ _ hd
 have h2 : (l.take k).length <= 9 := by rw [List.length_take]; omega
 have : (10 : Nat) ^ (l.take k).length <= 10 ^ 9 := Nat.pow_le_pow_right (by decide) h2
 omega
section
variable {W0 : World} {G : Nat -> Option AV} (hX : (Xc W0 G).Good)
include hX
theorem c32 (s : ByteArray) (hs : Side (s.size <= 1000000)) : Pure (Xc W0 G) 32 [.str s, .int .i64 9] (.tup 2 (tbl [.int .i64 (nV s), .bool (nB s)])) := by
 have hs := hs.get
 have hsz := size_len s
 refine mut_of' hX (fnI Tryz.f32) rfl ?_
 repeat' (first
  | (refine Ax.go ?_; first | (with_reducible apply Alt.one))
  | exact Cl.go
  | ((fail_if_success refine Stop.go ?_); first | (with_reducible first | apply And.intro | apply Cut.go | (refine impI ?_; intro _)) | (refine propI ?_; conv => whnf)))
 all_goals try exact nbZ
 ·exact Sc.imp fun w => ⟨by decide, of_decide_eq_true w⟩
 ·rename_i q
  refine Sc.imp fun w => ?_
  exact ⟨by omega, by omega⟩
 ·rename_i q
  refine Sc.imp fun w => ?_
  simp only [bAnd, bOr, Bool.and_eq_true, Bool.or_eq_true, Bool.and_eq_false_iff, Bool.or_eq_false_iff, decide_eq_true_eq, decide_eq_false_iff_not, beq_iff_eq, beq_eq_false_iff_ne, ne_eq] at q w
  exact ⟨by omega, by omega⟩
 ·rename_i q q2
  simp only [bAnd, bOr, Bool.and_eq_true, Bool.or_eq_true, Bool.and_eq_false_iff, Bool.or_eq_false_iff, decide_eq_true_eq, decide_eq_false_iff_not, beq_iff_eq, beq_eq_false_iff_ne, ne_eq] at q q2
  have hg : negT s.data.toList = true := neg_yes (by omega) (beq_iff_eq.2 q.2)
  have ha : 1 = if negT s.data.toList then 1 else 0 := by rw [hg]; rfl
  rcases q2 with (q2 | q2) | q2
  ·have w := num_b1 ha (by omega); exact .mk [] [] _ rfl (.le (.tups ⟨⟨trivial, .intI (by rw [w.1])⟩, .boolT (by rw [w.2])⟩)) trivial rfl
  ·have w := num_b2 ha (by omega); exact .mk [] [] _ rfl (.le (.tups ⟨⟨trivial, .intI (by rw [w.1])⟩, .boolT (by rw [w.2])⟩)) trivial rfl
  ·have w := num_b3 ha (by omega) (beq_iff_eq.2 q2.1) (by omega); exact .mk [] [] _ rfl (.le (.tups ⟨⟨trivial, .intI (by rw [w.1])⟩, .boolT (by rw [w.2])⟩)) trivial rfl
 ·rename_i q q2
  simp only [bAnd, bOr, Bool.and_eq_true, Bool.or_eq_true, Bool.and_eq_false_iff, Bool.or_eq_false_iff, decide_eq_true_eq, decide_eq_false_iff_not, beq_iff_eq, beq_eq_false_iff_ne, ne_eq] at q q2
  have hg : negT s.data.toList = true := neg_yes (by omega) (beq_iff_eq.2 q.2)
  have N : NumA s 1 := ⟨by rw [hg]; rfl, by omega, by omega, by
   rintro ⟨w1, w2⟩
   have w1 := eq_of_beq w1
   rcases q2.2 with z | z
   ·exact z w1
   ·omega⟩
  refine ⟨Nat × Nat, fun (n, i) => ([(0, .str s), (6, .int .i64 (1 : Nat)), (7, .int .i64 (n : Nat)), (8, .int .i64 (i : Nat))], []), fun (n, i) => Lib.decFrom 0 ((s.data.toList.drop 1).take (i - 1)) = some n /\ 1 <= i /\ i <= s.data.toList.length, fun (n, i) => s.size - i, ⟨(0, 1), ⟨by rw [Nat.sub_self]; rfl, Nat.le_refl _, by have := N.len; omega⟩, .le ⟨rfl, trivial, rfZ⟩⟩, fun y hy => ?_⟩
  obtain ⟨n, i⟩ := y
  obtain ⟨h1, h2, h3⟩ := hy
  have hn := dec_small h1 (by have := N.nine; omega)
  repeat' (first
   | (refine Ax.go ?_; first | (with_reducible apply Alt.one))
   | exact Cl.go
   | ((fail_if_success refine Stop.go ?_); first | (with_reducible first | apply And.intro | apply Cut.go | (refine impI ?_; intro _)) | (refine propI ?_; conv => whnf)))
  all_goals try exact nbZ
  all_goals try (refine Sc.imp fun w => ?_)
  all_goals try (with_reducible refine Sc.of ?_)
  all_goals try (simp only [bAnd, bOr, Bool.and_eq_true, Bool.or_eq_true, Bool.and_eq_false_iff, Bool.or_eq_false_iff, decide_eq_true_eq, decide_eq_false_iff_not, beq_iff_eq, beq_eq_false_iff_ne, ne_eq, Int.not_lt, Int.toNat_natCast] at *)
  all_goals try omega
  all_goals try (exact ⟨by omega, by omega⟩)
  ·rename_i q3 q4
   have w := num_b4 N h2 (by omega) q4; exact .mk [] [] _ rfl (.le (.tups ⟨⟨trivial, .intI (by rw [w.1])⟩, .boolT (by rw [w.2])⟩)) trivial rfl
  ·rename_i q3 q4
   obtain ⟨d, d1, d2, d3⟩ := num_st h2 (by omega) (by omega) (by omega) h1
   exact ⟨(n * 10 + d, i + 1), ⟨d3, by show 1 <= i + 1; omega, by show i + 1 <= _; omega⟩, by show s.size - (i + 1) < s.size - i; omega, .le ⟨rfl, trivial, ⟨.refl _, .refl _, .intI (by rw [d2]; show _ = ((n * 10 + d : Nat) : Int); omega), .refl _, trivial⟩⟩⟩
  ·have w := num_end N (by omega) h1
   rw [hg] at w
   exact .mk [] [] _ rfl (.le (.tups ⟨⟨trivial, .intI (by rw [w.2]; rfl)⟩, .boolT (by rw [w.1])⟩)) trivial rfl
 ·rename_i q
  refine Sc.imp fun w => ?_
  exact ⟨by omega, by omega⟩
 ·rename_i q
  refine Sc.imp fun w => ?_
  simp only [bAnd, bOr, Bool.and_eq_true, Bool.or_eq_true, Bool.and_eq_false_iff, Bool.or_eq_false_iff, decide_eq_true_eq, decide_eq_false_iff_not, beq_iff_eq, beq_eq_false_iff_ne, ne_eq] at q w
  exact ⟨by omega, by omega⟩
 ·rename_i q q2
  simp only [bAnd, bOr, Bool.and_eq_true, Bool.or_eq_true, Bool.and_eq_false_iff, Bool.or_eq_false_iff, decide_eq_true_eq, decide_eq_false_iff_not, beq_iff_eq, beq_eq_false_iff_ne, ne_eq] at q q2
  have hg : negT s.data.toList = false := neg_a s q
  have ha : 0 = if negT s.data.toList then 1 else 0 := by rw [hg]; rfl
  rcases q2 with (q2 | q2) | q2
  ·have w := num_b1 ha (by omega); exact .mk [] [] _ rfl (.le (.tups ⟨⟨trivial, .intI (by rw [w.1])⟩, .boolT (by rw [w.2])⟩)) trivial rfl
  ·have w := num_b2 ha (by omega); exact .mk [] [] _ rfl (.le (.tups ⟨⟨trivial, .intI (by rw [w.1])⟩, .boolT (by rw [w.2])⟩)) trivial rfl
  ·have w := num_b3 ha (by omega) (beq_iff_eq.2 q2.1) (by omega); exact .mk [] [] _ rfl (.le (.tups ⟨⟨trivial, .intI (by rw [w.1])⟩, .boolT (by rw [w.2])⟩)) trivial rfl
 ·rename_i q q2
  simp only [bAnd, bOr, Bool.and_eq_true, Bool.or_eq_true, Bool.and_eq_false_iff, Bool.or_eq_false_iff, decide_eq_true_eq, decide_eq_false_iff_not, beq_iff_eq, beq_eq_false_iff_ne, ne_eq] at q q2
  have hg : negT s.data.toList = false := neg_a s q
  have N : NumA s 0 := ⟨by rw [hg]; rfl, by omega, by omega, by
   rintro ⟨w1, w2⟩
   have w1 := eq_of_beq w1
   rcases q2.2 with z | z
   ·exact z w1
   ·omega⟩
  refine ⟨Nat × Nat, fun (n, i) => ([(0, .str s), (6, .int .i64 (0 : Nat)), (7, .int .i64 (n : Nat)), (8, .int .i64 (i : Nat))], []), fun (n, i) => Lib.decFrom 0 ((s.data.toList.drop 0).take (i - 0)) = some n /\ 0 <= i /\ i <= s.data.toList.length, fun (n, i) => s.size - i, ⟨(0, 0), ⟨by rw [Nat.sub_self]; rfl, Nat.le_refl _, by have := N.len; omega⟩, .le ⟨rfl, trivial, rfZ⟩⟩, fun y hy => ?_⟩
  obtain ⟨n, i⟩ := y
  obtain ⟨h1, h2, h3⟩ := hy
  have hn := dec_small h1 (by have := N.nine; omega)
  repeat' (first
   | (refine Ax.go ?_; first | (with_reducible apply Alt.one))
   | exact Cl.go
   | ((fail_if_success refine Stop.go ?_); first | (with_reducible first | apply And.intro | apply Cut.go | (refine impI ?_; intro _)) | (refine propI ?_; conv => whnf)))
  all_goals try exact nbZ
  all_goals try (refine Sc.imp fun w => ?_)
  all_goals try (with_reducible refine Sc.of ?_)
  all_goals try (simp only [bAnd, bOr, Bool.and_eq_true, Bool.or_eq_true, Bool.and_eq_false_iff, Bool.or_eq_false_iff, decide_eq_true_eq, decide_eq_false_iff_not, beq_iff_eq, beq_eq_false_iff_ne, ne_eq, Int.not_lt, Int.toNat_natCast] at *)
  all_goals try omega
  all_goals try (exact ⟨by omega, by omega⟩)
  ·rename_i q3 q4
   have w := num_b4 N h2 (by omega) q4; exact .mk [] [] _ rfl (.le (.tups ⟨⟨trivial, .intI (by rw [w.1])⟩, .boolT (by rw [w.2])⟩)) trivial rfl
  ·rename_i q3 q4
   obtain ⟨d, d1, d2, d3⟩ := num_st h2 (by omega) (by omega) (by omega) h1
   exact ⟨(n * 10 + d, i + 1), ⟨d3, by show 0 <= i + 1; omega, by show i + 1 <= _; omega⟩, by show s.size - (i + 1) < s.size - i; omega, .le ⟨rfl, trivial, ⟨.refl _, .refl _, .intI (by rw [d2]; show _ = ((n * 10 + d : Nat) : Int); omega), .refl _, trivial⟩⟩⟩
  ·have w := num_end N (by omega) h1
   rw [hg] at w
   exact .mk [] [] _ rfl (.le (.tups ⟨⟨trivial, .intI (by rw [w.2]; rfl)⟩, .boolT (by rw [w.1])⟩)) trivial rfl
end
end Go.Fx
/-
 The specification's texts of trips.
-/
namespace Go.Fx
open Go.Proofs Go.RowKit
structure InL (l : List Int) : Prop where
 len : l.length <= 100
 i : ∀ j, j < l.length -> inK .i64 (l.getD j 0)
structure XIn (x : Trp) : Prop where
 d : inK .i64 x.m.d
 s : inK .i64 x.m.s
 ex : InL x.ex
 len : x.sg.length <= 100
 sg : ∀ j, j < x.sg.length -> inK .i64 (x.sg.getD j seg0).z /\ inK .i64 (x.sg.getD j seg0).me /\ inK .i64 (x.sg.getD j seg0).se
section
variable {W0 : World} {G : Nat -> Option AV} (hX : (Xc W0 G).Good)
include hX
end
end Go.Fx
/-
 The specification reads numbers.
-/
namespace Go.Fx
open Go.Proofs Go.RowKit
theorem push_f {n a : Nat} {f : Nat -> Int} {g : Nat -> Nat -> AV} (hg : g 0 0 = .int .i64 (f n)) (ha : a < n + 1) : joinF n (fun a _ => .int .i64 (f a)) g a 0 = .int .i64 (f a) := by
 unfold joinF
 by_cases h : a < n
 ·rw [if_pos h]
 ·obtain rfl : a = n := by omega
  rw [if_neg h, Nat.sub_self, hg]
def cp (s : ByteArray) (a : Nat) : ByteArray := (cutS 44 s).getD a bs0
theorem cp_size (s : ByteArray) (a : Nat) : (cp s a).size <= s.size := by
 unfold cp
 rw [cutS_at, toS_size, size_len s]
 rcases Nat.lt_or_ge a (cut 44 s.data.toList).length with h | h
 ·rw [List.getD_eq_getElem?_getD, List.getElem?_eq_getElem h]
  exact (cut_mem 44 _ _ (List.getElem_mem h)).1
 ·rw [List.getD_eq_getElem?_getD, List.getElem?_eq_none h]; simp
theorem cutS_len_le (c : UInt8) (s : ByteArray) : (cutS c s).length <= s.size + 1 := by rw [cutS_len, size_len]; exact cut_len _ _
section
variable {W0 : World} {G : Nat -> Option AV} (hX : (Xc W0 G).Good)
include hX
end
end Go.Fx
/-
 The specification reads a trip.
-/
namespace Go.Fx
open Go.Proofs Go.RowKit
section
variable {W0 : World} {G : Nat -> Option AV} (hX : (Xc W0 G).Good)
include hX
end
end Go.Fx
