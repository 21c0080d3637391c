/-
 A tariff in one line; tariffs that are the same.
-/
import Derived.Test.YtkinfbkpecjpnaaGreatDoorHg
import Derived.Test.YtkinfbkpecjpnaaGreatDoorGi
import Derived.Test.YtkinfbkpecjpnaaGreatDoorHf
set_option linter.all false
/-
 A tariff in one line; a byte in place of another one.
-/
namespace Go.Fx
open Go.Proofs Go.RowKit
def outT (s : ByteArray) : Trf × Int := if 0 <= Lib.indexByte s.data.toList 10 then (trf0, 7) else ((outP (toS (rpB 59 10 s.data.toList))).t, (outP (toS (rpB 59 10 s.data.toList))).e)
def resT (s : ByteArray) : AV := .tup 2 (tbl [trfA (outT s).1, .int .i64 (outT s).2])
def SzP (s : ByteArray) : Prop := s.size <= 500 \/ (60000 < s.size /\ s.size <= 1000000)
theorem rp_size (s : ByteArray) : (toS (rpB 59 10 s.data.toList)).size = s.size := by rw [toS_size]; unfold rpB; rw [List.length_map]; rfl
def rq (x : Int) : Int := bif x == 59 then 10 else x
def rqB (s : ByteArray) (i j : Nat) : Int := bif Nat.blt j i then rq (byteAt s j) else byteAt s j
theorem blt_f {j i : Nat} (h : i <= j) : Nat.blt j i = false := by rw [Bool.eq_false_iff]; intro q; rw [Nat.blt_eq] at q; omega
theorem blt_t {j i : Nat} (h : j < i) : Nat.blt j i = true := by rw [Nat.blt_eq]; exact h
theorem rqB_at (s : ByteArray) (i : Nat) : rqB s i i = byteAt s i := by unfold rqB; rw [blt_f (Nat.le_refl _)]; rfl
theorem rqB_no {s : ByteArray} {i : Nat} (h : (byteAt s i == 59) = false) (j : Nat) : rqB s i j = rqB s (i + 1) j := by
 unfold rqB
 rcases Nat.lt_trichotomy j i with q | q | q
 ·rw [blt_t q, blt_t (by omega)]
 ·subst q; rw [blt_f (Nat.le_refl _), blt_t (Nat.lt_succ_self _)]; show byteAt s j = rq (byteAt s j); unfold rq; rw [h]; rfl
 ·rw [blt_f (by omega), blt_f (by omega)]
theorem rqB_hit {s : ByteArray} {i : Nat} (h : (byteAt s i == 59) = true) (j : Nat) : (if j = i then 10 else rqB s i j) = rqB s (i + 1) j := by
 unfold rqB
 rcases Nat.lt_trichotomy j i with q | q | q
 ·rw [if_neg (by omega), blt_t q, blt_t (by omega)]
 ·subst q; rw [if_pos rfl, blt_t (Nat.lt_succ_self _)]; show 10 = rq (byteAt s j); unfold rq; rw [h]; rfl
 ·rw [if_neg (by omega), blt_f (by omega), blt_f (by omega)]
theorem put_rq {s : ByteArray} {i a : Nat} (h : (byteAt s i == 59) = true) : putF i 0 [AV.int .u8 10] (fun j _ => AV.int .u8 (rqB s i j)) a 0 = AV.int .u8 (rqB s (i + 1) a) := by
 unfold putF
 rw [<- rqB_hit h a]
 by_cases e : a = i
 ·rw [if_pos ⟨e, Nat.le_refl _, Nat.zero_lt_succ _⟩, if_pos e]; rfl
 ·rw [if_neg (fun q => e q.1), if_neg e]
theorem str_rp (s : ByteArray) : strOf s.size (fun j _ => .int .u8 (rqB s s.size j)) = toS (rpB 59 10 s.data.toList) := by
 refine bytes_eq ?_
 show (List.range s.size).map (fun i => UInt8.ofNat (rqB s s.size i).toNat) = rpB 59 10 s.data.toList
 have hz := size_len s
 unfold rpB
 apply List.ext_getElem
 ·rw [List.length_map, List.length_map, List.length_range, hz]
 ·intro i h1 h2
  have hi : i < s.size := by simpa using h1
  have hi2 : i < s.data.toList.length := by omega
  rw [List.getElem_map, List.getElem_map, List.getElem_range]
  unfold rqB
  rw [blt_t hi, byte_at hi2]
  show UInt8.ofNat (rq _).toNat = _
  unfold rq
  rw [show (((s.data.toList[i].toNat : Int)) == 59) = decide (s.data.toList[i] = 59) from byte_beq (b := 59)]
  by_cases e : s.data.toList[i] = 59
  ·rw [decide_eq_true e, if_pos e]; rfl
  ·rw [decide_eq_false e, if_neg e]; show UInt8.ofNat (s.data.toList[i].toNat : Int).toNat = _; simp
theorem nl_yes {s : ByteArray} {i : Nat} (hi : i < s.data.toList.length) (h : (byteAt s i == 10) = true) : 0 <= Lib.indexByte s.data.toList 10 := by
 rw [byte_at hi, show (((s.data.toList[i].toNat : Int)) == 10) = decide (s.data.toList[i] = 10) from byte_beq (b := 10)] at h
 have h := of_decide_eq_true h
 have hg := Lib.indexByte_ge s.data.toList 10
 rcases Int.lt_or_le (Lib.indexByte s.data.toList 10) 0 with q | q
 ·exact absurd (List.getElem?_eq_getElem hi ▸ (by rw [h] : some s.data.toList[i] = some 10)) (Lib.indexByte_none (by omega) i)
 ·exact q
theorem nl_no {s : ByteArray} (h : ∀ j, j < s.data.toList.length -> (byteAt s j == 10) = false) : ¬ 0 <= Lib.indexByte s.data.toList 10 := fun q => by
 obtain ⟨h1, _⟩ := Lib.indexByte_some (show Lib.indexByte s.data.toList 10 = ((Lib.indexByte s.data.toList 10).toNat : Nat) by omega)
 have hi := (List.getElem?_eq_some_iff.1 h1)
 obtain ⟨hi, e⟩ := hi
 have := h _ hi
 rw [byte_at hi, e] at this
 cases this
section
variable {W0 : World} {G : Nat -> Option AV} (hX : (Xc W0 G).Good) (hl : Laid W0)
include hX hl
theorem c13 (s : ByteArray) (hs : Side (SzP s)) : Pure (Xc W0 G) 13 [.str s] (resP (outP s)) := by
 unfold outP
 by_cases h : 60000 < s.size
 ·rw [if_pos h]; exact c13_8 hX hl s (Side.mk h)
 ·rw [if_neg h]; exact c13_p hX hl s (Side.mk (by rcases hs.get with q | q <;> omega))
theorem c14 (s : ByteArray) (hs : Side (SzP s)) : Pure (Xc W0 G) 14 [.str s] (resP (outP s)) := by
 unfold outP
 by_cases h : 60000 < s.size
 ·rw [if_pos h]; exact c14_8 hX hl s (Side.mk h)
 ·rw [if_neg h]; exact c14_p hX hl s (Side.mk (by rcases hs.get with q | q <;> omega))
theorem c50 (s : ByteArray) (hs : Side (s.size <= 1000000)) : Pure (Xc W0 G) 50 [.str s, .int .u8 59, .int .u8 10] (.str (toS (rpB 59 10 s.data.toList))) := by
 refine mut_of' hX (fnI Tryz.f50) rfl ?_
 repeat' (first
  | (refine Ax.go ?_; first | (with_reducible refine Alt.two ?_))
  | exact Cl.go
  | ((fail_if_success refine Stop.go ?_); first | (with_reducible first | apply And.intro | apply Cut.go | (refine impI ?_; intro _)) | (refine propI ?_; conv => whnf)))
 all_goals try exact nbZ
 ·exact .of (by have := hs.get; omega)
 refine ⟨Nat, fun i => ([(1, .int .u8 59), (2, .int .u8 10), (7, .own 0 1), (8, .int .i64 ((i : Nat) : Int))], ([.list 5 1 s.size (fun j _ => .int .u8 (rqB s (i) j)) 1] : List HObj)), fun i => i <= s.size, fun i => s.size - i, ⟨0, Nat.zero_le _, .le ⟨rfl, ⟨.refl _, trivial⟩, rfZ⟩⟩, fun i hi => ?_⟩
 repeat' (first
  | (refine Ax.go ?_; first | (with_reducible apply Alt.one))
  | exact Cl.go
  | ((fail_if_success refine Stop.go ?_); first | (with_reducible first | apply And.intro | apply Cut.go | (refine impI ?_; intro _)) | (refine propI ?_; conv => whnf)))
 all_goals try exact nbZ
 all_goals try ((with_reducible refine (?_ : Sc _ _)); have hs6 := hs.get; replace hi : i <= s.size := hi; first
  | (rename_i q _; have q := of_decide_eq_true q; first | exact .of ⟨by omega, by omega⟩ | exact Sc.of (show i < s.size by omega))
  | (rename_i q; have q := of_decide_eq_true q; first | exact .of ⟨by omega, by omega⟩ | exact Sc.of (show i < s.size by omega))
  | exact .of ⟨by show (-9223372036854775808 : Int) <= ((i : Nat) : Int) + 1; omega, by show ((i : Nat) : Int) + 1 <= 9223372036854775807; omega⟩
  | exact .of (List.all_eq_true.2 fun _ _ => rfl))
 ·rename_i q q2; have q := of_decide_eq_true q
  have q2 : (byteAt s i == 59) = true := by rw [<- rqB_at s i]; exact q2
  exact ⟨i + 1, by show i + 1 <= s.size; omega, by show s.size - (i + 1) < s.size - i; omega, .le ⟨rfl, ⟨.list fun a j ha hj => by replace hj : j < 1 := hj; (obtain rfl : j = 0 := (by omega)); exact Le.ofEq (put_rq q2), trivial⟩, rfZ⟩⟩
 ·rename_i q q2; have q := of_decide_eq_true q
  have q2 : (byteAt s i == 59) = false := by rw [<- rqB_at s i]; exact q2
  exact ⟨i + 1, by show i + 1 <= s.size; omega, by show s.size - (i + 1) < s.size - i; omega, .le ⟨rfl, ⟨.list fun a j ha hj => by replace hj : j < 1 := hj; (obtain rfl : j = 0 := (by omega)); exact Le.intI (rqB_no q2 a), trivial⟩, rfZ⟩⟩
 ·rename_i q; have q := of_decide_eq_false q
  replace hi : i <= s.size := hi
  obtain rfl : i = s.size := by omega
  rw [<- str_rp]
  exact .mk [] [] _ rfl (.le (.refl _)) trivial rfl
theorem c16 (s : ByteArray) (hs : Side (SzP s)) : Pure (Xc W0 G) 16 [.str s] (resT s) := by
 refine mut_of' hX (fnI Tryz.f16) rfl ?_
 repeat' (first
  | (refine Ax.go ?_; first | (with_reducible apply callAlt (c48 (W0 := W0) (G := G) s 10)) | (with_reducible apply callAlt ((show Pure (Xc W0 G) 49 [.str s, .str (toS [59]), .str (toS [10])] (.str (toS (rpB 59 10 s.data.toList))) from (replaceAll_rp (a := 59) (b := 10) (by decide) s.data.toList) ▸ c49 hl s 59 10 (Side.mk (by have h := hs.get; unfold SzP at h; omega))))) | (with_reducible apply callAlt (c13 hX hl (toS (rpB 59 10 s.data.toList)) (Side.mk (by have h := hs.get; unfold SzP at *; rw [rp_size]; exact h)))) | (with_reducible apply Alt.one))
  | exact Cl.go
  | ((fail_if_success refine Stop.go ?_); first | (with_reducible first | apply And.intro | apply Cut.go | (refine impI ?_; intro _)) | (refine propI ?_; conv => whnf)))
 all_goals try exact nbZ
 ·rename_i q; have q := of_decide_eq_true q
  unfold resT; rw [show outT s = (trf0, 7) from if_pos q]
  exact .mk [] [] _ rfl (.le (.tups ⟨⟨trivial, .aggs (n := 8) (z8 rfl)⟩, .refl _⟩)) trivial rfl
 ·rename_i q; have q := of_decide_eq_false q
  unfold resT; rw [show outT s = ((outP (toS (rpB 59 10 s.data.toList))).t, (outP (toS (rpB 59 10 s.data.toList))).e) from if_neg q]
  exact .mk [] [] _ rfl (.le (.tups ⟨⟨trivial, .aggs (n := 8) ⟨⟨⟨⟨⟨⟨⟨⟨trivial, .refl _⟩, .refl _⟩, .refl _⟩, .refl _⟩, .refl _⟩, .refl _⟩, .refl _⟩, .refl _⟩⟩, .refl _⟩)) trivial rfl
theorem c17 (s : ByteArray) (hs : Side (SzP s)) : Pure (Xc W0 G) 17 [.str s] (resT s) := by
 refine mut_of' hX (fnI Tryz.f17) rfl ?_
 repeat' (first
  | (refine Ax.go ?_; first | (with_reducible apply Alt.one))
  | exact Cl.go
  | ((fail_if_success refine Stop.go ?_); first | (with_reducible first | apply And.intro | apply Cut.go | (refine impI ?_; intro _)) | (refine propI ?_; conv => whnf)))
 all_goals try exact nbZ
 have hsz := size_len s
 have hs6 : s.size <= 1000000 := by have h := hs.get; unfold SzP at h; omega
 refine ⟨Nat, fun i => ([(0, .str s), (2, .ptr 0 0), (4, .int .i64 (i : Nat))], ([.box [.str bs0, .int .i64 0, .int .i64 0, .slc0, .slc0, .slc0, .slc0, .slc0]] : List HObj)), fun i => i <= s.size /\ ∀ j, j < i -> (byteAt s j == 10) = false, fun i => s.size - i, ⟨0, ⟨Nat.zero_le _, fun _ h => by omega⟩, .le ⟨rfl, ⟨.refl _, trivial⟩, rfZ⟩⟩, fun i ⟨hi, h0⟩ => ?_⟩
 repeat' (first
  | (refine Ax.go ?_; first | (with_reducible apply callAlt (c50 hX hl s (Side.mk hs6))) | (with_reducible apply callAlt (c14 hX hl (toS (rpB 59 10 s.data.toList)) (Side.mk (by have h := hs.get; unfold SzP at *; rw [rp_size]; exact h)))) | (with_reducible apply Alt.one))
  | exact Cl.go
  | ((fail_if_success refine Stop.go ?_); first | (with_reducible first | apply And.intro | apply Cut.go | (refine impI ?_; intro _)) | (refine propI ?_; conv => whnf)))
 all_goals try exact nbZ
 ·rename_i q; have q := of_decide_eq_true q; exact .of ⟨by omega, by omega⟩
 ·rename_i q q2; have q := of_decide_eq_true q
  unfold resT; rw [show outT s = (trf0, 7) from if_pos (nl_yes (i := i) (by omega) q2)]
  exact .mk [] [] _ rfl (.le (.tups ⟨⟨trivial, .aggs (n := 8) (z8 rfl)⟩, .refl _⟩)) trivial rfl
 ·exact .of ⟨by show (-9223372036854775808 : Int) <= ((i : Nat) : Int) + 1; omega, by show ((i : Nat) : Int) + 1 <= 9223372036854775807; omega⟩
 ·rename_i q q2; have q := of_decide_eq_true q
  exact ⟨i + 1, ⟨by omega, all_lt h0 q2⟩, by show s.size - (i + 1) < s.size - i; omega, .le ⟨rfl, ⟨.refl _, trivial⟩, rfZ⟩⟩
 ·rename_i q; have q := of_decide_eq_false q
  unfold resT; rw [show outT s = ((outP (toS (rpB 59 10 s.data.toList))).t, (outP (toS (rpB 59 10 s.data.toList))).e) from if_neg (nl_no fun j hj => h0 j (by omega))]
  exact .mk [] [] _ rfl (.le (.tups ⟨⟨trivial, .aggs (n := 8) ⟨⟨⟨⟨⟨⟨⟨⟨trivial, .refl _⟩, .refl _⟩, .refl _⟩, .refl _⟩, .refl _⟩, .refl _⟩, .refl _⟩, .refl _⟩⟩, .refl _⟩)) trivial rfl
end
end Go.Fx
/-
 Tariffs that are the same.
-/
namespace Go.Fx
open Go.Proofs Go.RowKit
section
variable {W0 : World} {G : Nat -> Option AV} (hX : (Xc W0 G).Good)
include hX
theorem c47 (l : List ByteArray) (hs : Side (l.length <= 1000000)) : Pure (Xc W0 G) 47 [sRow l, sRow l] (.bool true) := by
 have hs := hs.get
 refine mut_of' hX (fnI Tryz.f47) rfl ?_
 repeat' (first
  | (refine Ax.go ?_; first | (with_reducible apply Alt.one))
  | exact Cl.go
  | ((fail_if_success refine Stop.go ?_); first | (with_reducible first | apply And.intro | apply Cut.go | (refine impI ?_; intro _)) | (refine propI ?_; conv => whnf)))
 all_goals try exact nbZ
 all_goals try (rename_i q; exfalso; simp at q; done)
 refine ⟨Nat, fun i => ([(0, sRow l), (1, sRow l), (5, .int .i64 (i : Nat))], []), fun i => i <= l.length, fun i => l.length - i, ⟨0, Nat.zero_le _, .le ⟨rfl, trivial, rfZ⟩⟩, fun i hi => ?_⟩
 repeat' (first
  | (refine Ax.go ?_; first | (with_reducible apply Alt.one))
  | exact Cl.go
  | ((fail_if_success refine Stop.go ?_); first | (with_reducible first | apply And.intro | apply Cut.go | (refine impI ?_; intro _)) | (refine propI ?_; conv => whnf)))
 all_goals replace hi : i <= l.length := hi
 all_goals try exact nbZ
 all_goals try ((with_reducible refine (?_ : Sc _ _)); rename_i q; have q := of_decide_eq_true q; first | exact .of ⟨by omega, by omega⟩ | exact .of (by decide))
 all_goals try (rename_i q2 q; exfalso; simp at q; done)
 all_goals try ((with_reducible refine (?_ : Sc _ _)); rename_i q q2; have q := of_decide_eq_true q; exact .of ⟨by omega, by omega⟩)
 ·rename_i q q2; have q := of_decide_eq_true q
  exact ⟨i + 1, by show i + 1 <= l.length; omega, by show l.length - (i + 1) < l.length - i; omega, .le ⟨rfl, trivial, rfZ⟩⟩
 ·exact .mk [] [] _ rfl (.le (.refl _)) trivial rfl
theorem c36 (l : List Int) (hs : Side (l.length <= 1000000)) : Pure (Xc W0 G) 36 [iRow l, iRow l] (.bool true) := by
 have hs := hs.get
 refine mut_of' hX (fnI Tryz.f36) rfl ?_
 repeat' (first
  | (refine Ax.go ?_; first | (with_reducible apply Alt.one))
  | exact Cl.go
  | ((fail_if_success refine Stop.go ?_); first | (with_reducible first | apply And.intro | apply Cut.go | (refine impI ?_; intro _)) | (refine propI ?_; conv => whnf)))
 all_goals try exact nbZ
 all_goals try (rename_i q; exfalso; simp at q; done)
 refine ⟨Nat, fun i => ([(0, iRow l), (1, iRow l), (5, .int .i64 (i : Nat))], []), fun i => i <= l.length, fun i => l.length - i, ⟨0, Nat.zero_le _, .le ⟨rfl, trivial, rfZ⟩⟩, fun i hi => ?_⟩
 repeat' (first
  | (refine Ax.go ?_; first | (with_reducible apply Alt.one))
  | exact Cl.go
  | ((fail_if_success refine Stop.go ?_); first | (with_reducible first | apply And.intro | apply Cut.go | (refine impI ?_; intro _)) | (refine propI ?_; conv => whnf)))
 all_goals replace hi : i <= l.length := hi
 all_goals try exact nbZ
 all_goals try (rename_i q; have q := of_decide_eq_true q; first | exact .of ⟨by omega, by omega⟩ | exact .of (by decide))
 all_goals try (rename_i q2 q; exfalso; simp at q; done)
 all_goals try (rename_i q q2; have q := of_decide_eq_true q; exact .of ⟨by omega, by omega⟩)
 ·rename_i q q2; have q := of_decide_eq_true q
  exact ⟨i + 1, by show i + 1 <= l.length; omega, by show l.length - (i + 1) < l.length - i; omega, .le ⟨rfl, trivial, rfZ⟩⟩
 ·exact .mk [] [] _ rfl (.le (.refl _)) trivial rfl
set_option maxHeartbeats 4000000 in
theorem c15 (t : Trf) (hs : Side (TOk t)) : Pure (Xc W0 G) 15 [trfA t, trfA t] (.bool true) := by
 have hs := hs.get
 have b1 := hs.rules
 have b2 := hs.extras
 have b3 := hs.fixed
 refine mut_of' hX (fnI Tryz.f15) rfl ?_
 repeat' (first
  | (refine Ax.go ?_; first | ((with_reducible apply callAlt (c47 hX t.zones ?_)); case hl => (first | exact AllLe.refl _ | ((repeat' (first | exact trivial | apply Le.aggs | apply Le.tups | apply Le.fns | exact Le.refl _ | refine ⟨?_, ?_⟩)); done))) | ((with_reducible apply callAlt (c36 hX t.hol ?_)); case hl => (first | exact AllLe.refl _ | ((repeat' (first | exact trivial | apply Le.aggs | apply Le.tups | apply Le.fns | exact Le.refl _ | refine ⟨?_, ?_⟩)); done))) | (with_reducible apply Alt.one))
  | exact Cl.go
  | ((fail_if_success refine Stop.go ?_); first | (with_reducible first | apply And.intro | apply Cut.go | (refine impI ?_; intro _)) | (refine propI ?_; conv => whnf)))
 all_goals try exact nbZ
 all_goals try (exact Side.mk (Nat.le_trans hs.zones (by decide)))
 all_goals try (exact Side.mk (Nat.le_trans hs.hol (by decide)))
 all_goals try (rename_i q; exfalso; simp at q; done)
 refine ⟨Nat, fun i => ([(2, .ptr 0 0), (3, .ptr 1 0), (5, .int .i64 (i : Nat))], [.box (trfC t), .box (trfC t)]), fun i => i <= t.rules.length, fun i => t.rules.length - i, ⟨0, Nat.zero_le _, .le ⟨rfl, ⟨.refl _, .refl _, trivial⟩, rfZ⟩⟩, fun i hi => ?_⟩
 repeat' (first
  | (refine Ax.go ?_; first | ((with_reducible apply callAlt (c36 hX (t.rules.getD i rul0).zones ?_)); case hl => (first | exact AllLe.refl _ | ((repeat' (first | exact trivial | apply Le.aggs | apply Le.tups | apply Le.fns | exact Le.refl _ | refine ⟨?_, ?_⟩)); done))) | ((with_reducible apply callAlt (c36 hX (t.rules.getD i rul0).days ?_)); case hl => (first | exact AllLe.refl _ | ((repeat' (first | exact trivial | apply Le.aggs | apply Le.tups | apply Le.fns | exact Le.refl _ | refine ⟨?_, ?_⟩)); done))) | (with_reducible apply Alt.one))
  | exact Cl.go
  | ((fail_if_success refine Stop.go ?_); first | (with_reducible first | apply And.intro | apply Cut.go | (refine impI ?_; intro _)) | (refine propI ?_; conv => whnf)))
 all_goals replace hi : i <= t.rules.length := hi
 all_goals try exact nbZ
 all_goals try ((with_reducible refine (?_ : Sc _ _)); exact .of ⟨by show (-9223372036854775808 : Int) <= ((i : Nat) : Int) + 1; omega, by show ((i : Nat) : Int) + 1 <= 9223372036854775807; omega⟩)
 all_goals try (exact Side.mk (Nat.le_trans (hs.rzones i) (by decide)))
 all_goals try (exact Side.mk (Nat.le_trans (hs.rdays i) (by decide)))
 all_goals try ((with_reducible refine (?_ : Sc _ _)); rename_i q; have q := of_decide_eq_true q; first | exact .of ⟨by omega, by omega⟩ | exact .of (by decide))
 all_goals try (rename_i q2 q; exfalso; simp at q; done)
 all_goals try ((with_reducible refine (?_ : Sc _ _)); rename_i q q2; have q := of_decide_eq_true q; exact .of ⟨by omega, by omega⟩)
 ·rename_i q q2; have q := of_decide_eq_true q
  exact ⟨i + 1, by show i + 1 <= t.rules.length; omega, by show t.rules.length - (i + 1) < t.rules.length - i; omega, .le ⟨rfl, ⟨.refl _, .refl _, trivial⟩, rfZ⟩⟩
 ·skip
  refine ⟨Nat, fun i => ([(2, .ptr 0 0), (3, .ptr 1 0), (8, .int .i64 (i : Nat))], [.box (trfC t), .box (trfC t)]), fun i => i <= t.extras.length, fun i => t.extras.length - i, ⟨0, Nat.zero_le _, .le ⟨rfl, ⟨.refl _, .refl _, trivial⟩, rfZ⟩⟩, fun i hi => ?_⟩
  repeat' (first
   | (refine Ax.go ?_; first | (with_reducible apply Alt.one))
   | exact Cl.go
   | ((fail_if_success refine Stop.go ?_); first | (with_reducible first | apply And.intro | apply Cut.go | (refine impI ?_; intro _)) | (refine propI ?_; conv => whnf)))
  all_goals replace hi : i <= t.extras.length := hi
  all_goals try exact nbZ
  all_goals try ((with_reducible refine (?_ : Sc _ _)); exact .of ⟨by show (-9223372036854775808 : Int) <= ((i : Nat) : Int) + 1; omega, by show ((i : Nat) : Int) + 1 <= 9223372036854775807; omega⟩)
  all_goals try (exact Side.mk (Nat.le_trans (hs.rzones i) (by decide)))
  all_goals try (exact Side.mk (Nat.le_trans (hs.rdays i) (by decide)))
  all_goals try ((with_reducible refine (?_ : Sc _ _)); rename_i q; have q := of_decide_eq_true q; first | exact .of ⟨by omega, by omega⟩ | exact .of (by decide))
  all_goals try (rename_i q2 q; exfalso; simp at q; done)
  all_goals try ((with_reducible refine (?_ : Sc _ _)); rename_i q q2; have q := of_decide_eq_true q; exact .of ⟨by omega, by omega⟩)
  ·rename_i q q2; have q := of_decide_eq_true q
   exact ⟨i + 1, by show i + 1 <= t.extras.length; omega, by show t.extras.length - (i + 1) < t.extras.length - i; omega, .le ⟨rfl, ⟨.refl _, .refl _, trivial⟩, rfZ⟩⟩
  ·skip
   refine ⟨Nat, fun i => ([(2, .ptr 0 0), (3, .ptr 1 0), (9, .int .i64 (i : Nat))], [.box (trfC t), .box (trfC t)]), fun i => i <= t.fixed.length, fun i => t.fixed.length - i, ⟨0, Nat.zero_le _, .le ⟨rfl, ⟨.refl _, .refl _, trivial⟩, rfZ⟩⟩, fun i hi => ?_⟩
   repeat' (first
    | (refine Ax.go ?_; first | (with_reducible apply Alt.one))
    | exact Cl.go
    | ((fail_if_success refine Stop.go ?_); first | (with_reducible first | apply And.intro | apply Cut.go | (refine impI ?_; intro _)) | (refine propI ?_; conv => whnf)))
   all_goals replace hi : i <= t.fixed.length := hi
   all_goals try exact nbZ
   all_goals try ((with_reducible refine (?_ : Sc _ _)); exact .of ⟨by show (-9223372036854775808 : Int) <= ((i : Nat) : Int) + 1; omega, by show ((i : Nat) : Int) + 1 <= 9223372036854775807; omega⟩)
   all_goals try (exact Side.mk (Nat.le_trans (hs.rzones i) (by decide)))
   all_goals try (exact Side.mk (Nat.le_trans (hs.rdays i) (by decide)))
   all_goals try ((with_reducible refine (?_ : Sc _ _)); rename_i q; have q := of_decide_eq_true q; first | exact .of ⟨by omega, by omega⟩ | exact .of (by decide))
   all_goals try (rename_i q2 q; exfalso; simp at q; done)
   all_goals try ((with_reducible refine (?_ : Sc _ _)); rename_i q q2; have q := of_decide_eq_true q; exact .of ⟨by omega, by omega⟩)
   ·rename_i q q2; have q := of_decide_eq_true q
    exact ⟨i + 1, by show i + 1 <= t.fixed.length; omega, by show t.fixed.length - (i + 1) < t.fixed.length - i; omega, .le ⟨rfl, ⟨.refl _, .refl _, trivial⟩, rfZ⟩⟩
   ·exact .mk [] [] _ rfl (.le (.refl _)) trivial rfl
end
end Go.Fx
