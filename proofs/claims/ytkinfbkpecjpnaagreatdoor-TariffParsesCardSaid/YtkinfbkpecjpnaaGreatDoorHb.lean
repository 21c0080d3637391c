/-
 The program's line of a tariff: days, zones.
-/
import Derived.Test.YtkinfbkpecjpnaaGreatDoorHa
import Derived.Laws.RangeString
import Derived.Laws.RangeAny
set_option linter.all false
/-
 The program's line: days.
-/
namespace Go.Fx
open Go.Proofs Go.RowKit
def dayI (c : Int) : Bool := bif decide (48 <= c) then decide (c <= 55) else false
def runG (s : ByteArray) : Nat -> Nat -> List Nat
 | 0, _ => []
 | n + 1, pos => if pos < s.size then (Utf8.decode s pos).1 :: runG s n (pos + (Utf8.decode s pos).2) else []
def runR (s : ByteArray) (pos : Nat) : List Nat := runG s (s.size - pos) pos
def ixG (s : ByteArray) : Nat -> Nat -> Int
 | 0, _ => -1
 | n + 1, pos => if pos < s.size then (bif dayI ((Utf8.decode s pos).1 : Nat) then ixG s n (pos + (Utf8.decode s pos).2) else (pos : Nat)) else -1
def ixR (s : ByteArray) (pos : Nat) : Int := ixG s (s.size - pos) pos
theorem dec_w (s : ByteArray) (pos : Nat) (h : pos < s.size) : 1 <= (Utf8.decode s pos).2 := by
 by_cases ha : (s[pos]'h).toNat < 128
 ·rw [Go.decode_ascii s pos h ha]; exact Nat.le_refl 1
 ·exact (Go.decode_high s pos h (by omega)).2
theorem runG_n (s : ByteArray) : ∀ n pos, s.size - pos <= n -> runG s n pos = runG s (s.size - pos) pos
 | 0, pos, h => by rw [Nat.le_zero.1 h]
 | n + 1, pos, h => by
  by_cases q : pos < s.size
  ·have w := dec_w s pos q
   obtain ⟨k, hk⟩ : ∃ k, s.size - pos = k + 1 := ⟨s.size - pos - 1, by omega⟩
   rw [hk, runG, runG, if_pos q, if_pos q, runG_n s n _ (by omega), runG_n s k _ (by omega)]
  ·rw [show s.size - pos = 0 from by omega]; show (if pos < s.size then _ else _) = _; rw [if_neg q]; rfl
termination_by n => n
theorem ixG_n (s : ByteArray) : ∀ n pos, s.size - pos <= n -> ixG s n pos = ixG s (s.size - pos) pos
 | 0, pos, h => by rw [Nat.le_zero.1 h]
 | n + 1, pos, h => by
  by_cases q : pos < s.size
  ·have w := dec_w s pos q
   obtain ⟨k, hk⟩ : ∃ k, s.size - pos = k + 1 := ⟨s.size - pos - 1, by omega⟩
   rw [hk, ixG, ixG, if_pos q, if_pos q, ixG_n s n _ (by omega), ixG_n s k _ (by omega)]
  ·rw [show s.size - pos = 0 from by omega]; show (if pos < s.size then _ else _) = _; rw [if_neg q]; rfl
termination_by n => n
theorem runR_1 {s : ByteArray} {pos : Nat} (h : pos < s.size) : runR s pos = (Utf8.decode s pos).1 :: runR s (pos + (Utf8.decode s pos).2) := by
 have w := dec_w s pos h
 unfold runR
 obtain ⟨k, hk⟩ : ∃ k, s.size - pos = k + 1 := ⟨s.size - pos - 1, by omega⟩
 rw [hk, runG, if_pos h, runG_n s k _ (by omega)]
theorem runR_0 {s : ByteArray} {pos : Nat} (h : ¬ pos < s.size) : runR s pos = [] := by
 unfold runR; rw [show s.size - pos = 0 from by omega]; rfl
theorem ixR_1 {s : ByteArray} {pos : Nat} (h : pos < s.size) : ixR s pos = bif dayI ((Utf8.decode s pos).1 : Nat) then ixR s (pos + (Utf8.decode s pos).2) else (pos : Nat) := by
 have w := dec_w s pos h
 unfold ixR
 obtain ⟨k, hk⟩ : ∃ k, s.size - pos = k + 1 := ⟨s.size - pos - 1, by omega⟩
 rw [hk, ixG, if_pos h, ixG_n s k _ (by omega)]
theorem ixR_0 {s : ByteArray} {pos : Nat} (h : ¬ pos < s.size) : ixR s pos = -1 := by
 unfold ixR; rw [show s.size - pos = 0 from by omega]; rfl
theorem ixR_day (s : ByteArray) : ∀ n pos, s.size - pos <= n -> decide (ixR s pos < 0) = (runR s pos).all fun d => dayI (d : Nat)
 | n, pos, h => by
  by_cases q : pos < s.size
  ·have w := dec_w s pos q
   match n, h with
   | 0, h => omega
   | n + 1, h =>
    rw [ixR_1 q, runR_1 q, List.all_cons]
    cases dayI ((Utf8.decode s pos).1 : Nat) with
    | true => rw [Bool.true_and]; exact ixR_day s n _ (by omega)
    | false => rw [Bool.false_and]; exact decide_eq_false (show ¬ ((pos : Nat) : Int) < 0 by omega)
  ·rw [ixR_0 q, runR_0 q]; rfl
termination_by n => n
def dayL (s : ByteArray) : List Int := (runR s 0).map fun d => ((d : Nat) : Int) - 48
def dayC (t : Tx) : Int := isOk (decide (ixR (toS t) 0 < 0)) 7
section
variable {W0 : World} {G : Nat -> Option AV} (hX : (Xc W0 G).Good) (hl : Laid W0)
include hX hl
theorem c138 (c : Int) : Pure (Xc W0 G) 138 [.int .i32 c] (.bool (dayI c)) := by
 refine mut_of' hX (fnI Tryz.f138) rfl ?_
 repeat' (first
  | (refine Ax.go ?_; first | (with_reducible apply Alt.one))
  | exact Cl.go
  | ((fail_if_success refine Stop.go ?_); first | (with_reducible first | apply And.intro | apply Cut.go | (refine impI ?_; intro _)) | (refine propI ?_; conv => whnf)))
 all_goals try exact nbZ
 all_goals exact .mk [] [] _ rfl (.le (.refl _)) trivial rfl
theorem c141 (c : Int) : Mut (Xc W0 G) 141 [.int .i32 c, .ptr 0 0] [.box [.fn 138 0 (fun _ => .any)]] (.bool (!dayI c)) [.box [.fn 138 0 (fun _ => .any)]] := by
 refine mut_of' hX (fnI Tryz.f141) rfl ?_
 repeat' (first
  | (refine Ax.go ?_; first | (with_reducible apply callAlt (c138 hX hl c)) | (with_reducible apply Alt.one))
  | exact Cl.go
  | ((fail_if_success refine Stop.go ?_); first | (with_reducible first | apply And.intro | apply Cut.go | (refine impI ?_; intro _)) | (refine propI ?_; conv => whnf)))
 all_goals try exact nbZ
 all_goals exact .mk [] [] _ rfl (.le (.refl _)) ⟨.le (.refl _), trivial⟩ rfl
theorem c172 (s : ByteArray) (hs : Side (s.size <= 1000000)) : Mut (Xc W0 G) 172 [.str s, .fn 141 1 (tbl [.ptr 0 0]), .bool true] [.box [.fn 138 0 (fun _ => .any)]] (.int .i64 (ixR s 0)) [.box [.fn 138 0 (fun _ => .any)]] := by
 refine mut_of' hX (fnI Tryz.f172) rfl ?_
 repeat' (first
  | (refine Ax.go ?_; first | (with_reducible apply Alt.one))
  | exact Cl.go
  | ((fail_if_success refine Stop.go ?_); first | (with_reducible first | apply And.intro | apply Cut.go | (refine impI ?_; intro _)) | (refine propI ?_; conv => whnf)))
 all_goals try exact nbZ
 refine ⟨Nat, fun p => ([(0, .str s), (1, .fn 141 1 (tbl [.ptr 0 0])), (2, .bool true), (10, .ptr 1 0)], [.box [.fn 138 0 (fun _ => .any)], .iter s p]), fun p => ixR s 0 = ixR s p, fun p => s.size - p, ⟨0, rfl, .le ⟨rfl, ⟨.refl _, .refl _, trivial⟩, rfZ⟩⟩, fun p hp => ?_⟩
 rcases Nat.lt_or_ge p s.size with q | q
 ·have hb : Nat.blt p s.size = true := by rw [Nat.blt_eq]; exact q
  repeat' (first
   | (refine Ax.go ?_; first | (with_reducible (apply altM (ks := [0]) (m := 0); apply And.intro; apply Sc.of; apply (c141 hX hl (((Utf8.decode s p).1 : Nat) : Int)))) | (with_reducible apply Alt.one))
   | exact Cl.go
   | ((fail_if_success refine Stop.go ?_); first | rw [hb] | (with_reducible first | apply And.intro | apply Cut.go | (refine impI ?_; intro _)) | (refine propI ?_; conv => whnf)))
  all_goals try exact nbZ
  all_goals first
  | (exfalso; rename_i h; cases h; done)
  | (rename_i h; have e : ixR s 0 = (p : Nat) := by { rw [hp, ixR_1 q]; rw [show dayI ((Utf8.decode s p).1 : Nat) = false from by revert h; cases dayI ((Utf8.decode s p).1 : Nat) <;> decide]; rfl }; rw [e]; exact .mk [] [] _ rfl (.le (.refl _)) ⟨.le (.refl _), trivial⟩ rfl)
  | (rename_i h; exact ⟨p + (Utf8.decode s p).2, by show ixR s 0 = ixR s (p + (Utf8.decode s p).2); rw [hp, ixR_1 q]; rw [show dayI ((Utf8.decode s p).1 : Nat) = true from by revert h; cases dayI ((Utf8.decode s p).1 : Nat) <;> decide]; rfl, by have := dec_w s p q; show s.size - (p + (Utf8.decode s p).2) < s.size - p; omega, .le ⟨rfl, ⟨.refl _, .refl _, trivial⟩, rfZ⟩⟩)
 ·have hb : Nat.blt p s.size = false := by rw [Bool.eq_false_iff]; intro h; rw [Nat.blt_eq] at h; omega
  repeat' (first
   | (refine Ax.go ?_; first | (with_reducible apply Alt.one))
   | exact Cl.go
   | ((fail_if_success refine Stop.go ?_); first | rw [hb] | (with_reducible first | apply And.intro | apply Cut.go | (refine impI ?_; intro _)) | (refine propI ?_; conv => whnf)))
  all_goals try exact nbZ
  all_goals first
  | (exfalso; rename_i h; cases h; done)
  | (have e : ixR s 0 = -1 := by { rw [hp, ixR_0 (by omega)] }; rw [e]; exact .mk [] [] _ rfl (.le (.refl _)) ⟨.le (.refl _), trivial⟩ rfl)
theorem c140 (s : ByteArray) (hs : Side (s.size <= 1000000)) : Mut (Xc W0 G) 140 [.str s, .fn 141 1 (tbl [.ptr 0 0])] [.box [.fn 138 0 (fun _ => .any)]] (.int .i64 (ixR s 0)) [.box [.fn 138 0 (fun _ => .any)]] := by
 refine mut_of' hX (fnI Tryz.f140) rfl ?_
 repeat' (first
  | (refine Ax.go ?_; first | (with_reducible (apply altM (ks := [0]) (m := 0); apply And.intro; apply Sc.of; apply (c172 hX hl s hs))) | (with_reducible apply Alt.one))
  | exact Cl.go
  | ((fail_if_success refine Stop.go ?_); first | (with_reducible first | apply And.intro | apply Cut.go | (refine impI ?_; intro _)) | (refine propI ?_; conv => whnf)))
 all_goals try exact nbZ
 all_goals exact .mk [] [] _ rfl (.le (.refl _)) ⟨.le (.refl _), trivial⟩ rfl
theorem c139 (s : ByteArray) (hs : Side (s.size <= 1000000)) : Mut (Xc W0 G) 139 [.str s, .ptr 0 0] [.box [.fn 138 0 (fun _ => .any)]] (.int .i64 (isOk (decide (ixR s 0 < 0)) 7)) [.box [.fn 138 0 (fun _ => .any)]] := by
 refine mut_of' hX (fnI Tryz.f139) rfl ?_
 repeat' (first
  | (refine Ax.go ?_; first | (with_reducible (apply altM (ks := [0]) (m := 0); apply And.intro; apply Sc.of; apply (c140 hX hl s hs))) | (with_reducible apply callAlt (c73 hX _ _)) | (with_reducible apply Alt.one))
  | exact Cl.go
  | ((fail_if_success refine Stop.go ?_); first | (with_reducible first | apply And.intro | apply Cut.go | (refine impI ?_; intro _)) | (refine propI ?_; conv => whnf)))
 all_goals try exact nbZ
 all_goals exact .mk [] [] _ rfl (.le (.refl _)) ⟨.le (.refl _), trivial⟩ rfl
theorem c71y0 (en : Nat) (e c : Int)  : Mut (Xc W0 G) 71 [.ptr 0 0, .fn 139 1 (tbl [.ptr 1 0])] [lnO (⟨[], en, e, c⟩), .box [.fn 138 0 (fun _ => .any)]] (.str (toS [])) [lnO (failL ⟨[], en, e, c⟩ 6 (en : Nat)), .box [.fn 138 0 (fun _ => .any)]] := by
 refine mut_of' hX (fnI Tryz.f71) rfl ?_
 repeat' (first
  | (refine Ax.go ?_; first | (with_reducible (apply altM (ks := [0]) (m := 0); apply And.intro; apply Sc.of; apply (c129 hX ⟨[], en, e, c⟩ 6 (en : Nat)))) | (with_reducible apply Alt.one))
  | exact Cl.go
  | ((fail_if_success refine Stop.go ?_); first | (with_reducible first | apply And.intro | apply Cut.go | (refine impI ?_; intro _)) | (refine propI ?_; conv => whnf)))
 all_goals try exact nbZ
 all_goals try (rename_i h; exact Bool.noConfusion (show true = false from h))
 all_goals ((with_reducible refine (?_ : Ends _ _ _ _ _ _ _)); exact .mk [] [] _ rfl (.le (.refl _)) ⟨.le (.refl _), .le (.refl _), trivial⟩ rfl)
theorem c71y1 (w : Wd) (r : List Wd) (en : Nat) (e c : Int)  (hw : Side (w.t.length <= 600)) : Mut (Xc W0 G) 71 [.ptr 0 0, .fn 139 1 (tbl [.ptr 1 0])] [lnO (⟨w :: r, en, e, c⟩), .box [.fn 138 0 (fun _ => .any)]] (.str (toS w.t)) [lnO (nextL dayC ⟨w :: r, en, e, c⟩), .box [.fn 138 0 (fun _ => .any)]] := by
 have hzz : ¬ (((((⟨w :: r, en, e, c⟩ : Ln).ws.length : Nat) : Int) == 0) = true) := fun h => by have h : ((r.length + 1 : Nat) : Int) = 0 := eq_of_beq h; omega
 refine mut_of' hX (fnI Tryz.f71) rfl ?_
 repeat' (first
  | (refine Ax.go ?_; first | (with_reducible (apply altM (ks := [0]) (m := 0); apply And.intro; apply Sc.of; apply (c129 hX ⟨r, en, e, c⟩ (dayC w.t) w.c))) | (with_reducible (apply altM (ks := [1]) (m := 0); apply And.intro; apply Sc.of; apply (c139 hX hl (toS w.t) (Side.mk (by rw [toS_size]; have := hw.get; omega))))) | (with_reducible apply Alt.one))
  | ((with_reducible refine Lk.go ?_); exact ⟨.boxes ⟨le_tail w r, .refl _, .refl _, .refl _, trivial⟩, trivial⟩)
  | exact Cl.go
  | ((fail_if_success refine Stop.go ?_); first | (with_reducible first | apply And.intro | apply Cut.go | (refine impI ?_; intro _; try (first | exact ko hzz))) | (refine propI ?_; conv => whnf)))
 all_goals try exact nbZ
 all_goals try ((with_reducible refine (?_ : Sc _ _)); exact .of ⟨by decide, by show (0 : Int) < ((r.length + 1 : Nat) : Int); omega⟩)
 all_goals try ((with_reducible refine (?_ : Sc _ _)); exact .of ⟨by decide, by show (1 : Int) <= ((r.length + 1 : Nat) : Int); omega, by omega⟩)
 ·rename_i h; rw [nextL_1 (g := dayC) h]; (with_reducible refine (?_ : Ends _ _ _ _ _ _ _)); exact .mk [] [] _ rfl (.le (.refl _)) ⟨.le (.refl _), .le (.refl _), trivial⟩ rfl
 ·rename_i h; rw [nextL_0 (g := dayC) h]; (with_reducible refine (?_ : Ends _ _ _ _ _ _ _)); exact .mk [] [] _ rfl (.le (.refl _)) ⟨.le (.boxes ⟨le_tail w r, .refl _, .refl _, .refl _, trivial⟩), .le (.refl _), trivial⟩ rfl
theorem c71y (l : Ln)  (hok : Side (LnOk l)) : Mut (Xc W0 G) 71 [.ptr 0 0, .fn 139 1 (tbl [.ptr 1 0])] [lnO (l), .box [.fn 138 0 (fun _ => .any)]] (.str (toS (nextW l))) [lnO (nextL dayC l), .box [.fn 138 0 (fun _ => .any)]] := by
 rcases l with ⟨_ | ⟨w, r⟩, en, e, c⟩
 ·exact c71y0 hX hl en e c 
 ·exact c71y1 hX hl w r en e c  (Side.mk (hok.get.t w (List.mem_cons_self ..)))
theorem push_x {Q : List Int} {x : Int} {a : Nat} (ha : a < Q.length + (0 + 1)) : joinF Q.length (fun a _ => AV.int .i64 (Q.getD a 0)) (fun p j => [AV.int .i64 x].getD (p * 1 + j) AV.any) a 0 = AV.int .i64 ((Q ++ [x]).getD a 0) := by
 unfold joinF
 by_cases h : a < Q.length
 ·rw [if_pos h]; simp only [List.getD_eq_getElem?_getD, List.getElem?_append_left h]
 ·obtain rfl : a = Q.length := by omega
  rw [if_neg h, Nat.sub_self]
  simp [List.getD_eq_getElem?_getD]
theorem c80 (l : Ln) (hs : Side (LnOk l)) : Mut (Xc W0 G) 80 [.ptr 0 0] [lnO l] (iRow (dayL (toS (nextW l)))) [lnO (nextL dayC l)] := by
 refine mut_of' hX (fnI Tryz.f80) rfl ?_
 repeat' (first
  | (refine Ax.go ?_; first | (with_reducible (apply altM (ks := [0, 1]) (m := 0); apply And.intro; apply Sc.of; apply (c71y hX hl l hs))) | (with_reducible apply Alt.one))
  | exact Cl.go
  | ((fail_if_success refine Stop.go ?_); first | (with_reducible first | apply And.intro | apply Cut.go | (refine impI ?_; intro _)) | (refine propI ?_; conv => whnf)))
 all_goals try exact nbZ
 refine ⟨Nat ⊕ (List Int × Nat), fun y => match y with | .inl p => ([(5, .slc0), (12, .ptr 2 0)], [lnO (nextL dayC l), .box [.fn 138 0 (fun _ => .any)], .iter (toS (nextW l)) p]) | .inr (Q, p) => ([(5, .own 3 Q.length), (12, .ptr 2 0)], [lnO (nextL dayC l), .box [.fn 138 0 (fun _ => .any)], .iter (toS (nextW l)) p, .list 3 1 Q.length (fun a _ => .int .i64 (Q.getD a 0)) Q.length]), fun y => match y with | .inl p => dayL (toS (nextW l)) = ((runR (toS (nextW l)) p).map fun d => ((d : Nat) : Int) - 48) | .inr (Q, p) => Q.length <= p /\ dayL (toS (nextW l)) = Q ++ ((runR (toS (nextW l)) p).map fun d => ((d : Nat) : Int) - 48), fun y => match y with | .inl p => (toS (nextW l)).size - p | .inr (Q, p) => (toS (nextW l)).size - p, ⟨.inl 0, rfl, .le ⟨rfl, rfZ, ⟨.refl _, .refl _, trivial⟩⟩⟩, fun y hy => ?_⟩
 have hz : (toS (nextW l)).size <= 600 := by rw [toS_size]; exact nextW_le hs.get
 rcases y with p | ⟨Q, p⟩
 ·have h1 : dayL (toS (nextW l)) = ((runR (toS (nextW l)) p).map fun d => ((d : Nat) : Int) - 48) := hy
  rcases Nat.lt_or_ge p (toS (nextW l)).size with q | q
  ·have hb : Nat.blt p (toS (nextW l)).size = true := by rw [Nat.blt_eq]; exact q
   have hd := Go.decode_le (toS (nextW l)) p
   have hw := dec_w (toS (nextW l)) p q
   repeat' (first
    | (refine Ax.go ?_; first | (with_reducible apply Alt.one))
    | exact Cl.go
    | ((fail_if_success refine Stop.go ?_); first | rw [hb] | (with_reducible first | apply And.intro | apply Cut.go | (refine impI ?_; intro _)) | (refine propI ?_; conv => whnf)))
   all_goals try exact nbZ
   all_goals try ((with_reducible refine (?_ : Sc _ _)); first | exact Sc.of ⟨by omega, by omega⟩ | exact Sc.of ⟨Nat.le_of_ble_eq_true rfl, Nat.le_of_ble_eq_true rfl⟩ | exact Sc.of ⟨show (Q.length + (0 + 1)) * 8 <= 140737488355328 by omega, show Q.length + (0 + 1) <= 9223372036854775807 by omega⟩)
   all_goals try (exfalso; rename_i h; cases h; done)
   have hln : [(((Utf8.decode (toS (nextW l)) p).1 : Nat) : Int) - 48].length = 1 := by simp
   refine ⟨.inr ([(((Utf8.decode (toS (nextW l)) p).1 : Nat) : Int) - 48], p + (Utf8.decode (toS (nextW l)) p).2), ⟨by rw [hln]; omega, by rw [h1, runR_1 q]; simp⟩, by show (toS (nextW l)).size - (p + (Utf8.decode (toS (nextW l)) p).2) < (toS (nextW l)).size - p; omega, .le ⟨rfl, ⟨.refl _, .refl _, .refl _, ?_, trivial⟩, ⟨?_, .refl _, trivial⟩⟩⟩
   ·show LeO (.list 3 1 _ _ _) (.list 3 1 ([(((Utf8.decode (toS (nextW l)) p).1 : Nat) : Int) - 48]).length (fun a _ => .int .i64 (([(((Utf8.decode (toS (nextW l)) p).1 : Nat) : Int) - 48]).getD a 0)) ([(((Utf8.decode (toS (nextW l)) p).1 : Nat) : Int) - 48]).length)
    rw [hln]
    refine .list (fun a j ha hj => ?_)
    replace hj : j < 1 := hj
    obtain rfl : j = 0 := by omega
    replace ha : a < 1 := ha; obtain rfl : a = 0 := by omega
    exact Le.intI rfl
   ·show Le (.own 3 _) (.own 3 ([(((Utf8.decode (toS (nextW l)) p).1 : Nat) : Int) - 48]).length)
    rw [hln]; exact .refl _
  ·have hb : Nat.blt p (toS (nextW l)).size = false := by rw [Bool.eq_false_iff]; intro h; rw [Nat.blt_eq] at h; omega
   repeat' (first
    | (refine Ax.go ?_; first | (with_reducible apply Alt.one))
    | exact Cl.go
    | ((fail_if_success refine Stop.go ?_); first | rw [hb] | (with_reducible first | apply And.intro | apply Cut.go | (refine impI ?_; intro _)) | (refine propI ?_; conv => whnf)))
   all_goals try exact nbZ
   all_goals try (exfalso; rename_i h; cases h; done)
   have e : dayL (toS (nextW l)) = [] := by rw [h1, runR_0 (by omega)]; simp
   rw [e]
   exact .mk [] [] _ rfl (.le (Le.slc0 1 _)) ⟨.le (.refl _), trivial⟩ rfl
 ·obtain ⟨h2, h1⟩ : Q.length <= p /\ dayL (toS (nextW l)) = Q ++ ((runR (toS (nextW l)) p).map fun d => ((d : Nat) : Int) - 48) := hy
  rcases Nat.lt_or_ge p (toS (nextW l)).size with q | q
  ·have hb : Nat.blt p (toS (nextW l)).size = true := by rw [Nat.blt_eq]; exact q
   have hd := Go.decode_le (toS (nextW l)) p
   have hw := dec_w (toS (nextW l)) p q
   repeat' (first
    | (refine Ax.go ?_; first | (with_reducible apply Alt.one))
    | exact Cl.go
    | ((fail_if_success refine Stop.go ?_); first | rw [hb] | rw [beqvv Q.length] | (with_reducible first | apply And.intro | apply Cut.go | (refine impI ?_; intro _)) | (refine propI ?_; conv => whnf)))
   all_goals try exact nbZ
   all_goals try ((with_reducible refine (?_ : Sc _ _)); first | exact Sc.of ⟨by omega, by omega⟩ | exact Sc.of ⟨Nat.le_of_ble_eq_true rfl, Nat.le_of_ble_eq_true rfl⟩ | exact Sc.of ⟨show (Q.length + (0 + 1)) * 8 <= 140737488355328 by omega, show Q.length + (0 + 1) <= 9223372036854775807 by omega⟩)
   all_goals try (exfalso; rename_i h; cases h; done)
   have hln : (Q ++ [(((Utf8.decode (toS (nextW l)) p).1 : Nat) : Int) - 48]).length = Q.length + 1 := by simp
   refine ⟨.inr ((Q ++ [(((Utf8.decode (toS (nextW l)) p).1 : Nat) : Int) - 48]), p + (Utf8.decode (toS (nextW l)) p).2), ⟨by rw [hln]; omega, by rw [h1, runR_1 q]; simp⟩, by show (toS (nextW l)).size - (p + (Utf8.decode (toS (nextW l)) p).2) < (toS (nextW l)).size - p; omega, .le ⟨rfl, ⟨.refl _, .refl _, .refl _, ?_, trivial⟩, ⟨?_, .refl _, trivial⟩⟩⟩
   ·show LeO (.list 3 1 _ _ _) (.list 3 1 ((Q ++ [(((Utf8.decode (toS (nextW l)) p).1 : Nat) : Int) - 48])).length (fun a _ => .int .i64 (((Q ++ [(((Utf8.decode (toS (nextW l)) p).1 : Nat) : Int) - 48])).getD a 0)) ((Q ++ [(((Utf8.decode (toS (nextW l)) p).1 : Nat) : Int) - 48])).length)
    rw [hln]
    refine .list (fun a j ha hj => ?_)
    replace hj : j < 1 := hj
    obtain rfl : j = 0 := by omega
    exact Le.ofEq (push_x hX hl ha)
   ·show Le (.own 3 _) (.own 3 ((Q ++ [(((Utf8.decode (toS (nextW l)) p).1 : Nat) : Int) - 48])).length)
    rw [hln]; exact .refl _
  ·have hb : Nat.blt p (toS (nextW l)).size = false := by rw [Bool.eq_false_iff]; intro h; rw [Nat.blt_eq] at h; omega
   repeat' (first
    | (refine Ax.go ?_; first | (with_reducible apply Alt.one))
    | exact Cl.go
    | ((fail_if_success refine Stop.go ?_); first | rw [hb] | rw [beqvv Q.length] | (with_reducible first | apply And.intro | apply Cut.go | (refine impI ?_; intro _)) | (refine propI ?_; conv => whnf)))
   all_goals try exact nbZ
   all_goals try (exfalso; rename_i h; cases h; done)
   have e : dayL (toS (nextW l)) = Q := by rw [h1, runR_0 (by omega)]; simp
   rw [e]
   exact .mk [] [3] _ rfl (.own rfl (fun _ _ _ _ => .refl _)) ⟨.le (.refl _), trivial⟩ rfl
end
end Go.Fx
/-
 The program's line: zones.
-/
namespace Go.Fx
open Go.Proofs Go.RowKit
def wrI (l : List ByteArray) : Int := findI (fun i => !nameB (l.getD i bs0)) l.length
def miI (zs l : List ByteArray) : Int := findI (fun i => !hasB zs zs.length (l.getD i bs0)) l.length
@[irreducible] def zonC (zs : List ByteArray) (P : ByteArray -> List ByteArray) (s : ByteArray) : Int := firstS [isOk (!decide (0 <= wrI (P s))) 4, isOk (!decide (0 <= miI zs (P s))) 6]
def oneP (s : ByteArray) : List ByteArray := [s]
def zonL (zs l : List ByteArray) : List Int := l.map fun z => findI (fun i => decide (z = zs.getD i bs0)) zs.length
theorem one_len (s : ByteArray) (h : s.size <= 700) : (oneP s).length <= 1000 /\ ∀ j, ((oneP s).getD j bs0).size <= 1000 := ⟨by show 1 <= 1000; omega, fun j => by
 cases j with
 | zero => show s.size <= 1000; omega
 | succ j => exact Nat.zero_le _⟩
theorem many_len (s : ByteArray) (h : s.size <= 700) : (cutS 44 s).length <= 1000 /\ ∀ j, ((cutS 44 s).getD j bs0).size <= 1000 := ⟨by have := cutS_len_le 44 s; omega, fun j => by have := cp_size s j; unfold cp at this; omega⟩
section
variable {W0 : World} {G : Nat -> Option AV} (hX : (Xc W0 G).Good) (hl : Laid W0)
include hX hl
omit hX in
theorem c28c (s : ByteArray) (hs : Side (s.size <= 1000000)) : Pure (Xc W0 G) 28 [.str s, .str (toS [44])] (sRow (cutS 44 s)) :=
 (lib_split hl (sep := toS [44]) (by have := hs.get; omega) (Nat.le_refl 1)).leO (by
  unfold sRow
  rw [show Lib.splitB (toS [44]) 0 (Lib.countB s (toS [44])) s = cutS 44 s from splitB_cut 44 s]
  refine .slcN (by simp) fun i j hi hj => ?_
  obtain rfl : j = 0 := by omega
  have hi2 : i < (cutS 44 s).length := by simpa using hi
  refine Le.ofEq ?_
  show ((cutS 44 s).map AV.str).getD (i * 1 + 0) .any = _
  simp [List.getD_eq_getElem?_getD, hi2]) trivial
theorem c79 (s : ByteArray) (hs : Side (s.size <= 1000000)) : Pure (Xc W0 G) 79 [.str s] (sRow (cutS 44 s)) := by
 refine mut_of' hX (fnI Tryz.f79) rfl ?_
 repeat' (first
  | (refine Ax.go ?_; first | (with_reducible apply callAlt (c28c hl s hs)) | (with_reducible apply Alt.one))
  | exact Cl.go
  | ((fail_if_success refine Stop.go ?_); first | (with_reducible first | apply And.intro | apply Cut.go | (refine impI ?_; intro _)) | (refine propI ?_; conv => whnf)))
 all_goals try exact nbZ
 all_goals exact .mk [] [] _ rfl (.le (.refl _)) trivial rfl
theorem c81 (s : ByteArray) : Pure (Xc W0 G) 81 [.str s] (sRow (oneP s)) := by
 refine mut_of' hX (fnI Tryz.f81) rfl ?_
 repeat' (first
  | (refine Ax.go ?_; first | (with_reducible apply Alt.one))
  | exact Cl.go
  | ((fail_if_success refine Stop.go ?_); first | (with_reducible first | apply And.intro | apply Cut.go | (refine impI ?_; intro _)) | (refine propI ?_; conv => whnf)))
 all_goals try exact nbZ
 exact .mk [] [] _ rfl (.le (.slcN rfl fun i j hi hj => by replace hi : i < 1 := hi; replace hj : j < 1 := hj; (obtain rfl : i = 0 := (by omega)); (obtain rfl : j = 0 := (by omega)); exact .refl _)) trivial rfl
theorem c136 (s : ByteArray) (hs : Side (s.size <= 1000)) : Pure (Xc W0 G) 136 [.str s] (.bool (!nameB s)) := by
 refine mut_of' hX (fnI Tryz.f136) rfl ?_
 repeat' (first
  | (refine Ax.go ?_; first | (with_reducible apply callAlt (c132 hX s hs)) | (with_reducible apply Alt.one))
  | exact Cl.go
  | ((fail_if_success refine Stop.go ?_); first | (with_reducible first | apply And.intro | apply Cut.go | (refine impI ?_; intro _)) | (refine propI ?_; conv => whnf)))
 all_goals try exact nbZ
 all_goals exact .mk [] [] _ rfl (.le (.refl _)) trivial rfl
theorem c137 (zs : List ByteArray) (v : Nat) (hz : Side (zs.length <= 1000)) (s : ByteArray) : Mut (Xc W0 G) 137 [.str s, .ptr 1 0] [.list 9 1 zs.length (fun a _ => .str (zs.getD a bs0)) v, .box [.own 0 v]] (.bool (!hasB zs zs.length s)) [.list 9 1 zs.length (fun a _ => .str (zs.getD a bs0)) v, .box [.own 0 v]] := by
 refine mut_of' hX (fnI Tryz.f137) rfl ?_
 repeat' (first
  | (refine Ax.go ?_; first | ((with_reducible apply callAltH (c74 hX zs s hz)); (case hl => exact ⟨.own rfl fun _ _ _ _ => .refl _, .le (.refl _), trivial⟩); (case hr => rfl)) | (with_reducible apply Alt.one))
  | exact Cl.go
  | ((fail_if_success refine Stop.go ?_); first | (with_reducible first | apply And.intro | apply Cut.go | (refine impI ?_; intro _)) | (refine propI ?_; conv => whnf)))
 all_goals try exact nbZ
 all_goals exact .mk [] [] _ rfl (.le (.refl _)) ⟨.le (.refl _), .le (.refl _), trivial⟩ rfl
theorem c171n  (l : List ByteArray) (hl2 : Side (l.length <= 1000 /\ ∀ j, (l.getD j bs0).size <= 1000)) : Pure (Xc W0 G) 171 [sRow l, .fn 136 0 (fun _ => .any)] (.int .i64 (wrI l)) := by
 refine mut_of' hX (fnI Tryz.f171) rfl ?_
 repeat' (first
  | (refine Ax.go ?_; first | (with_reducible apply Alt.one))
  | exact Cl.go
  | ((fail_if_success refine Stop.go ?_); first | (with_reducible first | apply And.intro | apply Cut.go | (refine impI ?_; intro _)) | (refine propI ?_; conv => whnf)))
 all_goals try exact nbZ
 have hn := hl2.get.1
 refine ⟨Nat, fun i => ([(0, sRow l), (1, .fn 136 0 (fun _ => .any)), (7, .int .i64 (l.length : Nat)), (8, .int .i64 (i : Nat))], []), fun i => i <= l.length /\ ∀ j, j < i -> (!nameB (l.getD j bs0)) = false, fun i => l.length - i, ⟨0, ⟨Nat.zero_le _, fun _ h => by omega⟩, .le ⟨rfl, trivial, rfZ⟩⟩, fun i hi => ?_⟩
 obtain ⟨h1, h2⟩ := hi
 repeat' (first
  | (refine Ax.go ?_; first | (with_reducible apply callAlt (c136 hX hl (l.getD i bs0) (Side.mk (hl2.get.2 i)))) | (with_reducible apply Alt.one))
  | exact Cl.go
  | ((fail_if_success refine Stop.go ?_); first | (with_reducible first | apply And.intro | apply Cut.go | (refine impI ?_; intro _)) | (refine propI ?_; conv => whnf)))
 all_goals try exact nbZ
 all_goals try ((with_reducible refine (?_ : Sc _ _)); rename_i q; have q := of_decide_eq_true q; exact .of ⟨by omega, by omega⟩)
 all_goals try ((with_reducible refine (?_ : Sc _ _)); rename_i q _; have q := of_decide_eq_true q; exact .of ⟨by omega, by omega⟩)
 ·rename_i q q2; have q := of_decide_eq_true q
  rw [show wrI l = (i : Nat) from findI_hit (by omega) h2 q2]; exact .mk [] [] _ rfl (.le (.refl _)) trivial rfl
 ·rename_i q q2; have q := of_decide_eq_true q
  exact ⟨i + 1, ⟨by omega, fun j hj => by
   by_cases e : j = i
   ·subst e; exact q2
   ·exact h2 j (by omega)⟩, by show l.length - (i + 1) < l.length - i; omega, .le ⟨rfl, trivial, rfZ⟩⟩
 ·rename_i q; have q := of_decide_eq_false q
  rw [show wrI l = -1 from findI_none (fun j hj => h2 j (by omega))]; exact .mk [] [] _ rfl (.le (.refl _)) trivial rfl
theorem c171h (zs : List ByteArray) (v : Nat) (hz : Side (zs.length <= 1000)) (l : List ByteArray) (hl2 : Side (l.length <= 1000 /\ ∀ j, (l.getD j bs0).size <= 1000)) : Mut (Xc W0 G) 171 [sRow l, .fn 137 1 (tbl [.ptr 1 0])] [.list 9 1 zs.length (fun a _ => .str (zs.getD a bs0)) v, .box [.own 0 v]] (.int .i64 (miI zs l)) [.list 9 1 zs.length (fun a _ => .str (zs.getD a bs0)) v, .box [.own 0 v]] := by
 refine mut_of' hX (fnI Tryz.f171) rfl ?_
 repeat' (first
  | (refine Ax.go ?_; first | (with_reducible apply Alt.one))
  | exact Cl.go
  | ((fail_if_success refine Stop.go ?_); first | (with_reducible first | apply And.intro | apply Cut.go | (refine impI ?_; intro _)) | (refine propI ?_; conv => whnf)))
 all_goals try exact nbZ
 have hn := hl2.get.1
 refine ⟨Nat, fun i => ([(0, sRow l), (1, .fn 137 1 (tbl [.ptr 1 0])), (7, .int .i64 (l.length : Nat)), (8, .int .i64 (i : Nat))], [.list 9 1 zs.length (fun a _ => .str (zs.getD a bs0)) v, .box [.own 0 v]]), fun i => i <= l.length /\ ∀ j, j < i -> (!hasB zs zs.length (l.getD j bs0)) = false, fun i => l.length - i, ⟨0, ⟨Nat.zero_le _, fun _ h => by omega⟩, .le ⟨rfl, ⟨.refl _, .refl _, trivial⟩, rfZ⟩⟩, fun i hi => ?_⟩
 obtain ⟨h1, h2⟩ := hi
 repeat' (first
  | (refine Ax.go ?_; first | (with_reducible (apply altM (ks := [0, 1]) (m := 0); apply And.intro; apply Sc.of; apply (c137 hX hl zs v hz (l.getD i bs0)))) | (with_reducible apply Alt.one))
  | exact Cl.go
  | ((fail_if_success refine Stop.go ?_); first | (with_reducible first | apply And.intro | apply Cut.go | (refine impI ?_; intro _)) | (refine propI ?_; conv => whnf)))
 all_goals try exact nbZ
 all_goals try ((with_reducible refine (?_ : Sc _ _)); rename_i q; have q := of_decide_eq_true q; exact .of ⟨by omega, by omega⟩)
 all_goals try ((with_reducible refine (?_ : Sc _ _)); rename_i q _; have q := of_decide_eq_true q; exact .of ⟨by omega, by omega⟩)
 ·rename_i q q2; have q := of_decide_eq_true q
  rw [show miI zs l = (i : Nat) from findI_hit (by omega) h2 q2]; exact .mk [] [] _ rfl (.le (.refl _)) ⟨.le (.refl _), .le (.refl _), trivial⟩ rfl
 ·rename_i q q2; have q := of_decide_eq_true q
  exact ⟨i + 1, ⟨by omega, fun j hj => by
   by_cases e : j = i
   ·subst e; exact q2
   ·exact h2 j (by omega)⟩, by show l.length - (i + 1) < l.length - i; omega, .le ⟨rfl, ⟨.refl _, .refl _, trivial⟩, rfZ⟩⟩
 ·rename_i q; have q := of_decide_eq_false q
  rw [show miI zs l = -1 from findI_none (fun j hj => h2 j (by omega))]; exact .mk [] [] _ rfl (.le (.refl _)) ⟨.le (.refl _), .le (.refl _), trivial⟩ rfl
theorem c135n (l : List ByteArray) (hl2 : Side (l.length <= 1000 /\ ∀ j, (l.getD j bs0).size <= 1000)) : Pure (Xc W0 G) 135 [sRow l, .fn 136 0 (fun _ => .any)] (.bool (decide (0 <= wrI l))) := by
 refine mut_of' hX (fnI Tryz.f135) rfl ?_
 repeat' (first
  | (refine Ax.go ?_; first | (with_reducible apply callAlt (c171n hX hl l hl2)) | (with_reducible apply Alt.one))
  | exact Cl.go
  | ((fail_if_success refine Stop.go ?_); first | (with_reducible first | apply And.intro | apply Cut.go | (refine impI ?_; intro _)) | (refine propI ?_; conv => whnf)))
 all_goals try exact nbZ
 all_goals exact .mk [] [] _ rfl (.le (.refl _)) trivial rfl
theorem c135h (zs : List ByteArray) (v : Nat) (hz : Side (zs.length <= 1000)) (l : List ByteArray) (hl2 : Side (l.length <= 1000 /\ ∀ j, (l.getD j bs0).size <= 1000)) : Mut (Xc W0 G) 135 [sRow l, .fn 137 1 (tbl [.ptr 1 0])] [.list 9 1 zs.length (fun a _ => .str (zs.getD a bs0)) v, .box [.own 0 v]] (.bool (decide (0 <= miI zs l))) [.list 9 1 zs.length (fun a _ => .str (zs.getD a bs0)) v, .box [.own 0 v]] := by
 refine mut_of' hX (fnI Tryz.f135) rfl ?_
 repeat' (first
  | (refine Ax.go ?_; first | (with_reducible (apply altM (ks := [0, 1]) (m := 0); apply And.intro; apply Sc.of; apply (c171h hX hl zs v hz l hl2))) | (with_reducible apply Alt.one))
  | exact Cl.go
  | ((fail_if_success refine Stop.go ?_); first | (with_reducible first | apply And.intro | apply Cut.go | (refine impI ?_; intro _)) | (refine propI ?_; conv => whnf)))
 all_goals try exact nbZ
 all_goals exact .mk [] [] _ rfl (.le (.refl _)) ⟨.le (.refl _), .le (.refl _), trivial⟩ rfl
theorem c134m (zs : List ByteArray) (v : Nat) (hz : Side (zs.length <= 1000)) (s : ByteArray) (hs : Side (s.size <= 700)) : Mut (Xc W0 G) 134 [.str s, .ptr 2 0, .ptr 1 0] [.list 9 1 zs.length (fun a _ => .str (zs.getD a bs0)) v, .box [.own 0 v], .box [.fn 79 0 (fun _ => .any)]] (.int .i64 (zonC zs (cutS 44) s)) [.list 9 1 zs.length (fun a _ => .str (zs.getD a bs0)) v, .box [.own 0 v], .box [.fn 79 0 (fun _ => .any)]] := by
 refine mut_of' hX (fnI Tryz.f134) rfl ?_
 repeat' (first
  | (refine Ax.go ?_; first | (with_reducible apply callAlt (c79 hX hl s (Side.mk (by have := hs.get; omega)))) | ((with_reducible apply callAlt (c135n hX hl ((cutS 44) s) (Side.mk (many_len s hs.get)))); case hl => (first | exact AllLe.refl _ | ((repeat' (first | exact trivial | apply Le.aggs | apply Le.tups | apply Le.fns | exact Le.refl _ | refine ⟨?_, ?_⟩)); done))) | (with_reducible (apply altM (ks := [0, 1]) (m := 0); apply And.intro; apply Sc.of; apply (c135h hX hl zs v hz ((cutS 44) s) (Side.mk (many_len s hs.get))))) | (with_reducible apply callAlt (c73 hX _ _)) | (with_reducible apply callAlt (c55_2 hX _ _)) | (with_reducible apply Alt.one))
  | ((with_reducible refine Ar.go ?_); first | exact ⟨le_slc2 rfl rfl, trivial⟩)
  | exact Cl.go
  | ((fail_if_success refine Stop.go ?_); first | (with_reducible first | apply And.intro | apply Cut.go | (refine impI ?_; intro _)) | (refine propI ?_; conv => whnf)))
 all_goals try exact nbZ
 unfold zonC
 all_goals exact .mk [] [] _ rfl (.le (.refl _)) ⟨.le (.refl _), .le (.refl _), .le (.refl _), trivial⟩ rfl
theorem c71zm0 (en : Nat) (e c : Int) (zs : List ByteArray) (v : Nat) (hz : Side (zs.length <= 1000)) : Mut (Xc W0 G) 71 [.ptr 0 0, .fn 134 2 (tbl [.ptr 3 0, .ptr 2 0])] [lnO (⟨[], en, e, c⟩), .list 9 1 zs.length (fun a _ => .str (zs.getD a bs0)) v, .box [.own 1 v], .box [.fn 79 0 (fun _ => .any)]] (.str (toS [])) [lnO (failL ⟨[], en, e, c⟩ 6 (en : Nat)), .list 9 1 zs.length (fun a _ => .str (zs.getD a bs0)) v, .box [.own 1 v], .box [.fn 79 0 (fun _ => .any)]] := by
 refine mut_of' hX (fnI Tryz.f71) rfl ?_
 repeat' (first
  | (refine Ax.go ?_; first | (with_reducible (apply altM (ks := [0]) (m := 0); apply And.intro; apply Sc.of; apply (c129 hX ⟨[], en, e, c⟩ 6 (en : Nat)))) | (with_reducible apply Alt.one))
  | exact Cl.go
  | ((fail_if_success refine Stop.go ?_); first | (with_reducible first | apply And.intro | apply Cut.go | (refine impI ?_; intro _)) | (refine propI ?_; conv => whnf)))
 all_goals try exact nbZ
 all_goals try (rename_i h; exact Bool.noConfusion (show true = false from h))
 all_goals ((with_reducible refine (?_ : Ends _ _ _ _ _ _ _)); exact .mk [] [] _ rfl (.le (.refl _)) ⟨.le (.refl _), .le (.refl _), .le (.refl _), .le (.refl _), trivial⟩ rfl)
theorem c71zm1 (w : Wd) (r : List Wd) (en : Nat) (e c : Int) (zs : List ByteArray) (v : Nat) (hz : Side (zs.length <= 1000)) (hw : Side (w.t.length <= 600)) : Mut (Xc W0 G) 71 [.ptr 0 0, .fn 134 2 (tbl [.ptr 3 0, .ptr 2 0])] [lnO (⟨w :: r, en, e, c⟩), .list 9 1 zs.length (fun a _ => .str (zs.getD a bs0)) v, .box [.own 1 v], .box [.fn 79 0 (fun _ => .any)]] (.str (toS w.t)) [lnO (nextL (fun t => zonC zs (cutS 44) (toS t)) ⟨w :: r, en, e, c⟩), .list 9 1 zs.length (fun a _ => .str (zs.getD a bs0)) v, .box [.own 1 v], .box [.fn 79 0 (fun _ => .any)]] := by
 have hzz : ¬ (((((⟨w :: r, en, e, c⟩ : Ln).ws.length : Nat) : Int) == 0) = true) := fun h => by have h : ((r.length + 1 : Nat) : Int) = 0 := eq_of_beq h; omega
 refine mut_of' hX (fnI Tryz.f71) rfl ?_
 repeat' (first
  | (refine Ax.go ?_; first | (with_reducible (apply altM (ks := [0]) (m := 0); apply And.intro; apply Sc.of; apply (c129 hX ⟨r, en, e, c⟩ ((fun t => zonC zs (cutS 44) (toS t)) w.t) w.c))) | (with_reducible (apply altM (ks := [1, 2, 3]) (m := 0); apply And.intro; apply Sc.of; apply (c134m hX hl zs v hz (toS w.t) (Side.mk (by rw [toS_size]; have := hw.get; omega))))) | (with_reducible apply Alt.one))
  | ((with_reducible refine Lk.go ?_); exact ⟨.boxes ⟨le_tail w r, .refl _, .refl _, .refl _, trivial⟩, trivial⟩)
  | exact Cl.go
  | ((fail_if_success refine Stop.go ?_); first | (with_reducible first | apply And.intro | apply Cut.go | (refine impI ?_; intro _; try (first | exact ko hzz))) | (refine propI ?_; conv => whnf)))
 all_goals try exact nbZ
 all_goals try ((with_reducible refine (?_ : Sc _ _)); exact .of ⟨by decide, by show (0 : Int) < ((r.length + 1 : Nat) : Int); omega⟩)
 all_goals try ((with_reducible refine (?_ : Sc _ _)); exact .of ⟨by decide, by show (1 : Int) <= ((r.length + 1 : Nat) : Int); omega, by omega⟩)
 ·rename_i h; rw [nextL_1 (g := (fun t => zonC zs (cutS 44) (toS t))) h]; (with_reducible refine (?_ : Ends _ _ _ _ _ _ _)); exact .mk [] [] _ rfl (.le (.refl _)) ⟨.le (.refl _), .le (.refl _), .le (.refl _), .le (.refl _), trivial⟩ rfl
 ·rename_i h; rw [nextL_0 (g := (fun t => zonC zs (cutS 44) (toS t))) h]; (with_reducible refine (?_ : Ends _ _ _ _ _ _ _)); exact .mk [] [] _ rfl (.le (.refl _)) ⟨.le (.boxes ⟨le_tail w r, .refl _, .refl _, .refl _, trivial⟩), .le (.refl _), .le (.refl _), .le (.refl _), trivial⟩ rfl
theorem c71zm (l : Ln) (zs : List ByteArray) (v : Nat) (hz : Side (zs.length <= 1000)) (hok : Side (LnOk l)) : Mut (Xc W0 G) 71 [.ptr 0 0, .fn 134 2 (tbl [.ptr 3 0, .ptr 2 0])] [lnO (l), .list 9 1 zs.length (fun a _ => .str (zs.getD a bs0)) v, .box [.own 1 v], .box [.fn 79 0 (fun _ => .any)]] (.str (toS (nextW l))) [lnO (nextL (fun t => zonC zs (cutS 44) (toS t)) l), .list 9 1 zs.length (fun a _ => .str (zs.getD a bs0)) v, .box [.own 1 v], .box [.fn 79 0 (fun _ => .any)]] := by
 rcases l with ⟨_ | ⟨w, r⟩, en, e, c⟩
 ·exact c71zm0 hX hl en e c zs v hz
 ·exact c71zm1 hX hl w r en e c zs v hz (Side.mk (hok.get.t w (List.mem_cons_self ..)))
theorem c78m (l : Ln) (hs : Side (LnOk l)) (zs : List ByteArray) (v : Nat) (hz : Side (zs.length <= 1000)) : Mut (Xc W0 G) 78 [.ptr 0 0, .own 1 v, .fn 79 0 (fun _ => .any)] [lnO l, .list 9 1 zs.length (fun a _ => .str (zs.getD a bs0)) v] (iRow (zonL zs ((cutS 44) (toS (nextW l))))) [lnO (nextL (fun t => zonC zs (cutS 44) (toS t)) l), .list 9 1 zs.length (fun a _ => .str (zs.getD a bs0)) v] := by
 refine mut_of' hX (fnI Tryz.f78) rfl ?_
 repeat' (first
  | (refine Ax.go ?_; first | (with_reducible (apply altM (ks := [0, 1, 2, 3]) (m := 0); apply And.intro; apply Sc.of; apply (c71zm hX hl l zs v hz hs))) | (with_reducible apply callAlt (c79 hX hl (toS (nextW l)) (Side.mk (by rw [toS_size]; have := nextW_le hs.get; omega)))) | (with_reducible apply Alt.one))
  | exact Cl.go
  | ((fail_if_success refine Stop.go ?_); first | (with_reducible first | apply And.intro | apply Cut.go | (refine impI ?_; intro _)) | (refine propI ?_; conv => whnf)))
 all_goals try exact nbZ
 have hz6 : (toS (nextW l)).size <= 600 := by rw [toS_size]; exact nextW_le hs.get
 have hpl := (many_len (toS (nextW l)) (by omega)).1
 refine ⟨Nat, fun i => match i with | 0 => ([(4, .ptr 2 0), (8, .slc0), (16, sRow ((cutS 44) (toS (nextW l)))), (17, .int .i64 (((cutS 44) (toS (nextW l))).length : Nat)), (18, .int .i64 ((0 : Nat) : Int))], [lnO (nextL (fun t => zonC zs (cutS 44) (toS t)) l), .list 9 1 zs.length (fun a _ => .str (zs.getD a bs0)) v, .box [.own 1 v], .box [.fn 79 0 (fun _ => .any)]]) | i + 1 => ([(4, .ptr 2 0), (8, .own 4 (i + 1)), (16, sRow ((cutS 44) (toS (nextW l)))), (17, .int .i64 (((cutS 44) (toS (nextW l))).length : Nat)), (18, .int .i64 ((i + 1 : Nat) : Int))], [lnO (nextL (fun t => zonC zs (cutS 44) (toS t)) l), .list 9 1 zs.length (fun a _ => .str (zs.getD a bs0)) v, .box [.own 1 v], .box [.fn 79 0 (fun _ => .any)], .list 3 1 (i + 1) (fun a _ => .int .i64 ((zonL zs ((cutS 44) (toS (nextW l)))).getD a 0)) (i + 1)]), fun i => i <= ((cutS 44) (toS (nextW l))).length, fun i => ((cutS 44) (toS (nextW l))).length - i, ⟨0, Nat.zero_le _, .le ⟨rfl, rfZ, rfZ⟩⟩, fun i hi => ?_⟩
 rcases i with _ | i
 ·replace hi : 0 <= ((cutS 44) (toS (nextW l))).length := hi
  repeat' (first
   | (refine Ax.go ?_; first | ((with_reducible apply callAltH (c130 hX zs (((cutS 44) (toS (nextW l))).getD (0) bs0) hz)); (case hl => exact ⟨.own rfl fun _ _ _ _ => .refl _, .le (.refl _), trivial⟩); (case hr => rfl)) | (with_reducible apply Alt.one))
   | exact Cl.go
   | ((fail_if_success refine Stop.go ?_); first | (with_reducible first | apply And.intro | apply Cut.go | (refine impI ?_; intro _)) | (refine propI ?_; conv => whnf)))
  all_goals try exact nbZ
  all_goals try ((with_reducible refine (?_ : Sc _ _)); rename_i q; have q := of_decide_eq_true q; first | exact .of ⟨by omega, by omega⟩ | exact Sc.of ⟨Nat.le_of_ble_eq_true rfl, Nat.le_of_ble_eq_true rfl⟩ | exact Sc.of ⟨show (0 + (0 + 1)) * 8 <= 140737488355328 by omega, show 0 + (0 + 1) <= 9223372036854775807 by omega⟩)
  ·rename_i q; have q := of_decide_eq_true q
   have hx : findI (fun q => decide (((cutS 44) (toS (nextW l))).getD (0) bs0 = zs.getD q bs0)) zs.length = (zonL zs ((cutS 44) (toS (nextW l)))).getD (0) 0 := by
    unfold zonL; simp [List.getD_eq_getElem?_getD, show 0 < ((cutS 44) (toS (nextW l))).length by omega]
   exact ⟨0 + 1, by show 0 + 1 <= ((cutS 44) (toS (nextW l))).length; omega, by show ((cutS 44) (toS (nextW l))).length - (0 + 1) < ((cutS 44) (toS (nextW l))).length - (0); omega, .le ⟨rfl, ⟨.refl _, .refl _, .refl _, .refl _, .list (fun a j ha hj => by
    replace hj : j < 1 := hj
    obtain rfl : j = 0 := (by omega)
    replace ha : a < 1 := ha
    (obtain rfl : a = 0 := (by omega)); exact Le.intI hx), trivial⟩, ⟨.refl _, .refl _, .refl _, .refl _, .intI (by first | rfl | omega), trivial⟩⟩⟩
  ·rename_i q; have q := of_decide_eq_false q
   have e : (zonL zs ((cutS 44) (toS (nextW l)))).length = 0 := by unfold zonL; rw [List.length_map]; omega
   unfold iRow; rw [e]
   exact .mk [] [] _ rfl (.le (Le.slc0 1 _)) ⟨.le (.refl _), .le (.refl _), trivial⟩ rfl
 ·replace hi : i + 1 <= ((cutS 44) (toS (nextW l))).length := hi
  repeat' (first
   | (refine Ax.go ?_; first | ((with_reducible apply callAltH (c130 hX zs (((cutS 44) (toS (nextW l))).getD ((i + 1)) bs0) hz)); (case hl => exact ⟨.own rfl fun _ _ _ _ => .refl _, .le (.refl _), trivial⟩); (case hr => rfl)) | (with_reducible apply Alt.one))
   | exact Cl.go
   | ((fail_if_success refine Stop.go ?_); first | rw [beqvv (i + 1)] | rw [beqvv i] | (with_reducible first | apply And.intro | apply Cut.go | (refine impI ?_; intro _)) | (refine propI ?_; conv => whnf)))
  all_goals try exact nbZ
  all_goals try ((with_reducible refine (?_ : Sc _ _)); rename_i q; have q := of_decide_eq_true q; first | exact .of ⟨by omega, by omega⟩ | exact Sc.of ⟨Nat.le_of_ble_eq_true rfl, Nat.le_of_ble_eq_true rfl⟩ | exact Sc.of ⟨show ((i + 1) + (0 + 1)) * 8 <= 140737488355328 by omega, show (i + 1) + (0 + 1) <= 9223372036854775807 by omega⟩)
  ·rename_i q; have q := of_decide_eq_true q
   have hx : findI (fun q => decide (((cutS 44) (toS (nextW l))).getD ((i + 1)) bs0 = zs.getD q bs0)) zs.length = (zonL zs ((cutS 44) (toS (nextW l)))).getD ((i + 1)) 0 := by
    unfold zonL; simp [List.getD_eq_getElem?_getD, show (i + 1) < ((cutS 44) (toS (nextW l))).length by omega]
   exact ⟨(i + 1) + 1, by show (i + 1) + 1 <= ((cutS 44) (toS (nextW l))).length; omega, by show ((cutS 44) (toS (nextW l))).length - ((i + 1) + 1) < ((cutS 44) (toS (nextW l))).length - ((i + 1)); omega, .le ⟨rfl, ⟨.refl _, .refl _, .refl _, .refl _, .list (fun a j ha hj => by
    replace hj : j < 1 := hj
    obtain rfl : j = 0 := (by omega)
    exact Le.ofEq (push_f (congrArg (AV.int .i64) hx) ha)
    ), trivial⟩, ⟨.refl _, .refl _, .refl _, .refl _, .intI (by first | rfl | omega), trivial⟩⟩⟩
  ·rename_i q; have q := of_decide_eq_false q
   have e : (zonL zs ((cutS 44) (toS (nextW l)))).length = (i + 1) := by unfold zonL; rw [List.length_map]; omega
   unfold iRow; rw [e]
   exact .mk [] [4] _ rfl (.own rfl (fun _ _ _ _ => .refl _)) ⟨.le (.refl _), .le (.refl _), trivial⟩ rfl
theorem c134o (zs : List ByteArray) (v : Nat) (hz : Side (zs.length <= 1000)) (s : ByteArray) (hs : Side (s.size <= 700)) : Mut (Xc W0 G) 134 [.str s, .ptr 2 0, .ptr 1 0] [.list 9 1 zs.length (fun a _ => .str (zs.getD a bs0)) v, .box [.own 0 v], .box [.fn 81 0 (fun _ => .any)]] (.int .i64 (zonC zs oneP s)) [.list 9 1 zs.length (fun a _ => .str (zs.getD a bs0)) v, .box [.own 0 v], .box [.fn 81 0 (fun _ => .any)]] := by
 refine mut_of' hX (fnI Tryz.f134) rfl ?_
 repeat' (first
  | (refine Ax.go ?_; first | (with_reducible apply callAlt (c81 hX hl s)) | ((with_reducible apply callAlt (c135n hX hl (oneP s) (Side.mk (one_len s hs.get)))); case hl => (first | exact AllLe.refl _ | ((repeat' (first | exact trivial | apply Le.aggs | apply Le.tups | apply Le.fns | exact Le.refl _ | refine ⟨?_, ?_⟩)); done))) | (with_reducible (apply altM (ks := [0, 1]) (m := 0); apply And.intro; apply Sc.of; apply (c135h hX hl zs v hz (oneP s) (Side.mk (one_len s hs.get))))) | (with_reducible apply callAlt (c73 hX _ _)) | (with_reducible apply callAlt (c55_2 hX _ _)) | (with_reducible apply Alt.one))
  | ((with_reducible refine Ar.go ?_); first | exact ⟨le_slc2 rfl rfl, trivial⟩)
  | exact Cl.go
  | ((fail_if_success refine Stop.go ?_); first | (with_reducible first | apply And.intro | apply Cut.go | (refine impI ?_; intro _)) | (refine propI ?_; conv => whnf)))
 all_goals try exact nbZ
 unfold zonC
 all_goals exact .mk [] [] _ rfl (.le (.refl _)) ⟨.le (.refl _), .le (.refl _), .le (.refl _), trivial⟩ rfl
theorem c71zo0 (en : Nat) (e c : Int) (zs : List ByteArray) (v : Nat) (hz : Side (zs.length <= 1000)) : Mut (Xc W0 G) 71 [.ptr 0 0, .fn 134 2 (tbl [.ptr 3 0, .ptr 2 0])] [lnO (⟨[], en, e, c⟩), .list 9 1 zs.length (fun a _ => .str (zs.getD a bs0)) v, .box [.own 1 v], .box [.fn 81 0 (fun _ => .any)]] (.str (toS [])) [lnO (failL ⟨[], en, e, c⟩ 6 (en : Nat)), .list 9 1 zs.length (fun a _ => .str (zs.getD a bs0)) v, .box [.own 1 v], .box [.fn 81 0 (fun _ => .any)]] := by
 refine mut_of' hX (fnI Tryz.f71) rfl ?_
 repeat' (first
  | (refine Ax.go ?_; first | (with_reducible (apply altM (ks := [0]) (m := 0); apply And.intro; apply Sc.of; apply (c129 hX ⟨[], en, e, c⟩ 6 (en : Nat)))) | (with_reducible apply Alt.one))
  | exact Cl.go
  | ((fail_if_success refine Stop.go ?_); first | (with_reducible first | apply And.intro | apply Cut.go | (refine impI ?_; intro _)) | (refine propI ?_; conv => whnf)))
 all_goals try exact nbZ
 all_goals try (rename_i h; exact Bool.noConfusion (show true = false from h))
 all_goals ((with_reducible refine (?_ : Ends _ _ _ _ _ _ _)); exact .mk [] [] _ rfl (.le (.refl _)) ⟨.le (.refl _), .le (.refl _), .le (.refl _), .le (.refl _), trivial⟩ rfl)
theorem c71zo1 (w : Wd) (r : List Wd) (en : Nat) (e c : Int) (zs : List ByteArray) (v : Nat) (hz : Side (zs.length <= 1000)) (hw : Side (w.t.length <= 600)) : Mut (Xc W0 G) 71 [.ptr 0 0, .fn 134 2 (tbl [.ptr 3 0, .ptr 2 0])] [lnO (⟨w :: r, en, e, c⟩), .list 9 1 zs.length (fun a _ => .str (zs.getD a bs0)) v, .box [.own 1 v], .box [.fn 81 0 (fun _ => .any)]] (.str (toS w.t)) [lnO (nextL (fun t => zonC zs oneP (toS t)) ⟨w :: r, en, e, c⟩), .list 9 1 zs.length (fun a _ => .str (zs.getD a bs0)) v, .box [.own 1 v], .box [.fn 81 0 (fun _ => .any)]] := by
 have hzz : ¬ (((((⟨w :: r, en, e, c⟩ : Ln).ws.length : Nat) : Int) == 0) = true) := fun h => by have h : ((r.length + 1 : Nat) : Int) = 0 := eq_of_beq h; omega
 refine mut_of' hX (fnI Tryz.f71) rfl ?_
 repeat' (first
  | (refine Ax.go ?_; first | (with_reducible (apply altM (ks := [0]) (m := 0); apply And.intro; apply Sc.of; apply (c129 hX ⟨r, en, e, c⟩ ((fun t => zonC zs oneP (toS t)) w.t) w.c))) | (with_reducible (apply altM (ks := [1, 2, 3]) (m := 0); apply And.intro; apply Sc.of; apply (c134o hX hl zs v hz (toS w.t) (Side.mk (by rw [toS_size]; have := hw.get; omega))))) | (with_reducible apply Alt.one))
  | ((with_reducible refine Lk.go ?_); exact ⟨.boxes ⟨le_tail w r, .refl _, .refl _, .refl _, trivial⟩, trivial⟩)
  | exact Cl.go
  | ((fail_if_success refine Stop.go ?_); first | (with_reducible first | apply And.intro | apply Cut.go | (refine impI ?_; intro _; try (first | exact ko hzz))) | (refine propI ?_; conv => whnf)))
 all_goals try exact nbZ
 all_goals try ((with_reducible refine (?_ : Sc _ _)); exact .of ⟨by decide, by show (0 : Int) < ((r.length + 1 : Nat) : Int); omega⟩)
 all_goals try ((with_reducible refine (?_ : Sc _ _)); exact .of ⟨by decide, by show (1 : Int) <= ((r.length + 1 : Nat) : Int); omega, by omega⟩)
 ·rename_i h; rw [nextL_1 (g := (fun t => zonC zs oneP (toS t))) h]; (with_reducible refine (?_ : Ends _ _ _ _ _ _ _)); exact .mk [] [] _ rfl (.le (.refl _)) ⟨.le (.refl _), .le (.refl _), .le (.refl _), .le (.refl _), trivial⟩ rfl
 ·rename_i h; rw [nextL_0 (g := (fun t => zonC zs oneP (toS t))) h]; (with_reducible refine (?_ : Ends _ _ _ _ _ _ _)); exact .mk [] [] _ rfl (.le (.refl _)) ⟨.le (.boxes ⟨le_tail w r, .refl _, .refl _, .refl _, trivial⟩), .le (.refl _), .le (.refl _), .le (.refl _), trivial⟩ rfl
theorem c71zo (l : Ln) (zs : List ByteArray) (v : Nat) (hz : Side (zs.length <= 1000)) (hok : Side (LnOk l)) : Mut (Xc W0 G) 71 [.ptr 0 0, .fn 134 2 (tbl [.ptr 3 0, .ptr 2 0])] [lnO (l), .list 9 1 zs.length (fun a _ => .str (zs.getD a bs0)) v, .box [.own 1 v], .box [.fn 81 0 (fun _ => .any)]] (.str (toS (nextW l))) [lnO (nextL (fun t => zonC zs oneP (toS t)) l), .list 9 1 zs.length (fun a _ => .str (zs.getD a bs0)) v, .box [.own 1 v], .box [.fn 81 0 (fun _ => .any)]] := by
 rcases l with ⟨_ | ⟨w, r⟩, en, e, c⟩
 ·exact c71zo0 hX hl en e c zs v hz
 ·exact c71zo1 hX hl w r en e c zs v hz (Side.mk (hok.get.t w (List.mem_cons_self ..)))
theorem c78o (l : Ln) (hs : Side (LnOk l)) (zs : List ByteArray) (v : Nat) (hz : Side (zs.length <= 1000)) : Mut (Xc W0 G) 78 [.ptr 0 0, .own 1 v, .fn 81 0 (fun _ => .any)] [lnO l, .list 9 1 zs.length (fun a _ => .str (zs.getD a bs0)) v] (iRow (zonL zs (oneP (toS (nextW l))))) [lnO (nextL (fun t => zonC zs oneP (toS t)) l), .list 9 1 zs.length (fun a _ => .str (zs.getD a bs0)) v] := by
 refine mut_of' hX (fnI Tryz.f78) rfl ?_
 repeat' (first
  | (refine Ax.go ?_; first | (with_reducible (apply altM (ks := [0, 1, 2, 3]) (m := 0); apply And.intro; apply Sc.of; apply (c71zo hX hl l zs v hz hs))) | (with_reducible apply callAlt (c81 hX hl (toS (nextW l)))) | (with_reducible apply Alt.one))
  | exact Cl.go
  | ((fail_if_success refine Stop.go ?_); first | (with_reducible first | apply And.intro | apply Cut.go | (refine impI ?_; intro _)) | (refine propI ?_; conv => whnf)))
 all_goals try exact nbZ
 have hz6 : (toS (nextW l)).size <= 600 := by rw [toS_size]; exact nextW_le hs.get
 have hpl := (one_len (toS (nextW l)) (by omega)).1
 refine ⟨Nat, fun i => match i with | 0 => ([(4, .ptr 2 0), (8, .slc0), (16, sRow (oneP (toS (nextW l)))), (17, .int .i64 ((oneP (toS (nextW l))).length : Nat)), (18, .int .i64 ((0 : Nat) : Int))], [lnO (nextL (fun t => zonC zs oneP (toS t)) l), .list 9 1 zs.length (fun a _ => .str (zs.getD a bs0)) v, .box [.own 1 v], .box [.fn 81 0 (fun _ => .any)]]) | i + 1 => ([(4, .ptr 2 0), (8, .own 4 (i + 1)), (16, sRow (oneP (toS (nextW l)))), (17, .int .i64 ((oneP (toS (nextW l))).length : Nat)), (18, .int .i64 ((i + 1 : Nat) : Int))], [lnO (nextL (fun t => zonC zs oneP (toS t)) l), .list 9 1 zs.length (fun a _ => .str (zs.getD a bs0)) v, .box [.own 1 v], .box [.fn 81 0 (fun _ => .any)], .list 3 1 (i + 1) (fun a _ => .int .i64 ((zonL zs (oneP (toS (nextW l)))).getD a 0)) (i + 1)]), fun i => i <= (oneP (toS (nextW l))).length, fun i => (oneP (toS (nextW l))).length - i, ⟨0, Nat.zero_le _, .le ⟨rfl, rfZ, rfZ⟩⟩, fun i hi => ?_⟩
 rcases i with _ | i
 ·replace hi : 0 <= (oneP (toS (nextW l))).length := hi
  repeat' (first
   | (refine Ax.go ?_; first | ((with_reducible apply callAltH (c130 hX zs ((oneP (toS (nextW l))).getD (0) bs0) hz)); (case hl => exact ⟨.own rfl fun _ _ _ _ => .refl _, .le (.refl _), trivial⟩); (case hr => rfl)) | (with_reducible apply Alt.one))
   | exact Cl.go
   | ((fail_if_success refine Stop.go ?_); first | (with_reducible first | apply And.intro | apply Cut.go | (refine impI ?_; intro _)) | (refine propI ?_; conv => whnf)))
  all_goals try exact nbZ
  all_goals try ((with_reducible refine (?_ : Sc _ _)); rename_i q; have q := of_decide_eq_true q; first | exact .of ⟨by omega, by omega⟩ | exact Sc.of ⟨Nat.le_of_ble_eq_true rfl, Nat.le_of_ble_eq_true rfl⟩ | exact Sc.of ⟨show (0 + (0 + 1)) * 8 <= 140737488355328 by omega, show 0 + (0 + 1) <= 9223372036854775807 by omega⟩)
  ·rename_i q; have q := of_decide_eq_true q
   have hx : findI (fun q => decide ((oneP (toS (nextW l))).getD (0) bs0 = zs.getD q bs0)) zs.length = (zonL zs (oneP (toS (nextW l)))).getD (0) 0 := by
    unfold zonL; simp [List.getD_eq_getElem?_getD, show 0 < (oneP (toS (nextW l))).length by omega]
   exact ⟨0 + 1, by show 0 + 1 <= (oneP (toS (nextW l))).length; omega, by show (oneP (toS (nextW l))).length - (0 + 1) < (oneP (toS (nextW l))).length - (0); omega, .le ⟨rfl, ⟨.refl _, .refl _, .refl _, .refl _, .list (fun a j ha hj => by
    replace hj : j < 1 := hj
    obtain rfl : j = 0 := (by omega)
    replace ha : a < 1 := ha
    (obtain rfl : a = 0 := (by omega)); exact Le.intI hx), trivial⟩, ⟨.refl _, .refl _, .refl _, .refl _, .intI (by first | rfl | omega), trivial⟩⟩⟩
  ·rename_i q; have q := of_decide_eq_false q
   have e : (zonL zs (oneP (toS (nextW l)))).length = 0 := by unfold zonL; rw [List.length_map]; omega
   unfold iRow; rw [e]
   exact .mk [] [] _ rfl (.le (Le.slc0 1 _)) ⟨.le (.refl _), .le (.refl _), trivial⟩ rfl
 ·replace hi : i + 1 <= (oneP (toS (nextW l))).length := hi
  repeat' (first
   | (refine Ax.go ?_; first | ((with_reducible apply callAltH (c130 hX zs ((oneP (toS (nextW l))).getD ((i + 1)) bs0) hz)); (case hl => exact ⟨.own rfl fun _ _ _ _ => .refl _, .le (.refl _), trivial⟩); (case hr => rfl)) | (with_reducible apply Alt.one))
   | exact Cl.go
   | ((fail_if_success refine Stop.go ?_); first | rw [beqvv (i + 1)] | rw [beqvv i] | (with_reducible first | apply And.intro | apply Cut.go | (refine impI ?_; intro _)) | (refine propI ?_; conv => whnf)))
  all_goals try exact nbZ
  all_goals try ((with_reducible refine (?_ : Sc _ _)); rename_i q; have q := of_decide_eq_true q; first | exact .of ⟨by omega, by omega⟩ | exact Sc.of ⟨Nat.le_of_ble_eq_true rfl, Nat.le_of_ble_eq_true rfl⟩ | exact Sc.of ⟨show ((i + 1) + (0 + 1)) * 8 <= 140737488355328 by omega, show (i + 1) + (0 + 1) <= 9223372036854775807 by omega⟩)
  ·rename_i q; have q := of_decide_eq_true q
   have hx : findI (fun q => decide ((oneP (toS (nextW l))).getD ((i + 1)) bs0 = zs.getD q bs0)) zs.length = (zonL zs (oneP (toS (nextW l)))).getD ((i + 1)) 0 := by
    unfold zonL; simp [List.getD_eq_getElem?_getD, show (i + 1) < (oneP (toS (nextW l))).length by omega]
   exact ⟨(i + 1) + 1, by show (i + 1) + 1 <= (oneP (toS (nextW l))).length; omega, by show (oneP (toS (nextW l))).length - ((i + 1) + 1) < (oneP (toS (nextW l))).length - ((i + 1)); omega, .le ⟨rfl, ⟨.refl _, .refl _, .refl _, .refl _, .list (fun a j ha hj => by
    replace hj : j < 1 := hj
    obtain rfl : j = 0 := (by omega)
    exact Le.ofEq (push_f (congrArg (AV.int .i64) hx) ha)
    ), trivial⟩, ⟨.refl _, .refl _, .refl _, .refl _, .intI (by first | rfl | omega), trivial⟩⟩⟩
  ·rename_i q; have q := of_decide_eq_false q
   have e : (zonL zs (oneP (toS (nextW l)))).length = (i + 1) := by unfold zonL; rw [List.length_map]; omega
   unfold iRow; rw [e]
   exact .mk [] [4] _ rfl (.own rfl (fun _ _ _ _ => .refl _)) ⟨.le (.refl _), .le (.refl _), trivial⟩ rfl
end
end Go.Fx
