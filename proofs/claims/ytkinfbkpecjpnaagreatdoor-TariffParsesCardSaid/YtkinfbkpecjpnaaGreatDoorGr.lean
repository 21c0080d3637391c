/-
 Moments, places, rules that hold.
-/
import Derived.Test.YtkinfbkpecjpnaaGreatDoorGq
set_option linter.all false
/-
 Moments and places; which rules hold there.
-/
namespace Go.Fx
open Go.Proofs Go.RowKit
structure Mom where
 d : Int
 s : Int
structure Plc where
 z : Int
 m : Mom
def momC (m : Mom) : List AV := [.int .i64 m.d, .int .i64 m.s]
def momA (m : Mom) : AV := .agg 2 (tbl (momC m))
def plcC (p : Plc) : List AV := [.int .i64 p.z, .int .i64 p.m.d, .int .i64 p.m.s]
def plcA (p : Plc) : AV := .agg 3 (tbl (plcC p))
@[irreducible] def momB (m : Mom) : Bool := bif inB m.d 0 100000 then inB m.s 0 86399 else false
@[irreducible] def hasI (l : List Int) (n : Nat) (x : Int) : Bool := (List.range n).any fun i => decide (l.getD i 0 = x)
theorem hasI_find {l : List Int} {x : Int} : decide (0 <= findI (fun i => decide (x = l.getD i 0)) l.length) = hasI l l.length x := by
 rw [findI_ge]
 unfold hasI
 congr 1
 funext i
 exact decide_eq_decide.2 eq_comm
@[irreducible] def kindN (t : Trf) (d : Int) : Int := bif hasI t.hol t.hol.length d then 7 else d.tmod 7
@[irreducible] def timeB (r : Rul) (s : Int) : Bool := bif decide (r.bg < r.en) then (bif decide (r.bg <= s) then decide (s < r.en) else false) else (bif decide (r.bg <= s) then true else decide (s < r.en))
@[irreducible] def holdB (t : Trf) (r : Rul) (p : Plc) : Bool := bif timeB r p.m.s then (bif inB p.m.d r.fr r.tt then (bif hasI r.zones r.zones.length p.z then hasI r.days r.days.length (kindN t p.m.d) else false) else false) else false
@[irreducible] def placeE (t : Trf) (p : Plc) : Int := firstS [isOk (zoneIn t p.z) 6, isOk (momB p.m) 2]
def lowN (l : List Int) (x : Int) : Nat := l.findIdx fun y => decide (x <= y)
theorem low_le {l : List Int} {x : Int} : lowN l x <= l.length := List.findIdx_le_length
theorem low_below {l : List Int} {x : Int} {i : Nat} (h : i < lowN l x) : l.getD i 0 < x := by
 have hl : i < l.length := by have := low_le (l := l) (x := x); omega
 have := List.not_of_lt_findIdx h
 rw [List.getD_eq_getElem?_getD, List.getElem?_eq_getElem hl]
 have := of_decide_eq_false this
 simp only [Option.getD_some]
 omega
theorem low_at {l : List Int} {x : Int} (h : lowN l x < l.length) : x <= l.getD (lowN l x) 0 := by
 have := List.findIdx_getElem (w := h)
 rw [List.getD_eq_getElem?_getD, List.getElem?_eq_getElem h]
 exact of_decide_eq_true this
theorem low_gt {l : List Int} (hs : SortI l) {x : Int} {m : Nat} (hm : m < l.length) (h : l.getD m 0 < x) : m < lowN l x := by
 rcases Nat.lt_or_ge m (lowN l x) with h1 | h1
 ·exact h1
 ·have h2 := low_at (l := l) (x := x) (by omega)
  rcases Nat.lt_or_ge (lowN l x) m with h3 | h3
  ·have := hs _ _ h3 hm; omega
  ·have : lowN l x = m := by omega
   rw [this] at h2; omega
theorem low_ge {l : List Int} {x : Int} {m : Nat} (h : x <= l.getD m 0) : lowN l x <= m := by
 rcases Nat.lt_or_ge m (lowN l x) with h1 | h1
 ·have := low_below h1; omega
 ·exact h1
theorem low_has {l : List Int} (hs : SortI l) {x : Int} (hl : lowN l x < l.length) : decide (l.getD (lowN l x) 0 = x) = hasI l l.length x := by
 unfold hasI
 by_cases e : l.getD (lowN l x) 0 = x
 ·rw [decide_eq_true e, any_hit (p := fun i => decide (l.getD i 0 = x)) hl (decide_eq_true e)]
 ·rw [decide_eq_false e, any_none]
  intro j hj
  refine decide_eq_false fun h => ?_
  rcases Nat.lt_trichotomy j (lowN l x) with h1 | h1 | h1
  ·have := low_below h1; omega
  ·rw [h1] at h; exact e h
  ·have h2 := hs _ _ h1 hj; have h3 := low_at hl; omega
theorem low_has' {l : List Int} {x : Int} (hl : l.length <= lowN l x) : false = hasI l l.length x := by
 unfold hasI
 rw [any_none]
 intro j hj
 refine decide_eq_false fun h => ?_
 have := low_below (l := l) (x := x) (i := j) (by omega)
 omega
theorem mom_ok {m : Mom} : (bif inB m.d 0 100000 then inB m.s 0 86399 else false) = momB m := by unfold momB; rfl
section
variable {W0 : World} {G : Nat -> Option AV} (hX : (Xc W0 G).Good)
include hX
theorem c190 (l : List Int) (x : Int) (hs : Side (l.length <= 1000)) : Pure (Xc W0 G) 190 [iRow l, .int .i64 x] (.int .i64 (findI (fun i => decide (x = l.getD i 0)) l.length)) := by
 have hs := hs.get
 refine mut_of' hX (fnI Tryz.f190) rfl ?_
 repeat' (first
  | (refine Ax.go ?_; first | (with_reducible apply Alt.one))
  | exact Cl.go
  | ((fail_if_success refine Stop.go ?_); first | (with_reducible first | apply And.intro | apply Cut.go | (refine impI ?_; intro _)) | (refine propI ?_; conv => whnf)))
 refine ⟨Nat, fun i => ([(0, iRow l), (1, .int .i64 x), (7, .int .i64 l.length), (8, .int .i64 i)], []), fun i => i <= l.length /\ ∀ j : Nat, j < i -> (fun i => decide (x = l.getD i 0)) j = false, fun i => l.length - i, ⟨0, ⟨Nat.zero_le _, fun _ h => by omega⟩, .le ⟨rfl, trivial, rfZ⟩⟩, fun i ⟨hi, h0⟩ => ?_⟩
 repeat' (first
  | (refine Ax.go ?_; first | (with_reducible apply Alt.one))
  | exact Cl.go
  | ((fail_if_success refine Stop.go ?_); first | (with_reducible first | apply And.intro | apply Cut.go | (refine impI ?_; intro _)) | (refine propI ?_; conv => whnf)))
 all_goals first
  | exact .of (Nat.le_of_ble_eq_true rfl)
  | (rename_i h; have h := of_decide_eq_true h; exact .of ⟨by omega, by omega⟩)
  | (rename_i h; have h := of_decide_eq_false h; exact .mk [] [] _ rfl (.le (.intI ((findI_none (fun j hj => h0 j (by omega))).symm))) trivial rfl)
  | (rename_i h1 h; have h1 := of_decide_eq_true h1
     simp only [Int.toNat_natCast] at h
     first
      | exact .of ⟨by omega, by omega⟩
      | exact ⟨i + 1, ⟨by omega, all_lt h0 (h)⟩, by show l.length - (i + 1) < l.length - i; omega, .le ⟨rfl, trivial, rfZ⟩⟩
      | (exact .mk [] [] _ rfl (.le (.intI ((findI_hit (by omega) h0 h).symm))) trivial rfl))
theorem c177 (l : List Int) (x : Int) (hs : Side (l.length <= 1000)) : Pure (Xc W0 G) 177 [iRow l, .int .i64 x] (.bool (hasI l l.length x)) := by
 refine mut_of' hX (fnI Tryz.f177) rfl ?_
 repeat' (first
  | (refine Ax.go ?_; first | (with_reducible apply callAlt (c190 hX _ _ hs)) | (with_reducible apply Alt.one))
  | exact Cl.go
  | ((fail_if_success refine Stop.go ?_); first | (with_reducible first | apply And.intro | apply Cut.go | (refine impI ?_; intro _)) | (refine propI ?_; conv => whnf)))
 all_goals exact .mk [] [] _ rfl (.le (.boolT (hasI_find))) trivial rfl
theorem c114 (m : Mom) : Pure (Xc W0 G) 114 [momA m] (.int .i64 (isOk (momB m) 2)) := by
 refine mut_of' hX (fnI Tryz.f114) rfl ?_
 repeat' (first
  | (refine Ax.go ?_; first | (with_reducible apply callAlt (c89 hX _)) | (with_reducible apply callAlt (c143 hX _)) | (with_reducible apply callAlt (c73 hX _ _)) | (with_reducible apply Alt.one))
  | exact Cl.go
  | ((fail_if_success refine Stop.go ?_); first | (with_reducible first | apply And.intro | apply Cut.go | (refine impI ?_; intro _)) | (refine propI ?_; conv => whnf)))
 all_goals try exact nbZ
 all_goals exact .mk [] [] _ rfl (.le (.intI (by rw [<- mom_ok]))) trivial rfl
theorem c56 (t : Trf) (p : Plc) (hs : Side (t.zones.length <= 1000)) : Pure (Xc W0 G) 56 [trfA t, plcA p] (.int .i64 (placeE t p)) := by
 refine mut_of' hX (fnI Tryz.f56) rfl ?_
 repeat' (first
  | (refine Ax.go ?_; first | (with_reducible apply callAlt (c100 hX t _ hs)) | (with_reducible apply callAlt (c114 hX p.m)) | (with_reducible apply callAlt (c73 hX _ _)) | (with_reducible apply callAlt (c55_2 hX _ _)) | (with_reducible apply Alt.one))
  | ((with_reducible refine Ar.go ?_); first | exact ⟨le_slc2 rfl rfl, trivial⟩)
  | exact Cl.go
  | ((fail_if_success refine Stop.go ?_); first | (with_reducible first | apply And.intro | apply Cut.go | (refine impI ?_; intro _)) | (refine propI ?_; conv => whnf)))
 all_goals try exact nbZ
 all_goals exact .mk [] [] _ rfl (.le (.intI (by unfold placeE; rfl))) trivial rfl
end
end Go.Fx
/-
 Kinds of dates; whether a rule holds.
-/
namespace Go.Fx
open Go.Proofs Go.RowKit
theorem inK_u64 {n : Int} (h : 0 <= n /\ n <= 18446744073709551615) : inK .u64 n := by
 show IntKind.wrap .u64 n = n
 simp only [IntKind.wrap, IntKind.bits, IntKind.signed]; simp; omega
theorem mid (a b : Nat) : ((a : Int) + (b : Int)).fdiv (2 ^ Int.toNat 1) = (((a + b) / 2 : Nat) : Int) := by
 rw [Int.fdiv_eq_ediv_of_nonneg _ (by decide)]
 show ((a : Int) + b) / 2 = _
 omega
section
variable {W0 : World} {G : Nat -> Option AV} (hX : (Xc W0 G).Good)
include hX
theorem c206 (x : Int) : Pure (Xc W0 G) 206 [.int .i64 x] (.bool false) := by
 refine mut_of' hX (fnI Tryz.f206) rfl ?_
 repeat' (first
  | (refine Ax.go ?_; first | (with_reducible apply Alt.one))
  | exact Cl.go
  | ((fail_if_success refine Stop.go ?_); first | (with_reducible first | apply And.intro | apply Cut.go | (refine impI ?_; intro _)) | (refine propI ?_; conv => whnf)))
 all_goals exact .mk [] [] _ rfl (.le (.boolT (by simp))) trivial rfl
theorem c212 (x : Int) : Pure (Xc W0 G) 212 [.int .i64 x] (.bool false) := by
 refine mut_of' hX (fnI Tryz.f212) rfl ?_
 repeat' (first
  | (refine Ax.go ?_; first | (with_reducible apply Alt.one))
  | exact Cl.go
  | ((fail_if_success refine Stop.go ?_); first | (with_reducible first | apply And.intro | apply Cut.go | (refine impI ?_; intro _)) | (refine propI ?_; conv => whnf)))
 all_goals exact .mk [] [] _ rfl (.le (.boolT (by simp))) trivial rfl
theorem c198 (x y : Int) : Pure (Xc W0 G) 198 [.int .i64 x, .int .i64 y] (.bool (decide (x < y))) := by
 refine mut_of' hX (fnI Tryz.f198) rfl ?_
 repeat' (first
  | (refine Ax.go ?_; first | (with_reducible apply callAlt (c212 hX _)) | (with_reducible apply Alt.one))
  | exact Cl.go
  | ((fail_if_success refine Stop.go ?_); first | (with_reducible first | apply And.intro | apply Cut.go | (refine impI ?_; intro _)) | (refine propI ?_; conv => whnf)))
 all_goals exact .mk [] [] _ rfl (.le (.boolT (by simp))) trivial rfl
theorem c191 (l : List Int) (x : Int) (hs : Side (l.length <= 1000 /\ SortI l)) : Pure (Xc W0 G) 191 [iRow l, .int .i64 x] (.tup 2 (tbl [.int .i64 (lowN l x : Nat), .bool (hasI l l.length x)])) := by
 have hs := hs.get
 refine mut_of' hX (fnI Tryz.f191) rfl ?_
 repeat' (first
  | (refine Ax.go ?_; first | (with_reducible apply Alt.one))
  | exact Cl.go
  | ((fail_if_success refine Stop.go ?_); first | (with_reducible first | apply And.intro | apply Cut.go | (refine impI ?_; intro _)) | (refine propI ?_; conv => whnf)))
 refine ⟨Nat × Nat, fun p => ([(0, iRow l), (1, .int .i64 x), (6, .int .i64 l.length), (7, .int .i64 (p.1 : Nat)), (8, .int .i64 (p.2 : Nat))], []), fun p => p.1 <= lowN l x /\ lowN l x <= p.2 /\ p.2 <= l.length, fun p => p.2 - p.1, ⟨(0, l.length), ⟨Nat.zero_le _, low_le, Nat.le_refl _⟩, .le ⟨rfl, trivial, rfZ⟩⟩, fun p hp => ?_⟩
 obtain ⟨h1, h2, h3⟩ := hp
 repeat' (first
  | (refine Ax.go ?_; first | (with_reducible apply callAlt (c198 hX _ _)) | (with_reducible apply callAlt (c206 hX _)) | (with_reducible apply Alt.one))
  | exact Cl.go
  | ((fail_if_success refine Stop.go ?_); first | (with_reducible first | apply And.intro | apply Cut.go | (refine impI ?_; intro _)) | (refine propI ?_; conv => whnf)))
 all_goals try exact nbZ
 all_goals (try simp only [mid, Int.toNat_natCast] at *)
 all_goals try (rename_i q; have q := of_decide_eq_true q; first | exact .of ⟨by omega, by omega⟩ | exact .of (by decide) | exact .of ⟨Int.le.intro_sub 1 rfl, Nat.le_of_ble_eq_true rfl⟩)
 all_goals try (rename_i q1 q2; have q1 := of_decide_eq_true q1; first
   | exact .of ⟨by omega, by omega⟩
   | (have q2 := of_decide_eq_true q2
      have h4 := low_gt hs.2 (show (p.1 + p.2) / 2 < l.length by omega) q2
      exact ⟨((p.1 + p.2) / 2 + 1, p.2), ⟨by show (p.1 + p.2) / 2 + 1 <= _; omega, h2, h3⟩, by show p.2 - ((p.1 + p.2) / 2 + 1) < p.2 - p.1; omega, .le ⟨rfl, trivial, rfZ⟩⟩)
   | (have q2 := of_decide_eq_false q2
      have h4 := low_ge (l := l) (x := x) (m := (p.1 + p.2) / 2) (by omega)
      exact ⟨(p.1, (p.1 + p.2) / 2), ⟨h1, h4, by show (p.1 + p.2) / 2 <= l.length; omega⟩, by show (p.1 + p.2) / 2 - p.1 < p.2 - p.1; omega, .le ⟨rfl, trivial, rfZ⟩⟩))
 all_goals try (rename_i q; have q := of_decide_eq_false q; refine Sc.imp fun g => ?_; first | (have g := of_decide_eq_true g; exact ⟨by omega, by omega⟩) | (have g := of_decide_eq_true g.1; exact ⟨by omega, by omega⟩))
 all_goals try (rename_i q; have q := of_decide_eq_true q; exact .of (inK_u64 ⟨by omega, by omega⟩))
 all_goals (rename_i q; have q := of_decide_eq_false q; have e : p.1 = lowN l x := by omega)
 by_cases hl : lowN l x < l.length
 ·have hb : (l.getD p.1 0 == x) = hasI l l.length x := by rw [<- low_has hs.2 hl, e]; rfl
  rw [decide_eq_true (show (p.1 : Int) < l.length by omega), hb]
  exact .mk [] [] _ rfl (.le (.tups ⟨⟨trivial, .intI (by rw [e])⟩, .boolT (by cases hasI l l.length x <;> rfl)⟩)) trivial rfl
 ·have hb := low_has' (l := l) (x := x) (by omega)
  rw [decide_eq_false (show ¬ (p.1 : Int) < l.length by omega)]
  exact .mk [] [] _ rfl (.le (.tups ⟨⟨trivial, .intI (by rw [e])⟩, .boolT hb⟩)) trivial rfl
end
end Go.Fx
/-
 Kinds of dates; whether a rule holds; a tariff opened.
-/
namespace Go.Fx
open Go.Proofs Go.RowKit
theorem hold_eq {t : Trf} {r : Rul} {p : Plc} : holdB t r p = (bif timeB r p.m.s then (bif inB p.m.d r.fr r.tt then (bif hasI r.zones r.zones.length p.z then hasI r.days r.days.length (kindN t p.m.d) else false) else false) else false) := by unfold holdB; rfl
theorem time_le {r : Rul} {s : Int} (h : decide (r.bg < r.en) = true) : timeB r s = (bif decide (r.bg <= s) then decide (s < r.en) else false) := by unfold timeB; rw [h]; rfl
theorem time_ge {r : Rul} {s : Int} (h : decide (r.bg < r.en) = false) : timeB r s = (bif decide (r.bg <= s) then true else decide (s < r.en)) := by unfold timeB; rw [h]; rfl
theorem lt_of_ge {a b : Int} (h : decide (b <= a) = true) : decide (a < b) = false := by have := of_decide_eq_true h; exact decide_eq_false (by omega)
theorem lt_of_nge {a b : Int} (h : decide (b <= a) = false) : decide (a < b) = true := by have := of_decide_eq_false h; exact decide_eq_true (by omega)
theorem kind_yes {t : Trf} {d : Int} (h : hasI t.hol t.hol.length d = true) : kindN t d = 7 := by unfold kindN; rw [h]; rfl
theorem kind_no {t : Trf} {d : Int} (h : hasI t.hol t.hol.length d = false) : kindN t d = d.tmod 7 := by unfold kindN; rw [h]; rfl
structure HOk (t : Trf) : Prop where
 ok : TOk t
 srt : SortI t.hol
theorem ands {a b c d : Bool} : (bif bif bif a then b else false then c else false then d else false) = (bif a then (bif b then (bif c then d else false) else false) else false) := by cases a <;> cases b <;> cases c <;> rfl
section
variable {W0 : World} {G : Nat -> Option AV} (hX : (Xc W0 G).Good)
include hX
theorem c178 (t : Trf) (d : Int) (hs : Side (HOk t)) : Pure (Xc W0 G) 178 [trfA t, .int .i64 d] (.int .i64 (kindN t d)) := by
 have ok := hs.get
 have k0 := ok.ok
 have k1 := k0.hol
 refine mut_of' hX (fnI Tryz.f178) rfl ?_
 repeat' (first
  | (refine Ax.go ?_; first | (with_reducible apply callAlt (c191 hX t.hol _ ?_)) | (with_reducible apply Alt.one))
  | exact Cl.go
  | ((fail_if_success refine Stop.go ?_); first | (with_reducible first | apply And.intro | apply Cut.go | (refine impI ?_; intro _)) | (refine propI ?_; conv => whnf)))
 all_goals try exact nbZ
 all_goals try (exact Side.mk (by first | exact ⟨by omega, ok.srt⟩ | omega))
 all_goals try (exact Sc.of (by decide))
 all_goals (rename_i h; first | (exact .mk [] [] _ rfl (.le (.intI ((kind_yes h).symm))) trivial rfl) | (exact .mk [] [] _ rfl (.le (.intI ((kind_no h).symm))) trivial rfl))
theorem c152 (t : Trf) (r : Rul) (p : Plc) (hs : Side (HOk t)) (hr : Side (r.zones.length <= 1000 /\ r.days.length <= 1000)) : Pure (Xc W0 G) 152 [trfA t, rulA r, plcA p] (.bool (holdB t r p)) := by
 have ok := hs.get
 have k0 := ok.ok
 have k1 := k0.hol
 have hr := hr.get
 refine mut_of' hX (fnI Tryz.f152) rfl ?_
 repeat' (first
  | (refine Ax.go ?_; first | (with_reducible apply callAlt (c83 hX _ _ _)) | ((with_reducible apply callAlt (c177 hX r.zones _ (Side.mk hr.1))); case hl => (first | exact AllLe.refl _ | ((repeat' (first | exact trivial | apply Le.aggs | apply Le.tups | apply Le.fns | exact Le.refl _ | refine ⟨?_, ?_⟩)); done))) | ((with_reducible apply callAlt (c177 hX r.days _ (Side.mk hr.2))); case hl => (first | exact AllLe.refl _ | ((repeat' (first | exact trivial | apply Le.aggs | apply Le.tups | apply Le.fns | exact Le.refl _ | refine ⟨?_, ?_⟩)); done))) | (with_reducible apply callAlt (c178 hX t _ hs)) | (with_reducible apply Alt.one))
  | exact Cl.go
  | ((fail_if_success refine Stop.go ?_); first | (with_reducible first | apply And.intro | apply Cut.go | (refine impI ?_; intro _)) | (refine propI ?_; conv => whnf)))
 all_goals try exact nbZ
 all_goals (rename_i h; (first | have e := time_ge (s := p.m.s) (lt_of_ge h) | have e := time_le (s := p.m.s) (lt_of_nge h)); rw [<- e]; exact .mk [] [] _ rfl (.le (.boolT (by rw [hold_eq, ands]))) trivial rfl)
theorem c54 (t : Trf) (hs : Side (TOk t)) : Pure (Xc W0 G) 54 [trfA t] (.tup 2 (tbl [trfA t, .int .i64 (trfE t)])) := by
 refine mut_of' hX (fnI Tryz.f54) rfl ?_
 repeat' (first
  | (refine Ax.go ?_; first | (with_reducible apply callAlt (c41 hX t hs)) | (with_reducible apply Alt.one))
  | exact Cl.go
  | ((fail_if_success refine Stop.go ?_); first | (with_reducible first | apply And.intro | apply Cut.go | (refine impI ?_; intro _)) | (refine propI ?_; conv => whnf)))
 all_goals try exact nbZ
 exact .mk [] [] _ rfl (.le (.tups ⟨⟨trivial, .aggs ⟨⟨⟨⟨⟨⟨⟨⟨trivial, .refl _⟩, .refl _⟩, .refl _⟩, .refl _⟩, .refl _⟩, .refl _⟩, .refl _⟩, .refl _⟩⟩, .refl _⟩)) trivial rfl
end
end Go.Fx
/-
 The rules that hold at a place.
-/
namespace Go.Fx
open Go.Proofs Go.RowKit
def holdI (t : Trf) (p : Plc) : Nat -> List Int
 | 0 => []
 | n + 1 => bif holdB t (t.rules.getD n rul0) p then holdI t p n ++ [(n : Int)] else holdI t p n
theorem beqvv (v : Nat) : Nat.beq v v = true := Nat.beq_refl v
theorem hold_y {t : Trf} {p : Plc} {n : Nat} (h : holdB t (t.rules.getD n rul0) p = true) : holdI t p (n + 1) = holdI t p n ++ [(n : Int)] := by simp only [holdI, h, cond_true]
theorem hold_n {t : Trf} {p : Plc} {n : Nat} (h : holdB t (t.rules.getD n rul0) p = false) : holdI t p (n + 1) = holdI t p n := by simp only [holdI, h, cond_false]
section
variable {W0 : World} {G : Nat -> Option AV} (hX : (Xc W0 G).Good)
include hX
set_option maxHeartbeats 1000000 in
end
end Go.Fx
/-
 The rule at a place.
-/
namespace Go.Fx
open Go.Proofs Go.RowKit
theorem sameB_f {a : Bool} (h : sameB a true = false) : a = false := by cases a <;> first | rfl | (cases h; done)
theorem holdI_pre (t : Trf) (p : Plc) (i : Nat) : ∀ k, ∃ r, holdI t p (i + k) = holdI t p i ++ r
 | 0 => ⟨[], by simp⟩
 | k + 1 => by
  obtain ⟨r, hr⟩ := holdI_pre t p i k
  show ∃ r, holdI t p (i + k + 1) = _
  cases hb : holdB t (t.rules.getD (i + k) rul0) p with
  | true => exact ⟨r ++ [((i + k : Nat) : Int)], by rw [hold_y hb, hr, List.append_assoc]⟩
  | false => exact ⟨r, by rw [hold_n hb, hr]⟩
theorem hold_two {t : Trf} {p : Plc} {i n : Nat} (hi : i < n) (he : (holdI t p i).length = 1) (hb : holdB t (t.rules.getD i rul0) p = true) : (holdI t p n).take 2 = [(holdI t p i).getD 0 0, (i : Int)] /\ 1 < (holdI t p n).length := by
 obtain ⟨r, hr⟩ := holdI_pre t p (i + 1) (n - (i + 1))
 rw [show i + 1 + (n - (i + 1)) = n by omega, hold_y hb] at hr
 match h : holdI t p i, he with
 | [a], _ => rw [h] at hr; rw [hr]; exact ⟨rfl, by simp⟩
@[irreducible] def oneE (l : List Int) : Int := match l with | [] => 12 | [_] => 0 | _ => 13
@[irreducible] def oneN (l : List Int) : Int := match l with | [x] => x | _ => 0
theorem one_none {l : List Int} (h : ((l.length : Int) == 0) = true) : oneE l = 12 /\ oneN l = 0 := by
 have h := eq_of_beq h
 match l, h with
 | [], _ => unfold oneE oneN; exact ⟨rfl, rfl⟩
 | _ :: _, h => simp at h; omega
theorem one_two {l : List Int} (h : decide (1 < (l.length : Int)) = true) : oneE l = 13 /\ oneN l = 0 := by
 have h := of_decide_eq_true h
 match l, h with
 | [], h => simp at h
 | [_], h => simp at h
 | _ :: _ :: _, _ => unfold oneE oneN; exact ⟨rfl, rfl⟩
theorem one_one {l : List Int} (h0 : ((l.length : Int) == 0) = false) (h : decide (1 < (l.length : Int)) = false) : oneE l = 0 /\ oneN l = l.getD 0 0 /\ 0 < l.length := by
 have h := of_decide_eq_false h
 match l, h0, h with
 | [], h0, _ => cases h0
 | [_], _, _ => unfold oneE oneN; exact ⟨rfl, rfl, by simp⟩
 | _ :: _ :: _, _, h => simp at h; omega
section
variable {W0 : World} {G : Nat -> Option AV} (hX : (Xc W0 G).Good)
include hX
theorem c115 (t : Trf) (p : Plc) : Mut (Xc W0 G) 115 [trfA t, plcA p] [] (.fn 151 2 (tbl [.ptr 0 0, .ptr 1 0])) [.box (trfC t), .box (plcC p)] := by
 refine mut_of' hX (fnI Tryz.f115) rfl ?_
 repeat' (first
  | (refine Ax.go ?_; first | (with_reducible apply Alt.one))
  | exact Cl.go
  | ((fail_if_success refine Stop.go ?_); first | (with_reducible first | apply And.intro | apply Cut.go | (refine impI ?_; intro _)) | (refine propI ?_; conv => whnf)))
 exact .mk [0, 1] [] _ rfl (.le (.fns ⟨⟨trivial, .refl _⟩, .refl _⟩)) ⟨.le (.refl _), .le (.refl _), trivial⟩ rfl
theorem c57 (t : Trf) (p : Plc) (hs : Side (HOk t)) : Pure (Xc W0 G) 57 [trfA t, plcA p] (.tup 2 (tbl [.agg 2 (tbl [.int .i64 (oneN (holdI t p t.rules.length)), .int .i64 (oneE (holdI t p t.rules.length))]), iRow ((holdI t p t.rules.length).take 2)])) := by
 have ok := hs.get
 have k0 := ok.ok
 have k1 := k0.rules
 refine mut_of' hX (fnI Tryz.f57) rfl ?_
 repeat' (first
  | (refine Ax.go ?_; first | (with_reducible (apply altM (ks := []) (m := 2); apply And.intro; apply Sc.of; apply (c115 hX t p))) | (with_reducible apply Alt.one))
  | exact Cl.go
  | ((fail_if_success refine Stop.go ?_); first | (with_reducible first | apply And.intro | apply Cut.go | (refine impI ?_; intro _)) | (refine propI ?_; conv => whnf)))
 all_goals try exact nbZ
 refine ⟨_, _, (fnI Tryz.f151), rfl, ?_⟩
 repeat' (first
  | (refine Ax.go ?_; first | (with_reducible apply callAlt (c152 hX t (t.rules.getD i rul0) p hs (Side.mk ⟨k0.rzones i, k0.rdays i⟩))) | (with_reducible apply Alt.one))
  | exact Cl.go
  | ((fail_if_success refine Stop.go ?_); first | (with_reducible first | apply And.intro | apply Cut.go | (refine impI ?_; intro _)) | (refine propI ?_; conv => whnf)))
 all_goals try exact nbZ
 generalize hL : HObj.lrec _ _ _ _ _ _ _ = L
 refine ⟨Nat ⊕ Nat, fun y => match y with | .inl i => ([(0, .yld 7), (1, .ptr 5 0), (2, .ptr 6 0), (8, .slc 10 t.rules.length (fun i j => tbl (rulC (t.rules.getD i rul0)) j)), (9, .int .i64 t.rules.length), (10, .int .i64 i)], [.box (trfC t), .box (plcC p), .box [.int .i64 0, .int .i64 0], .box [.slc0], .box [.slc0], .box (trfC t), .box (plcC p), L]) | .inr i => ([(0, .yld 7), (1, .ptr 5 0), (2, .ptr 6 0), (8, .slc 10 t.rules.length (fun i j => tbl (rulC (t.rules.getD i rul0)) j)), (9, .int .i64 t.rules.length), (10, .int .i64 i)], [.box (trfC t), .box (plcC p), .box [.int .i64 0, .int .i64 0], .box [.slc0], .box [.own 9 1], .box (trfC t), .box (plcC p), L, .dead, .list 3 1 1 (fun _ _ => .int .i64 ((holdI t p i).getD 0 0)) 1]), fun y => match y with | .inl i => i <= t.rules.length /\ holdI t p i = [] | .inr i => i <= t.rules.length /\ (holdI t p i).length = 1, fun y => match y with | .inl i => t.rules.length - i | .inr i => t.rules.length - i, ⟨.inl 0, ⟨Nat.zero_le _, rfl⟩, ?_⟩, fun y hy => ?_⟩
 all_goals subst hL
 ·exact .le ⟨rfl, rfZ, rfZ⟩
 rcases y with i | i
 ·obtain ⟨hi, he⟩ := hy
  repeat' (first
   | (refine Ax.go ?_; first | (with_reducible apply callAlt (c152 hX t (t.rules.getD i rul0) p hs (Side.mk ⟨k0.rzones i, k0.rdays i⟩))) | (with_reducible apply Alt.one))
   | exact Cl.go
   | ((fail_if_success refine Stop.go ?_); first | (with_reducible first | apply And.intro | apply Cut.go | (refine impI ?_; intro _)) | (refine propI ?_; conv => whnf)))
  all_goals try exact nbZ
  all_goals try (exact Sc.of ⟨Nat.le_of_ble_eq_true rfl, Nat.le_of_ble_eq_true rfl⟩)
  all_goals try (exfalso; clear hX hs ok k0; cases hb : holdB t (t.rules.getD i rul0) p <;> simp_all [sameB]; done)
  all_goals try (have q := of_decide_eq_true (show decide ((i : Int) < (t.rules.length : Int)) = true by assumption))
  all_goals try (exact .of ⟨by omega, by omega⟩)
  all_goals try (exact .of ⟨Int.le_refl 0, (by decide : (0 : Int) < 1)⟩)
  all_goals try (have hb : holdB t (t.rules.getD i rul0) p = true := sameB_eq.1 (by assumption))
  all_goals try (have hb : holdB t (t.rules.getD i rul0) p = false := sameB_f (by assumption))
  all_goals try (exact .of hb)
  ·refine ⟨.inr (i + 1), ⟨by omega, by rw [hold_y hb, he]; rfl⟩, by show t.rules.length - (i + 1) < t.rules.length - i; omega, .le ⟨rfl, ⟨.refl _, .refl _, .refl _, .refl _, .refl _, .refl _, .refl _, .refl _, .dead _, .list (fun a j ha hj => ?_), trivial⟩, rfZ⟩⟩
   rw [hold_y hb, he]
   replace hj : j < 1 := hj
   replace ha : a < 1 := by omega
   obtain rfl : a = 0 := by omega
   obtain rfl : j = 0 := by omega
   exact .refl _
  ·exact ⟨.inl (i + 1), ⟨by omega, by rw [hold_n hb, he]⟩, by show t.rules.length - (i + 1) < t.rules.length - i; omega, .le ⟨rfl, rfZ, rfZ⟩⟩
  ·have q := of_decide_eq_false (show decide ((i : Int) < (t.rules.length : Int)) = false by assumption)
   obtain rfl : i = t.rules.length := by omega
   have w := one_none (l := holdI t p t.rules.length) (by rw [he]; rfl)
   exact .mk [] [] _ rfl (.le (.tups ⟨⟨trivial, .aggs ⟨⟨trivial, .intI w.2.symm⟩, .intI w.1.symm⟩⟩, by rw [he]; exact Le.slc0 1 _⟩)) trivial rfl
 ·obtain ⟨hi, he⟩ := hy
  repeat' (first
   | (refine Ax.go ?_; first | (with_reducible apply callAlt (c152 hX t (t.rules.getD i rul0) p hs (Side.mk ⟨k0.rzones i, k0.rdays i⟩))) | (with_reducible apply Alt.one))
   | exact Cl.go
   | ((fail_if_success refine Stop.go ?_); first | (with_reducible first | apply And.intro | apply Cut.go | (refine impI ?_; intro _)) | (refine propI ?_; conv => whnf)))
  all_goals try exact nbZ
  all_goals try (exact Sc.of ⟨Nat.le_of_ble_eq_true rfl, Nat.le_of_ble_eq_true rfl⟩)
  all_goals try (exfalso; clear hX hs ok k0; cases hb : holdB t (t.rules.getD i rul0) p <;> simp_all [sameB]; done)
  all_goals try (have q := of_decide_eq_true (show decide ((i : Int) < (t.rules.length : Int)) = true by assumption))
  all_goals try (exact .of ⟨by omega, by omega⟩)
  all_goals try (exact .of ⟨Int.le_refl 0, (by decide : (0 : Int) < 1)⟩)
  all_goals try (have hb : holdB t (t.rules.getD i rul0) p = true := sameB_eq.1 (by assumption))
  all_goals try (have hb : holdB t (t.rules.getD i rul0) p = false := sameB_f (by assumption))
  all_goals try (exact .of hb)
  ·have w := hold_two (n := t.rules.length) (by omega) he hb
   have v := one_two (decide_eq_true (by omega : (1 : Int) < ((holdI t p t.rules.length).length : Int)))
   rw [w.1]
   exact .mk [] [9] _ rfl (.tups ⟨⟨trivial, .le (.aggs ⟨⟨trivial, .intI v.2.symm⟩, .intI v.1.symm⟩)⟩, .own rfl fun a j ha hj => by
    replace hj : j < 1 := hj
    replace ha : a < 2 := ha
    obtain rfl : j = 0 := by omega
    rcases (show a = 0 \/ a = 1 by omega) with rfl | rfl
    ·exact .refl _
    ·exact .refl _⟩) trivial rfl
  ·refine ⟨.inr (i + 1), ⟨by omega, by rw [hold_n hb, he]⟩, by show t.rules.length - (i + 1) < t.rules.length - i; omega, .le ⟨rfl, ⟨.refl _, .refl _, .refl _, .refl _, .refl _, .refl _, .refl _, .refl _, .refl _, .list (fun a j ha hj => ?_), trivial⟩, rfZ⟩⟩
   rw [hold_n hb]
   exact .refl _
  ·have q := of_decide_eq_false (show decide ((i : Int) < (t.rules.length : Int)) = false by assumption)
   obtain rfl : i = t.rules.length := by omega
   have w := one_one (l := holdI t p t.rules.length) (by rw [he]; rfl) (by rw [he]; rfl)
   have e : (holdI t p t.rules.length).take 2 = [(holdI t p t.rules.length).getD 0 0] := by
    match h : holdI t p t.rules.length, he with
    | [a], _ => rfl
   rw [e]
   exact .mk [] [9] _ rfl (.tups ⟨⟨trivial, .le (.aggs ⟨⟨trivial, .intI w.2.1.symm⟩, .intI w.1.symm⟩)⟩, .own rfl fun a j ha hj => by
    replace hj : j < 1 := hj
    replace ha : a < 1 := ha
    obtain rfl : j = 0 := by omega
    obtain rfl : a = 0 := by omega
    exact .refl _⟩) trivial rfl
end
end Go.Fx
/-
 RuleAt.
-/
namespace Go.Fx
open Go.Proofs Go.RowKit
@[irreducible] def gateE (t : Trf) (p : Plc) : Int := firstS [trfE t, placeE t p]
@[irreducible] def ruleAtE (t : Trf) (p : Plc) : Int := bif decide (gateE t p = 0) then oneE (holdI t p t.rules.length) else gateE t p
@[irreducible] def ruleAtN (t : Trf) (p : Plc) : Int := bif decide (gateE t p = 0) then oneN (holdI t p t.rules.length) else 0
section
variable {W0 : World} {G : Nat -> Option AV} (hX : (Xc W0 G).Good)
include hX
end
end Go.Fx
/-
 Later.
-/
namespace Go.Fx
open Go.Proofs Go.RowKit
def laterQ (m : Mom) (n : Int) : Mom := ⟨m.d + (m.s + n).tdiv 86400, (m.s + n).tmod 86400⟩
@[irreducible] def laterE (m : Mom) (n : Int) : Int := firstS [isOk (momB m) 2, isOk (inB n 0 100000000) 2, isOk (momB (laterQ m n)) 2]
@[irreducible] def laterM (m : Mom) (n : Int) : Mom := bif decide (laterE m n = 0) then laterQ m n else ⟨0, 0⟩
theorem mom_bd {m : Mom} (h : momB m = true) : (0 <= m.d /\ m.d <= 100000) /\ (0 <= m.s /\ m.s <= 86399) := by
 unfold momB at h
 have := and_t h
 exact ⟨inB_iff.1 this.1, inB_iff.1 this.2⟩
section
variable {W0 : World} {G : Nat -> Option AV} (hX : (Xc W0 G).Good)
include hX
end
end Go.Fx
