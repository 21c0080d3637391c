/-
 Tariffs: what is wrong with one (part 1).
-/
import Derived.Test.YtkinfbkpecjpnaaGreatDoorGf
set_option linter.all false
/-
 Data of chapter 2: events, logs; what is looked for in a list.
-/
namespace Go.Fx
open Go.Proofs
theorem Le.slcN {es n m : Nat} {f g : Nat -> Nat -> AV} (e : n = m) (h : ∀ i j, i < n -> j < es -> Le (f i j) (g i j)) : Le (.slc es n f) (.slc es m g) := by subst e; exact .slc h
theorem Le.intI {k : IntKind} {x y : Int} (h : x = y) : Le (.int k x) (.int k y) := by rw [h]; exact .refl _
def scanE {α : Type} (g : α -> Int) : List α -> Int
 | [] => 0
 | e :: r => bif decide (g e = 0) then scanE g r else g e
def scanN {α : Type} (g : α -> Int) : List α -> Int
 | [] => 0
 | e :: r => bif decide (g e = 0) then (bif decide (scanE g r = 0) then 0 else scanN g r + 1) else 0
theorem scan_hit {α : Type} {g : α -> Int} {d : α} : ∀ {l : List α} {i : Nat}, i < l.length -> (∀ j, j < i -> g (l.getD j d) = 0) -> g (l.getD i d) ≠ 0 -> scanE g l = g (l.getD i d) /\ scanN g l = i
 | x :: r, 0, _, _, h => by
  have h : g x ≠ 0 := h
  simp [scanE, scanN, h]
 | x :: r, i + 1, hi, h0, h => by
  have hx : g x = 0 := h0 0 (by omega)
  obtain ⟨a, b⟩ := scan_hit (g := g) (d := d) (l := r) (by simpa using hi) (fun j hj => h0 (j + 1) (by omega)) h
  have hr : g (r.getD i d) ≠ 0 := h
  have e : (x :: r).getD (i + 1) d = r.getD i d := rfl
  have hne : ¬ scanE g r = 0 := by rw [a]; exact hr
  simp only [scanE, scanN, hx, decide_true, cond_true, decide_eq_false hne, cond_false, e]
  exact ⟨a, by rw [b]; rfl⟩
theorem scan_none {α : Type} {g : α -> Int} {d : α} : ∀ {l : List α}, (∀ j, j < l.length -> g (l.getD j d) = 0) -> scanE g l = 0 /\ scanN g l = 0
 | [], _ => ⟨rfl, rfl⟩
 | x :: r, h => by
  have hx : g x = 0 := h 0 (by simp)
  obtain ⟨a, b⟩ := scan_none (g := g) (d := d) (l := r) fun j hj => h (j + 1) (by simpa using hj)
  simp [scanE, scanN, hx, a]
theorem scan_zero {α : Type} {g : α -> Int} {d : α} : ∀ {l : List α}, scanE g l = 0 -> (∀ j, j < l.length -> g (l.getD j d) = 0)
 | [], _, j, hj => by simp at hj
 | x :: r, h, j, hj => by
  by_cases hx : g x = 0
  ·cases j with
   | zero => exact hx
   | succ j => exact scan_zero (l := r) (by simpa [scanE, hx] using h) j (by simpa using hj)
  ·exact absurd (by simpa [scanE, hx] using h) hx
theorem drop_at {α : Type} {l : List α} {i : Nat} {d : α} (h : i < l.length) : l.drop i = l.getD i d :: l.drop (i + 1) := by
 rw [List.drop_eq_getElem_cons h, List.getD_eq_getElem?_getD, List.getElem?_eq_getElem h]; rfl
theorem all_lt {p : Nat -> Prop} {i : Nat} (h0 : ∀ j, j < i -> p j) (h : p i) : ∀ j, j < i + 1 -> p j := fun j hj => by
 rcases Nat.lt_succ_iff_lt_or_eq.1 hj with h1 | h1
 ·exact h0 j h1
 ·rw [h1]; exact h
structure Ev where
 k : Int
 n : Int
structure Log where
 c : Int
 d : Int
 t : Int
 ev : List Ev
def evLo (k : Int) : Int := rangesL.getD (k.toNat * 2) 0
def evHi (k : Int) : Int := rangesL.getD (k.toNat * 2 + 1) 0
@[irreducible] def evE (e : Ev) : Int := bif inB e.k 0 6 then (bif inB e.n (evLo e.k) (evHi e.k) then 0 else 2) else 15
@[irreducible] def momE (d t : Int) : Int := bif inB d 0 100000 then (bif inB t 0 86399 then 0 else 2) else 2
@[irreducible] def headE (l : Log) : Int := firstS [bif inB l.c 1 100000 then 0 else 2, momE l.d l.t, bif decide ((l.ev.length : Int) <= 200) then 0 else 8]
@[irreducible] def aloneE (l : Log) : Int := bif decide (headE l = 0) then scanE evE l.ev else headE l
@[irreducible] def aloneN (l : Log) : Int := bif decide (headE l = 0) then scanN evE l.ev else 0
end Go.Fx
/-
 Data of chapter 1: tariffs; what is wrong with one.
-/
namespace Go.Fx
open Go.Proofs
def bs0 : ByteArray := ⟨#[]⟩
def sRow (l : List ByteArray) : AV := .slc 1 l.length (fun i _ => .str (l.getD i bs0))
structure Rul where
 name : ByteArray
 fr : Int
 tt : Int
 zones : List Int
 days : List Int
 bg : Int
 en : Int
 st : Int
 me : Int
 se : Int
def rul0 : Rul := ⟨bs0, 0, 0, [], [], 0, 0, 0, 0, 0⟩
def rulC (r : Rul) : List AV := [.str r.name, .int .i64 r.fr, .int .i64 r.tt, iRow r.zones, iRow r.days, .int .i64 r.bg, .int .i64 r.en, .int .i64 r.st, .int .i64 r.me, .int .i64 r.se]
def rulA (r : Rul) : AV := .agg 10 (tbl (rulC r))
def rulS (l : List Rul) : AV := .slc 10 l.length (fun i j => tbl (rulC (l.getD i rul0)) j)
structure Ext where
 name : ByteArray
 am : Int
def ext0 : Ext := ⟨bs0, 0⟩
def extC (x : Ext) : List AV := [.str x.name, .int .i64 x.am]
def extS (l : List Ext) : AV := .slc 2 l.length (fun i j => tbl (extC (l.getD i ext0)) j)
structure Fxd where
 fr : Int
 tt : Int
 am : Int
def fxd0 : Fxd := ⟨0, 0, 0⟩
def fxdC (x : Fxd) : List AV := [.int .i64 x.fr, .int .i64 x.tt, .int .i64 x.am]
def fxdA (x : Fxd) : AV := .agg 3 (tbl (fxdC x))
def fxdS (l : List Fxd) : AV := .slc 3 l.length (fun i j => tbl (fxdC (l.getD i fxd0)) j)
structure Trf where
 name : ByteArray
 unit : Int
 step : Int
 zones : List ByteArray
 hol : List Int
 rules : List Rul
 extras : List Ext
 fixed : List Fxd
def trfC (t : Trf) : List AV := [.str t.name, .int .i64 t.unit, .int .i64 t.step, sRow t.zones, iRow t.hol, rulS t.rules, extS t.extras, fxdS t.fixed]
def trfA (t : Trf) : AV := .agg 8 (tbl (trfC t))
structure TOk (t : Trf) : Prop where
 name : t.name.size <= 1000
 zones : t.zones.length <= 1000
 hol : t.hol.length <= 1000
 rules : t.rules.length <= 1000
 extras : t.extras.length <= 1000
 fixed : t.fixed.length <= 1000
 zone : ∀ j, (t.zones.getD j bs0).size <= 1000
 rname : ∀ j, (t.rules.getD j rul0).name.size <= 1000
 rzones : ∀ j, (t.rules.getD j rul0).zones.length <= 1000
 rdays : ∀ j, (t.rules.getD j rul0).days.length <= 1000
 ename : ∀ j, (t.extras.getD j ext0).name.size <= 1000
def findI (p : Nat -> Bool) : Nat -> Int
 | 0 => -1
 | n + 1 => bif decide (0 <= findI p n) then findI p n else bif p n then n else -1
theorem findI_none {p : Nat -> Bool} : ∀ {n : Nat}, (∀ j, j < n -> p j = false) -> findI p n = -1
 | 0, _ => rfl
 | n + 1, h => by
  have h1 := findI_none (p := p) (n := n) fun j hj => h j (by omega)
  simp [findI, h1, h n (by omega)]
theorem findI_hit {p : Nat -> Bool} {i : Nat} : ∀ {n : Nat}, i < n -> (∀ j, j < i -> p j = false) -> p i = true -> findI p n = i
 | 0, hi, _, _ => by omega
 | n + 1, hi, h, hp => by
  rcases Nat.lt_succ_iff_lt_or_eq.1 hi with h1 | h1
  ·have h2 := findI_hit (p := p) (n := n) h1 h hp
   simp only [findI, h2]
   rw [decide_eq_true (by omega)]; rfl
  ·subst h1
   have h2 := findI_none (p := p) (n := i) h
   simp [findI, h2, hp]
theorem findI_ge {p : Nat -> Bool} : ∀ {n : Nat}, decide (0 <= findI p n) = (List.range n).any p
 | 0 => rfl
 | n + 1 => by
  rw [List.range_succ, List.any_append, <- findI_ge (n := n)]
  simp only [findI]
  by_cases h : 0 <= findI p n
  ·simp [h]
  ·by_cases hp : p n = true
   ·simp [h, hp]
   ·simp [h, hp]
theorem any_hit {p : Nat -> Bool} {n i : Nat} (hi : i < n) (h : p i = true) : (List.range n).any p = true := List.any_eq_true.2 ⟨i, List.mem_range.2 hi, h⟩
theorem any_none {p : Nat -> Bool} {n : Nat} (h : ∀ j, j < n -> p j = false) : (List.range n).any p = false := by
 rw [List.any_eq_false]
 intro x hx
 rw [h x (List.mem_range.1 hx)]
 decide
def badB (i c : Int) : Bool := bif !(bif (bif decide (97 <= c) then decide (c <= 122) else false) then true else (bif decide (65 <= c) then decide (c <= 90) else false)) then (bif i == 0 then true else (bif c != 45 then (bif decide (c < 48) then true else decide (57 < c)) else false)) else false
@[irreducible] def nameB (s : ByteArray) : Bool := bif decide ((s.size : Int) < 1) then false else bif decide (12 < (s.size : Int)) then false else !(List.range s.size).any fun i => badB i (byteAt s i)
@[irreducible] def hasB (l : List ByteArray) (n : Nat) (s : ByteArray) : Bool := (List.range n).any fun i => decide (l.getD i bs0 = s)
def riseAt (lo hi e : Int) (l : List Int) (i : Nat) : Int := bif inB (l.getD i 0) lo hi then (bif decide (0 < i) then (bif decide (l.getD i 0 <= l.getD (i - 1) 0) then 9 else 0) else 0) else e
@[irreducible] def riseE (lo hi e : Int) (l : List Int) : Int := scanE (riseAt lo hi e l) (List.range l.length)
def isOk (b : Bool) (e : Int) : Int := bif b then 0 else e
@[irreducible] def ruleE (nz : Int) (r : Rul) : Int := firstS [isOk (bif inB r.fr 0 100000 then inB r.tt 0 100000 else false) 2, isOk (decide (r.fr <= r.tt)) 9, isOk (bif decide (0 < (r.zones.length : Int)) then decide (0 < (r.days.length : Int)) else false) 10,
 riseE 0 (nz - 1) 6 r.zones, riseE 0 7 2 r.days, isOk (bif (bif inB r.bg 0 86399 then inB r.en 0 86400 else false) then (bif (bif inB r.st 0 100000 then inB r.me 0 1000000 else false) then inB r.se 0 1000000 else false) else false) 2]
@[irreducible] def zoneE (t : Trf) (i : Nat) : Int := bif nameB (t.zones.getD i bs0) then (bif hasB t.zones i (t.zones.getD i bs0) then 5 else 0) else 4
@[irreducible] def holE (t : Trf) (i : Nat) : Int := riseAt 0 100000 2 t.hol i
@[irreducible] def ruliE (t : Trf) (i : Nat) : Int := bif nameB (t.rules.getD i rul0).name then (bif (List.range i).any (fun k => decide ((t.rules.getD k rul0).name = (t.rules.getD i rul0).name)) then 5 else ruleE t.zones.length (t.rules.getD i rul0)) else 4
@[irreducible] def extE (t : Trf) (i : Nat) : Int := bif nameB (t.extras.getD i ext0).name then (bif (List.range i).any (fun k => decide ((t.extras.getD k ext0).name = (t.extras.getD i ext0).name)) then 5 else isOk (inB (t.extras.getD i ext0).am 0 100000) 2) else 4
def zoneIn (t : Trf) (n : Int) : Bool := inB n 0 (t.zones.length - 1)
@[irreducible] def fxdE (t : Trf) (i : Nat) : Int := bif (bif zoneIn t (t.fixed.getD i fxd0).fr then zoneIn t (t.fixed.getD i fxd0).tt else false) then (bif inB (t.fixed.getD i fxd0).am 0 100000 then (bif (List.range i).any (fun k => bif (t.fixed.getD k fxd0).fr == (t.fixed.getD i fxd0).fr then (t.fixed.getD k fxd0).tt == (t.fixed.getD i fxd0).tt else false) then 5 else 0) else 2) else 6
def partE (t : Trf) : Nat -> Nat -> Int
 | 0 => zoneE t
 | 1 => holE t
 | 2 => ruliE t
 | 3 => extE t
 | _ => fxdE t
def partN (t : Trf) : Nat -> Nat
 | 0 => t.zones.length
 | 1 => t.hol.length
 | 2 => t.rules.length
 | 3 => t.extras.length
 | _ => t.fixed.length
def partM : Nat -> Nat
 | 0 => 6
 | 1 => 20
 | 2 => 12
 | 3 => 6
 | _ => 16
def topE (t : Trf) : Int := bif nameB t.name then (bif (bif inB t.unit 1 999999999 then inB t.step 0 100000 else false) then (bif decide (0 < (t.zones.length : Int)) then 0 else 10) else 2) else 4
def pE (t : Trf) (p : Nat) : Int := bif decide (partM p < partN t p) then 8 else scanE (partE t p) (List.range (partN t p))
def pL (t : Trf) (p : Nat) : Int := bif decide (partM p < partN t p) then 0 else p + 1
def pN (t : Trf) (p : Nat) : Int := bif decide (partM p < partN t p) then 0 else scanN (partE t p) (List.range (partN t p))
def fromE (t : Trf) (p : Nat) : Nat -> Int
 | 0 => 0
 | k + 1 => bif decide (pE t p = 0) then fromE t (p + 1) k else pE t p
def fromL (t : Trf) (p : Nat) : Nat -> Int
 | 0 => 0
 | k + 1 => bif decide (pE t p = 0) then fromL t (p + 1) k else pL t p
def fromN (t : Trf) (p : Nat) : Nat -> Int
 | 0 => 0
 | k + 1 => bif decide (pE t p = 0) then fromN t (p + 1) k else pN t p
@[irreducible] def trfE (t : Trf) : Int := bif decide (topE t = 0) then fromE t 0 5 else topE t
@[irreducible] def trfL (t : Trf) : Int := bif decide (topE t = 0) then fromL t 0 5 else 0
@[irreducible] def trfN (t : Trf) : Int := bif decide (topE t = 0) then fromN t 0 5 else 0
end Go.Fx
/-
 Small functions of the tariff: bounds, first errors, names, numbers that rise.
-/
namespace Go.Fx
open Go.Proofs Go.RowKit
theorem range_at {n j : Nat} (h : j < n) : (List.range n).getD j 0 = j := by simp [List.getD_eq_getElem?_getD, h]
theorem rise_hit {lo hi e : Int} {l : List Int} {i : Nat} (hi' : i < l.length) (h0 : ∀ j, j < i -> riseAt lo hi e l j = 0) (h : riseAt lo hi e l i ≠ 0) : riseE lo hi e l = riseAt lo hi e l i := by
 unfold riseE
 have w := scan_hit (g := riseAt lo hi e l) (d := 0) (l := List.range l.length) (i := i) (by simpa using hi') (fun j hj => by rw [range_at (by omega)]; exact h0 j hj) (by rw [range_at hi']; exact h)
 rw [w.1, range_at hi']
theorem rise_none {lo hi e : Int} {l : List Int} (h0 : ∀ j, j < l.length -> riseAt lo hi e l j = 0) : riseE lo hi e l = 0 := by
 unfold riseE
 exact (scan_none (g := riseAt lo hi e l) (d := 0) (l := List.range l.length) (fun j hj => by rw [range_at (by simpa using hj)]; exact h0 j (by simpa using hj))).1
theorem rise_out {lo hi e : Int} {l : List Int} {i : Nat} (h : inB (l.getD i 0) lo hi = false) : riseAt lo hi e l i = e := by unfold riseAt; rw [h]; rfl
theorem rise_9 {lo hi e : Int} {l : List Int} {i : Nat} (h : inB (l.getD i 0) lo hi = true) (h2 : (bif decide (0 < (i : Int)) then decide (l.getD i 0 <= l.getD ((i : Int) - 1).toNat 0) else false) = true) : riseAt lo hi e l i = 9 := by
 unfold riseAt
 rw [h]
 by_cases hi : 0 < i
 ·rw [decide_eq_true (show 0 < (i : Int) by omega)] at h2
  rw [decide_eq_true hi]
  rw [show ((i : Int) - 1).toNat = i - 1 by omega] at h2
  simp only [cond_true] at h2 ⊢
  rw [h2]; rfl
 ·rw [decide_eq_false (show ¬ 0 < (i : Int) by omega)] at h2; cases h2
theorem rise_0 {lo hi e : Int} {l : List Int} {i : Nat} (h : inB (l.getD i 0) lo hi = true) (h2 : (bif decide (0 < (i : Int)) then decide (l.getD i 0 <= l.getD ((i : Int) - 1).toNat 0) else false) = false) : riseAt lo hi e l i = 0 := by
 unfold riseAt
 rw [h]
 by_cases hi : 0 < i
 ·rw [decide_eq_true (show 0 < (i : Int) by omega)] at h2
  rw [decide_eq_true hi]
  rw [show ((i : Int) - 1).toNat = i - 1 by omega] at h2
  simp only [cond_true] at h2 ⊢
  rw [h2]; rfl
 ·rw [decide_eq_false hi]; rfl
section
variable {W0 : World} {G : Nat -> Option AV} (hX : (Xc W0 G).Good)
include hX
theorem c83 (n lo hi : Int) : Pure (Xc W0 G) 83 [.int .i64 n, .int .i64 lo, .int .i64 hi] (.bool (inB n lo hi)) := by
 refine mut_of' hX (fnI Tryz.f83) rfl ?_
 repeat' (first
  | (refine Ax.go ?_; first | (with_reducible apply Alt.one))
  | exact Cl.go
  | ((fail_if_success refine Stop.go ?_); first | (with_reducible first | apply And.intro | apply Cut.go | (refine impI ?_; intro _)) | (refine propI ?_; conv => whnf)))
 all_goals exact .mk [] [] _ rfl (.le (.refl _)) trivial rfl
theorem c73 (b : Bool) (e : Int) : Pure (Xc W0 G) 73 [.bool b, .int .i64 e] (.int .i64 (isOk b e)) := by
 refine mut_of' hX (fnI Tryz.f73) rfl ?_
 repeat' (first
  | (refine Ax.go ?_; first | (with_reducible apply Alt.one))
  | exact Cl.go
  | ((fail_if_success refine Stop.go ?_); first | (with_reducible first | apply And.intro | apply Cut.go | (refine impI ?_; intro _)) | (refine propI ?_; conv => whnf)))
 ·rename_i h; subst h; exact .mk [] [] _ rfl (.le (.refl _)) trivial rfl
 ·rename_i h; subst h; exact .mk [] [] _ rfl (.le (.refl _)) trivial rfl
theorem c84 (n : Int) : Pure (Xc W0 G) 84 [.int .i64 n] (.bool (inB n 0 100000)) := by
 refine mut_of' hX (fnI Tryz.f84) rfl ?_
 repeat' (first
  | (refine Ax.go ?_; first | (with_reducible apply callAlt (c83 hX _ _ _)) | (with_reducible apply Alt.one))
  | exact Cl.go
  | ((fail_if_success refine Stop.go ?_); first | (with_reducible first | apply And.intro | apply Cut.go | (refine impI ?_; intro _)) | (refine propI ?_; conv => whnf)))
 all_goals exact .mk [] [] _ rfl (.le (.refl _)) trivial rfl
theorem c89 (n : Int) : Pure (Xc W0 G) 89 [.int .i64 n] (.bool (inB n 0 100000)) := by
 refine mut_of' hX (fnI Tryz.f89) rfl ?_
 repeat' (first
  | (refine Ax.go ?_; first | (with_reducible apply callAlt (c83 hX _ _ _)) | (with_reducible apply Alt.one))
  | exact Cl.go
  | ((fail_if_success refine Stop.go ?_); first | (with_reducible first | apply And.intro | apply Cut.go | (refine impI ?_; intro _)) | (refine propI ?_; conv => whnf)))
 all_goals exact .mk [] [] _ rfl (.le (.refl _)) trivial rfl
theorem c143 (n : Int) : Pure (Xc W0 G) 143 [.int .i64 n] (.bool (inB n 0 86399)) := by
 refine mut_of' hX (fnI Tryz.f143) rfl ?_
 repeat' (first
  | (refine Ax.go ?_; first | (with_reducible apply callAlt (c83 hX _ _ _)) | (with_reducible apply Alt.one))
  | exact Cl.go
  | ((fail_if_success refine Stop.go ?_); first | (with_reducible first | apply And.intro | apply Cut.go | (refine impI ?_; intro _)) | (refine propI ?_; conv => whnf)))
 all_goals exact .mk [] [] _ rfl (.le (.refl _)) trivial rfl
theorem c145 (n : Int) : Pure (Xc W0 G) 145 [.int .i64 n] (.bool (inB n 0 7)) := by
 refine mut_of' hX (fnI Tryz.f145) rfl ?_
 repeat' (first
  | (refine Ax.go ?_; first | (with_reducible apply callAlt (c83 hX _ _ _)) | (with_reducible apply Alt.one))
  | exact Cl.go
  | ((fail_if_success refine Stop.go ?_); first | (with_reducible first | apply And.intro | apply Cut.go | (refine impI ?_; intro _)) | (refine propI ?_; conv => whnf)))
 all_goals exact .mk [] [] _ rfl (.le (.refl _)) trivial rfl
theorem c55 (l : List Int) (hn : l.length < 1000000) : Pure (Xc W0 G) 55 [.slc 1 l.length (fun i _ => .int .i64 (l.getD i 0))] (.int .i64 (firstS l)) := by
 refine mut_of' hX (fnI Tryz.f55) rfl ?_
 repeat' (first
  | (refine Ax.go ?_; first | (with_reducible apply Alt.one))
  | exact Cl.go
  | ((fail_if_success refine Stop.go ?_); first | (with_reducible first | apply And.intro | apply Cut.go | (refine impI ?_; intro _)) | (refine propI ?_; conv => whnf)))
 refine ⟨Nat, fun i => ([(7, .int .i64 i), (6, .int .i64 l.length), (5, .slc 1 l.length (fun i _ => .int .i64 (l.getD i 0)))], []), fun i => i <= l.length /\ ∀ j, j < i -> l.getD j 0 = 0, fun i => l.length - i, ⟨0, ⟨Nat.zero_le _, fun _ h => by omega⟩, .le ⟨rfl, trivial, rfZ⟩⟩, fun i ⟨hi, h0⟩ => ?_⟩
 repeat' (first
  | (refine Ax.go ?_; first | (with_reducible apply Alt.one))
  | exact Cl.go
  | ((fail_if_success refine Stop.go ?_); first | (with_reducible first | apply And.intro | apply Cut.go | (refine impI ?_; intro _)) | (refine propI ?_; conv => whnf)))
 all_goals (rename_i h)
 all_goals first
  | exact .of (Nat.le_of_ble_eq_true rfl)
  | (have h := of_decide_eq_true h; exact .of ⟨by omega, by omega⟩)
  | (have h := of_decide_eq_false h; rw [firstS_none (fun j hj => h0 j (by omega))]; exact .mk [] [] _ rfl (.le (.refl _)) trivial rfl)
  | (rename_i h1; have h1 := of_decide_eq_true h1
     simp only [decide_eq_true_eq, decide_eq_false_iff_not, beq_iff_eq, bne_iff_ne, beq_eq_false_iff_ne, bne_eq_false_iff_eq, ne_eq, Int.not_lt, Int.not_le, Nat.not_lt, Nat.not_le, Decidable.not_not, Int.toNat_natCast] at h
     first
      | exact .of ⟨by omega, by omega⟩
      | exact ⟨i + 1, ⟨by omega, all_lt h0 h⟩, by show l.length - (i + 1) < l.length - i; omega, .le ⟨rfl, trivial, rfZ⟩⟩
      | (rw [firstS_hit (by omega) h0 h]; exact .mk [] [] _ rfl (.le (.refl _)) trivial rfl))
theorem c55_2 (a b : Int) : Pure (Xc W0 G) 55 [.slc 1 [a, b].length (fun i _ => .int .i64 ([a, b].getD i 0))] (.int .i64 (firstS [a, b])) := c55 hX [a, b] (show 2 < 1000000 by decide)
theorem c55_3 (a b c : Int) : Pure (Xc W0 G) 55 [.slc 1 [a, b, c].length (fun i _ => .int .i64 ([a, b, c].getD i 0))] (.int .i64 (firstS [a, b, c])) := c55 hX [a, b, c] (show 3 < 1000000 by decide)
theorem c55_6 (a b c d e f : Int) : Pure (Xc W0 G) 55 [.slc 1 [a, b, c, d, e, f].length (fun i _ => .int .i64 ([a, b, c, d, e, f].getD i 0))] (.int .i64 (firstS [a, b, c, d, e, f])) := c55 hX [a, b, c, d, e, f] (show 6 < 1000000 by decide)
theorem c100 (t : Trf) (n : Int) (hs : Side (t.zones.length <= 1000)) : Pure (Xc W0 G) 100 [trfA t, .int .i64 n] (.bool (zoneIn t n)) := by
 have hs := hs.get
 refine mut_of' hX (fnI Tryz.f100) rfl ?_
 repeat' (first
  | (refine Ax.go ?_; first | (with_reducible apply callAlt (c83 hX _ _ _)) | (with_reducible apply Alt.one))
  | exact Cl.go
  | ((fail_if_success refine Stop.go ?_); first | (with_reducible first | apply And.intro | apply Cut.go | (refine impI ?_; intro _)) | (refine propI ?_; conv => whnf)))
 all_goals try exact nbZ
 all_goals first | exact .mk [] [] _ rfl (.le (.refl _)) trivial rfl | exact .of ⟨by omega, by omega⟩
theorem c88d (l : List Int) (e : Int) (he : e ≠ 0) (hn : Side (l.length <= 1000000)) : Pure (Xc W0 G) 88 [iRow l, .fn 89 0 (fun _ => .any), .int .i64 e] (.int .i64 (riseE 0 100000 e l)) := by
 have hn := hn.get
 refine mut_of' hX (fnI Tryz.f88) rfl ?_
 repeat' (first
  | (refine Ax.go ?_; first | (with_reducible apply Alt.one))
  | exact Cl.go
  | ((fail_if_success refine Stop.go ?_); first | (with_reducible first | apply And.intro | apply Cut.go | (refine impI ?_; intro _)) | (refine propI ?_; conv => whnf)))
 refine ⟨Nat, fun i => ([(0, iRow l), (1, .fn 89 0 (fun _ => .any)), (2, .int .i64 e), (9, iRow l), (10, .int .i64 l.length), (11, .int .i64 i)], []), fun i => i <= l.length /\ ∀ j, j < i -> riseAt 0 100000 e l j = 0, fun i => l.length - i, ⟨0, ⟨Nat.zero_le _, fun _ h => by omega⟩, .le ⟨rfl, trivial, rfZ⟩⟩, fun i ⟨hi, h0⟩ => ?_⟩
 repeat' (first
  | (refine Ax.go ?_; first | (with_reducible apply callAlt (c89 hX _)) | (with_reducible apply Alt.one))
  | exact Cl.go
  | ((fail_if_success refine Stop.go ?_); first | (with_reducible first | apply And.intro | apply Cut.go | (refine impI ?_; intro _)) | (refine propI ?_; conv => whnf)))
 all_goals first
  | exact .of (Nat.le_of_ble_eq_true rfl)
  | (rename_i h; have h := of_decide_eq_true h; exact .of ⟨by omega, by omega⟩)
  | (rename_i h; have h := of_decide_eq_false h; exact .mk [] [] _ rfl (.le (.intI ((rise_none (fun j hj => h0 j (by omega))).symm))) trivial rfl)
  | (rename_i h1 h; have h1 := of_decide_eq_true h1
     simp only [Bool.not_eq_true', Bool.not_eq_false', Int.toNat_natCast] at h
     first
      | (refine Sc.imp fun q => ?_; have q := of_decide_eq_true q; exact ⟨by omega, by omega⟩)
      | exact Sc.of (Nat.le_of_ble_eq_true rfl)
      | (have k := rise_out (e := e) h
         exact .mk [] [] _ rfl (.le (.intI (by rw [rise_hit (by omega) h0 (by rw [k]; exact he), k]))) trivial rfl))
  | (rename_i h1 h h2; have h1 := of_decide_eq_true h1
     simp only [Bool.not_eq_true', Bool.not_eq_false', Int.toNat_natCast] at h h2
     first
      | exact .of ⟨by omega, by omega⟩
      | exact ⟨i + 1, ⟨by omega, all_lt h0 (rise_0 h h2)⟩, by show l.length - (i + 1) < l.length - i; omega, .le ⟨rfl, trivial, rfZ⟩⟩
      | (have k := rise_9 (e := e) h h2; exact .mk [] [] _ rfl (.le (.intI (by rw [rise_hit (by omega) h0 (by rw [k]; decide), k]))) trivial rfl))
theorem c88k (l : List Int) (e : Int) (he : e ≠ 0) (hn : Side (l.length <= 1000000)) : Pure (Xc W0 G) 88 [iRow l, .fn 145 0 (fun _ => .any), .int .i64 e] (.int .i64 (riseE 0 7 e l)) := by
 have hn := hn.get
 refine mut_of' hX (fnI Tryz.f88) rfl ?_
 repeat' (first
  | (refine Ax.go ?_; first | (with_reducible apply Alt.one))
  | exact Cl.go
  | ((fail_if_success refine Stop.go ?_); first | (with_reducible first | apply And.intro | apply Cut.go | (refine impI ?_; intro _)) | (refine propI ?_; conv => whnf)))
 refine ⟨Nat, fun i => ([(0, iRow l), (1, .fn 145 0 (fun _ => .any)), (2, .int .i64 e), (9, iRow l), (10, .int .i64 l.length), (11, .int .i64 i)], []), fun i => i <= l.length /\ ∀ j, j < i -> riseAt 0 7 e l j = 0, fun i => l.length - i, ⟨0, ⟨Nat.zero_le _, fun _ h => by omega⟩, .le ⟨rfl, trivial, rfZ⟩⟩, fun i ⟨hi, h0⟩ => ?_⟩
 repeat' (first
  | (refine Ax.go ?_; first | (with_reducible apply callAlt (c145 hX _)) | (with_reducible apply Alt.one))
  | exact Cl.go
  | ((fail_if_success refine Stop.go ?_); first | (with_reducible first | apply And.intro | apply Cut.go | (refine impI ?_; intro _)) | (refine propI ?_; conv => whnf)))
 all_goals first
  | exact .of (Nat.le_of_ble_eq_true rfl)
  | (rename_i h; have h := of_decide_eq_true h; exact .of ⟨by omega, by omega⟩)
  | (rename_i h; have h := of_decide_eq_false h; exact .mk [] [] _ rfl (.le (.intI ((rise_none (fun j hj => h0 j (by omega))).symm))) trivial rfl)
  | (rename_i h1 h; have h1 := of_decide_eq_true h1
     simp only [Bool.not_eq_true', Bool.not_eq_false', Int.toNat_natCast] at h
     first
      | (refine Sc.imp fun q => ?_; have q := of_decide_eq_true q; exact ⟨by omega, by omega⟩)
      | exact Sc.of (Nat.le_of_ble_eq_true rfl)
      | (have k := rise_out (e := e) h
         exact .mk [] [] _ rfl (.le (.intI (by rw [rise_hit (by omega) h0 (by rw [k]; exact he), k]))) trivial rfl))
  | (rename_i h1 h h2; have h1 := of_decide_eq_true h1
     simp only [Bool.not_eq_true', Bool.not_eq_false', Int.toNat_natCast] at h h2
     first
      | exact .of ⟨by omega, by omega⟩
      | exact ⟨i + 1, ⟨by omega, all_lt h0 (rise_0 h h2)⟩, by show l.length - (i + 1) < l.length - i; omega, .le ⟨rfl, trivial, rfZ⟩⟩
      | (have k := rise_9 (e := e) h h2; exact .mk [] [] _ rfl (.le (.intI (by rw [rise_hit (by omega) h0 (by rw [k]; decide), k]))) trivial rfl))
theorem c144 (t : Trf) (n : Int) (hs : Side (t.zones.length <= 1000)) : Mut (Xc W0 G) 144 [.int .i64 n, .ptr 0 0] [.box (trfC t)] (.bool (zoneIn t n)) [.box (trfC t)] := by
 refine mut_of' hX (fnI Tryz.f144) rfl ?_
 repeat' (first
  | (refine Ax.go ?_; first | (with_reducible apply callAlt (c100 hX t _ hs)) | (with_reducible apply Alt.one))
  | exact Cl.go
  | ((fail_if_success refine Stop.go ?_); first | (with_reducible first | apply And.intro | apply Cut.go | (refine impI ?_; intro _)) | (refine propI ?_; conv => whnf)))
 all_goals try exact nbZ
 all_goals exact .mk [] [] _ rfl (.le (.refl _)) ⟨.le (.refl _), trivial⟩ rfl
theorem c88z (t : Trf) (l : List Int) (e : Int) (he : e ≠ 0) (hs : Side (t.zones.length <= 1000)) (hn : Side (l.length <= 1000000)) : Mut (Xc W0 G) 88 [iRow l, .fn 144 1 (tbl [.ptr 0 0]), .int .i64 e] [.box (trfC t)] (.int .i64 (riseE 0 (t.zones.length - 1) e l)) [.box (trfC t)] := by
 have hn := hn.get
 refine mut_of' hX (fnI Tryz.f88) rfl ?_
 repeat' (first
  | (refine Ax.go ?_; first | (with_reducible apply Alt.one))
  | exact Cl.go
  | ((fail_if_success refine Stop.go ?_); first | (with_reducible first | apply And.intro | apply Cut.go | (refine impI ?_; intro _)) | (refine propI ?_; conv => whnf)))
 refine ⟨Nat, fun i => ([(0, iRow l), (1, .fn 144 1 (tbl [.ptr 0 0])), (2, .int .i64 e), (9, iRow l), (10, .int .i64 l.length), (11, .int .i64 i)], [.box (trfC t)]), fun i => i <= l.length /\ ∀ j, j < i -> riseAt 0 (t.zones.length - 1) e l j = 0, fun i => l.length - i, ⟨0, ⟨Nat.zero_le _, fun _ h => by omega⟩, .le ⟨rfl, ⟨.refl _, trivial⟩, rfZ⟩⟩, fun i ⟨hi, h0⟩ => ?_⟩
 repeat' (first
  | (refine Ax.go ?_; first | (with_reducible (apply altM (ks := [0]) (m := 0); apply And.intro; apply Sc.of; apply (c144 hX t _ hs))) | (with_reducible apply Alt.one))
  | exact Cl.go
  | ((fail_if_success refine Stop.go ?_); first | (with_reducible first | apply And.intro | apply Cut.go | (refine impI ?_; intro _)) | (refine propI ?_; conv => whnf)))
 all_goals first
  | exact .of (Nat.le_of_ble_eq_true rfl)
  | (rename_i h; have h := of_decide_eq_true h; exact .of ⟨by omega, by omega⟩)
  | (rename_i h; have h := of_decide_eq_false h; exact .mk [] [] _ rfl (.le (.intI ((rise_none (fun j hj => h0 j (by omega))).symm))) ⟨.le (.refl _), trivial⟩ rfl)
  | (rename_i h1 h; have h1 := of_decide_eq_true h1
     simp only [Bool.not_eq_true', Bool.not_eq_false', Int.toNat_natCast] at h
     first
      | (refine Sc.imp fun q => ?_; have q := of_decide_eq_true q; exact ⟨by omega, by omega⟩)
      | exact Sc.of (Nat.le_of_ble_eq_true rfl)
      | (have k := rise_out (e := e) h
         exact .mk [] [] _ rfl (.le (.intI (by rw [rise_hit (by omega) h0 (by rw [k]; exact he), k]))) ⟨.le (.refl _), trivial⟩ rfl))
  | (rename_i h1 h h2; have h1 := of_decide_eq_true h1
     simp only [Bool.not_eq_true', Bool.not_eq_false', Int.toNat_natCast] at h h2
     first
      | exact .of ⟨by omega, by omega⟩
      | exact ⟨i + 1, ⟨by omega, all_lt h0 (rise_0 h h2)⟩, by show l.length - (i + 1) < l.length - i; omega, .le ⟨rfl, ⟨.refl _, trivial⟩, rfZ⟩⟩
      | (have k := rise_9 (e := e) h h2; exact .mk [] [] _ rfl (.le (.intI (by rw [rise_hit (by omega) h0 (by rw [k]; decide), k]))) ⟨.le (.refl _), trivial⟩ rfl))
end
end Go.Fx
/-
 Names; texts among others; numbers that ascend (of the reference).
-/
namespace Go.Fx
open Go.Proofs Go.RowKit
theorem name_bad {s : ByteArray} {i : Nat} (hi : i < s.size) (h : badB i (byteAt s i) = true) : nameB s = false := by
 unfold nameB
 rw [any_hit hi h]
 cases decide ((s.size : Int) < 1) <;> cases decide (12 < (s.size : Int)) <;> rfl
theorem name_all {s : ByteArray} (h : ∀ j : Nat, j < s.size -> badB j (byteAt s j) = false) : nameB s = bif decide ((s.size : Int) < 1) then false else bif decide (12 < (s.size : Int)) then false else true := by
 unfold nameB
 rw [any_none (fun j hj => h j hj)]; rfl
theorem name_end {s : ByteArray} (h : ∀ j : Nat, j < s.size -> badB j (byteAt s j) = false) : (bif !decide (s = ⟨#[]⟩) then decide ((s.size : Int) <= 12) else false) = nameB s := by
 rw [name_all h]
 by_cases h0 : s = ⟨#[]⟩
 ·subst h0; rfl
 ·have h1 : s.size ≠ 0 := fun e => h0 (by cases s with | mk d => cases d with | mk l => cases l with | nil => rfl | cons => simp [ByteArray.size] at e)
  by_cases h2 : (s.size : Int) <= 12
  ·simp [h0, h2, show ¬ (s.size : Int) < 1 by omega, show ¬ 12 < (s.size : Int) by omega]
  ·simp [h0, h2, show ¬ (s.size : Int) < 1 by omega, show 12 < (s.size : Int) by omega]
theorem name_big {s : ByteArray} (h : (bif decide ((s.size : Int) < 1) then true else decide (12 < (s.size : Int))) = true) : nameB s = false := by
 unfold nameB
 cases h1 : decide ((s.size : Int) < 1) <;> cases h2 : decide (12 < (s.size : Int)) <;> simp_all
theorem name_fit {s : ByteArray} (h : (bif decide ((s.size : Int) < 1) then true else decide (12 < (s.size : Int))) = false) (h0 : ∀ j : Nat, j < s.size -> badB j (byteAt s j) = false) : nameB s = true := by
 rw [name_all h0]
 cases h1 : decide ((s.size : Int) < 1) <;> cases h2 : decide (12 < (s.size : Int)) <;> simp_all
theorem has_find {l : List ByteArray} {s : ByteArray} : decide (0 <= findI (fun i => decide (s = l.getD i bs0)) l.length) = hasB l l.length s := by
 rw [findI_ge]
 unfold hasB
 congr 1
 funext i
 exact decide_eq_decide.2 eq_comm
section
variable {W0 : World} {G : Nat -> Option AV} (hX : (Xc W0 G).Good)
include hX
theorem c132 (s : ByteArray) (hs : Side (s.size <= 1000)) : Pure (Xc W0 G) 132 [.str s] (.bool (nameB s)) := by
 have hs := hs.get
 refine mut_of' hX (fnI Tryz.f132) rfl ?_
 repeat' (first
  | (refine Ax.go ?_; first | (with_reducible apply Alt.one))
  | exact Cl.go
  | ((fail_if_success refine Stop.go ?_); first | (with_reducible first | apply And.intro | apply Cut.go | (refine impI ?_; intro _)) | (refine propI ?_; conv => whnf)))
 refine ⟨Nat, fun i => ([(0, .str s), (7, .slc 1 s.size (fun i _ => .int .u8 (byteAt s i))), (8, .int .i64 s.size), (9, .int .i64 i)], []), fun i => i <= s.size /\ ∀ j : Nat, j < i -> badB j (byteAt s j) = false, fun i => s.size - i, ⟨0, ⟨Nat.zero_le _, fun _ h => by omega⟩, .le ⟨rfl, trivial, rfZ⟩⟩, fun i ⟨hi, h0⟩ => ?_⟩
 repeat' (first
  | (refine Ax.go ?_; first | (with_reducible apply Alt.one))
  | exact Cl.go
  | ((fail_if_success refine Stop.go ?_); first | (with_reducible first | apply And.intro | apply Cut.go | (refine impI ?_; intro _)) | (refine propI ?_; conv => whnf)))
 all_goals first
  | exact .of (Nat.le_of_ble_eq_true rfl)
  | (rename_i h; have h := of_decide_eq_true h; exact .of ⟨by omega, by omega⟩)
  | (rename_i h; have h := of_decide_eq_false h; exact .mk [] [] _ rfl (.le (.boolT (name_end (fun j hj => h0 j (by omega))))) trivial rfl)
  | (rename_i h1 h; have h1 := of_decide_eq_true h1
     simp only [Int.toNat_natCast] at h
     first
      | exact .of ⟨by omega, by omega⟩
      | exact ⟨i + 1, ⟨by omega, all_lt h0 (h)⟩, by show s.size - (i + 1) < s.size - i; omega, .le ⟨rfl, trivial, rfZ⟩⟩
      | (exact .mk [] [] _ rfl (.le (.boolT ((name_bad (by omega) h).symm))) trivial rfl))
theorem c101 (s : ByteArray) (hs : Side (s.size <= 1000)) : Pure (Xc W0 G) 101 [.str s] (.bool (nameB s)) := by
 have hs := hs.get
 refine mut_of' hX (fnI Tryz.f101) rfl ?_
 repeat' (first
  | (refine Ax.go ?_; first | (with_reducible apply Alt.one))
  | exact Cl.go
  | ((fail_if_success refine Stop.go ?_); first | (with_reducible first | apply And.intro | apply Cut.go | (refine impI ?_; intro _)) | (refine propI ?_; conv => whnf)))
 ·rename_i h; exact .mk [] [] _ rfl (.le (.boolT ((name_big h).symm))) trivial rfl
 rename_i hf
 refine ⟨Nat, fun i => ([(0, .str s), (3, .int .i64 i)], []), fun i => i <= s.size /\ ∀ j : Nat, j < i -> badB j (byteAt s j) = false, fun i => s.size - i, ⟨0, ⟨Nat.zero_le _, fun _ h => by omega⟩, .le ⟨rfl, trivial, ⟨.refl _, .refl _, trivial⟩⟩⟩, fun i ⟨hi, h0⟩ => ?_⟩
 repeat' (first
  | (refine Ax.go ?_; first | (with_reducible apply Alt.one))
  | exact Cl.go
  | ((fail_if_success refine Stop.go ?_); first | (with_reducible first | apply And.intro | apply Cut.go | (refine impI ?_; intro _)) | (refine propI ?_; conv => whnf)))
 all_goals first
  | exact .of (Nat.le_of_ble_eq_true rfl)
  | (rename_i h; have h := of_decide_eq_true h; exact .of ⟨by omega, by omega⟩)
  | (rename_i h; have h := of_decide_eq_false h; exact .mk [] [] _ rfl (.le (.boolT ((name_fit hf (fun j hj => h0 j (by omega))).symm))) trivial rfl)
  | (rename_i h1 h; have h1 := of_decide_eq_true h1
     simp only [Int.toNat_natCast] at h
     first
      | exact .of ⟨by omega, by omega⟩
      | exact ⟨i + 1, ⟨by omega, all_lt h0 (h)⟩, by show s.size - (i + 1) < s.size - i; omega, .le ⟨rfl, trivial, ⟨.refl _, .refl _, trivial⟩⟩⟩
      | (exact .mk [] [] _ rfl (.le (.boolT ((name_bad (by omega) h).symm))) trivial rfl))
theorem c130 (l : List ByteArray) (s : ByteArray) (hs : Side (l.length <= 1000)) : Pure (Xc W0 G) 130 [sRow l, .str s] (.int .i64 (findI (fun i => decide (s = l.getD i bs0)) l.length)) := by
 have hs := hs.get
 refine mut_of' hX (fnI Tryz.f130) rfl ?_
 repeat' (first
  | (refine Ax.go ?_; first | (with_reducible apply Alt.one))
  | exact Cl.go
  | ((fail_if_success refine Stop.go ?_); first | (with_reducible first | apply And.intro | apply Cut.go | (refine impI ?_; intro _)) | (refine propI ?_; conv => whnf)))
 refine ⟨Nat, fun i => ([(0, sRow l), (1, .str s), (7, .int .i64 l.length), (8, .int .i64 i)], []), fun i => i <= l.length /\ ∀ j : Nat, j < i -> (fun i => decide (s = l.getD i bs0)) j = false, fun i => l.length - i, ⟨0, ⟨Nat.zero_le _, fun _ h => by omega⟩, .le ⟨rfl, trivial, rfZ⟩⟩, fun i ⟨hi, h0⟩ => ?_⟩
 repeat' (first
  | (refine Ax.go ?_; first | (with_reducible apply Alt.one))
  | exact Cl.go
  | ((fail_if_success refine Stop.go ?_); first | (with_reducible first | apply And.intro | apply Cut.go | (refine impI ?_; intro _)) | (refine propI ?_; conv => whnf)))
 all_goals first
  | exact .of (Nat.le_of_ble_eq_true rfl)
  | (rename_i h; have h := of_decide_eq_true h; exact .of ⟨by omega, by omega⟩)
  | (rename_i h; have h := of_decide_eq_false h; exact .mk [] [] _ rfl (.le (.intI ((findI_none (fun j hj => h0 j (by omega))).symm))) trivial rfl)
  | (rename_i h1 h; have h1 := of_decide_eq_true h1
     simp only [Int.toNat_natCast] at h
     first
      | exact .of ⟨by omega, by omega⟩
      | exact ⟨i + 1, ⟨by omega, all_lt h0 (h)⟩, by show l.length - (i + 1) < l.length - i; omega, .le ⟨rfl, trivial, rfZ⟩⟩
      | (exact .mk [] [] _ rfl (.le (.intI ((findI_hit (by omega) h0 h).symm))) trivial rfl))
theorem c74 (l : List ByteArray) (s : ByteArray) (hs : Side (l.length <= 1000)) : Pure (Xc W0 G) 74 [sRow l, .str s] (.bool (hasB l l.length s)) := by
 refine mut_of' hX (fnI Tryz.f74) rfl ?_
 repeat' (first
  | (refine Ax.go ?_; first | (with_reducible apply callAlt (c130 hX _ _ hs)) | (with_reducible apply Alt.one))
  | exact Cl.go
  | ((fail_if_success refine Stop.go ?_); first | (with_reducible first | apply And.intro | apply Cut.go | (refine impI ?_; intro _)) | (refine propI ?_; conv => whnf)))
 all_goals exact .mk [] [] _ rfl (.le (.boolT (has_find))) trivial rfl
theorem c43 (l : List ByteArray) (s : ByteArray) (hs : Side (l.length <= 1000)) : Pure (Xc W0 G) 43 [sRow l, .str s] (.bool (hasB l l.length s)) := by
 have hs := hs.get
 refine mut_of' hX (fnI Tryz.f43) rfl ?_
 repeat' (first
  | (refine Ax.go ?_; first | (with_reducible apply Alt.one))
  | exact Cl.go
  | ((fail_if_success refine Stop.go ?_); first | (with_reducible first | apply And.intro | apply Cut.go | (refine impI ?_; intro _)) | (refine propI ?_; conv => whnf)))
 refine ⟨Nat, fun i => ([(0, sRow l), (1, .str s), (5, .int .i64 i)], []), fun i => i <= l.length /\ ∀ j : Nat, j < i -> (fun i => decide (l.getD i bs0 = s)) j = false, fun i => l.length - i, ⟨0, ⟨Nat.zero_le _, fun _ h => by omega⟩, .le ⟨rfl, trivial, rfZ⟩⟩, fun i ⟨hi, h0⟩ => ?_⟩
 repeat' (first
  | (refine Ax.go ?_; first | (with_reducible apply Alt.one))
  | exact Cl.go
  | ((fail_if_success refine Stop.go ?_); first | (with_reducible first | apply And.intro | apply Cut.go | (refine impI ?_; intro _)) | (refine propI ?_; conv => whnf)))
 all_goals first
  | exact .of (Nat.le_of_ble_eq_true rfl)
  | (rename_i h; have h := of_decide_eq_true h; exact .of ⟨by omega, by omega⟩)
  | (rename_i h; have h := of_decide_eq_false h; exact .mk [] [] _ rfl (.le (.boolT (by unfold hasB; rw [any_none (fun j hj => h0 j (by omega))]))) trivial rfl)
  | (rename_i h1 h; have h1 := of_decide_eq_true h1
     simp only [Int.toNat_natCast] at h
     first
      | exact .of ⟨by omega, by omega⟩
      | exact ⟨i + 1, ⟨by omega, all_lt h0 (h)⟩, by show l.length - (i + 1) < l.length - i; omega, .le ⟨rfl, trivial, rfZ⟩⟩
      | (exact .mk [] [] _ rfl (.le (.boolT (by unfold hasB; rw [any_hit (p := (fun i => decide (l.getD i bs0 = s))) (show i < l.length by omega) h]))) trivial rfl))
theorem c85 (l : List ByteArray) (s : ByteArray) (hs : Side (l.length <= 1000)) (hs2 : Side (s.size <= 1000)) : Pure (Xc W0 G) 85 [.str s, sRow l] (.int .i64 (firstS [isOk (nameB s) 4, isOk (!hasB l l.length s) 5])) := by
 refine mut_of' hX (fnI Tryz.f85) rfl ?_
 repeat' (first
  | (refine Ax.go ?_; first | (with_reducible apply callAlt (c132 hX _ hs2)) | (with_reducible apply callAlt (c73 hX _ _)) | (with_reducible apply callAlt (c74 hX _ _ hs)) | (with_reducible apply callAlt (c55_2 hX _ _)) | (with_reducible apply Alt.one))
  | ((with_reducible refine Ar.go ?_); first | exact ⟨le_slc2 rfl rfl, trivial⟩)
  | exact Cl.go
  | ((fail_if_success refine Stop.go ?_); first | (with_reducible first | apply And.intro | apply Cut.go | (refine impI ?_; intro _)) | (refine propI ?_; conv => whnf)))
 all_goals exact .mk [] [] _ rfl (.le (.refl _)) trivial rfl
theorem c104 (n : Int) : Pure (Xc W0 G) 104 [.int .i64 n] (.int .i64 (isOk (inB n 0 100000) 2)) := by
 refine mut_of' hX (fnI Tryz.f104) rfl ?_
 repeat' (first
  | (refine Ax.go ?_; first | (with_reducible apply callAlt (c103 hX _ _ _)) | (with_reducible apply Alt.one))
  | exact Cl.go
  | ((fail_if_success refine Stop.go ?_); first | (with_reducible first | apply And.intro | apply Cut.go | (refine impI ?_; intro _)) | (refine propI ?_; conv => whnf)))
 all_goals (rename_i h; simp only [Bool.not_eq_true', Bool.not_eq_false'] at h; rw [h]; exact .mk [] [] _ rfl (.le (.refl _)) trivial rfl)
theorem c105 (lo hi e : Int) (l : List Int) (he : e ≠ 0) (hn : Side (l.length <= 1000000)) : Pure (Xc W0 G) 105 [iRow l, .int .i64 lo, .int .i64 hi, .int .i64 e] (.int .i64 (riseE lo hi e l)) := by
 have hn := hn.get
 refine mut_of' hX (fnI Tryz.f105) rfl ?_
 repeat' (first
  | (refine Ax.go ?_; first | (with_reducible apply callAlt (c103 hX _ _ _)) | (with_reducible apply Alt.one))
  | exact Cl.go
  | ((fail_if_success refine Stop.go ?_); first | (with_reducible first | apply And.intro | apply Cut.go | (refine impI ?_; intro _)) | (refine propI ?_; conv => whnf)))
 refine ⟨Nat, fun i => ([(0, iRow l), (1, .int .i64 lo), (2, .int .i64 hi), (3, .int .i64 e), (9, .int .i64 i)], []), fun i => i <= l.length /\ ∀ j : Nat, j < i -> riseAt lo hi e l j = 0, fun i => l.length - i, ⟨0, ⟨Nat.zero_le _, fun _ h => by omega⟩, .le ⟨rfl, trivial, rfZ⟩⟩, fun i ⟨hi, h0⟩ => ?_⟩
 repeat' (first
  | (refine Ax.go ?_; first | (with_reducible apply callAlt (c103 hX _ _ _)) | (with_reducible apply Alt.one))
  | exact Cl.go
  | ((fail_if_success refine Stop.go ?_); first | (with_reducible first | apply And.intro | apply Cut.go | (refine impI ?_; intro _)) | (refine propI ?_; conv => whnf)))
 all_goals first
  | exact .of (Nat.le_of_ble_eq_true rfl)
  | (rename_i h; have h := of_decide_eq_true h; exact .of ⟨by omega, by omega⟩)
  | (rename_i h; have h := of_decide_eq_false h; exact .mk [] [] _ rfl (.le (.intI ((rise_none (fun j hj => h0 j (by omega))).symm))) trivial rfl)
  | (rename_i h1 h; have h1 := of_decide_eq_true h1
     simp only [Bool.not_eq_true', Bool.not_eq_false', Int.toNat_natCast] at h
     first
      | (refine Sc.imp fun q => ?_; have q := of_decide_eq_true q; exact ⟨by omega, by omega⟩)
      | exact Sc.of (Nat.le_of_ble_eq_true rfl)
      | (have k := rise_out (e := e) h
         exact .mk [] [] _ rfl (.le (.intI (by rw [rise_hit (by omega) h0 (by rw [k]; exact he), k]))) trivial rfl))
  | (rename_i h1 h h2; have h1 := of_decide_eq_true h1
     simp only [Bool.not_eq_true', Bool.not_eq_false', Int.toNat_natCast] at h h2
     first
      | exact .of ⟨by omega, by omega⟩
      | exact ⟨i + 1, ⟨by omega, all_lt h0 (rise_0 h h2)⟩, by show l.length - (i + 1) < l.length - i; omega, .le ⟨rfl, trivial, rfZ⟩⟩
      | (have k := rise_9 (e := e) h h2; exact .mk [] [] _ rfl (.le (.intI (by rw [rise_hit (by omega) h0 (by rw [k]; decide), k]))) trivial rfl))
end
end Go.Fx
/-
 Rules, supplements, fixed fares: what is wrong with one.
-/
namespace Go.Fx
open Go.Proofs Go.RowKit
theorem both_eq (a b : Bool) : (bif a then b else false) = !(bif !a then true else !b) := by cases a <;> cases b <;> rfl
theorem both_eq2 (a b : Bool) : (bif !a then !b else false) = !(bif a then true else b) := by cases a <;> cases b <;> rfl
theorem five_eq (a b c d e : Bool) : (bif (bif a then b else false) then (bif (bif c then d else false) then e else false) else false) = !(bif (bif (bif (bif !a then true else !b) then true else !c) then true else !d) then true else !e) := by
 cases a <;> cases b <;> cases c <;> cases d <;> cases e <;> rfl
theorem pos_eq (n : Nat) : decide (0 < (n : Int)) = !((n : Int) == 0) := by
 cases n with
 | zero => rfl
 | succ n => rw [decide_eq_true (by omega)]; simp; omega
theorem le_eq (a b : Int) : decide (a <= b) = !decide (b < a) := by by_cases q : b < a <;> simp [q] <;> omega
theorem rule_eq (nz : Int) (r : Rul) : ruleE nz r = firstS [isOk (!(bif !inB r.fr 0 100000 then true else !inB r.tt 0 100000)) 2, isOk (!decide (r.tt < r.fr)) 9, isOk (!(bif (r.zones.length : Int) == 0 then true else (r.days.length : Int) == 0)) 10, riseE 0 (nz - 1) 6 r.zones, riseE 0 7 2 r.days,
  isOk (!(bif (bif (bif (bif !inB r.bg 0 86399 then true else !inB r.en 0 86400) then true else !inB r.st 0 100000) then true else !inB r.me 0 1000000) then true else !inB r.se 0 1000000)) 2] := by
 unfold ruleE
 rw [both_eq (inB r.fr 0 100000), le_eq, pos_eq, pos_eq, both_eq2, five_eq]
theorem le_slc6 {F : Nat -> Nat -> AV} {a b c d e f : Int} (h0 : F 0 0 = .int .i64 a) (h1 : F 1 0 = .int .i64 b) (h2 : F 2 0 = .int .i64 c) (h3 : F 3 0 = .int .i64 d) (h4 : F 4 0 = .int .i64 e) (h5 : F 5 0 = .int .i64 f) : Le (.slc 1 6 F) (.slc 1 [a, b, c, d, e, f].length (fun i _ => .int .i64 ([a, b, c, d, e, f].getD i 0))) :=
 .slc fun i j hi hj => by
  obtain rfl : j = 0 := by omega
  rcases (show i = 0 \/ i = 1 \/ i = 2 \/ i = 3 \/ i = 4 \/ i = 5 by omega) with rfl | rfl | rfl | rfl | rfl | rfl
  ·rw [h0]; exact .refl _
  ·rw [h1]; exact .refl _
  ·rw [h2]; exact .refl _
  ·rw [h3]; exact .refl _
  ·rw [h4]; exact .refl _
  ·rw [h5]; exact .refl _
section
variable {W0 : World} {G : Nat -> Option AV} (hX : (Xc W0 G).Good)
include hX
theorem c93 (t : Trf) (r : Rul) (hs : Side (t.zones.length <= 1000 /\ r.zones.length <= 1000 /\ r.days.length <= 1000)) : Pure (Xc W0 G) 93 [trfA t, rulA r] (.int .i64 (ruleE t.zones.length r)) := by
 have hs := hs.get
 refine mut_of' hX (fnI Tryz.f93) rfl ?_
 repeat' (first
  | (refine Ax.go ?_; first | (with_reducible apply callAlt (c143 hX _)) | (with_reducible apply callAlt (c83 hX _ _ _)) | (with_reducible apply callAlt (c84 hX _)) | (with_reducible apply callAlt (c89 hX _)) | (with_reducible apply callAlt (c73 hX _ _)) | ((with_reducible apply callAlt (c88k hX r.days 2 (by decide) ?_)); case hl => (first | exact AllLe.refl _ | ((repeat' (first | exact trivial | apply Le.aggs | apply Le.tups | apply Le.fns | exact Le.refl _ | refine ⟨?_, ?_⟩)); done))) | (with_reducible (apply altM (ks := [0]) (m := 0); apply And.intro; apply Sc.of; apply (c88z hX t r.zones 6 (by decide) (Side.mk hs.1)))) | (with_reducible apply callAlt (c55_6 hX _ _ _ _ _ _)) | (with_reducible apply Alt.one))
  | ((with_reducible refine Ar.go ?_); first | exact ⟨le_slc6 rfl rfl rfl rfl rfl rfl, trivial⟩)
  | exact Cl.go
  | ((fail_if_success refine Stop.go ?_); first | (with_reducible first | apply And.intro | apply Cut.go | (refine impI ?_; intro _)) | (refine propI ?_; conv => whnf)))
 all_goals try exact nbZ
 all_goals first
  | exact Side.mk (by omega)
  | (unfold ruleE; exact .mk [] [] _ rfl (.le (.refl _)) trivial rfl)
theorem c106 (t : Trf) (r : Rul) (hs : Side (t.zones.length <= 1000 /\ r.zones.length <= 1000 /\ r.days.length <= 1000)) : Pure (Xc W0 G) 106 [trfA t, rulA r] (.int .i64 (ruleE t.zones.length r)) := by
 have hs := hs.get
 refine mut_of' hX (fnI Tryz.f106) rfl ?_
 repeat' (first
  | (refine Ax.go ?_; first | (with_reducible apply callAlt (c103 hX _ _ _)) | ((with_reducible apply callAlt (c105 hX 0 (t.zones.length - 1) 6 r.zones (by decide) ?_)); case hl => (first | exact AllLe.refl _ | ((repeat' (first | exact trivial | apply Le.aggs | apply Le.tups | apply Le.fns | exact Le.refl _ | refine ⟨?_, ?_⟩)); done))) | ((with_reducible apply callAlt (c105 hX 0 7 2 r.days (by decide) ?_)); case hl => (first | exact AllLe.refl _ | ((repeat' (first | exact trivial | apply Le.aggs | apply Le.tups | apply Le.fns | exact Le.refl _ | refine ⟨?_, ?_⟩)); done))) | (with_reducible apply Alt.one))
  | exact Cl.go
  | ((fail_if_success refine Stop.go ?_); first | (with_reducible first | apply And.intro | apply Cut.go | (refine impI ?_; intro _)) | (refine propI ?_; conv => whnf)))
 all_goals try exact nbZ
 all_goals try (exact Side.mk (by omega))
 all_goals try (exact .of ⟨by omega, by omega⟩)
 all_goals (refine .mk [] [] _ rfl (.le (.intI ?_)) trivial rfl)
 all_goals (rw [rule_eq])
 all_goals (clear hs)
 all_goals (generalize (bif !inB r.fr 0 100000 then true else !inB r.tt 0 100000) = g1 at *; generalize decide (r.tt < r.fr) = g2 at *; generalize (bif (r.zones.length : Int) == 0 then true else (r.days.length : Int) == 0) = g3 at *
            generalize riseE 0 (t.zones.length - 1) 6 r.zones = g4 at *; generalize riseE 0 7 2 r.days = g5 at *
            generalize (bif (bif (bif (bif !inB r.bg 0 86399 then true else !inB r.en 0 86400) then true else !inB r.st 0 100000) then true else !inB r.me 0 1000000) then true else !inB r.se 0 1000000) = g6 at *)
 all_goals (simp_all [firstS, isOk]; done)
end
end Go.Fx
/-
 The parts of a tariff, one by one.
-/
namespace Go.Fx
open Go.Proofs Go.RowKit
theorem le_preI {es n m : Nat} {f : Nat -> Nat -> AV} {e : Nat -> Nat -> AV} (hm : m = n) (hf : ∀ i j, i < m -> f i j = e i j) : Le (.slc es m f) (.slc es n e) := .slcN hm fun i j hi _ => by rw [hf i j hi]; exact .refl _
theorem le_h0 {m : Nat} {f : Nat -> Nat -> AV} {a : Int} (hm : m = 1) (h : f 0 0 = .int .i64 a) : Le (.slc 1 m f) (iRow [a]) := .slcN hm fun i j hi hj => by
 obtain rfl : i = 0 := by omega
 obtain rfl : j = 0 := by omega
 rw [h]; exact .refl _
theorem le_h1 {m : Nat} {f : Nat -> Nat -> AV} {a b : Int} (hm : m = 2) (h : f 0 0 = .int .i64 a) (h1 : f 1 0 = .int .i64 b) : Le (.slc 1 m f) (iRow [a, b]) := .slcN hm fun i j hi hj => by
 obtain rfl : j = 0 := by omega
 rcases (show i = 0 \/ i = 1 by omega) with rfl | rfl
 ·rw [h]; exact .refl _
 ·rw [h1]; exact .refl _
theorem hasB_nil {s : ByteArray} : hasB ([] : List ByteArray) ([] : List ByteArray).length s = false := by unfold hasB; rfl
theorem take_of {α : Type} {l : List α} {n i : Nat} {d : α} (h : i < n) : (l.take n).getD i d = l.getD i d := by
 rw [List.getD_eq_getElem?_getD, List.getD_eq_getElem?_getD, List.getElem?_take_of_lt h]
theorem any_find {p : Nat -> Bool} {n : Nat} : decide (0 <= findI p n) = (List.range n).any p := findI_ge
theorem three_eq (b x : Bool) (e : Int) : firstS [firstS [isOk b 4, isOk (!false) 5], isOk (!x) 5, e] = bif b then (bif x then 5 else e) else 4 := by by_cases h : e = 0 <;> cases b <;> cases x <;> simp [firstS, isOk, h]
theorem fixed_eq (b a x : Bool) : firstS [isOk b 6, isOk a 2, isOk (!x) 5] = bif b then (bif a then (bif x then 5 else 0) else 2) else 6 := by cases b <;> cases a <;> cases x <;> rfl
theorem two_eq (b x : Bool) : firstS [isOk b 4, isOk (!x) 5] = bif b then (bif x then 5 else 0) else 4 := by cases b <;> cases x <;> rfl
theorem hasB_take {l : List ByteArray} {i : Nat} {s : ByteArray} (h : i <= l.length) : hasB (l.take i) (l.take i).length s = hasB l i s := by
 unfold hasB
 rw [List.length_take, Nat.min_eq_left h]
 rw [Bool.eq_iff_iff, List.any_eq_true, List.any_eq_true]
 constructor
 ·rintro ⟨x, hx, hp⟩
  refine ⟨x, hx, ?_⟩
  rwa [take_of (List.mem_range.1 hx)] at hp
 ·rintro ⟨x, hx, hp⟩
  refine ⟨x, hx, ?_⟩
  rwa [take_of (List.mem_range.1 hx)]
theorem hol_0 {l : List Int} : riseE 0 100000 2 [l.getD 0 0] = riseAt 0 100000 2 l 0 := by
 have e0 : riseAt 0 100000 2 [l.getD 0 0] 0 = riseAt 0 100000 2 l 0 := by unfold riseAt; rfl
 by_cases hz : riseAt 0 100000 2 l 0 = 0
 ·rw [rise_none (fun j hj => ?_), hz]
  obtain rfl : j = 0 := by simp at hj; omega
  rw [e0]; exact hz
 ·rw [rise_hit (i := 0) (by simp) (fun j hj => absurd hj (Nat.not_lt_zero _)) (by rw [e0]; exact hz), e0]
theorem hol_1 {l : List Int} {i : Nat} (h : riseAt 0 100000 2 l i = 0) : riseE 0 100000 2 [l.getD i 0, l.getD (i + 1) 0] = riseAt 0 100000 2 l (i + 1) := by
 have h1 : inB (l.getD i 0) 0 100000 = true := by
  cases q : inB (l.getD i 0) 0 100000 with
  | true => rfl
  | false => rw [rise_out q] at h; cases h
 have e0 : riseAt 0 100000 2 [l.getD i 0, l.getD (i + 1) 0] 0 = 0 := by
  unfold riseAt
  show (bif inB (l.getD i 0) 0 100000 then _ else _) = _
  rw [h1]; rfl
 have e1 : riseAt 0 100000 2 [l.getD i 0, l.getD (i + 1) 0] 1 = riseAt 0 100000 2 l (i + 1) := by
  unfold riseAt
  show (bif inB (l.getD (i + 1) 0) 0 100000 then (bif decide (0 < 1) then (bif decide (l.getD (i + 1) 0 <= l.getD i 0) then 9 else 0) else 0) else 2 : Int) = _
  rw [decide_eq_true (show 0 < i + 1 by omega)]; rfl
 by_cases hz : riseAt 0 100000 2 l (i + 1) = 0
 ·rw [rise_none (fun j hj => ?_), hz]
  rcases (show j = 0 \/ j = 1 by simp at hj; omega) with rfl | rfl
  ·exact e0
  ·rw [e1]; exact hz
 ·rw [rise_hit (i := 1) (by simp) (fun j hj => ?_) (by rw [e1]; exact hz), e1]
  obtain rfl : j = 0 := by omega
  exact e0
section
variable {W0 : World} {G : Nat -> Option AV} (hX : (Xc W0 G).Good)
include hX
theorem c92 (t : Trf) (r : Rul) (k : Nat) (hk : Side (k < t.rules.length)) : Mut (Xc W0 G) 92 [.agg 10 (tbl (rulC r)), .ptr 0 0, .ptr 1 0] [.box (trfC t), .box [.int .i64 k]] (.bool (decide (r.name = (t.rules.getD k rul0).name))) [.box (trfC t), .box [.int .i64 k]] := by
 refine mut_of' hX (fnI Tryz.f92) rfl ?_
 repeat' (first
  | (refine Ax.go ?_; first | (with_reducible apply Alt.one))
  | exact Cl.go
  | ((fail_if_success refine Stop.go ?_); first | (with_reducible first | apply And.intro | apply Cut.go | (refine impI ?_; intro _)) | (refine propI ?_; conv => whnf)))
 all_goals try exact nbZ
 all_goals first
  | exact .mk [] [] _ rfl (.le (.boolT rfl)) ⟨.le (.refl _), .le (.refl _), trivial⟩ rfl
  | (have := hk.get; exact .of ⟨by omega, by omega⟩)
theorem c142 (t : Trf) (m : Nat) (g : Nat -> Rul) (hm : Side (m <= 1000)) (k : Nat) (hk : Side (k < t.rules.length)) : Mut (Xc W0 G) 142 [.slc 10 m (fun i j => tbl (rulC (g i)) j), .fn 92 2 (tbl [.ptr 0 0, .ptr 1 0])] [.box (trfC t), .box [.int .i64 k]] (.int .i64 (findI (fun i => decide ((g i).name = (t.rules.getD k rul0).name)) m)) [.box (trfC t), .box [.int .i64 k]] := by
 have hm := hm.get
 refine mut_of' hX (fnI Tryz.f142) rfl ?_
 repeat' (first
  | (refine Ax.go ?_; first | (with_reducible apply Alt.one))
  | exact Cl.go
  | ((fail_if_success refine Stop.go ?_); first | (with_reducible first | apply And.intro | apply Cut.go | (refine impI ?_; intro _)) | (refine propI ?_; conv => whnf)))
 refine ⟨Nat, fun i => ([(0, .slc 10 m (fun i j => tbl (rulC (g i)) j)), (1, .fn 92 2 (tbl [.ptr 0 0, .ptr 1 0])), (7, .int .i64 m), (8, .int .i64 i)], [.box (trfC t), .box [.int .i64 k]]), fun i => i <= m /\ ∀ j : Nat, j < i -> (fun i => decide ((g i).name = (t.rules.getD k rul0).name)) j = false, fun i => m - i, ⟨0, ⟨Nat.zero_le _, fun _ h => by omega⟩, .le ⟨rfl, ⟨.refl _, .refl _, trivial⟩, rfZ⟩⟩, fun i ⟨hi, h0⟩ => ?_⟩
 repeat' (first
  | (refine Ax.go ?_; first | (with_reducible (apply altM (ks := [0, 1]) (m := 0); apply And.intro; apply Sc.of; apply (c92 hX t _ k hk))) | (with_reducible apply Alt.one))
  | exact Cl.go
  | ((fail_if_success refine Stop.go ?_); first | (with_reducible first | apply And.intro | apply Cut.go | (refine impI ?_; intro _)) | (refine propI ?_; conv => whnf)))
 all_goals first
  | exact .of (Nat.le_of_ble_eq_true rfl)
  | (rename_i h; have h := of_decide_eq_true h; exact .of ⟨by omega, by omega⟩)
  | (rename_i h; have h := of_decide_eq_false h; exact .mk [] [] _ rfl (.le (.intI (findI_none (fun j hj => h0 j (by omega))).symm)) ⟨.le (.refl _), .le (.refl _), trivial⟩ rfl)
  | (rename_i h1 h; have h1 := of_decide_eq_true h1
     simp only [Int.toNat_natCast] at h
     first
      | exact .of ⟨by omega, by omega⟩
      | exact ⟨i + 1, ⟨by omega, all_lt h0 h⟩, by show m - (i + 1) < m - i; omega, .le ⟨rfl, ⟨.refl _, .refl _, trivial⟩, rfZ⟩⟩
      | (exact .mk [] [] _ rfl (.le (.intI (findI_hit (by omega) h0 h).symm)) ⟨.le (.refl _), .le (.refl _), trivial⟩ rfl))
theorem c91 (t : Trf) (m : Nat) (g : Nat -> Rul) (hm : Side (m <= 1000)) (k : Nat) (hk : Side (k < t.rules.length)) : Mut (Xc W0 G) 91 [.slc 10 m (fun i j => tbl (rulC (g i)) j), .fn 92 2 (tbl [.ptr 0 0, .ptr 1 0])] [.box (trfC t), .box [.int .i64 k]] (.bool ((List.range m).any (fun i => decide ((g i).name = (t.rules.getD k rul0).name)))) [.box (trfC t), .box [.int .i64 k]] := by
 refine mut_of' hX (fnI Tryz.f91) rfl ?_
 repeat' (first
  | (refine Ax.go ?_; first | (with_reducible (apply altM (ks := [0, 1]) (m := 0); apply And.intro; apply Sc.of; apply (c142 hX t m g hm k hk))) | (with_reducible apply Alt.one))
  | exact Cl.go
  | ((fail_if_success refine Stop.go ?_); first | (with_reducible first | apply And.intro | apply Cut.go | (refine impI ?_; intro _)) | (refine propI ?_; conv => whnf)))
 all_goals exact .mk [] [] _ rfl (.le (.boolT any_find)) ⟨.le (.refl _), .le (.refl _), trivial⟩ rfl
theorem c96 (t : Trf) (r : Ext) (k : Nat) (hk : Side (k < t.extras.length)) : Mut (Xc W0 G) 96 [.agg 2 (tbl (extC r)), .ptr 0 0, .ptr 1 0] [.box (trfC t), .box [.int .i64 k]] (.bool (decide (r.name = (t.extras.getD k ext0).name))) [.box (trfC t), .box [.int .i64 k]] := by
 refine mut_of' hX (fnI Tryz.f96) rfl ?_
 repeat' (first
  | (refine Ax.go ?_; first | (with_reducible apply Alt.one))
  | exact Cl.go
  | ((fail_if_success refine Stop.go ?_); first | (with_reducible first | apply And.intro | apply Cut.go | (refine impI ?_; intro _)) | (refine propI ?_; conv => whnf)))
 all_goals try exact nbZ
 all_goals first
  | exact .mk [] [] _ rfl (.le (.boolT rfl)) ⟨.le (.refl _), .le (.refl _), trivial⟩ rfl
  | (have := hk.get; exact .of ⟨by omega, by omega⟩)
theorem c146 (t : Trf) (m : Nat) (g : Nat -> Ext) (hm : Side (m <= 1000)) (k : Nat) (hk : Side (k < t.extras.length)) : Mut (Xc W0 G) 146 [.slc 2 m (fun i j => tbl (extC (g i)) j), .fn 96 2 (tbl [.ptr 0 0, .ptr 1 0])] [.box (trfC t), .box [.int .i64 k]] (.int .i64 (findI (fun i => decide ((g i).name = (t.extras.getD k ext0).name)) m)) [.box (trfC t), .box [.int .i64 k]] := by
 have hm := hm.get
 refine mut_of' hX (fnI Tryz.f146) rfl ?_
 repeat' (first
  | (refine Ax.go ?_; first | (with_reducible apply Alt.one))
  | exact Cl.go
  | ((fail_if_success refine Stop.go ?_); first | (with_reducible first | apply And.intro | apply Cut.go | (refine impI ?_; intro _)) | (refine propI ?_; conv => whnf)))
 refine ⟨Nat, fun i => ([(0, .slc 2 m (fun i j => tbl (extC (g i)) j)), (1, .fn 96 2 (tbl [.ptr 0 0, .ptr 1 0])), (7, .int .i64 m), (8, .int .i64 i)], [.box (trfC t), .box [.int .i64 k]]), fun i => i <= m /\ ∀ j : Nat, j < i -> (fun i => decide ((g i).name = (t.extras.getD k ext0).name)) j = false, fun i => m - i, ⟨0, ⟨Nat.zero_le _, fun _ h => by omega⟩, .le ⟨rfl, ⟨.refl _, .refl _, trivial⟩, rfZ⟩⟩, fun i ⟨hi, h0⟩ => ?_⟩
 repeat' (first
  | (refine Ax.go ?_; first | (with_reducible (apply altM (ks := [0, 1]) (m := 0); apply And.intro; apply Sc.of; apply (c96 hX t _ k hk))) | (with_reducible apply Alt.one))
  | exact Cl.go
  | ((fail_if_success refine Stop.go ?_); first | (with_reducible first | apply And.intro | apply Cut.go | (refine impI ?_; intro _)) | (refine propI ?_; conv => whnf)))
 all_goals first
  | exact .of (Nat.le_of_ble_eq_true rfl)
  | (rename_i h; have h := of_decide_eq_true h; exact .of ⟨by omega, by omega⟩)
  | (rename_i h; have h := of_decide_eq_false h; exact .mk [] [] _ rfl (.le (.intI (findI_none (fun j hj => h0 j (by omega))).symm)) ⟨.le (.refl _), .le (.refl _), trivial⟩ rfl)
  | (rename_i h1 h; have h1 := of_decide_eq_true h1
     simp only [Int.toNat_natCast] at h
     first
      | exact .of ⟨by omega, by omega⟩
      | exact ⟨i + 1, ⟨by omega, all_lt h0 h⟩, by show m - (i + 1) < m - i; omega, .le ⟨rfl, ⟨.refl _, .refl _, trivial⟩, rfZ⟩⟩
      | (exact .mk [] [] _ rfl (.le (.intI (findI_hit (by omega) h0 h).symm)) ⟨.le (.refl _), .le (.refl _), trivial⟩ rfl))
theorem c95 (t : Trf) (m : Nat) (g : Nat -> Ext) (hm : Side (m <= 1000)) (k : Nat) (hk : Side (k < t.extras.length)) : Mut (Xc W0 G) 95 [.slc 2 m (fun i j => tbl (extC (g i)) j), .fn 96 2 (tbl [.ptr 0 0, .ptr 1 0])] [.box (trfC t), .box [.int .i64 k]] (.bool ((List.range m).any (fun i => decide ((g i).name = (t.extras.getD k ext0).name)))) [.box (trfC t), .box [.int .i64 k]] := by
 refine mut_of' hX (fnI Tryz.f95) rfl ?_
 repeat' (first
  | (refine Ax.go ?_; first | (with_reducible (apply altM (ks := [0, 1]) (m := 0); apply And.intro; apply Sc.of; apply (c146 hX t m g hm k hk))) | (with_reducible apply Alt.one))
  | exact Cl.go
  | ((fail_if_success refine Stop.go ?_); first | (with_reducible first | apply And.intro | apply Cut.go | (refine impI ?_; intro _)) | (refine propI ?_; conv => whnf)))
 all_goals exact .mk [] [] _ rfl (.le (.boolT any_find)) ⟨.le (.refl _), .le (.refl _), trivial⟩ rfl
theorem c99 (y x : Fxd) : Mut (Xc W0 G) 99 [fxdA x, .ptr 0 0] [.box (fxdC y)] (.bool (bif x.fr == y.fr then x.tt == y.tt else false)) [.box (fxdC y)] := by
 refine mut_of' hX (fnI Tryz.f99) rfl ?_
 repeat' (first
  | (refine Ax.go ?_; first | (with_reducible apply Alt.one))
  | exact Cl.go
  | ((fail_if_success refine Stop.go ?_); first | (with_reducible first | apply And.intro | apply Cut.go | (refine impI ?_; intro _)) | (refine propI ?_; conv => whnf)))
 all_goals try exact nbZ
 all_goals exact .mk [] [] _ rfl (.le (.boolT rfl)) ⟨.le (.refl _), trivial⟩ rfl
theorem c147 (y : Fxd) (m : Nat) (g : Nat -> Fxd) (hm : Side (m <= 1000)) : Mut (Xc W0 G) 147 [.slc 3 m (fun i j => tbl (fxdC (g i)) j), .fn 99 1 (tbl [.ptr 0 0])] [.box (fxdC y)] (.int .i64 (findI (fun i => bif (g i).fr == y.fr then (g i).tt == y.tt else false) m)) [.box (fxdC y)] := by
 have hm := hm.get
 refine mut_of' hX (fnI Tryz.f147) rfl ?_
 repeat' (first
  | (refine Ax.go ?_; first | (with_reducible apply Alt.one))
  | exact Cl.go
  | ((fail_if_success refine Stop.go ?_); first | (with_reducible first | apply And.intro | apply Cut.go | (refine impI ?_; intro _)) | (refine propI ?_; conv => whnf)))
 refine ⟨Nat, fun i => ([(0, .slc 3 m (fun i j => tbl (fxdC (g i)) j)), (1, .fn 99 1 (tbl [.ptr 0 0])), (7, .int .i64 m), (8, .int .i64 i)], [.box (fxdC y)]), fun i => i <= m /\ ∀ j : Nat, j < i -> (fun i => bif (g i).fr == y.fr then (g i).tt == y.tt else false) j = false, fun i => m - i, ⟨0, ⟨Nat.zero_le _, fun _ h => by omega⟩, .le ⟨rfl, ⟨.refl _, trivial⟩, rfZ⟩⟩, fun i ⟨hi, h0⟩ => ?_⟩
 repeat' (first
  | (refine Ax.go ?_; first | (with_reducible (apply altM (ks := [0]) (m := 0); apply And.intro; apply Sc.of; apply (c99 hX y))) | (with_reducible apply Alt.one))
  | exact Cl.go
  | ((fail_if_success refine Stop.go ?_); first | (with_reducible first | apply And.intro | apply Cut.go | (refine impI ?_; intro _)) | (refine propI ?_; conv => whnf)))
 all_goals first
  | exact .of (Nat.le_of_ble_eq_true rfl)
  | (rename_i h; have h := of_decide_eq_true h; exact .of ⟨by omega, by omega⟩)
  | (rename_i h; have h := of_decide_eq_false h; exact .mk [] [] _ rfl (.le (.intI (findI_none (fun j hj => h0 j (by omega))).symm)) ⟨.le (.refl _), trivial⟩ rfl)
  | (rename_i h1 h; have h1 := of_decide_eq_true h1
     simp only [Int.toNat_natCast] at h
     first
      | exact .of ⟨by omega, by omega⟩
      | exact ⟨i + 1, ⟨by omega, all_lt h0 h⟩, by show m - (i + 1) < m - i; omega, .le ⟨rfl, ⟨.refl _, trivial⟩, rfZ⟩⟩
      | (exact .mk [] [] _ rfl (.le (.intI (findI_hit (by omega) h0 h).symm)) ⟨.le (.refl _), trivial⟩ rfl))
theorem c98 (y : Fxd) (m : Nat) (g : Nat -> Fxd) (hm : Side (m <= 1000)) : Mut (Xc W0 G) 98 [.slc 3 m (fun i j => tbl (fxdC (g i)) j), .fn 99 1 (tbl [.ptr 0 0])] [.box (fxdC y)] (.bool ((List.range m).any (fun i => bif (g i).fr == y.fr then (g i).tt == y.tt else false))) [.box (fxdC y)] := by
 refine mut_of' hX (fnI Tryz.f98) rfl ?_
 repeat' (first
  | (refine Ax.go ?_; first | (with_reducible (apply altM (ks := [0]) (m := 0); apply And.intro; apply Sc.of; apply (c147 hX y m g hm))) | (with_reducible apply Alt.one))
  | exact Cl.go
  | ((fail_if_success refine Stop.go ?_); first | (with_reducible first | apply And.intro | apply Cut.go | (refine impI ?_; intro _)) | (refine propI ?_; conv => whnf)))
 all_goals exact .mk [] [] _ rfl (.le (.boolT any_find)) ⟨.le (.refl _), trivial⟩ rfl
theorem c86 (t : Trf) (hs : Side (TOk t)) (k : Nat) (hk : Side (k < t.zones.length)) : Mut (Xc W0 G) 86 [.int .i64 k, .ptr 0 0] [.box (trfC t)] (.int .i64 (zoneE t k)) [.box (trfC t)] := by
 have ok := hs.get
 have hk' := hk.get
 refine mut_of' hX (fnI Tryz.f86) rfl ?_
 repeat' (first
  | (refine Ax.go ?_; first | (with_reducible apply callAlt (c85 hX (t.zones.take k) (t.zones.getD k bs0) (Side.mk (by rw [List.length_take]; have := ok.zones; omega)) (Side.mk (ok.zone k)))) | (with_reducible apply Alt.one))
  | ((with_reducible refine Ar.go ?_); first | exact ⟨.refl _, le_preI (es := 1) (n := (t.zones.take k).length) (by rw [List.length_take]; simp only [Int.toNat_natCast, Int.toNat_zero]; omega) (fun i j hi => by show AV.str (t.zones.getD (0 + i) bs0) = AV.str ((t.zones.take k).getD i bs0); rw [Nat.zero_add, take_of (by simp only [Int.toNat_natCast, Int.toNat_zero] at hi; omega)]), trivial⟩)
  | exact Cl.go
  | ((fail_if_success refine Stop.go ?_); first | (with_reducible first | apply And.intro | apply Cut.go | (refine impI ?_; intro _)) | (refine propI ?_; conv => whnf)))
 all_goals try exact nbZ
 all_goals first
  | exact .of ⟨by omega, by omega⟩
  | exact .of ⟨by omega, by omega, by omega⟩
  | (exact .mk [] [] _ rfl (.le (.intI (by unfold zoneE; rw [two_eq, hasB_take (by omega)]))) ⟨.le (.refl _), trivial⟩ rfl)
theorem c87 (t : Trf) (hs : Side (TOk t)) (k : Nat) (hk : Side (k < t.hol.length)) (h0 : ∀ j, j < k -> holE t j = 0) : Mut (Xc W0 G) 87 [.int .i64 k, .ptr 0 0] [.box (trfC t)] (.int .i64 (holE t k)) [.box (trfC t)] := by
 have ok := hs.get
 have hk' := hk.get
 have ok2 := ok.hol
 cases k with
 | zero =>
  refine mut_of' hX (fnI Tryz.f87) rfl ?_
  repeat' (first
   | (refine Ax.go ?_; first | (with_reducible apply callAlt (c88d hX [t.hol.getD 0 0] 2 (by decide) ?_)) | (with_reducible apply Alt.one))
   | ((with_reducible refine Ar.go ?_); first | exact ⟨le_h0 rfl rfl, .refl _, .refl _, trivial⟩)
   | exact Cl.go
   | ((fail_if_success refine Stop.go ?_); first | (with_reducible first | apply And.intro | apply Cut.go | (refine impI ?_; intro _)) | (refine propI ?_; conv => whnf)))
  all_goals first
   | exact .of (Nat.le_of_ble_eq_true rfl)
   | exact .of ⟨by decide, by decide⟩
   | exact .of ⟨by decide, by decide, by omega⟩
   | exact Side.mk (by simp)
   | (exact .mk [] [] _ rfl (.le (.intI (by unfold holE; exact hol_0))) ⟨.le (.refl _), trivial⟩ rfl)
 | succ k =>
  refine mut_of' hX (fnI Tryz.f87) rfl ?_
  repeat' (first
   | (refine Ax.go ?_; first | (with_reducible apply callAlt (c88d hX [t.hol.getD k 0, t.hol.getD (k + 1) 0] 2 (by decide) ?_)) | (with_reducible apply Alt.one))
   | ((with_reducible refine Ar.go ?_); first | exact ⟨le_h1 (by simp; omega) (by simp) (by simp), .refl _, .refl _, trivial⟩)
   | exact Cl.go
   | ((fail_if_success refine Stop.go ?_); first | (with_reducible first | apply And.intro | apply Cut.go | (refine impI ?_; intro _)) | (refine propI ?_; conv => whnf)))
  all_goals first
   | exact .of (Nat.le_of_ble_eq_true rfl)
   | exact .of ⟨by omega, by omega⟩
   | exact .of ⟨by omega, by omega, by omega⟩
   | exact Side.mk (by simp)
   | (have hz := h0 k (by omega)
      unfold holE at hz
      exact .mk [] [] _ rfl (.le (.intI (by unfold holE; exact hol_1 hz))) ⟨.le (.refl _), trivial⟩ rfl)
theorem c90 (t : Trf) (hs : Side (TOk t)) (k : Nat) (hk : Side (k < t.rules.length)) : Mut (Xc W0 G) 90 [.int .i64 k, .ptr 0 0] [.box (trfC t)] (.int .i64 (ruliE t k)) [.box (trfC t)] := by
 have ok := hs.get
 have hk' := hk.get
 have ok2 := ok.rules
 have ok3 := ok.zones
 have ok4 := ok.rzones k
 have ok5 := ok.rdays k
 refine mut_of' hX (fnI Tryz.f90) rfl ?_
 repeat' (first
  | (refine Ax.go ?_; first | (with_reducible (apply altM (ks := [0, 1]) (m := 0); apply And.intro; apply Sc.of; apply (c91 hX t k (fun i => t.rules.getD i rul0) (Side.mk (by omega)) k hk))) | (with_reducible apply callAlt (c85 hX [] (t.rules.getD k rul0).name (Side.mk (by decide)) (Side.mk (ok.rname k)))) | (with_reducible apply callAlt (c73 hX _ _)) | (with_reducible apply callAlt (c93 hX t (t.rules.getD k rul0) (Side.mk ⟨by omega, by omega, by omega⟩))) | (with_reducible apply callAlt (c55_3 hX _ _ _)) | (with_reducible apply Alt.one))
  | ((with_reducible refine Ar.go ?_); first | exact ⟨.refl _, .slc0 _ _, trivial⟩ | exact ⟨le_slc3 rfl rfl rfl, trivial⟩ | exact ⟨le_slc2 rfl rfl, trivial⟩)
  | ((with_reducible refine An.go ?_); first | exact ⟨le_preI (es := 10) (n := k) (by simp) (fun i j hi => by show tbl (rulC (t.rules.getD (0 + i) rul0)) j = tbl (rulC (t.rules.getD i rul0)) j; rw [Nat.zero_add]), .fns ⟨⟨trivial, .refl _⟩, .refl _⟩, trivial⟩)
  | exact Cl.go
  | ((fail_if_success refine Stop.go ?_); first | (with_reducible first | apply And.intro | apply Cut.go | (refine impI ?_; intro _)) | (refine propI ?_; conv => whnf)))
 all_goals try exact nbZ
 all_goals first
  | exact .of ⟨by omega, by omega⟩
  | exact .of ⟨by omega, by omega, by omega⟩
  | exact Side.mk (by first | omega | exact ⟨by omega, by omega, by omega⟩)
  | (exact .mk [] [] _ rfl (.le (.intI (by unfold ruliE; rw [hasB_nil, three_eq]))) ⟨.le (.refl _), trivial⟩ rfl)
theorem c94 (t : Trf) (hs : Side (TOk t)) (k : Nat) (hk : Side (k < t.extras.length)) : Mut (Xc W0 G) 94 [.int .i64 k, .ptr 0 0] [.box (trfC t)] (.int .i64 (extE t k)) [.box (trfC t)] := by
 have ok := hs.get
 have hk' := hk.get
 have ok2 := ok.extras
 have ok3 := ok.zones
 have ok4 := ok.rzones k
 have ok5 := ok.rdays k
 refine mut_of' hX (fnI Tryz.f94) rfl ?_
 repeat' (first
  | (refine Ax.go ?_; first | (with_reducible (apply altM (ks := [0, 1]) (m := 0); apply And.intro; apply Sc.of; apply (c95 hX t k (fun i => t.extras.getD i ext0) (Side.mk (by omega)) k hk))) | (with_reducible apply callAlt (c85 hX [] (t.extras.getD k ext0).name (Side.mk (by decide)) (Side.mk (ok.ename k)))) | (with_reducible apply callAlt (c73 hX _ _)) | (with_reducible apply callAlt (c84 hX _)) | (with_reducible apply callAlt (c55_3 hX _ _ _)) | (with_reducible apply Alt.one))
  | ((with_reducible refine Ar.go ?_); first | exact ⟨.refl _, .slc0 _ _, trivial⟩ | exact ⟨le_slc3 rfl rfl rfl, trivial⟩ | exact ⟨le_slc2 rfl rfl, trivial⟩)
  | ((with_reducible refine An.go ?_); first | exact ⟨le_preI (es := 2) (n := k) (by simp) (fun i j hi => by show tbl (extC (t.extras.getD (0 + i) ext0)) j = tbl (extC (t.extras.getD i ext0)) j; rw [Nat.zero_add]), .fns ⟨⟨trivial, .refl _⟩, .refl _⟩, trivial⟩)
  | exact Cl.go
  | ((fail_if_success refine Stop.go ?_); first | (with_reducible first | apply And.intro | apply Cut.go | (refine impI ?_; intro _)) | (refine propI ?_; conv => whnf)))
 all_goals try exact nbZ
 all_goals first
  | exact .of ⟨by omega, by omega⟩
  | exact .of ⟨by omega, by omega, by omega⟩
  | exact Side.mk (by first | omega | exact ⟨by omega, by omega, by omega⟩)
  | (exact .mk [] [] _ rfl (.le (.intI (by unfold extE; rw [hasB_nil, three_eq]; rfl))) ⟨.le (.refl _), trivial⟩ rfl)
theorem c97 (t : Trf) (hs : Side (TOk t)) (k : Nat) (hk : Side (k < t.fixed.length)) : Mut (Xc W0 G) 97 [.int .i64 k, .ptr 0 0] [.box (trfC t)] (.int .i64 (fxdE t k)) [.box (trfC t)] := by
 have ok := hs.get
 have hk' := hk.get
 have ok2 := ok.fixed
 have ok3 := ok.zones
 refine mut_of' hX (fnI Tryz.f97) rfl ?_
 repeat' (first
  | (refine Ax.go ?_; first | (with_reducible (apply altM (ks := [1]) (m := 0); apply And.intro; apply Sc.of; apply (c98 hX (t.fixed.getD k fxd0) k (fun i => t.fixed.getD i fxd0) (Side.mk (by omega))))) | (with_reducible apply callAlt (c100 hX t _ (Side.mk ok3))) | (with_reducible apply callAlt (c73 hX _ _)) | (with_reducible apply callAlt (c84 hX _)) | (with_reducible apply callAlt (c55_3 hX _ _ _)) | (with_reducible apply Alt.one))
  | ((with_reducible refine Ar.go ?_); first | exact ⟨le_slc3 rfl rfl rfl, trivial⟩)
  | ((with_reducible refine An.go ?_); first | exact ⟨le_preI (es := 3) (n := k) (by simp) (fun i j hi => by show tbl (fxdC (t.fixed.getD (0 + i) fxd0)) j = tbl (fxdC (t.fixed.getD i fxd0)) j; rw [Nat.zero_add]), .fns ⟨trivial, .refl _⟩, trivial⟩)
  | exact Cl.go
  | ((fail_if_success refine Stop.go ?_); first | (with_reducible first | apply And.intro | apply Cut.go | (refine impI ?_; intro _)) | (refine propI ?_; conv => whnf)))
 all_goals try exact nbZ
 all_goals first
  | exact .of ⟨by omega, by omega⟩
  | exact .of ⟨by omega, by omega, by omega⟩
  | exact Side.mk (by omega)
  | exact .of (.mk (by omega))
  | (exact .mk [] [] _ rfl (.le (.intI (by unfold fxdE; rw [fixed_eq]))) ⟨.le (.refl _), trivial⟩ rfl)
end
end Go.Fx
