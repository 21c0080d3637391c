/-
  Tariffs: what is wrong with one; copies.
-/
import Derived.Test.YtgegeclgiiengaaGreatDoorFq

set_option linter.all false

/-
  Data of chapter 1: tariffs; what is wrong with one.
-/
namespace Go.Fx
open Go.Proofs

def bs0 : ByteArray := ⟨#[]⟩
def sRow (l : List ByteArray) : AV := .slc 1 l.length (fun i _ => .str (l.getD i bs0))
structure Rul where
  name : ByteArray
  fr : Int
  tt : Int
  zones : List Int
  days : List Int
  bg : Int
  en : Int
  st : Int
  me : Int
  se : Int
def rul0 : Rul := ⟨bs0, 0, 0, [], [], 0, 0, 0, 0, 0⟩
def rulC (r : Rul) : List AV := [.str r.name, .int .i64 r.fr, .int .i64 r.tt, iRow r.zones, iRow r.days, .int .i64 r.bg, .int .i64 r.en, .int .i64 r.st, .int .i64 r.me, .int .i64 r.se]
def rulA (r : Rul) : AV := .agg 10 (tbl (rulC r))
def rulS (l : List Rul) : AV := .slc 10 l.length (fun i j => tbl (rulC (l.getD i rul0)) j)
structure Ext where
  name : ByteArray
  am : Int
def ext0 : Ext := ⟨bs0, 0⟩
def extC (x : Ext) : List AV := [.str x.name, .int .i64 x.am]
def extA (x : Ext) : AV := .agg 2 (tbl (extC x))
def extS (l : List Ext) : AV := .slc 2 l.length (fun i j => tbl (extC (l.getD i ext0)) j)
structure Fxd where
  fr : Int
  tt : Int
  am : Int
def fxd0 : Fxd := ⟨0, 0, 0⟩
def fxdC (x : Fxd) : List AV := [.int .i64 x.fr, .int .i64 x.tt, .int .i64 x.am]
def fxdA (x : Fxd) : AV := .agg 3 (tbl (fxdC x))
def fxdS (l : List Fxd) : AV := .slc 3 l.length (fun i j => tbl (fxdC (l.getD i fxd0)) j)
structure Trf where
  name : ByteArray
  unit : Int
  step : Int
  zones : List ByteArray
  hol : List Int
  rules : List Rul
  extras : List Ext
  fixed : List Fxd
def trfC (t : Trf) : List AV := [.str t.name, .int .i64 t.unit, .int .i64 t.step, sRow t.zones, iRow t.hol, rulS t.rules, extS t.extras, fxdS t.fixed]
def trfA (t : Trf) : AV := .agg 8 (tbl (trfC t))

/-- Sizes that need no care. -/
structure TOk (t : Trf) : Prop where
  name : t.name.size ≤ 1000
  zones : t.zones.length ≤ 1000
  hol : t.hol.length ≤ 1000
  rules : t.rules.length ≤ 1000
  extras : t.extras.length ≤ 1000
  fixed : t.fixed.length ≤ 1000
  zone : ∀ j, (t.zones.getD j bs0).size ≤ 1000
  rname : ∀ j, (t.rules.getD j rul0).name.size ≤ 1000
  rzones : ∀ j, (t.rules.getD j rul0).zones.length ≤ 1000
  rdays : ∀ j, (t.rules.getD j rul0).days.length ≤ 1000
  ename : ∀ j, (t.extras.getD j ext0).name.size ≤ 1000

/-- The first place below n where something is so, or -1. -/
def findI (p : Nat → Bool) : Nat → Int
  | 0 => -1
  | n + 1 => bif decide (0 ≤ findI p n) then findI p n else bif p n then n else -1
theorem findI_none {p : Nat → Bool} : ∀ {n : Nat}, (∀ j, j < n → p j = false) → findI p n = -1
  | 0, _ => rfl
  | n + 1, h => by
    have h1 := findI_none (p := p) (n := n) fun j hj => h j (by omega)
    simp [findI, h1, h n (by omega)]
theorem findI_hit {p : Nat → Bool} {i : Nat} : ∀ {n : Nat}, i < n → (∀ j, j < i → p j = false) → p i = true → findI p n = i
  | 0, hi, _, _ => by omega
  | n + 1, hi, h, hp => by
    rcases Nat.lt_succ_iff_lt_or_eq.1 hi with h1 | h1
    · have h2 := findI_hit (p := p) (n := n) h1 h hp
      simp only [findI, h2]
      rw [decide_eq_true (by omega)]; rfl
    · subst h1
      have h2 := findI_none (p := p) (n := i) h
      simp [findI, h2, hp]
theorem findI_ge {p : Nat → Bool} : ∀ {n : Nat}, decide (0 ≤ findI p n) = (List.range n).any p
  | 0 => rfl
  | n + 1 => by
    rw [List.range_succ, List.any_append, ← findI_ge (n := n)]
    simp only [findI]
    by_cases h : 0 ≤ findI p n
    · simp [h]
    · by_cases hp : p n = true
      · simp [h, hp]
      · simp [h, hp]
theorem any_hit {p : Nat → Bool} {n i : Nat} (hi : i < n) (h : p i = true) : (List.range n).any p = true := List.any_eq_true.2 ⟨i, List.mem_range.2 hi, h⟩
theorem any_none {p : Nat → Bool} {n : Nat} (h : ∀ j, j < n → p j = false) : (List.range n).any p = false := by
  rw [List.any_eq_false]
  intro x hx
  rw [h x (List.mem_range.1 hx)]
  decide

/-- Names. -/
def badB (i c : Int) : Bool := bif !(bif (bif decide (97 ≤ c) then decide (c ≤ 122) else false) then true else (bif decide (65 ≤ c) then decide (c ≤ 90) else false)) then (bif i == 0 then true else (bif c != 45 then (bif decide (c < 48) then true else decide (57 < c)) else false)) else false
@[irreducible] def nameB (s : ByteArray) : Bool := bif decide ((s.size : Int) < 1) then false else bif decide (12 < (s.size : Int)) then false else !(List.range s.size).any fun i => badB i (byteAt s i)
/-- A text among the first n ones. -/
@[irreducible] def hasB (l : List ByteArray) (n : Nat) (s : ByteArray) : Bool := (List.range n).any fun i => decide (l.getD i bs0 = s)

/-- Numbers that rise. -/
def riseAt (lo hi e : Int) (l : List Int) (i : Nat) : Int := bif inB (l.getD i 0) lo hi then (bif decide (0 < i) then (bif decide (l.getD i 0 ≤ l.getD (i - 1) 0) then 9 else 0) else 0) else e
@[irreducible] def riseE (lo hi e : Int) (l : List Int) : Int := scanE (riseAt lo hi e l) (List.range l.length)

def isOk (b : Bool) (e : Int) : Int := bif b then 0 else e
@[irreducible] def ruleE (nz : Int) (r : Rul) : Int := firstS [isOk (bif inB r.fr 0 100000 then inB r.tt 0 100000 else false) 2, isOk (decide (r.fr ≤ r.tt)) 9, isOk (bif decide (0 < (r.zones.length : Int)) then decide (0 < (r.days.length : Int)) else false) 10,
  riseE 0 (nz - 1) 6 r.zones, riseE 0 7 2 r.days, isOk (bif (bif inB r.bg 0 86399 then inB r.en 0 86400 else false) then (bif (bif inB r.st 0 100000 then inB r.me 0 1000000 else false) then inB r.se 0 1000000 else false) else false) 2]

/-- The errors of a tariff's parts, one by one. -/
@[irreducible] def zoneE (t : Trf) (i : Nat) : Int := bif nameB (t.zones.getD i bs0) then (bif hasB t.zones i (t.zones.getD i bs0) then 5 else 0) else 4
@[irreducible] def holE (t : Trf) (i : Nat) : Int := riseAt 0 100000 2 t.hol i
@[irreducible] def ruliE (t : Trf) (i : Nat) : Int := bif nameB (t.rules.getD i rul0).name then (bif (List.range i).any (fun k => decide ((t.rules.getD k rul0).name = (t.rules.getD i rul0).name)) then 5 else ruleE t.zones.length (t.rules.getD i rul0)) else 4
@[irreducible] def extE (t : Trf) (i : Nat) : Int := bif nameB (t.extras.getD i ext0).name then (bif (List.range i).any (fun k => decide ((t.extras.getD k ext0).name = (t.extras.getD i ext0).name)) then 5 else isOk (inB (t.extras.getD i ext0).am 0 100000) 2) else 4
def zoneIn (t : Trf) (n : Int) : Bool := inB n 0 (t.zones.length - 1)
@[irreducible] def fxdE (t : Trf) (i : Nat) : Int := bif (bif zoneIn t (t.fixed.getD i fxd0).fr then zoneIn t (t.fixed.getD i fxd0).tt else false) then (bif inB (t.fixed.getD i fxd0).am 0 100000 then (bif (List.range i).any (fun k => bif (t.fixed.getD k fxd0).fr == (t.fixed.getD i fxd0).fr then (t.fixed.getD k fxd0).tt == (t.fixed.getD i fxd0).tt else false) then 5 else 0) else 2) else 6
def partE (t : Trf) : Nat → Nat → Int
  | 0 => zoneE t
  | 1 => holE t
  | 2 => ruliE t
  | 3 => extE t
  | _ => fxdE t
def partN (t : Trf) : Nat → Nat
  | 0 => t.zones.length
  | 1 => t.hol.length
  | 2 => t.rules.length
  | 3 => t.extras.length
  | _ => t.fixed.length
def partM : Nat → Nat
  | 0 => 6
  | 1 => 20
  | 2 => 12
  | 3 => 6
  | _ => 16
def topE (t : Trf) : Int := bif nameB t.name then (bif (bif inB t.unit 1 999999999 then inB t.step 0 100000 else false) then (bif decide (0 < (t.zones.length : Int)) then 0 else 10) else 2) else 4
/-- The error of a part: too long, or its first wrong item. -/
def pE (t : Trf) (p : Nat) : Int := bif decide (partM p < partN t p) then 8 else scanE (partE t p) (List.range (partN t p))
def pL (t : Trf) (p : Nat) : Int := bif decide (partM p < partN t p) then 0 else p + 1
def pN (t : Trf) (p : Nat) : Int := bif decide (partM p < partN t p) then 0 else scanN (partE t p) (List.range (partN t p))
/-- From part p on. -/
def fromE (t : Trf) (p : Nat) : Nat → Int
  | 0 => 0
  | k + 1 => bif decide (pE t p = 0) then fromE t (p + 1) k else pE t p
def fromL (t : Trf) (p : Nat) : Nat → Int
  | 0 => 0
  | k + 1 => bif decide (pE t p = 0) then fromL t (p + 1) k else pL t p
def fromN (t : Trf) (p : Nat) : Nat → Int
  | 0 => 0
  | k + 1 => bif decide (pE t p = 0) then fromN t (p + 1) k else pN t p
@[irreducible] def trfE (t : Trf) : Int := bif decide (topE t = 0) then fromE t 0 5 else topE t
@[irreducible] def trfL (t : Trf) : Int := bif decide (topE t = 0) then fromL t 0 5 else 0
@[irreducible] def trfN (t : Trf) : Int := bif decide (topE t = 0) then fromN t 0 5 else 0
end Go.Fx

/-
  Small functions of the tariff: bounds, first errors, names, numbers that rise.
-/
namespace Go.Fx
open Go.Proofs Go.RowKit

theorem all_add {p : Nat → Prop} {i : Nat} (h0 : ∀ j, j < i → p j) (h : p i) : ∀ j, j < i + 1 → p j := all_lt h0 h
theorem range_at {n j : Nat} (h : j < n) : (List.range n).getD j 0 = j := by simp [List.getD_eq_getElem?_getD, h]
theorem rise_hit {lo hi e : Int} {l : List Int} {i : Nat} (hi' : i < l.length) (h0 : ∀ j, j < i → riseAt lo hi e l j = 0) (h : riseAt lo hi e l i ≠ 0) : riseE lo hi e l = riseAt lo hi e l i := by
  unfold riseE
  have w := scan_hit (g := riseAt lo hi e l) (d := 0) (l := List.range l.length) (i := i) (by simpa using hi') (fun j hj => by rw [range_at (by omega)]; exact h0 j hj) (by rw [range_at hi']; exact h)
  rw [w.1, range_at hi']
theorem rise_none {lo hi e : Int} {l : List Int} (h0 : ∀ j, j < l.length → riseAt lo hi e l j = 0) : riseE lo hi e l = 0 := by
  unfold riseE
  exact (scan_none (g := riseAt lo hi e l) (d := 0) (l := List.range l.length) (fun j hj => by rw [range_at (by simpa using hj)]; exact h0 j (by simpa using hj))).1
theorem rise_out {lo hi e : Int} {l : List Int} {i : Nat} (h : inB (l.getD i 0) lo hi = false) : riseAt lo hi e l i = e := by unfold riseAt; rw [h]; rfl
theorem rise_9 {lo hi e : Int} {l : List Int} {i : Nat} (h : inB (l.getD i 0) lo hi = true) (h2 : (bif decide (0 < (i : Int)) then decide (l.getD i 0 ≤ l.getD ((i : Int) - 1).toNat 0) else false) = true) : riseAt lo hi e l i = 9 := by
  unfold riseAt
  rw [h]
  by_cases hi : 0 < i
  · rw [decide_eq_true (show 0 < (i : Int) by omega)] at h2
    rw [decide_eq_true hi]
    rw [show ((i : Int) - 1).toNat = i - 1 by omega] at h2
    simp only [cond_true] at h2 ⊢
    rw [h2]; rfl
  · rw [decide_eq_false (show ¬ 0 < (i : Int) by omega)] at h2; cases h2
theorem rise_0 {lo hi e : Int} {l : List Int} {i : Nat} (h : inB (l.getD i 0) lo hi = true) (h2 : (bif decide (0 < (i : Int)) then decide (l.getD i 0 ≤ l.getD ((i : Int) - 1).toNat 0) else false) = false) : riseAt lo hi e l i = 0 := by
  unfold riseAt
  rw [h]
  by_cases hi : 0 < i
  · rw [decide_eq_true (show 0 < (i : Int) by omega)] at h2
    rw [decide_eq_true hi]
    rw [show ((i : Int) - 1).toNat = i - 1 by omega] at h2
    simp only [cond_true] at h2 ⊢
    rw [h2]; rfl
  · rw [decide_eq_false hi]; rfl
section
variable {W0 : World} {G : Nat → Option AV} (hX : (Xc W0 G).Good)
include hX
theorem c93 (n lo hi : Int) : Pure (Xc W0 G) 93 [.int .i64 n, .int .i64 lo, .int .i64 hi] (.bool (inB n lo hi)) := by
  refine mut_of' hX (show FnIs (Xc W0 G) 93 Tryz.f93 (codeOf Tryz.f93) from ⟨by kernel_rfl, by kernel_rfl, by kernel_rfl, by kernel_rfl⟩) rfl ?_
  repeat' (first
    | ((with_reducible refine (?_ : Alt _ _)); first | fail | (with_reducible refine Alt.one ?_))
    | ((with_reducible refine (?_ : AllLe _ _)); first | (first | exact AllLe.refl _ | (repeat' (first | exact trivial | apply Le.aggs | apply Le.tups | exact Le.refl _ | refine ⟨?_, ?_⟩))))
    | ((with_reducible refine (?_ : Sc _ (AllRen _ _ _))); refine Sc.of ?_; (repeat' (first | exact trivial | apply Le.aggs | apply Le.tups | exact Le.refl _ | refine ⟨?_, ?_⟩)))
    | ((with_reducible refine (?_ : (List.all _ _) = true)); rfl)
    | ((with_reducible refine (?_ : (and _ _) = true)); rfl)
    | ((with_reducible refine (?_ : List.Nodup _)); exact nodupB_spec rfl)
    | ((with_reducible refine (?_ : @Eq Nat _ _)); rfl)
    | ((with_reducible refine (?_ : LeOks _ _ _)); first | exact trivial | exact ⟨.refl _, trivial⟩ | exact ⟨.refl _, .refl _, trivial⟩)
    | ((fail_if_success with_reducible refine (?_ : False)); (fail_if_success with_reducible refine (?_ : Nat)); (fail_if_success with_reducible refine (?_ : Nat → Nat → AV)); (fail_if_success with_reducible refine (?_ : Sc _ _)); (fail_if_success with_reducible refine (?_ : Side _)); (fail_if_success with_reducible refine (?_ : Exists _)); (fail_if_success with_reducible refine (?_ : Ends _ _ _ _ _ _ _)); (fail_if_success with_reducible refine (?_ : Alt _ _)); (fail_if_success with_reducible refine (?_ : Le _ _)); (fail_if_success with_reducible refine (?_ : LeAll _ _ _)); (first | with_reducible refine And.intro ?_ ?_ | with_reducible refine Cut.go ?_ | (with_reducible (refine impI ?_; intro _)) | (with_reducible refine (?_ : footOK _ _ = true); kernel_rfl) | ((with_reducible refine propI ?_); conv => whnf))))
  all_goals exact .mk [] [] _ rfl (.le (.refl _)) trivial rfl
theorem c97 (b : Bool) (e : Int) : Pure (Xc W0 G) 97 [.bool b, .int .i64 e] (.int .i64 (isOk b e)) := by
  refine mut_of' hX (show FnIs (Xc W0 G) 97 Tryz.f97 (codeOf Tryz.f97) from ⟨by kernel_rfl, by kernel_rfl, by kernel_rfl, by kernel_rfl⟩) rfl ?_
  repeat' (first
    | ((with_reducible refine (?_ : Alt _ _)); first | fail | (with_reducible refine Alt.one ?_))
    | ((with_reducible refine (?_ : AllLe _ _)); first | (first | exact AllLe.refl _ | (repeat' (first | exact trivial | apply Le.aggs | apply Le.tups | exact Le.refl _ | refine ⟨?_, ?_⟩))))
    | ((with_reducible refine (?_ : Sc _ (AllRen _ _ _))); refine Sc.of ?_; (repeat' (first | exact trivial | apply Le.aggs | apply Le.tups | exact Le.refl _ | refine ⟨?_, ?_⟩)))
    | ((with_reducible refine (?_ : (List.all _ _) = true)); rfl)
    | ((with_reducible refine (?_ : (and _ _) = true)); rfl)
    | ((with_reducible refine (?_ : List.Nodup _)); exact nodupB_spec rfl)
    | ((with_reducible refine (?_ : @Eq Nat _ _)); rfl)
    | ((with_reducible refine (?_ : LeOks _ _ _)); first | exact trivial | exact ⟨.refl _, trivial⟩ | exact ⟨.refl _, .refl _, trivial⟩)
    | ((fail_if_success with_reducible refine (?_ : False)); (fail_if_success with_reducible refine (?_ : Nat)); (fail_if_success with_reducible refine (?_ : Nat → Nat → AV)); (fail_if_success with_reducible refine (?_ : Sc _ _)); (fail_if_success with_reducible refine (?_ : Side _)); (fail_if_success with_reducible refine (?_ : Exists _)); (fail_if_success with_reducible refine (?_ : Ends _ _ _ _ _ _ _)); (fail_if_success with_reducible refine (?_ : Alt _ _)); (fail_if_success with_reducible refine (?_ : Le _ _)); (fail_if_success with_reducible refine (?_ : LeAll _ _ _)); (first | with_reducible refine And.intro ?_ ?_ | with_reducible refine Cut.go ?_ | (with_reducible (refine impI ?_; intro _)) | (with_reducible refine (?_ : footOK _ _ = true); kernel_rfl) | ((with_reducible refine propI ?_); conv => whnf))))
  · rename_i h; subst h; exact .mk [] [] _ rfl (.le (.refl _)) trivial rfl
  · rename_i h; subst h; exact .mk [] [] _ rfl (.le (.refl _)) trivial rfl
theorem c94 (n : Int) : Pure (Xc W0 G) 94 [.int .i64 n] (.bool (inB n 0 100000)) := by
  refine mut_of' hX (show FnIs (Xc W0 G) 94 Tryz.f94 (codeOf Tryz.f94) from ⟨by kernel_rfl, by kernel_rfl, by kernel_rfl, by kernel_rfl⟩) rfl ?_
  repeat' (first
    | ((with_reducible refine (?_ : Alt _ _)); first | (with_reducible apply callAlt (c93 hX _ _ _)) | (with_reducible refine Alt.one ?_))
    | ((with_reducible refine (?_ : AllLe _ _)); first | (first | exact AllLe.refl _ | (repeat' (first | exact trivial | apply Le.aggs | apply Le.tups | exact Le.refl _ | refine ⟨?_, ?_⟩))))
    | ((with_reducible refine (?_ : Sc _ (AllRen _ _ _))); refine Sc.of ?_; (repeat' (first | exact trivial | apply Le.aggs | apply Le.tups | exact Le.refl _ | refine ⟨?_, ?_⟩)))
    | ((with_reducible refine (?_ : (List.all _ _) = true)); rfl)
    | ((with_reducible refine (?_ : (and _ _) = true)); rfl)
    | ((with_reducible refine (?_ : List.Nodup _)); exact nodupB_spec rfl)
    | ((with_reducible refine (?_ : @Eq Nat _ _)); rfl)
    | ((with_reducible refine (?_ : LeOks _ _ _)); first | exact trivial | exact ⟨.refl _, trivial⟩ | exact ⟨.refl _, .refl _, trivial⟩)
    | ((fail_if_success with_reducible refine (?_ : False)); (fail_if_success with_reducible refine (?_ : Nat)); (fail_if_success with_reducible refine (?_ : Nat → Nat → AV)); (fail_if_success with_reducible refine (?_ : Sc _ _)); (fail_if_success with_reducible refine (?_ : Side _)); (fail_if_success with_reducible refine (?_ : Exists _)); (fail_if_success with_reducible refine (?_ : Ends _ _ _ _ _ _ _)); (fail_if_success with_reducible refine (?_ : Alt _ _)); (fail_if_success with_reducible refine (?_ : Le _ _)); (fail_if_success with_reducible refine (?_ : LeAll _ _ _)); (first | with_reducible refine And.intro ?_ ?_ | with_reducible refine Cut.go ?_ | (with_reducible (refine impI ?_; intro _)) | (with_reducible refine (?_ : footOK _ _ = true); kernel_rfl) | ((with_reducible refine propI ?_); conv => whnf))))
  all_goals exact .mk [] [] _ rfl (.le (.refl _)) trivial rfl
theorem c101 (n : Int) : Pure (Xc W0 G) 101 [.int .i64 n] (.bool (inB n 0 100000)) := by
  refine mut_of' hX (show FnIs (Xc W0 G) 101 Tryz.f101 (codeOf Tryz.f101) from ⟨by kernel_rfl, by kernel_rfl, by kernel_rfl, by kernel_rfl⟩) rfl ?_
  repeat' (first
    | ((with_reducible refine (?_ : Alt _ _)); first | (with_reducible apply callAlt (c93 hX _ _ _)) | (with_reducible refine Alt.one ?_))
    | ((with_reducible refine (?_ : AllLe _ _)); first | (first | exact AllLe.refl _ | (repeat' (first | exact trivial | apply Le.aggs | apply Le.tups | exact Le.refl _ | refine ⟨?_, ?_⟩))))
    | ((with_reducible refine (?_ : Sc _ (AllRen _ _ _))); refine Sc.of ?_; (repeat' (first | exact trivial | apply Le.aggs | apply Le.tups | exact Le.refl _ | refine ⟨?_, ?_⟩)))
    | ((with_reducible refine (?_ : (List.all _ _) = true)); rfl)
    | ((with_reducible refine (?_ : (and _ _) = true)); rfl)
    | ((with_reducible refine (?_ : List.Nodup _)); exact nodupB_spec rfl)
    | ((with_reducible refine (?_ : @Eq Nat _ _)); rfl)
    | ((with_reducible refine (?_ : LeOks _ _ _)); first | exact trivial | exact ⟨.refl _, trivial⟩ | exact ⟨.refl _, .refl _, trivial⟩)
    | ((fail_if_success with_reducible refine (?_ : False)); (fail_if_success with_reducible refine (?_ : Nat)); (fail_if_success with_reducible refine (?_ : Nat → Nat → AV)); (fail_if_success with_reducible refine (?_ : Sc _ _)); (fail_if_success with_reducible refine (?_ : Side _)); (fail_if_success with_reducible refine (?_ : Exists _)); (fail_if_success with_reducible refine (?_ : Ends _ _ _ _ _ _ _)); (fail_if_success with_reducible refine (?_ : Alt _ _)); (fail_if_success with_reducible refine (?_ : Le _ _)); (fail_if_success with_reducible refine (?_ : LeAll _ _ _)); (first | with_reducible refine And.intro ?_ ?_ | with_reducible refine Cut.go ?_ | (with_reducible (refine impI ?_; intro _)) | (with_reducible refine (?_ : footOK _ _ = true); kernel_rfl) | ((with_reducible refine propI ?_); conv => whnf))))
  all_goals exact .mk [] [] _ rfl (.le (.refl _)) trivial rfl
theorem c141 (n : Int) : Pure (Xc W0 G) 141 [.int .i64 n] (.bool (inB n 0 86399)) := by
  refine mut_of' hX (show FnIs (Xc W0 G) 141 Tryz.f141 (codeOf Tryz.f141) from ⟨by kernel_rfl, by kernel_rfl, by kernel_rfl, by kernel_rfl⟩) rfl ?_
  repeat' (first
    | ((with_reducible refine (?_ : Alt _ _)); first | (with_reducible apply callAlt (c93 hX _ _ _)) | (with_reducible refine Alt.one ?_))
    | ((with_reducible refine (?_ : AllLe _ _)); first | (first | exact AllLe.refl _ | (repeat' (first | exact trivial | apply Le.aggs | apply Le.tups | exact Le.refl _ | refine ⟨?_, ?_⟩))))
    | ((with_reducible refine (?_ : Sc _ (AllRen _ _ _))); refine Sc.of ?_; (repeat' (first | exact trivial | apply Le.aggs | apply Le.tups | exact Le.refl _ | refine ⟨?_, ?_⟩)))
    | ((with_reducible refine (?_ : (List.all _ _) = true)); rfl)
    | ((with_reducible refine (?_ : (and _ _) = true)); rfl)
    | ((with_reducible refine (?_ : List.Nodup _)); exact nodupB_spec rfl)
    | ((with_reducible refine (?_ : @Eq Nat _ _)); rfl)
    | ((with_reducible refine (?_ : LeOks _ _ _)); first | exact trivial | exact ⟨.refl _, trivial⟩ | exact ⟨.refl _, .refl _, trivial⟩)
    | ((fail_if_success with_reducible refine (?_ : False)); (fail_if_success with_reducible refine (?_ : Nat)); (fail_if_success with_reducible refine (?_ : Nat → Nat → AV)); (fail_if_success with_reducible refine (?_ : Sc _ _)); (fail_if_success with_reducible refine (?_ : Side _)); (fail_if_success with_reducible refine (?_ : Exists _)); (fail_if_success with_reducible refine (?_ : Ends _ _ _ _ _ _ _)); (fail_if_success with_reducible refine (?_ : Alt _ _)); (fail_if_success with_reducible refine (?_ : Le _ _)); (fail_if_success with_reducible refine (?_ : LeAll _ _ _)); (first | with_reducible refine And.intro ?_ ?_ | with_reducible refine Cut.go ?_ | (with_reducible (refine impI ?_; intro _)) | (with_reducible refine (?_ : footOK _ _ = true); kernel_rfl) | ((with_reducible refine propI ?_); conv => whnf))))
  all_goals exact .mk [] [] _ rfl (.le (.refl _)) trivial rfl
theorem c143 (n : Int) : Pure (Xc W0 G) 143 [.int .i64 n] (.bool (inB n 0 7)) := by
  refine mut_of' hX (show FnIs (Xc W0 G) 143 Tryz.f143 (codeOf Tryz.f143) from ⟨by kernel_rfl, by kernel_rfl, by kernel_rfl, by kernel_rfl⟩) rfl ?_
  repeat' (first
    | ((with_reducible refine (?_ : Alt _ _)); first | (with_reducible apply callAlt (c93 hX _ _ _)) | (with_reducible refine Alt.one ?_))
    | ((with_reducible refine (?_ : AllLe _ _)); first | (first | exact AllLe.refl _ | (repeat' (first | exact trivial | apply Le.aggs | apply Le.tups | exact Le.refl _ | refine ⟨?_, ?_⟩))))
    | ((with_reducible refine (?_ : Sc _ (AllRen _ _ _))); refine Sc.of ?_; (repeat' (first | exact trivial | apply Le.aggs | apply Le.tups | exact Le.refl _ | refine ⟨?_, ?_⟩)))
    | ((with_reducible refine (?_ : (List.all _ _) = true)); rfl)
    | ((with_reducible refine (?_ : (and _ _) = true)); rfl)
    | ((with_reducible refine (?_ : List.Nodup _)); exact nodupB_spec rfl)
    | ((with_reducible refine (?_ : @Eq Nat _ _)); rfl)
    | ((with_reducible refine (?_ : LeOks _ _ _)); first | exact trivial | exact ⟨.refl _, trivial⟩ | exact ⟨.refl _, .refl _, trivial⟩)
    | ((fail_if_success with_reducible refine (?_ : False)); (fail_if_success with_reducible refine (?_ : Nat)); (fail_if_success with_reducible refine (?_ : Nat → Nat → AV)); (fail_if_success with_reducible refine (?_ : Sc _ _)); (fail_if_success with_reducible refine (?_ : Side _)); (fail_if_success with_reducible refine (?_ : Exists _)); (fail_if_success with_reducible refine (?_ : Ends _ _ _ _ _ _ _)); (fail_if_success with_reducible refine (?_ : Alt _ _)); (fail_if_success with_reducible refine (?_ : Le _ _)); (fail_if_success with_reducible refine (?_ : LeAll _ _ _)); (first | with_reducible refine And.intro ?_ ?_ | with_reducible refine Cut.go ?_ | (with_reducible (refine impI ?_; intro _)) | (with_reducible refine (?_ : footOK _ _ = true); kernel_rfl) | ((with_reducible refine propI ?_); conv => whnf))))
  all_goals exact .mk [] [] _ rfl (.le (.refl _)) trivial rfl
theorem c95 (l : List Int) (hn : l.length < 1000000) : Pure (Xc W0 G) 95 [.slc 1 l.length (fun i _ => .int .i64 (l.getD i 0))] (.int .i64 (firstS l)) := by
  refine mut_of' hX (show FnIs (Xc W0 G) 95 Tryz.f95 (codeOf Tryz.f95) from ⟨by kernel_rfl, by kernel_rfl, by kernel_rfl, by kernel_rfl⟩) rfl ?_
  repeat' (first
    | ((with_reducible refine (?_ : Alt _ _)); first | fail | (with_reducible refine Alt.one ?_))
    | ((with_reducible refine (?_ : AllLe _ _)); first | (first | exact AllLe.refl _ | (repeat' (first | exact trivial | apply Le.aggs | apply Le.tups | exact Le.refl _ | refine ⟨?_, ?_⟩))))
    | ((with_reducible refine (?_ : Sc _ (AllRen _ _ _))); refine Sc.of ?_; (repeat' (first | exact trivial | apply Le.aggs | apply Le.tups | exact Le.refl _ | refine ⟨?_, ?_⟩)))
    | ((with_reducible refine (?_ : (List.all _ _) = true)); rfl)
    | ((with_reducible refine (?_ : (and _ _) = true)); rfl)
    | ((with_reducible refine (?_ : List.Nodup _)); exact nodupB_spec rfl)
    | ((with_reducible refine (?_ : @Eq Nat _ _)); rfl)
    | ((with_reducible refine (?_ : LeOks _ _ _)); first | exact trivial | exact ⟨.refl _, trivial⟩ | exact ⟨.refl _, .refl _, trivial⟩)
    | ((fail_if_success with_reducible refine (?_ : False)); (fail_if_success with_reducible refine (?_ : Nat)); (fail_if_success with_reducible refine (?_ : Nat → Nat → AV)); (fail_if_success with_reducible refine (?_ : Sc _ _)); (fail_if_success with_reducible refine (?_ : Side _)); (fail_if_success with_reducible refine (?_ : Exists _)); (fail_if_success with_reducible refine (?_ : Ends _ _ _ _ _ _ _)); (fail_if_success with_reducible refine (?_ : Alt _ _)); (fail_if_success with_reducible refine (?_ : Le _ _)); (fail_if_success with_reducible refine (?_ : LeAll _ _ _)); (first | with_reducible refine And.intro ?_ ?_ | with_reducible refine Cut.go ?_ | (with_reducible (refine impI ?_; intro _)) | (with_reducible refine (?_ : footOK _ _ = true); kernel_rfl) | ((with_reducible refine propI ?_); conv => whnf))))
  refine ⟨Nat, fun i => ([(7, .int .i64 i), (6, .int .i64 l.length), (5, .slc 1 l.length (fun i _ => .int .i64 (l.getD i 0)))], []), fun i => i ≤ l.length ∧ ∀ j, j < i → l.getD j 0 = 0, fun i => l.length - i, ⟨0, ⟨Nat.zero_le _, fun _ h => by omega⟩, .le ⟨rfl, trivial, ⟨.refl _, .refl _, .refl _, trivial⟩⟩⟩, fun i ⟨hi, h0⟩ => ?_⟩
  repeat' (first
    | ((with_reducible refine (?_ : Alt _ _)); first | fail | (with_reducible refine Alt.one ?_))
    | ((with_reducible refine (?_ : AllLe _ _)); first | (first | exact AllLe.refl _ | (repeat' (first | exact trivial | apply Le.aggs | apply Le.tups | exact Le.refl _ | refine ⟨?_, ?_⟩))))
    | ((with_reducible refine (?_ : Sc _ (AllRen _ _ _))); refine Sc.of ?_; (repeat' (first | exact trivial | apply Le.aggs | apply Le.tups | exact Le.refl _ | refine ⟨?_, ?_⟩)))
    | ((with_reducible refine (?_ : (List.all _ _) = true)); rfl)
    | ((with_reducible refine (?_ : (and _ _) = true)); rfl)
    | ((with_reducible refine (?_ : List.Nodup _)); exact nodupB_spec rfl)
    | ((with_reducible refine (?_ : @Eq Nat _ _)); rfl)
    | ((with_reducible refine (?_ : LeOks _ _ _)); first | exact trivial | exact ⟨.refl _, trivial⟩ | exact ⟨.refl _, .refl _, trivial⟩)
    | ((fail_if_success with_reducible refine (?_ : False)); (fail_if_success with_reducible refine (?_ : Nat)); (fail_if_success with_reducible refine (?_ : Nat → Nat → AV)); (fail_if_success with_reducible refine (?_ : Sc _ _)); (fail_if_success with_reducible refine (?_ : Side _)); (fail_if_success with_reducible refine (?_ : Exists _)); (fail_if_success with_reducible refine (?_ : Ends _ _ _ _ _ _ _)); (fail_if_success with_reducible refine (?_ : Alt _ _)); (fail_if_success with_reducible refine (?_ : Le _ _)); (fail_if_success with_reducible refine (?_ : LeAll _ _ _)); (first | with_reducible refine And.intro ?_ ?_ | with_reducible refine Cut.go ?_ | (with_reducible (refine impI ?_; intro _)) | (with_reducible refine (?_ : footOK _ _ = true); kernel_rfl) | ((with_reducible refine propI ?_); conv => whnf))))
  all_goals (rename_i h)
  all_goals first
    | exact .of (Nat.le_of_ble_eq_true rfl)
    | (have h := of_decide_eq_true h; exact .of ⟨by omega, by omega⟩)
    | (have h := of_decide_eq_false h; rw [firstS_none (fun j hj => h0 j (by omega))]; exact .mk [] [] _ rfl (.le (.refl _)) trivial rfl)
    | (rename_i h1; have h1 := of_decide_eq_true h1
       simp only [decide_eq_true_eq, decide_eq_false_iff_not, beq_iff_eq, bne_iff_ne, beq_eq_false_iff_ne, bne_eq_false_iff_eq, ne_eq, Int.not_lt, Int.not_le, Nat.not_lt, Nat.not_le, Decidable.not_not, Int.toNat_natCast] at h
       first
         | exact .of ⟨by omega, by omega⟩
         | exact ⟨i + 1, ⟨by omega, all_lt h0 h⟩, by show l.length - (i + 1) < l.length - i; omega, .le ⟨rfl, trivial, ⟨.refl _, .refl _, .refl _, trivial⟩⟩⟩
         | (rw [firstS_hit (by omega) h0 h]; exact .mk [] [] _ rfl (.le (.refl _)) trivial rfl))
theorem c95_2 (a b : Int) : Pure (Xc W0 G) 95 [.slc 1 [a, b].length (fun i _ => .int .i64 ([a, b].getD i 0))] (.int .i64 (firstS [a, b])) := c95 hX [a, b] (show 2 < 1000000 by decide)
theorem c95_3 (a b c : Int) : Pure (Xc W0 G) 95 [.slc 1 [a, b, c].length (fun i _ => .int .i64 ([a, b, c].getD i 0))] (.int .i64 (firstS [a, b, c])) := c95 hX [a, b, c] (show 3 < 1000000 by decide)
theorem c95_5 (a b c d e : Int) : Pure (Xc W0 G) 95 [.slc 1 [a, b, c, d, e].length (fun i _ => .int .i64 ([a, b, c, d, e].getD i 0))] (.int .i64 (firstS [a, b, c, d, e])) := c95 hX [a, b, c, d, e] (show 5 < 1000000 by decide)
theorem c95_6 (a b c d e f : Int) : Pure (Xc W0 G) 95 [.slc 1 [a, b, c, d, e, f].length (fun i _ => .int .i64 ([a, b, c, d, e, f].getD i 0))] (.int .i64 (firstS [a, b, c, d, e, f])) := c95 hX [a, b, c, d, e, f] (show 6 < 1000000 by decide)
theorem c112 (t : Trf) (n : Int) (hs : Side (t.zones.length ≤ 1000)) : Pure (Xc W0 G) 112 [trfA t, .int .i64 n] (.bool (zoneIn t n)) := by
  have hs := hs.get
  refine mut_of' hX (show FnIs (Xc W0 G) 112 Tryz.f112 (codeOf Tryz.f112) from ⟨by kernel_rfl, by kernel_rfl, by kernel_rfl, by kernel_rfl⟩) rfl ?_
  repeat' (first
    | ((with_reducible refine (?_ : Alt _ _)); first | (with_reducible apply callAlt (c93 hX _ _ _)) | (with_reducible refine Alt.one ?_))
    | ((with_reducible refine (?_ : AllLe _ _)); first | (first | exact AllLe.refl _ | (repeat' (first | exact trivial | apply Le.aggs | apply Le.tups | exact Le.refl _ | refine ⟨?_, ?_⟩))))
    | ((with_reducible refine (?_ : Sc _ (AllRen _ _ _))); refine Sc.of ?_; (repeat' (first | exact trivial | apply Le.aggs | apply Le.tups | exact Le.refl _ | refine ⟨?_, ?_⟩)))
    | ((with_reducible refine (?_ : (List.all _ _) = true)); rfl)
    | ((with_reducible refine (?_ : (and _ _) = true)); rfl)
    | ((with_reducible refine (?_ : List.Nodup _)); exact nodupB_spec rfl)
    | ((with_reducible refine (?_ : @Eq Nat _ _)); rfl)
    | ((with_reducible refine (?_ : LeOks _ _ _)); first | exact trivial | exact ⟨.refl _, trivial⟩ | exact ⟨.refl _, .refl _, trivial⟩)
    | ((fail_if_success with_reducible refine (?_ : False)); (fail_if_success with_reducible refine (?_ : Nat)); (fail_if_success with_reducible refine (?_ : Nat → Nat → AV)); (fail_if_success with_reducible refine (?_ : Sc _ _)); (fail_if_success with_reducible refine (?_ : Side _)); (fail_if_success with_reducible refine (?_ : Exists _)); (fail_if_success with_reducible refine (?_ : Ends _ _ _ _ _ _ _)); (fail_if_success with_reducible refine (?_ : Alt _ _)); (fail_if_success with_reducible refine (?_ : Le _ _)); (fail_if_success with_reducible refine (?_ : LeAll _ _ _)); (first | with_reducible refine And.intro ?_ ?_ | with_reducible refine Cut.go ?_ | (with_reducible (refine impI ?_; intro _)) | (with_reducible refine (?_ : footOK _ _ = true); kernel_rfl) | ((with_reducible refine propI ?_); conv => whnf))))
  all_goals try (exact .of (Nat.le_of_ble_eq_true rfl))
  all_goals first | exact .mk [] [] _ rfl (.le (.refl _)) trivial rfl | exact .of ⟨by omega, by omega⟩

theorem c100d (l : List Int) (e : Int) (he : e ≠ 0) (hn : Side (l.length ≤ 1000000)) : Pure (Xc W0 G) 100 [iRow l, .fn 101 0 (fun _ => .any), .int .i64 e] (.int .i64 (riseE 0 100000 e l)) := by
  have hn := hn.get
  refine mut_of' hX (show FnIs (Xc W0 G) 100 Tryz.f100 (codeOf Tryz.f100) from ⟨by kernel_rfl, by kernel_rfl, by kernel_rfl, by kernel_rfl⟩) rfl ?_
  repeat' (first
    | ((with_reducible refine (?_ : Alt _ _)); first | fail | (with_reducible refine Alt.one ?_))
    | ((with_reducible refine (?_ : AllLe _ _)); first | (first | exact AllLe.refl _ | (repeat' (first | exact trivial | apply Le.aggs | apply Le.tups | exact Le.refl _ | refine ⟨?_, ?_⟩))))
    | ((with_reducible refine (?_ : Sc _ (AllRen _ _ _))); refine Sc.of ?_; (repeat' (first | exact trivial | apply Le.aggs | apply Le.tups | exact Le.refl _ | refine ⟨?_, ?_⟩)))
    | ((with_reducible refine (?_ : (List.all _ _) = true)); rfl)
    | ((with_reducible refine (?_ : (and _ _) = true)); rfl)
    | ((with_reducible refine (?_ : List.Nodup _)); exact nodupB_spec rfl)
    | ((with_reducible refine (?_ : @Eq Nat _ _)); rfl)
    | ((with_reducible refine (?_ : LeOks _ _ _)); first | exact trivial | exact ⟨.refl _, trivial⟩ | exact ⟨.refl _, .refl _, trivial⟩)
    | ((fail_if_success with_reducible refine (?_ : False)); (fail_if_success with_reducible refine (?_ : Nat)); (fail_if_success with_reducible refine (?_ : Nat → Nat → AV)); (fail_if_success with_reducible refine (?_ : Sc _ _)); (fail_if_success with_reducible refine (?_ : Side _)); (fail_if_success with_reducible refine (?_ : Exists _)); (fail_if_success with_reducible refine (?_ : Ends _ _ _ _ _ _ _)); (fail_if_success with_reducible refine (?_ : Alt _ _)); (fail_if_success with_reducible refine (?_ : Le _ _)); (fail_if_success with_reducible refine (?_ : LeAll _ _ _)); (first | with_reducible refine And.intro ?_ ?_ | with_reducible refine Cut.go ?_ | (with_reducible (refine impI ?_; intro _)) | (with_reducible refine (?_ : footOK _ _ = true); kernel_rfl) | ((with_reducible refine propI ?_); conv => whnf))))
  refine ⟨Nat, fun i => ([(0, iRow l), (1, .fn 101 0 (fun _ => .any)), (2, .int .i64 e), (9, iRow l), (10, .int .i64 l.length), (11, .int .i64 i)], []), fun i => i ≤ l.length ∧ ∀ j, j < i → riseAt 0 100000 e l j = 0, fun i => l.length - i, ⟨0, ⟨Nat.zero_le _, fun _ h => by omega⟩, .le ⟨rfl, trivial, ⟨.refl _, .refl _, .refl _, .refl _, .refl _, .refl _, trivial⟩⟩⟩, fun i ⟨hi, h0⟩ => ?_⟩
  repeat' (first
    | ((with_reducible refine (?_ : Alt _ _)); first | (with_reducible apply callAlt (c101 hX _)) | (with_reducible refine Alt.one ?_))
    | ((with_reducible refine (?_ : AllLe _ _)); first | (first | exact AllLe.refl _ | (repeat' (first | exact trivial | apply Le.aggs | apply Le.tups | exact Le.refl _ | refine ⟨?_, ?_⟩))))
    | ((with_reducible refine (?_ : Sc _ (AllRen _ _ _))); refine Sc.of ?_; (repeat' (first | exact trivial | apply Le.aggs | apply Le.tups | exact Le.refl _ | refine ⟨?_, ?_⟩)))
    | ((with_reducible refine (?_ : (List.all _ _) = true)); rfl)
    | ((with_reducible refine (?_ : (and _ _) = true)); rfl)
    | ((with_reducible refine (?_ : List.Nodup _)); exact nodupB_spec rfl)
    | ((with_reducible refine (?_ : @Eq Nat _ _)); rfl)
    | ((with_reducible refine (?_ : LeOks _ _ _)); first | exact trivial | exact ⟨.refl _, trivial⟩ | exact ⟨.refl _, .refl _, trivial⟩)
    | ((fail_if_success with_reducible refine (?_ : False)); (fail_if_success with_reducible refine (?_ : Nat)); (fail_if_success with_reducible refine (?_ : Nat → Nat → AV)); (fail_if_success with_reducible refine (?_ : Sc _ _)); (fail_if_success with_reducible refine (?_ : Side _)); (fail_if_success with_reducible refine (?_ : Exists _)); (fail_if_success with_reducible refine (?_ : Ends _ _ _ _ _ _ _)); (fail_if_success with_reducible refine (?_ : Alt _ _)); (fail_if_success with_reducible refine (?_ : Le _ _)); (fail_if_success with_reducible refine (?_ : LeAll _ _ _)); (first | with_reducible refine And.intro ?_ ?_ | with_reducible refine Cut.go ?_ | (with_reducible (refine impI ?_; intro _)) | (with_reducible refine (?_ : footOK _ _ = true); kernel_rfl) | ((with_reducible refine propI ?_); conv => whnf))))
  all_goals first
    | exact .of (Nat.le_of_ble_eq_true rfl)
    | (rename_i h; have h := of_decide_eq_true h; exact .of ⟨by omega, by omega⟩)
    | (rename_i h; have h := of_decide_eq_false h; exact .mk [] [] _ rfl (.le (.intI ((rise_none (fun j hj => h0 j (by omega))).symm))) trivial rfl)
    | (rename_i h1 h; have h1 := of_decide_eq_true h1
       simp only [Bool.not_eq_true', Bool.not_eq_false', Int.toNat_natCast] at h
       first
         | (refine Sc.imp fun q => ?_; have q := of_decide_eq_true q; exact ⟨by omega, by omega⟩)
         | exact Sc.of (Nat.le_of_ble_eq_true rfl)
         | (have k := rise_out (e := e) h
            exact .mk [] [] _ rfl (.le (.intI (by rw [rise_hit (by omega) h0 (by rw [k]; exact he), k]))) trivial rfl))
    | (rename_i h1 h h2; have h1 := of_decide_eq_true h1
       simp only [Bool.not_eq_true', Bool.not_eq_false', Int.toNat_natCast] at h h2
       first
         | exact .of ⟨by omega, by omega⟩
         | exact ⟨i + 1, ⟨by omega, all_lt h0 (rise_0 h h2)⟩, by show l.length - (i + 1) < l.length - i; omega, .le ⟨rfl, trivial, ⟨.refl _, .refl _, .refl _, .refl _, .refl _, .refl _, trivial⟩⟩⟩
         | (have k := rise_9 (e := e) h h2; exact .mk [] [] _ rfl (.le (.intI (by rw [rise_hit (by omega) h0 (by rw [k]; decide), k]))) trivial rfl))
theorem c100k (l : List Int) (e : Int) (he : e ≠ 0) (hn : Side (l.length ≤ 1000000)) : Pure (Xc W0 G) 100 [iRow l, .fn 143 0 (fun _ => .any), .int .i64 e] (.int .i64 (riseE 0 7 e l)) := by
  have hn := hn.get
  refine mut_of' hX (show FnIs (Xc W0 G) 100 Tryz.f100 (codeOf Tryz.f100) from ⟨by kernel_rfl, by kernel_rfl, by kernel_rfl, by kernel_rfl⟩) rfl ?_
  repeat' (first
    | ((with_reducible refine (?_ : Alt _ _)); first | fail | (with_reducible refine Alt.one ?_))
    | ((with_reducible refine (?_ : AllLe _ _)); first | (first | exact AllLe.refl _ | (repeat' (first | exact trivial | apply Le.aggs | apply Le.tups | exact Le.refl _ | refine ⟨?_, ?_⟩))))
    | ((with_reducible refine (?_ : Sc _ (AllRen _ _ _))); refine Sc.of ?_; (repeat' (first | exact trivial | apply Le.aggs | apply Le.tups | exact Le.refl _ | refine ⟨?_, ?_⟩)))
    | ((with_reducible refine (?_ : (List.all _ _) = true)); rfl)
    | ((with_reducible refine (?_ : (and _ _) = true)); rfl)
    | ((with_reducible refine (?_ : List.Nodup _)); exact nodupB_spec rfl)
    | ((with_reducible refine (?_ : @Eq Nat _ _)); rfl)
    | ((with_reducible refine (?_ : LeOks _ _ _)); first | exact trivial | exact ⟨.refl _, trivial⟩ | exact ⟨.refl _, .refl _, trivial⟩)
    | ((fail_if_success with_reducible refine (?_ : False)); (fail_if_success with_reducible refine (?_ : Nat)); (fail_if_success with_reducible refine (?_ : Nat → Nat → AV)); (fail_if_success with_reducible refine (?_ : Sc _ _)); (fail_if_success with_reducible refine (?_ : Side _)); (fail_if_success with_reducible refine (?_ : Exists _)); (fail_if_success with_reducible refine (?_ : Ends _ _ _ _ _ _ _)); (fail_if_success with_reducible refine (?_ : Alt _ _)); (fail_if_success with_reducible refine (?_ : Le _ _)); (fail_if_success with_reducible refine (?_ : LeAll _ _ _)); (first | with_reducible refine And.intro ?_ ?_ | with_reducible refine Cut.go ?_ | (with_reducible (refine impI ?_; intro _)) | (with_reducible refine (?_ : footOK _ _ = true); kernel_rfl) | ((with_reducible refine propI ?_); conv => whnf))))
  refine ⟨Nat, fun i => ([(0, iRow l), (1, .fn 143 0 (fun _ => .any)), (2, .int .i64 e), (9, iRow l), (10, .int .i64 l.length), (11, .int .i64 i)], []), fun i => i ≤ l.length ∧ ∀ j, j < i → riseAt 0 7 e l j = 0, fun i => l.length - i, ⟨0, ⟨Nat.zero_le _, fun _ h => by omega⟩, .le ⟨rfl, trivial, ⟨.refl _, .refl _, .refl _, .refl _, .refl _, .refl _, trivial⟩⟩⟩, fun i ⟨hi, h0⟩ => ?_⟩
  repeat' (first
    | ((with_reducible refine (?_ : Alt _ _)); first | (with_reducible apply callAlt (c143 hX _)) | (with_reducible refine Alt.one ?_))
    | ((with_reducible refine (?_ : AllLe _ _)); first | (first | exact AllLe.refl _ | (repeat' (first | exact trivial | apply Le.aggs | apply Le.tups | exact Le.refl _ | refine ⟨?_, ?_⟩))))
    | ((with_reducible refine (?_ : Sc _ (AllRen _ _ _))); refine Sc.of ?_; (repeat' (first | exact trivial | apply Le.aggs | apply Le.tups | exact Le.refl _ | refine ⟨?_, ?_⟩)))
    | ((with_reducible refine (?_ : (List.all _ _) = true)); rfl)
    | ((with_reducible refine (?_ : (and _ _) = true)); rfl)
    | ((with_reducible refine (?_ : List.Nodup _)); exact nodupB_spec rfl)
    | ((with_reducible refine (?_ : @Eq Nat _ _)); rfl)
    | ((with_reducible refine (?_ : LeOks _ _ _)); first | exact trivial | exact ⟨.refl _, trivial⟩ | exact ⟨.refl _, .refl _, trivial⟩)
    | ((fail_if_success with_reducible refine (?_ : False)); (fail_if_success with_reducible refine (?_ : Nat)); (fail_if_success with_reducible refine (?_ : Nat → Nat → AV)); (fail_if_success with_reducible refine (?_ : Sc _ _)); (fail_if_success with_reducible refine (?_ : Side _)); (fail_if_success with_reducible refine (?_ : Exists _)); (fail_if_success with_reducible refine (?_ : Ends _ _ _ _ _ _ _)); (fail_if_success with_reducible refine (?_ : Alt _ _)); (fail_if_success with_reducible refine (?_ : Le _ _)); (fail_if_success with_reducible refine (?_ : LeAll _ _ _)); (first | with_reducible refine And.intro ?_ ?_ | with_reducible refine Cut.go ?_ | (with_reducible (refine impI ?_; intro _)) | (with_reducible refine (?_ : footOK _ _ = true); kernel_rfl) | ((with_reducible refine propI ?_); conv => whnf))))
  all_goals first
    | exact .of (Nat.le_of_ble_eq_true rfl)
    | (rename_i h; have h := of_decide_eq_true h; exact .of ⟨by omega, by omega⟩)
    | (rename_i h; have h := of_decide_eq_false h; exact .mk [] [] _ rfl (.le (.intI ((rise_none (fun j hj => h0 j (by omega))).symm))) trivial rfl)
    | (rename_i h1 h; have h1 := of_decide_eq_true h1
       simp only [Bool.not_eq_true', Bool.not_eq_false', Int.toNat_natCast] at h
       first
         | (refine Sc.imp fun q => ?_; have q := of_decide_eq_true q; exact ⟨by omega, by omega⟩)
         | exact Sc.of (Nat.le_of_ble_eq_true rfl)
         | (have k := rise_out (e := e) h
            exact .mk [] [] _ rfl (.le (.intI (by rw [rise_hit (by omega) h0 (by rw [k]; exact he), k]))) trivial rfl))
    | (rename_i h1 h h2; have h1 := of_decide_eq_true h1
       simp only [Bool.not_eq_true', Bool.not_eq_false', Int.toNat_natCast] at h h2
       first
         | exact .of ⟨by omega, by omega⟩
         | exact ⟨i + 1, ⟨by omega, all_lt h0 (rise_0 h h2)⟩, by show l.length - (i + 1) < l.length - i; omega, .le ⟨rfl, trivial, ⟨.refl _, .refl _, .refl _, .refl _, .refl _, .refl _, trivial⟩⟩⟩
         | (have k := rise_9 (e := e) h h2; exact .mk [] [] _ rfl (.le (.intI (by rw [rise_hit (by omega) h0 (by rw [k]; decide), k]))) trivial rfl))
theorem c142 (t : Trf) (n : Int) (hs : Side (t.zones.length ≤ 1000)) : Mut (Xc W0 G) 142 [.int .i64 n, .ptr 0 0] [.box (trfC t)] (.bool (zoneIn t n)) [.box (trfC t)] := by
  refine mut_of' hX (show FnIs (Xc W0 G) 142 Tryz.f142 (codeOf Tryz.f142) from ⟨by kernel_rfl, by kernel_rfl, by kernel_rfl, by kernel_rfl⟩) rfl ?_
  repeat' (first
    | ((with_reducible refine (?_ : Alt _ _)); first | (with_reducible apply callAlt (c112 hX t _ hs)) | (with_reducible refine Alt.one ?_))
    | ((with_reducible refine (?_ : AllLe _ _)); first | (first | exact AllLe.refl _ | (repeat' (first | exact trivial | apply Le.aggs | apply Le.tups | exact Le.refl _ | refine ⟨?_, ?_⟩))))
    | ((with_reducible refine (?_ : Sc _ (AllRen _ _ _))); refine Sc.of ?_; (repeat' (first | exact trivial | apply Le.aggs | apply Le.tups | exact Le.refl _ | refine ⟨?_, ?_⟩)))
    | ((with_reducible refine (?_ : (List.all _ _) = true)); rfl)
    | ((with_reducible refine (?_ : (and _ _) = true)); rfl)
    | ((with_reducible refine (?_ : List.Nodup _)); exact nodupB_spec rfl)
    | ((with_reducible refine (?_ : @Eq Nat _ _)); rfl)
    | ((with_reducible refine (?_ : LeOks _ _ _)); first | exact trivial | exact ⟨.refl _, trivial⟩ | exact ⟨.refl _, .refl _, trivial⟩)
    | ((fail_if_success with_reducible refine (?_ : False)); (fail_if_success with_reducible refine (?_ : Nat)); (fail_if_success with_reducible refine (?_ : Nat → Nat → AV)); (fail_if_success with_reducible refine (?_ : Sc _ _)); (fail_if_success with_reducible refine (?_ : Side _)); (fail_if_success with_reducible refine (?_ : Exists _)); (fail_if_success with_reducible refine (?_ : Ends _ _ _ _ _ _ _)); (fail_if_success with_reducible refine (?_ : Alt _ _)); (fail_if_success with_reducible refine (?_ : Le _ _)); (fail_if_success with_reducible refine (?_ : LeAll _ _ _)); (first | with_reducible refine And.intro ?_ ?_ | with_reducible refine Cut.go ?_ | (with_reducible (refine impI ?_; intro _)) | (with_reducible refine (?_ : footOK _ _ = true); kernel_rfl) | ((with_reducible refine propI ?_); conv => whnf))))
  all_goals try (exact .of (Nat.le_of_ble_eq_true rfl))
  all_goals exact .mk [] [] _ rfl (.le (.refl _)) ⟨.le (.refl _), trivial⟩ rfl
theorem c100z (t : Trf) (l : List Int) (e : Int) (he : e ≠ 0) (hs : Side (t.zones.length ≤ 1000)) (hn : Side (l.length ≤ 1000000)) : Mut (Xc W0 G) 100 [iRow l, .fn 142 1 (tbl [.ptr 0 0]), .int .i64 e] [.box (trfC t)] (.int .i64 (riseE 0 (t.zones.length - 1) e l)) [.box (trfC t)] := by
  have hn := hn.get
  refine mut_of' hX (show FnIs (Xc W0 G) 100 Tryz.f100 (codeOf Tryz.f100) from ⟨by kernel_rfl, by kernel_rfl, by kernel_rfl, by kernel_rfl⟩) rfl ?_
  repeat' (first
    | ((with_reducible refine (?_ : Alt _ _)); first | fail | (with_reducible refine Alt.one ?_))
    | ((with_reducible refine (?_ : AllLe _ _)); first | (first | exact AllLe.refl _ | (repeat' (first | exact trivial | apply Le.aggs | apply Le.tups | exact Le.refl _ | refine ⟨?_, ?_⟩))))
    | ((with_reducible refine (?_ : Sc _ (AllRen _ _ _))); refine Sc.of ?_; (repeat' (first | exact trivial | apply Le.aggs | apply Le.tups | exact Le.refl _ | refine ⟨?_, ?_⟩)))
    | ((with_reducible refine (?_ : (List.all _ _) = true)); rfl)
    | ((with_reducible refine (?_ : (and _ _) = true)); rfl)
    | ((with_reducible refine (?_ : List.Nodup _)); exact nodupB_spec rfl)
    | ((with_reducible refine (?_ : @Eq Nat _ _)); rfl)
    | ((with_reducible refine (?_ : LeOks _ _ _)); first | exact trivial | exact ⟨.refl _, trivial⟩ | exact ⟨.refl _, .refl _, trivial⟩)
    | ((fail_if_success with_reducible refine (?_ : False)); (fail_if_success with_reducible refine (?_ : Nat)); (fail_if_success with_reducible refine (?_ : Nat → Nat → AV)); (fail_if_success with_reducible refine (?_ : Sc _ _)); (fail_if_success with_reducible refine (?_ : Side _)); (fail_if_success with_reducible refine (?_ : Exists _)); (fail_if_success with_reducible refine (?_ : Ends _ _ _ _ _ _ _)); (fail_if_success with_reducible refine (?_ : Alt _ _)); (fail_if_success with_reducible refine (?_ : Le _ _)); (fail_if_success with_reducible refine (?_ : LeAll _ _ _)); (first | with_reducible refine And.intro ?_ ?_ | with_reducible refine Cut.go ?_ | (with_reducible (refine impI ?_; intro _)) | (with_reducible refine (?_ : footOK _ _ = true); kernel_rfl) | ((with_reducible refine propI ?_); conv => whnf))))
  refine ⟨Nat, fun i => ([(0, iRow l), (1, .fn 142 1 (tbl [.ptr 0 0])), (2, .int .i64 e), (9, iRow l), (10, .int .i64 l.length), (11, .int .i64 i)], [.box (trfC t)]), fun i => i ≤ l.length ∧ ∀ j, j < i → riseAt 0 (t.zones.length - 1) e l j = 0, fun i => l.length - i, ⟨0, ⟨Nat.zero_le _, fun _ h => by omega⟩, .le ⟨rfl, ⟨.refl _, trivial⟩, ⟨.refl _, .refl _, .refl _, .refl _, .refl _, .refl _, trivial⟩⟩⟩, fun i ⟨hi, h0⟩ => ?_⟩
  repeat' (first
    | ((with_reducible refine (?_ : Alt _ _)); first | (with_reducible (apply altM (ks := [0]) (m := 0); apply And.intro; apply Sc.of; apply (c142 hX t _ hs))) | (with_reducible refine Alt.one ?_))
    | ((with_reducible refine (?_ : AllLe _ _)); first | (first | exact AllLe.refl _ | (repeat' (first | exact trivial | apply Le.aggs | apply Le.tups | exact Le.refl _ | refine ⟨?_, ?_⟩))))
    | ((with_reducible refine (?_ : Sc _ (AllRen _ _ _))); refine Sc.of ?_; (repeat' (first | exact trivial | apply Le.aggs | apply Le.tups | exact Le.refl _ | refine ⟨?_, ?_⟩)))
    | ((with_reducible refine (?_ : (List.all _ _) = true)); rfl)
    | ((with_reducible refine (?_ : (and _ _) = true)); rfl)
    | ((with_reducible refine (?_ : List.Nodup _)); exact nodupB_spec rfl)
    | ((with_reducible refine (?_ : @Eq Nat _ _)); rfl)
    | ((with_reducible refine (?_ : LeOks _ _ _)); first | exact trivial | exact ⟨.refl _, trivial⟩ | exact ⟨.refl _, .refl _, trivial⟩)
    | ((fail_if_success with_reducible refine (?_ : False)); (fail_if_success with_reducible refine (?_ : Nat)); (fail_if_success with_reducible refine (?_ : Nat → Nat → AV)); (fail_if_success with_reducible refine (?_ : Sc _ _)); (fail_if_success with_reducible refine (?_ : Side _)); (fail_if_success with_reducible refine (?_ : Exists _)); (fail_if_success with_reducible refine (?_ : Ends _ _ _ _ _ _ _)); (fail_if_success with_reducible refine (?_ : Alt _ _)); (fail_if_success with_reducible refine (?_ : Le _ _)); (fail_if_success with_reducible refine (?_ : LeAll _ _ _)); (first | with_reducible refine And.intro ?_ ?_ | with_reducible refine Cut.go ?_ | (with_reducible (refine impI ?_; intro _)) | (with_reducible refine (?_ : footOK _ _ = true); kernel_rfl) | ((with_reducible refine propI ?_); conv => whnf))))
  all_goals first
    | exact .of (Nat.le_of_ble_eq_true rfl)
    | (rename_i h; have h := of_decide_eq_true h; exact .of ⟨by omega, by omega⟩)
    | (rename_i h; have h := of_decide_eq_false h; exact .mk [] [] _ rfl (.le (.intI ((rise_none (fun j hj => h0 j (by omega))).symm))) ⟨.le (.refl _), trivial⟩ rfl)
    | (rename_i h1 h; have h1 := of_decide_eq_true h1
       simp only [Bool.not_eq_true', Bool.not_eq_false', Int.toNat_natCast] at h
       first
         | (refine Sc.imp fun q => ?_; have q := of_decide_eq_true q; exact ⟨by omega, by omega⟩)
         | exact Sc.of (Nat.le_of_ble_eq_true rfl)
         | (have k := rise_out (e := e) h
            exact .mk [] [] _ rfl (.le (.intI (by rw [rise_hit (by omega) h0 (by rw [k]; exact he), k]))) ⟨.le (.refl _), trivial⟩ rfl))
    | (rename_i h1 h h2; have h1 := of_decide_eq_true h1
       simp only [Bool.not_eq_true', Bool.not_eq_false', Int.toNat_natCast] at h h2
       first
         | exact .of ⟨by omega, by omega⟩
         | exact ⟨i + 1, ⟨by omega, all_lt h0 (rise_0 h h2)⟩, by show l.length - (i + 1) < l.length - i; omega, .le ⟨rfl, ⟨.refl _, trivial⟩, ⟨.refl _, .refl _, .refl _, .refl _, .refl _, .refl _, trivial⟩⟩⟩
         | (have k := rise_9 (e := e) h h2; exact .mk [] [] _ rfl (.le (.intI (by rw [rise_hit (by omega) h0 (by rw [k]; decide), k]))) ⟨.le (.refl _), trivial⟩ rfl))
end
end Go.Fx

/-
  Names; texts among others; numbers that ascend (of the reference).
-/
namespace Go.Fx
open Go.Proofs Go.RowKit

theorem name_bad {s : ByteArray} {i : Nat} (hi : i < s.size) (h : badB i (byteAt s i) = true) : nameB s = false := by
  unfold nameB
  rw [any_hit hi h]
  cases decide ((s.size : Int) < 1) <;> cases decide (12 < (s.size : Int)) <;> rfl
theorem name_all {s : ByteArray} (h : ∀ j : Nat, j < s.size → badB j (byteAt s j) = false) : nameB s = bif decide ((s.size : Int) < 1) then false else bif decide (12 < (s.size : Int)) then false else true := by
  unfold nameB
  rw [any_none (fun j hj => h j hj)]; rfl
theorem name_end {s : ByteArray} (h : ∀ j : Nat, j < s.size → badB j (byteAt s j) = false) : (bif !decide (s = ⟨#[]⟩) then decide ((s.size : Int) ≤ 12) else false) = nameB s := by
  rw [name_all h]
  by_cases h0 : s = ⟨#[]⟩
  · subst h0; rfl
  · have h1 : s.size ≠ 0 := fun e => h0 (by cases s with | mk d => cases d with | mk l => cases l with | nil => rfl | cons => simp [ByteArray.size] at e)
    by_cases h2 : (s.size : Int) ≤ 12
    · simp [h0, h2, show ¬ (s.size : Int) < 1 by omega, show ¬ 12 < (s.size : Int) by omega]
    · simp [h0, h2, show ¬ (s.size : Int) < 1 by omega, show 12 < (s.size : Int) by omega]
theorem name_big {s : ByteArray} (h : (bif decide ((s.size : Int) < 1) then true else decide (12 < (s.size : Int))) = true) : nameB s = false := by
  unfold nameB
  cases h1 : decide ((s.size : Int) < 1) <;> cases h2 : decide (12 < (s.size : Int)) <;> simp_all
theorem name_fit {s : ByteArray} (h : (bif decide ((s.size : Int) < 1) then true else decide (12 < (s.size : Int))) = false) (h0 : ∀ j : Nat, j < s.size → badB j (byteAt s j) = false) : nameB s = true := by
  rw [name_all h0]
  cases h1 : decide ((s.size : Int) < 1) <;> cases h2 : decide (12 < (s.size : Int)) <;> simp_all
theorem has_find {l : List ByteArray} {s : ByteArray} : decide (0 ≤ findI (fun i => decide (s = l.getD i bs0)) l.length) = hasB l l.length s := by
  rw [findI_ge]
  unfold hasB
  congr 1
  funext i
  exact decide_eq_decide.2 eq_comm
section
variable {W0 : World} {G : Nat → Option AV} (hX : (Xc W0 G).Good)
include hX
theorem c138 (s : ByteArray) (hs : Side (s.size ≤ 1000)) : Pure (Xc W0 G) 138 [.str s] (.bool (nameB s)) := by
  have hs := hs.get
  refine mut_of' hX (show FnIs (Xc W0 G) 138 Tryz.f138 (codeOf Tryz.f138) from ⟨by kernel_rfl, by kernel_rfl, by kernel_rfl, by kernel_rfl⟩) rfl ?_
  repeat' (first
    | ((with_reducible refine (?_ : Alt _ _)); first | fail | (with_reducible refine Alt.one ?_))
    | ((with_reducible refine (?_ : AllLe _ _)); first | (first | exact AllLe.refl _ | (repeat' (first | exact trivial | apply Le.aggs | apply Le.tups | exact Le.refl _ | refine ⟨?_, ?_⟩))))
    | ((with_reducible refine (?_ : Sc _ (AllRen _ _ _))); refine Sc.of ?_; (repeat' (first | exact trivial | apply Le.aggs | apply Le.tups | exact Le.refl _ | refine ⟨?_, ?_⟩)))
    | ((with_reducible refine (?_ : (List.all _ _) = true)); rfl)
    | ((with_reducible refine (?_ : (and _ _) = true)); rfl)
    | ((with_reducible refine (?_ : List.Nodup _)); exact nodupB_spec rfl)
    | ((with_reducible refine (?_ : @Eq Nat _ _)); rfl)
    | ((with_reducible refine (?_ : LeOks _ _ _)); first | exact trivial | exact ⟨.refl _, trivial⟩ | exact ⟨.refl _, .refl _, trivial⟩)
    | ((fail_if_success with_reducible refine (?_ : False)); (fail_if_success with_reducible refine (?_ : Nat)); (fail_if_success with_reducible refine (?_ : Nat → Nat → AV)); (fail_if_success with_reducible refine (?_ : Sc _ _)); (fail_if_success with_reducible refine (?_ : Side _)); (fail_if_success with_reducible refine (?_ : Exists _)); (fail_if_success with_reducible refine (?_ : Ends _ _ _ _ _ _ _)); (fail_if_success with_reducible refine (?_ : Alt _ _)); (fail_if_success with_reducible refine (?_ : Le _ _)); (fail_if_success with_reducible refine (?_ : LeAll _ _ _)); (first | with_reducible refine And.intro ?_ ?_ | with_reducible refine Cut.go ?_ | (with_reducible (refine impI ?_; intro _)) | (with_reducible refine (?_ : footOK _ _ = true); kernel_rfl) | ((with_reducible refine propI ?_); conv => whnf))))
  refine ⟨Nat, fun i => ([(0, .str s), (7, .slc 1 s.size (fun i _ => .int .u8 (byteAt s i))), (8, .int .i64 s.size), (9, .int .i64 i)], []), fun i => i ≤ s.size ∧ ∀ j : Nat, j < i → badB j (byteAt s j) = false, fun i => s.size - i, ⟨0, ⟨Nat.zero_le _, fun _ h => by omega⟩, .le ⟨rfl, trivial, ⟨.refl _, .refl _, .refl _, .refl _, trivial⟩⟩⟩, fun i ⟨hi, h0⟩ => ?_⟩
  repeat' (first
    | ((with_reducible refine (?_ : Alt _ _)); first | fail | (with_reducible refine Alt.one ?_))
    | ((with_reducible refine (?_ : AllLe _ _)); first | (first | exact AllLe.refl _ | (repeat' (first | exact trivial | apply Le.aggs | apply Le.tups | exact Le.refl _ | refine ⟨?_, ?_⟩))))
    | ((with_reducible refine (?_ : Sc _ (AllRen _ _ _))); refine Sc.of ?_; (repeat' (first | exact trivial | apply Le.aggs | apply Le.tups | exact Le.refl _ | refine ⟨?_, ?_⟩)))
    | ((with_reducible refine (?_ : (List.all _ _) = true)); rfl)
    | ((with_reducible refine (?_ : (and _ _) = true)); rfl)
    | ((with_reducible refine (?_ : List.Nodup _)); exact nodupB_spec rfl)
    | ((with_reducible refine (?_ : @Eq Nat _ _)); rfl)
    | ((with_reducible refine (?_ : LeOks _ _ _)); first | exact trivial | exact ⟨.refl _, trivial⟩ | exact ⟨.refl _, .refl _, trivial⟩)
    | ((fail_if_success with_reducible refine (?_ : False)); (fail_if_success with_reducible refine (?_ : Nat)); (fail_if_success with_reducible refine (?_ : Nat → Nat → AV)); (fail_if_success with_reducible refine (?_ : Sc _ _)); (fail_if_success with_reducible refine (?_ : Side _)); (fail_if_success with_reducible refine (?_ : Exists _)); (fail_if_success with_reducible refine (?_ : Ends _ _ _ _ _ _ _)); (fail_if_success with_reducible refine (?_ : Alt _ _)); (fail_if_success with_reducible refine (?_ : Le _ _)); (fail_if_success with_reducible refine (?_ : LeAll _ _ _)); (first | with_reducible refine And.intro ?_ ?_ | with_reducible refine Cut.go ?_ | (with_reducible (refine impI ?_; intro _)) | (with_reducible refine (?_ : footOK _ _ = true); kernel_rfl) | ((with_reducible refine propI ?_); conv => whnf))))
  all_goals first
    | exact .of (Nat.le_of_ble_eq_true rfl)
    | (rename_i h; have h := of_decide_eq_true h; exact .of ⟨by omega, by omega⟩)
    | (rename_i h; have h := of_decide_eq_false h; exact .mk [] [] _ rfl (.le (.boolT (name_end (fun j hj => h0 j (by omega))))) trivial rfl)
    | (rename_i h1 h; have h1 := of_decide_eq_true h1
       simp only [Int.toNat_natCast] at h
       first
         | exact .of ⟨by omega, by omega⟩
         | exact ⟨i + 1, ⟨by omega, all_lt h0 (h)⟩, by show s.size - (i + 1) < s.size - i; omega, .le ⟨rfl, trivial, ⟨.refl _, .refl _, .refl _, .refl _, trivial⟩⟩⟩
         | (exact .mk [] [] _ rfl (.le (.boolT ((name_bad (by omega) h).symm))) trivial rfl))
theorem c146 (s : ByteArray) (hs : Side (s.size ≤ 1000)) : Pure (Xc W0 G) 146 [.str s] (.bool (nameB s)) := by
  have hs := hs.get
  refine mut_of' hX (show FnIs (Xc W0 G) 146 Tryz.f146 (codeOf Tryz.f146) from ⟨by kernel_rfl, by kernel_rfl, by kernel_rfl, by kernel_rfl⟩) rfl ?_
  repeat' (first
    | ((with_reducible refine (?_ : Alt _ _)); first | fail | (with_reducible refine Alt.one ?_))
    | ((with_reducible refine (?_ : AllLe _ _)); first | (first | exact AllLe.refl _ | (repeat' (first | exact trivial | apply Le.aggs | apply Le.tups | exact Le.refl _ | refine ⟨?_, ?_⟩))))
    | ((with_reducible refine (?_ : Sc _ (AllRen _ _ _))); refine Sc.of ?_; (repeat' (first | exact trivial | apply Le.aggs | apply Le.tups | exact Le.refl _ | refine ⟨?_, ?_⟩)))
    | ((with_reducible refine (?_ : (List.all _ _) = true)); rfl)
    | ((with_reducible refine (?_ : (and _ _) = true)); rfl)
    | ((with_reducible refine (?_ : List.Nodup _)); exact nodupB_spec rfl)
    | ((with_reducible refine (?_ : @Eq Nat _ _)); rfl)
    | ((with_reducible refine (?_ : LeOks _ _ _)); first | exact trivial | exact ⟨.refl _, trivial⟩ | exact ⟨.refl _, .refl _, trivial⟩)
    | ((fail_if_success with_reducible refine (?_ : False)); (fail_if_success with_reducible refine (?_ : Nat)); (fail_if_success with_reducible refine (?_ : Nat → Nat → AV)); (fail_if_success with_reducible refine (?_ : Sc _ _)); (fail_if_success with_reducible refine (?_ : Side _)); (fail_if_success with_reducible refine (?_ : Exists _)); (fail_if_success with_reducible refine (?_ : Ends _ _ _ _ _ _ _)); (fail_if_success with_reducible refine (?_ : Alt _ _)); (fail_if_success with_reducible refine (?_ : Le _ _)); (fail_if_success with_reducible refine (?_ : LeAll _ _ _)); (first | with_reducible refine And.intro ?_ ?_ | with_reducible refine Cut.go ?_ | (with_reducible (refine impI ?_; intro _)) | (with_reducible refine (?_ : footOK _ _ = true); kernel_rfl) | ((with_reducible refine propI ?_); conv => whnf))))
  · rename_i h; exact .mk [] [] _ rfl (.le (.boolT ((name_big h).symm))) trivial rfl
  rename_i hf
  refine ⟨Nat, fun i => ([(0, .str s), (3, .int .i64 i)], []), fun i => i ≤ s.size ∧ ∀ j : Nat, j < i → badB j (byteAt s j) = false, fun i => s.size - i, ⟨0, ⟨Nat.zero_le _, fun _ h => by omega⟩, .le ⟨rfl, trivial, ⟨.refl _, .refl _, trivial⟩⟩⟩, fun i ⟨hi, h0⟩ => ?_⟩
  repeat' (first
    | ((with_reducible refine (?_ : Alt _ _)); first | fail | (with_reducible refine Alt.one ?_))
    | ((with_reducible refine (?_ : AllLe _ _)); first | (first | exact AllLe.refl _ | (repeat' (first | exact trivial | apply Le.aggs | apply Le.tups | exact Le.refl _ | refine ⟨?_, ?_⟩))))
    | ((with_reducible refine (?_ : Sc _ (AllRen _ _ _))); refine Sc.of ?_; (repeat' (first | exact trivial | apply Le.aggs | apply Le.tups | exact Le.refl _ | refine ⟨?_, ?_⟩)))
    | ((with_reducible refine (?_ : (List.all _ _) = true)); rfl)
    | ((with_reducible refine (?_ : (and _ _) = true)); rfl)
    | ((with_reducible refine (?_ : List.Nodup _)); exact nodupB_spec rfl)
    | ((with_reducible refine (?_ : @Eq Nat _ _)); rfl)
    | ((with_reducible refine (?_ : LeOks _ _ _)); first | exact trivial | exact ⟨.refl _, trivial⟩ | exact ⟨.refl _, .refl _, trivial⟩)
    | ((fail_if_success with_reducible refine (?_ : False)); (fail_if_success with_reducible refine (?_ : Nat)); (fail_if_success with_reducible refine (?_ : Nat → Nat → AV)); (fail_if_success with_reducible refine (?_ : Sc _ _)); (fail_if_success with_reducible refine (?_ : Side _)); (fail_if_success with_reducible refine (?_ : Exists _)); (fail_if_success with_reducible refine (?_ : Ends _ _ _ _ _ _ _)); (fail_if_success with_reducible refine (?_ : Alt _ _)); (fail_if_success with_reducible refine (?_ : Le _ _)); (fail_if_success with_reducible refine (?_ : LeAll _ _ _)); (first | with_reducible refine And.intro ?_ ?_ | with_reducible refine Cut.go ?_ | (with_reducible (refine impI ?_; intro _)) | (with_reducible refine (?_ : footOK _ _ = true); kernel_rfl) | ((with_reducible refine propI ?_); conv => whnf))))
  all_goals first
    | exact .of (Nat.le_of_ble_eq_true rfl)
    | (rename_i h; have h := of_decide_eq_true h; exact .of ⟨by omega, by omega⟩)
    | (rename_i h; have h := of_decide_eq_false h; exact .mk [] [] _ rfl (.le (.boolT ((name_fit hf (fun j hj => h0 j (by omega))).symm))) trivial rfl)
    | (rename_i h1 h; have h1 := of_decide_eq_true h1
       simp only [Int.toNat_natCast] at h
       first
         | exact .of ⟨by omega, by omega⟩
         | exact ⟨i + 1, ⟨by omega, all_lt h0 (h)⟩, by show s.size - (i + 1) < s.size - i; omega, .le ⟨rfl, trivial, ⟨.refl _, .refl _, trivial⟩⟩⟩
         | (exact .mk [] [] _ rfl (.le (.boolT ((name_bad (by omega) h).symm))) trivial rfl))
theorem c173 (l : List ByteArray) (s : ByteArray) (hs : Side (l.length ≤ 1000)) : Pure (Xc W0 G) 173 [sRow l, .str s] (.int .i64 (findI (fun i => decide (s = l.getD i bs0)) l.length)) := by
  have hs := hs.get
  refine mut_of' hX (show FnIs (Xc W0 G) 173 Tryz.f173 (codeOf Tryz.f173) from ⟨by kernel_rfl, by kernel_rfl, by kernel_rfl, by kernel_rfl⟩) rfl ?_
  repeat' (first
    | ((with_reducible refine (?_ : Alt _ _)); first | fail | (with_reducible refine Alt.one ?_))
    | ((with_reducible refine (?_ : AllLe _ _)); first | (first | exact AllLe.refl _ | (repeat' (first | exact trivial | apply Le.aggs | apply Le.tups | exact Le.refl _ | refine ⟨?_, ?_⟩))))
    | ((with_reducible refine (?_ : Sc _ (AllRen _ _ _))); refine Sc.of ?_; (repeat' (first | exact trivial | apply Le.aggs | apply Le.tups | exact Le.refl _ | refine ⟨?_, ?_⟩)))
    | ((with_reducible refine (?_ : (List.all _ _) = true)); rfl)
    | ((with_reducible refine (?_ : (and _ _) = true)); rfl)
    | ((with_reducible refine (?_ : List.Nodup _)); exact nodupB_spec rfl)
    | ((with_reducible refine (?_ : @Eq Nat _ _)); rfl)
    | ((with_reducible refine (?_ : LeOks _ _ _)); first | exact trivial | exact ⟨.refl _, trivial⟩ | exact ⟨.refl _, .refl _, trivial⟩)
    | ((fail_if_success with_reducible refine (?_ : False)); (fail_if_success with_reducible refine (?_ : Nat)); (fail_if_success with_reducible refine (?_ : Nat → Nat → AV)); (fail_if_success with_reducible refine (?_ : Sc _ _)); (fail_if_success with_reducible refine (?_ : Side _)); (fail_if_success with_reducible refine (?_ : Exists _)); (fail_if_success with_reducible refine (?_ : Ends _ _ _ _ _ _ _)); (fail_if_success with_reducible refine (?_ : Alt _ _)); (fail_if_success with_reducible refine (?_ : Le _ _)); (fail_if_success with_reducible refine (?_ : LeAll _ _ _)); (first | with_reducible refine And.intro ?_ ?_ | with_reducible refine Cut.go ?_ | (with_reducible (refine impI ?_; intro _)) | (with_reducible refine (?_ : footOK _ _ = true); kernel_rfl) | ((with_reducible refine propI ?_); conv => whnf))))
  refine ⟨Nat, fun i => ([(0, sRow l), (1, .str s), (7, .int .i64 l.length), (8, .int .i64 i)], []), fun i => i ≤ l.length ∧ ∀ j : Nat, j < i → (fun i => decide (s = l.getD i bs0)) j = false, fun i => l.length - i, ⟨0, ⟨Nat.zero_le _, fun _ h => by omega⟩, .le ⟨rfl, trivial, ⟨.refl _, .refl _, .refl _, .refl _, trivial⟩⟩⟩, fun i ⟨hi, h0⟩ => ?_⟩
  repeat' (first
    | ((with_reducible refine (?_ : Alt _ _)); first | fail | (with_reducible refine Alt.one ?_))
    | ((with_reducible refine (?_ : AllLe _ _)); first | (first | exact AllLe.refl _ | (repeat' (first | exact trivial | apply Le.aggs | apply Le.tups | exact Le.refl _ | refine ⟨?_, ?_⟩))))
    | ((with_reducible refine (?_ : Sc _ (AllRen _ _ _))); refine Sc.of ?_; (repeat' (first | exact trivial | apply Le.aggs | apply Le.tups | exact Le.refl _ | refine ⟨?_, ?_⟩)))
    | ((with_reducible refine (?_ : (List.all _ _) = true)); rfl)
    | ((with_reducible refine (?_ : (and _ _) = true)); rfl)
    | ((with_reducible refine (?_ : List.Nodup _)); exact nodupB_spec rfl)
    | ((with_reducible refine (?_ : @Eq Nat _ _)); rfl)
    | ((with_reducible refine (?_ : LeOks _ _ _)); first | exact trivial | exact ⟨.refl _, trivial⟩ | exact ⟨.refl _, .refl _, trivial⟩)
    | ((fail_if_success with_reducible refine (?_ : False)); (fail_if_success with_reducible refine (?_ : Nat)); (fail_if_success with_reducible refine (?_ : Nat → Nat → AV)); (fail_if_success with_reducible refine (?_ : Sc _ _)); (fail_if_success with_reducible refine (?_ : Side _)); (fail_if_success with_reducible refine (?_ : Exists _)); (fail_if_success with_reducible refine (?_ : Ends _ _ _ _ _ _ _)); (fail_if_success with_reducible refine (?_ : Alt _ _)); (fail_if_success with_reducible refine (?_ : Le _ _)); (fail_if_success with_reducible refine (?_ : LeAll _ _ _)); (first | with_reducible refine And.intro ?_ ?_ | with_reducible refine Cut.go ?_ | (with_reducible (refine impI ?_; intro _)) | (with_reducible refine (?_ : footOK _ _ = true); kernel_rfl) | ((with_reducible refine propI ?_); conv => whnf))))
  all_goals first
    | exact .of (Nat.le_of_ble_eq_true rfl)
    | (rename_i h; have h := of_decide_eq_true h; exact .of ⟨by omega, by omega⟩)
    | (rename_i h; have h := of_decide_eq_false h; exact .mk [] [] _ rfl (.le (.intI ((findI_none (fun j hj => h0 j (by omega))).symm))) trivial rfl)
    | (rename_i h1 h; have h1 := of_decide_eq_true h1
       simp only [Int.toNat_natCast] at h
       first
         | exact .of ⟨by omega, by omega⟩
         | exact ⟨i + 1, ⟨by omega, all_lt h0 (h)⟩, by show l.length - (i + 1) < l.length - i; omega, .le ⟨rfl, trivial, ⟨.refl _, .refl _, .refl _, .refl _, trivial⟩⟩⟩
         | (exact .mk [] [] _ rfl (.le (.intI ((findI_hit (by omega) h0 h).symm))) trivial rfl))
theorem c139 (l : List ByteArray) (s : ByteArray) (hs : Side (l.length ≤ 1000)) : Pure (Xc W0 G) 139 [sRow l, .str s] (.bool (hasB l l.length s)) := by
  refine mut_of' hX (show FnIs (Xc W0 G) 139 Tryz.f139 (codeOf Tryz.f139) from ⟨by kernel_rfl, by kernel_rfl, by kernel_rfl, by kernel_rfl⟩) rfl ?_
  repeat' (first
    | ((with_reducible refine (?_ : Alt _ _)); first | (with_reducible apply callAlt (c173 hX _ _ hs)) | (with_reducible refine Alt.one ?_))
    | ((with_reducible refine (?_ : AllLe _ _)); first | (first | exact AllLe.refl _ | (repeat' (first | exact trivial | apply Le.aggs | apply Le.tups | exact Le.refl _ | refine ⟨?_, ?_⟩))))
    | ((with_reducible refine (?_ : Sc _ (AllRen _ _ _))); refine Sc.of ?_; (repeat' (first | exact trivial | apply Le.aggs | apply Le.tups | exact Le.refl _ | refine ⟨?_, ?_⟩)))
    | ((with_reducible refine (?_ : (List.all _ _) = true)); rfl)
    | ((with_reducible refine (?_ : (and _ _) = true)); rfl)
    | ((with_reducible refine (?_ : List.Nodup _)); exact nodupB_spec rfl)
    | ((with_reducible refine (?_ : @Eq Nat _ _)); rfl)
    | ((with_reducible refine (?_ : LeOks _ _ _)); first | exact trivial | exact ⟨.refl _, trivial⟩ | exact ⟨.refl _, .refl _, trivial⟩)
    | ((fail_if_success with_reducible refine (?_ : False)); (fail_if_success with_reducible refine (?_ : Nat)); (fail_if_success with_reducible refine (?_ : Nat → Nat → AV)); (fail_if_success with_reducible refine (?_ : Sc _ _)); (fail_if_success with_reducible refine (?_ : Side _)); (fail_if_success with_reducible refine (?_ : Exists _)); (fail_if_success with_reducible refine (?_ : Ends _ _ _ _ _ _ _)); (fail_if_success with_reducible refine (?_ : Alt _ _)); (fail_if_success with_reducible refine (?_ : Le _ _)); (fail_if_success with_reducible refine (?_ : LeAll _ _ _)); (first | with_reducible refine And.intro ?_ ?_ | with_reducible refine Cut.go ?_ | (with_reducible (refine impI ?_; intro _)) | (with_reducible refine (?_ : footOK _ _ = true); kernel_rfl) | ((with_reducible refine propI ?_); conv => whnf))))
  all_goals exact .mk [] [] _ rfl (.le (.boolT (has_find))) trivial rfl
theorem c148 (l : List ByteArray) (s : ByteArray) (hs : Side (l.length ≤ 1000)) : Pure (Xc W0 G) 148 [sRow l, .str s] (.bool (hasB l l.length s)) := by
  have hs := hs.get
  refine mut_of' hX (show FnIs (Xc W0 G) 148 Tryz.f148 (codeOf Tryz.f148) from ⟨by kernel_rfl, by kernel_rfl, by kernel_rfl, by kernel_rfl⟩) rfl ?_
  repeat' (first
    | ((with_reducible refine (?_ : Alt _ _)); first | fail | (with_reducible refine Alt.one ?_))
    | ((with_reducible refine (?_ : AllLe _ _)); first | (first | exact AllLe.refl _ | (repeat' (first | exact trivial | apply Le.aggs | apply Le.tups | exact Le.refl _ | refine ⟨?_, ?_⟩))))
    | ((with_reducible refine (?_ : Sc _ (AllRen _ _ _))); refine Sc.of ?_; (repeat' (first | exact trivial | apply Le.aggs | apply Le.tups | exact Le.refl _ | refine ⟨?_, ?_⟩)))
    | ((with_reducible refine (?_ : (List.all _ _) = true)); rfl)
    | ((with_reducible refine (?_ : (and _ _) = true)); rfl)
    | ((with_reducible refine (?_ : List.Nodup _)); exact nodupB_spec rfl)
    | ((with_reducible refine (?_ : @Eq Nat _ _)); rfl)
    | ((with_reducible refine (?_ : LeOks _ _ _)); first | exact trivial | exact ⟨.refl _, trivial⟩ | exact ⟨.refl _, .refl _, trivial⟩)
    | ((fail_if_success with_reducible refine (?_ : False)); (fail_if_success with_reducible refine (?_ : Nat)); (fail_if_success with_reducible refine (?_ : Nat → Nat → AV)); (fail_if_success with_reducible refine (?_ : Sc _ _)); (fail_if_success with_reducible refine (?_ : Side _)); (fail_if_success with_reducible refine (?_ : Exists _)); (fail_if_success with_reducible refine (?_ : Ends _ _ _ _ _ _ _)); (fail_if_success with_reducible refine (?_ : Alt _ _)); (fail_if_success with_reducible refine (?_ : Le _ _)); (fail_if_success with_reducible refine (?_ : LeAll _ _ _)); (first | with_reducible refine And.intro ?_ ?_ | with_reducible refine Cut.go ?_ | (with_reducible (refine impI ?_; intro _)) | (with_reducible refine (?_ : footOK _ _ = true); kernel_rfl) | ((with_reducible refine propI ?_); conv => whnf))))
  refine ⟨Nat, fun i => ([(0, sRow l), (1, .str s), (5, .int .i64 i)], []), fun i => i ≤ l.length ∧ ∀ j : Nat, j < i → (fun i => decide (l.getD i bs0 = s)) j = false, fun i => l.length - i, ⟨0, ⟨Nat.zero_le _, fun _ h => by omega⟩, .le ⟨rfl, trivial, ⟨.refl _, .refl _, .refl _, trivial⟩⟩⟩, fun i ⟨hi, h0⟩ => ?_⟩
  repeat' (first
    | ((with_reducible refine (?_ : Alt _ _)); first | fail | (with_reducible refine Alt.one ?_))
    | ((with_reducible refine (?_ : AllLe _ _)); first | (first | exact AllLe.refl _ | (repeat' (first | exact trivial | apply Le.aggs | apply Le.tups | exact Le.refl _ | refine ⟨?_, ?_⟩))))
    | ((with_reducible refine (?_ : Sc _ (AllRen _ _ _))); refine Sc.of ?_; (repeat' (first | exact trivial | apply Le.aggs | apply Le.tups | exact Le.refl _ | refine ⟨?_, ?_⟩)))
    | ((with_reducible refine (?_ : (List.all _ _) = true)); rfl)
    | ((with_reducible refine (?_ : (and _ _) = true)); rfl)
    | ((with_reducible refine (?_ : List.Nodup _)); exact nodupB_spec rfl)
    | ((with_reducible refine (?_ : @Eq Nat _ _)); rfl)
    | ((with_reducible refine (?_ : LeOks _ _ _)); first | exact trivial | exact ⟨.refl _, trivial⟩ | exact ⟨.refl _, .refl _, trivial⟩)
    | ((fail_if_success with_reducible refine (?_ : False)); (fail_if_success with_reducible refine (?_ : Nat)); (fail_if_success with_reducible refine (?_ : Nat → Nat → AV)); (fail_if_success with_reducible refine (?_ : Sc _ _)); (fail_if_success with_reducible refine (?_ : Side _)); (fail_if_success with_reducible refine (?_ : Exists _)); (fail_if_success with_reducible refine (?_ : Ends _ _ _ _ _ _ _)); (fail_if_success with_reducible refine (?_ : Alt _ _)); (fail_if_success with_reducible refine (?_ : Le _ _)); (fail_if_success with_reducible refine (?_ : LeAll _ _ _)); (first | with_reducible refine And.intro ?_ ?_ | with_reducible refine Cut.go ?_ | (with_reducible (refine impI ?_; intro _)) | (with_reducible refine (?_ : footOK _ _ = true); kernel_rfl) | ((with_reducible refine propI ?_); conv => whnf))))
  all_goals first
    | exact .of (Nat.le_of_ble_eq_true rfl)
    | (rename_i h; have h := of_decide_eq_true h; exact .of ⟨by omega, by omega⟩)
    | (rename_i h; have h := of_decide_eq_false h; exact .mk [] [] _ rfl (.le (.boolT (by unfold hasB; rw [any_none (fun j hj => h0 j (by omega))]))) trivial rfl)
    | (rename_i h1 h; have h1 := of_decide_eq_true h1
       simp only [Int.toNat_natCast] at h
       first
         | exact .of ⟨by omega, by omega⟩
         | exact ⟨i + 1, ⟨by omega, all_lt h0 (h)⟩, by show l.length - (i + 1) < l.length - i; omega, .le ⟨rfl, trivial, ⟨.refl _, .refl _, .refl _, trivial⟩⟩⟩
         | (exact .mk [] [] _ rfl (.le (.boolT (by unfold hasB; rw [any_hit (p := (fun i => decide (l.getD i bs0 = s))) (show i < l.length by omega) h]))) trivial rfl))
theorem c96 (l : List ByteArray) (s : ByteArray) (hs : Side (l.length ≤ 1000)) (hs2 : Side (s.size ≤ 1000)) : Pure (Xc W0 G) 96 [.str s, sRow l] (.int .i64 (firstS [isOk (nameB s) 4, isOk (!hasB l l.length s) 5])) := by
  refine mut_of' hX (show FnIs (Xc W0 G) 96 Tryz.f96 (codeOf Tryz.f96) from ⟨by kernel_rfl, by kernel_rfl, by kernel_rfl, by kernel_rfl⟩) rfl ?_
  repeat' (first
    | ((with_reducible refine (?_ : Alt _ _)); first | (with_reducible apply callAlt (c138 hX _ hs2)) | (with_reducible apply callAlt (c97 hX _ _)) | (with_reducible apply callAlt (c139 hX _ _ hs)) | (with_reducible apply callAlt (c95_2 hX _ _)) | (with_reducible refine Alt.one ?_))
    | ((with_reducible refine (?_ : AllLe _ _)); first | exact ⟨le_slc2 rfl rfl, trivial⟩ | (first | exact AllLe.refl _ | (repeat' (first | exact trivial | apply Le.aggs | apply Le.tups | exact Le.refl _ | refine ⟨?_, ?_⟩))))
    | ((with_reducible refine (?_ : Sc _ (AllRen _ _ _))); refine Sc.of ?_; (repeat' (first | exact trivial | apply Le.aggs | apply Le.tups | exact Le.refl _ | refine ⟨?_, ?_⟩)))
    | ((with_reducible refine (?_ : (List.all _ _) = true)); rfl)
    | ((with_reducible refine (?_ : (and _ _) = true)); rfl)
    | ((with_reducible refine (?_ : List.Nodup _)); exact nodupB_spec rfl)
    | ((with_reducible refine (?_ : @Eq Nat _ _)); rfl)
    | ((with_reducible refine (?_ : LeOks _ _ _)); first | exact trivial | exact ⟨.refl _, trivial⟩ | exact ⟨.refl _, .refl _, trivial⟩)
    | ((fail_if_success with_reducible refine (?_ : False)); (fail_if_success with_reducible refine (?_ : Nat)); (fail_if_success with_reducible refine (?_ : Nat → Nat → AV)); (fail_if_success with_reducible refine (?_ : Sc _ _)); (fail_if_success with_reducible refine (?_ : Side _)); (fail_if_success with_reducible refine (?_ : Exists _)); (fail_if_success with_reducible refine (?_ : Ends _ _ _ _ _ _ _)); (fail_if_success with_reducible refine (?_ : Alt _ _)); (fail_if_success with_reducible refine (?_ : Le _ _)); (fail_if_success with_reducible refine (?_ : LeAll _ _ _)); (first | with_reducible refine And.intro ?_ ?_ | with_reducible refine Cut.go ?_ | (with_reducible (refine impI ?_; intro _)) | (with_reducible refine (?_ : footOK _ _ = true); kernel_rfl) | ((with_reducible refine propI ?_); conv => whnf))))
  all_goals exact .mk [] [] _ rfl (.le (.refl _)) trivial rfl
theorem c147 (n : Int) : Pure (Xc W0 G) 147 [.int .i64 n] (.int .i64 (isOk (inB n 0 100000) 2)) := by
  refine mut_of' hX (show FnIs (Xc W0 G) 147 Tryz.f147 (codeOf Tryz.f147) from ⟨by kernel_rfl, by kernel_rfl, by kernel_rfl, by kernel_rfl⟩) rfl ?_
  repeat' (first
    | ((with_reducible refine (?_ : Alt _ _)); first | (with_reducible apply callAlt (c13 hX _ _ _)) | (with_reducible refine Alt.one ?_))
    | ((with_reducible refine (?_ : AllLe _ _)); first | (first | exact AllLe.refl _ | (repeat' (first | exact trivial | apply Le.aggs | apply Le.tups | exact Le.refl _ | refine ⟨?_, ?_⟩))))
    | ((with_reducible refine (?_ : Sc _ (AllRen _ _ _))); refine Sc.of ?_; (repeat' (first | exact trivial | apply Le.aggs | apply Le.tups | exact Le.refl _ | refine ⟨?_, ?_⟩)))
    | ((with_reducible refine (?_ : (List.all _ _) = true)); rfl)
    | ((with_reducible refine (?_ : (and _ _) = true)); rfl)
    | ((with_reducible refine (?_ : List.Nodup _)); exact nodupB_spec rfl)
    | ((with_reducible refine (?_ : @Eq Nat _ _)); rfl)
    | ((with_reducible refine (?_ : LeOks _ _ _)); first | exact trivial | exact ⟨.refl _, trivial⟩ | exact ⟨.refl _, .refl _, trivial⟩)
    | ((fail_if_success with_reducible refine (?_ : False)); (fail_if_success with_reducible refine (?_ : Nat)); (fail_if_success with_reducible refine (?_ : Nat → Nat → AV)); (fail_if_success with_reducible refine (?_ : Sc _ _)); (fail_if_success with_reducible refine (?_ : Side _)); (fail_if_success with_reducible refine (?_ : Exists _)); (fail_if_success with_reducible refine (?_ : Ends _ _ _ _ _ _ _)); (fail_if_success with_reducible refine (?_ : Alt _ _)); (fail_if_success with_reducible refine (?_ : Le _ _)); (fail_if_success with_reducible refine (?_ : LeAll _ _ _)); (first | with_reducible refine And.intro ?_ ?_ | with_reducible refine Cut.go ?_ | (with_reducible (refine impI ?_; intro _)) | (with_reducible refine (?_ : footOK _ _ = true); kernel_rfl) | ((with_reducible refine propI ?_); conv => whnf))))
  all_goals (rename_i h; simp only [Bool.not_eq_true', Bool.not_eq_false'] at h; rw [h]; exact .mk [] [] _ rfl (.le (.refl _)) trivial rfl)
theorem c149 (lo hi e : Int) (l : List Int) (he : e ≠ 0) (hn : Side (l.length ≤ 1000000)) : Pure (Xc W0 G) 149 [iRow l, .int .i64 lo, .int .i64 hi, .int .i64 e] (.int .i64 (riseE lo hi e l)) := by
  have hn := hn.get
  refine mut_of' hX (show FnIs (Xc W0 G) 149 Tryz.f149 (codeOf Tryz.f149) from ⟨by kernel_rfl, by kernel_rfl, by kernel_rfl, by kernel_rfl⟩) rfl ?_
  repeat' (first
    | ((with_reducible refine (?_ : Alt _ _)); first | (with_reducible apply callAlt (c13 hX _ _ _)) | (with_reducible refine Alt.one ?_))
    | ((with_reducible refine (?_ : AllLe _ _)); first | (first | exact AllLe.refl _ | (repeat' (first | exact trivial | apply Le.aggs | apply Le.tups | exact Le.refl _ | refine ⟨?_, ?_⟩))))
    | ((with_reducible refine (?_ : Sc _ (AllRen _ _ _))); refine Sc.of ?_; (repeat' (first | exact trivial | apply Le.aggs | apply Le.tups | exact Le.refl _ | refine ⟨?_, ?_⟩)))
    | ((with_reducible refine (?_ : (List.all _ _) = true)); rfl)
    | ((with_reducible refine (?_ : (and _ _) = true)); rfl)
    | ((with_reducible refine (?_ : List.Nodup _)); exact nodupB_spec rfl)
    | ((with_reducible refine (?_ : @Eq Nat _ _)); rfl)
    | ((with_reducible refine (?_ : LeOks _ _ _)); first | exact trivial | exact ⟨.refl _, trivial⟩ | exact ⟨.refl _, .refl _, trivial⟩)
    | ((fail_if_success with_reducible refine (?_ : False)); (fail_if_success with_reducible refine (?_ : Nat)); (fail_if_success with_reducible refine (?_ : Nat → Nat → AV)); (fail_if_success with_reducible refine (?_ : Sc _ _)); (fail_if_success with_reducible refine (?_ : Side _)); (fail_if_success with_reducible refine (?_ : Exists _)); (fail_if_success with_reducible refine (?_ : Ends _ _ _ _ _ _ _)); (fail_if_success with_reducible refine (?_ : Alt _ _)); (fail_if_success with_reducible refine (?_ : Le _ _)); (fail_if_success with_reducible refine (?_ : LeAll _ _ _)); (first | with_reducible refine And.intro ?_ ?_ | with_reducible refine Cut.go ?_ | (with_reducible (refine impI ?_; intro _)) | (with_reducible refine (?_ : footOK _ _ = true); kernel_rfl) | ((with_reducible refine propI ?_); conv => whnf))))
  refine ⟨Nat, fun i => ([(0, iRow l), (1, .int .i64 lo), (2, .int .i64 hi), (3, .int .i64 e), (9, .int .i64 i)], []), fun i => i ≤ l.length ∧ ∀ j : Nat, j < i → riseAt lo hi e l j = 0, fun i => l.length - i, ⟨0, ⟨Nat.zero_le _, fun _ h => by omega⟩, .le ⟨rfl, trivial, ⟨.refl _, .refl _, .refl _, .refl _, .refl _, trivial⟩⟩⟩, fun i ⟨hi, h0⟩ => ?_⟩
  repeat' (first
    | ((with_reducible refine (?_ : Alt _ _)); first | (with_reducible apply callAlt (c13 hX _ _ _)) | (with_reducible refine Alt.one ?_))
    | ((with_reducible refine (?_ : AllLe _ _)); first | (first | exact AllLe.refl _ | (repeat' (first | exact trivial | apply Le.aggs | apply Le.tups | exact Le.refl _ | refine ⟨?_, ?_⟩))))
    | ((with_reducible refine (?_ : Sc _ (AllRen _ _ _))); refine Sc.of ?_; (repeat' (first | exact trivial | apply Le.aggs | apply Le.tups | exact Le.refl _ | refine ⟨?_, ?_⟩)))
    | ((with_reducible refine (?_ : (List.all _ _) = true)); rfl)
    | ((with_reducible refine (?_ : (and _ _) = true)); rfl)
    | ((with_reducible refine (?_ : List.Nodup _)); exact nodupB_spec rfl)
    | ((with_reducible refine (?_ : @Eq Nat _ _)); rfl)
    | ((with_reducible refine (?_ : LeOks _ _ _)); first | exact trivial | exact ⟨.refl _, trivial⟩ | exact ⟨.refl _, .refl _, trivial⟩)
    | ((fail_if_success with_reducible refine (?_ : False)); (fail_if_success with_reducible refine (?_ : Nat)); (fail_if_success with_reducible refine (?_ : Nat → Nat → AV)); (fail_if_success with_reducible refine (?_ : Sc _ _)); (fail_if_success with_reducible refine (?_ : Side _)); (fail_if_success with_reducible refine (?_ : Exists _)); (fail_if_success with_reducible refine (?_ : Ends _ _ _ _ _ _ _)); (fail_if_success with_reducible refine (?_ : Alt _ _)); (fail_if_success with_reducible refine (?_ : Le _ _)); (fail_if_success with_reducible refine (?_ : LeAll _ _ _)); (first | with_reducible refine And.intro ?_ ?_ | with_reducible refine Cut.go ?_ | (with_reducible (refine impI ?_; intro _)) | (with_reducible refine (?_ : footOK _ _ = true); kernel_rfl) | ((with_reducible refine propI ?_); conv => whnf))))
  all_goals first
    | exact .of (Nat.le_of_ble_eq_true rfl)
    | (rename_i h; have h := of_decide_eq_true h; exact .of ⟨by omega, by omega⟩)
    | (rename_i h; have h := of_decide_eq_false h; exact .mk [] [] _ rfl (.le (.intI ((rise_none (fun j hj => h0 j (by omega))).symm))) trivial rfl)
    | (rename_i h1 h; have h1 := of_decide_eq_true h1
       simp only [Bool.not_eq_true', Bool.not_eq_false', Int.toNat_natCast] at h
       first
         | (refine Sc.imp fun q => ?_; have q := of_decide_eq_true q; exact ⟨by omega, by omega⟩)
         | exact Sc.of (Nat.le_of_ble_eq_true rfl)
         | (have k := rise_out (e := e) h
            exact .mk [] [] _ rfl (.le (.intI (by rw [rise_hit (by omega) h0 (by rw [k]; exact he), k]))) trivial rfl))
    | (rename_i h1 h h2; have h1 := of_decide_eq_true h1
       simp only [Bool.not_eq_true', Bool.not_eq_false', Int.toNat_natCast] at h h2
       first
         | exact .of ⟨by omega, by omega⟩
         | exact ⟨i + 1, ⟨by omega, all_lt h0 (rise_0 h h2)⟩, by show l.length - (i + 1) < l.length - i; omega, .le ⟨rfl, trivial, ⟨.refl _, .refl _, .refl _, .refl _, .refl _, trivial⟩⟩⟩
         | (have k := rise_9 (e := e) h h2; exact .mk [] [] _ rfl (.le (.intI (by rw [rise_hit (by omega) h0 (by rw [k]; decide), k]))) trivial rfl))
end
end Go.Fx

/-
  Rules, supplements, fixed fares: what is wrong with one.
-/
namespace Go.Fx
open Go.Proofs Go.RowKit

theorem le_slc5 {f : Nat → Nat → AV} {a b c d e : Int} (h0 : f 0 0 = .int .i64 a) (h1 : f 1 0 = .int .i64 b) (h2 : f 2 0 = .int .i64 c) (h3 : f 3 0 = .int .i64 d) (h4 : f 4 0 = .int .i64 e) : Le (.slc 1 5 f) (.slc 1 [a, b, c, d, e].length (fun i _ => .int .i64 ([a, b, c, d, e].getD i 0))) :=
  .slc fun i j hi hj => by
    obtain rfl : j = 0 := by omega
    rcases (show i = 0 ∨ i = 1 ∨ i = 2 ∨ i = 3 ∨ i = 4 by omega) with rfl | rfl | rfl | rfl | rfl
    · rw [h0]; exact .refl _
    · rw [h1]; exact .refl _
    · rw [h2]; exact .refl _
    · rw [h3]; exact .refl _
    · rw [h4]; exact .refl _
theorem both_eq (a b : Bool) : (bif a then b else false) = !(bif !a then true else !b) := by cases a <;> cases b <;> rfl
theorem both_eq2 (a b : Bool) : (bif !a then !b else false) = !(bif a then true else b) := by cases a <;> cases b <;> rfl
theorem five_eq (a b c d e : Bool) : (bif (bif a then b else false) then (bif (bif c then d else false) then e else false) else false) = !(bif (bif (bif (bif !a then true else !b) then true else !c) then true else !d) then true else !e) := by
  cases a <;> cases b <;> cases c <;> cases d <;> cases e <;> rfl
theorem pos_eq (n : Nat) : decide (0 < (n : Int)) = !((n : Int) == 0) := by
  cases n with
  | zero => rfl
  | succ n => rw [decide_eq_true (by omega)]; simp; omega
theorem le_eq (a b : Int) : decide (a ≤ b) = !decide (b < a) := by by_cases q : b < a <;> simp [q] <;> omega
theorem rule_eq (nz : Int) (r : Rul) : ruleE nz r = firstS [isOk (!(bif !inB r.fr 0 100000 then true else !inB r.tt 0 100000)) 2, isOk (!decide (r.tt < r.fr)) 9, isOk (!(bif (r.zones.length : Int) == 0 then true else (r.days.length : Int) == 0)) 10, riseE 0 (nz - 1) 6 r.zones, riseE 0 7 2 r.days,
    isOk (!(bif (bif (bif (bif !inB r.bg 0 86399 then true else !inB r.en 0 86400) then true else !inB r.st 0 100000) then true else !inB r.me 0 1000000) then true else !inB r.se 0 1000000)) 2] := by
  unfold ruleE
  rw [both_eq (inB r.fr 0 100000), le_eq, pos_eq, pos_eq, both_eq2, five_eq]
theorem le_slc6 {F : Nat → Nat → AV} {a b c d e f : Int} (h0 : F 0 0 = .int .i64 a) (h1 : F 1 0 = .int .i64 b) (h2 : F 2 0 = .int .i64 c) (h3 : F 3 0 = .int .i64 d) (h4 : F 4 0 = .int .i64 e) (h5 : F 5 0 = .int .i64 f) : Le (.slc 1 6 F) (.slc 1 [a, b, c, d, e, f].length (fun i _ => .int .i64 ([a, b, c, d, e, f].getD i 0))) :=
  .slc fun i j hi hj => by
    obtain rfl : j = 0 := by omega
    rcases (show i = 0 ∨ i = 1 ∨ i = 2 ∨ i = 3 ∨ i = 4 ∨ i = 5 by omega) with rfl | rfl | rfl | rfl | rfl | rfl
    · rw [h0]; exact .refl _
    · rw [h1]; exact .refl _
    · rw [h2]; exact .refl _
    · rw [h3]; exact .refl _
    · rw [h4]; exact .refl _
    · rw [h5]; exact .refl _
section
variable {W0 : World} {G : Nat → Option AV} (hX : (Xc W0 G).Good)
include hX
theorem c105 (t : Trf) (r : Rul) (hs : Side (t.zones.length ≤ 1000 ∧ r.zones.length ≤ 1000 ∧ r.days.length ≤ 1000)) : Pure (Xc W0 G) 105 [trfA t, rulA r] (.int .i64 (ruleE t.zones.length r)) := by
  have hs := hs.get
  refine mut_of' hX (show FnIs (Xc W0 G) 105 Tryz.f105 (codeOf Tryz.f105) from ⟨by kernel_rfl, by kernel_rfl, by kernel_rfl, by kernel_rfl⟩) rfl ?_
  repeat' (first
    | ((with_reducible refine (?_ : Alt _ _)); first | (with_reducible apply callAlt (c141 hX _)) | (with_reducible apply callAlt (c93 hX _ _ _)) | (with_reducible apply callAlt (c94 hX _)) | (with_reducible apply callAlt (c101 hX _)) | (with_reducible apply callAlt (c97 hX _ _)) | ((with_reducible apply callAlt (c100k hX r.days 2 (by decide) ?_)); case hl => (first | exact AllLe.refl _ | ((repeat' (first | exact trivial | apply Le.aggs | apply Le.tups | apply Le.fns | exact Le.refl _ | refine ⟨?_, ?_⟩)); done))) | (with_reducible (apply altM (ks := [0]) (m := 0); apply And.intro; apply Sc.of; apply (c100z hX t r.zones 6 (by decide) (Side.mk hs.1)))) | (with_reducible apply callAlt (c95_6 hX _ _ _ _ _ _)) | (with_reducible refine Alt.one ?_))
    | ((with_reducible refine (?_ : AllLe _ _)); first | exact ⟨le_slc6 rfl rfl rfl rfl rfl rfl, trivial⟩ | (first | exact AllLe.refl _ | (repeat' (first | exact trivial | apply Le.aggs | apply Le.tups | apply Le.fns | exact Le.refl _ | refine ⟨?_, ?_⟩))))
    | ((with_reducible refine (?_ : Sc _ (AllRen _ _ _))); refine Sc.of ?_; (repeat' (first | exact trivial | apply Le.aggs | apply Le.tups | apply Le.fns | exact Le.refl _ | refine ⟨?_, ?_⟩)))
    | ((with_reducible refine (?_ : (List.all _ _) = true)); rfl)
    | ((with_reducible refine (?_ : (and _ _) = true)); rfl)
    | ((with_reducible refine (?_ : List.Nodup _)); exact nodupB_spec rfl)
    | ((with_reducible refine (?_ : @Eq Nat _ _)); rfl)
    | ((with_reducible refine (?_ : LeOks _ _ _)); first | exact trivial | exact ⟨.refl _, trivial⟩ | exact ⟨.refl _, .refl _, trivial⟩)
    | ((fail_if_success with_reducible refine (?_ : False)); (fail_if_success with_reducible refine (?_ : Nat)); (fail_if_success with_reducible refine (?_ : Nat → Nat → AV)); (fail_if_success with_reducible refine (?_ : Sc _ _)); (fail_if_success with_reducible refine (?_ : Side _)); (fail_if_success with_reducible refine (?_ : Exists _)); (fail_if_success with_reducible refine (?_ : Ends _ _ _ _ _ _ _)); (fail_if_success with_reducible refine (?_ : Alt _ _)); (fail_if_success with_reducible refine (?_ : Le _ _)); (fail_if_success with_reducible refine (?_ : LeAll _ _ _)); (first | with_reducible refine And.intro ?_ ?_ | with_reducible refine Cut.go ?_ | (with_reducible (refine impI ?_; intro _)) | (with_reducible refine (?_ : footOK _ _ = true); kernel_rfl) | ((with_reducible refine propI ?_); conv => whnf))))
  all_goals try (exact .of (Nat.le_of_ble_eq_true rfl))
  all_goals first
    | exact Side.mk (by omega)
    | (unfold ruleE; exact .mk [] [] _ rfl (.le (.refl _)) trivial rfl)
theorem c150 (t : Trf) (r : Rul) (hs : Side (t.zones.length ≤ 1000 ∧ r.zones.length ≤ 1000 ∧ r.days.length ≤ 1000)) : Pure (Xc W0 G) 150 [trfA t, rulA r] (.int .i64 (ruleE t.zones.length r)) := by
  have hs := hs.get
  refine mut_of' hX (show FnIs (Xc W0 G) 150 Tryz.f150 (codeOf Tryz.f150) from ⟨by kernel_rfl, by kernel_rfl, by kernel_rfl, by kernel_rfl⟩) rfl ?_
  repeat' (first
    | ((with_reducible refine (?_ : Alt _ _)); first | (with_reducible apply callAlt (c13 hX _ _ _)) | ((with_reducible apply callAlt (c149 hX 0 (t.zones.length - 1) 6 r.zones (by decide) ?_)); case hl => (first | exact AllLe.refl _ | ((repeat' (first | exact trivial | apply Le.aggs | apply Le.tups | apply Le.fns | exact Le.refl _ | refine ⟨?_, ?_⟩)); done))) | ((with_reducible apply callAlt (c149 hX 0 7 2 r.days (by decide) ?_)); case hl => (first | exact AllLe.refl _ | ((repeat' (first | exact trivial | apply Le.aggs | apply Le.tups | apply Le.fns | exact Le.refl _ | refine ⟨?_, ?_⟩)); done))) | (with_reducible refine Alt.one ?_))
    | ((with_reducible refine (?_ : AllLe _ _)); first | (first | exact AllLe.refl _ | (repeat' (first | exact trivial | apply Le.aggs | apply Le.tups | apply Le.fns | exact Le.refl _ | refine ⟨?_, ?_⟩))))
    | ((with_reducible refine (?_ : Sc _ (AllRen _ _ _))); refine Sc.of ?_; (repeat' (first | exact trivial | apply Le.aggs | apply Le.tups | apply Le.fns | exact Le.refl _ | refine ⟨?_, ?_⟩)))
    | ((with_reducible refine (?_ : (List.all _ _) = true)); rfl)
    | ((with_reducible refine (?_ : (and _ _) = true)); rfl)
    | ((with_reducible refine (?_ : List.Nodup _)); exact nodupB_spec rfl)
    | ((with_reducible refine (?_ : @Eq Nat _ _)); rfl)
    | ((with_reducible refine (?_ : LeOks _ _ _)); first | exact trivial | exact ⟨.refl _, trivial⟩ | exact ⟨.refl _, .refl _, trivial⟩)
    | ((fail_if_success with_reducible refine (?_ : False)); (fail_if_success with_reducible refine (?_ : Nat)); (fail_if_success with_reducible refine (?_ : Nat → Nat → AV)); (fail_if_success with_reducible refine (?_ : Sc _ _)); (fail_if_success with_reducible refine (?_ : Side _)); (fail_if_success with_reducible refine (?_ : Exists _)); (fail_if_success with_reducible refine (?_ : Ends _ _ _ _ _ _ _)); (fail_if_success with_reducible refine (?_ : Alt _ _)); (fail_if_success with_reducible refine (?_ : Le _ _)); (fail_if_success with_reducible refine (?_ : LeAll _ _ _)); (first | with_reducible refine And.intro ?_ ?_ | with_reducible refine Cut.go ?_ | (with_reducible (refine impI ?_; intro _)) | (with_reducible refine (?_ : footOK _ _ = true); kernel_rfl) | ((with_reducible refine propI ?_); conv => whnf))))
  all_goals try (exact .of (Nat.le_of_ble_eq_true rfl))
  all_goals try (exact Side.mk (by omega))
  all_goals try (exact .of ⟨by omega, by omega⟩)
  all_goals (refine .mk [] [] _ rfl (.le (.intI ?_)) trivial rfl)
  all_goals (rw [rule_eq])
  all_goals (clear hs)
  all_goals (generalize (bif !inB r.fr 0 100000 then true else !inB r.tt 0 100000) = g1 at *; generalize decide (r.tt < r.fr) = g2 at *; generalize (bif (r.zones.length : Int) == 0 then true else (r.days.length : Int) == 0) = g3 at *
             generalize riseE 0 (t.zones.length - 1) 6 r.zones = g4 at *; generalize riseE 0 7 2 r.days = g5 at *
             generalize (bif (bif (bif (bif !inB r.bg 0 86399 then true else !inB r.en 0 86400) then true else !inB r.st 0 100000) then true else !inB r.me 0 1000000) then true else !inB r.se 0 1000000) = g6 at *)
  all_goals (simp_all [firstS, isOk]; done)
end
end Go.Fx

/-
  The parts of a tariff, one by one.
-/
namespace Go.Fx
open Go.Proofs Go.RowKit

theorem le_pre {es n m : Nat} {f : Nat → Nat → AV} {e : Nat → Nat → AV} (hm : m = n) (hf : ∀ i j, f i j = e i j) : Le (.slc es m f) (.slc es n e) := .slcN hm fun i j _ _ => by rw [hf]; exact .refl _
theorem le_preI {es n m : Nat} {f : Nat → Nat → AV} {e : Nat → Nat → AV} (hm : m = n) (hf : ∀ i j, i < m → f i j = e i j) : Le (.slc es m f) (.slc es n e) := .slcN hm fun i j hi _ => by rw [hf i j hi]; exact .refl _
theorem le_h0 {m : Nat} {f : Nat → Nat → AV} {a : Int} (hm : m = 1) (h : f 0 0 = .int .i64 a) : Le (.slc 1 m f) (iRow [a]) := .slcN hm fun i j hi hj => by
  obtain rfl : i = 0 := by omega
  obtain rfl : j = 0 := by omega
  rw [h]; exact .refl _
theorem le_h1 {m : Nat} {f : Nat → Nat → AV} {a b : Int} (hm : m = 2) (h : f 0 0 = .int .i64 a) (h1 : f 1 0 = .int .i64 b) : Le (.slc 1 m f) (iRow [a, b]) := .slcN hm fun i j hi hj => by
  obtain rfl : j = 0 := by omega
  rcases (show i = 0 ∨ i = 1 by omega) with rfl | rfl
  · rw [h]; exact .refl _
  · rw [h1]; exact .refl _
theorem hasB_nil {s : ByteArray} : hasB ([] : List ByteArray) ([] : List ByteArray).length s = false := by unfold hasB; rfl
theorem take_of {α : Type} {l : List α} {n i : Nat} {d : α} (h : i < n) : (l.take n).getD i d = l.getD i d := by
  rw [List.getD_eq_getElem?_getD, List.getD_eq_getElem?_getD, List.getElem?_take_of_lt h]
theorem any_find {p : Nat → Bool} {n : Nat} : decide (0 ≤ findI p n) = (List.range n).any p := findI_ge
theorem three_eq (b x : Bool) (e : Int) : firstS [firstS [isOk b 4, isOk (!false) 5], isOk (!x) 5, e] = bif b then (bif x then 5 else e) else 4 := by by_cases h : e = 0 <;> cases b <;> cases x <;> simp [firstS, isOk, h]
theorem fixed_eq (b a x : Bool) : firstS [isOk b 6, isOk a 2, isOk (!x) 5] = bif b then (bif a then (bif x then 5 else 0) else 2) else 6 := by cases b <;> cases a <;> cases x <;> rfl
theorem two_eq (b x : Bool) : firstS [isOk b 4, isOk (!x) 5] = bif b then (bif x then 5 else 0) else 4 := by cases b <;> cases x <;> rfl
theorem hasB_take {l : List ByteArray} {i : Nat} {s : ByteArray} (h : i ≤ l.length) : hasB (l.take i) (l.take i).length s = hasB l i s := by
  unfold hasB
  rw [List.length_take, Nat.min_eq_left h]
  rw [Bool.eq_iff_iff, List.any_eq_true, List.any_eq_true]
  constructor
  · rintro ⟨x, hx, hp⟩
    refine ⟨x, hx, ?_⟩
    rwa [take_of (List.mem_range.1 hx)] at hp
  · rintro ⟨x, hx, hp⟩
    refine ⟨x, hx, ?_⟩
    rwa [take_of (List.mem_range.1 hx)]
theorem hol_0 {l : List Int} : riseE 0 100000 2 [l.getD 0 0] = riseAt 0 100000 2 l 0 := by
  have e0 : riseAt 0 100000 2 [l.getD 0 0] 0 = riseAt 0 100000 2 l 0 := by unfold riseAt; rfl
  by_cases hz : riseAt 0 100000 2 l 0 = 0
  · rw [rise_none (fun j hj => ?_), hz]
    obtain rfl : j = 0 := by simp at hj; omega
    rw [e0]; exact hz
  · rw [rise_hit (i := 0) (by simp) (fun j hj => absurd hj (Nat.not_lt_zero _)) (by rw [e0]; exact hz), e0]
theorem hol_1 {l : List Int} {i : Nat} (h : riseAt 0 100000 2 l i = 0) : riseE 0 100000 2 [l.getD i 0, l.getD (i + 1) 0] = riseAt 0 100000 2 l (i + 1) := by
  have h1 : inB (l.getD i 0) 0 100000 = true := by
    cases q : inB (l.getD i 0) 0 100000 with
    | true => rfl
    | false => rw [rise_out q] at h; cases h
  have e0 : riseAt 0 100000 2 [l.getD i 0, l.getD (i + 1) 0] 0 = 0 := by
    unfold riseAt
    show (bif inB (l.getD i 0) 0 100000 then _ else _) = _
    rw [h1]; rfl
  have e1 : riseAt 0 100000 2 [l.getD i 0, l.getD (i + 1) 0] 1 = riseAt 0 100000 2 l (i + 1) := by
    unfold riseAt
    show (bif inB (l.getD (i + 1) 0) 0 100000 then (bif decide (0 < 1) then (bif decide (l.getD (i + 1) 0 ≤ l.getD i 0) then 9 else 0) else 0) else 2 : Int) = _
    rw [decide_eq_true (show 0 < i + 1 by omega)]; rfl
  by_cases hz : riseAt 0 100000 2 l (i + 1) = 0
  · rw [rise_none (fun j hj => ?_), hz]
    rcases (show j = 0 ∨ j = 1 by simp at hj; omega) with rfl | rfl
    · exact e0
    · rw [e1]; exact hz
  · rw [rise_hit (i := 1) (by simp) (fun j hj => ?_) (by rw [e1]; exact hz), e1]
    obtain rfl : j = 0 := by omega
    exact e0
section
variable {W0 : World} {G : Nat → Option AV} (hX : (Xc W0 G).Good)
include hX
theorem c104 (t : Trf) (r : Rul) (k : Nat) (hk : Side (k < t.rules.length)) : Mut (Xc W0 G) 104 [.agg 10 (tbl (rulC r)), .ptr 0 0, .ptr 1 0] [.box (trfC t), .box [.int .i64 k]] (.bool (decide (r.name = (t.rules.getD k rul0).name))) [.box (trfC t), .box [.int .i64 k]] := by
  refine mut_of' hX (show FnIs (Xc W0 G) 104 Tryz.f104 (codeOf Tryz.f104) from ⟨by kernel_rfl, by kernel_rfl, by kernel_rfl, by kernel_rfl⟩) rfl ?_
  repeat' (first
    | ((with_reducible refine (?_ : Alt _ _)); first | fail | (with_reducible refine Alt.one ?_))
    | ((with_reducible refine (?_ : AllLe _ _)); first | (first | exact AllLe.refl _ | (repeat' (first | exact trivial | apply Le.aggs | apply Le.tups | apply Le.fns | exact Le.refl _ | refine ⟨?_, ?_⟩))))
    | ((with_reducible refine (?_ : Sc _ (AllRen _ _ _))); refine Sc.of ?_; first | (repeat' (first | exact trivial | apply Le.aggs | apply Le.tups | apply Le.fns | exact Le.refl _ | refine ⟨?_, ?_⟩)))
    | ((with_reducible refine (?_ : (List.all _ _) = true)); rfl)
    | ((with_reducible refine (?_ : (and _ _) = true)); rfl)
    | ((with_reducible refine (?_ : List.Nodup _)); exact nodupB_spec rfl)
    | ((with_reducible refine (?_ : @Eq Nat _ _)); rfl)
    | ((with_reducible refine (?_ : LeOks _ _ _)); first | exact trivial | exact ⟨.refl _, trivial⟩ | exact ⟨.refl _, .refl _, trivial⟩)
    | ((fail_if_success with_reducible refine (?_ : False)); (fail_if_success with_reducible refine (?_ : Nat)); (fail_if_success with_reducible refine (?_ : Nat → Nat → AV)); (fail_if_success with_reducible refine (?_ : Sc _ _)); (fail_if_success with_reducible refine (?_ : Side _)); (fail_if_success with_reducible refine (?_ : Exists _)); (fail_if_success with_reducible refine (?_ : Ends _ _ _ _ _ _ _)); (fail_if_success with_reducible refine (?_ : Alt _ _)); (fail_if_success with_reducible refine (?_ : Le _ _)); (fail_if_success with_reducible refine (?_ : LeAll _ _ _)); (first | with_reducible refine And.intro ?_ ?_ | with_reducible refine Cut.go ?_ | (with_reducible (refine impI ?_; intro _)) | (with_reducible refine (?_ : footOK _ _ = true); kernel_rfl) | ((with_reducible refine propI ?_); conv => whnf))))
  all_goals try (exact .of (Nat.le_of_ble_eq_true rfl))
  all_goals first
    | exact .mk [] [] _ rfl (.le (.boolT rfl)) ⟨.le (.refl _), .le (.refl _), trivial⟩ rfl
    | (have := hk.get; exact .of ⟨by omega, by omega⟩)
theorem c140 (t : Trf) (m : Nat) (g : Nat → Rul) (hm : Side (m ≤ 1000)) (k : Nat) (hk : Side (k < t.rules.length)) : Mut (Xc W0 G) 140 [.slc 10 m (fun i j => tbl (rulC (g i)) j), .fn 104 2 (tbl [.ptr 0 0, .ptr 1 0])] [.box (trfC t), .box [.int .i64 k]] (.int .i64 (findI (fun i => decide ((g i).name = (t.rules.getD k rul0).name)) m)) [.box (trfC t), .box [.int .i64 k]] := by
  have hm := hm.get
  refine mut_of' hX (show FnIs (Xc W0 G) 140 Tryz.f140 (codeOf Tryz.f140) from ⟨by kernel_rfl, by kernel_rfl, by kernel_rfl, by kernel_rfl⟩) rfl ?_
  repeat' (first
    | ((with_reducible refine (?_ : Alt _ _)); first | fail | (with_reducible refine Alt.one ?_))
    | ((with_reducible refine (?_ : AllLe _ _)); first | (first | exact AllLe.refl _ | (repeat' (first | exact trivial | apply Le.aggs | apply Le.tups | apply Le.fns | exact Le.refl _ | refine ⟨?_, ?_⟩))))
    | ((with_reducible refine (?_ : Sc _ (AllRen _ _ _))); refine Sc.of ?_; first | (repeat' (first | exact trivial | apply Le.aggs | apply Le.tups | apply Le.fns | exact Le.refl _ | refine ⟨?_, ?_⟩)))
    | ((with_reducible refine (?_ : (List.all _ _) = true)); rfl)
    | ((with_reducible refine (?_ : (and _ _) = true)); rfl)
    | ((with_reducible refine (?_ : List.Nodup _)); exact nodupB_spec rfl)
    | ((with_reducible refine (?_ : @Eq Nat _ _)); rfl)
    | ((with_reducible refine (?_ : LeOks _ _ _)); first | exact trivial | exact ⟨.refl _, trivial⟩ | exact ⟨.refl _, .refl _, trivial⟩)
    | ((fail_if_success with_reducible refine (?_ : False)); (fail_if_success with_reducible refine (?_ : Nat)); (fail_if_success with_reducible refine (?_ : Nat → Nat → AV)); (fail_if_success with_reducible refine (?_ : Sc _ _)); (fail_if_success with_reducible refine (?_ : Side _)); (fail_if_success with_reducible refine (?_ : Exists _)); (fail_if_success with_reducible refine (?_ : Ends _ _ _ _ _ _ _)); (fail_if_success with_reducible refine (?_ : Alt _ _)); (fail_if_success with_reducible refine (?_ : Le _ _)); (fail_if_success with_reducible refine (?_ : LeAll _ _ _)); (first | with_reducible refine And.intro ?_ ?_ | with_reducible refine Cut.go ?_ | (with_reducible (refine impI ?_; intro _)) | (with_reducible refine (?_ : footOK _ _ = true); kernel_rfl) | ((with_reducible refine propI ?_); conv => whnf))))
  refine ⟨Nat, fun i => ([(0, .slc 10 m (fun i j => tbl (rulC (g i)) j)), (1, .fn 104 2 (tbl [.ptr 0 0, .ptr 1 0])), (7, .int .i64 m), (8, .int .i64 i)], [.box (trfC t), .box [.int .i64 k]]), fun i => i ≤ m ∧ ∀ j : Nat, j < i → (fun i => decide ((g i).name = (t.rules.getD k rul0).name)) j = false, fun i => m - i, ⟨0, ⟨Nat.zero_le _, fun _ h => by omega⟩, .le ⟨rfl, ⟨.refl _, .refl _, trivial⟩, ⟨.refl _, .refl _, .refl _, .refl _, trivial⟩⟩⟩, fun i ⟨hi, h0⟩ => ?_⟩
  repeat' (first
    | ((with_reducible refine (?_ : Alt _ _)); first | (with_reducible (apply altM (ks := [0, 1]) (m := 0); apply And.intro; apply Sc.of; apply (c104 hX t _ k hk))) | (with_reducible refine Alt.one ?_))
    | ((with_reducible refine (?_ : AllLe _ _)); first | (first | exact AllLe.refl _ | (repeat' (first | exact trivial | apply Le.aggs | apply Le.tups | apply Le.fns | exact Le.refl _ | refine ⟨?_, ?_⟩))))
    | ((with_reducible refine (?_ : Sc _ (AllRen _ _ _))); refine Sc.of ?_; first | (repeat' (first | exact trivial | apply Le.aggs | apply Le.tups | apply Le.fns | exact Le.refl _ | refine ⟨?_, ?_⟩)))
    | ((with_reducible refine (?_ : (List.all _ _) = true)); rfl)
    | ((with_reducible refine (?_ : (and _ _) = true)); rfl)
    | ((with_reducible refine (?_ : List.Nodup _)); exact nodupB_spec rfl)
    | ((with_reducible refine (?_ : @Eq Nat _ _)); rfl)
    | ((with_reducible refine (?_ : LeOks _ _ _)); first | exact trivial | exact ⟨.refl _, trivial⟩ | exact ⟨.refl _, .refl _, trivial⟩)
    | ((fail_if_success with_reducible refine (?_ : False)); (fail_if_success with_reducible refine (?_ : Nat)); (fail_if_success with_reducible refine (?_ : Nat → Nat → AV)); (fail_if_success with_reducible refine (?_ : Sc _ _)); (fail_if_success with_reducible refine (?_ : Side _)); (fail_if_success with_reducible refine (?_ : Exists _)); (fail_if_success with_reducible refine (?_ : Ends _ _ _ _ _ _ _)); (fail_if_success with_reducible refine (?_ : Alt _ _)); (fail_if_success with_reducible refine (?_ : Le _ _)); (fail_if_success with_reducible refine (?_ : LeAll _ _ _)); (first | with_reducible refine And.intro ?_ ?_ | with_reducible refine Cut.go ?_ | (with_reducible (refine impI ?_; intro _)) | (with_reducible refine (?_ : footOK _ _ = true); kernel_rfl) | ((with_reducible refine propI ?_); conv => whnf))))
  all_goals first
    | exact .of (Nat.le_of_ble_eq_true rfl)
    | (rename_i h; have h := of_decide_eq_true h; exact .of ⟨by omega, by omega⟩)
    | (rename_i h; have h := of_decide_eq_false h; exact .mk [] [] _ rfl (.le (.intI (findI_none (fun j hj => h0 j (by omega))).symm)) ⟨.le (.refl _), .le (.refl _), trivial⟩ rfl)
    | (rename_i h1 h; have h1 := of_decide_eq_true h1
       simp only [Int.toNat_natCast] at h
       first
         | exact .of ⟨by omega, by omega⟩
         | exact ⟨i + 1, ⟨by omega, all_lt h0 h⟩, by show m - (i + 1) < m - i; omega, .le ⟨rfl, ⟨.refl _, .refl _, trivial⟩, ⟨.refl _, .refl _, .refl _, .refl _, trivial⟩⟩⟩
         | (exact .mk [] [] _ rfl (.le (.intI (findI_hit (by omega) h0 h).symm)) ⟨.le (.refl _), .le (.refl _), trivial⟩ rfl))
theorem c103 (t : Trf) (m : Nat) (g : Nat → Rul) (hm : Side (m ≤ 1000)) (k : Nat) (hk : Side (k < t.rules.length)) : Mut (Xc W0 G) 103 [.slc 10 m (fun i j => tbl (rulC (g i)) j), .fn 104 2 (tbl [.ptr 0 0, .ptr 1 0])] [.box (trfC t), .box [.int .i64 k]] (.bool ((List.range m).any (fun i => decide ((g i).name = (t.rules.getD k rul0).name)))) [.box (trfC t), .box [.int .i64 k]] := by
  refine mut_of' hX (show FnIs (Xc W0 G) 103 Tryz.f103 (codeOf Tryz.f103) from ⟨by kernel_rfl, by kernel_rfl, by kernel_rfl, by kernel_rfl⟩) rfl ?_
  repeat' (first
    | ((with_reducible refine (?_ : Alt _ _)); first | (with_reducible (apply altM (ks := [0, 1]) (m := 0); apply And.intro; apply Sc.of; apply (c140 hX t m g hm k hk))) | (with_reducible refine Alt.one ?_))
    | ((with_reducible refine (?_ : AllLe _ _)); first | (first | exact AllLe.refl _ | (repeat' (first | exact trivial | apply Le.aggs | apply Le.tups | apply Le.fns | exact Le.refl _ | refine ⟨?_, ?_⟩))))
    | ((with_reducible refine (?_ : Sc _ (AllRen _ _ _))); refine Sc.of ?_; first | (repeat' (first | exact trivial | apply Le.aggs | apply Le.tups | apply Le.fns | exact Le.refl _ | refine ⟨?_, ?_⟩)))
    | ((with_reducible refine (?_ : (List.all _ _) = true)); rfl)
    | ((with_reducible refine (?_ : (and _ _) = true)); rfl)
    | ((with_reducible refine (?_ : List.Nodup _)); exact nodupB_spec rfl)
    | ((with_reducible refine (?_ : @Eq Nat _ _)); rfl)
    | ((with_reducible refine (?_ : LeOks _ _ _)); first | exact trivial | exact ⟨.refl _, trivial⟩ | exact ⟨.refl _, .refl _, trivial⟩)
    | ((fail_if_success with_reducible refine (?_ : False)); (fail_if_success with_reducible refine (?_ : Nat)); (fail_if_success with_reducible refine (?_ : Nat → Nat → AV)); (fail_if_success with_reducible refine (?_ : Sc _ _)); (fail_if_success with_reducible refine (?_ : Side _)); (fail_if_success with_reducible refine (?_ : Exists _)); (fail_if_success with_reducible refine (?_ : Ends _ _ _ _ _ _ _)); (fail_if_success with_reducible refine (?_ : Alt _ _)); (fail_if_success with_reducible refine (?_ : Le _ _)); (fail_if_success with_reducible refine (?_ : LeAll _ _ _)); (first | with_reducible refine And.intro ?_ ?_ | with_reducible refine Cut.go ?_ | (with_reducible (refine impI ?_; intro _)) | (with_reducible refine (?_ : footOK _ _ = true); kernel_rfl) | ((with_reducible refine propI ?_); conv => whnf))))
  all_goals exact .mk [] [] _ rfl (.le (.boolT any_find)) ⟨.le (.refl _), .le (.refl _), trivial⟩ rfl
theorem c108 (t : Trf) (r : Ext) (k : Nat) (hk : Side (k < t.extras.length)) : Mut (Xc W0 G) 108 [.agg 2 (tbl (extC r)), .ptr 0 0, .ptr 1 0] [.box (trfC t), .box [.int .i64 k]] (.bool (decide (r.name = (t.extras.getD k ext0).name))) [.box (trfC t), .box [.int .i64 k]] := by
  refine mut_of' hX (show FnIs (Xc W0 G) 108 Tryz.f108 (codeOf Tryz.f108) from ⟨by kernel_rfl, by kernel_rfl, by kernel_rfl, by kernel_rfl⟩) rfl ?_
  repeat' (first
    | ((with_reducible refine (?_ : Alt _ _)); first | fail | (with_reducible refine Alt.one ?_))
    | ((with_reducible refine (?_ : AllLe _ _)); first | (first | exact AllLe.refl _ | (repeat' (first | exact trivial | apply Le.aggs | apply Le.tups | apply Le.fns | exact Le.refl _ | refine ⟨?_, ?_⟩))))
    | ((with_reducible refine (?_ : Sc _ (AllRen _ _ _))); refine Sc.of ?_; first | (repeat' (first | exact trivial | apply Le.aggs | apply Le.tups | apply Le.fns | exact Le.refl _ | refine ⟨?_, ?_⟩)))
    | ((with_reducible refine (?_ : (List.all _ _) = true)); rfl)
    | ((with_reducible refine (?_ : (and _ _) = true)); rfl)
    | ((with_reducible refine (?_ : List.Nodup _)); exact nodupB_spec rfl)
    | ((with_reducible refine (?_ : @Eq Nat _ _)); rfl)
    | ((with_reducible refine (?_ : LeOks _ _ _)); first | exact trivial | exact ⟨.refl _, trivial⟩ | exact ⟨.refl _, .refl _, trivial⟩)
    | ((fail_if_success with_reducible refine (?_ : False)); (fail_if_success with_reducible refine (?_ : Nat)); (fail_if_success with_reducible refine (?_ : Nat → Nat → AV)); (fail_if_success with_reducible refine (?_ : Sc _ _)); (fail_if_success with_reducible refine (?_ : Side _)); (fail_if_success with_reducible refine (?_ : Exists _)); (fail_if_success with_reducible refine (?_ : Ends _ _ _ _ _ _ _)); (fail_if_success with_reducible refine (?_ : Alt _ _)); (fail_if_success with_reducible refine (?_ : Le _ _)); (fail_if_success with_reducible refine (?_ : LeAll _ _ _)); (first | with_reducible refine And.intro ?_ ?_ | with_reducible refine Cut.go ?_ | (with_reducible (refine impI ?_; intro _)) | (with_reducible refine (?_ : footOK _ _ = true); kernel_rfl) | ((with_reducible refine propI ?_); conv => whnf))))
  all_goals try (exact .of (Nat.le_of_ble_eq_true rfl))
  all_goals first
    | exact .mk [] [] _ rfl (.le (.boolT rfl)) ⟨.le (.refl _), .le (.refl _), trivial⟩ rfl
    | (have := hk.get; exact .of ⟨by omega, by omega⟩)
theorem c144 (t : Trf) (m : Nat) (g : Nat → Ext) (hm : Side (m ≤ 1000)) (k : Nat) (hk : Side (k < t.extras.length)) : Mut (Xc W0 G) 144 [.slc 2 m (fun i j => tbl (extC (g i)) j), .fn 108 2 (tbl [.ptr 0 0, .ptr 1 0])] [.box (trfC t), .box [.int .i64 k]] (.int .i64 (findI (fun i => decide ((g i).name = (t.extras.getD k ext0).name)) m)) [.box (trfC t), .box [.int .i64 k]] := by
  have hm := hm.get
  refine mut_of' hX (show FnIs (Xc W0 G) 144 Tryz.f144 (codeOf Tryz.f144) from ⟨by kernel_rfl, by kernel_rfl, by kernel_rfl, by kernel_rfl⟩) rfl ?_
  repeat' (first
    | ((with_reducible refine (?_ : Alt _ _)); first | fail | (with_reducible refine Alt.one ?_))
    | ((with_reducible refine (?_ : AllLe _ _)); first | (first | exact AllLe.refl _ | (repeat' (first | exact trivial | apply Le.aggs | apply Le.tups | apply Le.fns | exact Le.refl _ | refine ⟨?_, ?_⟩))))
    | ((with_reducible refine (?_ : Sc _ (AllRen _ _ _))); refine Sc.of ?_; first | (repeat' (first | exact trivial | apply Le.aggs | apply Le.tups | apply Le.fns | exact Le.refl _ | refine ⟨?_, ?_⟩)))
    | ((with_reducible refine (?_ : (List.all _ _) = true)); rfl)
    | ((with_reducible refine (?_ : (and _ _) = true)); rfl)
    | ((with_reducible refine (?_ : List.Nodup _)); exact nodupB_spec rfl)
    | ((with_reducible refine (?_ : @Eq Nat _ _)); rfl)
    | ((with_reducible refine (?_ : LeOks _ _ _)); first | exact trivial | exact ⟨.refl _, trivial⟩ | exact ⟨.refl _, .refl _, trivial⟩)
    | ((fail_if_success with_reducible refine (?_ : False)); (fail_if_success with_reducible refine (?_ : Nat)); (fail_if_success with_reducible refine (?_ : Nat → Nat → AV)); (fail_if_success with_reducible refine (?_ : Sc _ _)); (fail_if_success with_reducible refine (?_ : Side _)); (fail_if_success with_reducible refine (?_ : Exists _)); (fail_if_success with_reducible refine (?_ : Ends _ _ _ _ _ _ _)); (fail_if_success with_reducible refine (?_ : Alt _ _)); (fail_if_success with_reducible refine (?_ : Le _ _)); (fail_if_success with_reducible refine (?_ : LeAll _ _ _)); (first | with_reducible refine And.intro ?_ ?_ | with_reducible refine Cut.go ?_ | (with_reducible (refine impI ?_; intro _)) | (with_reducible refine (?_ : footOK _ _ = true); kernel_rfl) | ((with_reducible refine propI ?_); conv => whnf))))
  refine ⟨Nat, fun i => ([(0, .slc 2 m (fun i j => tbl (extC (g i)) j)), (1, .fn 108 2 (tbl [.ptr 0 0, .ptr 1 0])), (7, .int .i64 m), (8, .int .i64 i)], [.box (trfC t), .box [.int .i64 k]]), fun i => i ≤ m ∧ ∀ j : Nat, j < i → (fun i => decide ((g i).name = (t.extras.getD k ext0).name)) j = false, fun i => m - i, ⟨0, ⟨Nat.zero_le _, fun _ h => by omega⟩, .le ⟨rfl, ⟨.refl _, .refl _, trivial⟩, ⟨.refl _, .refl _, .refl _, .refl _, trivial⟩⟩⟩, fun i ⟨hi, h0⟩ => ?_⟩
  repeat' (first
    | ((with_reducible refine (?_ : Alt _ _)); first | (with_reducible (apply altM (ks := [0, 1]) (m := 0); apply And.intro; apply Sc.of; apply (c108 hX t _ k hk))) | (with_reducible refine Alt.one ?_))
    | ((with_reducible refine (?_ : AllLe _ _)); first | (first | exact AllLe.refl _ | (repeat' (first | exact trivial | apply Le.aggs | apply Le.tups | apply Le.fns | exact Le.refl _ | refine ⟨?_, ?_⟩))))
    | ((with_reducible refine (?_ : Sc _ (AllRen _ _ _))); refine Sc.of ?_; first | (repeat' (first | exact trivial | apply Le.aggs | apply Le.tups | apply Le.fns | exact Le.refl _ | refine ⟨?_, ?_⟩)))
    | ((with_reducible refine (?_ : (List.all _ _) = true)); rfl)
    | ((with_reducible refine (?_ : (and _ _) = true)); rfl)
    | ((with_reducible refine (?_ : List.Nodup _)); exact nodupB_spec rfl)
    | ((with_reducible refine (?_ : @Eq Nat _ _)); rfl)
    | ((with_reducible refine (?_ : LeOks _ _ _)); first | exact trivial | exact ⟨.refl _, trivial⟩ | exact ⟨.refl _, .refl _, trivial⟩)
    | ((fail_if_success with_reducible refine (?_ : False)); (fail_if_success with_reducible refine (?_ : Nat)); (fail_if_success with_reducible refine (?_ : Nat → Nat → AV)); (fail_if_success with_reducible refine (?_ : Sc _ _)); (fail_if_success with_reducible refine (?_ : Side _)); (fail_if_success with_reducible refine (?_ : Exists _)); (fail_if_success with_reducible refine (?_ : Ends _ _ _ _ _ _ _)); (fail_if_success with_reducible refine (?_ : Alt _ _)); (fail_if_success with_reducible refine (?_ : Le _ _)); (fail_if_success with_reducible refine (?_ : LeAll _ _ _)); (first | with_reducible refine And.intro ?_ ?_ | with_reducible refine Cut.go ?_ | (with_reducible (refine impI ?_; intro _)) | (with_reducible refine (?_ : footOK _ _ = true); kernel_rfl) | ((with_reducible refine propI ?_); conv => whnf))))
  all_goals first
    | exact .of (Nat.le_of_ble_eq_true rfl)
    | (rename_i h; have h := of_decide_eq_true h; exact .of ⟨by omega, by omega⟩)
    | (rename_i h; have h := of_decide_eq_false h; exact .mk [] [] _ rfl (.le (.intI (findI_none (fun j hj => h0 j (by omega))).symm)) ⟨.le (.refl _), .le (.refl _), trivial⟩ rfl)
    | (rename_i h1 h; have h1 := of_decide_eq_true h1
       simp only [Int.toNat_natCast] at h
       first
         | exact .of ⟨by omega, by omega⟩
         | exact ⟨i + 1, ⟨by omega, all_lt h0 h⟩, by show m - (i + 1) < m - i; omega, .le ⟨rfl, ⟨.refl _, .refl _, trivial⟩, ⟨.refl _, .refl _, .refl _, .refl _, trivial⟩⟩⟩
         | (exact .mk [] [] _ rfl (.le (.intI (findI_hit (by omega) h0 h).symm)) ⟨.le (.refl _), .le (.refl _), trivial⟩ rfl))
theorem c107 (t : Trf) (m : Nat) (g : Nat → Ext) (hm : Side (m ≤ 1000)) (k : Nat) (hk : Side (k < t.extras.length)) : Mut (Xc W0 G) 107 [.slc 2 m (fun i j => tbl (extC (g i)) j), .fn 108 2 (tbl [.ptr 0 0, .ptr 1 0])] [.box (trfC t), .box [.int .i64 k]] (.bool ((List.range m).any (fun i => decide ((g i).name = (t.extras.getD k ext0).name)))) [.box (trfC t), .box [.int .i64 k]] := by
  refine mut_of' hX (show FnIs (Xc W0 G) 107 Tryz.f107 (codeOf Tryz.f107) from ⟨by kernel_rfl, by kernel_rfl, by kernel_rfl, by kernel_rfl⟩) rfl ?_
  repeat' (first
    | ((with_reducible refine (?_ : Alt _ _)); first | (with_reducible (apply altM (ks := [0, 1]) (m := 0); apply And.intro; apply Sc.of; apply (c144 hX t m g hm k hk))) | (with_reducible refine Alt.one ?_))
    | ((with_reducible refine (?_ : AllLe _ _)); first | (first | exact AllLe.refl _ | (repeat' (first | exact trivial | apply Le.aggs | apply Le.tups | apply Le.fns | exact Le.refl _ | refine ⟨?_, ?_⟩))))
    | ((with_reducible refine (?_ : Sc _ (AllRen _ _ _))); refine Sc.of ?_; first | (repeat' (first | exact trivial | apply Le.aggs | apply Le.tups | apply Le.fns | exact Le.refl _ | refine ⟨?_, ?_⟩)))
    | ((with_reducible refine (?_ : (List.all _ _) = true)); rfl)
    | ((with_reducible refine (?_ : (and _ _) = true)); rfl)
    | ((with_reducible refine (?_ : List.Nodup _)); exact nodupB_spec rfl)
    | ((with_reducible refine (?_ : @Eq Nat _ _)); rfl)
    | ((with_reducible refine (?_ : LeOks _ _ _)); first | exact trivial | exact ⟨.refl _, trivial⟩ | exact ⟨.refl _, .refl _, trivial⟩)
    | ((fail_if_success with_reducible refine (?_ : False)); (fail_if_success with_reducible refine (?_ : Nat)); (fail_if_success with_reducible refine (?_ : Nat → Nat → AV)); (fail_if_success with_reducible refine (?_ : Sc _ _)); (fail_if_success with_reducible refine (?_ : Side _)); (fail_if_success with_reducible refine (?_ : Exists _)); (fail_if_success with_reducible refine (?_ : Ends _ _ _ _ _ _ _)); (fail_if_success with_reducible refine (?_ : Alt _ _)); (fail_if_success with_reducible refine (?_ : Le _ _)); (fail_if_success with_reducible refine (?_ : LeAll _ _ _)); (first | with_reducible refine And.intro ?_ ?_ | with_reducible refine Cut.go ?_ | (with_reducible (refine impI ?_; intro _)) | (with_reducible refine (?_ : footOK _ _ = true); kernel_rfl) | ((with_reducible refine propI ?_); conv => whnf))))
  all_goals exact .mk [] [] _ rfl (.le (.boolT any_find)) ⟨.le (.refl _), .le (.refl _), trivial⟩ rfl
theorem c111 (y x : Fxd) : Mut (Xc W0 G) 111 [fxdA x, .ptr 0 0] [.box (fxdC y)] (.bool (bif x.fr == y.fr then x.tt == y.tt else false)) [.box (fxdC y)] := by
  refine mut_of' hX (show FnIs (Xc W0 G) 111 Tryz.f111 (codeOf Tryz.f111) from ⟨by kernel_rfl, by kernel_rfl, by kernel_rfl, by kernel_rfl⟩) rfl ?_
  repeat' (first
    | ((with_reducible refine (?_ : Alt _ _)); first | fail | (with_reducible refine Alt.one ?_))
    | ((with_reducible refine (?_ : AllLe _ _)); first | (first | exact AllLe.refl _ | (repeat' (first | exact trivial | apply Le.aggs | apply Le.tups | apply Le.fns | exact Le.refl _ | refine ⟨?_, ?_⟩))))
    | ((with_reducible refine (?_ : Sc _ (AllRen _ _ _))); refine Sc.of ?_; first | (repeat' (first | exact trivial | apply Le.aggs | apply Le.tups | apply Le.fns | exact Le.refl _ | refine ⟨?_, ?_⟩)))
    | ((with_reducible refine (?_ : (List.all _ _) = true)); rfl)
    | ((with_reducible refine (?_ : (and _ _) = true)); rfl)
    | ((with_reducible refine (?_ : List.Nodup _)); exact nodupB_spec rfl)
    | ((with_reducible refine (?_ : @Eq Nat _ _)); rfl)
    | ((with_reducible refine (?_ : LeOks _ _ _)); first | exact trivial | exact ⟨.refl _, trivial⟩ | exact ⟨.refl _, .refl _, trivial⟩)
    | ((fail_if_success with_reducible refine (?_ : False)); (fail_if_success with_reducible refine (?_ : Nat)); (fail_if_success with_reducible refine (?_ : Nat → Nat → AV)); (fail_if_success with_reducible refine (?_ : Sc _ _)); (fail_if_success with_reducible refine (?_ : Side _)); (fail_if_success with_reducible refine (?_ : Exists _)); (fail_if_success with_reducible refine (?_ : Ends _ _ _ _ _ _ _)); (fail_if_success with_reducible refine (?_ : Alt _ _)); (fail_if_success with_reducible refine (?_ : Le _ _)); (fail_if_success with_reducible refine (?_ : LeAll _ _ _)); (first | with_reducible refine And.intro ?_ ?_ | with_reducible refine Cut.go ?_ | (with_reducible (refine impI ?_; intro _)) | (with_reducible refine (?_ : footOK _ _ = true); kernel_rfl) | ((with_reducible refine propI ?_); conv => whnf))))
  all_goals try (exact .of (Nat.le_of_ble_eq_true rfl))
  all_goals exact .mk [] [] _ rfl (.le (.boolT rfl)) ⟨.le (.refl _), trivial⟩ rfl
theorem c145 (y : Fxd) (m : Nat) (g : Nat → Fxd) (hm : Side (m ≤ 1000)) : Mut (Xc W0 G) 145 [.slc 3 m (fun i j => tbl (fxdC (g i)) j), .fn 111 1 (tbl [.ptr 0 0])] [.box (fxdC y)] (.int .i64 (findI (fun i => bif (g i).fr == y.fr then (g i).tt == y.tt else false) m)) [.box (fxdC y)] := by
  have hm := hm.get
  refine mut_of' hX (show FnIs (Xc W0 G) 145 Tryz.f145 (codeOf Tryz.f145) from ⟨by kernel_rfl, by kernel_rfl, by kernel_rfl, by kernel_rfl⟩) rfl ?_
  repeat' (first
    | ((with_reducible refine (?_ : Alt _ _)); first | fail | (with_reducible refine Alt.one ?_))
    | ((with_reducible refine (?_ : AllLe _ _)); first | (first | exact AllLe.refl _ | (repeat' (first | exact trivial | apply Le.aggs | apply Le.tups | apply Le.fns | exact Le.refl _ | refine ⟨?_, ?_⟩))))
    | ((with_reducible refine (?_ : Sc _ (AllRen _ _ _))); refine Sc.of ?_; first | (repeat' (first | exact trivial | apply Le.aggs | apply Le.tups | apply Le.fns | exact Le.refl _ | refine ⟨?_, ?_⟩)))
    | ((with_reducible refine (?_ : (List.all _ _) = true)); rfl)
    | ((with_reducible refine (?_ : (and _ _) = true)); rfl)
    | ((with_reducible refine (?_ : List.Nodup _)); exact nodupB_spec rfl)
    | ((with_reducible refine (?_ : @Eq Nat _ _)); rfl)
    | ((with_reducible refine (?_ : LeOks _ _ _)); first | exact trivial | exact ⟨.refl _, trivial⟩ | exact ⟨.refl _, .refl _, trivial⟩)
    | ((fail_if_success with_reducible refine (?_ : False)); (fail_if_success with_reducible refine (?_ : Nat)); (fail_if_success with_reducible refine (?_ : Nat → Nat → AV)); (fail_if_success with_reducible refine (?_ : Sc _ _)); (fail_if_success with_reducible refine (?_ : Side _)); (fail_if_success with_reducible refine (?_ : Exists _)); (fail_if_success with_reducible refine (?_ : Ends _ _ _ _ _ _ _)); (fail_if_success with_reducible refine (?_ : Alt _ _)); (fail_if_success with_reducible refine (?_ : Le _ _)); (fail_if_success with_reducible refine (?_ : LeAll _ _ _)); (first | with_reducible refine And.intro ?_ ?_ | with_reducible refine Cut.go ?_ | (with_reducible (refine impI ?_; intro _)) | (with_reducible refine (?_ : footOK _ _ = true); kernel_rfl) | ((with_reducible refine propI ?_); conv => whnf))))
  refine ⟨Nat, fun i => ([(0, .slc 3 m (fun i j => tbl (fxdC (g i)) j)), (1, .fn 111 1 (tbl [.ptr 0 0])), (7, .int .i64 m), (8, .int .i64 i)], [.box (fxdC y)]), fun i => i ≤ m ∧ ∀ j : Nat, j < i → (fun i => bif (g i).fr == y.fr then (g i).tt == y.tt else false) j = false, fun i => m - i, ⟨0, ⟨Nat.zero_le _, fun _ h => by omega⟩, .le ⟨rfl, ⟨.refl _, trivial⟩, ⟨.refl _, .refl _, .refl _, .refl _, trivial⟩⟩⟩, fun i ⟨hi, h0⟩ => ?_⟩
  repeat' (first
    | ((with_reducible refine (?_ : Alt _ _)); first | (with_reducible (apply altM (ks := [0]) (m := 0); apply And.intro; apply Sc.of; apply (c111 hX y))) | (with_reducible refine Alt.one ?_))
    | ((with_reducible refine (?_ : AllLe _ _)); first | (first | exact AllLe.refl _ | (repeat' (first | exact trivial | apply Le.aggs | apply Le.tups | apply Le.fns | exact Le.refl _ | refine ⟨?_, ?_⟩))))
    | ((with_reducible refine (?_ : Sc _ (AllRen _ _ _))); refine Sc.of ?_; first | (repeat' (first | exact trivial | apply Le.aggs | apply Le.tups | apply Le.fns | exact Le.refl _ | refine ⟨?_, ?_⟩)))
    | ((with_reducible refine (?_ : (List.all _ _) = true)); rfl)
    | ((with_reducible refine (?_ : (and _ _) = true)); rfl)
    | ((with_reducible refine (?_ : List.Nodup _)); exact nodupB_spec rfl)
    | ((with_reducible refine (?_ : @Eq Nat _ _)); rfl)
    | ((with_reducible refine (?_ : LeOks _ _ _)); first | exact trivial | exact ⟨.refl _, trivial⟩ | exact ⟨.refl _, .refl _, trivial⟩)
    | ((fail_if_success with_reducible refine (?_ : False)); (fail_if_success with_reducible refine (?_ : Nat)); (fail_if_success with_reducible refine (?_ : Nat → Nat → AV)); (fail_if_success with_reducible refine (?_ : Sc _ _)); (fail_if_success with_reducible refine (?_ : Side _)); (fail_if_success with_reducible refine (?_ : Exists _)); (fail_if_success with_reducible refine (?_ : Ends _ _ _ _ _ _ _)); (fail_if_success with_reducible refine (?_ : Alt _ _)); (fail_if_success with_reducible refine (?_ : Le _ _)); (fail_if_success with_reducible refine (?_ : LeAll _ _ _)); (first | with_reducible refine And.intro ?_ ?_ | with_reducible refine Cut.go ?_ | (with_reducible (refine impI ?_; intro _)) | (with_reducible refine (?_ : footOK _ _ = true); kernel_rfl) | ((with_reducible refine propI ?_); conv => whnf))))
  all_goals first
    | exact .of (Nat.le_of_ble_eq_true rfl)
    | (rename_i h; have h := of_decide_eq_true h; exact .of ⟨by omega, by omega⟩)
    | (rename_i h; have h := of_decide_eq_false h; exact .mk [] [] _ rfl (.le (.intI (findI_none (fun j hj => h0 j (by omega))).symm)) ⟨.le (.refl _), trivial⟩ rfl)
    | (rename_i h1 h; have h1 := of_decide_eq_true h1
       simp only [Int.toNat_natCast] at h
       first
         | exact .of ⟨by omega, by omega⟩
         | exact ⟨i + 1, ⟨by omega, all_lt h0 h⟩, by show m - (i + 1) < m - i; omega, .le ⟨rfl, ⟨.refl _, trivial⟩, ⟨.refl _, .refl _, .refl _, .refl _, trivial⟩⟩⟩
         | (exact .mk [] [] _ rfl (.le (.intI (findI_hit (by omega) h0 h).symm)) ⟨.le (.refl _), trivial⟩ rfl))
theorem c110 (y : Fxd) (m : Nat) (g : Nat → Fxd) (hm : Side (m ≤ 1000)) : Mut (Xc W0 G) 110 [.slc 3 m (fun i j => tbl (fxdC (g i)) j), .fn 111 1 (tbl [.ptr 0 0])] [.box (fxdC y)] (.bool ((List.range m).any (fun i => bif (g i).fr == y.fr then (g i).tt == y.tt else false))) [.box (fxdC y)] := by
  refine mut_of' hX (show FnIs (Xc W0 G) 110 Tryz.f110 (codeOf Tryz.f110) from ⟨by kernel_rfl, by kernel_rfl, by kernel_rfl, by kernel_rfl⟩) rfl ?_
  repeat' (first
    | ((with_reducible refine (?_ : Alt _ _)); first | (with_reducible (apply altM (ks := [0]) (m := 0); apply And.intro; apply Sc.of; apply (c145 hX y m g hm))) | (with_reducible refine Alt.one ?_))
    | ((with_reducible refine (?_ : AllLe _ _)); first | (first | exact AllLe.refl _ | (repeat' (first | exact trivial | apply Le.aggs | apply Le.tups | apply Le.fns | exact Le.refl _ | refine ⟨?_, ?_⟩))))
    | ((with_reducible refine (?_ : Sc _ (AllRen _ _ _))); refine Sc.of ?_; first | (repeat' (first | exact trivial | apply Le.aggs | apply Le.tups | apply Le.fns | exact Le.refl _ | refine ⟨?_, ?_⟩)))
    | ((with_reducible refine (?_ : (List.all _ _) = true)); rfl)
    | ((with_reducible refine (?_ : (and _ _) = true)); rfl)
    | ((with_reducible refine (?_ : List.Nodup _)); exact nodupB_spec rfl)
    | ((with_reducible refine (?_ : @Eq Nat _ _)); rfl)
    | ((with_reducible refine (?_ : LeOks _ _ _)); first | exact trivial | exact ⟨.refl _, trivial⟩ | exact ⟨.refl _, .refl _, trivial⟩)
    | ((fail_if_success with_reducible refine (?_ : False)); (fail_if_success with_reducible refine (?_ : Nat)); (fail_if_success with_reducible refine (?_ : Nat → Nat → AV)); (fail_if_success with_reducible refine (?_ : Sc _ _)); (fail_if_success with_reducible refine (?_ : Side _)); (fail_if_success with_reducible refine (?_ : Exists _)); (fail_if_success with_reducible refine (?_ : Ends _ _ _ _ _ _ _)); (fail_if_success with_reducible refine (?_ : Alt _ _)); (fail_if_success with_reducible refine (?_ : Le _ _)); (fail_if_success with_reducible refine (?_ : LeAll _ _ _)); (first | with_reducible refine And.intro ?_ ?_ | with_reducible refine Cut.go ?_ | (with_reducible (refine impI ?_; intro _)) | (with_reducible refine (?_ : footOK _ _ = true); kernel_rfl) | ((with_reducible refine propI ?_); conv => whnf))))
  all_goals exact .mk [] [] _ rfl (.le (.boolT any_find)) ⟨.le (.refl _), trivial⟩ rfl
theorem c98 (t : Trf) (hs : Side (TOk t)) (k : Nat) (hk : Side (k < t.zones.length)) : Mut (Xc W0 G) 98 [.int .i64 k, .ptr 0 0] [.box (trfC t)] (.int .i64 (zoneE t k)) [.box (trfC t)] := by
  have ok := hs.get
  have hk' := hk.get
  refine mut_of' hX (show FnIs (Xc W0 G) 98 Tryz.f98 (codeOf Tryz.f98) from ⟨by kernel_rfl, by kernel_rfl, by kernel_rfl, by kernel_rfl⟩) rfl ?_
  repeat' (first
    | ((with_reducible refine (?_ : Alt _ _)); first | (with_reducible apply callAlt (c96 hX (t.zones.take k) (t.zones.getD k bs0) (Side.mk (by rw [List.length_take]; have := ok.zones; omega)) (Side.mk (ok.zone k)))) | (with_reducible refine Alt.one ?_))
    | ((with_reducible refine (?_ : AllLe _ _)); first | exact ⟨.refl _, le_preI (es := 1) (n := (t.zones.take k).length) (by rw [List.length_take]; simp only [Int.toNat_natCast, Int.toNat_zero]; omega) (fun i j hi => by show AV.str (t.zones.getD (0 + i) bs0) = AV.str ((t.zones.take k).getD i bs0); rw [Nat.zero_add, take_of (by simp only [Int.toNat_natCast, Int.toNat_zero] at hi; omega)]), trivial⟩ | (first | exact AllLe.refl _ | (repeat' (first | exact trivial | apply Le.aggs | apply Le.tups | apply Le.fns | exact Le.refl _ | refine ⟨?_, ?_⟩))))
    | ((with_reducible refine (?_ : Sc _ (AllRen _ _ _))); refine Sc.of ?_; first | (repeat' (first | exact trivial | apply Le.aggs | apply Le.tups | apply Le.fns | exact Le.refl _ | refine ⟨?_, ?_⟩)))
    | ((with_reducible refine (?_ : (List.all _ _) = true)); rfl)
    | ((with_reducible refine (?_ : (and _ _) = true)); rfl)
    | ((with_reducible refine (?_ : List.Nodup _)); exact nodupB_spec rfl)
    | ((with_reducible refine (?_ : @Eq Nat _ _)); rfl)
    | ((with_reducible refine (?_ : LeOks _ _ _)); first | exact trivial | exact ⟨.refl _, trivial⟩ | exact ⟨.refl _, .refl _, trivial⟩)
    | ((fail_if_success with_reducible refine (?_ : False)); (fail_if_success with_reducible refine (?_ : Nat)); (fail_if_success with_reducible refine (?_ : Nat → Nat → AV)); (fail_if_success with_reducible refine (?_ : Sc _ _)); (fail_if_success with_reducible refine (?_ : Side _)); (fail_if_success with_reducible refine (?_ : Exists _)); (fail_if_success with_reducible refine (?_ : Ends _ _ _ _ _ _ _)); (fail_if_success with_reducible refine (?_ : Alt _ _)); (fail_if_success with_reducible refine (?_ : Le _ _)); (fail_if_success with_reducible refine (?_ : LeAll _ _ _)); (first | with_reducible refine And.intro ?_ ?_ | with_reducible refine Cut.go ?_ | (with_reducible (refine impI ?_; intro _)) | (with_reducible refine (?_ : footOK _ _ = true); kernel_rfl) | ((with_reducible refine propI ?_); conv => whnf))))
  all_goals try (exact .of (Nat.le_of_ble_eq_true rfl))
  all_goals first
    | exact .of ⟨by omega, by omega⟩
    | exact .of ⟨by omega, by omega, by omega⟩
    | (exact .mk [] [] _ rfl (.le (.intI (by unfold zoneE; rw [two_eq, hasB_take (by omega)]))) ⟨.le (.refl _), trivial⟩ rfl)
theorem c99 (t : Trf) (hs : Side (TOk t)) (k : Nat) (hk : Side (k < t.hol.length)) (h0 : ∀ j, j < k → holE t j = 0) : Mut (Xc W0 G) 99 [.int .i64 k, .ptr 0 0] [.box (trfC t)] (.int .i64 (holE t k)) [.box (trfC t)] := by
  have ok := hs.get
  have hk' := hk.get
  have ok2 := ok.hol
  cases k with
  | zero =>
    refine mut_of' hX (show FnIs (Xc W0 G) 99 Tryz.f99 (codeOf Tryz.f99) from ⟨by kernel_rfl, by kernel_rfl, by kernel_rfl, by kernel_rfl⟩) rfl ?_
    repeat' (first
      | ((with_reducible refine (?_ : Alt _ _)); first | (with_reducible apply callAlt (c100d hX [t.hol.getD 0 0] 2 (by decide) ?_)) | (with_reducible refine Alt.one ?_))
      | ((with_reducible refine (?_ : AllLe _ _)); first | exact ⟨le_h0 rfl rfl, .refl _, .refl _, trivial⟩ | (first | exact AllLe.refl _ | (repeat' (first | exact trivial | apply Le.aggs | apply Le.tups | apply Le.fns | exact Le.refl _ | refine ⟨?_, ?_⟩))))
      | ((with_reducible refine (?_ : Sc _ (AllRen _ _ _))); refine Sc.of ?_; first | (repeat' (first | exact trivial | apply Le.aggs | apply Le.tups | apply Le.fns | exact Le.refl _ | refine ⟨?_, ?_⟩)))
      | ((with_reducible refine (?_ : (List.all _ _) = true)); rfl)
      | ((with_reducible refine (?_ : (and _ _) = true)); rfl)
      | ((with_reducible refine (?_ : List.Nodup _)); exact nodupB_spec rfl)
      | ((with_reducible refine (?_ : @Eq Nat _ _)); rfl)
      | ((with_reducible refine (?_ : LeOks _ _ _)); first | exact trivial | exact ⟨.refl _, trivial⟩ | exact ⟨.refl _, .refl _, trivial⟩)
      | ((fail_if_success with_reducible refine (?_ : False)); (fail_if_success with_reducible refine (?_ : Nat)); (fail_if_success with_reducible refine (?_ : Nat → Nat → AV)); (fail_if_success with_reducible refine (?_ : Sc _ _)); (fail_if_success with_reducible refine (?_ : Side _)); (fail_if_success with_reducible refine (?_ : Exists _)); (fail_if_success with_reducible refine (?_ : Ends _ _ _ _ _ _ _)); (fail_if_success with_reducible refine (?_ : Alt _ _)); (fail_if_success with_reducible refine (?_ : Le _ _)); (fail_if_success with_reducible refine (?_ : LeAll _ _ _)); (first | with_reducible refine And.intro ?_ ?_ | with_reducible refine Cut.go ?_ | (with_reducible (refine impI ?_; intro _)) | (with_reducible refine (?_ : footOK _ _ = true); kernel_rfl) | ((with_reducible refine propI ?_); conv => whnf))))
    all_goals first
      | exact .of (Nat.le_of_ble_eq_true rfl)
      | exact .of ⟨by decide, by decide⟩
      | exact .of ⟨by decide, by decide, by omega⟩
      | exact Side.mk (by simp)
      | (exact .mk [] [] _ rfl (.le (.intI (by unfold holE; exact hol_0))) ⟨.le (.refl _), trivial⟩ rfl)
  | succ k =>
    refine mut_of' hX (show FnIs (Xc W0 G) 99 Tryz.f99 (codeOf Tryz.f99) from ⟨by kernel_rfl, by kernel_rfl, by kernel_rfl, by kernel_rfl⟩) rfl ?_
    repeat' (first
      | ((with_reducible refine (?_ : Alt _ _)); first | (with_reducible apply callAlt (c100d hX [t.hol.getD k 0, t.hol.getD (k + 1) 0] 2 (by decide) ?_)) | (with_reducible refine Alt.one ?_))
      | ((with_reducible refine (?_ : AllLe _ _)); first | exact ⟨le_h1 (by simp; omega) (by simp) (by simp), .refl _, .refl _, trivial⟩ | (first | exact AllLe.refl _ | (repeat' (first | exact trivial | apply Le.aggs | apply Le.tups | apply Le.fns | exact Le.refl _ | refine ⟨?_, ?_⟩))))
      | ((with_reducible refine (?_ : Sc _ (AllRen _ _ _))); refine Sc.of ?_; first | (repeat' (first | exact trivial | apply Le.aggs | apply Le.tups | apply Le.fns | exact Le.refl _ | refine ⟨?_, ?_⟩)))
      | ((with_reducible refine (?_ : (List.all _ _) = true)); rfl)
      | ((with_reducible refine (?_ : (and _ _) = true)); rfl)
      | ((with_reducible refine (?_ : List.Nodup _)); exact nodupB_spec rfl)
      | ((with_reducible refine (?_ : @Eq Nat _ _)); rfl)
      | ((with_reducible refine (?_ : LeOks _ _ _)); first | exact trivial | exact ⟨.refl _, trivial⟩ | exact ⟨.refl _, .refl _, trivial⟩)
      | ((fail_if_success with_reducible refine (?_ : False)); (fail_if_success with_reducible refine (?_ : Nat)); (fail_if_success with_reducible refine (?_ : Nat → Nat → AV)); (fail_if_success with_reducible refine (?_ : Sc _ _)); (fail_if_success with_reducible refine (?_ : Side _)); (fail_if_success with_reducible refine (?_ : Exists _)); (fail_if_success with_reducible refine (?_ : Ends _ _ _ _ _ _ _)); (fail_if_success with_reducible refine (?_ : Alt _ _)); (fail_if_success with_reducible refine (?_ : Le _ _)); (fail_if_success with_reducible refine (?_ : LeAll _ _ _)); (first | with_reducible refine And.intro ?_ ?_ | with_reducible refine Cut.go ?_ | (with_reducible (refine impI ?_; intro _)) | (with_reducible refine (?_ : footOK _ _ = true); kernel_rfl) | ((with_reducible refine propI ?_); conv => whnf))))
    all_goals first
      | exact .of (Nat.le_of_ble_eq_true rfl)
      | exact .of ⟨by omega, by omega⟩
      | exact .of ⟨by omega, by omega, by omega⟩
      | exact Side.mk (by simp)
      | (have hz := h0 k (by omega)
         unfold holE at hz
         exact .mk [] [] _ rfl (.le (.intI (by unfold holE; exact hol_1 hz))) ⟨.le (.refl _), trivial⟩ rfl)
theorem c102 (t : Trf) (hs : Side (TOk t)) (k : Nat) (hk : Side (k < t.rules.length)) : Mut (Xc W0 G) 102 [.int .i64 k, .ptr 0 0] [.box (trfC t)] (.int .i64 (ruliE t k)) [.box (trfC t)] := by
  have ok := hs.get
  have hk' := hk.get
  have ok2 := ok.rules
  have ok3 := ok.zones
  have ok4 := ok.rzones k
  have ok5 := ok.rdays k
  refine mut_of' hX (show FnIs (Xc W0 G) 102 Tryz.f102 (codeOf Tryz.f102) from ⟨by kernel_rfl, by kernel_rfl, by kernel_rfl, by kernel_rfl⟩) rfl ?_
  repeat' (first
    | ((with_reducible refine (?_ : Alt _ _)); first | (with_reducible (apply altM (ks := [0, 1]) (m := 0); apply And.intro; apply Sc.of; apply (c103 hX t k (fun i => t.rules.getD i rul0) (Side.mk (by omega)) k hk))) | (with_reducible apply callAlt (c96 hX [] (t.rules.getD k rul0).name (Side.mk (by decide)) (Side.mk (ok.rname k)))) | (with_reducible apply callAlt (c97 hX _ _)) | (with_reducible apply callAlt (c105 hX t (t.rules.getD k rul0) (Side.mk ⟨by omega, by omega, by omega⟩))) | (with_reducible apply callAlt (c95_3 hX _ _ _)) | (with_reducible refine Alt.one ?_))
    | ((with_reducible refine (?_ : AllLe _ _)); first | exact ⟨.refl _, .slc0 _ _, trivial⟩ | exact ⟨le_slc3 rfl rfl rfl, trivial⟩ | exact ⟨le_slc2 rfl rfl, trivial⟩ | (first | exact AllLe.refl _ | (repeat' (first | exact trivial | apply Le.aggs | apply Le.tups | apply Le.fns | exact Le.refl _ | refine ⟨?_, ?_⟩))))
    | ((with_reducible refine (?_ : Sc _ (AllRen _ _ _))); refine Sc.of ?_; first | exact ⟨le_preI (es := 10) (n := k) (by simp) (fun i j hi => by show tbl (rulC (t.rules.getD (0 + i) rul0)) j = tbl (rulC (t.rules.getD i rul0)) j; rw [Nat.zero_add]), .fns ⟨⟨trivial, .refl _⟩, .refl _⟩, trivial⟩ | (repeat' (first | exact trivial | apply Le.aggs | apply Le.tups | apply Le.fns | exact Le.refl _ | refine ⟨?_, ?_⟩)))
    | ((with_reducible refine (?_ : (List.all _ _) = true)); rfl)
    | ((with_reducible refine (?_ : (and _ _) = true)); rfl)
    | ((with_reducible refine (?_ : List.Nodup _)); exact nodupB_spec rfl)
    | ((with_reducible refine (?_ : @Eq Nat _ _)); rfl)
    | ((with_reducible refine (?_ : LeOks _ _ _)); first | exact trivial | exact ⟨.refl _, trivial⟩ | exact ⟨.refl _, .refl _, trivial⟩)
    | ((fail_if_success with_reducible refine (?_ : False)); (fail_if_success with_reducible refine (?_ : Nat)); (fail_if_success with_reducible refine (?_ : Nat → Nat → AV)); (fail_if_success with_reducible refine (?_ : Sc _ _)); (fail_if_success with_reducible refine (?_ : Side _)); (fail_if_success with_reducible refine (?_ : Exists _)); (fail_if_success with_reducible refine (?_ : Ends _ _ _ _ _ _ _)); (fail_if_success with_reducible refine (?_ : Alt _ _)); (fail_if_success with_reducible refine (?_ : Le _ _)); (fail_if_success with_reducible refine (?_ : LeAll _ _ _)); (first | with_reducible refine And.intro ?_ ?_ | with_reducible refine Cut.go ?_ | (with_reducible (refine impI ?_; intro _)) | (with_reducible refine (?_ : footOK _ _ = true); kernel_rfl) | ((with_reducible refine propI ?_); conv => whnf))))
  all_goals try (exact .of (Nat.le_of_ble_eq_true rfl))
  all_goals first
    | exact .of ⟨by omega, by omega⟩
    | exact .of ⟨by omega, by omega, by omega⟩
    | exact Side.mk (by first | omega | exact ⟨by omega, by omega, by omega⟩)
    | (exact .mk [] [] _ rfl (.le (.intI (by unfold ruliE; rw [hasB_nil, three_eq]))) ⟨.le (.refl _), trivial⟩ rfl)
theorem c106 (t : Trf) (hs : Side (TOk t)) (k : Nat) (hk : Side (k < t.extras.length)) : Mut (Xc W0 G) 106 [.int .i64 k, .ptr 0 0] [.box (trfC t)] (.int .i64 (extE t k)) [.box (trfC t)] := by
  have ok := hs.get
  have hk' := hk.get
  have ok2 := ok.extras
  have ok3 := ok.zones
  have ok4 := ok.rzones k
  have ok5 := ok.rdays k
  refine mut_of' hX (show FnIs (Xc W0 G) 106 Tryz.f106 (codeOf Tryz.f106) from ⟨by kernel_rfl, by kernel_rfl, by kernel_rfl, by kernel_rfl⟩) rfl ?_
  repeat' (first
    | ((with_reducible refine (?_ : Alt _ _)); first | (with_reducible (apply altM (ks := [0, 1]) (m := 0); apply And.intro; apply Sc.of; apply (c107 hX t k (fun i => t.extras.getD i ext0) (Side.mk (by omega)) k hk))) | (with_reducible apply callAlt (c96 hX [] (t.extras.getD k ext0).name (Side.mk (by decide)) (Side.mk (ok.ename k)))) | (with_reducible apply callAlt (c97 hX _ _)) | (with_reducible apply callAlt (c94 hX _)) | (with_reducible apply callAlt (c95_3 hX _ _ _)) | (with_reducible refine Alt.one ?_))
    | ((with_reducible refine (?_ : AllLe _ _)); first | exact ⟨.refl _, .slc0 _ _, trivial⟩ | exact ⟨le_slc3 rfl rfl rfl, trivial⟩ | exact ⟨le_slc2 rfl rfl, trivial⟩ | (first | exact AllLe.refl _ | (repeat' (first | exact trivial | apply Le.aggs | apply Le.tups | apply Le.fns | exact Le.refl _ | refine ⟨?_, ?_⟩))))
    | ((with_reducible refine (?_ : Sc _ (AllRen _ _ _))); refine Sc.of ?_; first | exact ⟨le_preI (es := 2) (n := k) (by simp) (fun i j hi => by show tbl (extC (t.extras.getD (0 + i) ext0)) j = tbl (extC (t.extras.getD i ext0)) j; rw [Nat.zero_add]), .fns ⟨⟨trivial, .refl _⟩, .refl _⟩, trivial⟩ | (repeat' (first | exact trivial | apply Le.aggs | apply Le.tups | apply Le.fns | exact Le.refl _ | refine ⟨?_, ?_⟩)))
    | ((with_reducible refine (?_ : (List.all _ _) = true)); rfl)
    | ((with_reducible refine (?_ : (and _ _) = true)); rfl)
    | ((with_reducible refine (?_ : List.Nodup _)); exact nodupB_spec rfl)
    | ((with_reducible refine (?_ : @Eq Nat _ _)); rfl)
    | ((with_reducible refine (?_ : LeOks _ _ _)); first | exact trivial | exact ⟨.refl _, trivial⟩ | exact ⟨.refl _, .refl _, trivial⟩)
    | ((fail_if_success with_reducible refine (?_ : False)); (fail_if_success with_reducible refine (?_ : Nat)); (fail_if_success with_reducible refine (?_ : Nat → Nat → AV)); (fail_if_success with_reducible refine (?_ : Sc _ _)); (fail_if_success with_reducible refine (?_ : Side _)); (fail_if_success with_reducible refine (?_ : Exists _)); (fail_if_success with_reducible refine (?_ : Ends _ _ _ _ _ _ _)); (fail_if_success with_reducible refine (?_ : Alt _ _)); (fail_if_success with_reducible refine (?_ : Le _ _)); (fail_if_success with_reducible refine (?_ : LeAll _ _ _)); (first | with_reducible refine And.intro ?_ ?_ | with_reducible refine Cut.go ?_ | (with_reducible (refine impI ?_; intro _)) | (with_reducible refine (?_ : footOK _ _ = true); kernel_rfl) | ((with_reducible refine propI ?_); conv => whnf))))
  all_goals try (exact .of (Nat.le_of_ble_eq_true rfl))
  all_goals first
    | exact .of ⟨by omega, by omega⟩
    | exact .of ⟨by omega, by omega, by omega⟩
    | exact Side.mk (by first | omega | exact ⟨by omega, by omega, by omega⟩)
    | (exact .mk [] [] _ rfl (.le (.intI (by unfold extE; rw [hasB_nil, three_eq]; rfl))) ⟨.le (.refl _), trivial⟩ rfl)
theorem c109 (t : Trf) (hs : Side (TOk t)) (k : Nat) (hk : Side (k < t.fixed.length)) : Mut (Xc W0 G) 109 [.int .i64 k, .ptr 0 0] [.box (trfC t)] (.int .i64 (fxdE t k)) [.box (trfC t)] := by
  have ok := hs.get
  have hk' := hk.get
  have ok2 := ok.fixed
  have ok3 := ok.zones
  refine mut_of' hX (show FnIs (Xc W0 G) 109 Tryz.f109 (codeOf Tryz.f109) from ⟨by kernel_rfl, by kernel_rfl, by kernel_rfl, by kernel_rfl⟩) rfl ?_
  repeat' (first
    | ((with_reducible refine (?_ : Alt _ _)); first | (with_reducible (apply altM (ks := [1]) (m := 0); apply And.intro; apply Sc.of; apply (c110 hX (t.fixed.getD k fxd0) k (fun i => t.fixed.getD i fxd0) (Side.mk (by omega))))) | (with_reducible apply callAlt (c112 hX t _ (Side.mk ok3))) | (with_reducible apply callAlt (c97 hX _ _)) | (with_reducible apply callAlt (c94 hX _)) | (with_reducible apply callAlt (c95_3 hX _ _ _)) | (with_reducible refine Alt.one ?_))
    | ((with_reducible refine (?_ : AllLe _ _)); first | exact ⟨le_slc3 rfl rfl rfl, trivial⟩ | (first | exact AllLe.refl _ | (repeat' (first | exact trivial | apply Le.aggs | apply Le.tups | apply Le.fns | exact Le.refl _ | refine ⟨?_, ?_⟩))))
    | ((with_reducible refine (?_ : Sc _ (AllRen _ _ _))); refine Sc.of ?_; first | exact ⟨le_preI (es := 3) (n := k) (by simp) (fun i j hi => by show tbl (fxdC (t.fixed.getD (0 + i) fxd0)) j = tbl (fxdC (t.fixed.getD i fxd0)) j; rw [Nat.zero_add]), .fns ⟨trivial, .refl _⟩, trivial⟩ | (repeat' (first | exact trivial | apply Le.aggs | apply Le.tups | apply Le.fns | exact Le.refl _ | refine ⟨?_, ?_⟩)))
    | ((with_reducible refine (?_ : (List.all _ _) = true)); rfl)
    | ((with_reducible refine (?_ : (and _ _) = true)); rfl)
    | ((with_reducible refine (?_ : List.Nodup _)); exact nodupB_spec rfl)
    | ((with_reducible refine (?_ : @Eq Nat _ _)); rfl)
    | ((with_reducible refine (?_ : LeOks _ _ _)); first | exact trivial | exact ⟨.refl _, trivial⟩ | exact ⟨.refl _, .refl _, trivial⟩)
    | ((fail_if_success with_reducible refine (?_ : False)); (fail_if_success with_reducible refine (?_ : Nat)); (fail_if_success with_reducible refine (?_ : Nat → Nat → AV)); (fail_if_success with_reducible refine (?_ : Sc _ _)); (fail_if_success with_reducible refine (?_ : Side _)); (fail_if_success with_reducible refine (?_ : Exists _)); (fail_if_success with_reducible refine (?_ : Ends _ _ _ _ _ _ _)); (fail_if_success with_reducible refine (?_ : Alt _ _)); (fail_if_success with_reducible refine (?_ : Le _ _)); (fail_if_success with_reducible refine (?_ : LeAll _ _ _)); (first | with_reducible refine And.intro ?_ ?_ | with_reducible refine Cut.go ?_ | (with_reducible (refine impI ?_; intro _)) | (with_reducible refine (?_ : footOK _ _ = true); kernel_rfl) | ((with_reducible refine propI ?_); conv => whnf))))
  all_goals try (exact .of (Nat.le_of_ble_eq_true rfl))
  all_goals first
    | exact .of ⟨by omega, by omega⟩
    | exact .of ⟨by omega, by omega, by omega⟩
    | exact Side.mk (by omega)
    | exact .of (.mk (by omega))
    | (exact .mk [] [] _ rfl (.le (.intI (by unfold fxdE; rw [fixed_eq]))) ⟨.le (.refl _), trivial⟩ rfl)
end
end Go.Fx

/-
  What is wrong with a tariff.
-/
namespace Go.Fx
open Go.Proofs Go.RowKit

theorem top_ne {t : Trf} {e : Int} (h : topE t = e) (h0 : e ≠ 0) : trfE t = e ∧ trfL t = 0 ∧ trfN t = 0 := by
  unfold trfE trfL trfN
  rw [h, decide_eq_false h0]
  exact ⟨rfl, rfl, rfl⟩
theorem from_hit (t : Trf) : ∀ (k b p : Nat), b ≤ p → p < b + k → (∀ q, b ≤ q → q < p → pE t q = 0) → pE t p ≠ 0 → fromE t b k = pE t p ∧ fromL t b k = pL t p ∧ fromN t b k = pN t p
  | 0, b, p, h1, h2, _, _ => by omega
  | k + 1, b, p, h1, h2, h, hp => by
    by_cases hb : b = p
    · subst hb
      simp only [fromE, fromL, fromN, decide_eq_false hp]
      exact ⟨rfl, rfl, rfl⟩
    · have hz := h b (Nat.le_refl _) (by omega)
      simp only [fromE, fromL, fromN, hz, decide_true, cond_true]
      exact from_hit t k (b + 1) p (by omega) (by omega) (fun q q1 q2 => h q (by omega) q2) hp
theorem from_none (t : Trf) : ∀ (k b : Nat), (∀ q, b ≤ q → q < b + k → pE t q = 0) → fromE t b k = 0 ∧ fromL t b k = 0 ∧ fromN t b k = 0
  | 0, b, _ => ⟨rfl, rfl, rfl⟩
  | k + 1, b, h => by
    have hz := h b (Nat.le_refl _) (by omega)
    simp only [fromE, fromL, fromN, hz, decide_true, cond_true]
    exact from_none t k (b + 1) fun q q1 q2 => h q (by omega) (by omega)
theorem part_hit {t : Trf} (h0 : topE t = 0) {p : Nat} (hp : p < 5) (h : ∀ q, q < p → pE t q = 0) {e l m : Int} (he : pE t p = e) (hl : pL t p = l) (hm : pN t p = m) (hne : e ≠ 0) : trfE t = e ∧ trfL t = l ∧ trfN t = m := by
  have w := from_hit t 5 0 p (Nat.zero_le _) (by omega) (fun q _ hq => h q hq) (by rw [he]; exact hne)
  unfold trfE trfL trfN
  rw [h0, w.1, w.2.1, w.2.2, he, hl, hm]
  exact ⟨rfl, rfl, rfl⟩
theorem part_none {t : Trf} (h0 : topE t = 0) (h : ∀ q, q < 5 → pE t q = 0) : trfE t = 0 ∧ trfL t = 0 ∧ trfN t = 0 := by
  have w := from_none t 5 0 (fun q _ hq => h q (by omega))
  unfold trfE trfL trfN
  rw [h0, w.1, w.2.1, w.2.2]
  exact ⟨rfl, rfl, rfl⟩
theorem p_large {t : Trf} {p : Nat} (h : partM p < partN t p) : pE t p = 8 ∧ pL t p = 0 ∧ pN t p = 0 := by
  unfold pE pL pN
  rw [decide_eq_true h]
  exact ⟨rfl, rfl, rfl⟩
theorem p_hit {t : Trf} {p i : Nat} (h : ¬ partM p < partN t p) (hi : i < partN t p) (h0 : ∀ j, j < i → partE t p j = 0) (hne : partE t p i ≠ 0) : pE t p = partE t p i ∧ pL t p = (p : Int) + 1 ∧ pN t p = i := by
  have w := scan_hit (g := partE t p) (d := 0) (l := List.range (partN t p)) (i := i) (by simpa using hi) (fun j hj => by rw [range_at (by omega)]; exact h0 j hj) (by rw [range_at hi]; exact hne)
  unfold pE pL pN
  rw [decide_eq_false h]
  exact ⟨by rw [cond_false, w.1, range_at hi], rfl, w.2⟩
theorem p_none {t : Trf} {p : Nat} (h : ¬ partM p < partN t p) (h0 : ∀ j, j < partN t p → partE t p j = 0) : pE t p = 0 := by
  have w := scan_none (g := partE t p) (d := 0) (l := List.range (partN t p)) (fun j hj => by rw [range_at (by simpa using hj)]; exact h0 j (by simpa using hj))
  unfold pE
  rw [decide_eq_false h]
  exact w.1
theorem lt_5 {t : Trf} {p : Nat} (h : ∀ q, q < p → pE t q = 0) (hp : pE t p = 0) : ∀ q, q < p + 1 → pE t q = 0 := all_lt h hp
theorem top_eq (t : Trf) : topE t = firstS [firstS [isOk (nameB t.name) 4, isOk (!false) 5], isOk (bif inB t.unit 1 999999999 then inB t.step 0 100000 else false) 2, isOk (decide (0 < (t.zones.length : Int))) 10] := by
  unfold topE
  cases nameB t.name <;> cases (bif inB t.unit 1 999999999 then inB t.step 0 100000 else false) <;> cases decide (0 < (t.zones.length : Int)) <;> rfl
def trfR (t : Trf) : AV := .tup 2 (tbl [.agg 2 (tbl [.int .i64 (trfL t), .int .i64 (trfN t)]), .int .i64 (trfE t)])
section
variable {W0 : World} {G : Nat → Option AV} (hX : (Xc W0 G).Good)
include hX
set_option maxHeartbeats 2000000 in
theorem c66 (t : Trf) (hs : Side (TOk t)) : Pure (Xc W0 G) 66 [trfA t] (trfR t) := by
  have ok := hs.get
  refine mut_of' hX (show FnIs (Xc W0 G) 66 Tryz.f66 (codeOf Tryz.f66) from ⟨by kernel_rfl, by kernel_rfl, by kernel_rfl, by kernel_rfl⟩) rfl ?_
  repeat' (first
    | ((with_reducible refine (?_ : Alt _ _)); first | (with_reducible apply callAlt (c93 hX _ _ _)) | (with_reducible apply callAlt (c94 hX _)) | (with_reducible apply callAlt (c96 hX [] t.name (Side.mk (by decide)) (Side.mk ok.name))) | (with_reducible apply callAlt (c97 hX _ _)) | (with_reducible apply callAlt (c95_3 hX _ _ _)) | (with_reducible refine Alt.one ?_))
    | ((with_reducible refine (?_ : AllLe _ _)); first | exact ⟨.refl _, .slc0 _ _, trivial⟩ | exact ⟨le_slc3 rfl rfl rfl, trivial⟩ | (first | exact AllLe.refl _ | (repeat' (first | exact trivial | apply Le.aggs | apply Le.tups | apply Le.fns | exact Le.refl _ | refine ⟨?_, ?_⟩))))
    | ((with_reducible refine (?_ : Sc _ (AllRen _ _ _))); refine Sc.of ?_; first | (repeat' (first | exact trivial | apply Le.aggs | apply Le.tups | apply Le.fns | exact Le.refl _ | refine ⟨?_, ?_⟩)))
    | ((with_reducible refine (?_ : (List.all _ _) = true)); rfl)
    | ((with_reducible refine (?_ : (and _ _) = true)); rfl)
    | ((with_reducible refine (?_ : List.Nodup _)); exact nodupB_spec rfl)
    | ((with_reducible refine (?_ : @Eq Nat _ _)); rfl)
    | ((with_reducible refine (?_ : LeOks _ _ _)); first | exact trivial | exact ⟨.refl _, trivial⟩ | exact ⟨.refl _, .refl _, trivial⟩)
    | ((fail_if_success with_reducible refine (?_ : False)); (fail_if_success with_reducible refine (?_ : Nat)); (fail_if_success with_reducible refine (?_ : Nat → Nat → AV)); (fail_if_success with_reducible refine (?_ : Sc _ _)); (fail_if_success with_reducible refine (?_ : Side _)); (fail_if_success with_reducible refine (?_ : Exists _)); (fail_if_success with_reducible refine (?_ : Ends _ _ _ _ _ _ _)); (fail_if_success with_reducible refine (?_ : Alt _ _)); (fail_if_success with_reducible refine (?_ : Le _ _)); (fail_if_success with_reducible refine (?_ : LeAll _ _ _)); (first | with_reducible refine And.intro ?_ ?_ | with_reducible refine Cut.go ?_ | (with_reducible (refine impI ?_; intro _)) | (with_reducible refine (?_ : footOK _ _ = true); kernel_rfl) | ((with_reducible refine propI ?_); conv => whnf))))
  all_goals try (exact .of (Nat.le_of_ble_eq_true rfl))
  all_goals (rename_i h; rw [hasB_nil, ← top_eq] at h; simp only [decide_eq_true_eq, decide_eq_false_iff_not, beq_iff_eq, bne_iff_ne, beq_eq_false_iff_ne, bne_eq_false_iff_eq, ne_eq, Int.not_lt, Int.not_le, Nat.not_lt, Nat.not_le, Decidable.not_not, Int.toNat_natCast] at h)
  · have w := top_ne rfl h
    rw [show firstS [firstS [isOk (nameB t.name) 4, isOk (!hasB ([] : List ByteArray) ([] : List ByteArray).length t.name) 5], isOk (bif inB t.unit 1 999999999 then inB t.step 0 100000 else false) 2, isOk (decide (0 < (t.zones.length : Int))) 10] = topE t by rw [hasB_nil, ← top_eq]]
    exact .mk [] [] _ rfl (.le (.tups ⟨⟨trivial, .aggs ⟨⟨trivial, .intI w.2.1.symm⟩, .intI w.2.2.symm⟩⟩, .intI w.1.symm⟩)) trivial rfl
  · have h0t := h
    refine ⟨Nat, fun p => ([(2, .ptr 1 0), (61, .agg 20 (tbl [.int .i64 1, .int .i64 t.zones.length, .int .i64 6, .fn 98 1 (tbl [.ptr 0 0]), .int .i64 2, .int .i64 t.hol.length, .int .i64 20, .fn 99 1 (tbl [.ptr 0 0]), .int .i64 3, .int .i64 t.rules.length, .int .i64 12, .fn 102 1 (tbl [.ptr 0 0]), .int .i64 4, .int .i64 t.extras.length, .int .i64 6, .fn 106 1 (tbl [.ptr 0 0]), .int .i64 5, .int .i64 t.fixed.length, .int .i64 16, .fn 109 1 (tbl [.ptr 0 0])])), (62, .int .i64 p)], [.box (trfC t), .box [.int .i64 0, .int .i64 0]]), fun p => p ≤ 5 ∧ ∀ q, q < p → pE t q = 0, fun p => 5 - p, ⟨0, ⟨Nat.zero_le _, fun _ h => by omega⟩, .le ⟨rfl, ⟨.refl _, .refl _, trivial⟩, ⟨.refl _, .aggs ⟨⟨⟨⟨⟨⟨⟨⟨⟨⟨⟨⟨⟨⟨⟨⟨⟨⟨⟨⟨trivial, .refl _⟩, .refl _⟩, .refl _⟩, .fns ⟨trivial, .refl _⟩⟩, .refl _⟩, .refl _⟩, .refl _⟩, .fns ⟨trivial, .refl _⟩⟩, .refl _⟩, .refl _⟩, .refl _⟩, .fns ⟨trivial, .refl _⟩⟩, .refl _⟩, .refl _⟩, .refl _⟩, .fns ⟨trivial, .refl _⟩⟩, .refl _⟩, .refl _⟩, .refl _⟩, .fns ⟨trivial, .refl _⟩⟩, .refl _, trivial⟩⟩⟩, fun p ⟨hp, hz⟩ => ?_⟩
    rcases (show p = 0 ∨ p = 1 ∨ p = 2 ∨ p = 3 ∨ p = 4 ∨ p = 5 by omega) with rfl | rfl | rfl | rfl | rfl | rfl
    ·
      repeat' (first
        | ((with_reducible refine (?_ : Alt _ _)); first | fail | (with_reducible refine Alt.one ?_))
        | ((with_reducible refine (?_ : AllLe _ _)); first | (first | exact AllLe.refl _ | (repeat' (first | exact trivial | apply Le.aggs | apply Le.tups | apply Le.fns | exact Le.refl _ | refine ⟨?_, ?_⟩))))
        | ((with_reducible refine (?_ : Sc _ (AllRen _ _ _))); refine Sc.of ?_; first | (repeat' (first | exact trivial | apply Le.aggs | apply Le.tups | apply Le.fns | exact Le.refl _ | refine ⟨?_, ?_⟩)))
        | ((with_reducible refine (?_ : (List.all _ _) = true)); rfl)
        | ((with_reducible refine (?_ : (and _ _) = true)); rfl)
        | ((with_reducible refine (?_ : List.Nodup _)); exact nodupB_spec rfl)
        | ((with_reducible refine (?_ : @Eq Nat _ _)); rfl)
        | ((with_reducible refine (?_ : LeOks _ _ _)); first | exact trivial | exact ⟨.refl _, trivial⟩ | exact ⟨.refl _, .refl _, trivial⟩)
        | ((fail_if_success with_reducible refine (?_ : False)); (fail_if_success with_reducible refine (?_ : Nat)); (fail_if_success with_reducible refine (?_ : Nat → Nat → AV)); (fail_if_success with_reducible refine (?_ : Sc _ _)); (fail_if_success with_reducible refine (?_ : Side _)); (fail_if_success with_reducible refine (?_ : Exists _)); (fail_if_success with_reducible refine (?_ : Ends _ _ _ _ _ _ _)); (fail_if_success with_reducible refine (?_ : Alt _ _)); (fail_if_success with_reducible refine (?_ : Le _ _)); (fail_if_success with_reducible refine (?_ : LeAll _ _ _)); (first | with_reducible refine And.intro ?_ ?_ | with_reducible refine Cut.go ?_ | (with_reducible (refine impI ?_; intro _)) | (with_reducible refine (?_ : footOK _ _ = true); kernel_rfl) | ((with_reducible refine propI ?_); conv => whnf))))
      all_goals try (rename_i h; exact absurd h (by decide))
      all_goals try (exact .of (Nat.le_of_ble_eq_true rfl))
      all_goals try (exact .of (by decide))
      all_goals (rename_i h)
      · have h := of_decide_eq_true h
        have w := p_large (t := t) (p := 0) (by show 6 < t.zones.length; omega)
        have w := part_hit h0t (by decide) hz w.1 w.2.1 w.2.2 (by decide)
        exact .mk [] [] _ rfl (.le (.tups ⟨⟨trivial, .aggs ⟨⟨trivial, .intI w.2.1.symm⟩, .intI w.2.2.symm⟩⟩, .intI w.1.symm⟩)) trivial rfl
      · have h := of_decide_eq_false h
        have hl : ¬ partM 0 < partN t 0 := by show ¬ 6 < t.zones.length; omega
        refine ⟨Nat, fun i => ([(2, .ptr 1 0), (8, .ptr 2 0), (61, .agg 20 (tbl [.int .i64 1, .int .i64 t.zones.length, .int .i64 6, .fn 98 1 (tbl [.ptr 0 0]), .int .i64 2, .int .i64 t.hol.length, .int .i64 20, .fn 99 1 (tbl [.ptr 0 0]), .int .i64 3, .int .i64 t.rules.length, .int .i64 12, .fn 102 1 (tbl [.ptr 0 0]), .int .i64 4, .int .i64 t.extras.length, .int .i64 6, .fn 106 1 (tbl [.ptr 0 0]), .int .i64 5, .int .i64 t.fixed.length, .int .i64 16, .fn 109 1 (tbl [.ptr 0 0])])), (62, .int .i64 0), (72, .int .i64 t.zones.length), (73, .int .i64 i)], [.box (trfC t), .box [.int .i64 0, .int .i64 0], .box [.int .i64 1, .int .i64 t.zones.length, .int .i64 6, .fn 98 1 (tbl [.ptr 0 0])]]), fun i => i ≤ t.zones.length ∧ ∀ j, j < i → zoneE t j = 0, fun i => t.zones.length - i, ⟨0, ⟨Nat.zero_le _, fun _ h => by omega⟩, .le ⟨rfl, ⟨.refl _, .refl _, .refl _, trivial⟩, ⟨.refl _, .refl _, .refl _, .refl _, .refl _, .refl _, trivial⟩⟩⟩, fun i ⟨hi, h0⟩ => ?_⟩
        repeat' (first
          | ((with_reducible refine (?_ : Alt _ _)); first | (with_reducible (apply altM (ks := [0]) (m := 0); apply And.intro; apply Sc.of; apply (c98 hX t hs i ?_))) | (with_reducible refine Alt.one ?_))
          | ((with_reducible refine (?_ : AllLe _ _)); first | (first | exact AllLe.refl _ | (repeat' (first | exact trivial | apply Le.aggs | apply Le.tups | apply Le.fns | exact Le.refl _ | refine ⟨?_, ?_⟩))))
          | ((with_reducible refine (?_ : Sc _ (AllRen _ _ _))); refine Sc.of ?_; first | (repeat' (first | exact trivial | apply Le.aggs | apply Le.tups | apply Le.fns | exact Le.refl _ | refine ⟨?_, ?_⟩)))
          | ((with_reducible refine (?_ : (List.all _ _) = true)); rfl)
          | ((with_reducible refine (?_ : (and _ _) = true)); rfl)
          | ((with_reducible refine (?_ : List.Nodup _)); exact nodupB_spec rfl)
          | ((with_reducible refine (?_ : @Eq Nat _ _)); rfl)
          | ((with_reducible refine (?_ : LeOks _ _ _)); first | exact trivial | exact ⟨.refl _, trivial⟩ | exact ⟨.refl _, .refl _, trivial⟩)
          | ((fail_if_success with_reducible refine (?_ : False)); (fail_if_success with_reducible refine (?_ : Nat)); (fail_if_success with_reducible refine (?_ : Nat → Nat → AV)); (fail_if_success with_reducible refine (?_ : Sc _ _)); (fail_if_success with_reducible refine (?_ : Side _)); (fail_if_success with_reducible refine (?_ : Exists _)); (fail_if_success with_reducible refine (?_ : Ends _ _ _ _ _ _ _)); (fail_if_success with_reducible refine (?_ : Alt _ _)); (fail_if_success with_reducible refine (?_ : Le _ _)); (fail_if_success with_reducible refine (?_ : LeAll _ _ _)); (first | with_reducible refine And.intro ?_ ?_ | with_reducible refine Cut.go ?_ | (with_reducible (refine impI ?_; intro _)) | (with_reducible refine (?_ : footOK _ _ = true); kernel_rfl) | ((with_reducible refine propI ?_); conv => whnf))))
        all_goals try (exact .of (Nat.le_of_ble_eq_true rfl))
        all_goals (rename_i h2)
        all_goals first
          | exact .of ⟨by decide, by decide⟩
          | (have h2 := of_decide_eq_true h2; exact Side.mk (by omega))
          | (have h2 := of_decide_eq_false h2
             exact ⟨0 + 1, ⟨by decide, lt_5 hz (p_none hl (fun j hj => h0 j (by show j < i; have hj : j < t.zones.length := hj; omega)))⟩, by decide, .le ⟨rfl, ⟨.refl _, .refl _, trivial⟩, ⟨.refl _, .refl _, .refl _, trivial⟩⟩⟩)
          | (rename_i h1; have h1 := of_decide_eq_true h1; simp only [decide_eq_true_eq, decide_eq_false_iff_not, beq_iff_eq, bne_iff_ne, beq_eq_false_iff_ne, bne_eq_false_iff_eq, ne_eq, Int.not_lt, Int.not_le, Nat.not_lt, Nat.not_le, Decidable.not_not, Int.toNat_natCast] at h2
             first
               | exact .of ⟨by omega, by omega⟩
               | exact ⟨i + 1, ⟨by omega, all_lt h0 h2⟩, by show t.zones.length - (i + 1) < t.zones.length - i; omega, .le ⟨rfl, ⟨.refl _, .refl _, .refl _, trivial⟩, ⟨.refl _, .refl _, .refl _, .refl _, .refl _, .refl _, trivial⟩⟩⟩
               | (have w := p_hit (p := 0) hl (show i < t.zones.length by omega) h0 h2
                  have w := part_hit h0t (by decide) hz w.1 w.2.1 w.2.2 h2
                  exact .mk [] [] _ rfl (.le (.tups ⟨⟨trivial, .aggs ⟨⟨trivial, .intI w.2.1.symm⟩, .intI w.2.2.symm⟩⟩, .intI w.1.symm⟩)) trivial rfl))
    ·
      repeat' (first
        | ((with_reducible refine (?_ : Alt _ _)); first | fail | (with_reducible refine Alt.one ?_))
        | ((with_reducible refine (?_ : AllLe _ _)); first | (first | exact AllLe.refl _ | (repeat' (first | exact trivial | apply Le.aggs | apply Le.tups | apply Le.fns | exact Le.refl _ | refine ⟨?_, ?_⟩))))
        | ((with_reducible refine (?_ : Sc _ (AllRen _ _ _))); refine Sc.of ?_; first | (repeat' (first | exact trivial | apply Le.aggs | apply Le.tups | apply Le.fns | exact Le.refl _ | refine ⟨?_, ?_⟩)))
        | ((with_reducible refine (?_ : (List.all _ _) = true)); rfl)
        | ((with_reducible refine (?_ : (and _ _) = true)); rfl)
        | ((with_reducible refine (?_ : List.Nodup _)); exact nodupB_spec rfl)
        | ((with_reducible refine (?_ : @Eq Nat _ _)); rfl)
        | ((with_reducible refine (?_ : LeOks _ _ _)); first | exact trivial | exact ⟨.refl _, trivial⟩ | exact ⟨.refl _, .refl _, trivial⟩)
        | ((fail_if_success with_reducible refine (?_ : False)); (fail_if_success with_reducible refine (?_ : Nat)); (fail_if_success with_reducible refine (?_ : Nat → Nat → AV)); (fail_if_success with_reducible refine (?_ : Sc _ _)); (fail_if_success with_reducible refine (?_ : Side _)); (fail_if_success with_reducible refine (?_ : Exists _)); (fail_if_success with_reducible refine (?_ : Ends _ _ _ _ _ _ _)); (fail_if_success with_reducible refine (?_ : Alt _ _)); (fail_if_success with_reducible refine (?_ : Le _ _)); (fail_if_success with_reducible refine (?_ : LeAll _ _ _)); (first | with_reducible refine And.intro ?_ ?_ | with_reducible refine Cut.go ?_ | (with_reducible (refine impI ?_; intro _)) | (with_reducible refine (?_ : footOK _ _ = true); kernel_rfl) | ((with_reducible refine propI ?_); conv => whnf))))
      all_goals try (rename_i h; exact absurd h (by decide))
      all_goals try (exact .of (Nat.le_of_ble_eq_true rfl))
      all_goals try (exact .of (by decide))
      all_goals (rename_i h)
      · have h := of_decide_eq_true h
        have w := p_large (t := t) (p := 1) (by show 20 < t.hol.length; omega)
        have w := part_hit h0t (by decide) hz w.1 w.2.1 w.2.2 (by decide)
        exact .mk [] [] _ rfl (.le (.tups ⟨⟨trivial, .aggs ⟨⟨trivial, .intI w.2.1.symm⟩, .intI w.2.2.symm⟩⟩, .intI w.1.symm⟩)) trivial rfl
      · have h := of_decide_eq_false h
        have hl : ¬ partM 1 < partN t 1 := by show ¬ 20 < t.hol.length; omega
        refine ⟨Nat, fun i => ([(2, .ptr 1 0), (8, .ptr 2 0), (61, .agg 20 (tbl [.int .i64 1, .int .i64 t.zones.length, .int .i64 6, .fn 98 1 (tbl [.ptr 0 0]), .int .i64 2, .int .i64 t.hol.length, .int .i64 20, .fn 99 1 (tbl [.ptr 0 0]), .int .i64 3, .int .i64 t.rules.length, .int .i64 12, .fn 102 1 (tbl [.ptr 0 0]), .int .i64 4, .int .i64 t.extras.length, .int .i64 6, .fn 106 1 (tbl [.ptr 0 0]), .int .i64 5, .int .i64 t.fixed.length, .int .i64 16, .fn 109 1 (tbl [.ptr 0 0])])), (62, .int .i64 1), (72, .int .i64 t.hol.length), (73, .int .i64 i)], [.box (trfC t), .box [.int .i64 0, .int .i64 0], .box [.int .i64 2, .int .i64 t.hol.length, .int .i64 20, .fn 99 1 (tbl [.ptr 0 0])]]), fun i => i ≤ t.hol.length ∧ ∀ j, j < i → holE t j = 0, fun i => t.hol.length - i, ⟨0, ⟨Nat.zero_le _, fun _ h => by omega⟩, .le ⟨rfl, ⟨.refl _, .refl _, .refl _, trivial⟩, ⟨.refl _, .refl _, .refl _, .refl _, .refl _, .refl _, trivial⟩⟩⟩, fun i ⟨hi, h0⟩ => ?_⟩
        repeat' (first
          | ((with_reducible refine (?_ : Alt _ _)); first | (with_reducible (apply altM (ks := [0]) (m := 0); apply And.intro; apply Sc.of; apply (c99 hX t hs i ?_ (fun j hj => h0 j hj)))) | (with_reducible refine Alt.one ?_))
          | ((with_reducible refine (?_ : AllLe _ _)); first | (first | exact AllLe.refl _ | (repeat' (first | exact trivial | apply Le.aggs | apply Le.tups | apply Le.fns | exact Le.refl _ | refine ⟨?_, ?_⟩))))
          | ((with_reducible refine (?_ : Sc _ (AllRen _ _ _))); refine Sc.of ?_; first | (repeat' (first | exact trivial | apply Le.aggs | apply Le.tups | apply Le.fns | exact Le.refl _ | refine ⟨?_, ?_⟩)))
          | ((with_reducible refine (?_ : (List.all _ _) = true)); rfl)
          | ((with_reducible refine (?_ : (and _ _) = true)); rfl)
          | ((with_reducible refine (?_ : List.Nodup _)); exact nodupB_spec rfl)
          | ((with_reducible refine (?_ : @Eq Nat _ _)); rfl)
          | ((with_reducible refine (?_ : LeOks _ _ _)); first | exact trivial | exact ⟨.refl _, trivial⟩ | exact ⟨.refl _, .refl _, trivial⟩)
          | ((fail_if_success with_reducible refine (?_ : False)); (fail_if_success with_reducible refine (?_ : Nat)); (fail_if_success with_reducible refine (?_ : Nat → Nat → AV)); (fail_if_success with_reducible refine (?_ : Sc _ _)); (fail_if_success with_reducible refine (?_ : Side _)); (fail_if_success with_reducible refine (?_ : Exists _)); (fail_if_success with_reducible refine (?_ : Ends _ _ _ _ _ _ _)); (fail_if_success with_reducible refine (?_ : Alt _ _)); (fail_if_success with_reducible refine (?_ : Le _ _)); (fail_if_success with_reducible refine (?_ : LeAll _ _ _)); (first | with_reducible refine And.intro ?_ ?_ | with_reducible refine Cut.go ?_ | (with_reducible (refine impI ?_; intro _)) | (with_reducible refine (?_ : footOK _ _ = true); kernel_rfl) | ((with_reducible refine propI ?_); conv => whnf))))
        all_goals try (exact .of (Nat.le_of_ble_eq_true rfl))
        all_goals (rename_i h2)
        all_goals first
          | exact .of ⟨by decide, by decide⟩
          | (have h2 := of_decide_eq_true h2; exact Side.mk (by omega))
          | (have h2 := of_decide_eq_false h2
             exact ⟨1 + 1, ⟨by decide, lt_5 hz (p_none hl (fun j hj => h0 j (by show j < i; have hj : j < t.hol.length := hj; omega)))⟩, by decide, .le ⟨rfl, ⟨.refl _, .refl _, trivial⟩, ⟨.refl _, .refl _, .refl _, trivial⟩⟩⟩)
          | (rename_i h1; have h1 := of_decide_eq_true h1; simp only [decide_eq_true_eq, decide_eq_false_iff_not, beq_iff_eq, bne_iff_ne, beq_eq_false_iff_ne, bne_eq_false_iff_eq, ne_eq, Int.not_lt, Int.not_le, Nat.not_lt, Nat.not_le, Decidable.not_not, Int.toNat_natCast] at h2
             first
               | exact .of ⟨by omega, by omega⟩
               | exact ⟨i + 1, ⟨by omega, all_lt h0 h2⟩, by show t.hol.length - (i + 1) < t.hol.length - i; omega, .le ⟨rfl, ⟨.refl _, .refl _, .refl _, trivial⟩, ⟨.refl _, .refl _, .refl _, .refl _, .refl _, .refl _, trivial⟩⟩⟩
               | (have w := p_hit (p := 1) hl (show i < t.hol.length by omega) h0 h2
                  have w := part_hit h0t (by decide) hz w.1 w.2.1 w.2.2 h2
                  exact .mk [] [] _ rfl (.le (.tups ⟨⟨trivial, .aggs ⟨⟨trivial, .intI w.2.1.symm⟩, .intI w.2.2.symm⟩⟩, .intI w.1.symm⟩)) trivial rfl))
    ·
      repeat' (first
        | ((with_reducible refine (?_ : Alt _ _)); first | fail | (with_reducible refine Alt.one ?_))
        | ((with_reducible refine (?_ : AllLe _ _)); first | (first | exact AllLe.refl _ | (repeat' (first | exact trivial | apply Le.aggs | apply Le.tups | apply Le.fns | exact Le.refl _ | refine ⟨?_, ?_⟩))))
        | ((with_reducible refine (?_ : Sc _ (AllRen _ _ _))); refine Sc.of ?_; first | (repeat' (first | exact trivial | apply Le.aggs | apply Le.tups | apply Le.fns | exact Le.refl _ | refine ⟨?_, ?_⟩)))
        | ((with_reducible refine (?_ : (List.all _ _) = true)); rfl)
        | ((with_reducible refine (?_ : (and _ _) = true)); rfl)
        | ((with_reducible refine (?_ : List.Nodup _)); exact nodupB_spec rfl)
        | ((with_reducible refine (?_ : @Eq Nat _ _)); rfl)
        | ((with_reducible refine (?_ : LeOks _ _ _)); first | exact trivial | exact ⟨.refl _, trivial⟩ | exact ⟨.refl _, .refl _, trivial⟩)
        | ((fail_if_success with_reducible refine (?_ : False)); (fail_if_success with_reducible refine (?_ : Nat)); (fail_if_success with_reducible refine (?_ : Nat → Nat → AV)); (fail_if_success with_reducible refine (?_ : Sc _ _)); (fail_if_success with_reducible refine (?_ : Side _)); (fail_if_success with_reducible refine (?_ : Exists _)); (fail_if_success with_reducible refine (?_ : Ends _ _ _ _ _ _ _)); (fail_if_success with_reducible refine (?_ : Alt _ _)); (fail_if_success with_reducible refine (?_ : Le _ _)); (fail_if_success with_reducible refine (?_ : LeAll _ _ _)); (first | with_reducible refine And.intro ?_ ?_ | with_reducible refine Cut.go ?_ | (with_reducible (refine impI ?_; intro _)) | (with_reducible refine (?_ : footOK _ _ = true); kernel_rfl) | ((with_reducible refine propI ?_); conv => whnf))))
      all_goals try (rename_i h; exact absurd h (by decide))
      all_goals try (exact .of (Nat.le_of_ble_eq_true rfl))
      all_goals try (exact .of (by decide))
      all_goals (rename_i h)
      · have h := of_decide_eq_true h
        have w := p_large (t := t) (p := 2) (by show 12 < t.rules.length; omega)
        have w := part_hit h0t (by decide) hz w.1 w.2.1 w.2.2 (by decide)
        exact .mk [] [] _ rfl (.le (.tups ⟨⟨trivial, .aggs ⟨⟨trivial, .intI w.2.1.symm⟩, .intI w.2.2.symm⟩⟩, .intI w.1.symm⟩)) trivial rfl
      · have h := of_decide_eq_false h
        have hl : ¬ partM 2 < partN t 2 := by show ¬ 12 < t.rules.length; omega
        refine ⟨Nat, fun i => ([(2, .ptr 1 0), (8, .ptr 2 0), (61, .agg 20 (tbl [.int .i64 1, .int .i64 t.zones.length, .int .i64 6, .fn 98 1 (tbl [.ptr 0 0]), .int .i64 2, .int .i64 t.hol.length, .int .i64 20, .fn 99 1 (tbl [.ptr 0 0]), .int .i64 3, .int .i64 t.rules.length, .int .i64 12, .fn 102 1 (tbl [.ptr 0 0]), .int .i64 4, .int .i64 t.extras.length, .int .i64 6, .fn 106 1 (tbl [.ptr 0 0]), .int .i64 5, .int .i64 t.fixed.length, .int .i64 16, .fn 109 1 (tbl [.ptr 0 0])])), (62, .int .i64 2), (72, .int .i64 t.rules.length), (73, .int .i64 i)], [.box (trfC t), .box [.int .i64 0, .int .i64 0], .box [.int .i64 3, .int .i64 t.rules.length, .int .i64 12, .fn 102 1 (tbl [.ptr 0 0])]]), fun i => i ≤ t.rules.length ∧ ∀ j, j < i → ruliE t j = 0, fun i => t.rules.length - i, ⟨0, ⟨Nat.zero_le _, fun _ h => by omega⟩, .le ⟨rfl, ⟨.refl _, .refl _, .refl _, trivial⟩, ⟨.refl _, .refl _, .refl _, .refl _, .refl _, .refl _, trivial⟩⟩⟩, fun i ⟨hi, h0⟩ => ?_⟩
        repeat' (first
          | ((with_reducible refine (?_ : Alt _ _)); first | (with_reducible (apply altM (ks := [0]) (m := 0); apply And.intro; apply Sc.of; apply (c102 hX t hs i ?_))) | (with_reducible refine Alt.one ?_))
          | ((with_reducible refine (?_ : AllLe _ _)); first | (first | exact AllLe.refl _ | (repeat' (first | exact trivial | apply Le.aggs | apply Le.tups | apply Le.fns | exact Le.refl _ | refine ⟨?_, ?_⟩))))
          | ((with_reducible refine (?_ : Sc _ (AllRen _ _ _))); refine Sc.of ?_; first | (repeat' (first | exact trivial | apply Le.aggs | apply Le.tups | apply Le.fns | exact Le.refl _ | refine ⟨?_, ?_⟩)))
          | ((with_reducible refine (?_ : (List.all _ _) = true)); rfl)
          | ((with_reducible refine (?_ : (and _ _) = true)); rfl)
          | ((with_reducible refine (?_ : List.Nodup _)); exact nodupB_spec rfl)
          | ((with_reducible refine (?_ : @Eq Nat _ _)); rfl)
          | ((with_reducible refine (?_ : LeOks _ _ _)); first | exact trivial | exact ⟨.refl _, trivial⟩ | exact ⟨.refl _, .refl _, trivial⟩)
          | ((fail_if_success with_reducible refine (?_ : False)); (fail_if_success with_reducible refine (?_ : Nat)); (fail_if_success with_reducible refine (?_ : Nat → Nat → AV)); (fail_if_success with_reducible refine (?_ : Sc _ _)); (fail_if_success with_reducible refine (?_ : Side _)); (fail_if_success with_reducible refine (?_ : Exists _)); (fail_if_success with_reducible refine (?_ : Ends _ _ _ _ _ _ _)); (fail_if_success with_reducible refine (?_ : Alt _ _)); (fail_if_success with_reducible refine (?_ : Le _ _)); (fail_if_success with_reducible refine (?_ : LeAll _ _ _)); (first | with_reducible refine And.intro ?_ ?_ | with_reducible refine Cut.go ?_ | (with_reducible (refine impI ?_; intro _)) | (with_reducible refine (?_ : footOK _ _ = true); kernel_rfl) | ((with_reducible refine propI ?_); conv => whnf))))
        all_goals try (exact .of (Nat.le_of_ble_eq_true rfl))
        all_goals (rename_i h2)
        all_goals first
          | exact .of ⟨by decide, by decide⟩
          | (have h2 := of_decide_eq_true h2; exact Side.mk (by omega))
          | (have h2 := of_decide_eq_false h2
             exact ⟨2 + 1, ⟨by decide, lt_5 hz (p_none hl (fun j hj => h0 j (by show j < i; have hj : j < t.rules.length := hj; omega)))⟩, by decide, .le ⟨rfl, ⟨.refl _, .refl _, trivial⟩, ⟨.refl _, .refl _, .refl _, trivial⟩⟩⟩)
          | (rename_i h1; have h1 := of_decide_eq_true h1; simp only [decide_eq_true_eq, decide_eq_false_iff_not, beq_iff_eq, bne_iff_ne, beq_eq_false_iff_ne, bne_eq_false_iff_eq, ne_eq, Int.not_lt, Int.not_le, Nat.not_lt, Nat.not_le, Decidable.not_not, Int.toNat_natCast] at h2
             first
               | exact .of ⟨by omega, by omega⟩
               | exact ⟨i + 1, ⟨by omega, all_lt h0 h2⟩, by show t.rules.length - (i + 1) < t.rules.length - i; omega, .le ⟨rfl, ⟨.refl _, .refl _, .refl _, trivial⟩, ⟨.refl _, .refl _, .refl _, .refl _, .refl _, .refl _, trivial⟩⟩⟩
               | (have w := p_hit (p := 2) hl (show i < t.rules.length by omega) h0 h2
                  have w := part_hit h0t (by decide) hz w.1 w.2.1 w.2.2 h2
                  exact .mk [] [] _ rfl (.le (.tups ⟨⟨trivial, .aggs ⟨⟨trivial, .intI w.2.1.symm⟩, .intI w.2.2.symm⟩⟩, .intI w.1.symm⟩)) trivial rfl))
    ·
      repeat' (first
        | ((with_reducible refine (?_ : Alt _ _)); first | fail | (with_reducible refine Alt.one ?_))
        | ((with_reducible refine (?_ : AllLe _ _)); first | (first | exact AllLe.refl _ | (repeat' (first | exact trivial | apply Le.aggs | apply Le.tups | apply Le.fns | exact Le.refl _ | refine ⟨?_, ?_⟩))))
        | ((with_reducible refine (?_ : Sc _ (AllRen _ _ _))); refine Sc.of ?_; first | (repeat' (first | exact trivial | apply Le.aggs | apply Le.tups | apply Le.fns | exact Le.refl _ | refine ⟨?_, ?_⟩)))
        | ((with_reducible refine (?_ : (List.all _ _) = true)); rfl)
        | ((with_reducible refine (?_ : (and _ _) = true)); rfl)
        | ((with_reducible refine (?_ : List.Nodup _)); exact nodupB_spec rfl)
        | ((with_reducible refine (?_ : @Eq Nat _ _)); rfl)
        | ((with_reducible refine (?_ : LeOks _ _ _)); first | exact trivial | exact ⟨.refl _, trivial⟩ | exact ⟨.refl _, .refl _, trivial⟩)
        | ((fail_if_success with_reducible refine (?_ : False)); (fail_if_success with_reducible refine (?_ : Nat)); (fail_if_success with_reducible refine (?_ : Nat → Nat → AV)); (fail_if_success with_reducible refine (?_ : Sc _ _)); (fail_if_success with_reducible refine (?_ : Side _)); (fail_if_success with_reducible refine (?_ : Exists _)); (fail_if_success with_reducible refine (?_ : Ends _ _ _ _ _ _ _)); (fail_if_success with_reducible refine (?_ : Alt _ _)); (fail_if_success with_reducible refine (?_ : Le _ _)); (fail_if_success with_reducible refine (?_ : LeAll _ _ _)); (first | with_reducible refine And.intro ?_ ?_ | with_reducible refine Cut.go ?_ | (with_reducible (refine impI ?_; intro _)) | (with_reducible refine (?_ : footOK _ _ = true); kernel_rfl) | ((with_reducible refine propI ?_); conv => whnf))))
      all_goals try (rename_i h; exact absurd h (by decide))
      all_goals try (exact .of (Nat.le_of_ble_eq_true rfl))
      all_goals try (exact .of (by decide))
      all_goals (rename_i h)
      · have h := of_decide_eq_true h
        have w := p_large (t := t) (p := 3) (by show 6 < t.extras.length; omega)
        have w := part_hit h0t (by decide) hz w.1 w.2.1 w.2.2 (by decide)
        exact .mk [] [] _ rfl (.le (.tups ⟨⟨trivial, .aggs ⟨⟨trivial, .intI w.2.1.symm⟩, .intI w.2.2.symm⟩⟩, .intI w.1.symm⟩)) trivial rfl
      · have h := of_decide_eq_false h
        have hl : ¬ partM 3 < partN t 3 := by show ¬ 6 < t.extras.length; omega
        refine ⟨Nat, fun i => ([(2, .ptr 1 0), (8, .ptr 2 0), (61, .agg 20 (tbl [.int .i64 1, .int .i64 t.zones.length, .int .i64 6, .fn 98 1 (tbl [.ptr 0 0]), .int .i64 2, .int .i64 t.hol.length, .int .i64 20, .fn 99 1 (tbl [.ptr 0 0]), .int .i64 3, .int .i64 t.rules.length, .int .i64 12, .fn 102 1 (tbl [.ptr 0 0]), .int .i64 4, .int .i64 t.extras.length, .int .i64 6, .fn 106 1 (tbl [.ptr 0 0]), .int .i64 5, .int .i64 t.fixed.length, .int .i64 16, .fn 109 1 (tbl [.ptr 0 0])])), (62, .int .i64 3), (72, .int .i64 t.extras.length), (73, .int .i64 i)], [.box (trfC t), .box [.int .i64 0, .int .i64 0], .box [.int .i64 4, .int .i64 t.extras.length, .int .i64 6, .fn 106 1 (tbl [.ptr 0 0])]]), fun i => i ≤ t.extras.length ∧ ∀ j, j < i → extE t j = 0, fun i => t.extras.length - i, ⟨0, ⟨Nat.zero_le _, fun _ h => by omega⟩, .le ⟨rfl, ⟨.refl _, .refl _, .refl _, trivial⟩, ⟨.refl _, .refl _, .refl _, .refl _, .refl _, .refl _, trivial⟩⟩⟩, fun i ⟨hi, h0⟩ => ?_⟩
        repeat' (first
          | ((with_reducible refine (?_ : Alt _ _)); first | (with_reducible (apply altM (ks := [0]) (m := 0); apply And.intro; apply Sc.of; apply (c106 hX t hs i ?_))) | (with_reducible refine Alt.one ?_))
          | ((with_reducible refine (?_ : AllLe _ _)); first | (first | exact AllLe.refl _ | (repeat' (first | exact trivial | apply Le.aggs | apply Le.tups | apply Le.fns | exact Le.refl _ | refine ⟨?_, ?_⟩))))
          | ((with_reducible refine (?_ : Sc _ (AllRen _ _ _))); refine Sc.of ?_; first | (repeat' (first | exact trivial | apply Le.aggs | apply Le.tups | apply Le.fns | exact Le.refl _ | refine ⟨?_, ?_⟩)))
          | ((with_reducible refine (?_ : (List.all _ _) = true)); rfl)
          | ((with_reducible refine (?_ : (and _ _) = true)); rfl)
          | ((with_reducible refine (?_ : List.Nodup _)); exact nodupB_spec rfl)
          | ((with_reducible refine (?_ : @Eq Nat _ _)); rfl)
          | ((with_reducible refine (?_ : LeOks _ _ _)); first | exact trivial | exact ⟨.refl _, trivial⟩ | exact ⟨.refl _, .refl _, trivial⟩)
          | ((fail_if_success with_reducible refine (?_ : False)); (fail_if_success with_reducible refine (?_ : Nat)); (fail_if_success with_reducible refine (?_ : Nat → Nat → AV)); (fail_if_success with_reducible refine (?_ : Sc _ _)); (fail_if_success with_reducible refine (?_ : Side _)); (fail_if_success with_reducible refine (?_ : Exists _)); (fail_if_success with_reducible refine (?_ : Ends _ _ _ _ _ _ _)); (fail_if_success with_reducible refine (?_ : Alt _ _)); (fail_if_success with_reducible refine (?_ : Le _ _)); (fail_if_success with_reducible refine (?_ : LeAll _ _ _)); (first | with_reducible refine And.intro ?_ ?_ | with_reducible refine Cut.go ?_ | (with_reducible (refine impI ?_; intro _)) | (with_reducible refine (?_ : footOK _ _ = true); kernel_rfl) | ((with_reducible refine propI ?_); conv => whnf))))
        all_goals try (exact .of (Nat.le_of_ble_eq_true rfl))
        all_goals (rename_i h2)
        all_goals first
          | exact .of ⟨by decide, by decide⟩
          | (have h2 := of_decide_eq_true h2; exact Side.mk (by omega))
          | (have h2 := of_decide_eq_false h2
             exact ⟨3 + 1, ⟨by decide, lt_5 hz (p_none hl (fun j hj => h0 j (by show j < i; have hj : j < t.extras.length := hj; omega)))⟩, by decide, .le ⟨rfl, ⟨.refl _, .refl _, trivial⟩, ⟨.refl _, .refl _, .refl _, trivial⟩⟩⟩)
          | (rename_i h1; have h1 := of_decide_eq_true h1; simp only [decide_eq_true_eq, decide_eq_false_iff_not, beq_iff_eq, bne_iff_ne, beq_eq_false_iff_ne, bne_eq_false_iff_eq, ne_eq, Int.not_lt, Int.not_le, Nat.not_lt, Nat.not_le, Decidable.not_not, Int.toNat_natCast] at h2
             first
               | exact .of ⟨by omega, by omega⟩
               | exact ⟨i + 1, ⟨by omega, all_lt h0 h2⟩, by show t.extras.length - (i + 1) < t.extras.length - i; omega, .le ⟨rfl, ⟨.refl _, .refl _, .refl _, trivial⟩, ⟨.refl _, .refl _, .refl _, .refl _, .refl _, .refl _, trivial⟩⟩⟩
               | (have w := p_hit (p := 3) hl (show i < t.extras.length by omega) h0 h2
                  have w := part_hit h0t (by decide) hz w.1 w.2.1 w.2.2 h2
                  exact .mk [] [] _ rfl (.le (.tups ⟨⟨trivial, .aggs ⟨⟨trivial, .intI w.2.1.symm⟩, .intI w.2.2.symm⟩⟩, .intI w.1.symm⟩)) trivial rfl))
    ·
      repeat' (first
        | ((with_reducible refine (?_ : Alt _ _)); first | fail | (with_reducible refine Alt.one ?_))
        | ((with_reducible refine (?_ : AllLe _ _)); first | (first | exact AllLe.refl _ | (repeat' (first | exact trivial | apply Le.aggs | apply Le.tups | apply Le.fns | exact Le.refl _ | refine ⟨?_, ?_⟩))))
        | ((with_reducible refine (?_ : Sc _ (AllRen _ _ _))); refine Sc.of ?_; first | (repeat' (first | exact trivial | apply Le.aggs | apply Le.tups | apply Le.fns | exact Le.refl _ | refine ⟨?_, ?_⟩)))
        | ((with_reducible refine (?_ : (List.all _ _) = true)); rfl)
        | ((with_reducible refine (?_ : (and _ _) = true)); rfl)
        | ((with_reducible refine (?_ : List.Nodup _)); exact nodupB_spec rfl)
        | ((with_reducible refine (?_ : @Eq Nat _ _)); rfl)
        | ((with_reducible refine (?_ : LeOks _ _ _)); first | exact trivial | exact ⟨.refl _, trivial⟩ | exact ⟨.refl _, .refl _, trivial⟩)
        | ((fail_if_success with_reducible refine (?_ : False)); (fail_if_success with_reducible refine (?_ : Nat)); (fail_if_success with_reducible refine (?_ : Nat → Nat → AV)); (fail_if_success with_reducible refine (?_ : Sc _ _)); (fail_if_success with_reducible refine (?_ : Side _)); (fail_if_success with_reducible refine (?_ : Exists _)); (fail_if_success with_reducible refine (?_ : Ends _ _ _ _ _ _ _)); (fail_if_success with_reducible refine (?_ : Alt _ _)); (fail_if_success with_reducible refine (?_ : Le _ _)); (fail_if_success with_reducible refine (?_ : LeAll _ _ _)); (first | with_reducible refine And.intro ?_ ?_ | with_reducible refine Cut.go ?_ | (with_reducible (refine impI ?_; intro _)) | (with_reducible refine (?_ : footOK _ _ = true); kernel_rfl) | ((with_reducible refine propI ?_); conv => whnf))))
      all_goals try (rename_i h; exact absurd h (by decide))
      all_goals try (exact .of (Nat.le_of_ble_eq_true rfl))
      all_goals try (exact .of (by decide))
      all_goals (rename_i h)
      · have h := of_decide_eq_true h
        have w := p_large (t := t) (p := 4) (by show 16 < t.fixed.length; omega)
        have w := part_hit h0t (by decide) hz w.1 w.2.1 w.2.2 (by decide)
        exact .mk [] [] _ rfl (.le (.tups ⟨⟨trivial, .aggs ⟨⟨trivial, .intI w.2.1.symm⟩, .intI w.2.2.symm⟩⟩, .intI w.1.symm⟩)) trivial rfl
      · have h := of_decide_eq_false h
        have hl : ¬ partM 4 < partN t 4 := by show ¬ 16 < t.fixed.length; omega
        refine ⟨Nat, fun i => ([(2, .ptr 1 0), (8, .ptr 2 0), (61, .agg 20 (tbl [.int .i64 1, .int .i64 t.zones.length, .int .i64 6, .fn 98 1 (tbl [.ptr 0 0]), .int .i64 2, .int .i64 t.hol.length, .int .i64 20, .fn 99 1 (tbl [.ptr 0 0]), .int .i64 3, .int .i64 t.rules.length, .int .i64 12, .fn 102 1 (tbl [.ptr 0 0]), .int .i64 4, .int .i64 t.extras.length, .int .i64 6, .fn 106 1 (tbl [.ptr 0 0]), .int .i64 5, .int .i64 t.fixed.length, .int .i64 16, .fn 109 1 (tbl [.ptr 0 0])])), (62, .int .i64 4), (72, .int .i64 t.fixed.length), (73, .int .i64 i)], [.box (trfC t), .box [.int .i64 0, .int .i64 0], .box [.int .i64 5, .int .i64 t.fixed.length, .int .i64 16, .fn 109 1 (tbl [.ptr 0 0])]]), fun i => i ≤ t.fixed.length ∧ ∀ j, j < i → fxdE t j = 0, fun i => t.fixed.length - i, ⟨0, ⟨Nat.zero_le _, fun _ h => by omega⟩, .le ⟨rfl, ⟨.refl _, .refl _, .refl _, trivial⟩, ⟨.refl _, .refl _, .refl _, .refl _, .refl _, .refl _, trivial⟩⟩⟩, fun i ⟨hi, h0⟩ => ?_⟩
        repeat' (first
          | ((with_reducible refine (?_ : Alt _ _)); first | (with_reducible (apply altM (ks := [0]) (m := 0); apply And.intro; apply Sc.of; apply (c109 hX t hs i ?_))) | (with_reducible refine Alt.one ?_))
          | ((with_reducible refine (?_ : AllLe _ _)); first | (first | exact AllLe.refl _ | (repeat' (first | exact trivial | apply Le.aggs | apply Le.tups | apply Le.fns | exact Le.refl _ | refine ⟨?_, ?_⟩))))
          | ((with_reducible refine (?_ : Sc _ (AllRen _ _ _))); refine Sc.of ?_; first | (repeat' (first | exact trivial | apply Le.aggs | apply Le.tups | apply Le.fns | exact Le.refl _ | refine ⟨?_, ?_⟩)))
          | ((with_reducible refine (?_ : (List.all _ _) = true)); rfl)
          | ((with_reducible refine (?_ : (and _ _) = true)); rfl)
          | ((with_reducible refine (?_ : List.Nodup _)); exact nodupB_spec rfl)
          | ((with_reducible refine (?_ : @Eq Nat _ _)); rfl)
          | ((with_reducible refine (?_ : LeOks _ _ _)); first | exact trivial | exact ⟨.refl _, trivial⟩ | exact ⟨.refl _, .refl _, trivial⟩)
          | ((fail_if_success with_reducible refine (?_ : False)); (fail_if_success with_reducible refine (?_ : Nat)); (fail_if_success with_reducible refine (?_ : Nat → Nat → AV)); (fail_if_success with_reducible refine (?_ : Sc _ _)); (fail_if_success with_reducible refine (?_ : Side _)); (fail_if_success with_reducible refine (?_ : Exists _)); (fail_if_success with_reducible refine (?_ : Ends _ _ _ _ _ _ _)); (fail_if_success with_reducible refine (?_ : Alt _ _)); (fail_if_success with_reducible refine (?_ : Le _ _)); (fail_if_success with_reducible refine (?_ : LeAll _ _ _)); (first | with_reducible refine And.intro ?_ ?_ | with_reducible refine Cut.go ?_ | (with_reducible (refine impI ?_; intro _)) | (with_reducible refine (?_ : footOK _ _ = true); kernel_rfl) | ((with_reducible refine propI ?_); conv => whnf))))
        all_goals try (exact .of (Nat.le_of_ble_eq_true rfl))
        all_goals (rename_i h2)
        all_goals first
          | exact .of ⟨by decide, by decide⟩
          | (have h2 := of_decide_eq_true h2; exact Side.mk (by omega))
          | (have h2 := of_decide_eq_false h2
             exact ⟨4 + 1, ⟨by decide, lt_5 hz (p_none hl (fun j hj => h0 j (by show j < i; have hj : j < t.fixed.length := hj; omega)))⟩, by decide, .le ⟨rfl, ⟨.refl _, .refl _, trivial⟩, ⟨.refl _, .refl _, .refl _, trivial⟩⟩⟩)
          | (rename_i h1; have h1 := of_decide_eq_true h1; simp only [decide_eq_true_eq, decide_eq_false_iff_not, beq_iff_eq, bne_iff_ne, beq_eq_false_iff_ne, bne_eq_false_iff_eq, ne_eq, Int.not_lt, Int.not_le, Nat.not_lt, Nat.not_le, Decidable.not_not, Int.toNat_natCast] at h2
             first
               | exact .of ⟨by omega, by omega⟩
               | exact ⟨i + 1, ⟨by omega, all_lt h0 h2⟩, by show t.fixed.length - (i + 1) < t.fixed.length - i; omega, .le ⟨rfl, ⟨.refl _, .refl _, .refl _, trivial⟩, ⟨.refl _, .refl _, .refl _, .refl _, .refl _, .refl _, trivial⟩⟩⟩
               | (have w := p_hit (p := 4) hl (show i < t.fixed.length by omega) h0 h2
                  have w := part_hit h0t (by decide) hz w.1 w.2.1 w.2.2 h2
                  exact .mk [] [] _ rfl (.le (.tups ⟨⟨trivial, .aggs ⟨⟨trivial, .intI w.2.1.symm⟩, .intI w.2.2.symm⟩⟩, .intI w.1.symm⟩)) trivial rfl))
    ·
      repeat' (first
        | ((with_reducible refine (?_ : Alt _ _)); first | fail | (with_reducible refine Alt.one ?_))
        | ((with_reducible refine (?_ : AllLe _ _)); first | (first | exact AllLe.refl _ | (repeat' (first | exact trivial | apply Le.aggs | apply Le.tups | apply Le.fns | exact Le.refl _ | refine ⟨?_, ?_⟩))))
        | ((with_reducible refine (?_ : Sc _ (AllRen _ _ _))); refine Sc.of ?_; first | (repeat' (first | exact trivial | apply Le.aggs | apply Le.tups | apply Le.fns | exact Le.refl _ | refine ⟨?_, ?_⟩)))
        | ((with_reducible refine (?_ : (List.all _ _) = true)); rfl)
        | ((with_reducible refine (?_ : (and _ _) = true)); rfl)
        | ((with_reducible refine (?_ : List.Nodup _)); exact nodupB_spec rfl)
        | ((with_reducible refine (?_ : @Eq Nat _ _)); rfl)
        | ((with_reducible refine (?_ : LeOks _ _ _)); first | exact trivial | exact ⟨.refl _, trivial⟩ | exact ⟨.refl _, .refl _, trivial⟩)
        | ((fail_if_success with_reducible refine (?_ : False)); (fail_if_success with_reducible refine (?_ : Nat)); (fail_if_success with_reducible refine (?_ : Nat → Nat → AV)); (fail_if_success with_reducible refine (?_ : Sc _ _)); (fail_if_success with_reducible refine (?_ : Side _)); (fail_if_success with_reducible refine (?_ : Exists _)); (fail_if_success with_reducible refine (?_ : Ends _ _ _ _ _ _ _)); (fail_if_success with_reducible refine (?_ : Alt _ _)); (fail_if_success with_reducible refine (?_ : Le _ _)); (fail_if_success with_reducible refine (?_ : LeAll _ _ _)); (first | with_reducible refine And.intro ?_ ?_ | with_reducible refine Cut.go ?_ | (with_reducible (refine impI ?_; intro _)) | (with_reducible refine (?_ : footOK _ _ = true); kernel_rfl) | ((with_reducible refine propI ?_); conv => whnf))))
      all_goals try (exact .of (Nat.le_of_ble_eq_true rfl))
      all_goals try (rename_i h; exact absurd h (by decide))
      have w := part_none h0t hz
      exact .mk [] [] _ rfl (.le (.tups ⟨⟨trivial, .aggs ⟨⟨trivial, .intI w.2.1.symm⟩, .intI w.2.2.symm⟩⟩, .intI w.1.symm⟩)) trivial rfl

end
end Go.Fx

/-
  What is wrong with a tariff, by the reference.
-/
namespace Go.Fx
open Go.Proofs Go.RowKit

theorem zone_4 {t : Trf} {i : Nat} (h : nameB (t.zones.getD i bs0) = false) : zoneE t i = 4 := by unfold zoneE; rw [h]; rfl
theorem zone_x {t : Trf} {i : Nat} {b : Bool} (h : nameB (t.zones.getD i bs0) = true) (h2 : hasB (t.zones.take i) (t.zones.take i).length (t.zones.getD i bs0) = b) (hi : i < t.zones.length) : zoneE t i = bif b then 5 else 0 := by
  rw [hasB_take (by omega)] at h2
  unfold zoneE; rw [h, h2]; rfl
theorem take_all {α : Type} {l : List α} {d : α} {i j : Nat} (h : j < i) : (l.take i).getD j d = l.getD j d := take_of h
theorem hol_take {t : Trf} {i : Nat} (hi : i < t.hol.length) (h0 : ∀ j, j < i → holE t j = 0) : riseE 0 100000 2 (t.hol.take (i + 1)) = holE t i := by
  have e : ∀ j, j < i + 1 → riseAt 0 100000 2 (t.hol.take (i + 1)) j = holE t j := fun j hj => by
    unfold holE riseAt
    rw [take_of hj, take_of (show j - 1 < i + 1 by omega)]
  have hl : (t.hol.take (i + 1)).length = i + 1 := by rw [List.length_take]; omega
  by_cases hz : holE t i = 0
  · rw [hz]
    refine rise_none fun j hj => ?_
    rw [e j (by omega)]
    rcases Nat.lt_succ_iff_lt_or_eq.1 (show j < i + 1 by omega) with h | h
    · exact h0 j h
    · rw [h]; exact hz
  · rw [rise_hit (i := i) (by omega) (fun j hj => by rw [e j (by omega)]; exact h0 j hj) (by rw [e i (by omega)]; exact hz), e i (by omega)]
theorem ruli_4 {t : Trf} {i : Nat} (h : nameB (t.rules.getD i rul0).name = false) : ruliE t i = 4 := by unfold ruliE; rw [h]; rfl
theorem ruli_5 {t : Trf} {i k : Nat} (h : nameB (t.rules.getD i rul0).name = true) (hk : k < i) (h2 : decide ((t.rules.getD k rul0).name = (t.rules.getD i rul0).name) = true) : ruliE t i = 5 := by
  unfold ruliE; rw [h, any_hit (p := fun k => decide ((t.rules.getD k rul0).name = (t.rules.getD i rul0).name)) hk h2]; rfl
theorem ruli_e {t : Trf} {i : Nat} (h : nameB (t.rules.getD i rul0).name = true) (h2 : ∀ k, k < i → decide ((t.rules.getD k rul0).name = (t.rules.getD i rul0).name) = false) : ruliE t i = ruleE t.zones.length (t.rules.getD i rul0) := by
  unfold ruliE; rw [h, any_none (p := fun k => decide ((t.rules.getD k rul0).name = (t.rules.getD i rul0).name)) h2]; rfl
theorem ext_4 {t : Trf} {i : Nat} (h : nameB (t.extras.getD i ext0).name = false) : extE t i = 4 := by unfold extE; rw [h]; rfl
theorem ext_5 {t : Trf} {i k : Nat} (h : nameB (t.extras.getD i ext0).name = true) (hk : k < i) (h2 : decide ((t.extras.getD k ext0).name = (t.extras.getD i ext0).name) = true) : extE t i = 5 := by
  unfold extE; rw [h, any_hit (p := fun k => decide ((t.extras.getD k ext0).name = (t.extras.getD i ext0).name)) hk h2]; rfl
theorem ext_e {t : Trf} {i : Nat} (h : nameB (t.extras.getD i ext0).name = true) (h2 : ∀ k, k < i → decide ((t.extras.getD k ext0).name = (t.extras.getD i ext0).name) = false) : extE t i = isOk (inB (t.extras.getD i ext0).am 0 100000) 2 := by
  unfold extE; rw [h, any_none (p := fun k => decide ((t.extras.getD k ext0).name = (t.extras.getD i ext0).name)) h2]; rfl
abbrev sameF (t : Trf) (i k : Nat) : Bool := bif (t.fixed.getD k fxd0).fr == (t.fixed.getD i fxd0).fr then (t.fixed.getD k fxd0).tt == (t.fixed.getD i fxd0).tt else false
theorem fxd_6 {t : Trf} {i : Nat} (h : (bif !zoneIn t (t.fixed.getD i fxd0).fr then true else !zoneIn t (t.fixed.getD i fxd0).tt) = true) : fxdE t i = 6 := by
  unfold fxdE; rw [both_eq, h]; rfl
theorem fxd_2 {t : Trf} {i : Nat} (h : (bif !zoneIn t (t.fixed.getD i fxd0).fr then true else !zoneIn t (t.fixed.getD i fxd0).tt) = false) (h2 : isOk (inB (t.fixed.getD i fxd0).am 0 100000) 2 ≠ 0) : fxdE t i = isOk (inB (t.fixed.getD i fxd0).am 0 100000) 2 := by
  unfold fxdE; rw [both_eq, h]
  cases hb : inB (t.fixed.getD i fxd0).am 0 100000 with
  | true => rw [hb] at h2; exact absurd rfl h2
  | false => rfl
theorem am_ok {n : Int} (h : isOk (inB n 0 100000) 2 = 0) : inB n 0 100000 = true := by
  cases hb : inB n 0 100000 with
  | true => rfl
  | false => rw [hb] at h; cases h
theorem fxd_5 {t : Trf} {i k : Nat} (h : (bif !zoneIn t (t.fixed.getD i fxd0).fr then true else !zoneIn t (t.fixed.getD i fxd0).tt) = false) (h2 : isOk (inB (t.fixed.getD i fxd0).am 0 100000) 2 = 0) (hk : k < i) (h3 : sameF t i k = true) : fxdE t i = 5 := by
  unfold fxdE; rw [both_eq, h, am_ok h2, any_hit (p := sameF t i) hk h3]; rfl
theorem fxd_0 {t : Trf} {i : Nat} (h : (bif !zoneIn t (t.fixed.getD i fxd0).fr then true else !zoneIn t (t.fixed.getD i fxd0).tt) = false) (h2 : isOk (inB (t.fixed.getD i fxd0).am 0 100000) 2 = 0) (h3 : ∀ k, k < i → sameF t i k = false) : fxdE t i = 0 := by
  unfold fxdE; rw [both_eq, h, am_ok h2, any_none (p := sameF t i) h3]; rfl
theorem hit_out {t : Trf} (h0t : topE t = 0) {p : Nat} (hz : ∀ q, q < p → pE t q = 0) (hp : p < 5) (hl : ¬ partM p < partN t p) {i : Nat} (hi : i < partN t p) (h0 : ∀ j, j < i → partE t p j = 0) {e : Int} (he : partE t p i = e) (hne : e ≠ 0) : trfE t = e ∧ trfL t = (p : Int) + 1 ∧ trfN t = i := by
  have w := p_hit (p := p) hl hi h0 (by rw [he]; exact hne)
  exact part_hit h0t hp hz (w.1.trans he) w.2.1 w.2.2 hne
theorem top_4 {t : Trf} (h : nameB t.name = false) : topE t = 4 := by unfold topE; rw [h]; rfl
theorem top_2 {t : Trf} (h : nameB t.name = true) (h2 : (bif !inB t.unit 1 999999999 then true else isOk (inB t.step 0 100000) 2 != 0) = true) : topE t = 2 := by
  unfold topE; rw [h]
  cases h3 : inB t.unit 1 999999999 <;> cases h4 : inB t.step 0 100000 <;> simp_all [isOk]
theorem top_x {t : Trf} {b : Bool} (h : nameB t.name = true) (h2 : (bif !inB t.unit 1 999999999 then true else isOk (inB t.step 0 100000) 2 != 0) = false) (h3 : ((t.zones.length : Int) == 0) = b) : topE t = bif b then 10 else 0 := by
  unfold topE; rw [h, pos_eq, h3]
  cases h3 : inB t.unit 1 999999999 <;> cases h4 : inB t.step 0 100000 <;> cases b <;> simp_all [isOk]
section
variable {W0 : World} {G : Nat → Option AV} (hX : (Xc W0 G).Good)
include hX
theorem c137 (t : Trf) (n : Int) (hs : Side (t.zones.length ≤ 1000)) : Pure (Xc W0 G) 137 [trfA t, .int .i64 n] (.bool (zoneIn t n)) := by
  have hs := hs.get
  refine mut_of' hX (show FnIs (Xc W0 G) 137 Tryz.f137 (codeOf Tryz.f137) from ⟨by kernel_rfl, by kernel_rfl, by kernel_rfl, by kernel_rfl⟩) rfl ?_
  repeat' (first
    | ((with_reducible refine (?_ : Alt _ _)); first | (with_reducible apply callAlt (c13 hX _ _ _)) | (with_reducible refine Alt.one ?_))
    | ((with_reducible refine (?_ : AllLe _ _)); first | (first | exact AllLe.refl _ | (repeat' (first | exact trivial | apply Le.aggs | apply Le.tups | apply Le.fns | exact Le.refl _ | refine ⟨?_, ?_⟩))))
    | ((with_reducible refine (?_ : Sc _ (AllRen _ _ _))); refine Sc.of ?_; first | (repeat' (first | exact trivial | apply Le.aggs | apply Le.tups | apply Le.fns | exact Le.refl _ | refine ⟨?_, ?_⟩)))
    | ((with_reducible refine (?_ : (List.all _ _) = true)); rfl)
    | ((with_reducible refine (?_ : (and _ _) = true)); rfl)
    | ((with_reducible refine (?_ : List.Nodup _)); exact nodupB_spec rfl)
    | ((with_reducible refine (?_ : @Eq Nat _ _)); rfl)
    | ((with_reducible refine (?_ : LeOks _ _ _)); first | exact trivial | exact ⟨.refl _, trivial⟩ | exact ⟨.refl _, .refl _, trivial⟩)
    | ((fail_if_success with_reducible refine (?_ : False)); (fail_if_success with_reducible refine (?_ : Nat)); (fail_if_success with_reducible refine (?_ : Nat → Nat → AV)); (fail_if_success with_reducible refine (?_ : Sc _ _)); (fail_if_success with_reducible refine (?_ : Side _)); (fail_if_success with_reducible refine (?_ : Exists _)); (fail_if_success with_reducible refine (?_ : Ends _ _ _ _ _ _ _)); (fail_if_success with_reducible refine (?_ : Alt _ _)); (fail_if_success with_reducible refine (?_ : Le _ _)); (fail_if_success with_reducible refine (?_ : LeAll _ _ _)); (first | with_reducible refine And.intro ?_ ?_ | with_reducible refine Cut.go ?_ | (with_reducible (refine impI ?_; intro _)) | (with_reducible refine (?_ : footOK _ _ = true); kernel_rfl) | ((with_reducible refine propI ?_); conv => whnf))))
  all_goals try (exact .of (Nat.le_of_ble_eq_true rfl))
  all_goals first | exact .mk [] [] _ rfl (.le (.refl _)) trivial rfl | exact .of ⟨by omega, by omega⟩

set_option maxHeartbeats 4000000 in
theorem c113 (t : Trf) (hs : Side (TOk t)) : Pure (Xc W0 G) 113 [trfA t] (trfR t) := by
  have ok := hs.get
  refine mut_of' hX (show FnIs (Xc W0 G) 113 Tryz.f113 (codeOf Tryz.f113) from ⟨by kernel_rfl, by kernel_rfl, by kernel_rfl, by kernel_rfl⟩) rfl ?_
  repeat' (first
    | ((with_reducible refine (?_ : Alt _ _)); first | (with_reducible apply callAlt (c146 hX t.name (Side.mk (ok.name)))) | (with_reducible apply callAlt (c13 hX _ _ _)) | (with_reducible apply callAlt (c147 hX _)) | (with_reducible refine Alt.one ?_))
    | ((with_reducible refine (?_ : AllLe _ _)); first | (first | exact AllLe.refl _ | (repeat' (first | exact trivial | apply Le.aggs | apply Le.tups | apply Le.fns | exact Le.refl _ | refine ⟨?_, ?_⟩))))
    | ((with_reducible refine (?_ : Sc _ (AllRen _ _ _))); refine Sc.of ?_; first | (repeat' (first | exact trivial | apply Le.aggs | apply Le.tups | apply Le.fns | exact Le.refl _ | refine ⟨?_, ?_⟩)))
    | ((with_reducible refine (?_ : (List.all _ _) = true)); rfl)
    | ((with_reducible refine (?_ : (and _ _) = true)); rfl)
    | ((with_reducible refine (?_ : List.Nodup _)); exact nodupB_spec rfl)
    | ((with_reducible refine (?_ : @Eq Nat _ _)); rfl)
    | ((with_reducible refine (?_ : LeOks _ _ _)); first | exact trivial | exact ⟨.refl _, trivial⟩ | exact ⟨.refl _, .refl _, trivial⟩)
    | ((fail_if_success with_reducible refine (?_ : False)); (fail_if_success with_reducible refine (?_ : Nat)); (fail_if_success with_reducible refine (?_ : Nat → Nat → AV)); (fail_if_success with_reducible refine (?_ : Sc _ _)); (fail_if_success with_reducible refine (?_ : Side _)); (fail_if_success with_reducible refine (?_ : Exists _)); (fail_if_success with_reducible refine (?_ : Ends _ _ _ _ _ _ _)); (fail_if_success with_reducible refine (?_ : Alt _ _)); (fail_if_success with_reducible refine (?_ : Le _ _)); (fail_if_success with_reducible refine (?_ : LeAll _ _ _)); (first | with_reducible refine And.intro ?_ ?_ | with_reducible refine Cut.go ?_ | (with_reducible (refine impI ?_; intro _)) | (with_reducible refine (?_ : footOK _ _ = true); kernel_rfl) | ((with_reducible refine propI ?_); conv => whnf))))
  all_goals try (exact .of (Nat.le_of_ble_eq_true rfl))
  all_goals (rename_i hd)
  · simp only [Bool.not_eq_true', Bool.not_eq_false', Int.toNat_natCast, bne_iff_ne, bne_eq_false_iff_eq, ne_eq] at hd
    have w := top_ne (top_4 hd) (by decide)
    exact .mk [] [] _ rfl (.le (.tups ⟨⟨trivial, .aggs ⟨⟨trivial, .intI w.2.1.symm⟩, .intI w.2.2.symm⟩⟩, .intI w.1.symm⟩)) trivial rfl
  · rename_i h1; simp only [Bool.not_eq_true', Bool.not_eq_false', Int.toNat_natCast, bne_iff_ne, bne_eq_false_iff_eq, ne_eq] at h1
    have w := top_ne (top_2 h1 hd) (by decide)
    exact .mk [] [] _ rfl (.le (.tups ⟨⟨trivial, .aggs ⟨⟨trivial, .intI w.2.1.symm⟩, .intI w.2.2.symm⟩⟩, .intI w.1.symm⟩)) trivial rfl
  · rename_i h1 h2; simp only [Bool.not_eq_true', Bool.not_eq_false', Int.toNat_natCast, bne_iff_ne, bne_eq_false_iff_eq, ne_eq] at h1
    have w := top_ne (top_x h1 h2 hd) (by decide)
    exact .mk [] [] _ rfl (.le (.tups ⟨⟨trivial, .aggs ⟨⟨trivial, .intI w.2.1.symm⟩, .intI w.2.2.symm⟩⟩, .intI w.1.symm⟩)) trivial rfl
  · rename_i h1 h2 h3; simp only [Bool.not_eq_true', Bool.not_eq_false', Int.toNat_natCast, bne_iff_ne, bne_eq_false_iff_eq, ne_eq] at h1
    have h0t : topE t = 0 := top_x h1 h2 h3
    have hd := of_decide_eq_true hd
    have w := p_large (t := t) (p := 0) (by show 6 < t.zones.length; omega)
    have w := part_hit h0t (by decide) (fun q hq => absurd hq (Nat.not_lt_zero _)) w.1 w.2.1 w.2.2 (by decide)
    exact .mk [] [] _ rfl (.le (.tups ⟨⟨trivial, .aggs ⟨⟨trivial, .intI w.2.1.symm⟩, .intI w.2.2.symm⟩⟩, .intI w.1.symm⟩)) trivial rfl
  · rename_i h1 h2 h3; simp only [Bool.not_eq_true', Bool.not_eq_false', Int.toNat_natCast, bne_iff_ne, bne_eq_false_iff_eq, ne_eq] at h1
    have h0t : topE t = 0 := top_x h1 h2 h3
    have hz : ∀ q, q < 0 → pE t q = 0 := fun q hq => absurd hq (Nat.not_lt_zero _)
    have hb0 : t.zones.length ≤ 1000 := ok.zones
    have hl : ¬ partM 0 < partN t 0 := by show ¬ 6 < t.zones.length; have h := of_decide_eq_false hd; omega
    refine ⟨Nat, fun i => ([(1, .ptr 0 0), (2, .ptr 1 0), (4, .ptr 2 0), (5, .int .i64 8), (6, .int .i64 i)], [.box (trfC t), .box [.int .i64 0, .int .i64 0], .box [.int .i64 0, .int .i64 0]]), fun i => i ≤ t.zones.length ∧ ∀ j, j < i → zoneE t j = 0, fun i => t.zones.length - i, ⟨0, ⟨Nat.zero_le _, fun _ h => by omega⟩, .le ⟨rfl, ⟨.refl _, .refl _, .refl _, trivial⟩, ⟨.refl _, .refl _, .refl _, .refl _, .refl _, trivial⟩⟩⟩, fun i ⟨hi, h0⟩ => ?_⟩
    repeat' (first
      | ((with_reducible refine (?_ : Alt _ _)); first | (with_reducible apply callAlt (c146 hX (t.zones.getD i bs0) (Side.mk (ok.zone i)))) | (with_reducible apply callAlt (c148 hX (t.zones.take i) (t.zones.getD i bs0) (Side.mk (by rw [List.length_take]; have := ok.zones; omega)))) | (with_reducible refine Alt.one ?_))
      | ((with_reducible refine (?_ : AllLe _ _)); first | exact ⟨le_preI (es := 1) (n := (t.zones.take i).length) (by rw [List.length_take]; simp only [Int.toNat_natCast, Int.toNat_zero]; omega) (fun a j ha => by show AV.str (t.zones.getD (0 + a) bs0) = AV.str ((t.zones.take i).getD a bs0); rw [Nat.zero_add, take_of (by simp only [Int.toNat_natCast, Int.toNat_zero] at ha; omega)]), .refl _, trivial⟩ | (first | exact AllLe.refl _ | (repeat' (first | exact trivial | apply Le.aggs | apply Le.tups | apply Le.fns | exact Le.refl _ | refine ⟨?_, ?_⟩))))
      | ((with_reducible refine (?_ : Sc _ (AllRen _ _ _))); refine Sc.of ?_; first | (repeat' (first | exact trivial | apply Le.aggs | apply Le.tups | apply Le.fns | exact Le.refl _ | refine ⟨?_, ?_⟩)))
      | ((with_reducible refine (?_ : (List.all _ _) = true)); rfl)
      | ((with_reducible refine (?_ : (and _ _) = true)); rfl)
      | ((with_reducible refine (?_ : List.Nodup _)); exact nodupB_spec rfl)
      | ((with_reducible refine (?_ : @Eq Nat _ _)); rfl)
      | ((with_reducible refine (?_ : LeOks _ _ _)); first | exact trivial | exact ⟨.refl _, trivial⟩ | exact ⟨.refl _, .refl _, trivial⟩)
      | ((fail_if_success with_reducible refine (?_ : False)); (fail_if_success with_reducible refine (?_ : Nat)); (fail_if_success with_reducible refine (?_ : Nat → Nat → AV)); (fail_if_success with_reducible refine (?_ : Sc _ _)); (fail_if_success with_reducible refine (?_ : Side _)); (fail_if_success with_reducible refine (?_ : Exists _)); (fail_if_success with_reducible refine (?_ : Ends _ _ _ _ _ _ _)); (fail_if_success with_reducible refine (?_ : Alt _ _)); (fail_if_success with_reducible refine (?_ : Le _ _)); (fail_if_success with_reducible refine (?_ : LeAll _ _ _)); (first | with_reducible refine And.intro ?_ ?_ | with_reducible refine Cut.go ?_ | (with_reducible (refine impI ?_; intro _)) | (with_reducible refine (?_ : footOK _ _ = true); kernel_rfl) | ((with_reducible refine propI ?_); conv => whnf))))
    all_goals try (exact .of (Nat.le_of_ble_eq_true rfl))
    all_goals try (rename_i h1; have h1 := of_decide_eq_true h1; first | exact .of ⟨by omega, by omega⟩ | exact .of ⟨by omega, by omega, by omega⟩)
    all_goals try (rename_i h1 h2; have h1 := of_decide_eq_true h1; simp only [Bool.not_eq_true', Bool.not_eq_false', Int.toNat_natCast, bne_iff_ne, bne_eq_false_iff_eq, ne_eq] at h2; first | exact .of ⟨by omega, by omega⟩ | exact .of ⟨by omega, by omega, by omega⟩ | (have w := hit_out h0t hz (by decide) hl (show i < t.zones.length by omega) h0 (zone_4 h2) (by decide); exact .mk [] [] _ rfl (.le (.tups ⟨⟨trivial, .aggs ⟨⟨trivial, .intI w.2.1.symm⟩, .intI w.2.2.symm⟩⟩, .intI w.1.symm⟩)) trivial rfl))
    all_goals try (rename_i h1 h2 h3; have h1 := of_decide_eq_true h1; simp only [Bool.not_eq_true', Bool.not_eq_false', Int.toNat_natCast, bne_iff_ne, bne_eq_false_iff_eq, ne_eq] at h2 h3; first | exact .of ⟨by omega, by omega⟩ | exact .of ⟨by omega, by omega, by omega⟩ | exact ⟨i + 1, ⟨by omega, all_lt h0 (zone_x h2 h3 (by omega))⟩, by show t.zones.length - (i + 1) < t.zones.length - i; omega, .le ⟨rfl, ⟨.refl _, .refl _, .refl _, trivial⟩, ⟨.refl _, .refl _, .refl _, .refl _, .refl _, trivial⟩⟩⟩ | (have w := hit_out h0t hz (by decide) hl (show i < t.zones.length by omega) h0 (zone_x h2 h3 (by omega)) (by decide); exact .mk [] [] _ rfl (.le (.tups ⟨⟨trivial, .aggs ⟨⟨trivial, .intI w.2.1.symm⟩, .intI w.2.2.symm⟩⟩, .intI w.1.symm⟩)) trivial rfl))
    all_goals (rename_i hx)
    · rename_i he
      have he := of_decide_eq_false he
      have hx := of_decide_eq_true hx
      have hzp := lt_5 hz (p_none (p := 0) hl (fun j hj => h0 j (by have hj : j < t.zones.length := hj; omega)))
      have w := p_large (t := t) (p := 1) (by show 20 < t.hol.length; omega)
      have w := part_hit h0t (by decide) hzp w.1 w.2.1 w.2.2 (by decide)
      exact .mk [] [] _ rfl (.le (.tups ⟨⟨trivial, .aggs ⟨⟨trivial, .intI w.2.1.symm⟩, .intI w.2.2.symm⟩⟩, .intI w.1.symm⟩)) trivial rfl
    · rename_i he
      have he := of_decide_eq_false he
      have hzp := lt_5 hz (p_none (p := 0) hl (fun j hj => h0 j (by have hj : j < t.zones.length := hj; omega)))
      clear hz h0 hl hi
      have hz := hzp
      have hd := hx
      have hb1 : t.hol.length ≤ 1000 := ok.hol
      have hl : ¬ partM 1 < partN t 1 := by show ¬ 20 < t.hol.length; have h := of_decide_eq_false hd; omega
      refine ⟨Nat, fun i => ([(1, .ptr 0 0), (2, .ptr 1 0), (4, .ptr 2 0), (5, .int .i64 8), (8, .int .i64 i)], [.box (trfC t), .box [.int .i64 0, .int .i64 0], .box [.int .i64 0, .int .i64 0]]), fun i => i ≤ t.hol.length ∧ ∀ j, j < i → holE t j = 0, fun i => t.hol.length - i, ⟨0, ⟨Nat.zero_le _, fun _ h => by omega⟩, .le ⟨rfl, ⟨.refl _, .refl _, .refl _, trivial⟩, ⟨.refl _, .refl _, .refl _, .refl _, .refl _, trivial⟩⟩⟩, fun i ⟨hi, h0⟩ => ?_⟩
      repeat' (first
        | ((with_reducible refine (?_ : Alt _ _)); first | (with_reducible apply callAlt (c149 hX 0 100000 2 (t.hol.take (i + 1)) (by decide) (Side.mk (by rw [List.length_take]; have := ok.hol; omega)))) | (with_reducible refine Alt.one ?_))
        | ((with_reducible refine (?_ : AllLe _ _)); first | exact ⟨le_preI (es := 1) (n := (t.hol.take (i + 1)).length) (by have q := of_decide_eq_true ‹decide ((i : Int) < (t.hol.length : Int)) = true›; rw [List.length_take]; show ((i : Int) + 1).toNat - 0 = _; omega) (fun a j ha => by show AV.int .i64 (t.hol.getD (0 + a) 0) = AV.int .i64 ((t.hol.take (i + 1)).getD a 0); have ha : a < ((i : Int) + 1).toNat - 0 := ha; rw [Nat.zero_add, take_of (by omega)]), .refl _, .refl _, .refl _, trivial⟩ | (first | exact AllLe.refl _ | (repeat' (first | exact trivial | apply Le.aggs | apply Le.tups | apply Le.fns | exact Le.refl _ | refine ⟨?_, ?_⟩))))
        | ((with_reducible refine (?_ : Sc _ (AllRen _ _ _))); refine Sc.of ?_; first | (repeat' (first | exact trivial | apply Le.aggs | apply Le.tups | apply Le.fns | exact Le.refl _ | refine ⟨?_, ?_⟩)))
        | ((with_reducible refine (?_ : (List.all _ _) = true)); rfl)
        | ((with_reducible refine (?_ : (and _ _) = true)); rfl)
        | ((with_reducible refine (?_ : List.Nodup _)); exact nodupB_spec rfl)
        | ((with_reducible refine (?_ : @Eq Nat _ _)); rfl)
        | ((with_reducible refine (?_ : LeOks _ _ _)); first | exact trivial | exact ⟨.refl _, trivial⟩ | exact ⟨.refl _, .refl _, trivial⟩)
        | ((fail_if_success with_reducible refine (?_ : False)); (fail_if_success with_reducible refine (?_ : Nat)); (fail_if_success with_reducible refine (?_ : Nat → Nat → AV)); (fail_if_success with_reducible refine (?_ : Sc _ _)); (fail_if_success with_reducible refine (?_ : Side _)); (fail_if_success with_reducible refine (?_ : Exists _)); (fail_if_success with_reducible refine (?_ : Ends _ _ _ _ _ _ _)); (fail_if_success with_reducible refine (?_ : Alt _ _)); (fail_if_success with_reducible refine (?_ : Le _ _)); (fail_if_success with_reducible refine (?_ : LeAll _ _ _)); (first | with_reducible refine And.intro ?_ ?_ | with_reducible refine Cut.go ?_ | (with_reducible (refine impI ?_; intro _)) | (with_reducible refine (?_ : footOK _ _ = true); kernel_rfl) | ((with_reducible refine propI ?_); conv => whnf))))
      all_goals try (exact .of (Nat.le_of_ble_eq_true rfl))
      all_goals try (rename_i h1; have h1 := of_decide_eq_true h1; first | exact .of ⟨by omega, by omega⟩ | exact .of ⟨by omega, by omega, by omega⟩)
      all_goals try (rename_i h1 h2; have h1 := of_decide_eq_true h1; simp only [Bool.not_eq_true', Bool.not_eq_false', Int.toNat_natCast, bne_iff_ne, bne_eq_false_iff_eq, ne_eq] at h2; rw [hol_take (by omega) h0] at h2; first | exact .of ⟨by omega, by omega⟩ | exact .of ⟨by omega, by omega, by omega⟩ | exact ⟨i + 1, ⟨by omega, all_lt h0 (h2)⟩, by show t.hol.length - (i + 1) < t.hol.length - i; omega, .le ⟨rfl, ⟨.refl _, .refl _, .refl _, trivial⟩, ⟨.refl _, .refl _, .refl _, .refl _, .refl _, trivial⟩⟩⟩ | (rw [hol_take (by omega) h0]; (have w := hit_out h0t hz (by decide) hl (show i < t.hol.length by omega) h0 (rfl) h2; exact .mk [] [] _ rfl (.le (.tups ⟨⟨trivial, .aggs ⟨⟨trivial, .intI w.2.1.symm⟩, .intI w.2.2.symm⟩⟩, .intI w.1.symm⟩)) trivial rfl)))
      all_goals (rename_i hx)
      · rename_i he
        have he := of_decide_eq_false he
        have hx := of_decide_eq_true hx
        have hzp := lt_5 hz (p_none (p := 1) hl (fun j hj => h0 j (by have hj : j < t.hol.length := hj; omega)))
        have w := p_large (t := t) (p := 2) (by show 12 < t.rules.length; omega)
        have w := part_hit h0t (by decide) hzp w.1 w.2.1 w.2.2 (by decide)
        exact .mk [] [] _ rfl (.le (.tups ⟨⟨trivial, .aggs ⟨⟨trivial, .intI w.2.1.symm⟩, .intI w.2.2.symm⟩⟩, .intI w.1.symm⟩)) trivial rfl
      · rename_i he
        have he := of_decide_eq_false he
        have hzp := lt_5 hz (p_none (p := 1) hl (fun j hj => h0 j (by have hj : j < t.hol.length := hj; omega)))
        clear hz h0 hl hi
        have hz := hzp
        have hd := hx
        have hb2 : t.rules.length ≤ 1000 := ok.rules
        have hl : ¬ partM 2 < partN t 2 := by show ¬ 12 < t.rules.length; have h := of_decide_eq_false hd; omega
        refine ⟨Nat, fun i => ([(1, .ptr 0 0), (2, .ptr 1 0), (4, .ptr 2 0), (5, .int .i64 8), (10, .int .i64 i)], [.box (trfC t), .box [.int .i64 0, .int .i64 0], .box [.int .i64 0, .int .i64 0]]), fun i => i ≤ t.rules.length ∧ ∀ j, j < i → ruliE t j = 0, fun i => t.rules.length - i, ⟨0, ⟨Nat.zero_le _, fun _ h => by omega⟩, .le ⟨rfl, ⟨.refl _, .refl _, .refl _, trivial⟩, ⟨.refl _, .refl _, .refl _, .refl _, .refl _, trivial⟩⟩⟩, fun i ⟨hi, h0⟩ => ?_⟩
        repeat' (first
          | ((with_reducible refine (?_ : Alt _ _)); first | (with_reducible apply callAlt (c146 hX (t.rules.getD i rul0).name (Side.mk (ok.rname i)))) | (with_reducible apply callAlt (c150 hX t (t.rules.getD i rul0) (Side.mk ⟨ok.zones, ok.rzones i, ok.rdays i⟩))) | (with_reducible refine Alt.one ?_))
          | ((with_reducible refine (?_ : AllLe _ _)); first | (first | exact AllLe.refl _ | (repeat' (first | exact trivial | apply Le.aggs | apply Le.tups | apply Le.fns | exact Le.refl _ | refine ⟨?_, ?_⟩))))
          | ((with_reducible refine (?_ : Sc _ (AllRen _ _ _))); refine Sc.of ?_; first | (repeat' (first | exact trivial | apply Le.aggs | apply Le.tups | apply Le.fns | exact Le.refl _ | refine ⟨?_, ?_⟩)))
          | ((with_reducible refine (?_ : (List.all _ _) = true)); rfl)
          | ((with_reducible refine (?_ : (and _ _) = true)); rfl)
          | ((with_reducible refine (?_ : List.Nodup _)); exact nodupB_spec rfl)
          | ((with_reducible refine (?_ : @Eq Nat _ _)); rfl)
          | ((with_reducible refine (?_ : LeOks _ _ _)); first | exact trivial | exact ⟨.refl _, trivial⟩ | exact ⟨.refl _, .refl _, trivial⟩)
          | ((fail_if_success with_reducible refine (?_ : False)); (fail_if_success with_reducible refine (?_ : Nat)); (fail_if_success with_reducible refine (?_ : Nat → Nat → AV)); (fail_if_success with_reducible refine (?_ : Sc _ _)); (fail_if_success with_reducible refine (?_ : Side _)); (fail_if_success with_reducible refine (?_ : Exists _)); (fail_if_success with_reducible refine (?_ : Ends _ _ _ _ _ _ _)); (fail_if_success with_reducible refine (?_ : Alt _ _)); (fail_if_success with_reducible refine (?_ : Le _ _)); (fail_if_success with_reducible refine (?_ : LeAll _ _ _)); (first | with_reducible refine And.intro ?_ ?_ | with_reducible refine Cut.go ?_ | (with_reducible (refine impI ?_; intro _)) | (with_reducible refine (?_ : footOK _ _ = true); kernel_rfl) | ((with_reducible refine propI ?_); conv => whnf))))
        all_goals try (exact .of (Nat.le_of_ble_eq_true rfl))
        all_goals try (rename_i h1; have h1 := of_decide_eq_true h1; first | exact .of ⟨by omega, by omega⟩ | exact .of ⟨by omega, by omega, by omega⟩)
        all_goals try (rename_i h1 h2; have h1 := of_decide_eq_true h1; simp only [Bool.not_eq_true', Bool.not_eq_false', Int.toNat_natCast, bne_iff_ne, bne_eq_false_iff_eq, ne_eq] at h2; first | exact .of ⟨by omega, by omega⟩ | exact .of ⟨by omega, by omega, by omega⟩ | (have w := hit_out h0t hz (by decide) hl (show i < t.rules.length by omega) h0 (ruli_4 h2) (by decide); exact .mk [] [] _ rfl (.le (.tups ⟨⟨trivial, .aggs ⟨⟨trivial, .intI w.2.1.symm⟩, .intI w.2.2.symm⟩⟩, .intI w.1.symm⟩)) trivial rfl))
        · rename_i g1 g2
          have g1 := of_decide_eq_true g1
          simp only [Bool.not_eq_true', Bool.not_eq_false', Int.toNat_natCast, bne_iff_ne, bne_eq_false_iff_eq, ne_eq] at g2
          refine ⟨Nat, fun k => ([(1, .ptr 0 0), (2, .ptr 1 0), (4, .ptr 2 0), (5, .int .i64 8), (10, .int .i64 i), (11, .ptr 3 0), (12, .int .i64 k)], [.box (trfC t), .box [.int .i64 0, .int .i64 0], .box [.int .i64 0, .int .i64 0], .box [.int .i64 3, .int .i64 i]]), fun k => k ≤ i ∧ ∀ k', k' < k → (fun k => decide ((t.rules.getD k rul0).name = (t.rules.getD i rul0).name)) k' = false, fun k => i - k, ⟨0, ⟨Nat.zero_le _, fun _ h => by omega⟩, .le ⟨rfl, ⟨.refl _, .refl _, .refl _, .refl _, trivial⟩, ⟨.refl _, .refl _, .refl _, .refl _, .refl _, .refl _, .refl _, trivial⟩⟩⟩, fun k ⟨hk, k0⟩ => ?_⟩
          repeat' (first
            | ((with_reducible refine (?_ : Alt _ _)); first | (with_reducible apply callAlt (c146 hX (t.rules.getD i rul0).name (Side.mk (ok.rname i)))) | (with_reducible apply callAlt (c150 hX t (t.rules.getD i rul0) (Side.mk ⟨ok.zones, ok.rzones i, ok.rdays i⟩))) | (with_reducible refine Alt.one ?_))
            | ((with_reducible refine (?_ : AllLe _ _)); first | (first | exact AllLe.refl _ | (repeat' (first | exact trivial | apply Le.aggs | apply Le.tups | apply Le.fns | exact Le.refl _ | refine ⟨?_, ?_⟩))))
            | ((with_reducible refine (?_ : Sc _ (AllRen _ _ _))); refine Sc.of ?_; first | (repeat' (first | exact trivial | apply Le.aggs | apply Le.tups | apply Le.fns | exact Le.refl _ | refine ⟨?_, ?_⟩)))
            | ((with_reducible refine (?_ : (List.all _ _) = true)); rfl)
            | ((with_reducible refine (?_ : (and _ _) = true)); rfl)
            | ((with_reducible refine (?_ : List.Nodup _)); exact nodupB_spec rfl)
            | ((with_reducible refine (?_ : @Eq Nat _ _)); rfl)
            | ((with_reducible refine (?_ : LeOks _ _ _)); first | exact trivial | exact ⟨.refl _, trivial⟩ | exact ⟨.refl _, .refl _, trivial⟩)
            | ((fail_if_success with_reducible refine (?_ : False)); (fail_if_success with_reducible refine (?_ : Nat)); (fail_if_success with_reducible refine (?_ : Nat → Nat → AV)); (fail_if_success with_reducible refine (?_ : Sc _ _)); (fail_if_success with_reducible refine (?_ : Side _)); (fail_if_success with_reducible refine (?_ : Exists _)); (fail_if_success with_reducible refine (?_ : Ends _ _ _ _ _ _ _)); (fail_if_success with_reducible refine (?_ : Alt _ _)); (fail_if_success with_reducible refine (?_ : Le _ _)); (fail_if_success with_reducible refine (?_ : LeAll _ _ _)); (first | with_reducible refine And.intro ?_ ?_ | with_reducible refine Cut.go ?_ | (with_reducible (refine impI ?_; intro _)) | (with_reducible refine (?_ : footOK _ _ = true); kernel_rfl) | ((with_reducible refine propI ?_); conv => whnf))))
          all_goals try (exact .of (Nat.le_of_ble_eq_true rfl))
          all_goals try (rename_i q1; have q1 := of_decide_eq_true q1; first | exact .of ⟨by omega, by omega⟩ | exact .of ⟨by omega, by omega, by omega⟩ | exact Sc.imp fun _ => ⟨by omega, by omega⟩)
          all_goals try (rename_i q1 q2; have q1 := of_decide_eq_true q1; simp only [Int.toNat_natCast] at q2; first | exact .of ⟨by omega, by omega⟩ | exact .of ⟨by omega, by omega, by omega⟩ | exact ⟨k + 1, ⟨by omega, all_lt k0 q2⟩, by show i - (k + 1) < i - k; omega, .le ⟨rfl, ⟨.refl _, .refl _, .refl _, .refl _, trivial⟩, ⟨.refl _, .refl _, .refl _, .refl _, .refl _, .refl _, .refl _, trivial⟩⟩⟩ | (have w := hit_out h0t hz (by decide) hl (show i < t.rules.length by omega) h0 (ruli_5 g2 (by omega) q2) (by decide); exact .mk [] [] _ rfl (.le (.tups ⟨⟨trivial, .aggs ⟨⟨trivial, .intI w.2.1.symm⟩, .intI w.2.2.symm⟩⟩, .intI w.1.symm⟩)) trivial rfl))
          all_goals try (rename_i q1; have q1 := of_decide_eq_false q1; first | exact .of ⟨by omega, by omega⟩ | exact .of ⟨by omega, by omega, by omega⟩)
          all_goals (rename_i q1 q2; have q1 := of_decide_eq_false q1; simp only [Bool.not_eq_true', Bool.not_eq_false', Int.toNat_natCast, bne_iff_ne, bne_eq_false_iff_eq, ne_eq] at q2; first | exact .of ⟨by omega, by omega⟩ | exact .of ⟨by omega, by omega, by omega⟩ | exact ⟨i + 1, ⟨by omega, all_lt h0 ((ruli_e g2 (fun k' hk' => k0 k' (by omega))).trans q2)⟩, by show t.rules.length - (i + 1) < t.rules.length - i; omega, .le ⟨rfl, ⟨.refl _, .refl _, .refl _, trivial⟩, ⟨.refl _, .refl _, .refl _, .refl _, .refl _, trivial⟩⟩⟩ | (have w := hit_out h0t hz (by decide) hl (show i < t.rules.length by omega) h0 (ruli_e g2 (fun k' hk' => k0 k' (by omega))) q2; exact .mk [] [] _ rfl (.le (.tups ⟨⟨trivial, .aggs ⟨⟨trivial, .intI w.2.1.symm⟩, .intI w.2.2.symm⟩⟩, .intI w.1.symm⟩)) trivial rfl))
        all_goals (rename_i hx)
        · rename_i he
          have he := of_decide_eq_false he
          have hx := of_decide_eq_true hx
          have hzp := lt_5 hz (p_none (p := 2) hl (fun j hj => h0 j (by have hj : j < t.rules.length := hj; omega)))
          have w := p_large (t := t) (p := 3) (by show 6 < t.extras.length; omega)
          have w := part_hit h0t (by decide) hzp w.1 w.2.1 w.2.2 (by decide)
          exact .mk [] [] _ rfl (.le (.tups ⟨⟨trivial, .aggs ⟨⟨trivial, .intI w.2.1.symm⟩, .intI w.2.2.symm⟩⟩, .intI w.1.symm⟩)) trivial rfl
        · rename_i he
          have he := of_decide_eq_false he
          have hzp := lt_5 hz (p_none (p := 2) hl (fun j hj => h0 j (by have hj : j < t.rules.length := hj; omega)))
          clear hz h0 hl hi
          have hz := hzp
          have hd := hx
          have hb3 : t.extras.length ≤ 1000 := ok.extras
          have hl : ¬ partM 3 < partN t 3 := by show ¬ 6 < t.extras.length; have h := of_decide_eq_false hd; omega
          refine ⟨Nat, fun i => ([(1, .ptr 0 0), (2, .ptr 1 0), (4, .ptr 2 0), (5, .int .i64 8), (14, .int .i64 i)], [.box (trfC t), .box [.int .i64 0, .int .i64 0], .box [.int .i64 0, .int .i64 0]]), fun i => i ≤ t.extras.length ∧ ∀ j, j < i → extE t j = 0, fun i => t.extras.length - i, ⟨0, ⟨Nat.zero_le _, fun _ h => by omega⟩, .le ⟨rfl, ⟨.refl _, .refl _, .refl _, trivial⟩, ⟨.refl _, .refl _, .refl _, .refl _, .refl _, trivial⟩⟩⟩, fun i ⟨hi, h0⟩ => ?_⟩
          repeat' (first
            | ((with_reducible refine (?_ : Alt _ _)); first | (with_reducible apply callAlt (c146 hX (t.extras.getD i ext0).name (Side.mk (ok.ename i)))) | (with_reducible apply callAlt (c147 hX _)) | (with_reducible refine Alt.one ?_))
            | ((with_reducible refine (?_ : AllLe _ _)); first | (first | exact AllLe.refl _ | (repeat' (first | exact trivial | apply Le.aggs | apply Le.tups | apply Le.fns | exact Le.refl _ | refine ⟨?_, ?_⟩))))
            | ((with_reducible refine (?_ : Sc _ (AllRen _ _ _))); refine Sc.of ?_; first | (repeat' (first | exact trivial | apply Le.aggs | apply Le.tups | apply Le.fns | exact Le.refl _ | refine ⟨?_, ?_⟩)))
            | ((with_reducible refine (?_ : (List.all _ _) = true)); rfl)
            | ((with_reducible refine (?_ : (and _ _) = true)); rfl)
            | ((with_reducible refine (?_ : List.Nodup _)); exact nodupB_spec rfl)
            | ((with_reducible refine (?_ : @Eq Nat _ _)); rfl)
            | ((with_reducible refine (?_ : LeOks _ _ _)); first | exact trivial | exact ⟨.refl _, trivial⟩ | exact ⟨.refl _, .refl _, trivial⟩)
            | ((fail_if_success with_reducible refine (?_ : False)); (fail_if_success with_reducible refine (?_ : Nat)); (fail_if_success with_reducible refine (?_ : Nat → Nat → AV)); (fail_if_success with_reducible refine (?_ : Sc _ _)); (fail_if_success with_reducible refine (?_ : Side _)); (fail_if_success with_reducible refine (?_ : Exists _)); (fail_if_success with_reducible refine (?_ : Ends _ _ _ _ _ _ _)); (fail_if_success with_reducible refine (?_ : Alt _ _)); (fail_if_success with_reducible refine (?_ : Le _ _)); (fail_if_success with_reducible refine (?_ : LeAll _ _ _)); (first | with_reducible refine And.intro ?_ ?_ | with_reducible refine Cut.go ?_ | (with_reducible (refine impI ?_; intro _)) | (with_reducible refine (?_ : footOK _ _ = true); kernel_rfl) | ((with_reducible refine propI ?_); conv => whnf))))
          all_goals try (exact .of (Nat.le_of_ble_eq_true rfl))
          all_goals try (rename_i h1; have h1 := of_decide_eq_true h1; first | exact .of ⟨by omega, by omega⟩ | exact .of ⟨by omega, by omega, by omega⟩)
          all_goals try (rename_i h1 h2; have h1 := of_decide_eq_true h1; simp only [Bool.not_eq_true', Bool.not_eq_false', Int.toNat_natCast, bne_iff_ne, bne_eq_false_iff_eq, ne_eq] at h2; first | exact .of ⟨by omega, by omega⟩ | exact .of ⟨by omega, by omega, by omega⟩ | (have w := hit_out h0t hz (by decide) hl (show i < t.extras.length by omega) h0 (ext_4 h2) (by decide); exact .mk [] [] _ rfl (.le (.tups ⟨⟨trivial, .aggs ⟨⟨trivial, .intI w.2.1.symm⟩, .intI w.2.2.symm⟩⟩, .intI w.1.symm⟩)) trivial rfl))
          · rename_i g1 g2
            have g1 := of_decide_eq_true g1
            simp only [Bool.not_eq_true', Bool.not_eq_false', Int.toNat_natCast, bne_iff_ne, bne_eq_false_iff_eq, ne_eq] at g2
            refine ⟨Nat, fun k => ([(1, .ptr 0 0), (2, .ptr 1 0), (4, .ptr 2 0), (5, .int .i64 8), (14, .int .i64 i), (15, .ptr 3 0), (16, .int .i64 k)], [.box (trfC t), .box [.int .i64 0, .int .i64 0], .box [.int .i64 0, .int .i64 0], .box [.int .i64 4, .int .i64 i]]), fun k => k ≤ i ∧ ∀ k', k' < k → (fun k => decide ((t.extras.getD k ext0).name = (t.extras.getD i ext0).name)) k' = false, fun k => i - k, ⟨0, ⟨Nat.zero_le _, fun _ h => by omega⟩, .le ⟨rfl, ⟨.refl _, .refl _, .refl _, .refl _, trivial⟩, ⟨.refl _, .refl _, .refl _, .refl _, .refl _, .refl _, .refl _, trivial⟩⟩⟩, fun k ⟨hk, k0⟩ => ?_⟩
            repeat' (first
              | ((with_reducible refine (?_ : Alt _ _)); first | (with_reducible apply callAlt (c146 hX (t.extras.getD i ext0).name (Side.mk (ok.ename i)))) | (with_reducible apply callAlt (c147 hX _)) | (with_reducible refine Alt.one ?_))
              | ((with_reducible refine (?_ : AllLe _ _)); first | (first | exact AllLe.refl _ | (repeat' (first | exact trivial | apply Le.aggs | apply Le.tups | apply Le.fns | exact Le.refl _ | refine ⟨?_, ?_⟩))))
              | ((with_reducible refine (?_ : Sc _ (AllRen _ _ _))); refine Sc.of ?_; first | (repeat' (first | exact trivial | apply Le.aggs | apply Le.tups | apply Le.fns | exact Le.refl _ | refine ⟨?_, ?_⟩)))
              | ((with_reducible refine (?_ : (List.all _ _) = true)); rfl)
              | ((with_reducible refine (?_ : (and _ _) = true)); rfl)
              | ((with_reducible refine (?_ : List.Nodup _)); exact nodupB_spec rfl)
              | ((with_reducible refine (?_ : @Eq Nat _ _)); rfl)
              | ((with_reducible refine (?_ : LeOks _ _ _)); first | exact trivial | exact ⟨.refl _, trivial⟩ | exact ⟨.refl _, .refl _, trivial⟩)
              | ((fail_if_success with_reducible refine (?_ : False)); (fail_if_success with_reducible refine (?_ : Nat)); (fail_if_success with_reducible refine (?_ : Nat → Nat → AV)); (fail_if_success with_reducible refine (?_ : Sc _ _)); (fail_if_success with_reducible refine (?_ : Side _)); (fail_if_success with_reducible refine (?_ : Exists _)); (fail_if_success with_reducible refine (?_ : Ends _ _ _ _ _ _ _)); (fail_if_success with_reducible refine (?_ : Alt _ _)); (fail_if_success with_reducible refine (?_ : Le _ _)); (fail_if_success with_reducible refine (?_ : LeAll _ _ _)); (first | with_reducible refine And.intro ?_ ?_ | with_reducible refine Cut.go ?_ | (with_reducible (refine impI ?_; intro _)) | (with_reducible refine (?_ : footOK _ _ = true); kernel_rfl) | ((with_reducible refine propI ?_); conv => whnf))))
            all_goals try (exact .of (Nat.le_of_ble_eq_true rfl))
            all_goals try (rename_i q1; have q1 := of_decide_eq_true q1; first | exact .of ⟨by omega, by omega⟩ | exact .of ⟨by omega, by omega, by omega⟩ | exact Sc.imp fun _ => ⟨by omega, by omega⟩)
            all_goals try (rename_i q1 q2; have q1 := of_decide_eq_true q1; simp only [Int.toNat_natCast] at q2; first | exact .of ⟨by omega, by omega⟩ | exact .of ⟨by omega, by omega, by omega⟩ | exact ⟨k + 1, ⟨by omega, all_lt k0 q2⟩, by show i - (k + 1) < i - k; omega, .le ⟨rfl, ⟨.refl _, .refl _, .refl _, .refl _, trivial⟩, ⟨.refl _, .refl _, .refl _, .refl _, .refl _, .refl _, .refl _, trivial⟩⟩⟩ | (have w := hit_out h0t hz (by decide) hl (show i < t.extras.length by omega) h0 (ext_5 g2 (by omega) q2) (by decide); exact .mk [] [] _ rfl (.le (.tups ⟨⟨trivial, .aggs ⟨⟨trivial, .intI w.2.1.symm⟩, .intI w.2.2.symm⟩⟩, .intI w.1.symm⟩)) trivial rfl))
            all_goals try (rename_i q1; have q1 := of_decide_eq_false q1; first | exact .of ⟨by omega, by omega⟩ | exact .of ⟨by omega, by omega, by omega⟩)
            all_goals (rename_i q1 q2; have q1 := of_decide_eq_false q1; simp only [Bool.not_eq_true', Bool.not_eq_false', Int.toNat_natCast, bne_iff_ne, bne_eq_false_iff_eq, ne_eq] at q2; first | exact .of ⟨by omega, by omega⟩ | exact .of ⟨by omega, by omega, by omega⟩ | exact ⟨i + 1, ⟨by omega, all_lt h0 ((ext_e g2 (fun k' hk' => k0 k' (by omega))).trans q2)⟩, by show t.extras.length - (i + 1) < t.extras.length - i; omega, .le ⟨rfl, ⟨.refl _, .refl _, .refl _, trivial⟩, ⟨.refl _, .refl _, .refl _, .refl _, .refl _, trivial⟩⟩⟩ | (have w := hit_out h0t hz (by decide) hl (show i < t.extras.length by omega) h0 (ext_e g2 (fun k' hk' => k0 k' (by omega))) q2; exact .mk [] [] _ rfl (.le (.tups ⟨⟨trivial, .aggs ⟨⟨trivial, .intI w.2.1.symm⟩, .intI w.2.2.symm⟩⟩, .intI w.1.symm⟩)) trivial rfl))
          all_goals (rename_i hx)
          · rename_i he
            have he := of_decide_eq_false he
            have hx := of_decide_eq_true hx
            have hzp := lt_5 hz (p_none (p := 3) hl (fun j hj => h0 j (by have hj : j < t.extras.length := hj; omega)))
            have w := p_large (t := t) (p := 4) (by show 16 < t.fixed.length; omega)
            have w := part_hit h0t (by decide) hzp w.1 w.2.1 w.2.2 (by decide)
            exact .mk [] [] _ rfl (.le (.tups ⟨⟨trivial, .aggs ⟨⟨trivial, .intI w.2.1.symm⟩, .intI w.2.2.symm⟩⟩, .intI w.1.symm⟩)) trivial rfl
          · rename_i he
            have he := of_decide_eq_false he
            have hzp := lt_5 hz (p_none (p := 3) hl (fun j hj => h0 j (by have hj : j < t.extras.length := hj; omega)))
            clear hz h0 hl hi
            have hz := hzp
            have hd := hx
            have hb4 : t.fixed.length ≤ 1000 := ok.fixed
            have hl : ¬ partM 4 < partN t 4 := by show ¬ 16 < t.fixed.length; have h := of_decide_eq_false hd; omega
            refine ⟨Nat, fun i => ([(1, .ptr 0 0), (2, .ptr 1 0), (4, .ptr 2 0), (18, .int .i64 i)], [.box (trfC t), .box [.int .i64 0, .int .i64 0], .box [.int .i64 0, .int .i64 0]]), fun i => i ≤ t.fixed.length ∧ ∀ j, j < i → fxdE t j = 0, fun i => t.fixed.length - i, ⟨0, ⟨Nat.zero_le _, fun _ h => by omega⟩, .le ⟨rfl, ⟨.refl _, .refl _, .refl _, trivial⟩, ⟨.refl _, .refl _, .refl _, .refl _, trivial⟩⟩⟩, fun i ⟨hi, h0⟩ => ?_⟩
            repeat' (first
              | ((with_reducible refine (?_ : Alt _ _)); first | (with_reducible apply callAlt (c137 hX t _ (Side.mk ok.zones))) | (with_reducible apply callAlt (c147 hX _)) | (with_reducible refine Alt.one ?_))
              | ((with_reducible refine (?_ : AllLe _ _)); first | (first | exact AllLe.refl _ | (repeat' (first | exact trivial | apply Le.aggs | apply Le.tups | apply Le.fns | exact Le.refl _ | refine ⟨?_, ?_⟩))))
              | ((with_reducible refine (?_ : Sc _ (AllRen _ _ _))); refine Sc.of ?_; first | (repeat' (first | exact trivial | apply Le.aggs | apply Le.tups | apply Le.fns | exact Le.refl _ | refine ⟨?_, ?_⟩)))
              | ((with_reducible refine (?_ : (List.all _ _) = true)); rfl)
              | ((with_reducible refine (?_ : (and _ _) = true)); rfl)
              | ((with_reducible refine (?_ : List.Nodup _)); exact nodupB_spec rfl)
              | ((with_reducible refine (?_ : @Eq Nat _ _)); rfl)
              | ((with_reducible refine (?_ : LeOks _ _ _)); first | exact trivial | exact ⟨.refl _, trivial⟩ | exact ⟨.refl _, .refl _, trivial⟩)
              | ((fail_if_success with_reducible refine (?_ : False)); (fail_if_success with_reducible refine (?_ : Nat)); (fail_if_success with_reducible refine (?_ : Nat → Nat → AV)); (fail_if_success with_reducible refine (?_ : Sc _ _)); (fail_if_success with_reducible refine (?_ : Side _)); (fail_if_success with_reducible refine (?_ : Exists _)); (fail_if_success with_reducible refine (?_ : Ends _ _ _ _ _ _ _)); (fail_if_success with_reducible refine (?_ : Alt _ _)); (fail_if_success with_reducible refine (?_ : Le _ _)); (fail_if_success with_reducible refine (?_ : LeAll _ _ _)); (first | with_reducible refine And.intro ?_ ?_ | with_reducible refine Cut.go ?_ | (with_reducible (refine impI ?_; intro _)) | (with_reducible refine (?_ : footOK _ _ = true); kernel_rfl) | ((with_reducible refine propI ?_); conv => whnf))))
            all_goals try (exact .of (Nat.le_of_ble_eq_true rfl))
            all_goals try (rename_i h1; have h1 := of_decide_eq_true h1; first | exact .of ⟨by omega, by omega⟩ | exact .of ⟨by omega, by omega, by omega⟩)
            all_goals try (rename_i h1 h2; have h1 := of_decide_eq_true h1; simp only [Bool.not_eq_true', Bool.not_eq_false', Int.toNat_natCast, bne_iff_ne, bne_eq_false_iff_eq, ne_eq] at h2; first | exact .of ⟨by omega, by omega⟩ | exact .of ⟨by omega, by omega, by omega⟩ | (have w := hit_out h0t hz (by decide) hl (show i < t.fixed.length by omega) h0 (fxd_6 h2) (by decide); exact .mk [] [] _ rfl (.le (.tups ⟨⟨trivial, .aggs ⟨⟨trivial, .intI w.2.1.symm⟩, .intI w.2.2.symm⟩⟩, .intI w.1.symm⟩)) trivial rfl))
            all_goals try (rename_i h1 h2 h3; have h1 := of_decide_eq_true h1; simp only [Bool.not_eq_true', Bool.not_eq_false', Int.toNat_natCast, bne_iff_ne, bne_eq_false_iff_eq, ne_eq] at h2 h3; first | exact .of ⟨by omega, by omega⟩ | exact .of ⟨by omega, by omega, by omega⟩ | (have w := hit_out h0t hz (by decide) hl (show i < t.fixed.length by omega) h0 (fxd_2 h2 h3) h3; exact .mk [] [] _ rfl (.le (.tups ⟨⟨trivial, .aggs ⟨⟨trivial, .intI w.2.1.symm⟩, .intI w.2.2.symm⟩⟩, .intI w.1.symm⟩)) trivial rfl))
            · rename_i g1 g2 g3
              have g1 := of_decide_eq_true g1
              simp only [Bool.not_eq_true', Bool.not_eq_false', Int.toNat_natCast, bne_iff_ne, bne_eq_false_iff_eq, ne_eq] at g2 g3
              refine ⟨Nat, fun k => ([(1, .ptr 0 0), (2, .ptr 1 0), (4, .ptr 2 0), (18, .int .i64 i), (19, .ptr 3 0), (20, .ptr 4 0), (22, .int .i64 k)], [.box (trfC t), .box [.int .i64 0, .int .i64 0], .box [.int .i64 0, .int .i64 0], .box [.int .i64 5, .int .i64 i], .box (fxdC (t.fixed.getD i fxd0))]), fun k => k ≤ i ∧ ∀ k', k' < k → (fun k => sameF t i k) k' = false, fun k => i - k, ⟨0, ⟨Nat.zero_le _, fun _ h => by omega⟩, .le ⟨rfl, ⟨.refl _, .refl _, .refl _, .refl _, .refl _, trivial⟩, ⟨.refl _, .refl _, .refl _, .refl _, .refl _, .refl _, .refl _, trivial⟩⟩⟩, fun k ⟨hk, k0⟩ => ?_⟩
              repeat' (first
                | ((with_reducible refine (?_ : Alt _ _)); first | (with_reducible apply callAlt (c137 hX t _ (Side.mk ok.zones))) | (with_reducible apply callAlt (c147 hX _)) | (with_reducible refine Alt.one ?_))
                | ((with_reducible refine (?_ : AllLe _ _)); first | (first | exact AllLe.refl _ | (repeat' (first | exact trivial | apply Le.aggs | apply Le.tups | apply Le.fns | exact Le.refl _ | refine ⟨?_, ?_⟩))))
                | ((with_reducible refine (?_ : Sc _ (AllRen _ _ _))); refine Sc.of ?_; first | (repeat' (first | exact trivial | apply Le.aggs | apply Le.tups | apply Le.fns | exact Le.refl _ | refine ⟨?_, ?_⟩)))
                | ((with_reducible refine (?_ : (List.all _ _) = true)); rfl)
                | ((with_reducible refine (?_ : (and _ _) = true)); rfl)
                | ((with_reducible refine (?_ : List.Nodup _)); exact nodupB_spec rfl)
                | ((with_reducible refine (?_ : @Eq Nat _ _)); rfl)
                | ((with_reducible refine (?_ : LeOks _ _ _)); first | exact trivial | exact ⟨.refl _, trivial⟩ | exact ⟨.refl _, .refl _, trivial⟩)
                | ((fail_if_success with_reducible refine (?_ : False)); (fail_if_success with_reducible refine (?_ : Nat)); (fail_if_success with_reducible refine (?_ : Nat → Nat → AV)); (fail_if_success with_reducible refine (?_ : Sc _ _)); (fail_if_success with_reducible refine (?_ : Side _)); (fail_if_success with_reducible refine (?_ : Exists _)); (fail_if_success with_reducible refine (?_ : Ends _ _ _ _ _ _ _)); (fail_if_success with_reducible refine (?_ : Alt _ _)); (fail_if_success with_reducible refine (?_ : Le _ _)); (fail_if_success with_reducible refine (?_ : LeAll _ _ _)); (first | with_reducible refine And.intro ?_ ?_ | with_reducible refine Cut.go ?_ | (with_reducible (refine impI ?_; intro _)) | (with_reducible refine (?_ : footOK _ _ = true); kernel_rfl) | ((with_reducible refine propI ?_); conv => whnf))))
              all_goals try (exact .of (Nat.le_of_ble_eq_true rfl))
              all_goals try (rename_i q1; have q1 := of_decide_eq_true q1; first | exact .of ⟨by omega, by omega⟩ | exact .of ⟨by omega, by omega, by omega⟩ | exact Sc.imp fun _ => ⟨by omega, by omega⟩)
              all_goals try (rename_i q1 q2; have q1 := of_decide_eq_true q1; simp only [Int.toNat_natCast] at q2; first | exact .of ⟨by omega, by omega⟩ | exact .of ⟨by omega, by omega, by omega⟩ | exact ⟨k + 1, ⟨by omega, all_lt k0 q2⟩, by show i - (k + 1) < i - k; omega, .le ⟨rfl, ⟨.refl _, .refl _, .refl _, .refl _, .refl _, trivial⟩, ⟨.refl _, .refl _, .refl _, .refl _, .refl _, .refl _, .refl _, trivial⟩⟩⟩ | (have w := hit_out h0t hz (by decide) hl (show i < t.fixed.length by omega) h0 (fxd_5 g2 g3 (by omega) q2) (by decide); exact .mk [] [] _ rfl (.le (.tups ⟨⟨trivial, .aggs ⟨⟨trivial, .intI w.2.1.symm⟩, .intI w.2.2.symm⟩⟩, .intI w.1.symm⟩)) trivial rfl))
              all_goals (rename_i q1; have q1 := of_decide_eq_false q1; first | exact .of ⟨by omega, by omega⟩ | exact .of ⟨by omega, by omega, by omega⟩ | exact ⟨i + 1, ⟨by omega, all_lt h0 (fxd_0 g2 g3 (fun k' hk' => k0 k' (by omega)))⟩, by show t.fixed.length - (i + 1) < t.fixed.length - i; omega, .le ⟨rfl, ⟨.refl _, .refl _, .refl _, trivial⟩, ⟨.refl _, .refl _, .refl _, .refl _, trivial⟩⟩⟩)
            all_goals (rename_i hx)
            have he := of_decide_eq_false hx
            have hzp := lt_5 hz (p_none (p := 4) hl (fun j hj => h0 j (by have hj : j < t.fixed.length := hj; omega)))
            have w := part_none h0t hzp
            exact .mk [] [] _ rfl (.le (.tups ⟨⟨trivial, .aggs ⟨⟨trivial, .intI w.2.1.symm⟩, .intI w.2.2.symm⟩⟩, .intI w.1.symm⟩)) trivial rfl

theorem c68 (t : Trf) (hs : Side (TOk t)) : Pure (Xc W0 G) 68 [trfA t] (.int .i64 (trfE t)) := by
  refine mut_of' hX (show FnIs (Xc W0 G) 68 Tryz.f68 (codeOf Tryz.f68) from ⟨by kernel_rfl, by kernel_rfl, by kernel_rfl, by kernel_rfl⟩) rfl ?_
  repeat' (first
    | ((with_reducible refine (?_ : Alt _ _)); first | (with_reducible apply callAlt (c113 hX t hs)) | (with_reducible refine Alt.one ?_))
    | ((with_reducible refine (?_ : AllLe _ _)); first | (first | exact AllLe.refl _ | (repeat' (first | exact trivial | apply Le.aggs | apply Le.tups | apply Le.fns | exact Le.refl _ | refine ⟨?_, ?_⟩))))
    | ((with_reducible refine (?_ : Sc _ (AllRen _ _ _))); refine Sc.of ?_; first | (repeat' (first | exact trivial | apply Le.aggs | apply Le.tups | apply Le.fns | exact Le.refl _ | refine ⟨?_, ?_⟩)))
    | ((with_reducible refine (?_ : (List.all _ _) = true)); rfl)
    | ((with_reducible refine (?_ : (and _ _) = true)); rfl)
    | ((with_reducible refine (?_ : List.Nodup _)); exact nodupB_spec rfl)
    | ((with_reducible refine (?_ : @Eq Nat _ _)); rfl)
    | ((with_reducible refine (?_ : LeOks _ _ _)); first | exact trivial | exact ⟨.refl _, trivial⟩ | exact ⟨.refl _, .refl _, trivial⟩)
    | ((fail_if_success with_reducible refine (?_ : False)); (fail_if_success with_reducible refine (?_ : Nat)); (fail_if_success with_reducible refine (?_ : Nat → Nat → AV)); (fail_if_success with_reducible refine (?_ : Sc _ _)); (fail_if_success with_reducible refine (?_ : Side _)); (fail_if_success with_reducible refine (?_ : Exists _)); (fail_if_success with_reducible refine (?_ : Ends _ _ _ _ _ _ _)); (fail_if_success with_reducible refine (?_ : Alt _ _)); (fail_if_success with_reducible refine (?_ : Le _ _)); (fail_if_success with_reducible refine (?_ : LeAll _ _ _)); (first | with_reducible refine And.intro ?_ ?_ | with_reducible refine Cut.go ?_ | (with_reducible (refine impI ?_; intro _)) | (with_reducible refine (?_ : footOK _ _ = true); kernel_rfl) | ((with_reducible refine propI ?_); conv => whnf))))
  all_goals first | exact .of (Nat.le_of_ble_eq_true rfl) | exact .mk [] [] _ rfl (.le (.refl _)) trivial rfl
end
end Go.Fx

/-
  Copies of tariffs; few parts.
-/
namespace Go.Fx
open Go.Proofs Go.RowKit

theorem Le.ofEq {a b : AV} (h : a = b) : Le a b := by rw [h]; exact .refl _
theorem put_same {l : List Rul} {i a j : Nat} : putF i 4 [iRow (l.getD i rul0).days] (putF i 3 [iRow (l.getD i rul0).zones] (fun i j => tbl (rulC (l.getD i rul0)) j)) a j = tbl (rulC (l.getD a rul0)) j := by
  unfold putF
  by_cases h : a = i
  · subst h
    by_cases h4 : j = 4
    · subst h4; simp [tbl, rulC]
    · by_cases h3 : j = 3
      · subst h3; simp [tbl, rulC]
      · rw [if_neg (fun q => h4 (by have := q.2; simp only [List.length_cons, List.length_nil] at this; omega)), if_neg (fun q => h3 (by have := q.2; simp only [List.length_cons, List.length_nil] at this; omega))]
  · simp [h]
def manyB (n few most : Int) : Bool := bif (bif decide (few < n) then decide (n ≤ most) else false) then true else decide (most + 2 < n)
theorem many_no {n few most : Int} (h : manyB n few most = false) (h1 : few ≤ most + 2) : n ≤ most + 2 := by
  unfold manyB at h
  by_cases q : most + 2 < n
  · simp [q] at h
  · omega
def fewH (t : Trf) : Bool := bif (bif (bif (bif (bif decide (20 < (t.name.size : Int)) then true else manyB t.zones.length 3 6) then true else manyB t.hol.length 5 20) then true else manyB t.rules.length 4 12) then true else manyB t.extras.length 3 6) then true else manyB t.fixed.length 5 16
def fewZ (t : Trf) (i : Nat) : Bool := decide (20 < ((t.zones.getD i bs0).size : Int))
def fewR (t : Trf) (i : Nat) : Bool := bif (bif decide (20 < ((t.rules.getD i rul0).name.size : Int)) then true else decide (8 < ((t.rules.getD i rul0).zones.length : Int))) then true else decide (10 < ((t.rules.getD i rul0).days.length : Int))
def fewX (t : Trf) (i : Nat) : Bool := decide (20 < ((t.extras.getD i ext0).name.size : Int))
@[irreducible] def fewB (t : Trf) : Bool := bif fewH t then false else bif (List.range t.zones.length).any (fewZ t) then false else bif (List.range t.rules.length).any (fewR t) then false else !(List.range t.extras.length).any (fewX t)
theorem fewH_no {t : Trf} (h : fewH t = false) : t.name.size ≤ 20 ∧ t.zones.length ≤ 8 ∧ t.hol.length ≤ 22 ∧ t.rules.length ≤ 14 ∧ t.extras.length ≤ 8 ∧ t.fixed.length ≤ 18 := by
  unfold fewH at h
  cases a0 : decide (20 < (t.name.size : Int)) <;> cases a1 : manyB t.zones.length 3 6 <;> cases a2 : manyB t.hol.length 5 20 <;> cases a3 : manyB t.rules.length 4 12 <;> cases a4 : manyB t.extras.length 3 6 <;> cases a5 : manyB t.fixed.length 5 16 <;> simp [a0, a1, a2, a3, a4, a5] at h
  have b0 := of_decide_eq_false a0
  have b1 := many_no a1 (by decide); have b2 := many_no a2 (by decide); have b3 := many_no a3 (by decide); have b4 := many_no a4 (by decide); have b5 := many_no a5 (by decide)
  exact ⟨by omega, by omega, by omega, by omega, by omega, by omega⟩
theorem any_no {p : Nat → Bool} {n : Nat} (h : (List.range n).any p = false) {j : Nat} (hj : j < n) : p j = false := by
  rw [List.any_eq_false] at h
  have := h j (List.mem_range.2 hj)
  simpa using this
theorem few_1 {t : Trf} (h : fewH t = true) : fewB t = false := by unfold fewB; rw [h]; rfl
theorem few_2 {t : Trf} {i : Nat} (h : fewH t = false) (hi : i < t.zones.length) (h2 : fewZ t i = true) : fewB t = false := by unfold fewB; rw [h, any_hit hi h2]; rfl
theorem few_3 {t : Trf} {i : Nat} (h : fewH t = false) (h1 : ∀ j, j < t.zones.length → fewZ t j = false) (hi : i < t.rules.length) (h2 : fewR t i = true) : fewB t = false := by unfold fewB; rw [h, any_none h1, any_hit hi h2]; rfl
theorem few_4 {t : Trf} {i : Nat} (h : fewH t = false) (h1 : ∀ j, j < t.zones.length → fewZ t j = false) (h2 : ∀ j, j < t.rules.length → fewR t j = false) (hi : i < t.extras.length) (h3 : fewX t i = true) : fewB t = false := by unfold fewB; rw [h, any_none h1, any_none h2, any_hit hi h3]; rfl
theorem few_5 {t : Trf} (h : fewH t = false) (h1 : ∀ j, j < t.zones.length → fewZ t j = false) (h2 : ∀ j, j < t.rules.length → fewR t j = false) (h3 : ∀ j, j < t.extras.length → fewX t j = false) : fewB t = true := by unfold fewB; rw [h, any_none h1, any_none h2, any_none h3]; rfl
theorem getD_out {α : Type} {l : List α} {i : Nat} {d : α} (h : l.length ≤ i) : l.getD i d = d := by rw [List.getD_eq_getElem?_getD, List.getElem?_eq_none h]; rfl
theorem few_ok {t : Trf} (h : fewB t = true) : TOk t ∧ t.rules.length ≤ 14 ∧ t.extras.length ≤ 8 ∧ t.zones.length ≤ 8 := by
  unfold fewB at h
  cases a0 : fewH t <;> rw [a0] at h <;> simp only [cond_true, cond_false] at h <;> first | (cases h; done) | skip
  obtain ⟨b0, b1, b2, b3, b4, b5⟩ := fewH_no a0
  cases a1 : (List.range t.zones.length).any (fewZ t) <;> rw [a1] at h <;> simp only [cond_true, cond_false] at h <;> first | (cases h; done) | skip
  cases a2 : (List.range t.rules.length).any (fewR t) <;> rw [a2] at h <;> simp only [cond_true, cond_false] at h <;> first | (cases h; done) | skip
  have a3 : (List.range t.extras.length).any (fewX t) = false := by simpa using h
  have hr : ∀ j, (t.rules.getD j rul0).name.size ≤ 1000 ∧ (t.rules.getD j rul0).zones.length ≤ 1000 ∧ (t.rules.getD j rul0).days.length ≤ 1000 := fun j => by
    rcases Nat.lt_or_ge j t.rules.length with hj | hj
    · have := any_no a2 hj
      unfold fewR at this
      cases c0 : decide (20 < ((t.rules.getD j rul0).name.size : Int)) <;> cases c1 : decide (8 < ((t.rules.getD j rul0).zones.length : Int)) <;> cases c2 : decide (10 < ((t.rules.getD j rul0).days.length : Int)) <;> rw [c0, c1, c2] at this <;> first | (cases this; done) | skip
      have := of_decide_eq_false c0; have := of_decide_eq_false c1; have := of_decide_eq_false c2
      exact ⟨by omega, by omega, by omega⟩
    · rw [getD_out hj]; decide
  refine ⟨⟨by omega, by omega, by omega, by omega, by omega, by omega, fun j => ?_, fun j => (hr j).1, fun j => (hr j).2.1, fun j => (hr j).2.2, fun j => ?_⟩, b3, b4, b1⟩
  · rcases Nat.lt_or_ge j t.zones.length with hj | hj
    · have := of_decide_eq_false (any_no a1 hj); omega
    · rw [getD_out hj]; decide
  · rcases Nat.lt_or_ge j t.extras.length with hj | hj
    · have := of_decide_eq_false (any_no a3 hj); omega
    · rw [getD_out hj]; decide
section
variable {W0 : World} {G : Nat → Option AV} (hX : (Xc W0 G).Good)
include hX
theorem c45 (n few most : Int) (hs : Side (0 ≤ most ∧ most ≤ 1000)) : Pure (Xc W0 G) 45 [.int .i64 n, .int .i64 few, .int .i64 most] (.bool (manyB n few most)) := by
  have hs := hs.get
  refine mut_of' hX (show FnIs (Xc W0 G) 45 Tryz.f45 (codeOf Tryz.f45) from ⟨by kernel_rfl, by kernel_rfl, by kernel_rfl, by kernel_rfl⟩) rfl ?_
  repeat' (first
    | ((with_reducible refine (?_ : Alt _ _)); first | fail | (with_reducible refine Alt.one ?_))
    | ((with_reducible refine (?_ : AllLe _ _)); first | (first | exact AllLe.refl _ | (repeat' (first | exact trivial | apply Le.aggs | apply Le.tups | apply Le.fns | exact Le.refl _ | refine ⟨?_, ?_⟩))))
    | ((with_reducible refine (?_ : Sc _ (AllRen _ _ _))); refine Sc.of ?_; first | (repeat' (first | exact trivial | apply Le.aggs | apply Le.tups | apply Le.fns | exact Le.refl _ | refine ⟨?_, ?_⟩)))
    | ((with_reducible refine (?_ : (List.all _ _) = true)); rfl)
    | ((with_reducible refine (?_ : (and _ _) = true)); rfl)
    | ((with_reducible refine (?_ : List.Nodup _)); exact nodupB_spec rfl)
    | ((with_reducible refine (?_ : @Eq Nat _ _)); rfl)
    | ((with_reducible refine (?_ : LeOks _ _ _)); first | exact trivial | exact ⟨.refl _, trivial⟩ | exact ⟨.refl _, .refl _, trivial⟩)
    | ((fail_if_success with_reducible refine (?_ : False)); (fail_if_success with_reducible refine (?_ : Nat)); (fail_if_success with_reducible refine (?_ : Nat → Nat → AV)); (fail_if_success with_reducible refine (?_ : Sc _ _)); (fail_if_success with_reducible refine (?_ : Side _)); (fail_if_success with_reducible refine (?_ : Exists _)); (fail_if_success with_reducible refine (?_ : Ends _ _ _ _ _ _ _)); (fail_if_success with_reducible refine (?_ : Alt _ _)); (fail_if_success with_reducible refine (?_ : Le _ _)); (fail_if_success with_reducible refine (?_ : LeAll _ _ _)); (first | with_reducible refine And.intro ?_ ?_ | with_reducible refine Cut.go ?_ | (with_reducible (refine impI ?_; intro _)) | (with_reducible refine (?_ : footOK _ _ = true); kernel_rfl) | ((with_reducible refine propI ?_); conv => whnf))))
  all_goals try (exact .of (Nat.le_of_ble_eq_true rfl))
  all_goals first | exact .of ⟨by omega, by omega⟩ | exact .mk [] [] _ rfl (.le (.refl _)) trivial rfl
set_option maxHeartbeats 1000000 in
theorem c11 (t : Trf) : Pure (Xc W0 G) 11 [trfA t] (.bool (fewB t)) := by
  refine mut_of' hX (show FnIs (Xc W0 G) 11 Tryz.f11 (codeOf Tryz.f11) from ⟨by kernel_rfl, by kernel_rfl, by kernel_rfl, by kernel_rfl⟩) rfl ?_
  repeat' (first
    | ((with_reducible refine (?_ : Alt _ _)); first | (with_reducible apply callAlt (c45 hX _ _ _ ?_)) | (with_reducible refine Alt.one ?_))
    | ((with_reducible refine (?_ : AllLe _ _)); first | (first | exact AllLe.refl _ | (repeat' (first | exact trivial | apply Le.aggs | apply Le.tups | apply Le.fns | exact Le.refl _ | refine ⟨?_, ?_⟩))))
    | ((with_reducible refine (?_ : Sc _ (AllRen _ _ _))); refine Sc.of ?_; first | (repeat' (first | exact trivial | apply Le.aggs | apply Le.tups | apply Le.fns | exact Le.refl _ | refine ⟨?_, ?_⟩)))
    | ((with_reducible refine (?_ : (List.all _ _) = true)); rfl)
    | ((with_reducible refine (?_ : (and _ _) = true)); rfl)
    | ((with_reducible refine (?_ : List.Nodup _)); exact nodupB_spec rfl)
    | ((with_reducible refine (?_ : @Eq Nat _ _)); rfl)
    | ((with_reducible refine (?_ : LeOks _ _ _)); first | exact trivial | exact ⟨.refl _, trivial⟩ | exact ⟨.refl _, .refl _, trivial⟩)
    | ((fail_if_success with_reducible refine (?_ : False)); (fail_if_success with_reducible refine (?_ : Nat)); (fail_if_success with_reducible refine (?_ : Nat → Nat → AV)); (fail_if_success with_reducible refine (?_ : Sc _ _)); (fail_if_success with_reducible refine (?_ : Side _)); (fail_if_success with_reducible refine (?_ : Exists _)); (fail_if_success with_reducible refine (?_ : Ends _ _ _ _ _ _ _)); (fail_if_success with_reducible refine (?_ : Alt _ _)); (fail_if_success with_reducible refine (?_ : Le _ _)); (fail_if_success with_reducible refine (?_ : LeAll _ _ _)); (first | with_reducible refine And.intro ?_ ?_ | with_reducible refine Cut.go ?_ | (with_reducible (refine impI ?_; intro _)) | (with_reducible refine (?_ : footOK _ _ = true); kernel_rfl) | ((with_reducible refine propI ?_); conv => whnf))))
  all_goals try (exact .of (Nat.le_of_ble_eq_true rfl))
  all_goals try (exact Side.mk (by decide))
  · rename_i h; exact .mk [] [] _ rfl (.le (.boolT ((few_1 h).symm))) trivial rfl
  · rename_i h
    have hh : fewH t = false := h
    obtain ⟨b0, b1, b2, b3, b4, b5⟩ := fewH_no hh
    refine ⟨Nat, fun i => ([(1, .ptr 0 0), (3, .int .i64 i)], [.box (trfC t)]), fun i => i ≤ t.zones.length ∧ ∀ j, j < i → fewZ t j = false, fun i => t.zones.length - i, ⟨0, ⟨Nat.zero_le _, fun _ h => by omega⟩, .le ⟨rfl, ⟨.refl _, trivial⟩, ⟨.refl _, .refl _, trivial⟩⟩⟩, fun i ⟨hi, h0⟩ => ?_⟩
    repeat' (first
      | ((with_reducible refine (?_ : Alt _ _)); first | fail | (with_reducible refine Alt.one ?_))
      | ((with_reducible refine (?_ : AllLe _ _)); first | (first | exact AllLe.refl _ | (repeat' (first | exact trivial | apply Le.aggs | apply Le.tups | apply Le.fns | exact Le.refl _ | refine ⟨?_, ?_⟩))))
      | ((with_reducible refine (?_ : Sc _ (AllRen _ _ _))); refine Sc.of ?_; first | (repeat' (first | exact trivial | apply Le.aggs | apply Le.tups | apply Le.fns | exact Le.refl _ | refine ⟨?_, ?_⟩)))
      | ((with_reducible refine (?_ : (List.all _ _) = true)); rfl)
      | ((with_reducible refine (?_ : (and _ _) = true)); rfl)
      | ((with_reducible refine (?_ : List.Nodup _)); exact nodupB_spec rfl)
      | ((with_reducible refine (?_ : @Eq Nat _ _)); rfl)
      | ((with_reducible refine (?_ : LeOks _ _ _)); first | exact trivial | exact ⟨.refl _, trivial⟩ | exact ⟨.refl _, .refl _, trivial⟩)
      | ((fail_if_success with_reducible refine (?_ : False)); (fail_if_success with_reducible refine (?_ : Nat)); (fail_if_success with_reducible refine (?_ : Nat → Nat → AV)); (fail_if_success with_reducible refine (?_ : Sc _ _)); (fail_if_success with_reducible refine (?_ : Side _)); (fail_if_success with_reducible refine (?_ : Exists _)); (fail_if_success with_reducible refine (?_ : Ends _ _ _ _ _ _ _)); (fail_if_success with_reducible refine (?_ : Alt _ _)); (fail_if_success with_reducible refine (?_ : Le _ _)); (fail_if_success with_reducible refine (?_ : LeAll _ _ _)); (first | with_reducible refine And.intro ?_ ?_ | with_reducible refine Cut.go ?_ | (with_reducible (refine impI ?_; intro _)) | (with_reducible refine (?_ : footOK _ _ = true); kernel_rfl) | ((with_reducible refine propI ?_); conv => whnf))))
    all_goals try (exact .of (Nat.le_of_ble_eq_true rfl))
    all_goals try (rename_i q1; have q1 := of_decide_eq_true q1; first | exact .of ⟨by omega, by omega⟩ | exact Sc.imp fun _ => ⟨by omega, by omega⟩)
    all_goals try (rename_i q1 q2; have q1 := of_decide_eq_true q1; simp only [Int.toNat_natCast] at q2; first | exact .of ⟨by omega, by omega⟩ | exact ⟨i + 1, ⟨by omega, all_lt h0 q2⟩, by show t.zones.length - (i + 1) < t.zones.length - i; omega, .le ⟨rfl, ⟨.refl _, trivial⟩, ⟨.refl _, .refl _, trivial⟩⟩⟩ | (exact .mk [] [] _ rfl (.le (.boolT ((few_2 hh (by omega) q2).symm))) trivial rfl))
    rename_i he
    have he := of_decide_eq_false he
    have z1 : ∀ j, j < t.zones.length → fewZ t j = false := fun j hj => h0 j (by omega)
    clear h0 hi he
    refine ⟨Nat, fun i => ([(1, .ptr 0 0), (4, .int .i64 i)], [.box (trfC t)]), fun i => i ≤ t.rules.length ∧ ∀ j, j < i → fewR t j = false, fun i => t.rules.length - i, ⟨0, ⟨Nat.zero_le _, fun _ h => by omega⟩, .le ⟨rfl, ⟨.refl _, trivial⟩, ⟨.refl _, .refl _, trivial⟩⟩⟩, fun i ⟨hi, h0⟩ => ?_⟩
    repeat' (first
      | ((with_reducible refine (?_ : Alt _ _)); first | fail | (with_reducible refine Alt.one ?_))
      | ((with_reducible refine (?_ : AllLe _ _)); first | (first | exact AllLe.refl _ | (repeat' (first | exact trivial | apply Le.aggs | apply Le.tups | apply Le.fns | exact Le.refl _ | refine ⟨?_, ?_⟩))))
      | ((with_reducible refine (?_ : Sc _ (AllRen _ _ _))); refine Sc.of ?_; first | (repeat' (first | exact trivial | apply Le.aggs | apply Le.tups | apply Le.fns | exact Le.refl _ | refine ⟨?_, ?_⟩)))
      | ((with_reducible refine (?_ : (List.all _ _) = true)); rfl)
      | ((with_reducible refine (?_ : (and _ _) = true)); rfl)
      | ((with_reducible refine (?_ : List.Nodup _)); exact nodupB_spec rfl)
      | ((with_reducible refine (?_ : @Eq Nat _ _)); rfl)
      | ((with_reducible refine (?_ : LeOks _ _ _)); first | exact trivial | exact ⟨.refl _, trivial⟩ | exact ⟨.refl _, .refl _, trivial⟩)
      | ((fail_if_success with_reducible refine (?_ : False)); (fail_if_success with_reducible refine (?_ : Nat)); (fail_if_success with_reducible refine (?_ : Nat → Nat → AV)); (fail_if_success with_reducible refine (?_ : Sc _ _)); (fail_if_success with_reducible refine (?_ : Side _)); (fail_if_success with_reducible refine (?_ : Exists _)); (fail_if_success with_reducible refine (?_ : Ends _ _ _ _ _ _ _)); (fail_if_success with_reducible refine (?_ : Alt _ _)); (fail_if_success with_reducible refine (?_ : Le _ _)); (fail_if_success with_reducible refine (?_ : LeAll _ _ _)); (first | with_reducible refine And.intro ?_ ?_ | with_reducible refine Cut.go ?_ | (with_reducible (refine impI ?_; intro _)) | (with_reducible refine (?_ : footOK _ _ = true); kernel_rfl) | ((with_reducible refine propI ?_); conv => whnf))))
    all_goals try (exact .of (Nat.le_of_ble_eq_true rfl))
    all_goals try (rename_i q1; have q1 := of_decide_eq_true q1; first | exact .of ⟨by omega, by omega⟩ | exact Sc.imp fun _ => ⟨by omega, by omega⟩)
    all_goals try (rename_i q1 q2; have q1 := of_decide_eq_true q1; simp only [Int.toNat_natCast] at q2; first | exact .of ⟨by omega, by omega⟩ | exact ⟨i + 1, ⟨by omega, all_lt h0 q2⟩, by show t.rules.length - (i + 1) < t.rules.length - i; omega, .le ⟨rfl, ⟨.refl _, trivial⟩, ⟨.refl _, .refl _, trivial⟩⟩⟩ | (exact .mk [] [] _ rfl (.le (.boolT ((few_3 hh z1 (by omega) q2).symm))) trivial rfl))
    rename_i he
    have he := of_decide_eq_false he
    have z2 : ∀ j, j < t.rules.length → fewR t j = false := fun j hj => h0 j (by omega)
    clear h0 hi he
    refine ⟨Nat, fun i => ([(1, .ptr 0 0), (5, .int .i64 i)], [.box (trfC t)]), fun i => i ≤ t.extras.length ∧ ∀ j, j < i → fewX t j = false, fun i => t.extras.length - i, ⟨0, ⟨Nat.zero_le _, fun _ h => by omega⟩, .le ⟨rfl, ⟨.refl _, trivial⟩, ⟨.refl _, .refl _, trivial⟩⟩⟩, fun i ⟨hi, h0⟩ => ?_⟩
    repeat' (first
      | ((with_reducible refine (?_ : Alt _ _)); first | fail | (with_reducible refine Alt.one ?_))
      | ((with_reducible refine (?_ : AllLe _ _)); first | (first | exact AllLe.refl _ | (repeat' (first | exact trivial | apply Le.aggs | apply Le.tups | apply Le.fns | exact Le.refl _ | refine ⟨?_, ?_⟩))))
      | ((with_reducible refine (?_ : Sc _ (AllRen _ _ _))); refine Sc.of ?_; first | (repeat' (first | exact trivial | apply Le.aggs | apply Le.tups | apply Le.fns | exact Le.refl _ | refine ⟨?_, ?_⟩)))
      | ((with_reducible refine (?_ : (List.all _ _) = true)); rfl)
      | ((with_reducible refine (?_ : (and _ _) = true)); rfl)
      | ((with_reducible refine (?_ : List.Nodup _)); exact nodupB_spec rfl)
      | ((with_reducible refine (?_ : @Eq Nat _ _)); rfl)
      | ((with_reducible refine (?_ : LeOks _ _ _)); first | exact trivial | exact ⟨.refl _, trivial⟩ | exact ⟨.refl _, .refl _, trivial⟩)
      | ((fail_if_success with_reducible refine (?_ : False)); (fail_if_success with_reducible refine (?_ : Nat)); (fail_if_success with_reducible refine (?_ : Nat → Nat → AV)); (fail_if_success with_reducible refine (?_ : Sc _ _)); (fail_if_success with_reducible refine (?_ : Side _)); (fail_if_success with_reducible refine (?_ : Exists _)); (fail_if_success with_reducible refine (?_ : Ends _ _ _ _ _ _ _)); (fail_if_success with_reducible refine (?_ : Alt _ _)); (fail_if_success with_reducible refine (?_ : Le _ _)); (fail_if_success with_reducible refine (?_ : LeAll _ _ _)); (first | with_reducible refine And.intro ?_ ?_ | with_reducible refine Cut.go ?_ | (with_reducible (refine impI ?_; intro _)) | (with_reducible refine (?_ : footOK _ _ = true); kernel_rfl) | ((with_reducible refine propI ?_); conv => whnf))))
    all_goals try (exact .of (Nat.le_of_ble_eq_true rfl))
    all_goals try (rename_i q1; have q1 := of_decide_eq_true q1; first | exact .of ⟨by omega, by omega⟩ | exact Sc.imp fun _ => ⟨by omega, by omega⟩)
    all_goals try (rename_i q1 q2; have q1 := of_decide_eq_true q1; simp only [Int.toNat_natCast] at q2; first | exact .of ⟨by omega, by omega⟩ | exact ⟨i + 1, ⟨by omega, all_lt h0 q2⟩, by show t.extras.length - (i + 1) < t.extras.length - i; omega, .le ⟨rfl, ⟨.refl _, trivial⟩, ⟨.refl _, .refl _, trivial⟩⟩⟩ | (exact .mk [] [] _ rfl (.le (.boolT ((few_4 hh z1 z2 (by omega) q2).symm))) trivial rfl))
    rename_i he
    have he := of_decide_eq_false he
    have z3 : ∀ j, j < t.extras.length → fewX t j = false := fun j hj => h0 j (by omega)
    clear h0 hi he
    exact .mk [] [] _ rfl (.le (.boolT ((few_5 hh z1 z2 z3).symm))) trivial rfl
theorem c54 (l : List Int) (hs : Side (l.length ≤ 1000)) : Pure (Xc W0 G) 54 [iRow l] (iRow l) := by
  have hs := hs.get
  refine mut_of' hX (show FnIs (Xc W0 G) 54 Tryz.f54 (codeOf Tryz.f54) from ⟨by kernel_rfl, by kernel_rfl, by kernel_rfl, by kernel_rfl⟩) rfl ?_
  repeat' (first
    | ((with_reducible refine (?_ : Alt _ _)); first | fail | (with_reducible refine Alt.one ?_))
    | ((with_reducible refine (?_ : AllLe _ _)); first | (first | exact AllLe.refl _ | (repeat' (first | exact trivial | apply Le.aggs | apply Le.tups | apply Le.fns | exact Le.refl _ | refine ⟨?_, ?_⟩))))
    | ((with_reducible refine (?_ : Sc _ (AllRen _ _ _))); refine Sc.of ?_; first | (repeat' (first | exact trivial | apply Le.aggs | apply Le.tups | apply Le.fns | exact Le.refl _ | refine ⟨?_, ?_⟩)))
    | ((with_reducible refine (?_ : (List.all _ _) = true)); rfl)
    | ((with_reducible refine (?_ : (and _ _) = true)); rfl)
    | ((with_reducible refine (?_ : List.Nodup _)); exact nodupB_spec rfl)
    | ((with_reducible refine (?_ : @Eq Nat _ _)); rfl)
    | ((with_reducible refine (?_ : LeOks _ _ _)); first | exact trivial | exact ⟨.refl _, trivial⟩ | exact ⟨.refl _, .refl _, trivial⟩)
    | ((fail_if_success with_reducible refine (?_ : False)); (fail_if_success with_reducible refine (?_ : Nat)); (fail_if_success with_reducible refine (?_ : Nat → Nat → AV)); (fail_if_success with_reducible refine (?_ : Sc _ _)); (fail_if_success with_reducible refine (?_ : Side _)); (fail_if_success with_reducible refine (?_ : Exists _)); (fail_if_success with_reducible refine (?_ : Ends _ _ _ _ _ _ _)); (fail_if_success with_reducible refine (?_ : Alt _ _)); (fail_if_success with_reducible refine (?_ : Le _ _)); (fail_if_success with_reducible refine (?_ : LeAll _ _ _)); (first | with_reducible refine And.intro ?_ ?_ | with_reducible refine Cut.go ?_ | (with_reducible (refine impI ?_; intro _)) | (with_reducible refine (?_ : footOK _ _ = true); kernel_rfl) | ((with_reducible refine propI ?_); conv => whnf))))
  all_goals try (exact .of (Nat.le_of_ble_eq_true rfl))
  all_goals first
    | (refine Sc.of ⟨?_, by omega⟩; show l.length * 8 ≤ 140737488355328; omega)
    | exact .mk [] [0] _ rfl (.own rfl fun _ _ _ _ => .refl _) trivial rfl
theorem c53 (l : List ByteArray) (hs : Side (l.length ≤ 1000)) : Pure (Xc W0 G) 53 [sRow l] (sRow l) := by
  have hs := hs.get
  refine mut_of' hX (show FnIs (Xc W0 G) 53 Tryz.f53 (codeOf Tryz.f53) from ⟨by kernel_rfl, by kernel_rfl, by kernel_rfl, by kernel_rfl⟩) rfl ?_
  repeat' (first
    | ((with_reducible refine (?_ : Alt _ _)); first | fail | (with_reducible refine Alt.one ?_))
    | ((with_reducible refine (?_ : AllLe _ _)); first | (first | exact AllLe.refl _ | (repeat' (first | exact trivial | apply Le.aggs | apply Le.tups | apply Le.fns | exact Le.refl _ | refine ⟨?_, ?_⟩))))
    | ((with_reducible refine (?_ : Sc _ (AllRen _ _ _))); refine Sc.of ?_; first | (repeat' (first | exact trivial | apply Le.aggs | apply Le.tups | apply Le.fns | exact Le.refl _ | refine ⟨?_, ?_⟩)))
    | ((with_reducible refine (?_ : (List.all _ _) = true)); rfl)
    | ((with_reducible refine (?_ : (and _ _) = true)); rfl)
    | ((with_reducible refine (?_ : List.Nodup _)); exact nodupB_spec rfl)
    | ((with_reducible refine (?_ : @Eq Nat _ _)); rfl)
    | ((with_reducible refine (?_ : LeOks _ _ _)); first | exact trivial | exact ⟨.refl _, trivial⟩ | exact ⟨.refl _, .refl _, trivial⟩)
    | ((fail_if_success with_reducible refine (?_ : False)); (fail_if_success with_reducible refine (?_ : Nat)); (fail_if_success with_reducible refine (?_ : Nat → Nat → AV)); (fail_if_success with_reducible refine (?_ : Sc _ _)); (fail_if_success with_reducible refine (?_ : Side _)); (fail_if_success with_reducible refine (?_ : Exists _)); (fail_if_success with_reducible refine (?_ : Ends _ _ _ _ _ _ _)); (fail_if_success with_reducible refine (?_ : Alt _ _)); (fail_if_success with_reducible refine (?_ : Le _ _)); (fail_if_success with_reducible refine (?_ : LeAll _ _ _)); (first | with_reducible refine And.intro ?_ ?_ | with_reducible refine Cut.go ?_ | (with_reducible (refine impI ?_; intro _)) | (with_reducible refine (?_ : footOK _ _ = true); kernel_rfl) | ((with_reducible refine propI ?_); conv => whnf))))
  all_goals try (exact .of (Nat.le_of_ble_eq_true rfl))
  all_goals first
    | (refine Sc.of ⟨?_, by omega⟩; show l.length * 16 ≤ 140737488355328; omega)
    | exact .mk [] [0] _ rfl (.own rfl fun _ _ _ _ => .refl _) trivial rfl
theorem c16 (t : Trf) (hs : Side (TOk t)) : Pure (Xc W0 G) 16 [trfA t] (trfA t) := by
  have ok := hs.get
  have k1 := ok.zones
  have k2 := ok.hol
  have k3 := ok.rules
  have k4 := ok.extras
  have k5 := ok.fixed
  refine mut_of' hX (show FnIs (Xc W0 G) 16 Tryz.f16 (codeOf Tryz.f16) from ⟨by kernel_rfl, by kernel_rfl, by kernel_rfl, by kernel_rfl⟩) rfl ?_
  repeat' (first
    | ((with_reducible refine (?_ : Alt _ _)); first | (with_reducible apply callAlt (c53 hX t.zones ?_)) | ((with_reducible apply callAlt (c54 hX t.hol ?_)); case hl => (first | exact AllLe.refl _ | ((repeat' (first | exact trivial | apply Le.aggs | apply Le.tups | apply Le.fns | exact Le.refl _ | refine ⟨?_, ?_⟩)); done))) | (with_reducible refine Alt.one ?_))
    | ((with_reducible refine (?_ : AllLe _ _)); first | (first | exact AllLe.refl _ | (repeat' (first | exact trivial | apply Le.aggs | apply Le.tups | apply Le.fns | exact Le.refl _ | refine ⟨?_, ?_⟩))))
    | ((with_reducible refine (?_ : Sc _ (AllRen _ _ _))); refine Sc.of ?_; first | (repeat' (first | exact trivial | apply Le.aggs | apply Le.tups | apply Le.fns | exact Le.refl _ | refine ⟨?_, ?_⟩)))
    | ((with_reducible refine (?_ : (List.all _ _) = true)); rfl)
    | ((with_reducible refine (?_ : (and _ _) = true)); rfl)
    | ((with_reducible refine (?_ : List.Nodup _)); exact nodupB_spec rfl)
    | ((with_reducible refine (?_ : @Eq Nat _ _)); rfl)
    | ((with_reducible refine (?_ : LeOks _ _ _)); first | exact trivial | exact ⟨.refl _, trivial⟩ | exact ⟨.refl _, .refl _, trivial⟩)
    | ((fail_if_success with_reducible refine (?_ : False)); (fail_if_success with_reducible refine (?_ : Nat)); (fail_if_success with_reducible refine (?_ : Nat → Nat → AV)); (fail_if_success with_reducible refine (?_ : Sc _ _)); (fail_if_success with_reducible refine (?_ : Side _)); (fail_if_success with_reducible refine (?_ : Exists _)); (fail_if_success with_reducible refine (?_ : Ends _ _ _ _ _ _ _)); (fail_if_success with_reducible refine (?_ : Alt _ _)); (fail_if_success with_reducible refine (?_ : Le _ _)); (fail_if_success with_reducible refine (?_ : LeAll _ _ _)); (first | with_reducible refine And.intro ?_ ?_ | with_reducible refine Cut.go ?_ | (with_reducible (refine impI ?_; intro _)) | (with_reducible refine (?_ : footOK _ _ = true); kernel_rfl) | ((with_reducible refine propI ?_); conv => whnf))))
  all_goals try (exact .of (Nat.le_of_ble_eq_true rfl))
  all_goals try (exact Side.mk (by omega))
  all_goals try (refine Sc.of ⟨?_, by omega⟩; show t.rules.length * 120 ≤ 140737488355328; omega)
  refine ⟨Nat, fun i => ([(1, .ptr 0 0), (2, .ptr 1 0), (3, .int .i64 i)], [.box [.str t.name, .int .i64 t.unit, .int .i64 t.step, sRow t.zones, iRow t.hol, .own 2 1, extS t.extras, fxdS t.fixed], .box [.str bs0, .int .i64 0, .int .i64 0, .slc0, .slc0, .slc0, .slc0, .slc0], .list 106 10 t.rules.length (fun i j => tbl (rulC (t.rules.getD i rul0)) j) 1]), fun i => i ≤ t.rules.length, fun i => t.rules.length - i, ⟨0, Nat.zero_le _, .le ⟨rfl, ⟨.refl _, .refl _, .refl _, trivial⟩, ⟨.refl _, .refl _, .refl _, trivial⟩⟩⟩, fun i hi => ?_⟩
  repeat' (first
    | ((with_reducible refine (?_ : Alt _ _)); first | ((with_reducible apply callAlt (c54 hX (t.rules.getD i rul0).zones (Side.mk (ok.rzones i)))); case hl => (first | exact AllLe.refl _ | ((repeat' (first | exact trivial | apply Le.aggs | apply Le.tups | apply Le.fns | exact Le.refl _ | refine ⟨?_, ?_⟩)); done))) | ((with_reducible apply callAlt (c54 hX (t.rules.getD i rul0).days (Side.mk (ok.rdays i)))); case hl => (first | exact AllLe.refl _ | ((repeat' (first | exact trivial | apply Le.aggs | apply Le.tups | apply Le.fns | exact Le.refl _ | refine ⟨?_, ?_⟩)); done))) | (with_reducible refine Alt.one ?_))
    | ((with_reducible refine (?_ : AllLe _ _)); first | (first | exact AllLe.refl _ | (repeat' (first | exact trivial | apply Le.aggs | apply Le.tups | apply Le.fns | exact Le.refl _ | refine ⟨?_, ?_⟩))))
    | ((with_reducible refine (?_ : Sc _ (AllRen _ _ _))); refine Sc.of ?_; first | (repeat' (first | exact trivial | apply Le.aggs | apply Le.tups | apply Le.fns | exact Le.refl _ | refine ⟨?_, ?_⟩)))
    | ((with_reducible refine (?_ : (List.all _ _) = true)); rfl)
    | ((with_reducible refine (?_ : (and _ _) = true)); rfl)
    | ((with_reducible refine (?_ : List.Nodup _)); exact nodupB_spec rfl)
    | ((with_reducible refine (?_ : @Eq Nat _ _)); rfl)
    | ((with_reducible refine (?_ : LeOks _ _ _)); first | exact trivial | exact ⟨.refl _, trivial⟩ | exact ⟨.refl _, .refl _, trivial⟩)
    | ((fail_if_success with_reducible refine (?_ : False)); (fail_if_success with_reducible refine (?_ : Nat)); (fail_if_success with_reducible refine (?_ : Nat → Nat → AV)); (fail_if_success with_reducible refine (?_ : Sc _ _)); (fail_if_success with_reducible refine (?_ : Side _)); (fail_if_success with_reducible refine (?_ : Exists _)); (fail_if_success with_reducible refine (?_ : Ends _ _ _ _ _ _ _)); (fail_if_success with_reducible refine (?_ : Alt _ _)); (fail_if_success with_reducible refine (?_ : Le _ _)); (fail_if_success with_reducible refine (?_ : LeAll _ _ _)); (first | with_reducible refine And.intro ?_ ?_ | with_reducible refine Cut.go ?_ | (with_reducible (refine impI ?_; intro _)) | (with_reducible refine (?_ : footOK _ _ = true); kernel_rfl) | ((with_reducible refine propI ?_); conv => whnf))))
  all_goals try (exact .of (Nat.le_of_ble_eq_true rfl))
  all_goals (rename_i h)
  · have h := of_decide_eq_true h; exact .of ⟨by omega, by omega⟩
  · have h := of_decide_eq_true h; exact .of (by omega)
  · have h := of_decide_eq_true h; exact .of ⟨by omega, by omega⟩
  · have h := of_decide_eq_true h; exact .of (by omega)
  · have h := of_decide_eq_true h; exact .of ⟨by omega, by omega⟩
  · have h := of_decide_eq_true h; exact .of (by omega)
  · have h := of_decide_eq_true h; exact .of ⟨by omega, by omega⟩
  · have h := of_decide_eq_true h; exact .of (by omega)
  · exact .of ⟨by omega, by omega⟩
  · have h := of_decide_eq_true h
    refine ⟨i + 1, (by show i + 1 ≤ t.rules.length; omega), by show t.rules.length - (i + 1) < t.rules.length - i; omega, .le ⟨rfl, ⟨.refl _, .refl _, .list (fun a j ha hj => ?_), trivial⟩, ⟨.refl _, .refl _, .refl _, trivial⟩⟩⟩
    refine Le.ofEq ?_
    show putF i 4 [iRow (t.rules.getD i rul0).days] (putF i 3 [iRow (t.rules.getD i rul0).zones] (fun i j => tbl (rulC (t.rules.getD i rul0)) j)) a j = tbl (rulC (t.rules.getD a rul0)) j
    exact put_same
  · refine Sc.of ⟨?_, by omega⟩; show t.extras.length * 24 ≤ 140737488355328; omega
  · refine Sc.of ⟨?_, by omega⟩; show t.fixed.length * 24 ≤ 140737488355328; omega
  · exact .mk [] [2, 3, 4] _ rfl (.aggs ⟨⟨⟨⟨⟨⟨⟨⟨trivial, .le (.refl _)⟩, .le (.refl _)⟩, .le (.refl _)⟩, .le (.refl _)⟩, .le (.refl _)⟩, .own rfl fun _ _ _ _ => .refl _⟩, .own rfl fun _ _ _ _ => .refl _⟩, .own rfl fun _ _ _ _ => .refl _⟩) trivial rfl
end
end Go.Fx
