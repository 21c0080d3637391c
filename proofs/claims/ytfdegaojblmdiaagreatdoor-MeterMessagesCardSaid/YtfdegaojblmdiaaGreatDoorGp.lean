/-
  Tariffs: what is wrong with one (part 1).
-/
import Derived.Test.YtfdegaojblmdiaaGreatDoorGf

set_option linter.all false

/-
  Data of chapter 2: events, logs; what is looked for in a list.
-/
namespace Go.Fx
open Go.Proofs

theorem Le.slcN {es n m : Nat} {f g : Nat → Nat → AV} (e : n = m) (h : ∀ i j, i < n → j < es → Le (f i j) (g i j)) : Le (.slc es n f) (.slc es m g) := by subst e; exact .slc h
theorem Le.intI {k : IntKind} {x y : Int} (h : x = y) : Le (.int k x) (.int k y) := by rw [h]; exact .refl _

/-- The first result that is not 0, and its place. -/
def scanE {α : Type} (g : α → Int) : List α → Int
  | [] => 0
  | e :: r => bif decide (g e = 0) then scanE g r else g e
def scanN {α : Type} (g : α → Int) : List α → Int
  | [] => 0
  | e :: r => bif decide (g e = 0) then (bif decide (scanE g r = 0) then 0 else scanN g r + 1) else 0
theorem scan_hit {α : Type} {g : α → Int} {d : α} : ∀ {l : List α} {i : Nat}, i < l.length → (∀ j, j < i → g (l.getD j d) = 0) → g (l.getD i d) ≠ 0 → scanE g l = g (l.getD i d) ∧ scanN g l = i
  | x :: r, 0, _, _, h => by
    have h : g x ≠ 0 := h
    simp [scanE, scanN, h]
  | x :: r, i + 1, hi, h0, h => by
    have hx : g x = 0 := h0 0 (by omega)
    obtain ⟨a, b⟩ := scan_hit (g := g) (d := d) (l := r) (by simpa using hi) (fun j hj => h0 (j + 1) (by omega)) h
    have hr : g (r.getD i d) ≠ 0 := h
    have e : (x :: r).getD (i + 1) d = r.getD i d := rfl
    have hne : ¬ scanE g r = 0 := by rw [a]; exact hr
    simp only [scanE, scanN, hx, decide_true, cond_true, decide_eq_false hne, cond_false, e]
    exact ⟨a, by rw [b]; rfl⟩
theorem scan_none {α : Type} {g : α → Int} {d : α} : ∀ {l : List α}, (∀ j, j < l.length → g (l.getD j d) = 0) → scanE g l = 0 ∧ scanN g l = 0
  | [], _ => ⟨rfl, rfl⟩
  | x :: r, h => by
    have hx : g x = 0 := h 0 (by simp)
    obtain ⟨a, b⟩ := scan_none (g := g) (d := d) (l := r) fun j hj => h (j + 1) (by simpa using hj)
    simp [scanE, scanN, hx, a]
theorem scan_zero {α : Type} {g : α → Int} {d : α} : ∀ {l : List α}, scanE g l = 0 → (∀ j, j < l.length → g (l.getD j d) = 0)
  | [], _, j, hj => by simp at hj
  | x :: r, h, j, hj => by
    by_cases hx : g x = 0
    · cases j with
      | zero => exact hx
      | succ j => exact scan_zero (l := r) (by simpa [scanE, hx] using h) j (by simpa using hj)
    · exact absurd (by simpa [scanE, hx] using h) hx
theorem drop_at {α : Type} {l : List α} {i : Nat} {d : α} (h : i < l.length) : l.drop i = l.getD i d :: l.drop (i + 1) := by
  rw [List.drop_eq_getElem_cons h, List.getD_eq_getElem?_getD, List.getElem?_eq_getElem h]; rfl


theorem all_lt {p : Nat → Prop} {i : Nat} (h0 : ∀ j, j < i → p j) (h : p i) : ∀ j, j < i + 1 → p j := fun j hj => by
  rcases Nat.lt_succ_iff_lt_or_eq.1 hj with h1 | h1
  · exact h0 j h1
  · rw [h1]; exact h
structure Ev where
  k : Int
  n : Int
def ev0 : Ev := ⟨0, 0⟩
def evC (e : Ev) : List AV := [.int .i64 e.k, .int .i64 e.n]
def evA (e : Ev) : AV := .agg 2 (tbl (evC e))
def evS (l : List Ev) : AV := .slc 2 l.length (fun i j => tbl (evC (l.getD i ev0)) j)
structure Log where
  c : Int
  d : Int
  t : Int
  ev : List Ev
def logC (l : Log) (e : AV) : List AV := [.int .i64 l.c, .int .i64 l.d, .int .i64 l.t, e]
def lgA (l : Log) : AV := .agg 4 (tbl (logC l (evS l.ev)))
def log0 : Log := ⟨0, 0, 0, []⟩

/-- The error of an event; of a moment; of a log alone. -/
def evLo (k : Int) : Int := rangesL.getD (k.toNat * 2) 0
def evHi (k : Int) : Int := rangesL.getD (k.toNat * 2 + 1) 0
@[irreducible] def evE (e : Ev) : Int := bif inB e.k 0 6 then (bif inB e.n (evLo e.k) (evHi e.k) then 0 else 2) else 15
@[irreducible] def momE (d t : Int) : Int := bif inB d 0 100000 then (bif inB t 0 86399 then 0 else 2) else 2
@[irreducible] def headE (l : Log) : Int := firstS [bif inB l.c 1 100000 then 0 else 2, momE l.d l.t, bif decide ((l.ev.length : Int) ≤ 200) then 0 else 8]
@[irreducible] def aloneE (l : Log) : Int := bif decide (headE l = 0) then scanE evE l.ev else headE l
@[irreducible] def aloneN (l : Log) : Int := bif decide (headE l = 0) then scanN evE l.ev else 0

/-- Check sums. -/
def prime : Int := 998244353
def sumStep (o : Int) (n : Int) : Int := (o * 257 + n.tmod prime + 1).tmod prime
def sumL (o : Int) : List Ev → Int
  | [] => o
  | e :: r => sumL (sumStep (sumStep o e.k) e.n) r
theorem tmod_lt (n : Int) : -prime < n.tmod prime ∧ n.tmod prime < prime := by
  have h1 := Int.tmod_lt_of_pos n (show (0 : Int) < prime by decide)
  have h2 := Int.lt_tmod_of_pos n (show (0 : Int) < prime by decide)
  exact ⟨h2, h1⟩
end Go.Fx

/-
  Data of chapter 1: tariffs; what is wrong with one.
-/
namespace Go.Fx
open Go.Proofs

def bs0 : ByteArray := ⟨#[]⟩
def sRow (l : List ByteArray) : AV := .slc 1 l.length (fun i _ => .str (l.getD i bs0))
structure Rul where
  name : ByteArray
  fr : Int
  tt : Int
  zones : List Int
  days : List Int
  bg : Int
  en : Int
  st : Int
  me : Int
  se : Int
def rul0 : Rul := ⟨bs0, 0, 0, [], [], 0, 0, 0, 0, 0⟩
def rulC (r : Rul) : List AV := [.str r.name, .int .i64 r.fr, .int .i64 r.tt, iRow r.zones, iRow r.days, .int .i64 r.bg, .int .i64 r.en, .int .i64 r.st, .int .i64 r.me, .int .i64 r.se]
def rulA (r : Rul) : AV := .agg 10 (tbl (rulC r))
def rulS (l : List Rul) : AV := .slc 10 l.length (fun i j => tbl (rulC (l.getD i rul0)) j)
structure Ext where
  name : ByteArray
  am : Int
def ext0 : Ext := ⟨bs0, 0⟩
def extC (x : Ext) : List AV := [.str x.name, .int .i64 x.am]
def extS (l : List Ext) : AV := .slc 2 l.length (fun i j => tbl (extC (l.getD i ext0)) j)
structure Fxd where
  fr : Int
  tt : Int
  am : Int
def fxd0 : Fxd := ⟨0, 0, 0⟩
def fxdC (x : Fxd) : List AV := [.int .i64 x.fr, .int .i64 x.tt, .int .i64 x.am]
def fxdS (l : List Fxd) : AV := .slc 3 l.length (fun i j => tbl (fxdC (l.getD i fxd0)) j)
structure Trf where
  name : ByteArray
  unit : Int
  step : Int
  zones : List ByteArray
  hol : List Int
  rules : List Rul
  extras : List Ext
  fixed : List Fxd
def trfC (t : Trf) : List AV := [.str t.name, .int .i64 t.unit, .int .i64 t.step, sRow t.zones, iRow t.hol, rulS t.rules, extS t.extras, fxdS t.fixed]
def trfA (t : Trf) : AV := .agg 8 (tbl (trfC t))

/-- Sizes that need no care. -/
structure TOk (t : Trf) : Prop where
  name : t.name.size ≤ 1000
  zones : t.zones.length ≤ 1000
  hol : t.hol.length ≤ 1000
  rules : t.rules.length ≤ 1000
  extras : t.extras.length ≤ 1000
  fixed : t.fixed.length ≤ 1000
  zone : ∀ j, (t.zones.getD j bs0).size ≤ 1000
  rname : ∀ j, (t.rules.getD j rul0).name.size ≤ 1000
  rzones : ∀ j, (t.rules.getD j rul0).zones.length ≤ 1000
  rdays : ∀ j, (t.rules.getD j rul0).days.length ≤ 1000
  ename : ∀ j, (t.extras.getD j ext0).name.size ≤ 1000

/-- The first place below n where something is so, or -1. -/
def findI (p : Nat → Bool) : Nat → Int
  | 0 => -1
  | n + 1 => bif decide (0 ≤ findI p n) then findI p n else bif p n then n else -1
theorem findI_none {p : Nat → Bool} : ∀ {n : Nat}, (∀ j, j < n → p j = false) → findI p n = -1
  | 0, _ => rfl
  | n + 1, h => by
    have h1 := findI_none (p := p) (n := n) fun j hj => h j (by omega)
    simp [findI, h1, h n (by omega)]
theorem findI_hit {p : Nat → Bool} {i : Nat} : ∀ {n : Nat}, i < n → (∀ j, j < i → p j = false) → p i = true → findI p n = i
  | 0, hi, _, _ => by omega
  | n + 1, hi, h, hp => by
    rcases Nat.lt_succ_iff_lt_or_eq.1 hi with h1 | h1
    · have h2 := findI_hit (p := p) (n := n) h1 h hp
      simp only [findI, h2]
      rw [decide_eq_true (by omega)]; rfl
    · subst h1
      have h2 := findI_none (p := p) (n := i) h
      simp [findI, h2, hp]
theorem findI_ge {p : Nat → Bool} : ∀ {n : Nat}, decide (0 ≤ findI p n) = (List.range n).any p
  | 0 => rfl
  | n + 1 => by
    rw [List.range_succ, List.any_append, ← findI_ge (n := n)]
    simp only [findI]
    by_cases h : 0 ≤ findI p n
    · simp [h]
    · by_cases hp : p n = true
      · simp [h, hp]
      · simp [h, hp]
theorem any_hit {p : Nat → Bool} {n i : Nat} (hi : i < n) (h : p i = true) : (List.range n).any p = true := List.any_eq_true.2 ⟨i, List.mem_range.2 hi, h⟩
theorem any_none {p : Nat → Bool} {n : Nat} (h : ∀ j, j < n → p j = false) : (List.range n).any p = false := by
  rw [List.any_eq_false]
  intro x hx
  rw [h x (List.mem_range.1 hx)]
  decide

/-- Names. -/
def badB (i c : Int) : Bool := bif !(bif (bif decide (97 ≤ c) then decide (c ≤ 122) else false) then true else (bif decide (65 ≤ c) then decide (c ≤ 90) else false)) then (bif i == 0 then true else (bif c != 45 then (bif decide (c < 48) then true else decide (57 < c)) else false)) else false
@[irreducible] def nameB (s : ByteArray) : Bool := bif decide ((s.size : Int) < 1) then false else bif decide (12 < (s.size : Int)) then false else !(List.range s.size).any fun i => badB i (byteAt s i)
/-- A text among the first n ones. -/
@[irreducible] def hasB (l : List ByteArray) (n : Nat) (s : ByteArray) : Bool := (List.range n).any fun i => decide (l.getD i bs0 = s)

/-- Numbers that rise. -/
def riseAt (lo hi e : Int) (l : List Int) (i : Nat) : Int := bif inB (l.getD i 0) lo hi then (bif decide (0 < i) then (bif decide (l.getD i 0 ≤ l.getD (i - 1) 0) then 9 else 0) else 0) else e
@[irreducible] def riseE (lo hi e : Int) (l : List Int) : Int := scanE (riseAt lo hi e l) (List.range l.length)

def isOk (b : Bool) (e : Int) : Int := bif b then 0 else e
@[irreducible] def ruleE (nz : Int) (r : Rul) : Int := firstS [isOk (bif inB r.fr 0 100000 then inB r.tt 0 100000 else false) 2, isOk (decide (r.fr ≤ r.tt)) 9, isOk (bif decide (0 < (r.zones.length : Int)) then decide (0 < (r.days.length : Int)) else false) 10,
  riseE 0 (nz - 1) 6 r.zones, riseE 0 7 2 r.days, isOk (bif (bif inB r.bg 0 86399 then inB r.en 0 86400 else false) then (bif (bif inB r.st 0 100000 then inB r.me 0 1000000 else false) then inB r.se 0 1000000 else false) else false) 2]

/-- The errors of a tariff's parts, one by one. -/
@[irreducible] def zoneE (t : Trf) (i : Nat) : Int := bif nameB (t.zones.getD i bs0) then (bif hasB t.zones i (t.zones.getD i bs0) then 5 else 0) else 4
@[irreducible] def holE (t : Trf) (i : Nat) : Int := riseAt 0 100000 2 t.hol i
@[irreducible] def ruliE (t : Trf) (i : Nat) : Int := bif nameB (t.rules.getD i rul0).name then (bif (List.range i).any (fun k => decide ((t.rules.getD k rul0).name = (t.rules.getD i rul0).name)) then 5 else ruleE t.zones.length (t.rules.getD i rul0)) else 4
@[irreducible] def extE (t : Trf) (i : Nat) : Int := bif nameB (t.extras.getD i ext0).name then (bif (List.range i).any (fun k => decide ((t.extras.getD k ext0).name = (t.extras.getD i ext0).name)) then 5 else isOk (inB (t.extras.getD i ext0).am 0 100000) 2) else 4
def zoneIn (t : Trf) (n : Int) : Bool := inB n 0 (t.zones.length - 1)
@[irreducible] def fxdE (t : Trf) (i : Nat) : Int := bif (bif zoneIn t (t.fixed.getD i fxd0).fr then zoneIn t (t.fixed.getD i fxd0).tt else false) then (bif inB (t.fixed.getD i fxd0).am 0 100000 then (bif (List.range i).any (fun k => bif (t.fixed.getD k fxd0).fr == (t.fixed.getD i fxd0).fr then (t.fixed.getD k fxd0).tt == (t.fixed.getD i fxd0).tt else false) then 5 else 0) else 2) else 6
def partE (t : Trf) : Nat → Nat → Int
  | 0 => zoneE t
  | 1 => holE t
  | 2 => ruliE t
  | 3 => extE t
  | _ => fxdE t
def partN (t : Trf) : Nat → Nat
  | 0 => t.zones.length
  | 1 => t.hol.length
  | 2 => t.rules.length
  | 3 => t.extras.length
  | _ => t.fixed.length
def partM : Nat → Nat
  | 0 => 6
  | 1 => 20
  | 2 => 12
  | 3 => 6
  | _ => 16
def topE (t : Trf) : Int := bif nameB t.name then (bif (bif inB t.unit 1 999999999 then inB t.step 0 100000 else false) then (bif decide (0 < (t.zones.length : Int)) then 0 else 10) else 2) else 4
/-- The error of a part: too long, or its first wrong item. -/
def pE (t : Trf) (p : Nat) : Int := bif decide (partM p < partN t p) then 8 else scanE (partE t p) (List.range (partN t p))
def pL (t : Trf) (p : Nat) : Int := bif decide (partM p < partN t p) then 0 else p + 1
def pN (t : Trf) (p : Nat) : Int := bif decide (partM p < partN t p) then 0 else scanN (partE t p) (List.range (partN t p))
/-- From part p on. -/
def fromE (t : Trf) (p : Nat) : Nat → Int
  | 0 => 0
  | k + 1 => bif decide (pE t p = 0) then fromE t (p + 1) k else pE t p
def fromL (t : Trf) (p : Nat) : Nat → Int
  | 0 => 0
  | k + 1 => bif decide (pE t p = 0) then fromL t (p + 1) k else pL t p
def fromN (t : Trf) (p : Nat) : Nat → Int
  | 0 => 0
  | k + 1 => bif decide (pE t p = 0) then fromN t (p + 1) k else pN t p
@[irreducible] def trfE (t : Trf) : Int := bif decide (topE t = 0) then fromE t 0 5 else topE t
@[irreducible] def trfL (t : Trf) : Int := bif decide (topE t = 0) then fromL t 0 5 else 0
@[irreducible] def trfN (t : Trf) : Int := bif decide (topE t = 0) then fromN t 0 5 else 0
end Go.Fx

/-
  Small functions of the tariff: bounds, first errors, names, numbers that rise.
-/
namespace Go.Fx
open Go.Proofs Go.RowKit

theorem range_at {n j : Nat} (h : j < n) : (List.range n).getD j 0 = j := by simp [List.getD_eq_getElem?_getD, h]
section
variable {W0 : World} {G : Nat → Option AV} (hX : (Xc W0 G).Good)
include hX
theorem c95 (n lo hi : Int) : Pure (Xc W0 G) 95 [.int .i64 n, .int .i64 lo, .int .i64 hi] (.bool (inB n lo hi)) := by
  refine mut_of' hX (show FnIs (Xc W0 G) 95 Tryz.f95 (codeOf Tryz.f95) from ⟨by kernel_rfl, by kernel_rfl, by kernel_rfl, by kernel_rfl⟩) rfl ?_
  repeat' (first
    | ((with_reducible refine (?_ : Alt _ _)); first | fail | (with_reducible refine Alt.one ?_))
    | ((with_reducible refine (?_ : AllLe _ _)); first | (first | exact AllLe.refl _ | (repeat' (first | exact trivial | apply Le.aggs | apply Le.tups | apply Le.fns | exact Le.refl _ | refine ⟨?_, ?_⟩))))
    | ((with_reducible refine (?_ : Sc _ (AllRen _ _ _))); refine Sc.of ?_; first | (repeat' (first | exact trivial | apply Le.aggs | apply Le.tups | apply Le.fns | exact Le.refl _ | refine ⟨?_, ?_⟩)))
    | ((with_reducible refine (?_ : (List.all _ _) = true)); rfl)
    | ((with_reducible refine (?_ : (and _ _) = true)); rfl)
    | ((with_reducible refine (?_ : List.Nodup _)); exact nodupB_spec rfl)
    | ((with_reducible refine (?_ : @Eq Nat _ _)); rfl)
    | ((with_reducible refine (?_ : @Eq (List (Option HObj)) _ _)); kernel_rfl)
    | ((with_reducible refine (?_ : LeOks _ _ _)); first | exact trivial | exact ⟨.refl _, trivial⟩ | exact ⟨.refl _, .refl _, trivial⟩)
    | ((fail_if_success with_reducible refine Stop.go ?_); (first | with_reducible refine And.intro ?_ ?_ | with_reducible refine Cut.go ?_ | (with_reducible (refine impI ?_; intro _)) | (with_reducible refine (?_ : footOK _ _ = true); kernel_rfl) | ((with_reducible refine propI ?_); conv => whnf))))
  all_goals exact .mk [] [] _ rfl (.le (.refl _)) trivial rfl
end
end Go.Fx

/-
  Names; texts among others; numbers that ascend (of the reference).
-/
namespace Go.Fx
open Go.Proofs Go.RowKit

section
variable {W0 : World} {G : Nat → Option AV} (hX : (Xc W0 G).Good)
include hX
end
end Go.Fx

/-
  Rules, supplements, fixed fares: what is wrong with one.
-/
namespace Go.Fx
open Go.Proofs Go.RowKit

theorem le_slc5 {f : Nat → Nat → AV} {a b c d e : Int} (h0 : f 0 0 = .int .i64 a) (h1 : f 1 0 = .int .i64 b) (h2 : f 2 0 = .int .i64 c) (h3 : f 3 0 = .int .i64 d) (h4 : f 4 0 = .int .i64 e) : Le (.slc 1 5 f) (.slc 1 [a, b, c, d, e].length (fun i _ => .int .i64 ([a, b, c, d, e].getD i 0))) :=
  .slc fun i j hi hj => by
    obtain rfl : j = 0 := by omega
    rcases (show i = 0 ∨ i = 1 ∨ i = 2 ∨ i = 3 ∨ i = 4 by omega) with rfl | rfl | rfl | rfl | rfl
    · rw [h0]; exact .refl _
    · rw [h1]; exact .refl _
    · rw [h2]; exact .refl _
    · rw [h3]; exact .refl _
    · rw [h4]; exact .refl _
section
variable {W0 : World} {G : Nat → Option AV} (hX : (Xc W0 G).Good)
include hX
end
end Go.Fx

/-
  The parts of a tariff, one by one.
-/
namespace Go.Fx
open Go.Proofs Go.RowKit

section
variable {W0 : World} {G : Nat → Option AV} (hX : (Xc W0 G).Good)
include hX
end
end Go.Fx
