/-
  Data of chapter 2: logs.
-/
import Derived.Test.YtgegeclgiiengaaGreatDoorFm
import Derived.Test.YtgegeclgiiengaaGreatDoorFf

set_option linter.all false

/-
  Data of chapter 2: events, logs; what is looked for in a list.
-/
namespace Go.Fx
open Go.Proofs

theorem Le.slcN {es n m : Nat} {f g : Nat → Nat → AV} (e : n = m) (h : ∀ i j, i < n → j < es → Le (f i j) (g i j)) : Le (.slc es n f) (.slc es m g) := by subst e; exact .slc h
theorem Le.intI {k : IntKind} {x y : Int} (h : x = y) : Le (.int k x) (.int k y) := by rw [h]; exact .refl _

/-- The first result that is not 0, and its place. -/
def scanE {α : Type} (g : α → Int) : List α → Int
  | [] => 0
  | e :: r => bif decide (g e = 0) then scanE g r else g e
def scanN {α : Type} (g : α → Int) : List α → Int
  | [] => 0
  | e :: r => bif decide (g e = 0) then (bif decide (scanE g r = 0) then 0 else scanN g r + 1) else 0
theorem scan_hit {α : Type} {g : α → Int} {d : α} : ∀ {l : List α} {i : Nat}, i < l.length → (∀ j, j < i → g (l.getD j d) = 0) → g (l.getD i d) ≠ 0 → scanE g l = g (l.getD i d) ∧ scanN g l = i
  | x :: r, 0, _, _, h => by
    have h : g x ≠ 0 := h
    simp [scanE, scanN, h]
  | x :: r, i + 1, hi, h0, h => by
    have hx : g x = 0 := h0 0 (by omega)
    obtain ⟨a, b⟩ := scan_hit (g := g) (d := d) (l := r) (by simpa using hi) (fun j hj => h0 (j + 1) (by omega)) h
    have hr : g (r.getD i d) ≠ 0 := h
    have e : (x :: r).getD (i + 1) d = r.getD i d := rfl
    have hne : ¬ scanE g r = 0 := by rw [a]; exact hr
    simp only [scanE, scanN, hx, decide_true, cond_true, decide_eq_false hne, cond_false, e]
    exact ⟨a, by rw [b]; rfl⟩
theorem scan_none {α : Type} {g : α → Int} {d : α} : ∀ {l : List α}, (∀ j, j < l.length → g (l.getD j d) = 0) → scanE g l = 0 ∧ scanN g l = 0
  | [], _ => ⟨rfl, rfl⟩
  | x :: r, h => by
    have hx : g x = 0 := h 0 (by simp)
    obtain ⟨a, b⟩ := scan_none (g := g) (d := d) (l := r) fun j hj => h (j + 1) (by simpa using hj)
    simp [scanE, scanN, hx, a]
theorem scan_zero {α : Type} {g : α → Int} {d : α} : ∀ {l : List α}, scanE g l = 0 → (∀ j, j < l.length → g (l.getD j d) = 0)
  | [], _, j, hj => by simp at hj
  | x :: r, h, j, hj => by
    by_cases hx : g x = 0
    · cases j with
      | zero => exact hx
      | succ j => exact scan_zero (l := r) (by simpa [scanE, hx] using h) j (by simpa using hj)
    · exact absurd (by simpa [scanE, hx] using h) hx
theorem drop_at {α : Type} {l : List α} {i : Nat} {d : α} (h : i < l.length) : l.drop i = l.getD i d :: l.drop (i + 1) := by
  rw [List.drop_eq_getElem_cons h, List.getD_eq_getElem?_getD, List.getElem?_eq_getElem h]; rfl


theorem all_lt {p : Nat → Prop} {i : Nat} (h0 : ∀ j, j < i → p j) (h : p i) : ∀ j, j < i + 1 → p j := fun j hj => by
  rcases Nat.lt_succ_iff_lt_or_eq.1 hj with h1 | h1
  · exact h0 j h1
  · rw [h1]; exact h
structure Ev where
  k : Int
  n : Int
def ev0 : Ev := ⟨0, 0⟩
def evC (e : Ev) : List AV := [.int .i64 e.k, .int .i64 e.n]
def evA (e : Ev) : AV := .agg 2 (tbl (evC e))
def evS (l : List Ev) : AV := .slc 2 l.length (fun i j => tbl (evC (l.getD i ev0)) j)
structure Log where
  c : Int
  d : Int
  t : Int
  ev : List Ev
def logC (l : Log) (e : AV) : List AV := [.int .i64 l.c, .int .i64 l.d, .int .i64 l.t, e]
def lgA (l : Log) : AV := .agg 4 (tbl (logC l (evS l.ev)))
def log0 : Log := ⟨0, 0, 0, []⟩

/-- The error of an event; of a moment; of a log alone. -/
def evLo (k : Int) : Int := rangesL.getD (k.toNat * 2) 0
def evHi (k : Int) : Int := rangesL.getD (k.toNat * 2 + 1) 0
@[irreducible] def evE (e : Ev) : Int := bif inB e.k 0 6 then (bif inB e.n (evLo e.k) (evHi e.k) then 0 else 2) else 15
@[irreducible] def momE (d t : Int) : Int := bif inB d 0 100000 then (bif inB t 0 86399 then 0 else 2) else 2
@[irreducible] def headE (l : Log) : Int := firstS [bif inB l.c 1 100000 then 0 else 2, momE l.d l.t, bif decide ((l.ev.length : Int) ≤ 200) then 0 else 8]
@[irreducible] def aloneE (l : Log) : Int := bif decide (headE l = 0) then scanE evE l.ev else headE l
@[irreducible] def aloneN (l : Log) : Int := bif decide (headE l = 0) then scanN evE l.ev else 0

/-- Check sums. -/
def prime : Int := 998244353
def sumStep (o : Int) (n : Int) : Int := (o * 257 + n.tmod prime + 1).tmod prime
def sumL (o : Int) : List Ev → Int
  | [] => o
  | e :: r => sumL (sumStep (sumStep o e.k) e.n) r
theorem tmod_lt (n : Int) : -prime < n.tmod prime ∧ n.tmod prime < prime := by
  have h1 := Int.tmod_lt_of_pos n (show (0 : Int) < prime by decide)
  have h2 := Int.lt_tmod_of_pos n (show (0 : Int) < prime by decide)
  exact ⟨h2, h1⟩
end Go.Fx
