/-
 Trips and times: what is asked of them, in plain Lean.
-/
import Derived.Test.YtfdegaojblmdiaaGreatDoorGr
set_option linter.all false
namespace Go.Fx
open Go.Proofs Go.RowKit
structure Seg where
 z : Int
 me : Int
 se : Int
def seg0 : Seg := ⟨0, 0, 0⟩
def segC (s : Seg) : List AV := [.int .i64 s.z, .int .i64 s.me, .int .i64 s.se]
def segS (l : List Seg) : AV := .slc 3 l.length (fun i j => tbl (segC (l.getD i seg0)) j)
structure Trp where
 m : Mom
 fx : Bool
 ex : List Int
 sg : List Seg
def trpC (x : Trp) : List AV := [.int .i64 x.m.d, .int .i64 x.m.s, .bool x.fx, iRow x.ex, segS x.sg]
def trpA (x : Trp) : AV := .agg 5 (tbl (trpC x))
structure XOk (x : Trp) : Prop where
 ex : x.ex.length <= 1000
 sg : x.sg.length <= 1000
abbrev sgx (x : Trp) (i : Nat) : Seg := x.sg.getD i seg0
@[irreducible] def tripH (t : Trf) (x : Trp) : Int := firstS [trfE t, isOk (momB x.m) 2, isOk ((x.ex.length : Int) == (t.extras.length : Int)) 10]
@[irreducible] def exE (x : Trp) (i : Nat) : Int := isOk (inB (x.ex.getD i 0) 0 20) 2
@[irreducible] def tripM (x : Trp) : Int := firstS [isOk (decide (0 < (x.sg.length : Int))) 10, isOk (decide ((x.sg.length : Int) <= 60)) 8]
@[irreducible] def sgE (t : Trf) (x : Trp) (i : Nat) : Int := firstS [isOk (zoneIn t (sgx x i).z) 6, isOk (bif inB (sgx x i).me 0 100000 then inB (sgx x i).se 1 36000 else false) 2]
@[irreducible] def tripE (t : Trf) (x : Trp) : Int := bif decide (tripH t x = 0) then (bif decide (scanE (exE x) (List.range x.ex.length) = 0) then (bif decide (tripM x = 0) then scanE (sgE t x) (List.range x.sg.length) else tripM x) else scanE (exE x) (List.range x.ex.length)) else tripH t x
@[irreducible] def tripN (t : Trf) (x : Trp) : Int := bif decide (tripH t x = 0) then (bif decide (scanE (exE x) (List.range x.ex.length) = 0) then (bif decide (tripM x = 0) then scanN (sgE t x) (List.range x.sg.length) else 0) else scanN (exE x) (List.range x.ex.length)) else 0
theorem rscan_hit {g : Nat -> Int} {n i : Nat} (hi : i < n) (h0 : ∀ j, j < i -> g j = 0) {e : Int} (he : g i = e) (hne : e ≠ 0) : scanE g (List.range n) = e /\ scanN g (List.range n) = i := by
 have w := scan_hit (g := g) (d := 0) (l := List.range n) (i := i) (by simpa using hi) (fun j hj => by rw [range_at (by omega)]; exact h0 j hj) (by rw [range_at hi, he]; exact hne)
 rw [range_at hi, he] at w; exact w
theorem rscan_none {g : Nat -> Int} {n : Nat} (h0 : ∀ j, j < n -> g j = 0) : scanE g (List.range n) = 0 /\ scanN g (List.range n) = 0 :=
 scan_none (g := g) (d := 0) (l := List.range n) (fun j hj => by rw [range_at (by simpa using hj)]; exact h0 j (by simpa using hj))
theorem rscan_zero {g : Nat -> Int} {n : Nat} (h : scanE g (List.range n) = 0) {j : Nat} (hj : j < n) : g j = 0 := by
 have := scan_zero (g := g) (d := 0) (l := List.range n) h j (by simpa using hj)
 rwa [range_at hj] at this
structure TripOk (t : Trf) (x : Trp) : Prop where
 trf : trfE t = 0
 mom : momB x.m = true
 exl : x.ex.length = t.extras.length
 ex : ∀ j, j < x.ex.length -> 0 <= x.ex.getD j 0 /\ x.ex.getD j 0 <= 20
 pos : 0 < x.sg.length
 len : x.sg.length <= 60
 z : ∀ j, j < x.sg.length -> zoneIn t (sgx x j).z = true
 me : ∀ j, j < x.sg.length -> 0 <= (sgx x j).me /\ (sgx x j).me <= 100000
 se : ∀ j, j < x.sg.length -> 1 <= (sgx x j).se /\ (sgx x j).se <= 36000
def segM (x : Trp) : Nat -> Mom
 | 0 => x.m
 | k + 1 => laterQ (segM x k) (sgx x k).se
def segP (x : Trp) (k : Nat) : Plc := ⟨(sgx x k).z, segM x k⟩
def segH (t : Trf) (x : Trp) (k : Nat) : List Int := holdI t (segP x k) t.rules.length
@[irreducible] def segE (t : Trf) (x : Trp) (k : Nat) : Int := bif momB (segM x k) then oneE (segH t x k) else 2
def segN (t : Trf) (x : Trp) (k : Nat) : Int := oneN (segH t x k)
def segR (t : Trf) (x : Trp) (k : Nat) : Rul := t.rules.getD (segN t x k).toNat rul0
@[irreducible] def rideE (t : Trf) (x : Trp) : Int := bif decide (tripE t x = 0) then scanE (segE t x) (List.range x.sg.length) else tripE t x
def accP (f : Nat -> Int) : Nat -> Int
 | 0 => 0
 | k + 1 => accP f k + f k
theorem hold_mem (t : Trf) (p : Plc) : ∀ n, ∀ x ∈ holdI t p n, 0 <= x /\ x < n
 | 0, x, hx => by simp [holdI] at hx
 | n + 1, x, hx => by
  simp only [holdI] at hx
  cases hb : holdB t (t.rules.getD n rul0) p <;> rw [hb] at hx
  ·have := hold_mem t p n x hx; omega
  ·rcases List.mem_append.1 hx with h | h
   ·have := hold_mem t p n x h; omega
   ·simp at h; omega
theorem oneN_mem {l : List Int} (h : oneE l = 0) : oneN l ∈ l := by
 unfold oneE at h
 match l, h with
 | [x], _ => unfold oneN; simp
 | [], h => cases h
 | _ :: _ :: _, h => cases h
open Go.Proofs Go.RowKit
def fixP (t : Trf) (x : Trp) (j : Nat) : Bool := bif (t.fixed.getD j fxd0).fr == (sgx x 0).z then (t.fixed.getD j fxd0).tt == (sgx x (x.sg.length - 1)).z else false
def fixI (t : Trf) (x : Trp) : Int := findI (fixP t x) t.fixed.length
def exS (t : Trf) (x : Trp) : Nat -> Int
 | 0 => 0
 | i + 1 => exS t x i + x.ex.getD i 0 * (t.extras.getD i ext0).am
@[irreducible] def drvQ (t : Trf) (x : Trp) (f : Nat -> Int) : Int := bif x.fx then (t.fixed.getD (fixI t x).toNat fxd0).am else (accP f x.sg.length).tdiv t.unit * t.step
@[irreducible] def staQ (t : Trf) (x : Trp) : Int := bif x.fx then 0 else (segR t x 0).st
def totQ (t : Trf) (x : Trp) (f : Nat -> Int) : Int := staQ t x + drvQ t x f + exS t x x.ex.length
@[irreducible] def fareE (t : Trf) (x : Trp) (f : Nat -> Int) : Int := bif (bif x.fx then decide (fixI t x < 0) else false) then 12 else bif decide (1000000000 < totQ t x f) then 8 else 0
@[irreducible] def fareZ (t : Trf) (x : Trp) (f : Nat -> Int) (n : Int) : Int := bif decide (fareE t x f = 0) then n else 0
theorem rules_len {t : Trf} (h : trfE t = 0) : t.rules.length <= 12 := (pE_0 ((trf_0 h).2 2 (by decide))).1
open Go.Proofs Go.RowKit
def chgL (t : Trf) : Nat -> List Int
 | 0 => [0]
 | k + 1 => chgL t k ++ [(t.rules.getD k rul0).bg, (t.rules.getD k rul0).en.tmod 86400]
def timesL (t : Trf) : List Int := compI (sortI (chgL t t.rules.length))
theorem chgL_mem {t : Trf} {x : Int} : ∀ {k}, x ∈ chgL t k ↔ x = 0 \/ ∃ j, j < k /\ (x = (t.rules.getD j rul0).bg \/ x = (t.rules.getD j rul0).en.tmod 86400)
 | 0 => by simp [chgL]
 | k + 1 => by
  simp only [chgL, List.mem_append, chgL_mem (k := k), List.mem_cons, List.not_mem_nil, or_false]
  constructor
  ·rintro ((h | ⟨j, hj, h⟩) | h)
   ·exact .inl h
   ·exact .inr ⟨j, by omega, h⟩
   ·exact .inr ⟨k, by omega, h⟩
  ·rintro (h | ⟨j, hj, h⟩)
   ·exact .inl (.inl h)
   ·rcases Nat.lt_succ_iff_lt_or_eq.1 hj with c | c
    ·exact .inl (.inr ⟨j, c, h⟩)
    ·rw [c] at h; exact .inr h
theorem sortI_mem {l : List Int} {x : Int} : x ∈ sortI l ↔ x ∈ l := List.mem_mergeSort
theorem sortI_srt (l : List Int) : (sortI l).Pairwise (· <= ·) := by
 have h : (sortI l).Pairwise fun x y => decide (x <= y) = true := by
  refine List.pairwise_mergeSort (fun a b c h1 h2 => ?_) (fun a b => ?_) l
  ·have := of_decide_eq_true h1; have := of_decide_eq_true h2; exact decide_eq_true (by omega)
  ·rcases Int.le_total a b with c | c
   ·simp [c]
   ·simp [c]
 exact h.imp fun h => of_decide_eq_true h
theorem arr_get {l : List Int} {i : Nat} (h : i < l.length) : l.toArray[i]! = l[i] := by
 rw [getElem!_pos _ i (by simpa using h)]; simp
theorem comp_mem {l : List Int} {x : Int} : x ∈ compI l ↔ x ∈ l := by
 unfold compI Lib.compact Lib.compactUpTo
 simp only [List.mem_map, List.mem_filter, List.mem_range]
 constructor
 ·rintro ⟨i, ⟨hi, _⟩, rfl⟩
  rw [arr_get hi]
  exact List.getElem_mem hi
 ·intro h
  obtain ⟨i, hi, rfl⟩ := List.getElem_of_mem h
  clear h
  induction i with
  | zero => exact ⟨0, ⟨hi, by simp [Lib.keeps]⟩, arr_get hi⟩
  | succ i ih =>
   by_cases e : l[i + 1] = l[i]
   ·obtain ⟨j, hj, e2⟩ := ih (by omega)
    exact ⟨j, hj, by rw [e2, e]⟩
   ·refine ⟨i + 1, ⟨hi, ?_⟩, arr_get hi⟩
    unfold Lib.keeps
    refine decide_eq_true (.inr ?_)
    rw [arr_get hi, Nat.add_sub_cancel, arr_get (by omega)]
    exact e
def TimeS (t : Trf) (x : Int) : Prop := x = 0 \/ ∃ j, j < t.rules.length /\ (x = (t.rules.getD j rul0).bg \/ x = (t.rules.getD j rul0).en) /\ x < 86400
theorem en_mod {n : Int} (h : 0 <= n /\ n <= 86400) : n.tmod 86400 = n /\ n < 86400 \/ n.tmod 86400 = 0 /\ n = 86400 := by
 rw [Int.tmod_eq_emod_of_nonneg h.1]; omega
theorem times_mem {t : Trf} (h : trfE t = 0) {x : Int} : x ∈ timesL t ↔ TimeS t x := by
 unfold timesL TimeS
 rw [comp_mem, sortI_mem, chgL_mem]
 constructor
 ·rintro (e | ⟨j, hj, e⟩)
  ·exact .inl e
  ·have r := trf_rule h hj
   rcases e with e | e
   ·exact .inr ⟨j, hj, .inl e, by have := r.bg; omega⟩
   ·rcases en_mod r.en with c | c
    ·exact .inr ⟨j, hj, .inr (by rw [e, c.1]), by omega⟩
    ·exact .inl (by rw [e, c.1])
 ·rintro (e | ⟨j, hj, e, hx⟩)
  ·exact .inl e
  ·have r := trf_rule h hj
   rcases e with e | e
   ·exact .inr ⟨j, hj, .inl e⟩
   ·rcases en_mod r.en with c | c
    ·exact .inr ⟨j, hj, .inr (by rw [c.1]; exact e)⟩
    ·omega
structure TimesI (t : Trf) (l : List Int) : Prop where
 srt : SortI l
 pos : 0 < l.length
 mem : ∀ x ∈ l, TimeS t x
 all : ∀ x, TimeS t x -> x <= l.getD (l.length - 1) 0 -> x ∈ l
 bd : 0 <= l.getD (l.length - 1) 0 /\ l.getD (l.length - 1) 0 < 86400
theorem holdB_same {t : Trf} (ht : trfE t = 0) {k : Nat} (hk : k < t.rules.length) {z d a b : Int} (hab : a <= b) (hb : b < 86400) (hn : ∀ x ∈ timesL t, x <= a \/ b < x) : holdB t (t.rules.getD k rul0) ⟨z, d, b⟩ = holdB t (t.rules.getD k rul0) ⟨z, d, a⟩ := by
 have r := trf_rule ht hk
 have e1 := hn _ ((times_mem ht).2 (.inr ⟨k, hk, .inl rfl, by have := r.bg; omega⟩))
 have e2 : (t.rules.getD k rul0).en <= a \/ b < (t.rules.getD k rul0).en := by
  by_cases q : (t.rules.getD k rul0).en < 86400
  ·exact hn _ ((times_mem ht).2 (.inr ⟨k, hk, .inr rfl, q⟩))
  ·right; omega
 have e : timeB (t.rules.getD k rul0) b = timeB (t.rules.getD k rul0) a := by
  unfold timeB
  have d1 : decide ((t.rules.getD k rul0).bg <= b) = decide ((t.rules.getD k rul0).bg <= a) := decide_eq_decide.2 (by omega)
  have d2 : decide (b < (t.rules.getD k rul0).en) = decide (a < (t.rules.getD k rul0).en) := decide_eq_decide.2 (by omega)
  rw [d1, d2]
 rw [hold_eq, hold_eq]
 show (bif timeB _ b then _ else _) = (bif timeB _ a then _ else _)
 rw [e]
theorem holdI_same {t : Trf} (ht : trfE t = 0) {z d a b : Int} (hab : a <= b) (hb : b < 86400) (hn : ∀ x ∈ timesL t, x <= a \/ b < x) : ∀ k, k <= t.rules.length -> holdI t ⟨z, d, b⟩ k = holdI t ⟨z, d, a⟩ k
 | 0, _ => rfl
 | k + 1, hk => by simp only [holdI, holdB_same ht (show k < t.rules.length by omega) hab hb hn, holdI_same ht hab hb hn k (by omega)]
theorem find_pos {p : Nat -> Bool} {n i : Nat} (hi : i < n) (h : ∀ j, j < i -> p j = false) (hp : p i = true) : decide (0 <= findI p n) = true := by rw [findI_hit hi h hp]; exact decide_eq_true (by omega)
theorem find_is {p : Nat -> Bool} {n : Nat} (h : 0 <= findI p n) : ∃ i, i < n /\ findI p n = i /\ p i = true /\ ∀ j, j < i -> p j = false := by
 by_cases q : ∃ i, i < n /\ p i = true
 ·obtain ⟨i, hi, hp⟩ := q
  have : ∃ k, k < n /\ p k = true /\ ∀ j, j < k -> p j = false := by
   induction i using Nat.strongRecOn with
   | _ i ih =>
    by_cases c : ∃ j, j < i /\ p j = true
    ·obtain ⟨j, hj, hpj⟩ := c
     exact ih j hj (by omega) hpj
    ·exact ⟨i, hi, hp, fun j hj => by cases e : p j with
      | false => rfl
      | true => exact absurd ⟨j, hj, e⟩ c⟩
  obtain ⟨k, hk, hpk, ha⟩ := this
  exact ⟨k, hk, findI_hit hk ha hpk, hpk, ha⟩
 ·rw [findI_none fun j hj => by cases e : p j with
   | false => rfl
   | true => exact absurd ⟨j, hj, e⟩ q] at h
  omega
open Go.Proofs Go.RowKit
theorem gate_ok {t : Trf} {p : Plc} : gateE t p = 0 ↔ trfE t = 0 /\ zoneIn t p.z = true /\ momB p.m = true := by
 constructor
 ·intro h
  unfold gateE at h
  have z := firstS_zero h
  have z1 : placeE t p = 0 := z _ (by simp)
  unfold placeE at z1
  have y := firstS_zero z1
  exact ⟨z _ (by simp), isOk_0 (b := zoneIn t p.z) (e := 6) (y _ (by simp)) (by decide), isOk_0 (b := momB p.m) (e := 2) (y _ (by simp)) (by decide)⟩
 ·rintro ⟨a, b, c⟩
  unfold gateE placeE
  rw [a, b, c]; rfl
theorem ruleAt_0 {t : Trf} {p : Plc} (h : gateE t p = 0) : ruleAtE t p = oneE (holdI t p t.rules.length) /\ ruleAtN t p = oneN (holdI t p t.rules.length) := by
 unfold ruleAtE ruleAtN; rw [h]; exact ⟨rfl, rfl⟩
def nowE (t : Trf) (p : Plc) : Int := oneE (holdI t p t.rules.length)
def nowN (t : Trf) (p : Plc) : Int := oneN (holdI t p t.rules.length)
def nxtC (t : Trf) (p : Plc) (d i : Nat) : Plc := ⟨p.z, p.m.d + d, (timesL t).getD i 0⟩
def nxtS (t : Trf) (p : Plc) (d i : Nat) : Bool := bif (p.m.d + (d : Int) == p.m.d) then decide ((timesL t).getD i 0 <= p.m.s) else false
def nxtD (t : Trf) (p : Plc) (d i : Nat) : Bool := bif nowN t (nxtC t p d i) == nowN t p then nowE t (nxtC t p d i) == nowE t p else false
def nxtP (t : Trf) (p : Plc) (d i : Nat) : Bool := bif nxtS t p d i then false else !nxtD t p d i
def nxtI (t : Trf) (p : Plc) (d : Nat) : Int := findI (nxtP t p d) (timesL t).length
def lastD (p : Plc) : Int := bif decide (p.m.d + 400 < 100000) then p.m.d + 400 else 100000
def nxtN (p : Plc) : Nat := (lastD p + 1 - p.m.d).toNat
def nxtF (t : Trf) (p : Plc) : Int := findI (fun d => decide (0 <= nxtI t p d)) (nxtN p)
def nxtM (t : Trf) (p : Plc) : Mom := ⟨p.m.d + nxtF t p, (timesL t).getD (nxtI t p (nxtF t p).toNat).toNat 0⟩
@[irreducible] def chE (t : Trf) (p : Plc) : Int := bif decide (gateE t p = 0) then (bif decide (0 <= nxtF t p) then 0 else 12) else gateE t p
@[irreducible] def chM (t : Trf) (p : Plc) : Mom := bif decide (chE t p = 0) then nxtM t p else ⟨0, 0⟩
end Go.Fx
