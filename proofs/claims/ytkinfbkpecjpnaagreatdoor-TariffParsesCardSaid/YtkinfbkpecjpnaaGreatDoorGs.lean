/-
 Trips and times: what is asked of them, in plain Lean.
-/
import Derived.Test.YtkinfbkpecjpnaaGreatDoorGr
import Derived.Test.YtkinfbkpecjpnaaGreatDoorGf
set_option linter.all false
/-
 Trips: what is wrong with one; rules, points, fares.
-/
namespace Go.Fx
open Go.Proofs Go.RowKit
structure Seg where
 z : Int
 me : Int
 se : Int
def seg0 : Seg := ⟨0, 0, 0⟩
structure Trp where
 m : Mom
 fx : Bool
 ex : List Int
 sg : List Seg
structure XOk (x : Trp) : Prop where
 ex : x.ex.length <= 1000
 sg : x.sg.length <= 1000
abbrev sgx (x : Trp) (i : Nat) : Seg := x.sg.getD i seg0
@[irreducible] def tripH (t : Trf) (x : Trp) : Int := firstS [trfE t, isOk (momB x.m) 2, isOk ((x.ex.length : Int) == (t.extras.length : Int)) 10]
@[irreducible] def exE (x : Trp) (i : Nat) : Int := isOk (inB (x.ex.getD i 0) 0 20) 2
@[irreducible] def tripM (x : Trp) : Int := firstS [isOk (decide (0 < (x.sg.length : Int))) 10, isOk (decide ((x.sg.length : Int) <= 60)) 8]
@[irreducible] def sgE (t : Trf) (x : Trp) (i : Nat) : Int := firstS [isOk (zoneIn t (sgx x i).z) 6, isOk (bif inB (sgx x i).me 0 100000 then inB (sgx x i).se 1 36000 else false) 2]
@[irreducible] def tripE (t : Trf) (x : Trp) : Int := bif decide (tripH t x = 0) then (bif decide (scanE (exE x) (List.range x.ex.length) = 0) then (bif decide (tripM x = 0) then scanE (sgE t x) (List.range x.sg.length) else tripM x) else scanE (exE x) (List.range x.ex.length)) else tripH t x
@[irreducible] def tripN (t : Trf) (x : Trp) : Int := bif decide (tripH t x = 0) then (bif decide (scanE (exE x) (List.range x.ex.length) = 0) then (bif decide (tripM x = 0) then scanN (sgE t x) (List.range x.sg.length) else 0) else scanN (exE x) (List.range x.ex.length)) else 0
structure TripOk (t : Trf) (x : Trp) : Prop where
 trf : trfE t = 0
 mom : momB x.m = true
 exl : x.ex.length = t.extras.length
 ex : ∀ j, j < x.ex.length -> 0 <= x.ex.getD j 0 /\ x.ex.getD j 0 <= 20
 pos : 0 < x.sg.length
 len : x.sg.length <= 60
 z : ∀ j, j < x.sg.length -> zoneIn t (sgx x j).z = true
 me : ∀ j, j < x.sg.length -> 0 <= (sgx x j).me /\ (sgx x j).me <= 100000
 se : ∀ j, j < x.sg.length -> 1 <= (sgx x j).se /\ (sgx x j).se <= 36000
def segM (x : Trp) : Nat -> Mom
 | 0 => x.m
 | k + 1 => laterQ (segM x k) (sgx x k).se
def segP (x : Trp) (k : Nat) : Plc := ⟨(sgx x k).z, segM x k⟩
def segH (t : Trf) (x : Trp) (k : Nat) : List Int := holdI t (segP x k) t.rules.length
@[irreducible] def segE (t : Trf) (x : Trp) (k : Nat) : Int := bif momB (segM x k) then oneE (segH t x k) else 2
def segN (t : Trf) (x : Trp) (k : Nat) : Int := oneN (segH t x k)
def segR (t : Trf) (x : Trp) (k : Nat) : Rul := t.rules.getD (segN t x k).toNat rul0
@[irreducible] def rideE (t : Trf) (x : Trp) : Int := bif decide (tripE t x = 0) then scanE (segE t x) (List.range x.sg.length) else tripE t x
def accP (f : Nat -> Int) : Nat -> Int
 | 0 => 0
 | k + 1 => accP f k + f k
end Go.Fx
/-
 Fares of trips.
-/
namespace Go.Fx
open Go.Proofs Go.RowKit
def fixP (t : Trf) (x : Trp) (j : Nat) : Bool := bif (t.fixed.getD j fxd0).fr == (sgx x 0).z then (t.fixed.getD j fxd0).tt == (sgx x (x.sg.length - 1)).z else false
def fixI (t : Trf) (x : Trp) : Int := findI (fixP t x) t.fixed.length
def exS (t : Trf) (x : Trp) : Nat -> Int
 | 0 => 0
 | i + 1 => exS t x i + x.ex.getD i 0 * (t.extras.getD i ext0).am
@[irreducible] def drvQ (t : Trf) (x : Trp) (f : Nat -> Int) : Int := bif x.fx then (t.fixed.getD (fixI t x).toNat fxd0).am else (accP f x.sg.length).tdiv t.unit * t.step
@[irreducible] def staQ (t : Trf) (x : Trp) : Int := bif x.fx then 0 else (segR t x 0).st
def totQ (t : Trf) (x : Trp) (f : Nat -> Int) : Int := staQ t x + drvQ t x f + exS t x x.ex.length
@[irreducible] def fareE (t : Trf) (x : Trp) (f : Nat -> Int) : Int := bif (bif x.fx then decide (fixI t x < 0) else false) then 12 else bif decide (1000000000 < totQ t x f) then 8 else 0
@[irreducible] def fareZ (t : Trf) (x : Trp) (f : Nat -> Int) (n : Int) : Int := bif decide (fareE t x f = 0) then n else 0
theorem rules_len {t : Trf} (h : trfE t = 0) : t.rules.length <= 12 := (pE_0 ((trf_0 h).2 2 (by decide))).1
end Go.Fx
/-
 Times of the day at which a rule may begin or end; what is looked for at all of them.
-/
namespace Go.Fx
open Go.Proofs Go.RowKit
def chgL (t : Trf) : Nat -> List Int
 | 0 => [0]
 | k + 1 => chgL t k ++ [(t.rules.getD k rul0).bg, (t.rules.getD k rul0).en.tmod 86400]
def timesL (t : Trf) : List Int := compI (sortI (chgL t t.rules.length))
theorem chgL_len (t : Trf) : ∀ k, (chgL t k).length = 2 * k + 1
 | 0 => rfl
 | k + 1 => by simp [chgL, chgL_len t k]; omega
theorem chgL_ne (t : Trf) (k : Nat) : chgL t k ≠ [] := fun h => by have := chgL_len t k; rw [h] at this; simp at this
theorem chgL_mem {t : Trf} {x : Int} : ∀ {k}, x ∈ chgL t k ↔ x = 0 \/ ∃ j, j < k /\ (x = (t.rules.getD j rul0).bg \/ x = (t.rules.getD j rul0).en.tmod 86400)
 | 0 => by simp [chgL]
 | k + 1 => by
  simp only [chgL, List.mem_append, chgL_mem (k := k), List.mem_cons, List.not_mem_nil, or_false]
  constructor
  ·rintro ((h | ⟨j, hj, h⟩) | h)
   ·exact .inl h
   ·exact .inr ⟨j, by omega, h⟩
   ·exact .inr ⟨k, by omega, h⟩
  ·rintro (h | ⟨j, hj, h⟩)
   ·exact .inl (.inl h)
   ·rcases Nat.lt_succ_iff_lt_or_eq.1 hj with c | c
    ·exact .inl (.inr ⟨j, c, h⟩)
    ·rw [c] at h; exact .inr h
theorem sortI_mem {l : List Int} {x : Int} : x ∈ sortI l ↔ x ∈ l := List.mem_mergeSort
theorem sortI_ne {l : List Int} (h : l ≠ []) : sortI l ≠ [] := fun e => h (by
 have : (sortI l).length = l.length := by simp [sortI, List.length_mergeSort]
 rw [e] at this; exact List.eq_nil_of_length_eq_zero this.symm)
theorem sortI_srt (l : List Int) : (sortI l).Pairwise (· <= ·) := by
 have h : (sortI l).Pairwise fun x y => decide (x <= y) = true := by
  refine List.pairwise_mergeSort (fun a b c h1 h2 => ?_) (fun a b => ?_) l
  ·have := of_decide_eq_true h1; have := of_decide_eq_true h2; exact decide_eq_true (by omega)
  ·rcases Int.le_total a b with c | c
   ·simp [c]
   ·simp [c]
 exact h.imp fun h => of_decide_eq_true h
theorem arr_get {l : List Int} {i : Nat} (h : i < l.length) : l.toArray[i]! = l[i] := by
 rw [getElem!_pos _ i (by simpa using h)]; simp
theorem comp_mem {l : List Int} {x : Int} : x ∈ compI l ↔ x ∈ l := by
 unfold compI Lib.compact Lib.compactUpTo
 simp only [List.mem_map, List.mem_filter, List.mem_range]
 constructor
 ·rintro ⟨i, ⟨hi, _⟩, rfl⟩
  rw [arr_get hi]
  exact List.getElem_mem hi
 ·intro h
  obtain ⟨i, hi, rfl⟩ := List.getElem_of_mem h
  clear h
  induction i with
  | zero => exact ⟨0, ⟨hi, by simp [Lib.keeps]⟩, arr_get hi⟩
  | succ i ih =>
   by_cases e : l[i + 1] = l[i]
   ·obtain ⟨j, hj, e2⟩ := ih (by omega)
    exact ⟨j, hj, by rw [e2, e]⟩
   ·refine ⟨i + 1, ⟨hi, ?_⟩, arr_get hi⟩
    unfold Lib.keeps
    refine decide_eq_true (.inr ?_)
    rw [arr_get hi, Nat.add_sub_cancel, arr_get (by omega)]
    exact e
theorem comp_srt {l : List Int} (h : l.Pairwise (· <= ·)) : (compI l).Pairwise (· < ·) := by
 unfold compI Lib.compact Lib.compactUpTo
 rw [List.pairwise_map]
 have h0 : ((List.range l.length).filter (Lib.keeps l.toArray)).Pairwise (· < ·) := List.pairwise_lt_range.sublist (List.filter_sublist)
 refine h0.imp_of_mem fun {a b} ha hb hab => ?_
 have ha := List.mem_range.1 (List.mem_filter.1 ha).1
 obtain ⟨hb, hk⟩ := List.mem_filter.1 hb
 have hb := List.mem_range.1 hb
 unfold Lib.keeps at hk
 rcases of_decide_eq_true hk with c | c
 ·omega
 ·rw [arr_get hb, arr_get (by omega)] at c
  rw [arr_get ha, arr_get hb]
  have hp := List.pairwise_iff_getElem.1 h
  have h1 : l[b - 1] <= l[b] := hp (b - 1) b (by omega) hb (by omega)
  have h2 : l[a] <= l[b - 1] := by
   rcases Nat.lt_or_ge a (b - 1) with d | d
   ·exact hp a (b - 1) (by omega) (by omega) d
   ·have : a = b - 1 := by omega
    subst this; exact Int.le_refl _
  omega
theorem srt_eq : ∀ {a b : List Int}, a.Pairwise (· < ·) -> b.Pairwise (· < ·) -> (∀ x, x ∈ a ↔ x ∈ b) -> a = b
 | [], [], _, _, _ => rfl
 | [], y :: b, _, _, h => by have := (h y).2 (by simp); simp at this
 | x :: a, [], _, _, h => by have := (h x).1 (by simp); simp at this
 | x :: a, y :: b, ha, hb, h => by
  obtain ⟨a1, a2⟩ := List.pairwise_cons.1 ha
  obtain ⟨b1, b2⟩ := List.pairwise_cons.1 hb
  have e : x = y := by
   rcases List.mem_cons.1 ((h x).1 (by simp)) with c | c
   ·exact c
   ·rcases List.mem_cons.1 ((h y).2 (by simp)) with d | d
    ·exact d.symm
    ·have := a1 y d; have := b1 x c; omega
  subst e
  congr 1
  refine srt_eq a2 b2 fun z => ?_
  constructor
  ·intro hz
   rcases List.mem_cons.1 ((h z).1 (List.mem_cons_of_mem _ hz)) with c | c
   ·have := a1 z hz; omega
   ·exact c
  ·intro hz
   rcases List.mem_cons.1 ((h z).2 (List.mem_cons_of_mem _ hz)) with c | c
   ·have := b1 z hz; omega
   ·exact c
theorem SortI_pair {l : List Int} (h : SortI l) : l.Pairwise (· < ·) := List.pairwise_iff_getElem.2 fun i j hi hj hij => by
 have := h i j hij hj
 simpa [List.getD_eq_getElem?_getD, List.getElem?_eq_getElem hj, List.getElem?_eq_getElem hi] using this
def TimeS (t : Trf) (x : Int) : Prop := x = 0 \/ ∃ j, j < t.rules.length /\ (x = (t.rules.getD j rul0).bg \/ x = (t.rules.getD j rul0).en) /\ x < 86400
theorem en_mod {n : Int} (h : 0 <= n /\ n <= 86400) : n.tmod 86400 = n /\ n < 86400 \/ n.tmod 86400 = 0 /\ n = 86400 := by
 rw [Int.tmod_eq_emod_of_nonneg h.1]; omega
theorem times_mem {t : Trf} (h : trfE t = 0) {x : Int} : x ∈ timesL t ↔ TimeS t x := by
 unfold timesL TimeS
 rw [comp_mem, sortI_mem, chgL_mem]
 constructor
 ·rintro (e | ⟨j, hj, e⟩)
  ·exact .inl e
  ·have r := trf_rule h hj
   rcases e with e | e
   ·exact .inr ⟨j, hj, .inl e, by have := r.bg; omega⟩
   ·rcases en_mod r.en with c | c
    ·exact .inr ⟨j, hj, .inr (by rw [e, c.1]), by omega⟩
    ·exact .inl (by rw [e, c.1])
 ·rintro (e | ⟨j, hj, e, hx⟩)
  ·exact .inl e
  ·have r := trf_rule h hj
   rcases e with e | e
   ·exact .inr ⟨j, hj, .inl e⟩
   ·rcases en_mod r.en with c | c
    ·exact .inr ⟨j, hj, .inr (by rw [c.1]; exact e)⟩
    ·omega
theorem times_srt (t : Trf) : (timesL t).Pairwise (· < ·) := comp_srt (sortI_srt _)
theorem times_eq {t : Trf} (h : trfE t = 0) {l : List Int} (hl : SortI l) (hm : ∀ x, x ∈ l ↔ TimeS t x) : l = timesL t :=
 srt_eq (SortI_pair hl) (times_srt t) fun x => by rw [hm, times_mem h]
theorem times_len {t : Trf} (h : trfE t = 0) : (timesL t).length <= 25 := by
 have a := comp_len (sortI (chgL t t.rules.length))
 have b : (sortI (chgL t t.rules.length)).length = 2 * t.rules.length + 1 := by simp [sortI, List.length_mergeSort, chgL_len]
 have c := rules_len h
 unfold timesL; omega
structure TimesI (t : Trf) (l : List Int) : Prop where
 srt : SortI l
 pos : 0 < l.length
 mem : ∀ x ∈ l, TimeS t x
 all : ∀ x, TimeS t x -> x <= l.getD (l.length - 1) 0 -> x ∈ l
 bd : 0 <= l.getD (l.length - 1) 0 /\ l.getD (l.length - 1) 0 < 86400
theorem find_neg {p : Nat -> Bool} {n : Nat} (h : ∀ j, j < n -> p j = false) : decide (0 <= findI p n) = false := by rw [findI_none h]; rfl
end Go.Fx
/-
 From change to change the rule stays; a gap, or an overlap, is found at its first time.
-/
namespace Go.Fx
open Go.Proofs Go.RowKit
theorem gate_ok {t : Trf} {p : Plc} : gateE t p = 0 ↔ trfE t = 0 /\ zoneIn t p.z = true /\ momB p.m = true := by
 constructor
 ·intro h
  unfold gateE at h
  have z := firstS_zero h
  have z1 : placeE t p = 0 := z _ (by simp)
  unfold placeE at z1
  have y := firstS_zero z1
  exact ⟨z _ (by simp), isOk_0 (b := zoneIn t p.z) (e := 6) (y _ (by simp)) (by decide), isOk_0 (b := momB p.m) (e := 2) (y _ (by simp)) (by decide)⟩
 ·rintro ⟨a, b, c⟩
  unfold gateE placeE
  rw [a, b, c]; rfl
def nowE (t : Trf) (p : Plc) : Int := oneE (holdI t p t.rules.length)
def nowN (t : Trf) (p : Plc) : Int := oneN (holdI t p t.rules.length)
def nxtC (t : Trf) (p : Plc) (d i : Nat) : Plc := ⟨p.z, p.m.d + d, (timesL t).getD i 0⟩
def nxtS (t : Trf) (p : Plc) (d i : Nat) : Bool := bif (p.m.d + (d : Int) == p.m.d) then decide ((timesL t).getD i 0 <= p.m.s) else false
def nxtD (t : Trf) (p : Plc) (d i : Nat) : Bool := bif nowN t (nxtC t p d i) == nowN t p then nowE t (nxtC t p d i) == nowE t p else false
def nxtP (t : Trf) (p : Plc) (d i : Nat) : Bool := bif nxtS t p d i then false else !nxtD t p d i
def nxtI (t : Trf) (p : Plc) (d : Nat) : Int := findI (nxtP t p d) (timesL t).length
def lastD (p : Plc) : Int := bif decide (p.m.d + 400 < 100000) then p.m.d + 400 else 100000
def nxtN (p : Plc) : Nat := (lastD p + 1 - p.m.d).toNat
def nxtF (t : Trf) (p : Plc) : Int := findI (fun d => decide (0 <= nxtI t p d)) (nxtN p)
def nxtM (t : Trf) (p : Plc) : Mom := ⟨p.m.d + nxtF t p, (timesL t).getD (nxtI t p (nxtF t p).toNat).toNat 0⟩
@[irreducible] def chE (t : Trf) (p : Plc) : Int := bif decide (gateE t p = 0) then (bif decide (0 <= nxtF t p) then 0 else 12) else gateE t p
@[irreducible] def chM (t : Trf) (p : Plc) : Mom := bif decide (chE t p = 0) then nxtM t p else ⟨0, 0⟩
theorem ch_gate {t : Trf} {p : Plc} (h : gateE t p ≠ 0) : chE t p = gateE t p /\ chM t p = ⟨0, 0⟩ := by
 have a : chE t p = gateE t p := by unfold chE; rw [decide_eq_false h]; rfl
 exact ⟨a, by unfold chM; rw [a, decide_eq_false h]; rfl⟩
theorem ch_hit {t : Trf} {p : Plc} (hg : gateE t p = 0) {d i : Nat} (hd : d < nxtN p) (hi : i < (timesL t).length) (h1 : ∀ d', d' < d -> decide (0 <= nxtI t p d') = false) (h2 : ∀ i', i' < i -> nxtP t p d i' = false) (h3 : nxtP t p d i = true) :
  chE t p = 0 /\ chM t p = ⟨p.m.d + d, (timesL t).getD i 0⟩ := by
 have a : nxtI t p d = i := findI_hit hi h2 h3
 have b : nxtF t p = d := findI_hit (p := fun d => decide (0 <= nxtI t p d)) hd h1 (by rw [a]; exact decide_eq_true (by omega))
 have e : chE t p = 0 := by unfold chE; rw [hg, b, decide_eq_true (show (0 : Int) <= (d : Int) by omega)]; rfl
 refine ⟨e, ?_⟩
 unfold chM nxtM
 rw [e, b]; simp only [Int.toNat_natCast]; rw [a]; rfl
theorem ch_none {t : Trf} {p : Plc} (hg : gateE t p = 0) (h1 : ∀ d, d < nxtN p -> decide (0 <= nxtI t p d) = false) : chE t p = 12 /\ chM t p = ⟨0, 0⟩ := by
 have b : nxtF t p = -1 := findI_none h1
 have e : chE t p = 12 := by unfold chE; rw [hg, b]; rfl
 exact ⟨e, by unfold chM; rw [e]; rfl⟩
theorem lastD_bd (p : Plc) : lastD p <= 100000 /\ lastD p <= p.m.d + 400 /\ (lastD p = 100000 \/ lastD p = p.m.d + 400) := by
 unfold lastD
 by_cases h : p.m.d + 400 < 100000 <;> simp [h] <;> omega
end Go.Fx
