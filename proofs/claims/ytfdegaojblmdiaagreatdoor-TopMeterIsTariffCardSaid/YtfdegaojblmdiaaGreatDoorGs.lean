/-
  Trips and times: what is asked of them, in plain Lean.
-/
import Derived.Test.YtfdegaojblmdiaaGreatDoorGr
import Derived.Test.YtfdegaojblmdiaaGreatDoorGf

set_option linter.all false

/-
  Trips: what is wrong with one; rules, points, fares.
-/
namespace Go.Fx
open Go.Proofs Go.RowKit

structure Seg where
  z : Int
  me : Int
  se : Int
def seg0 : Seg := ⟨0, 0, 0⟩
def segC (s : Seg) : List AV := [.int .i64 s.z, .int .i64 s.me, .int .i64 s.se]
def segA (s : Seg) : AV := .agg 3 (tbl (segC s))
def segS (l : List Seg) : AV := .slc 3 l.length (fun i j => tbl (segC (l.getD i seg0)) j)
structure Trp where
  m : Mom
  fx : Bool
  ex : List Int
  sg : List Seg
def trpC (x : Trp) : List AV := [.int .i64 x.m.d, .int .i64 x.m.s, .bool x.fx, iRow x.ex, segS x.sg]
def trpA (x : Trp) : AV := .agg 5 (tbl (trpC x))
structure XOk (x : Trp) : Prop where
  ex : x.ex.length ≤ 1000
  sg : x.sg.length ≤ 1000
abbrev sgx (x : Trp) (i : Nat) : Seg := x.sg.getD i seg0

@[irreducible] def tripH (t : Trf) (x : Trp) : Int := firstS [trfE t, isOk (momB x.m) 2, isOk ((x.ex.length : Int) == (t.extras.length : Int)) 10]
@[irreducible] def exE (x : Trp) (i : Nat) : Int := isOk (inB (x.ex.getD i 0) 0 20) 2
@[irreducible] def tripM (x : Trp) : Int := firstS [isOk (decide (0 < (x.sg.length : Int))) 10, isOk (decide ((x.sg.length : Int) ≤ 60)) 8]
@[irreducible] def sgE (t : Trf) (x : Trp) (i : Nat) : Int := firstS [isOk (zoneIn t (sgx x i).z) 6, isOk (bif inB (sgx x i).me 0 100000 then inB (sgx x i).se 1 36000 else false) 2]
@[irreducible] def tripE (t : Trf) (x : Trp) : Int := bif decide (tripH t x = 0) then (bif decide (scanE (exE x) (List.range x.ex.length) = 0) then (bif decide (tripM x = 0) then scanE (sgE t x) (List.range x.sg.length) else tripM x) else scanE (exE x) (List.range x.ex.length)) else tripH t x
@[irreducible] def tripN (t : Trf) (x : Trp) : Int := bif decide (tripH t x = 0) then (bif decide (scanE (exE x) (List.range x.ex.length) = 0) then (bif decide (tripM x = 0) then scanN (sgE t x) (List.range x.sg.length) else 0) else scanN (exE x) (List.range x.ex.length)) else 0
theorem rscan_hit {g : Nat → Int} {n i : Nat} (hi : i < n) (h0 : ∀ j, j < i → g j = 0) {e : Int} (he : g i = e) (hne : e ≠ 0) : scanE g (List.range n) = e ∧ scanN g (List.range n) = i := by
  have w := scan_hit (g := g) (d := 0) (l := List.range n) (i := i) (by simpa using hi) (fun j hj => by rw [range_at (by omega)]; exact h0 j hj) (by rw [range_at hi, he]; exact hne)
  rw [range_at hi, he] at w; exact w
theorem rscan_none {g : Nat → Int} {n : Nat} (h0 : ∀ j, j < n → g j = 0) : scanE g (List.range n) = 0 ∧ scanN g (List.range n) = 0 :=
  scan_none (g := g) (d := 0) (l := List.range n) (fun j hj => by rw [range_at (by simpa using hj)]; exact h0 j (by simpa using hj))
theorem rscan_zero {g : Nat → Int} {n : Nat} (h : scanE g (List.range n) = 0) {j : Nat} (hj : j < n) : g j = 0 := by
  have := scan_zero (g := g) (d := 0) (l := List.range n) h j (by simpa using hj)
  rwa [range_at hj] at this
theorem trip_1 {t : Trf} {x : Trp} {e : Int} (h : tripH t x = e) (h0 : e ≠ 0) : tripE t x = e ∧ tripN t x = 0 := by
  unfold tripE tripN; rw [h, decide_eq_false h0]; exact ⟨rfl, rfl⟩
theorem trip_2 {t : Trf} {x : Trp} {i : Nat} (h : tripH t x = 0) (hi : i < x.ex.length) (h0 : ∀ j, j < i → exE x j = 0) {e : Int} (he : exE x i = e) (hne : e ≠ 0) : tripE t x = e ∧ tripN t x = i := by
  have w := rscan_hit hi h0 he hne
  unfold tripE tripN; rw [h, w.1, w.2, decide_eq_false hne]; exact ⟨rfl, rfl⟩
theorem trip_3 {t : Trf} {x : Trp} (h : tripH t x = 0) (h0 : ∀ j, j < x.ex.length → exE x j = 0) {e : Int} (he : tripM x = e) (hne : e ≠ 0) : tripE t x = e ∧ tripN t x = 0 := by
  have w := rscan_none h0
  unfold tripE tripN; rw [h, w.1, he, decide_eq_false hne]; exact ⟨rfl, rfl⟩
theorem trip_4 {t : Trf} {x : Trp} {i : Nat} (h : tripH t x = 0) (h0 : ∀ j, j < x.ex.length → exE x j = 0) (hm : tripM x = 0) (hi : i < x.sg.length) (h1 : ∀ j, j < i → sgE t x j = 0) {e : Int} (he : sgE t x i = e) (hne : e ≠ 0) : tripE t x = e ∧ tripN t x = i := by
  have w := rscan_none h0
  have v := rscan_hit hi h1 he hne
  unfold tripE tripN; rw [h, w.1, hm, v.1, v.2]; exact ⟨rfl, rfl⟩
theorem trip_5 {t : Trf} {x : Trp} (h : tripH t x = 0) (h0 : ∀ j, j < x.ex.length → exE x j = 0) (hm : tripM x = 0) (h1 : ∀ j, j < x.sg.length → sgE t x j = 0) : tripE t x = 0 ∧ tripN t x = 0 := by
  have w := rscan_none h0
  have v := rscan_none h1
  unfold tripE tripN; rw [h, w.1, hm, v.1, v.2]; exact ⟨rfl, rfl⟩
theorem trip_h {t : Trf} {x : Trp} (h : tripE t x = 0) : tripH t x = 0 ∧ (∀ j, j < x.ex.length → exE x j = 0) ∧ tripM x = 0 ∧ ∀ j, j < x.sg.length → sgE t x j = 0 := by
  unfold tripE at h
  by_cases a : tripH t x = 0
  · rw [a] at h
    by_cases b : scanE (exE x) (List.range x.ex.length) = 0
    · rw [b] at h
      by_cases c : tripM x = 0
      · rw [c] at h
        exact ⟨a, fun j hj => rscan_zero b hj, c, fun j hj => rscan_zero h hj⟩
      · rw [decide_eq_false c] at h; exact absurd h c
    · rw [decide_eq_false b] at h; exact absurd h b
  · rw [decide_eq_false a] at h; exact absurd h a
structure TripOk (t : Trf) (x : Trp) : Prop where
  trf : trfE t = 0
  mom : momB x.m = true
  exl : x.ex.length = t.extras.length
  ex : ∀ j, j < x.ex.length → 0 ≤ x.ex.getD j 0 ∧ x.ex.getD j 0 ≤ 20
  pos : 0 < x.sg.length
  len : x.sg.length ≤ 60
  z : ∀ j, j < x.sg.length → zoneIn t (sgx x j).z = true
  me : ∀ j, j < x.sg.length → 0 ≤ (sgx x j).me ∧ (sgx x j).me ≤ 100000
  se : ∀ j, j < x.sg.length → 1 ≤ (sgx x j).se ∧ (sgx x j).se ≤ 36000
theorem trip_0 {t : Trf} {x : Trp} (h : tripE t x = 0) : TripOk t x := by
  obtain ⟨a, b, c, d⟩ := trip_h h
  unfold tripH at a
  unfold tripM at c
  have a := firstS_zero a
  have c := firstS_zero c
  have a0 := a (trfE t) (by simp)
  have a1 := isOk_0 (b := momB x.m) (e := 2) (a _ (by simp)) (by decide)
  have a2 := isOk_0 (b := (x.ex.length : Int) == (t.extras.length : Int)) (e := 10) (a _ (by simp)) (by decide)
  have c0 := isOk_0 (b := decide (0 < (x.sg.length : Int))) (e := 10) (c _ (by simp)) (by decide)
  have c1 := isOk_0 (b := decide ((x.sg.length : Int) ≤ 60)) (e := 8) (c _ (by simp)) (by decide)
  have a2 := eq_of_beq a2
  have c0 := of_decide_eq_true c0
  have c1 := of_decide_eq_true c1
  have d' : ∀ j, j < x.sg.length → zoneIn t (sgx x j).z = true ∧ (0 ≤ (sgx x j).me ∧ (sgx x j).me ≤ 100000) ∧ (1 ≤ (sgx x j).se ∧ (sgx x j).se ≤ 36000) := fun j hj => by
    have q := d j hj
    unfold sgE at q
    have q := firstS_zero q
    have q0 := isOk_0 (b := zoneIn t (sgx x j).z) (e := 6) (q _ (by simp)) (by decide)
    have q1 := and_t (isOk_0 (b := bif inB (sgx x j).me 0 100000 then inB (sgx x j).se 1 36000 else false) (e := 2) (q _ (by simp)) (by decide))
    exact ⟨q0, inB_iff.1 q1.1, inB_iff.1 q1.2⟩
  exact ⟨a0, a1, by omega, fun j hj => by have q := b j hj; unfold exE at q; exact inB_iff.1 (isOk_0 (b := inB (x.ex.getD j 0) 0 20) (e := 2) q (by decide)), by omega, by omega, fun j hj => (d' j hj).1, fun j hj => (d' j hj).2.1, fun j hj => (d' j hj).2.2⟩

def segM (x : Trp) : Nat → Mom
  | 0 => x.m
  | k + 1 => laterQ (segM x k) (sgx x k).se
def segP (x : Trp) (k : Nat) : Plc := ⟨(sgx x k).z, segM x k⟩
def segH (t : Trf) (x : Trp) (k : Nat) : List Int := holdI t (segP x k) t.rules.length
@[irreducible] def segE (t : Trf) (x : Trp) (k : Nat) : Int := bif momB (segM x k) then oneE (segH t x k) else 2
def segN (t : Trf) (x : Trp) (k : Nat) : Int := oneN (segH t x k)
def segR (t : Trf) (x : Trp) (k : Nat) : Rul := t.rules.getD (segN t x k).toNat rul0
@[irreducible] def rideE (t : Trf) (x : Trp) : Int := bif decide (tripE t x = 0) then scanE (segE t x) (List.range x.sg.length) else tripE t x
theorem ride_1 {t : Trf} {x : Trp} {e : Int} (h : tripE t x = e) (h0 : e ≠ 0) : rideE t x = e := by unfold rideE; rw [h, decide_eq_false h0]; rfl
theorem ride_2 {t : Trf} {x : Trp} {i : Nat} (h : tripE t x = 0) (hi : i < x.sg.length) (h0 : ∀ j, j < i → segE t x j = 0) {e : Int} (he : segE t x i = e) (hne : e ≠ 0) : rideE t x = e := by
  unfold rideE; rw [h, (rscan_hit hi h0 he hne).1]; rfl
theorem ride_3 {t : Trf} {x : Trp} (h : tripE t x = 0) (h0 : ∀ j, j < x.sg.length → segE t x j = 0) : rideE t x = 0 := by
  unfold rideE; rw [h, (rscan_none h0).1]; rfl
theorem ride_0 {t : Trf} {x : Trp} (h : rideE t x = 0) : TripOk t x ∧ ∀ j, j < x.sg.length → segE t x j = 0 := by
  unfold rideE at h
  by_cases a : tripE t x = 0
  · rw [a] at h; exact ⟨trip_0 a, fun j hj => rscan_zero h hj⟩
  · rw [decide_eq_false a] at h; exact absurd h a
theorem laterQ_add {m : Mom} {a b : Int} (h0 : 0 ≤ m.s) (ha : 0 ≤ a) (hb : 0 ≤ b) : laterQ (laterQ m a) b = laterQ m (a + b) := by
  unfold laterQ
  have e1 : (m.s + a).tmod 86400 = (m.s + a) % 86400 := Int.tmod_eq_emod_of_nonneg (by omega)
  have e2 : (m.s + a).tdiv 86400 = (m.s + a) / 86400 := Int.tdiv_eq_ediv_of_nonneg (by omega)
  have e3 : (m.s + (a + b)).tmod 86400 = (m.s + (a + b)) % 86400 := Int.tmod_eq_emod_of_nonneg (by omega)
  have e4 : (m.s + (a + b)).tdiv 86400 = (m.s + (a + b)) / 86400 := Int.tdiv_eq_ediv_of_nonneg (by omega)
  have e5 : ((m.s + a) % 86400 + b).tmod 86400 = ((m.s + a) % 86400 + b) % 86400 := Int.tmod_eq_emod_of_nonneg (by omega)
  have e6 : ((m.s + a) % 86400 + b).tdiv 86400 = ((m.s + a) % 86400 + b) / 86400 := Int.tdiv_eq_ediv_of_nonneg (by omega)
  simp only [e1, e2, e3, e4, e5, e6, Mom.mk.injEq]
  constructor <;> omega
def segT (x : Trp) : Nat → Int
  | 0 => 0
  | k + 1 => segT x k + (sgx x k).se
theorem segT_bd {t : Trf} {x : Trp} (h : TripOk t x) : ∀ k, k ≤ x.sg.length → 0 ≤ segT x k ∧ segT x k ≤ 36000 * k
  | 0, _ => by simp [segT]
  | k + 1, hk => by
    have := segT_bd h k (by omega)
    have := h.se k (by omega)
    simp only [segT]; omega
theorem segM_eq {t : Trf} {x : Trp} (h : TripOk t x) : ∀ k, k ≤ x.sg.length → segM x k = laterQ x.m (segT x k) ∧ 0 ≤ (segM x k).d ∧ (segM x k).d ≤ 100000 + k ∧ 0 ≤ (segM x k).s ∧ (segM x k).s ≤ 86399
  | 0, _ => by
    have w := mom_bd h.mom
    refine ⟨?_, ?_⟩
    · unfold segM segT laterQ
      have e1 : (x.m.s + 0).tmod 86400 = x.m.s := by rw [Int.tmod_eq_emod_of_nonneg (by omega)]; omega
      have e2 : (x.m.s + 0).tdiv 86400 = 0 := by rw [Int.tdiv_eq_ediv_of_nonneg (by omega)]; omega
      rw [e1, e2, Int.add_zero]
    · unfold segM; omega
  | k + 1, hk => by
    have w := mom_bd h.mom
    obtain ⟨e, b1, b2, b3, b4⟩ := segM_eq h k (by omega)
    have s := h.se k (by omega)
    have tb := segT_bd h k (by omega)
    refine ⟨?_, ?_⟩
    · show laterQ (segM x k) (sgx x k).se = laterQ x.m (segT x k + (sgx x k).se)
      rw [e, laterQ_add w.2.1 tb.1 (by omega)]
    · show 0 ≤ (laterQ (segM x k) (sgx x k).se).d ∧ _
      have e1 : ((segM x k).s + (sgx x k).se).tmod 86400 = ((segM x k).s + (sgx x k).se) % 86400 := Int.tmod_eq_emod_of_nonneg (by omega)
      have e2 : ((segM x k).s + (sgx x k).se).tdiv 86400 = ((segM x k).s + (sgx x k).se) / 86400 := Int.tdiv_eq_ediv_of_nonneg (by omega)
      simp only [segM, laterQ, e1, e2]
      omega

def ptM (t : Trf) (x : Trp) (k : Nat) : Int := (segR t x k).me * (sgx x k).me
def ptS (t : Trf) (x : Trp) (k : Nat) : Int := (segR t x k).se * (sgx x k).se
def ptX (t : Trf) (x : Trp) (k : Nat) : Int := bif decide (ptM t x k < ptS t x k) then ptS t x k else ptM t x k
def ptB (t : Trf) (x : Trp) (k : Nat) : Int := ptM t x k + ptS t x k
def accP (f : Nat → Int) : Nat → Int
  | 0 => 0
  | k + 1 => accP f k + f k
theorem hold_mem (t : Trf) (p : Plc) : ∀ n, ∀ x ∈ holdI t p n, 0 ≤ x ∧ x < n
  | 0, x, hx => by simp [holdI] at hx
  | n + 1, x, hx => by
    simp only [holdI] at hx
    cases hb : holdB t (t.rules.getD n rul0) p <;> rw [hb] at hx
    · have := hold_mem t p n x hx; omega
    · rcases List.mem_append.1 hx with h | h
      · have := hold_mem t p n x h; omega
      · simp at h; omega
theorem oneN_mem {l : List Int} (h : oneE l = 0) : oneN l ∈ l := by
  unfold oneE at h
  match l, h with
  | [x], _ => unfold oneN; simp
  | [], h => cases h
  | _ :: _ :: _, h => cases h
theorem segN_bd {t : Trf} {x : Trp} {k : Nat} (h : segE t x k = 0) : 0 ≤ segN t x k ∧ segN t x k < t.rules.length ∧ momB (segM x k) = true := by
  unfold segE at h
  cases hm : momB (segM x k) <;> rw [hm] at h
  · cases h
  · have := hold_mem t (segP x k) t.rules.length _ (oneN_mem (l := segH t x k) h)
    exact ⟨this.1, this.2, rfl⟩
theorem seg_rule {t : Trf} {x : Trp} {k : Nat} (ht : trfE t = 0) (h : segE t x k = 0) : ROk t.zones.length (segR t x k) := by
  have w := segN_bd h
  exact trf_rule ht (by omega)
theorem pt_bd {t : Trf} {x : Trp} {k : Nat} (ht : TripOk t x) (hk : k < x.sg.length) (h : segE t x k = 0) : (0 ≤ ptM t x k ∧ ptM t x k ≤ 100000000000) ∧ (0 ≤ ptS t x k ∧ ptS t x k ≤ 36000000000) := by
  have r := seg_rule ht.trf h
  have a := r.me; have b := r.se
  have c := ht.me k hk; have d := ht.se k hk
  have u := mul_bd (A := 1000000) (B := 100000) a.1 a.2 c.1 c.2
  have v := mul_bd (A := 1000000) (B := 36000) b.1 b.2 (by omega : 0 ≤ (sgx x k).se) d.2
  unfold ptM ptS
  exact ⟨by omega, by omega⟩
theorem ptX_bd {t : Trf} {x : Trp} {k : Nat} (ht : TripOk t x) (hk : k < x.sg.length) (h : segE t x k = 0) : 0 ≤ ptX t x k ∧ ptX t x k ≤ 136000000000 := by
  have w := pt_bd ht hk h
  unfold ptX
  cases decide (ptM t x k < ptS t x k)
  · show 0 ≤ ptM t x k ∧ ptM t x k ≤ _; omega
  · show 0 ≤ ptS t x k ∧ ptS t x k ≤ _; omega
theorem ptB_bd {t : Trf} {x : Trp} {k : Nat} (ht : TripOk t x) (hk : k < x.sg.length) (h : segE t x k = 0) : 0 ≤ ptB t x k ∧ ptB t x k ≤ 136000000000 := by
  have w := pt_bd ht hk h
  unfold ptB; omega
theorem accP_bd {f : Nat → Int} {n : Nat} (h : ∀ k, k < n → 0 ≤ f k ∧ f k ≤ 136000000000) : ∀ k, k ≤ n → 0 ≤ accP f k ∧ accP f k ≤ 136000000000 * k
  | 0, _ => by simp [accP]
  | k + 1, hk => by
    have := accP_bd h k (by omega)
    have := h k (by omega)
    simp only [accP]; omega
end Go.Fx

/-
  Fares of trips.
-/
namespace Go.Fx
open Go.Proofs Go.RowKit

def fixP (t : Trf) (x : Trp) (j : Nat) : Bool := bif (t.fixed.getD j fxd0).fr == (sgx x 0).z then (t.fixed.getD j fxd0).tt == (sgx x (x.sg.length - 1)).z else false
def fixI (t : Trf) (x : Trp) : Int := findI (fixP t x) t.fixed.length
def exS (t : Trf) (x : Trp) : Nat → Int
  | 0 => 0
  | i + 1 => exS t x i + x.ex.getD i 0 * (t.extras.getD i ext0).am
@[irreducible] def drvQ (t : Trf) (x : Trp) (f : Nat → Int) : Int := bif x.fx then (t.fixed.getD (fixI t x).toNat fxd0).am else (accP f x.sg.length).tdiv t.unit * t.step
@[irreducible] def staQ (t : Trf) (x : Trp) : Int := bif x.fx then 0 else (segR t x 0).st
def totQ (t : Trf) (x : Trp) (f : Nat → Int) : Int := staQ t x + drvQ t x f + exS t x x.ex.length
@[irreducible] def fareE (t : Trf) (x : Trp) (f : Nat → Int) : Int := bif (bif x.fx then decide (fixI t x < 0) else false) then 12 else bif decide (1000000000 < totQ t x f) then 8 else 0
@[irreducible] def fareZ (t : Trf) (x : Trp) (f : Nat → Int) (n : Int) : Int := bif decide (fareE t x f = 0) then n else 0
def fareA (t : Trf) (x : Trp) (f : Nat → Int) : AV := .agg 4 (tbl [.int .i64 (fareZ t x f (staQ t x)), .int .i64 (fareZ t x f (drvQ t x f)), .int .i64 (fareZ t x f (exS t x x.ex.length)), .int .i64 (fareZ t x f (totQ t x f))])
theorem fareZ_0 {t : Trf} {x : Trp} {f : Nat → Int} {n : Int} (h : fareE t x f = 0) : fareZ t x f n = n := by unfold fareZ; rw [h]; rfl
theorem fareZ_e {t : Trf} {x : Trp} {f : Nat → Int} {n e : Int} (h : fareE t x f = e) (h0 : e ≠ 0) : fareZ t x f n = 0 := by unfold fareZ; rw [h, decide_eq_false h0]; rfl
theorem fare_none {t : Trf} {x : Trp} {f : Nat → Int} (h : x.fx = true) (h1 : fixI t x < 0) : fareE t x f = 12 := by unfold fareE; rw [h, decide_eq_true h1]; rfl
theorem fare_big {t : Trf} {x : Trp} {f : Nat → Int} (h : x.fx = true → ¬ fixI t x < 0) (h1 : 1000000000 < totQ t x f) : fareE t x f = 8 := by
  unfold fareE
  cases hx : x.fx
  · rw [decide_eq_true h1]; rfl
  · rw [decide_eq_false (h hx), decide_eq_true h1]; rfl
theorem fare_fit {t : Trf} {x : Trp} {f : Nat → Int} (h : x.fx = true → ¬ fixI t x < 0) (h1 : ¬ 1000000000 < totQ t x f) : fareE t x f = 0 := by
  unfold fareE
  cases hx : x.fx
  · rw [decide_eq_false h1]; rfl
  · rw [decide_eq_false (h hx), decide_eq_false h1]; rfl
theorem fare_cases {t : Trf} {x : Trp} {f : Nat → Int} : (x.fx = true ∧ fixI t x < 0 ∧ fareE t x f = 12) ∨ ((x.fx = true → ¬ fixI t x < 0) ∧ 1000000000 < totQ t x f ∧ fareE t x f = 8) ∨ ((x.fx = true → ¬ fixI t x < 0) ∧ ¬ 1000000000 < totQ t x f ∧ fareE t x f = 0) := by
  by_cases a : x.fx = true ∧ fixI t x < 0
  · exact .inl ⟨a.1, a.2, fare_none a.1 a.2⟩
  · have a' : x.fx = true → ¬ fixI t x < 0 := fun h h1 => a ⟨h, h1⟩
    by_cases b : 1000000000 < totQ t x f
    · exact .inr (.inl ⟨a', b, fare_big a' b⟩)
    · exact .inr (.inr ⟨a', b, fare_fit a' b⟩)
theorem drv_fx {t : Trf} {x : Trp} {f : Nat → Int} (h : x.fx = true) : drvQ t x f = (t.fixed.getD (fixI t x).toNat fxd0).am ∧ staQ t x = 0 := by unfold drvQ staQ; rw [h]; exact ⟨rfl, rfl⟩
theorem drv_me {t : Trf} {x : Trp} {f : Nat → Int} (h : x.fx = false) : drvQ t x f = (accP f x.sg.length).tdiv t.unit * t.step ∧ staQ t x = (segR t x 0).st := by unfold drvQ staQ; rw [h]; exact ⟨rfl, rfl⟩
theorem ext_am {t : Trf} (h : trfE t = 0) {k : Nat} (hk : k < t.extras.length) : 0 ≤ (t.extras.getD k ext0).am ∧ (t.extras.getD k ext0).am ≤ 100000 := by
  have h1 : extE t k = 0 := (pE_0 ((trf_0 h).2 3 (by decide))).2 k hk
  unfold extE at h1
  cases b1 : nameB (t.extras.getD k ext0).name <;> rw [b1] at h1
  · cases h1
  · cases b2 : (List.range k).any (fun j => decide ((t.extras.getD j ext0).name = (t.extras.getD k ext0).name)) <;> rw [b2] at h1
    · exact inB_iff.1 (isOk_0 (b := inB (t.extras.getD k ext0).am 0 100000) (e := 2) h1 (by decide))
    · cases h1
theorem ext_len {t : Trf} (h : trfE t = 0) : t.extras.length ≤ 6 := (pE_0 ((trf_0 h).2 3 (by decide))).1
theorem fixed_len {t : Trf} (h : trfE t = 0) : t.fixed.length ≤ 16 := (pE_0 ((trf_0 h).2 4 (by decide))).1
theorem fxd_ok0 {t : Trf} (h : trfE t = 0) {k : Nat} (hk : k < t.fixed.length) : (0 ≤ (t.fixed.getD k fxd0).am ∧ (t.fixed.getD k fxd0).am ≤ 100000) ∧ ∀ j, j < k → ¬ ((t.fixed.getD j fxd0).fr = (t.fixed.getD k fxd0).fr ∧ (t.fixed.getD j fxd0).tt = (t.fixed.getD k fxd0).tt) := by
  have h1 : fxdE t k = 0 := (pE_0 ((trf_0 h).2 4 (by decide))).2 k hk
  unfold fxdE at h1
  cases b1 : (bif zoneIn t (t.fixed.getD k fxd0).fr then zoneIn t (t.fixed.getD k fxd0).tt else false) <;> rw [b1] at h1
  · cases h1
  cases b2 : inB (t.fixed.getD k fxd0).am 0 100000 <;> rw [b2] at h1
  · cases h1
  cases b3 : (List.range k).any (fun j => bif (t.fixed.getD j fxd0).fr == (t.fixed.getD k fxd0).fr then (t.fixed.getD j fxd0).tt == (t.fixed.getD k fxd0).tt else false) <;> rw [b3] at h1
  · refine ⟨inB_iff.1 b2, fun j hj ⟨e1, e2⟩ => ?_⟩
    have := any_no b3 hj
    rw [e1, e2] at this
    simp at this
  · cases h1
theorem fixI_bd (t : Trf) (x : Trp) : fixI t x = -1 ∨ (0 ≤ fixI t x ∧ fixI t x < t.fixed.length) := by
  unfold fixI
  generalize t.fixed.length = n
  induction n with
  | zero => exact .inl rfl
  | succ n ih =>
    simp only [findI]
    rcases ih with ih | ih
    · rw [ih]
      cases fixP t x n
      · exact .inl rfl
      · right; simp; omega
    · right
      rw [decide_eq_true ih.1]
      simp only [cond_true]; omega
theorem exS_bd {t : Trf} {x : Trp} (h : TripOk t x) : ∀ i, i ≤ x.ex.length → 0 ≤ exS t x i ∧ exS t x i ≤ 2000000 * i
  | 0, _ => by simp [exS]
  | i + 1, hi => by
    have := exS_bd h i (by omega)
    have a := h.ex i (by omega)
    have b := ext_am h.trf (k := i) (by have := h.exl; omega)
    have u := mul_bd (A := 20) (B := 100000) a.1 a.2 b.1 b.2
    simp only [exS]; omega
theorem drv_bd {t : Trf} {x : Trp} (h : TripOk t x) {f : Nat → Int} (hf : ∀ k, k < x.sg.length → 0 ≤ f k ∧ f k ≤ 136000000000) : (0 ≤ (accP f x.sg.length).tdiv t.unit ∧ (accP f x.sg.length).tdiv t.unit ≤ 8160000000000) ∧ (0 ≤ (accP f x.sg.length).tdiv t.unit * t.step ∧ (accP f x.sg.length).tdiv t.unit * t.step ≤ 8160000000000 * 100000) := by
  have u := trf_unit h.trf
  have a := accP_bd hf x.sg.length (Nat.le_refl _)
  have l := h.len
  have q := quo_bd (a := accP f x.sg.length) (d := t.unit) (B := 8160000000000) a.1 (by omega) (by omega)
  exact ⟨q, mul_bd q.1 q.2 u.2.1 u.2.2⟩
end Go.Fx

/-
  Times of the day at which a rule may begin or end; what is looked for at all of them.
-/
namespace Go.Fx
open Go.Proofs Go.RowKit

def chgL (t : Trf) : Nat → List Int
  | 0 => [0]
  | k + 1 => chgL t k ++ [(t.rules.getD k rul0).bg, (t.rules.getD k rul0).en.tmod 86400]
def timesL (t : Trf) : List Int := compI (sortI (chgL t t.rules.length))
theorem chgL_mem {t : Trf} {x : Int} : ∀ {k}, x ∈ chgL t k ↔ x = 0 ∨ ∃ j, j < k ∧ (x = (t.rules.getD j rul0).bg ∨ x = (t.rules.getD j rul0).en.tmod 86400)
  | 0 => by simp [chgL]
  | k + 1 => by
    simp only [chgL, List.mem_append, chgL_mem (k := k), List.mem_cons, List.not_mem_nil, or_false]
    constructor
    · rintro ((h | ⟨j, hj, h⟩) | h)
      · exact .inl h
      · exact .inr ⟨j, by omega, h⟩
      · exact .inr ⟨k, by omega, h⟩
    · rintro (h | ⟨j, hj, h⟩)
      · exact .inl (.inl h)
      · rcases Nat.lt_succ_iff_lt_or_eq.1 hj with c | c
        · exact .inl (.inr ⟨j, c, h⟩)
        · rw [c] at h; exact .inr h
theorem sortI_mem {l : List Int} {x : Int} : x ∈ sortI l ↔ x ∈ l := List.mem_mergeSort
theorem sortI_srt (l : List Int) : (sortI l).Pairwise (· ≤ ·) := by
  have h : (sortI l).Pairwise fun x y => decide (x ≤ y) = true := by
    refine List.pairwise_mergeSort (fun a b c h1 h2 => ?_) (fun a b => ?_) l
    · have := of_decide_eq_true h1; have := of_decide_eq_true h2; exact decide_eq_true (by omega)
    · rcases Int.le_total a b with c | c
      · simp [c]
      · simp [c]
  exact h.imp fun h => of_decide_eq_true h
theorem arr_get {l : List Int} {i : Nat} (h : i < l.length) : l.toArray[i]! = l[i] := by
  rw [getElem!_pos _ i (by simpa using h)]; simp
theorem comp_mem {l : List Int} {x : Int} : x ∈ compI l ↔ x ∈ l := by
  unfold compI Lib.compact Lib.compactUpTo
  simp only [List.mem_map, List.mem_filter, List.mem_range]
  constructor
  · rintro ⟨i, ⟨hi, _⟩, rfl⟩
    rw [arr_get hi]
    exact List.getElem_mem hi
  · intro h
    obtain ⟨i, hi, rfl⟩ := List.getElem_of_mem h
    clear h
    induction i with
    | zero => exact ⟨0, ⟨hi, by simp [Lib.keeps]⟩, arr_get hi⟩
    | succ i ih =>
      by_cases e : l[i + 1] = l[i]
      · obtain ⟨j, hj, e2⟩ := ih (by omega)
        exact ⟨j, hj, by rw [e2, e]⟩
      · refine ⟨i + 1, ⟨hi, ?_⟩, arr_get hi⟩
        unfold Lib.keeps
        refine decide_eq_true (.inr ?_)
        rw [arr_get hi, Nat.add_sub_cancel, arr_get (by omega)]
        exact e
def TimeS (t : Trf) (x : Int) : Prop := x = 0 ∨ ∃ j, j < t.rules.length ∧ (x = (t.rules.getD j rul0).bg ∨ x = (t.rules.getD j rul0).en) ∧ x < 86400
theorem en_mod {n : Int} (h : 0 ≤ n ∧ n ≤ 86400) : n.tmod 86400 = n ∧ n < 86400 ∨ n.tmod 86400 = 0 ∧ n = 86400 := by
  rw [Int.tmod_eq_emod_of_nonneg h.1]; omega
theorem times_mem {t : Trf} (h : trfE t = 0) {x : Int} : x ∈ timesL t ↔ TimeS t x := by
  unfold timesL TimeS
  rw [comp_mem, sortI_mem, chgL_mem]
  constructor
  · rintro (e | ⟨j, hj, e⟩)
    · exact .inl e
    · have r := trf_rule h hj
      rcases e with e | e
      · exact .inr ⟨j, hj, .inl e, by have := r.bg; omega⟩
      · rcases en_mod r.en with c | c
        · exact .inr ⟨j, hj, .inr (by rw [e, c.1]), by omega⟩
        · exact .inl (by rw [e, c.1])
  · rintro (e | ⟨j, hj, e, hx⟩)
    · exact .inl e
    · have r := trf_rule h hj
      rcases e with e | e
      · exact .inr ⟨j, hj, .inl e⟩
      · rcases en_mod r.en with c | c
        · exact .inr ⟨j, hj, .inr (by rw [c.1]; exact e)⟩
        · omega
structure TimesI (t : Trf) (l : List Int) : Prop where
  srt : SortI l
  pos : 0 < l.length
  mem : ∀ x ∈ l, TimeS t x
  all : ∀ x, TimeS t x → x ≤ l.getD (l.length - 1) 0 → x ∈ l
  bd : 0 ≤ l.getD (l.length - 1) 0 ∧ l.getD (l.length - 1) 0 < 86400
theorem holdB_same {t : Trf} (ht : trfE t = 0) {k : Nat} (hk : k < t.rules.length) {z d a b : Int} (hab : a ≤ b) (hb : b < 86400) (hn : ∀ x ∈ timesL t, x ≤ a ∨ b < x) : holdB t (t.rules.getD k rul0) ⟨z, d, b⟩ = holdB t (t.rules.getD k rul0) ⟨z, d, a⟩ := by
  have r := trf_rule ht hk
  have e1 := hn _ ((times_mem ht).2 (.inr ⟨k, hk, .inl rfl, by have := r.bg; omega⟩))
  have e2 : (t.rules.getD k rul0).en ≤ a ∨ b < (t.rules.getD k rul0).en := by
    by_cases q : (t.rules.getD k rul0).en < 86400
    · exact hn _ ((times_mem ht).2 (.inr ⟨k, hk, .inr rfl, q⟩))
    · right; omega
  have e : timeB (t.rules.getD k rul0) b = timeB (t.rules.getD k rul0) a := by
    unfold timeB
    have d1 : decide ((t.rules.getD k rul0).bg ≤ b) = decide ((t.rules.getD k rul0).bg ≤ a) := decide_eq_decide.2 (by omega)
    have d2 : decide (b < (t.rules.getD k rul0).en) = decide (a < (t.rules.getD k rul0).en) := decide_eq_decide.2 (by omega)
    rw [d1, d2]
  rw [hold_eq, hold_eq]
  show (bif timeB _ b then _ else _) = (bif timeB _ a then _ else _)
  rw [e]
theorem holdI_same {t : Trf} (ht : trfE t = 0) {z d a b : Int} (hab : a ≤ b) (hb : b < 86400) (hn : ∀ x ∈ timesL t, x ≤ a ∨ b < x) : ∀ k, k ≤ t.rules.length → holdI t ⟨z, d, b⟩ k = holdI t ⟨z, d, a⟩ k
  | 0, _ => rfl
  | k + 1, hk => by simp only [holdI, holdB_same ht (show k < t.rules.length by omega) hab hb hn, holdI_same ht hab hb hn k (by omega)]
end Go.Fx

/-
  From change to change the rule stays; a gap, or an overlap, is found at its first time.
-/
namespace Go.Fx
open Go.Proofs Go.RowKit

theorem gate_ok {t : Trf} {p : Plc} : gateE t p = 0 ↔ trfE t = 0 ∧ zoneIn t p.z = true ∧ momB p.m = true := by
  constructor
  · intro h
    unfold gateE at h
    have z := firstS_zero h
    have z1 : placeE t p = 0 := z _ (by simp)
    unfold placeE at z1
    have y := firstS_zero z1
    exact ⟨z _ (by simp), isOk_0 (b := zoneIn t p.z) (e := 6) (y _ (by simp)) (by decide), isOk_0 (b := momB p.m) (e := 2) (y _ (by simp)) (by decide)⟩
  · rintro ⟨a, b, c⟩
    unfold gateE placeE
    rw [a, b, c]; rfl
theorem ruleAt_0 {t : Trf} {p : Plc} (h : gateE t p = 0) : ruleAtE t p = oneE (holdI t p t.rules.length) ∧ ruleAtN t p = oneN (holdI t p t.rules.length) := by
  unfold ruleAtE ruleAtN; rw [h]; exact ⟨rfl, rfl⟩
theorem ruleAt_e {t : Trf} {p : Plc} (h : gateE t p ≠ 0) : ruleAtE t p = gateE t p ∧ ruleAtN t p = 0 := by
  unfold ruleAtE ruleAtN; rw [decide_eq_false h]; exact ⟨rfl, rfl⟩
def nowE (t : Trf) (p : Plc) : Int := oneE (holdI t p t.rules.length)
def nowN (t : Trf) (p : Plc) : Int := oneN (holdI t p t.rules.length)
def nxtC (t : Trf) (p : Plc) (d i : Nat) : Plc := ⟨p.z, p.m.d + d, (timesL t).getD i 0⟩
def nxtS (t : Trf) (p : Plc) (d i : Nat) : Bool := bif (p.m.d + (d : Int) == p.m.d) then decide ((timesL t).getD i 0 ≤ p.m.s) else false
def nxtD (t : Trf) (p : Plc) (d i : Nat) : Bool := bif nowN t (nxtC t p d i) == nowN t p then nowE t (nxtC t p d i) == nowE t p else false
def nxtP (t : Trf) (p : Plc) (d i : Nat) : Bool := bif nxtS t p d i then false else !nxtD t p d i
def nxtI (t : Trf) (p : Plc) (d : Nat) : Int := findI (nxtP t p d) (timesL t).length
def lastD (p : Plc) : Int := bif decide (p.m.d + 400 < 100000) then p.m.d + 400 else 100000
def nxtN (p : Plc) : Nat := (lastD p + 1 - p.m.d).toNat
def nxtF (t : Trf) (p : Plc) : Int := findI (fun d => decide (0 ≤ nxtI t p d)) (nxtN p)
def nxtM (t : Trf) (p : Plc) : Mom := ⟨p.m.d + nxtF t p, (timesL t).getD (nxtI t p (nxtF t p).toNat).toNat 0⟩
@[irreducible] def chE (t : Trf) (p : Plc) : Int := bif decide (gateE t p = 0) then (bif decide (0 ≤ nxtF t p) then 0 else 12) else gateE t p
@[irreducible] def chM (t : Trf) (p : Plc) : Mom := bif decide (chE t p = 0) then nxtM t p else ⟨0, 0⟩
end Go.Fx
