/-
  Trips cut: slices.Insert, Cut, and what is true of a cut trip.
-/
import Derived.Test.YtgegfljeglphlaaGreatDoorGs
import Derived.Test.YtgegfljeglphlaaGreatDoorGx
import Derived.Test.YtgegfljeglphlaaGreatDoorGf
import Derived.Test.YtgegfljeglphlaaGreatDoorGi
import Derived.Test.YtgegfljeglphlaaGreatDoorGg
import Derived.Shelf.Spec.SlicesInsert
import Derived.Shelf.Spec.SlicesInsertGrow

set_option linter.all false

/-
  Trips that differ in metres, or in the last seconds: the same rules; more is not cheaper.
-/
namespace Go.Fx
open Go.Proofs Go.RowKit

/-- Two trips with the same moments and zones. -/
structure Near (x y : Trp) : Prop where
  m : x.m = y.m
  fx : x.fx = y.fx
  ex : x.ex = y.ex
  len : x.sg.length = y.sg.length
  z : ∀ k, k < x.sg.length → (sgx x k).z = (sgx y k).z
  se : ∀ k, k + 1 < x.sg.length → (sgx x k).se = (sgx y k).se
theorem Near.mom {x y : Trp} (h : Near x y) : ∀ {k}, k < x.sg.length → segM x k = segM y k
  | 0, _ => h.m
  | k + 1, hk => by
    show laterQ (segM x k) (sgx x k).se = laterQ (segM y k) (sgx y k).se
    rw [h.mom (by omega), h.se k hk]
theorem Near.segP {x y : Trp} (h : Near x y) {k : Nat} (hk : k < x.sg.length) : segP x k = segP y k := by
  unfold Fx.segP; rw [h.z k hk, h.mom hk]
theorem Near.seg {x y : Trp} (h : Near x y) (t : Trf) {k : Nat} (hk : k < x.sg.length) : segE t x k = segE t y k ∧ segN t x k = segN t y k ∧ segR t x k = segR t y k := by
  have e : segH t x k = segH t y k := by unfold segH; rw [h.segP hk]
  refine ⟨?_, ?_, ?_⟩
  · unfold segE; rw [e, h.mom hk]
  · unfold segN; rw [e]
  · unfold segR segN; rw [e]
theorem Near.ride {x y : Trp} (h : Near x y) {t : Trf} (hx : tripE t x = 0) (hy : tripE t y = 0) : rideE t x = rideE t y := by
  have key : ∀ j, j < x.sg.length → segE t x j = segE t y j := fun j hj => (h.seg t hj).1
  unfold rideE
  rw [hx, hy, ← h.len]
  show scanE (segE t x) _ = scanE (segE t y) _
  generalize x.sg.length = n at key
  by_cases q : ∃ i, i < n ∧ segE t x i ≠ 0
  · obtain ⟨i, hi, hne⟩ := q
    have : ∃ k, k < n ∧ segE t x k ≠ 0 ∧ ∀ j, j < k → segE t x j = 0 := by
      induction i using Nat.strongRecOn with
      | _ i ih =>
        by_cases c : ∃ j, j < i ∧ segE t x j ≠ 0
        · obtain ⟨j, hj, hpj⟩ := c
          exact ih j hj (by omega) hpj
        · exact ⟨i, hi, hne, fun j hj => Decidable.byContradiction fun e => c ⟨j, hj, e⟩⟩
    obtain ⟨k, hk, hn, h0⟩ := this
    rw [(rscan_hit hk h0 rfl hn).1, (rscan_hit hk (fun j hj => by rw [← key j (by omega)]; exact h0 j hj) rfl (by rw [← key k hk]; exact hn)).1, key k hk]
  · have z : ∀ j, j < n → segE t x j = 0 := fun j hj => Decidable.byContradiction fun e => q ⟨j, hj, e⟩
    rw [(rscan_none z).1, (rscan_none fun j hj => by rw [← key j hj]; exact z j hj).1]
theorem Near.fix {x y : Trp} (h : Near x y) (t : Trf) (hp : 0 < x.sg.length) : fixI t x = fixI t y := by
  have e : fixP t x = fixP t y := by
    funext j; unfold fixP; rw [h.z 0 hp, h.z (x.sg.length - 1) (by omega), h.len]
  unfold fixI; rw [e]
theorem Near.exs {x y : Trp} (h : Near x y) (t : Trf) : ∀ i, exS t x i = exS t y i
  | 0 => rfl
  | i + 1 => by simp only [exS, h.exs t i, h.ex]
theorem Near.sta {x y : Trp} (h : Near x y) (t : Trf) (hp : 0 < x.sg.length) : staQ t x = staQ t y := by
  unfold staQ; rw [h.fx, (h.seg t hp).2.2]
theorem tdiv_mono {a b d : Int} (ha : 0 ≤ a) (h : a ≤ b) (hd : 0 < d) : a.tdiv d ≤ b.tdiv d := by
  rw [Int.tdiv_eq_ediv_of_nonneg ha, Int.tdiv_eq_ediv_of_nonneg (by omega)]
  exact Int.ediv_le_ediv hd h
theorem accP_le {f g : Nat → Int} : ∀ {n : Nat}, (∀ k, k < n → f k ≤ g k) → accP f n ≤ accP g n
  | 0, _ => Int.le_refl _
  | n + 1, h => by
    have := accP_le (n := n) fun k hk => h k (by omega)
    have := h n (by omega)
    simp only [accP]; omega
theorem accP_eq {f g : Nat → Int} : ∀ {n : Nat}, (∀ k, k < n → f k = g k) → accP f n = accP g n
  | 0, _ => rfl
  | n + 1, h => by simp only [accP, accP_eq (n := n) fun k hk => h k (by omega), h n (by omega)]
theorem accP_nn {f : Nat → Int} : ∀ {n : Nat}, (∀ k, k < n → 0 ≤ f k) → 0 ≤ accP f n
  | 0, _ => Int.le_refl _
  | n + 1, h => by
    have := accP_nn (n := n) fun k hk => h k (by omega)
    have := h n (by omega)
    simp only [accP]; omega
theorem Near.tot {x y : Trp} (h : Near x y) {t : Trf} (ht : trfE t = 0) (hp : 0 < x.sg.length) {f g : Nat → Int} (hf : ∀ k, k < x.sg.length → 0 ≤ f k) (hle : x.fx = false → accP f x.sg.length ≤ accP g x.sg.length) : totQ t x f ≤ totQ t y g := by
  have u := trf_unit ht
  unfold totQ
  rw [h.sta t hp, h.exs t, h.ex]
  have : drvQ t x f ≤ drvQ t y g := by
    cases hx : x.fx with
    | true =>
      have hy : y.fx = true := by rw [← h.fx]; exact hx
      rw [(drv_fx hx).1, (drv_fx hy).1, h.fix t hp]
      exact Int.le_refl _
    | false =>
      have hy : y.fx = false := by rw [← h.fx]; exact hx
      rw [(drv_me hx).1, (drv_me hy).1, ← h.len]
      exact Int.mul_le_mul_of_nonneg_right (tdiv_mono (accP_nn hf) (hle hx) (by omega)) u.2.1
  omega
/-- More metres, and more seconds: more points. -/
theorem Near.pts {x y : Trp} (h : Near x y) {t : Trf} (ht : trfE t = 0) {k : Nat} (hk : k < x.sg.length) (he : segE t x k = 0) (hm : (sgx x k).me ≤ (sgx y k).me) (hs : (sgx x k).se ≤ (sgx y k).se) : ptM t x k ≤ ptM t y k ∧ ptS t x k ≤ ptS t y k := by
  have r := seg_rule ht he
  unfold ptM ptS
  rw [← (h.seg t hk).2.2]
  exact ⟨Int.mul_le_mul_of_nonneg_left hm r.me.1, Int.mul_le_mul_of_nonneg_left hs r.se.1⟩
theorem ptX_ptB {t : Trf} {x : Trp} {k : Nat} (h : (0 ≤ ptM t x k) ∧ (0 ≤ ptS t x k)) : ptX t x k ≤ ptB t x k := by
  unfold ptX ptB
  by_cases a : ptM t x k < ptS t x k <;> simp only [a, decide_true, decide_false, cond_true, cond_false] <;> omega
end Go.Fx

/-
  A trip with more metres and more seconds in its last segment.
-/
namespace Go.Fx
open Go.Proofs Go.RowKit

end Go.Fx

/-
  A call that is given a list of the caller's own, for good: the callee sees its elements, the caller has it no more.
-/
namespace Go.Fx
open Go.Proofs Go.RowKit

end Go.Fx

/-
  Copies of trips with segments of one's own; fares of such trips.
-/
namespace Go.Fx
open Go.Proofs Go.RowKit

@[reducible] def sgO (n : Nat) (f : Nat → Nat → AV) : HObj := .list 74 3 n f 1
section
variable {W0 : World} {G : Nat → Option AV} (hX : (Xc W0 G).Good)
include hX
end
end Go.Fx

/-
  A trip with a segment cut in two.
-/
namespace Go.Fx
open Go.Proofs Go.RowKit

def cutS (x : Trp) (k : Nat) (a b : Int) (j : Nat) : Seg :=
  bif decide (j < k) then sgx x j else bif decide (j = k) then ⟨(sgx x k).z, a, b⟩ else bif decide (j = k + 1) then ⟨(sgx x k).z, (sgx x k).me - a, (sgx x k).se - b⟩ else sgx x (j - 1)
def cutX (x : Trp) (k : Nat) (a b : Int) : Trp := ⟨x.m, x.fx, x.ex, (List.range (x.sg.length + 1)).map (cutS x k a b)⟩
theorem cut_len (x : Trp) (k : Nat) (a b : Int) : (cutX x k a b).sg.length = x.sg.length + 1 := by simp [cutX]
theorem cut_at (x : Trp) (k : Nat) (a b : Int) {j : Nat} (h : j < x.sg.length + 1) : sgx (cutX x k a b) j = cutS x k a b j := by
  show ((List.range (x.sg.length + 1)).map _).getD j seg0 = _
  rw [List.getD_eq_getElem?_getD, List.getElem?_map, List.getElem?_range h]; rfl
section
variable {x : Trp} {k : Nat} {a b : Int} {j : Nat}
theorem cut_lo (h : j < k) : cutS x k a b j = sgx x j := by unfold cutS; rw [decide_eq_true h]; rfl
theorem cut_k : cutS x k a b k = ⟨(sgx x k).z, a, b⟩ := by unfold cutS; rw [decide_eq_false (Nat.lt_irrefl k), decide_eq_true rfl]; rfl
theorem cut_k1 : cutS x k a b (k + 1) = ⟨(sgx x k).z, (sgx x k).me - a, (sgx x k).se - b⟩ := by unfold cutS; rw [decide_eq_false (by omega), decide_eq_false (by omega), decide_eq_true rfl]; rfl
theorem cut_hi (h : k < j) : cutS x k a b (j + 1) = sgx x j := by
  unfold cutS; rw [decide_eq_false (by omega), decide_eq_false (by omega), decide_eq_false (by omega)]; rfl
end
theorem cut_xok {x : Trp} (h : XOk x) (k : Nat) (a b : Int) (h60 : x.sg.length < 999 := by omega) : XOk (cutX x k a b) := ⟨h.ex, by rw [cut_len]; omega⟩
/-- What Cut has looked at. -/
structure CutI (t : Trf) (x : Trp) (k : Nat) (a b : Int) : Prop where
  hr : rideE t x = 0
  hk : k < x.sg.length
  hn : x.sg.length < 60
  ha : 0 ≤ a ∧ a ≤ (sgx x k).me
  hb : 1 ≤ b ∧ b < (sgx x k).se
section
variable {t : Trf} {x : Trp} {k : Nat} {a b : Int}
theorem CutI.T (I : CutI t x k a b) : TripOk t x := (ride_0 I.hr).1
theorem CutI.trip (I : CutI t x k a b) : tripE t (cutX x k a b) = 0 := by
  obtain ⟨h1, h2, h3, h4⟩ := trip_h (ride_trip I.hr)
  have T := I.T; have hk := I.hk; have hn := I.hn; have ha := I.ha; have hb := I.hb
  have tm : tripM (cutX x k a b) = 0 := by
    unfold tripM
    rw [cut_len]
    rw [decide_eq_true (show (0 : Int) < ((x.sg.length + 1 : Nat) : Int) by omega), decide_eq_true (show ((x.sg.length + 1 : Nat) : Int) ≤ 60 by omega)]; rfl
  refine (trip_5 (by unfold tripH at h1 ⊢; exact h1) (fun j hj => by have := h2 j hj; unfold exE at this ⊢; exact this) tm fun j hj => ?_).1
  rw [cut_len] at hj
  have same : ∀ i, i < x.sg.length → cutS x k a b j = sgx x i → sgE t (cutX x k a b) j = 0 := fun i hi e => by
    have := h4 i hi
    unfold sgE at this ⊢
    rw [cut_at x k a b hj, e]; exact this
  have z := T.z k hk; have m := T.me k hk; have s := T.se k hk
  have two : ∀ u v : Int, 0 ≤ u → u ≤ 100000 → 1 ≤ v → v ≤ 36000 → cutS x k a b j = ⟨(sgx x k).z, u, v⟩ → sgE t (cutX x k a b) j = 0 := fun u v h1 h2 h3 h4 e => by
    unfold sgE
    rw [cut_at x k a b hj, e]
    show firstS [isOk (zoneIn t (sgx x k).z) 6, isOk (bif inB u 0 100000 then inB v 1 36000 else false) 2] = 0
    rw [z, inB_iff.2 ⟨h1, h2⟩, inB_iff.2 ⟨h3, h4⟩]; rfl
  rcases Nat.lt_trichotomy j k with c | c | c
  · exact same j (by omega) (cut_lo c)
  · subst c; exact two a b ha.1 (by omega) hb.1 (by omega) cut_k
  · by_cases d : j = k + 1
    · subst d; exact two _ _ (by omega) (by omega) (by omega) (by omega) cut_k1
    · obtain ⟨i, rfl⟩ : ∃ i, j = i + 1 := ⟨j - 1, by omega⟩
      exact same i (by omega) (cut_hi (by omega))
theorem CutI.mom_lo (I : CutI t x k a b) : ∀ {j : Nat}, j ≤ k → segM (cutX x k a b) j = segM x j
  | 0, _ => rfl
  | j + 1, hj => by
    show laterQ (segM (cutX x k a b) j) (sgx (cutX x k a b) j).se = laterQ (segM x j) (sgx x j).se
    rw [I.mom_lo (by omega : j ≤ k), cut_at x k a b (by have := I.hk; omega), cut_lo (by omega)]
theorem CutI.mom_mid (I : CutI t x k a b) : segM (cutX x k a b) (k + 1) = laterQ (segM x k) b := by
  show laterQ (segM (cutX x k a b) k) (sgx (cutX x k a b) k).se = _
  rw [I.mom_lo (Nat.le_refl k), cut_at x k a b (by have := I.hk; omega), cut_k]
theorem CutI.mom_hi (I : CutI t x k a b) : ∀ {j : Nat}, k < j → j ≤ x.sg.length → segM (cutX x k a b) (j + 1) = segM x j
  | 0, h, _ => by omega
  | j + 1, h, hj => by
    have hb := I.hb
    by_cases c : j = k
    · subst c
      show laterQ (segM (cutX x j a b) (j + 1)) (sgx (cutX x j a b) (j + 1)).se = laterQ (segM x j) (sgx x j).se
      have e := segM_eq I.T j (by omega)
      rw [I.mom_mid, cut_at x j a b (by omega), cut_k1]
      show laterQ (laterQ (segM x j) b) ((sgx x j).se - b) = _
      rw [laterQ_add e.2.2.2.1 (by omega) (by omega)]
      congr 1; omega
    · show laterQ (segM (cutX x k a b) (j + 1)) (sgx (cutX x k a b) (j + 1)).se = laterQ (segM x j) (sgx x j).se
      rw [I.mom_hi (by omega : k < j) (by omega), cut_at x k a b (by omega), cut_hi (by omega)]
theorem CutI.H_lo (I : CutI t x k a b) {j : Nat} (hj : j ≤ k) : segP (cutX x k a b) j = segP x j := by
  have hk := I.hk
  unfold segP
  rw [I.mom_lo hj, cut_at x k a b (by omega)]
  by_cases c : j < k
  · rw [cut_lo c]
  · obtain rfl : j = k := by omega
    rw [cut_k]
theorem CutI.H_hi (I : CutI t x k a b) {j : Nat} (h : k < j) (hj : j < x.sg.length) : segP (cutX x k a b) (j + 1) = segP x j := by
  unfold segP
  rw [I.mom_hi h (by omega), cut_at x k a b (by omega), cut_hi h]
theorem seg_of {y x : Trp} {i j : Nat} (h : segP y i = segP x j) (t : Trf) : segE t y i = segE t x j ∧ segN t y i = segN t x j ∧ segR t y i = segR t x j := by
  have e : segH t y i = segH t x j := by unfold segH; rw [h]
  have m : segM y i = segM x j := congrArg Plc.m h
  refine ⟨?_, ?_, ?_⟩
  · unfold segE; rw [e, m]
  · unfold segN; rw [e]
  · unfold segR segN; rw [e]
/-- The error of the cut trip is that of its second part. -/
theorem CutI.ride (I : CutI t x k a b) : rideE t (cutX x k a b) = segE t (cutX x k a b) (k + 1) := by
  have hs := (ride_0 I.hr).2
  have hk := I.hk
  have lo : ∀ j, j < k + 1 → segE t (cutX x k a b) j = 0 := fun j hj => by rw [(seg_of (I.H_lo (by omega)) t).1]; exact hs j (by omega)
  by_cases e : segE t (cutX x k a b) (k + 1) = 0
  · rw [e]
    refine ride_3 I.trip fun j hj => ?_
    rw [cut_len] at hj
    rcases Nat.lt_trichotomy j (k + 1) with c | c | c
    · exact lo j c
    · rw [c]; exact e
    · obtain ⟨i, rfl⟩ : ∃ i, j = i + 1 := ⟨j - 1, by omega⟩
      rw [(seg_of (I.H_hi (by omega) (by omega)) t).1]; exact hs i (by omega)
  · exact ride_2 I.trip (by rw [cut_len]; omega) lo rfl e
theorem CutI.err (I : CutI t x k a b) (h : rideE t (cutX x k a b) ≠ 0) : rideE t (cutX x k a b) = 12 ∨ rideE t (cutX x k a b) = 13 ∨ rideE t (cutX x k a b) = 2 := by
  rw [I.ride] at h ⊢
  unfold segE at h ⊢
  cases hm : momB (segM (cutX x k a b) (k + 1)) <;> rw [hm] at h
  · exact .inr (.inr rfl)
  · rcases one_cases (segH t (cutX x k a b) (k + 1)) with ⟨c, _⟩ | ⟨c, _⟩ | ⟨c, _⟩
    · exact absurd c h
    · exact .inl c
    · exact .inr (.inl c)
end
/-- Sums with one part told as two. -/
theorem acc_cut {f g : Nat → Int} {k : Nat} (h1 : ∀ j, j < k → f j = g j) : ∀ {n : Nat}, k < n → (∀ j, k < j → j < n → f (j + 1) = g j) → accP f (n + 1) = accP g n + (f k + f (k + 1) - g k)
  | 0, h, _ => by omega
  | n + 1, h, h2 => by
    by_cases c : n = k
    · subst c
      show accP f n + f n + f (n + 1) = accP g n + g n + _
      rw [accP_eq h1]; omega
    · have := acc_cut h1 (n := n) (by omega) fun j a b => h2 j a (by omega)
      show accP f (n + 1) + f (n + 1) = accP g n + g n + _
      rw [this, h2 n (by omega) (by omega)]; omega
section
variable {t : Trf} {x : Trp} {k : Nat} {a b : Int}
/-- Under the same rule: the points of the two parts. -/
structure CutR (t : Trf) (x : Trp) (k : Nat) (a b : Int) : Prop extends CutI t x k a b where
  ry : rideE t (cutX x k a b) = 0
  same : segN t (cutX x k a b) (k + 1) = segN t x k
theorem CutR.R (I : CutR t x k a b) : segR t (cutX x k a b) (k + 1) = segR t x k := by unfold segR; rw [I.same]
theorem CutR.pk (I : CutR t x k a b) : ptM t (cutX x k a b) k = (segR t x k).me * a ∧ ptS t (cutX x k a b) k = (segR t x k).se * b ∧ ptM t (cutX x k a b) (k + 1) = (segR t x k).me * ((sgx x k).me - a) ∧ ptS t (cutX x k a b) (k + 1) = (segR t x k).se * ((sgx x k).se - b) := by
  have hk := I.hk
  unfold ptM ptS
  rw [I.R, (seg_of (I.toCutI.H_lo (Nat.le_refl k)) t).2.2, cut_at x k a b (by omega), cut_at x k a b (by omega), cut_k, cut_k1]
  exact ⟨rfl, rfl, rfl, rfl⟩
theorem CutR.sum (I : CutR t x k a b) : ptM t (cutX x k a b) k + ptM t (cutX x k a b) (k + 1) = ptM t x k ∧ ptS t (cutX x k a b) k + ptS t (cutX x k a b) (k + 1) = ptS t x k := by
  have p := I.pk
  rw [p.1, p.2.1, p.2.2.1, p.2.2.2]
  unfold ptM ptS
  constructor
  · rw [← Int.mul_add]; congr 1; omega
  · rw [← Int.mul_add]; congr 1; omega
theorem CutR.lo (I : CutR t x k a b) {j : Nat} (h : j < k) : ptM t (cutX x k a b) j = ptM t x j ∧ ptS t (cutX x k a b) j = ptS t x j := by
  have hk := I.hk
  unfold ptM ptS
  rw [(seg_of (I.toCutI.H_lo (by omega)) t).2.2, cut_at x k a b (by omega), cut_lo h]
  exact ⟨rfl, rfl⟩
theorem CutR.hi (I : CutR t x k a b) {j : Nat} (h : k < j) (hj : j < x.sg.length) : ptM t (cutX x k a b) (j + 1) = ptM t x j ∧ ptS t (cutX x k a b) (j + 1) = ptS t x j := by
  unfold ptM ptS
  rw [(seg_of (I.toCutI.H_hi h hj) t).2.2, cut_at x k a b (by omega), cut_hi h]
  exact ⟨rfl, rfl⟩
theorem ptX_of {y x : Trp} {i j : Nat} (h : ptM t y i = ptM t x j ∧ ptS t y i = ptS t x j) : ptX t y i = ptX t x j := by unfold ptX; rw [h.1, h.2]
theorem ptX_max (t : Trf) (x : Trp) (k : Nat) : ptM t x k ≤ ptX t x k ∧ ptS t x k ≤ ptX t x k ∧ (ptX t x k = ptM t x k ∨ ptX t x k = ptS t x k) := by
  unfold ptX
  by_cases c : ptM t x k < ptS t x k
  · rw [decide_eq_true c]; refine ⟨?_, Int.le_refl _, .inr rfl⟩; show _ ≤ ptS t x k; omega
  · rw [decide_eq_false c]; refine ⟨Int.le_refl _, ?_, .inl rfl⟩; show _ ≤ ptM t x k; omega
theorem CutR.acc (I : CutR t x k a b) : accP (ptX t (cutX x k a b)) (x.sg.length + 1) = accP (ptX t x) x.sg.length + (ptX t (cutX x k a b) k + ptX t (cutX x k a b) (k + 1) - ptX t x k) :=
  acc_cut (fun j h => ptX_of (I.lo h)) I.hk fun j h hj => ptX_of (I.hi h hj)
theorem CutR.pts (I : CutR t x k a b) : ptX t x k ≤ ptX t (cutX x k a b) k + ptX t (cutX x k a b) (k + 1) ∧ ptX t (cutX x k a b) k + ptX t (cutX x k a b) (k + 1) ≤ ptB t x k := by
  have s := I.sum
  have p := ptX_max t (cutX x k a b) k
  have q := ptX_max t (cutX x k a b) (k + 1)
  have r := ptX_max t x k
  have hk := I.hk
  have b1 := pt_bd (ride_0 I.ry).1 (k := k) (by rw [cut_len]; omega) ((ride_0 I.ry).2 k (by rw [cut_len]; omega))
  have b2 := pt_bd (ride_0 I.ry).1 (k := k + 1) (by rw [cut_len]; omega) ((ride_0 I.ry).2 (k + 1) (by rw [cut_len]; omega))
  unfold ptB
  omega
/-- Parts that are both fast, or both slow. -/
theorem CutR.eq (I : CutR t x k a b) (h : (ptS t (cutX x k a b) k ≤ ptM t (cutX x k a b) k ∧ ptS t (cutX x k a b) (k + 1) ≤ ptM t (cutX x k a b) (k + 1)) ∨ (ptM t (cutX x k a b) k ≤ ptS t (cutX x k a b) k ∧ ptM t (cutX x k a b) (k + 1) ≤ ptS t (cutX x k a b) (k + 1))) : ptX t (cutX x k a b) k + ptX t (cutX x k a b) (k + 1) = ptX t x k := by
  have s := I.sum
  have p := ptX_max t (cutX x k a b) k
  have q := ptX_max t (cutX x k a b) (k + 1)
  have r := ptX_max t x k
  omega
theorem CutR.last (I : CutR t x k a b) : stpF t x (x.sg.length - 1) ≤ stpF t (cutX x k a b) x.sg.length := by
  have T := I.toCutI.T
  have u := trf_unit T.trf
  have hp := T.pos
  have e : x.sg.length - 1 + 1 = x.sg.length := by omega
  have w := I.acc; have v := I.pts
  unfold stpF
  rw [e]
  exact tdiv_mono (accP_nn fun j hj => (ptX_bd T hj ((ride_0 I.hr).2 j hj)).1) (by omega) (by omega)
theorem CutR.last_eq (I : CutR t x k a b) (h : ptX t (cutX x k a b) k + ptX t (cutX x k a b) (k + 1) = ptX t x k) : stpF t (cutX x k a b) x.sg.length = stpF t x (x.sg.length - 1) := by
  have hp := I.toCutI.T.pos
  have e : x.sg.length - 1 + 1 = x.sg.length := by omega
  have w := I.acc
  unfold stpF
  rw [e, w, h]; congr 1; omega
theorem CutI.fix (I : CutI t x k a b) : fixI t (cutX x k a b) = fixI t x := by
  have hk := I.hk
  have e0 : (sgx (cutX x k a b) 0).z = (sgx x 0).z := by
    rw [cut_at x k a b (by omega)]
    by_cases c : 0 < k
    · rw [cut_lo c]
    · obtain rfl : k = 0 := by omega
      rw [cut_k]
  have e1 : (sgx (cutX x k a b) ((cutX x k a b).sg.length - 1)).z = (sgx x (x.sg.length - 1)).z := by
    rw [cut_len, Nat.add_sub_cancel, cut_at x k a b (by omega)]
    by_cases c : k + 1 = x.sg.length
    · rw [← c, cut_k1, Nat.add_sub_cancel]
    · obtain ⟨i, hi⟩ : ∃ i, x.sg.length = i + 1 := ⟨x.sg.length - 1, by omega⟩
      rw [hi, cut_hi (by omega), Nat.add_sub_cancel]
  have : fixP t (cutX x k a b) = fixP t x := by funext j; unfold fixP; rw [e0, e1]
  unfold fixI; rw [this]
theorem CutI.sta (I : CutI t x k a b) : staQ t (cutX x k a b) = staQ t x := by
  unfold staQ
  rw [(seg_of (I.H_lo (Nat.zero_le k)) t).2.2]; rfl
theorem CutI.exs (x : Trp) (k : Nat) (a b : Int) (t : Trf) : ∀ i, exS t (cutX x k a b) i = exS t x i
  | 0 => rfl
  | i + 1 => by simp only [exS, CutI.exs x k a b t i]; rfl
theorem CutR.tot (I : CutR t x k a b) : totQ t x (ptX t x) ≤ totQ t (cutX x k a b) (ptX t (cutX x k a b)) ∧ totQ t (cutX x k a b) (ptX t (cutX x k a b)) ≤ totQ t x (ptB t x) := by
  have T := I.toCutI.T
  have u := trf_unit T.trf
  have hs := (ride_0 I.hr).2
  have A := I.acc; have P := I.pts; have hk := I.hk
  have nn : 0 ≤ accP (ptX t x) x.sg.length := accP_nn fun j hj => (ptX_bd T hj (hs j hj)).1
  have up : accP (ptX t (cutX x k a b)) (x.sg.length + 1) ≤ accP (ptB t x) x.sg.length := by
    have w := acc_cut (f := ptX t (cutX x k a b)) (g := fun j => bif decide (j = k) then ptB t x k else ptX t x j) (k := k) (n := x.sg.length) (fun j h => by rw [decide_eq_false (by omega)]; exact ptX_of (I.lo h)) hk fun j h hj => by rw [decide_eq_false (by omega)]; exact ptX_of (I.hi h hj)
    have le : accP (fun j => bif decide (j = k) then ptB t x k else ptX t x j) x.sg.length ≤ accP (ptB t x) x.sg.length := accP_le fun j hj => by
      by_cases c : j = k
      · subst c; rw [decide_eq_true rfl]; exact Int.le_refl _
      · rw [decide_eq_false c]
        have b := pt_bd T hj (hs j hj)
        exact ptX_ptB ⟨b.1.1, b.2.1⟩
    rw [decide_eq_true rfl] at w
    have w : accP (ptX t (cutX x k a b)) (x.sg.length + 1) = _ + (_ + _ - ptB t x k) := w
    omega
  unfold totQ
  rw [I.toCutI.sta, CutI.exs x k a b t, show (cutX x k a b).ex.length = x.ex.length from rfl]
  have key : drvQ t x (ptX t x) ≤ drvQ t (cutX x k a b) (ptX t (cutX x k a b)) ∧ drvQ t (cutX x k a b) (ptX t (cutX x k a b)) ≤ drvQ t x (ptB t x) := by
    cases hx : x.fx with
    | true =>
      have hy : (cutX x k a b).fx = true := hx
      rw [(drv_fx hx).1, (drv_fx hx).1, (drv_fx hy).1, I.toCutI.fix]
      exact ⟨Int.le_refl _, Int.le_refl _⟩
    | false =>
      have hy : (cutX x k a b).fx = false := hx
      rw [(drv_me hx).1, (drv_me hx).1, (drv_me hy).1, cut_len]
      exact ⟨Int.mul_le_mul_of_nonneg_right (tdiv_mono nn (by omega) (by omega)) u.2.1, Int.mul_le_mul_of_nonneg_right (tdiv_mono (by omega) up (by omega)) u.2.1⟩
  omega
theorem CutR.l1 (I : CutR t x k a b) (v : (bif (bif (bif decide (ptS t (cutX x k a b) k ≤ ptM t (cutX x k a b) k) then decide (ptS t (cutX x k a b) (k + 1) ≤ ptM t (cutX x k a b) (k + 1)) else false) then true else bif decide (ptM t (cutX x k a b) k ≤ ptS t (cutX x k a b) k) then decide (ptM t (cutX x k a b) (k + 1) ≤ ptS t (cutX x k a b) (k + 1)) else false) then stpF t (cutX x k a b) x.sg.length != stpF t x (x.sg.length - 1) else false) = true) : False := by
  have w := and_t v
  have n := bne_iff_ne.1 w.2
  refine n (I.last_eq (I.eq ?_))
  cases c : (bif decide (ptS t (cutX x k a b) k ≤ ptM t (cutX x k a b) k) then decide (ptS t (cutX x k a b) (k + 1) ≤ ptM t (cutX x k a b) (k + 1)) else false)
  · have d := w.1
    rw [c] at d
    have d := and_t d
    exact .inr ⟨of_decide_eq_true d.1, of_decide_eq_true d.2⟩
  · have d := and_t c
    exact .inl ⟨of_decide_eq_true d.1, of_decide_eq_true d.2⟩
theorem CutI.l2 (I : CutI t x k a b) (h : rngE t x x ≠ 0) : (bif (bif rngE t x x == 12 then fareE t (cutX x k a b) (ptX t (cutX x k a b)) == rngE t x x else false) then true else rngE t x x == 8) = true := by
  have none : ∀ f, fareE t x f = 12 → fareE t (cutX x k a b) (ptX t (cutX x k a b)) = 12 := fun f e => by
    rcases fare_cases (t := t) (x := x) (f := f) with ⟨c, d, _⟩ | ⟨_, _, d⟩ | ⟨_, _, d⟩
    · exact fare_none c (by rw [I.fix]; exact d)
    · rw [e] at d; cases d
    · rw [e] at d; cases d
  have key : ∀ f, rngE t x x = fareE t x f → (bif (bif rngE t x x == 12 then fareE t (cutX x k a b) (ptX t (cutX x k a b)) == rngE t x x else false) then true else rngE t x x == 8) = true := fun f e => by
    rcases fare_cases (t := t) (x := x) (f := f) with ⟨_, _, d⟩ | ⟨_, _, d⟩ | ⟨_, _, d⟩
    · rw [none f d, e, d]; rfl
    · rw [e, d]; rfl
    · exact absurd (e.trans d) h
  by_cases c : fareE t x (ptX t x) = 0
  · exact key (ptB t x) (by unfold rngE; rw [c]; rfl)
  · exact key (ptX t x) (rng_1 (y := x) c).1
theorem CutR.l3 (I : CutR t x k a b) (h : rngE t x x = 0) : (bif fareE t (cutX x k a b) (ptX t (cutX x k a b)) == 0 then inB (fareZ t (cutX x k a b) (ptX t (cutX x k a b)) (totQ t (cutX x k a b) (ptX t (cutX x k a b)))) (rngZ t x x (totQ t x (ptX t x))) (rngZ t x x (totQ t x (ptB t x))) else false) = true := by
  have z : ∀ n, rngZ t x x n = n := fun n => by unfold rngZ; rw [h]; rfl
  have c : fareE t x (ptX t x) = 0 := Decidable.byContradiction fun c => c ((rng_1 (y := x) c).1.symm.trans h)
  have d : fareE t x (ptB t x) = 0 := Decidable.byContradiction fun d => d ((rng_2 c d).1.symm.trans h)
  have w := I.tot
  have e : fareE t (cutX x k a b) (ptX t (cutX x k a b)) = 0 := by
    rcases fare_cases (t := t) (x := x) (f := ptB t x) with ⟨_, _, q⟩ | ⟨_, _, q⟩ | ⟨p, q, _⟩
    · rw [d] at q; cases q
    · rw [d] at q; cases q
    · exact fare_fit (fun hx => by rw [I.toCutI.fix]; exact p hx) (by omega)
  rw [e, fareZ_0 e, z, z]
  exact inB_iff.2 w
end
end Go.Fx

/-
  slices.Insert of one element into a slice of structs of three cells (under way).
-/
namespace Go.Fx
open Go Go.Proofs Go.Shelf Go.RowKit Go.Lib

theorem run_copy_rows {P : Program} (w : World) (dT sT ty elem : TypeId) (b o dLen dCap : Nat) (a : Addr) (sLen sCap es : Nat) (cs : List Value)
    (hu : P.underlying dT = some (.slice elem)) (hz : ∀ w, (Go.sizeOf elem).run P w = .ok es w) (hn : cs.length = Nat.min sLen dLen * es)
    (hsrc : ∀ j v, cs[j]? = some v → w.cell? (a.add j) = some v) (hc : ∀ j, j < cs.length → (w.cell? ⟨b, o + j, none⟩).isSome = true) (hf : ∀ j, j < cs.length → w.frozen? ⟨b, o + j, none⟩ = false) (h1 : ∀ v ∈ cs, v.oneCell' = true) :
    (Builtin.copy_ #[dT, sT] ty #[.slice (some ⟨b, o, none⟩) dLen dCap, .slice (some a) sLen sCap]).run P w = .ok (goInt (Nat.min sLen dLen)) (w.setCells b o cs) := by
  have hfc := run_firstCells_some (P := P) w es (Nat.min sLen dLen) a sLen sCap cs hn hsrc
  have hst := run_storeCells_cells (P := P) b o cs 0 w (by simpa using hc) (by simpa using hf) h1
  simp [Builtin.copy_, run_underlying hu, Builtin.lenOf, hz, hfc, hst]

section
theorem it0 : Tryz.prog.underlying 0 = some (TypeDesc.tuple #[]) := by kernel_rfl
theorem it3 : Tryz.prog.underlying 3 = some (TypeDesc.int IntKind.i64) := by kernel_rfl
theorem it4 : Tryz.prog.underlying 4 = some TypeDesc.bool := by kernel_rfl
theorem it61 : Tryz.prog.underlying 61 = some (TypeDesc.slice 74) := by kernel_rfl
theorem ia0 (w : World) : (isAgg 0).run Tryz.prog w = .ok false w := by unfold isAgg; simp [run_underlying it0]
theorem ia3 (w : World) : (isAgg 3).run Tryz.prog w = .ok false w := by unfold isAgg; simp [run_underlying it3]
theorem ia4 (w : World) : (isAgg 4).run Tryz.prog w = .ok false w := by unfold isAgg; simp [run_underlying it4]
theorem ia61 (w : World) : (isAgg 61).run Tryz.prog w = .ok false w := by unfold isAgg; simp [run_underlying it61]
theorem iz3 (w : World) : (Go.sizeOf 3).run Tryz.prog w = .ok 1 w := (tab_ok.at (show tab.getD 3 none = some _ from rfl)).run_sizeOf w
theorem iz4 (w : World) : (Go.sizeOf 4).run Tryz.prog w = .ok 1 w := (tab_ok.at (show tab.getD 4 none = some _ from rfl)).run_sizeOf w
theorem iz61 (w : World) : (Go.sizeOf 61).run Tryz.prog w = .ok 1 w := (tab_ok.at (show tab.getD 61 none = some _ from rfl)).run_sizeOf w
theorem iz74 (w : World) : (Go.sizeOf 74).run Tryz.prog w = .ok 3 w := (tab_ok.at (show tab.getD 74 none = some _ from rfl)).run_sizeOf w
theorem if118 : Tryz.prog.funcs[118]? = some Tryz.f118 := by kernel_rfl
theorem if143 : Tryz.prog.funcs[143]? = some Tryz.f143 := by kernel_rfl
theorem in118 : Tryz.f118.ntmps = 95 := by kernel_rfl
theorem imix : Tryz.prog.follows .mixedOrders = true := by kernel_rfl
set_option maxHeartbeats 4000000 in
set_option maxRecDepth 100000 in
theorem ins_shift (b n c i vb voff vc : Nat) (cs vs : List Value) (w : World) (hi : i < n) (hroom : n + 1 ≤ c) (hc63 : c ≤ 9223372036854775807) (hvb : vb ≠ b)
    (hcl : cs.length = n * 3) (hvl : vs.length = 3)
    (hcs : ∀ j v, cs[j]? = some v → w.cell? ⟨b, j, none⟩ = some v) (hsp : ∀ j, j < (n + 1) * 3 → (w.cell? ⟨b, j, none⟩).isSome = true) (hfz : ∀ j, j < (n + 1) * 3 → w.frozen? ⟨b, j, none⟩ = false)
    (hvs : ∀ j v, vs[j]? = some v → w.cell? ⟨vb, voff + j, none⟩ = some v) (h1c : ∀ v ∈ cs, v.oneCell' = true) (h1v : ∀ v ∈ vs, v.oneCell' = true)
    (tA tB : TypeId) (kA kB : Nat) (hsa : w.shape? vb = some (tA, kA)) (hsb : w.shape? b = some (tB, kB)) (hkB : kB ≠ 0) (hfa : w.frozen? ⟨vb, voff, none⟩ = false) (hfe : w.frozen? ⟨vb, kA, none⟩ = false) :
    Calls Tryz.prog 118 #[.slice (some ⟨b, 0, none⟩) n c, .int .i64 i, .slice (some ⟨vb, voff, none⟩) 1 vc] w fun e w' =>
      e = .returned (.slice (some ⟨b, 0, none⟩) (n + 1) c) ∧ w' = (w.drew.setCells b ((i + 1) * 3) (cs.drop (i * 3))).setCells b (i * 3) vs := by
  have t0 := it0; have a0 := ia0; have t3 := it3; have a3 := ia3; have z3 := iz3; have t4 := it4; have a4 := ia4; have z4 := iz4; have t61 := it61; have a61 := ia61; have z61 := iz61; have z74 := iz74
  have u0 := run_underlying it0; have u3 := run_underlying it3; have u4 := run_underlying it4; have u61 := run_underlying it61
  have hz2 : ¬ ((i : Int) = (n : Int)) := by omega
  have hov : ∀ lb cb, (callFunc 143 #[.slice (some ⟨vb, voff, none⟩) 1 vc, .slice (some ⟨b, (i + 1) * 3, none⟩) lb cb]).run Tryz.prog w = .ok (.value (.bool false)) w := fun lb cb => by
    rw [run_callFunc_extern if143 (by kernel_rfl) (by kernel_rfl) (by kernel_rfl) (e := Extern.SlicesOverlaps.overlaps #[61, 61] #[4]) (by kernel_rfl),
      Lib.run_overlaps_apart w 61 4 74 it61 3 iz74 ⟨vb, voff, none⟩ ⟨b, (i + 1) * 3, none⟩ 1 vc lb cb hvb tA tB kA kB hsa hsb hkB hfa hfe]
    rfl
  have hdl : (cs.drop (i * 3)).length = (n - i) * 3 := by rw [List.length_drop, hcl]; omega
  have mixed := imix
  have hw1 : IntKind.i64.wrap ((i : Int) + 1) = (i : Int) + 1 := by rw [IntKind.wrap_i64]; omega
  have hw2 : IntKind.i64.wrap ((n : Int) + 1) = (n : Int) + 1 := by rw [IntKind.wrap_i64]; omega
  have hin : i ≤ n := by omega
  have htn : ((i : Int) + 1).toNat = i + 1 := by omega
  have htn2 : ((n : Int) + 1).toNat = n + 1 := by omega
  have hb1 : (0 : Int) ≤ (i : Int) + 1 := by omega
  have hb2 : ¬ (c = i + 1) := by omega
  have hb3 : (i : Int) ≤ (n : Int) + 1 := by omega
  have hb4 : ¬ (c = i) := by omega
  have hb5 : i ≤ n + 1 := by omega
  have hcp1 : ∀ ty dc sc, (Builtin.copy_ #[61, 61] ty #[.slice (some ⟨b, (i + 1) * 3, none⟩) (n - i) dc, .slice (some ⟨b, i * 3, none⟩) (n + 1 - i) sc]).run Tryz.prog w.drew = .ok (goInt (Nat.min (n + 1 - i) (n - i))) (w.drew.setCells b ((i + 1) * 3) (cs.drop (i * 3))) := fun ty dc sc =>
    run_copy_rows w.drew _ _ ty 74 b ((i + 1) * 3) (n - i) dc ⟨b, i * 3, none⟩ (n + 1 - i) sc 3 (cs.drop (i * 3)) it61 iz74 (by rw [hdl]; simp only [Nat.min_def]; split <;> omega)
      (fun j v hj => by rw [Addr.add_lit]; exact hcs (i * 3 + j) v (by rwa [List.getElem?_drop] at hj))
      (fun j hj => hsp _ (by omega)) (fun j hj => hfz _ (by omega)) (fun v hv => h1c v (List.mem_of_mem_drop hv))
  obtain ⟨W1, hW1⟩ : ∃ W1, W1 = w.drew.setCells b ((i + 1) * 3) (cs.drop (i * 3)) := ⟨_, rfl⟩
  have hsp1 : ∀ k, k < (n + 1) * 3 → (W1.cell? ⟨b, k, none⟩).isSome = true := fun k hk => by
    rw [hW1]
    exact isSome_setCells b (cs.drop (i * 3)) ((i + 1) * 3) w.drew (fun j hj => hsp _ (by rw [hdl] at hj; omega)) _ (hsp k hk)
  have hcp2 : ∀ (W : World), (∀ x, W.cell? x = W1.cell? x) → (∀ x, W.frozen? x = W1.frozen? x) → ∀ ty dc, (Builtin.copy_ #[61, 61] ty #[.slice (some ⟨b, i * 3, none⟩) (n + 1 - i) dc, .slice (some ⟨vb, voff, none⟩) 1 vc]).run Tryz.prog W = .ok (goInt (Nat.min 1 (n + 1 - i))) (W.setCells b (i * 3) vs) := fun W hWc hWf ty dc =>
    run_copy_rows W _ _ ty 74 b (i * 3) (n + 1 - i) dc ⟨vb, voff, none⟩ 1 vc 3 vs it61 iz74 (by rw [hvl]; simp only [Nat.min_def]; split <;> omega)
      (fun j v hj => by
        rw [Addr.add_lit, hWc, hW1, World.cell?_setCells_out b _ _ _ _ (fun h _ => absurd h hvb)]
        exact hvs j v hj)
      (fun j hj => by rw [hWc]; exact hsp1 _ (by omega)) (fun j hj => by rw [hWf, hW1, World.frozen?_setCells]; exact hfz _ (by omega)) h1v
  rw [← hW1] at hcp1
  go_enter if118, in118
  go_wp2_with (simp only [hov])
  go_region_law_o (refine step_copy_runI rfl _ _ 61 61 rfl _ _ (by simp [Act.eval, Act.put]) (by simp [Act.eval, Act.put]) (hcp1 _ _ _) ?_)
  go_wp2_with (at_builtin; refine wpList_copy_runI _ rfl _ _ 61 61 rfl _ _ rfl rfl (hcp2 _ (fun _ => by first | rfl | (rw [hW1]; rfl)) (fun _ => by first | rfl | (rw [hW1]; rfl)) _ _) ?_)
  go_ret
  first | exact ⟨rfl, rfl⟩ | exact ⟨rfl, by rw [hW1]⟩
set_option maxHeartbeats 4000000 in
set_option maxRecDepth 100000 in
theorem ins_grow (b n c i vb voff vc : Nat) (cs vs : List Value) (w : World) (hi : i < n) (hnc : n ≤ c) (hroom : c < n + 1) (hbig : (n + 1) * 24 ≤ 140737488355328)
    (hcl : cs.length = n * 3) (hvl : vs.length = 3)
    (hcs : ∀ j v, cs[j]? = some v → w.cell? ⟨b, j, none⟩ = some v)
    (hvs : ∀ j v, vs[j]? = some v → w.cell? ⟨vb, voff + j, none⟩ = some v) (h1c : ∀ v ∈ cs, v.oneCell' = true) (h1v : ∀ v ∈ vs, v.oneCell' = true)
    (i0 : TypeInfo) (z : Value) (hi0 : Tryz.prog.info? 74 = some i0) (hz0 : i0.zero = some z) (hzs : i0.size = 3) (hzb : i0.bytes = 24) (hzc : z.cells.size = 3) :
    Calls Tryz.prog 118 #[.slice (some ⟨b, 0, none⟩) n c, .int .i64 i, .slice (some ⟨vb, voff, none⟩) 1 vc] w fun e w' =>
      e = .returned (.slice (some ⟨w.heap.size, 0, none⟩) (n + 1) (grownCap w (n + 1) c 74)) ∧
      w' = (((w.alloc (.cells ((cs.take (i * 3)).toArray ++ Builtin.zeroCells z.cells (n + 1 - i) ++ Builtin.zeroCells z.cells (grownCap w (n + 1) c 74 - (n + 1))) 74)).drew.setCells w.heap.size (i * 3) vs).drew).setCells w.heap.size ((i + 1) * 3) (cs.drop (i * 3)) := by
  have t0 := it0; have a0 := ia0; have t3 := it3; have a3 := ia3; have z3 := iz3; have t4 := it4; have a4 := ia4; have z4 := iz4; have t61 := it61; have a61 := ia61; have z61 := iz61; have z74 := iz74
  have u0 := run_underlying it0; have u3 := run_underlying it3; have u4 := run_underlying it4; have u61 := run_underlying it61
  have mixed := imix
  have hz2 : ¬ ((i : Int) = (n : Int)) := by omega
  have hz3 : (c : Int) < (n : Int) + 1 := by omega
  have hbw : b < w.heap.size := block_lt_of_cell (hcs 0 _ (List.getElem?_eq_getElem (by omega)))
  have hvw : vb < w.heap.size := block_lt_of_cell (hvs 0 _ (List.getElem?_eq_getElem (by omega)))
  have hkk : (n : Int) + 1 - (i : Int) = ((n + 1 - i : Nat) : Int) := by omega
  have hik : i + (n + 1 - i) = n + 1 := by omega
  have hold : (Builtin.firstCells i0.size i (.slice (some ⟨b, 0, none⟩) i c)).run Tryz.prog w.drew = .ok (cs.take (i * 3)).toArray w.drew := by
    rw [hzs]
    exact run_firstCells_some w.drew 3 i ⟨b, 0, none⟩ i c (cs.take (i * 3)) (by rw [List.length_take]; omega) (fun j v hj => by
      rw [Addr.add_lit, Nat.zero_add]
      rw [List.getElem?_take] at hj
      split at hj
      · exact hcs j v hj
      · cases hj)
  have hrz : ∀ ty, (Builtin.append_ #[61, 3] ty #[.slice (some ⟨b, 0, none⟩) i c, .int .i64 ((n : Int) + 1 - (i : Int))]).run Tryz.prog w =
      .ok (.slice (some ⟨w.heap.size, 0, none⟩) (n + 1) (grownCap w (n + 1) c 74)) (w.drew.alloc (.cells ((cs.take (i * 3)).toArray ++ Builtin.zeroCells z.cells (n + 1 - i) ++ Builtin.zeroCells z.cells (grownCap w (n + 1) c 74 - (n + 1))) 74)) := fun ty => by
    have h := Lib.run_append_grow_zeros w 61 3 ty 74 i0 z .i64 .i64 it61 it3 hi0 hz0 (some ⟨b, 0, none⟩) i c (cs.take (i * 3)) hold (n + 1 - i) (by omega) (by omega) (by omega) (by omega) (by rw [hzb]; omega) (by rw [hzb, hik]; exact growslice_fits hroom hbig)
    rw [hik] at h
    rw [hkk]
    exact h
  obtain ⟨G, hG⟩ : ∃ G, G = grownCap w (n + 1) c 74 := ⟨_, rfl⟩
  obtain ⟨ROW, hROW⟩ : ∃ ROW : Array Value, ROW = (cs.take (i * 3)).toArray ++ Builtin.zeroCells z.cells (n + 1 - i) ++ Builtin.zeroCells z.cells (G - (n + 1)) := ⟨_, rfl⟩
  rw [← hG] at hrz ⊢
  rw [← hROW] at hrz ⊢
  have hRl : (n + 1) * 3 ≤ ROW.size := by
    rw [hROW]
    simp [Builtin.zeroCells, hzc]
    omega
  obtain ⟨W1, hW1⟩ : ∃ W1, W1 = w.drew.alloc (.cells ROW 74) := ⟨_, rfl⟩
  rw [← hW1] at hrz
  have hN : ∀ j, j < (n + 1) * 3 → (W1.cell? ⟨w.heap.size, j, none⟩).isSome = true := fun j hj => by
    rw [hW1, World.cell?_alloc_at (w := w.drew) ROW _ w.heap.size j rfl, Array.getElem?_eq_getElem (by omega)]; rfl
  have hNf : ∀ j, W1.frozen? ⟨w.heap.size, j, none⟩ = false := fun j => by rw [hW1]; exact World.frozen?_alloc_at (w := w.drew) ROW _ w.heap.size j rfl
  have hOb : ∀ j v, w.cell? ⟨b, j, none⟩ = some v → W1.cell? ⟨b, j, none⟩ = some v := fun j v h => by rw [hW1, World.cell?_alloc_past (w := w.drew) _ b j hbw]; exact h
  have hOv : ∀ j v, w.cell? ⟨vb, j, none⟩ = some v → W1.cell? ⟨vb, j, none⟩ = some v := fun j v h => by rw [hW1, World.cell?_alloc_past (w := w.drew) _ vb j hvw]; exact h
  have hcpA : ∀ (W : World), (∀ x, W.cell? x = W1.cell? x) → (∀ x, W.frozen? x = W1.frozen? x) → ∀ ty dc, (Builtin.copy_ #[61, 61] ty #[.slice (some ⟨w.heap.size, i * 3, none⟩) (n + 1 - i) dc, .slice (some ⟨vb, voff, none⟩) 1 vc]).run Tryz.prog W = .ok (goInt (Nat.min 1 (n + 1 - i))) (W.setCells w.heap.size (i * 3) vs) := fun W hWc hWf ty dc =>
    run_copy_rows W _ _ ty 74 w.heap.size (i * 3) (n + 1 - i) dc ⟨vb, voff, none⟩ 1 vc 3 vs it61 iz74 (by rw [hvl]; simp only [Nat.min_def]; split <;> omega)
      (fun j v hj => by rw [Addr.add_lit, hWc]; exact hOv _ v (hvs j v hj))
      (fun j hj => by rw [hWc]; exact hN _ (by omega)) (fun j hj => by rw [hWf]; exact hNf _) h1v
  have hGn : n + 1 ≤ G := by rw [hG]; exact grownCap_ge w _ _ _
  have hG63 : G ≤ 9223372036854775807 := by
    have := grownCap_le_maxLen w (n + 1) c 74 (by unfold maxLen; omega)
    rw [← hG] at this
    unfold maxLen at this
    omega
  have hGi : ¬ (G = i) := by omega
  have hGim : ¬ (G = i + 1) := by omega
  have hci : ¬ (c = i) := by omega
  have hbN : b ≠ w.heap.size := by omega
  have hdl : (cs.drop (i * 3)).length = (n - i) * 3 := by rw [List.length_drop, hcl]; omega
  have hcpB : ∀ (W : World), (∀ x, W.cell? x = (W1.setCells w.heap.size (i * 3) vs).cell? x) → (∀ x, W.frozen? x = (W1.setCells w.heap.size (i * 3) vs).frozen? x) → ∀ ty dc sc, (Builtin.copy_ #[61, 61] ty #[.slice (some ⟨w.heap.size, (i + 1) * 3, none⟩) (n - i) dc, .slice (some ⟨b, i * 3, none⟩) (n - i) sc]).run Tryz.prog W = .ok (goInt (Nat.min (n - i) (n - i))) (W.setCells w.heap.size ((i + 1) * 3) (cs.drop (i * 3))) := fun W hWc hWf ty dc sc =>
    run_copy_rows W _ _ ty 74 w.heap.size ((i + 1) * 3) (n - i) dc ⟨b, i * 3, none⟩ (n - i) sc 3 (cs.drop (i * 3)) it61 iz74 (by rw [hdl]; simp only [Nat.min_def]; split <;> omega)
      (fun j v hj => by
        rw [Addr.add_lit, hWc, World.cell?_setCells_out _ _ _ _ _ (fun h _ => absurd h hbN)]
        exact hOb _ v (hcs (i * 3 + j) v (by rwa [List.getElem?_drop] at hj)))
      (fun j hj => by rw [hWc]; exact isSome_setCells w.heap.size vs (i * 3) W1 (fun t ht => hN _ (by rw [hvl] at ht; omega)) _ (hN _ (by rw [hdl] at hj; omega)))
      (fun j hj => by rw [hWf, World.frozen?_setCells]; exact hNf _) (fun v hv => h1c v (List.mem_of_mem_drop hv))
  subst hW1
  have hE1 : ∀ x, ((w.alloc (.cells ROW 74)).drew).cell? x = (w.drew.alloc (.cells ROW 74)).cell? x := fun x => rfl
  have hE2 : ∀ x, ((w.alloc (.cells ROW 74)).drew).frozen? x = (w.drew.alloc (.cells ROW 74)).frozen? x := fun x => rfl
  have hF1 : ∀ x, (((w.alloc (.cells ROW 74)).drew.setCells w.heap.size (i * 3) vs).drew).cell? x = ((w.drew.alloc (.cells ROW 74)).setCells w.heap.size (i * 3) vs).cell? x := fun x => rfl
  have hF2 : ∀ x, (((w.alloc (.cells ROW 74)).drew.setCells w.heap.size (i * 3) vs).drew).frozen? x = ((w.drew.alloc (.cells ROW 74)).setCells w.heap.size (i * 3) vs).frozen? x := fun x => rfl
  have hw1 : IntKind.i64.wrap ((i : Int) + 1) = (i : Int) + 1 := by rw [IntKind.wrap_i64]; omega
  have hw2 : IntKind.i64.wrap ((n : Int) + 1) = (n : Int) + 1 := by rw [IntKind.wrap_i64]; omega
  have hw3 : IntKind.i64.wrap ((n : Int) + 1 - (i : Int)) = (n : Int) + 1 - (i : Int) := by rw [IntKind.wrap_i64]; omega
  have hb1 : (0 : Int) ≤ (i : Int) + 1 := by omega
  have hin : i ≤ n := by omega
  have htn : ((i : Int) + 1).toNat = i + 1 := by omega
  have hb3 : (i : Int) ≤ (n : Int) := by omega
  have hb5 : i ≤ n + 1 := by omega
  have hb6 : i ≤ G := by omega
  clear hkk hik hold hROW hG hRl
  go_enter if118, in118
  go_wp2_with (first
    | (at_builtin; refine Lib.wpList_append_run _ rfl _ _ _ _ rfl _ _ rfl rfl _ _ (hrz _) ?_)
    | (at_builtin; refine wpList_copy_runI _ rfl _ _ 61 61 rfl _ _ rfl rfl (hcpA _ hE1 hE2 _ _) ?_)
    | (at_builtin; refine wpList_copy_runI _ rfl _ _ 61 61 rfl _ _ rfl rfl (hcpB _ (fun _ => rfl) (fun _ => rfl) _ _ _) ?_))
  go_region_law_o (refine step_copy_runI rfl _ _ 61 61 rfl (.slice (some ⟨w.heap.size, (i + 1) * 3, none⟩) (n - i) (G - (i + 1))) (.slice (some ⟨b, i * 3, none⟩) (n - i) (c - i)) (by simp [Act.eval, Act.put]) (by simp [Act.eval, Act.put]) (hcpB _ hF1 hF2 3 (G - (i + 1)) (c - i)) ?_)
  go_wp2
  go_ret
  exact ⟨rfl, rfl⟩
end
end Go.Fx

/-
  slices.Insert of one element, as what it turns own lists into.
-/
namespace Go.Fx
open Go Go.Proofs Go.Shelf Go.RowKit Go.Lib

/-- A row of cells after some of them were set. -/
theorem set_row (b : Nat) : ∀ (vs : List Value) (o : Nat) (w : World) (cur : Array Value) (e : TypeId), w.heap[b]? = some (.cells cur e (0, 0)) → o + vs.length ≤ cur.size →
    ∃ cur' : Array Value, (w.setCells b o vs).heap[b]? = some (.cells cur' e (0, 0)) ∧ cur'.size = cur.size ∧ (∀ j, j < vs.length → cur'[o + j]? = vs[j]?) ∧ (∀ j, j < o ∨ o + vs.length ≤ j → cur'[j]? = cur[j]?) ∧
      (∀ k, k ≠ b → (w.setCells b o vs).heap[k]? = w.heap[k]?) ∧ (w.setCells b o vs).heap.size = w.heap.size ∧ (w.setCells b o vs).os = w.os ∧ (w.setCells b o vs).tape = w.tape ∧ (w.setCells b o vs).output = w.output
  | [], o, w, cur, e, h, _ => ⟨cur, h, rfl, fun j hj => absurd hj (Nat.not_lt_zero j), fun _ _ => rfl, fun _ _ => rfl, rfl, rfl, rfl, rfl⟩
  | v :: r, o, w, cur, e, h, hs => by
    have h1 : (w.setCell ⟨b, o, none⟩ v).heap[b]? = some (.cells (cur.setIfInBounds o v) e (0, 0)) := by
      simp [World.setCell, Array.getElem?_modify, h]
    have hs2 : o + (r.length + 1) ≤ cur.size := by simpa using hs
    obtain ⟨cur', a1, a2, a3, a4, a5, a6, a7, a8, a9⟩ := set_row b r (o + 1) _ _ e h1 (by simp; omega)
    refine ⟨cur', a1, by rw [a2]; simp, fun j hj => ?_, fun j hj => ?_, fun k hk => ?_, ?_, a7, a8, a9⟩
    · cases j with
      | zero => rw [Nat.add_zero, a4 o (.inl (by omega)), Array.getElem?_setIfInBounds_self_of_lt (by omega)]; rfl
      | succ j => rw [show o + (j + 1) = o + 1 + j by omega, a3 j (by simpa using hj)]; rfl
    · have hj : j < o ∨ o + (r.length + 1) ≤ j := by simpa using hj
      rw [a4 j (by omega), Array.getElem?_setIfInBounds_ne (by omega)]
    · show (World.setCells (w.setCell ⟨b, o, none⟩ v) b (o + 1) r).heap[k]? = _
      rw [a5 k hk]; simp [World.setCell, Array.getElem?_modify, Ne.symm hk]
    · show (World.setCells (w.setCell ⟨b, o, none⟩ v) b (o + 1) r).heap.size = _
      rw [a6]; simp [World.setCell]

def insF (i : Nat) (f g : Nat → Nat → AV) (a j : Nat) : AV := bif decide (a < i) then f a j else bif decide (a = i) then g 0 j else f (a - 1) j
theorem ins_list {cs vs : List Value} {i n : Nat} (hc : cs.length = n * 3) (hv : vs.length = 3) (hi : i ≤ n) :
    (cs.take (i * 3) ++ vs ++ cs.drop (i * 3)).length = (n + 1) * 3 ∧ (∀ q, q < i * 3 → (cs.take (i * 3) ++ vs ++ cs.drop (i * 3))[q]? = cs[q]?) ∧ (∀ j, j < 3 → (cs.take (i * 3) ++ vs ++ cs.drop (i * 3))[i * 3 + j]? = vs[j]?) ∧
      ∀ q, i * 3 ≤ q → (cs.take (i * 3) ++ vs ++ cs.drop (i * 3))[q + 3]? = cs[q]? := by
  have ht : (cs.take (i * 3)).length = i * 3 := by rw [List.length_take]; omega
  refine ⟨by simp [ht, hv, hc]; omega, fun q hq => ?_, fun j hj => ?_, fun q hq => ?_⟩
  · rw [List.append_assoc, List.getElem?_append_left (by omega), List.getElem?_take_of_lt hq]
  · rw [List.append_assoc, List.getElem?_append_right (by omega), ht, Nat.add_sub_cancel_left, List.getElem?_append_left (by omega)]
  · rw [List.getElem?_append_right (by simp [ht, hv]; omega)]
    simp only [List.length_append, ht, hv, List.getElem?_drop]
    congr 1; omega
/-- What the call leaves, of values alone. -/
structure InsR (c : Cfg) (n i : Nat) (f g : Nat → Nat → AV) (v : Value) (w' : World) : Prop where
  own : ∃ xs, OwnsL w' 74 3 v (n + 1) xs ∧ (∀ x ∈ xs, x.oneCell' = true) ∧ ∀ a j, a < n + 1 → j < 3 → ∃ x, xs[a * 3 + j]? = some x ∧ Reads c.g c.I c.w (insF i f g a j) 0 x
  os : w'.os = c.w.os
  tape : w'.tape = c.w.tape
  output : w'.output = c.w.output
  size : c.w.heap.size ≤ w'.heap.size
  block : ∀ b, b < c.w.heap.size → vblk (c.g 0).v ≠ some b → w'.heap[b]? = c.w.heap[b]?
  blk : ∀ b, vblk v = some b → (c.w.heap.size ≤ b ∧ b < w'.heap.size) ∨ vblk (c.g 0).v = some b
/-- The elements, where they stand in order. -/
theorem ins_reads {c : Cfg} {n i : Nat} {f g : Nat → Nat → AV} {cs vs : List Value} (hc : cs.length = n * 3) (hv : vs.length = 3) (hi : i ≤ n)
    (hf : ∀ a j, a < n → j < 3 → ∃ x, cs[a * 3 + j]? = some x ∧ Reads c.g c.I c.w (f a j) 0 x) (hg : ∀ j, j < 3 → ∃ x, vs[j]? = some x ∧ Reads c.g c.I c.w (g 0 j) 0 x) :
    ∀ a j, a < n + 1 → j < 3 → ∃ x, (cs.take (i * 3) ++ vs ++ cs.drop (i * 3))[a * 3 + j]? = some x ∧ Reads c.g c.I c.w (insF i f g a j) 0 x := fun a j ha hj => by
  obtain ⟨_, l1, l2, l3⟩ := ins_list hc hv hi
  unfold insF
  rcases Nat.lt_trichotomy a i with h | h | h
  · rw [decide_eq_true h, l1 _ (by omega)]; exact hf a j (by omega) hj
  · subst h; rw [decide_eq_false (Nat.lt_irrefl a), decide_eq_true rfl, l2 j hj]; exact hg j hj
  · rw [decide_eq_false (by omega), decide_eq_false (by omega)]
    obtain ⟨m, rfl⟩ : ∃ m, a = m + 1 := ⟨a - 1, by omega⟩
    rw [show (m + 1) * 3 + j = (m * 3 + j) + 3 by omega, l3 _ (by omega)]
    exact hf m j (by omega) hj
end Go.Fx

/-
  slices.Insert of one element: its three roads, told of a configuration.
-/
namespace Go.Fx
open Go Go.Proofs Go.Shelf Go.RowKit Go.Lib

theorem cell_row {w : World} {b : Nat} {cur : Array Value} {e : TypeId} (h : w.heap[b]? = some (.cells cur e (0, 0))) (j : Nat) : w.cell? ⟨b, j, none⟩ = cur[j]? := by
  simp [World.cell?, h]
/-- An own list that is not empty. -/
theorem own_at {c : Cfg} (hok : c.Ok) {k e es n ver : Nat} {f : Nat → Nat → AV} (hk : c.H[k]? = some (.list e es n f ver)) (hn : 0 < n) :
    (c.g k).ver = ver ∧ 0 < ver ∧ ∃ (b cap : Nat) (cur : Array Value) (xs : List Value), (c.g k).v = .slice (some ⟨b, 0, none⟩) n cap ∧ c.w.heap[b]? = some (.cells cur e (0, 0)) ∧ n ≤ cap ∧ cap ≤ maxLen ∧ cur.size = cap * es ∧ xs.length = n * es ∧
      (∀ q, q < n * es → cur[q]? = xs[q]?) ∧ (∀ x ∈ xs, x.oneCell' = true) ∧ ∀ i j, i < n → j < es → ∃ x, xs[i * es + j]? = some x ∧ Reads c.g c.I c.w (f i j) 0 x := by
  obtain ⟨hv, hp, xs, ho, h1, hx⟩ := hok.obj k _ hk
  refine ⟨hv, hp, ?_⟩
  rcases ho with ⟨h0, _⟩ | ⟨b, cap, cur, a1, a2, a3, a4, a5, a6, a7⟩
  · omega
  · have hle : n * es ≤ cur.size := by rw [a6]; exact Nat.mul_le_mul_right _ a4
    refine ⟨b, cap, cur, xs, a1, a3, a4, a5, a6, ?_, fun q hq => ?_, h1, hx⟩
    · rw [← a7, List.length_take]; simp; exact Nat.min_eq_left hle
    · rw [← a7, List.getElem?_take_of_lt hq]; simp
theorem wslice {n : Nat} {b cap : Nat} (h : 0 < cap) : vblk (.slice (some ⟨b, 0, none⟩) n cap) = some b := by
  obtain ⟨c, rfl⟩ : ∃ c, cap = c + 1 := ⟨cap - 1, by omega⟩
  rfl
section
variable {c : Cfg} (hok : c.Ok) {n ver ver2 i : Nat} {f g : Nat → Nat → AV} (h0 : c.H[0]? = some (.list 74 3 n f ver)) (h1 : c.H[1]? = some (.list 74 3 1 g ver2)) (hn : 0 < n) (hn2 : n ≤ 1000) (hi : i < n)
include hok h0 h1 hn hn2 hi
theorem ins_mid : Calls Tryz.prog 118 #[(c.g 0).v, .int .i64 i, (c.g 1).v] c.w fun e w' => ∃ v, e = .returned v ∧ InsR c n i f g v w' := by
  obtain ⟨_, _, b, cap, cur, xs, a1, a2, a3, a4, a5, a6, a7, a8, a9⟩ := own_at hok h0 hn
  obtain ⟨_, _, vb, vc, curv, vs, b1, b2, b3, b4, b5, b6, b7, b8, b9⟩ := own_at hok h1 Nat.one_pos
  have hne : vb ≠ b := fun e => hok.apart 0 1 _ _ b h0 h1 (by decide) (by show vblk (c.g 0).v = some b; rw [a1]; exact wslice (by omega)) (by show vblk (c.g 1).v = some b; rw [b1, e]; exact wslice (by omega))
  have b6 : vs.length = 3 := b6
  have hg : ∀ j, j < 3 → ∃ x, vs[j]? = some x ∧ Reads c.g c.I c.w (g 0 j) 0 x := fun j hj => by have := b9 0 j Nat.one_pos hj; rwa [Nat.zero_mul, Nat.zero_add] at this
  have hm : cap ≤ 9223372036854775807 := a4
  obtain ⟨l0, l1, l2, l3⟩ := ins_list a6 b6 (Nat.le_of_lt hi)
  have hone : ∀ x ∈ (xs.take (i * 3) ++ vs ++ xs.drop (i * 3)), x.oneCell' = true := fun x hx => by
    rcases List.mem_append.1 hx with hx | hx
    · rcases List.mem_append.1 hx with hx | hx
      · exact a8 x (List.mem_of_mem_take hx)
      · exact b8 x hx
    · exact a8 x (List.mem_of_mem_drop hx)
  have hdl : (xs.drop (i * 3)).length = (n - i) * 3 := by rw [List.length_drop, a6]; omega
  have hcs : ∀ j v, xs[j]? = some v → c.w.cell? ⟨b, j, none⟩ = some v := fun j v hj => by
    rw [cell_row a2, a7 j (by have := (List.getElem?_eq_some_iff.1 hj).1; omega)]; exact hj
  have hvs : ∀ j v, vs[j]? = some v → c.w.cell? ⟨vb, 0 + j, none⟩ = some v := fun j v hj => by
    rw [cell_row b2, Nat.zero_add, b7 j (by have := (List.getElem?_eq_some_iff.1 hj).1; omega)]; exact hj
  rw [a1, b1]
  by_cases hroom : n + 1 ≤ cap
  · refine (ins_shift b n cap i vb 0 vc xs vs c.w hi hroom hm hne a6 b6 hcs (fun j hj => by rw [cell_row a2, Array.getElem?_eq_getElem (by omega)]; rfl) (fun j hj => frozen_no a2 (by omega)) hvs a8 b8
      74 74 curv.size cur.size (by simp [World.shape?, b2]) (by simp [World.shape?, a2]) (by omega) (by simp [World.frozen?, b2]) (by simp [World.frozen?, b2])).mono fun e w' ⟨he, hw⟩ => ?_
    subst hw
    obtain ⟨cu1, p1, p2, p3, p4, p5, p6, p7, p8, p9⟩ := set_row b (xs.drop (i * 3)) ((i + 1) * 3) c.w.drew cur 74 a2 (by rw [hdl]; omega)
    obtain ⟨cu2, q1, q2, q3, q4, q5, q6, q7, q8, q9⟩ := set_row b vs (i * 3) _ cu1 74 p1 (by rw [b6]; omega)
    refine ⟨_, he, ⟨_, .inr ⟨b, cap, cu2, rfl, by omega, q1, hroom, a4, by omega, ?_⟩, hone, ins_reads a6 b6 (Nat.le_of_lt hi) a9 hg⟩, q7.trans p7, q8.trans p8, q9.trans p9, by rw [q6, p6]; exact Nat.le_refl _, fun k hk hne2 => ?_, fun k hk => .inr ?_⟩
    · apply List.ext_getElem?
      intro q
      rcases Nat.lt_or_ge q ((n + 1) * 3) with h | h
      · rw [List.getElem?_take_of_lt h, Array.getElem?_toList]
        rcases Nat.lt_or_ge q (i * 3) with h2 | h2
        · rw [q4 q (.inl h2), p4 q (.inl (by omega)), a7 q (by omega), l1 q h2]
        · rcases Nat.lt_or_ge q (i * 3 + 3) with h3 | h3
          · obtain ⟨j, rfl⟩ : ∃ j, q = i * 3 + j := ⟨q - i * 3, by omega⟩
            rw [q3 j (by omega), l2 j (by omega)]
          · obtain ⟨j, rfl⟩ : ∃ j, q = (i + 1) * 3 + j := ⟨q - (i + 1) * 3, by omega⟩
            rw [q4 _ (.inr (by rw [b6]; omega)), p3 j (by rw [hdl]; omega), List.getElem?_drop, show (i + 1) * 3 + j = (i * 3 + j) + 3 by omega, l3 _ (by omega)]
      · rw [List.getElem?_take_eq_none h, List.getElem?_eq_none (by rw [l0]; exact h)]
    · have hkb : k ≠ b := fun e => hne2 (by rw [a1, e]; exact wslice (by omega))
      rw [q5 k hkb, p5 k hkb]; rfl
    · rw [wslice (by omega)] at hk
      rw [a1, ← hk]; exact wslice (by omega)
  · have hE : TIok Tryz.prog 74 _ := tab_ok.at (show tab.getD 74 none = some _ from rfl)
    obtain ⟨i0, z, z1, z2, z3, z4, z5⟩ := hE.info
    have hz3 : z.cells.size = 3 := by
      have : z.cells.toList.length = 3 := by rw [z5]; rfl
      simpa using this
    refine (ins_grow b n cap i vb 0 vc xs vs c.w hi a3 (by omega) (by omega) a6 b6 hcs hvs a8 b8 i0 z z1 z4 z2 z3 hz3).mono fun e w' ⟨he, hw⟩ => ?_
    have hGn := grownCap_ge c.w (n + 1) cap 74
    have hGm := grownCap_le_maxLen c.w (n + 1) cap 74 (by unfold maxLen; omega)
    generalize hG : grownCap c.w (n + 1) cap 74 = G at he hw hGn hGm
    generalize hR : (xs.take (i * 3)).toArray ++ Builtin.zeroCells z.cells (n + 1 - i) ++ Builtin.zeroCells z.cells (G - (n + 1)) = ROW at hw
    have ht : (xs.take (i * 3)).length = i * 3 := by rw [List.length_take]; omega
    have hRs : ROW.size = G * 3 := by
      rw [← hR]
      simp [Builtin.zeroCells, hz3]
      omega
    have hRl : ∀ q, q < i * 3 → ROW[q]? = xs[q]? := fun q hq => by
      rw [← hR, Array.append_assoc, Array.getElem?_append_left (by simpa [ht] using hq)]
      simp [List.getElem?_take_of_lt hq]
    have hp : (c.w.alloc (.cells ROW 74)).drew.heap[c.w.heap.size]? = some (.cells ROW 74 (0, 0)) := by
      show (c.w.heap.push (.cells ROW 74))[c.w.heap.size]? = _
      simp
    subst hw
    obtain ⟨cu1, p1, p2, p3, p4, p5, p6, p7, p8, p9⟩ := set_row c.w.heap.size vs (i * 3) _ ROW 74 hp (by rw [b6]; omega)
    obtain ⟨cu2, q1, q2, q3, q4, q5, q6, q7, q8, q9⟩ := set_row c.w.heap.size (xs.drop (i * 3)) ((i + 1) * 3) ((c.w.alloc (.cells ROW 74)).drew.setCells c.w.heap.size (i * 3) vs).drew cu1 74 p1 (by rw [hdl]; omega)
    have hsz : (c.w.alloc (.cells ROW 74)).drew.heap.size = c.w.heap.size + 1 := by show (c.w.heap.push _).size = _; simp
    refine ⟨_, he, ⟨_, .inr ⟨c.w.heap.size, G, cu2, rfl, by omega, q1, hGn, hGm, by omega, ?_⟩, hone, ins_reads a6 b6 (Nat.le_of_lt hi) a9 hg⟩, q7.trans p7, q8.trans p8, q9.trans p9, by rw [q6]; show _ ≤ ((c.w.alloc (.cells ROW 74)).drew.setCells c.w.heap.size (i * 3) vs).heap.size; rw [p6, hsz]; omega, fun k hk _ => ?_, fun k hk => .inl ?_⟩
    · apply List.ext_getElem?
      intro q
      rcases Nat.lt_or_ge q ((n + 1) * 3) with h | h
      · rw [List.getElem?_take_of_lt h, Array.getElem?_toList]
        rcases Nat.lt_or_ge q (i * 3) with h2 | h2
        · rw [q4 q (.inl (by omega)), p4 q (.inl h2), hRl q h2, l1 q h2]
        · rcases Nat.lt_or_ge q (i * 3 + 3) with h3 | h3
          · obtain ⟨j, rfl⟩ : ∃ j, q = i * 3 + j := ⟨q - i * 3, by omega⟩
            rw [q4 _ (.inl (by omega)), p3 j (by omega), l2 j (by omega)]
          · obtain ⟨j, rfl⟩ : ∃ j, q = (i + 1) * 3 + j := ⟨q - (i + 1) * 3, by omega⟩
            rw [q3 j (by rw [hdl]; omega), List.getElem?_drop, show (i + 1) * 3 + j = (i * 3 + j) + 3 by omega, l3 _ (by omega)]
      · rw [List.getElem?_take_eq_none h, List.getElem?_eq_none (by rw [l0]; exact h)]
    · rw [q5 k (by omega)]
      show ((c.w.alloc (.cells ROW 74)).drew.setCells c.w.heap.size (i * 3) vs).heap[k]? = _
      rw [p5 k (by omega)]
      show (c.w.heap.push (.cells ROW 74))[k]? = _
      rw [Array.getElem?_push_lt hk]; simp [Array.getElem?_eq_getElem hk]
    · rw [wslice (by omega)] at hk
      cases hk
      refine ⟨Nat.le_refl _, ?_⟩
      rw [q6]
      show _ < ((c.w.alloc (.cells ROW 74)).drew.setCells c.w.heap.size (i * 3) vs).heap.size
      rw [p6, hsz]; omega
end

set_option maxHeartbeats 4000000 in
set_option maxRecDepth 100000 in
theorem ins_last (b n c vb vc : Nat) (w w' : World) (v' : Value) (hnc : n ≤ c) (hc63 : c ≤ 9223372036854775807)
    (hap : (Builtin.append_ #[61, 61] 61 #[.slice (some ⟨b, 0, none⟩) n c, .slice (some ⟨vb, 0, none⟩) 1 vc]).run Tryz.prog w = .ok v' w') :
    Calls Tryz.prog 118 #[.slice (some ⟨b, 0, none⟩) n c, .int .i64 n, .slice (some ⟨vb, 0, none⟩) 1 vc] w fun e w2 => e = .returned v' ∧ w2 = w' := by
  have t0 := it0; have a0 := ia0; have t3 := it3; have a3 := ia3; have z3 := iz3; have t4 := it4; have a4 := ia4; have z4 := iz4; have t61 := it61; have a61 := ia61; have z61 := iz61; have z74 := iz74
  have u0 := run_underlying it0; have u3 := run_underlying it3; have u4 := run_underlying it4; have u61 := run_underlying it61
  have mixed := imix
  go_enter if118, in118
  go_wp2_with (at_builtin; refine Lib.wpList_append_run _ rfl _ _ _ _ rfl _ _ rfl rfl _ _ hap ?_)
  all_goals (go_ret; exact ⟨rfl, rfl⟩)
theorem ins_end {W0 : World} {G : Nat → Option AV} (hX : (Xc W0 G).Good) {c : Cfg} (hok : c.Ok) {n ver ver2 : Nat} {f g : Nat → Nat → AV} (h0 : c.H[0]? = some (.list 74 3 n f ver)) (h1 : c.H[1]? = some (.list 74 3 1 g ver2)) (hn : 0 < n) (hn2 : n ≤ 1000) :
    Calls Tryz.prog 118 #[(c.g 0).v, .int .i64 n, (c.g 1).v] c.w fun e w' => ∃ v, e = .returned v ∧ InsR c n n f g v w' := by
  obtain ⟨_, _, b, cap, cur, xs, a1, a2, a3, a4, a5, a6, a7, a8, a9⟩ := own_at hok h0 hn
  obtain ⟨_, _, vb, vc, curv, vs, b1, b2, b3, b4, b5, b6, b7, b8, b9⟩ := own_at hok h1 Nat.one_pos
  have hown : OwnsL c.w 74 3 (c.g 0).v n xs := by
    obtain ⟨_, _, ys, ho, _, _⟩ := hok.obj 0 _ h0
    rcases ho with ⟨e, _⟩ | ⟨b', cap', cur', k1, k2, k3, k4, k5, k6, k7⟩
    · omega
    · refine .inr ⟨b', cap', cur', k1, k2, k3, k4, k5, k6, ?_⟩
      rw [a1] at k1; cases k1
      rw [a2] at k3; cases k3
      apply List.ext_getElem?
      intro q
      rcases Nat.lt_or_ge q (n * 3) with h | h
      · rw [List.getElem?_take_of_lt h, Array.getElem?_toList, a7 q h]
      · rw [List.getElem?_take_eq_none h, List.getElem?_eq_none (by omega)]
  have hy : Elems c 3 1 g (c.g 1).v := by
    refine ⟨some ⟨vb, 0, none⟩, vc, vs, b1, b6, b8, fun a ha j x hj => ?_, (fun _ h => by cases h), b9⟩
    cases ha
    rw [Addr.add_lit, cell_row b2, Nat.zero_add, b7 j (by have := (List.getElem?_eq_some_iff.1 hj).1; omega)]; exact hj
  obtain ⟨v, w', ys, r1, r2, r3, r4, r5, r6, r7, r8, r9, r10, r11⟩ := run_append' (ty := 61) hX (t := 61) (u := 61) (e := 74) (ti := _) (ei := _) (show tab.getD 61 none = some _ from rfl) (by rfl) (show tab.getD 74 none = some _ from rfl) rfl (by decide) (cl := default) hown a8 hy (by show (n + 1) * 24 ≤ _; omega) (by unfold maxLen; omega)
  rw [a1, b1] at r1 ⊢
  have hm : cap ≤ 9223372036854775807 := a4
  refine (ins_last b n cap vb vc c.w w' v a3 hm r1).mono fun e w2 ⟨he, hw⟩ => ?_
  subst hw
  have r3 : ys.length = 3 := r3
  refine ⟨v, he, ⟨_, r2, fun x hx => ?_, fun a j ha hj => ?_⟩, r6, r7, r8, r9, r10, r11⟩
  · rcases List.mem_append.1 hx with hx | hx
    · exact a8 x hx
    · exact r4 x hx
  · unfold insF
    by_cases h : a < n
    · rw [decide_eq_true h, List.getElem?_append_left (by omega)]; exact a9 a j h hj
    · obtain rfl : a = n := by omega
      rw [decide_eq_false h, decide_eq_true rfl, List.getElem?_append_right (by omega), a6, Nat.add_sub_cancel_left]
      have := r5 0 j Nat.one_pos hj
      rwa [Nat.zero_mul, Nat.zero_add] at this
/-- The call, as what it turns own lists into. -/
theorem c118 {W0 : World} {G : Nat → Option AV} (hX : (Xc W0 G).Good) (n i ver ver2 : Nat) (f g : Nat → Nat → AV) (hs : Side (0 < n ∧ n ≤ 1000 ∧ i ≤ n)) :
    Mut (Xc W0 G) 118 [.own 0 ver, .int .i64 (i : Int), .own 1 ver2] [.list 74 3 n f ver, .list 74 3 1 g ver2] (.own 0 (ver + 1)) [.list 74 3 (n + 1) (insF i f g) (ver + 1), .dead] := by
  obtain ⟨hn, hn2, hi⟩ := hs.get
  refine ⟨enters_lib (by kernel_rfl), fun c cargs hok hb hL hcs hargs => ?_⟩
  have h0 : c.H[0]? = some (.list 74 3 n f ver) := by rw [hL]; rfl
  have h1 : c.H[1]? = some (.list 74 3 1 g ver2) := by rw [hL]; rfl
  obtain ⟨hv0, hp0, _⟩ := own_at hok h0 hn
  obtain ⟨hv1, hp1, _⟩ := own_at hok h1 Nat.one_pos
  obtain ⟨u0, x0, y0⟩ := hargs 0 _ rfl
  obtain ⟨u1, x1, y1⟩ := hargs 1 _ rfl
  obtain ⟨u2, x2, y2⟩ := hargs 2 _ rfl
  have e0 : u0 = (c.g 0).v := y0.2.2.2 hv0
  have e1 : u1 = .int .i64 (i : Int) := y1
  have e2 : u2 = (c.g 1).v := y2.2.2.2 hv1
  have ea : cargs = #[(c.g 0).v, .int .i64 (i : Int), (c.g 1).v] := by
    have hsz : cargs.size = 3 := by simpa using hcs
    apply Array.ext_getElem?
    intro q
    rcases q with _ | _ | _ | q
    · rw [x0, e0]; rfl
    · rw [x1, e1]; rfl
    · rw [x2, e2]; rfl
    · rw [Array.getElem?_eq_none (by omega), Array.getElem?_eq_none (by simp)]
  subst ea
  have key : Calls Tryz.prog 118 #[(c.g 0).v, .int .i64 (i : Int), (c.g 1).v] c.w fun e w' => ∃ v, e = .returned v ∧ InsR c n i f g v w' := by
    rcases Nat.lt_or_eq_of_le hi with h | h
    · exact ins_mid hok h0 h1 hn hn2 h
    · subst h; exact ins_end hX hok h0 h1 hn hn2
  refine key.mono fun e w' ⟨v, he, R⟩ => ?_
  obtain ⟨xs, o1, o2, o3⟩ := R.own
  have t1 := turn_list (f' := insF i f g) (ver' := ver + 1) hok h0 R.os R.tape R.output R.size R.block (Nat.le_succ _) (fun h => by omega) R.blk o1 o2 o3
  rw [hL] at t1
  have t2 := Tr.weaken t1.ok (H' := [.list 74 3 (n + 1) (insF i f g) (ver + 1), .dead]) rfl (fun k o o' ho ho' => by
    rcases k with _ | _ | k
    · simp at ho ho'; subst ho; subst ho'; exact .refl _
    · simp at ho ho'; subst ho; subst ho'; exact .dead _
    · simp at ho)
  have hvo : v.oneCell' = true := by
    rcases o1 with ⟨_, _, _, h⟩ | ⟨_, _, _, h, _⟩
    · rw [h]; rfl
    · rw [h]; rfl
  refine ⟨v, _, he, rfl, t1.trans t2, rfl, ?_⟩
  exact ⟨Nat.zero_lt_succ _, by show ver + 1 ≤ (upd c.g 0 ⟨(c.g 0).b, v, ver + 1⟩ 0).ver; rw [upd_same]; exact Nat.le_refl _, hvo, fun _ => by show v = (upd c.g 0 ⟨(c.g 0).b, v, ver + 1⟩ 0).v; rw [upd_same]⟩
end Go.Fx

/-
  A trip cut: slices.Clone, and the walk of Cut.
-/
namespace Go.Fx
open Go.Proofs Go.RowKit

theorem list_eq : HObj.list 74 3 = HObj.list 74 3 := rfl
/-- What Cut says of a part of a segment of the trip. -/
@[irreducible] def cutE (x : Trp) (k : Nat) (a b : Int) : Int := firstS [isOk (bif (bif inB a 0 (sgx x k).me then decide (1 ≤ b) else false) then decide (b < (sgx x k).se) else false) 2, isOk (decide ((x.sg.length : Int) < 60)) 16]
theorem cut_I {t : Trf} {x : Trp} {k : Nat} {a b : Int} (hr : rideE t x = 0) (hk : k < x.sg.length) (h : cutE x k a b = 0) : CutI t x k a b := by
  unfold cutE at h
  have h := firstS_zero h
  have h1 := and_t (isOk_0 (b := bif (bif inB a 0 (sgx x k).me then decide (1 ≤ b) else false) then decide (b < (sgx x k).se) else false) (e := 2) (h _ (by simp)) (by decide))
  have h2 := of_decide_eq_true (isOk_0 (b := decide ((x.sg.length : Int) < 60)) (e := 16) (h _ (by simp)) (by decide))
  have h3 := and_t h1.1
  exact ⟨hr, hk, by omega, inB_iff.1 h3.1, ⟨of_decide_eq_true h3.2, of_decide_eq_true h1.2⟩⟩
theorem cut_is (x : Trp) (k : Nat) (a b : Int) : firstS [isOk ((sgx x k).z == (sgx x k).z) 13, isOk (bif (bif inB a 0 (sgx x k).me then decide (1 ≤ b) else false) then decide (b < (sgx x k).se) else false) 2, isOk (decide ((x.sg.length : Int) < 60)) 16] = cutE x k a b := by
  unfold cutE; rw [beq_self_eq_true]; rfl
theorem cut_f {x : Trp} {k : Nat} {a b : Int} (h : cutE x k a b = 0) : 0 ≤ a ∧ a ≤ (sgx x k).me ∧ 1 ≤ b ∧ b < (sgx x k).se ∧ x.sg.length < 60 := by
  unfold cutE at h
  have h := firstS_zero h
  have h1 := and_t (isOk_0 (b := bif (bif inB a 0 (sgx x k).me then decide (1 ≤ b) else false) then decide (b < (sgx x k).se) else false) (e := 2) (h _ (by simp)) (by decide))
  have h2 := of_decide_eq_true (isOk_0 (b := decide ((x.sg.length : Int) < 60)) (e := 16) (h _ (by simp)) (by decide))
  have h3 := and_t h1.1
  exact ⟨(inB_iff.1 h3.1).1, (inB_iff.1 h3.1).2, of_decide_eq_true h3.2, of_decide_eq_true h1.2, by omega⟩
theorem cut_list {x : Trp} {k : Nat} {a b : Int} (hk : k < x.sg.length) {f g : Nat → Nat → AV} {l : List AV} (hf : ∀ i j, i < x.sg.length → j < 3 → f i j = tbl (segC (sgx x i)) j) (hl : l = segC ⟨(sgx x k).z, a, b⟩)
    (hg : ∀ j, j < 3 → g 0 j = tbl (segC ⟨(sgx x k).z, (sgx x k).me - a, (sgx x k).se - b⟩) j) : ∀ i j, i < x.sg.length + 1 → j < 3 → insF (k + 1) (putF k 0 l f) g i j = tbl (segC (sgx (cutX x k a b) i)) j := fun i j hi hj => by
  rw [cut_at x k a b hi]
  have put : ∀ q, q ≠ k → putF k 0 l f q j = f q j := fun q hq => by unfold putF; rw [if_neg (fun h => hq h.1)]
  unfold insF
  rcases Nat.lt_trichotomy i k with c | c | c
  · rw [decide_eq_true (show i < k + 1 by omega), cut_lo c]
    show putF k 0 l f i j = _
    rw [put i (by omega), hf i j (by omega) hj]
  · subst c
    rw [decide_eq_true (show i < i + 1 by omega), cut_k]
    show putF i 0 l f i j = _
    subst hl
    unfold putF
    rw [if_pos ⟨rfl, Nat.zero_le _, by show j < 0 + 3; omega⟩]; rfl
  · rw [decide_eq_false (show ¬ i < k + 1 by omega)]
    by_cases d : i = k + 1
    · subst d
      rw [decide_eq_true rfl, cut_k1]
      exact hg j hj
    · obtain ⟨q, rfl⟩ : ∃ q, i = q + 1 := ⟨i - 1, by omega⟩
      rw [decide_eq_false d, cut_hi (by omega)]
      show putF k 0 l f q j = _
      rw [put q (by omega), hf q j (by omega) hj]
theorem LeH.ownN {H : List HObj} {k ver e es n m : Nat} {f g : Nat → Nat → AV} (hk : H[k]? = some (.list e es n f ver)) (hn : n = m) (h : ∀ i j, i < n → j < es → Le (f i j) (g i j)) : LeH H (.own k ver) (.slc es m g) := by
  subst hn; exact .own hk h
section
variable {W0 : World} {G : Nat → Option AV} (hX : (Xc W0 G).Good)
include hX
theorem c117 (x : Trp) (hs : Side (XOk x)) (hp : 0 < x.sg.length) : Mut (Xc W0 G) 117 [segS x.sg] [] (.own 0 1) [sgO x.sg.length (fun i j => tbl (segC (sgx x i)) j)] := by
  have k2 := hs.get.sg
  refine mut_of' hX (show FnIs (Xc W0 G) 117 Tryz.f117 (codeOf Tryz.f117) from ⟨by kernel_rfl, by kernel_rfl, by kernel_rfl, by kernel_rfl⟩) rfl ?_
  repeat' (first
    | ((with_reducible refine (?_ : Alt _ _)); first | fail | (with_reducible refine Alt.one ?_))
    | ((with_reducible refine (?_ : AllLe _ _)); first | (first | exact AllLe.refl _ | (repeat' (first | exact trivial | apply Le.aggs | apply Le.tups | apply Le.fns | exact Le.refl _ | refine ⟨?_, ?_⟩))))
    | ((with_reducible refine (?_ : Sc _ (AllRen _ _ _))); refine Sc.of ?_; first | (repeat' (first | exact trivial | apply Le.aggs | apply Le.tups | apply Le.fns | exact Le.refl _ | refine ⟨?_, ?_⟩)))
    | ((with_reducible refine (?_ : (List.all _ _) = true)); rfl)
    | ((with_reducible refine (?_ : (and _ _) = true)); rfl)
    | ((with_reducible refine (?_ : List.Nodup _)); exact nodupB_spec rfl)
    | ((with_reducible refine (?_ : @Eq Nat _ _)); rfl)
    | ((with_reducible refine (?_ : LeOks _ _ _)); first | exact trivial | exact ⟨.refl _, trivial⟩ | exact ⟨.refl _, .refl _, trivial⟩)
    | ((fail_if_success with_reducible refine Stop.go ?_); (first | with_reducible refine And.intro ?_ ?_ | with_reducible refine Cut.go ?_ | (with_reducible (refine impI ?_; intro _)) | (with_reducible refine (?_ : footOK _ _ = true); kernel_rfl) | ((with_reducible refine propI ?_); conv => whnf))))
  all_goals try (exact .of (Nat.le_of_ble_eq_true rfl))
  all_goals try (refine Sc.of ⟨?_, by omega⟩; show x.sg.length * 24 ≤ 140737488355328; omega)
  all_goals try (exact .of hp)
  all_goals first
    | (rename_i v; cases v; done)
    | exact .mk [0] [] _ rfl (.le (.refl _)) ⟨.le (.refl _), trivial⟩ rfl
theorem c116 (l : List Int) (hs : Side (l.length ≤ 1000)) : Pure (Xc W0 G) 116 [iRow l] (iRow l) := by
  have k2 := hs.get
  rcases Nat.eq_zero_or_pos l.length with h0 | h0
  · obtain rfl := List.eq_nil_of_length_eq_zero h0
    refine Mut.vals (fun v => ∃ a cap, v = .slice a 0 cap) ⟨_, (show FnIs (Xc W0 G) 116 Tryz.f116 (codeOf Tryz.f116) from ⟨by kernel_rfl, by kernel_rfl, by kernel_rfl, by kernel_rfl⟩).1, by kernel_rfl, by kernel_rfl⟩ (fun g I w m v ⟨a, cap, hv, _⟩ => ⟨a, cap, hv⟩) fun v ⟨a, cap, hv⟩ => ?_
    subst hv
    cases a with
    | none =>
      refine mut_of' hX (show FnIs (Xc W0 G) 116 Tryz.f116 (codeOf Tryz.f116) from ⟨by kernel_rfl, by kernel_rfl, by kernel_rfl, by kernel_rfl⟩) rfl ?_
      repeat' (first
        | ((with_reducible refine (?_ : Alt _ _)); first | fail | (with_reducible refine Alt.one ?_))
        | ((with_reducible refine (?_ : AllLe _ _)); first | (first | exact AllLe.refl _ | (repeat' (first | exact trivial | apply Le.aggs | apply Le.tups | apply Le.fns | exact Le.refl _ | refine ⟨?_, ?_⟩))))
        | ((with_reducible refine (?_ : Sc _ (AllRen _ _ _))); refine Sc.of ?_; first | (repeat' (first | exact trivial | apply Le.aggs | apply Le.tups | apply Le.fns | exact Le.refl _ | refine ⟨?_, ?_⟩)))
        | ((with_reducible refine (?_ : (List.all _ _) = true)); rfl)
        | ((with_reducible refine (?_ : (and _ _) = true)); rfl)
        | ((with_reducible refine (?_ : List.Nodup _)); exact nodupB_spec rfl)
        | ((with_reducible refine (?_ : @Eq Nat _ _)); rfl)
        | ((with_reducible refine (?_ : LeOks _ _ _)); first | exact trivial | exact ⟨.refl _, trivial⟩ | exact ⟨.refl _, .refl _, trivial⟩)
        | ((fail_if_success with_reducible refine Stop.go ?_); (first | with_reducible refine And.intro ?_ ?_ | with_reducible refine Cut.go ?_ | (with_reducible (refine impI ?_; intro _)) | (with_reducible refine (?_ : footOK _ _ = true); kernel_rfl) | ((with_reducible refine propI ?_); conv => whnf))))
      all_goals first
        | exact .mk [] [] _ rfl (.le (.slc0 _ _)) trivial rfl
        | (rename_i v; cases v; done)
        | (have := ‹none.isNone = false›; cases this)
    | some a =>
      refine mut_of' hX (show FnIs (Xc W0 G) 116 Tryz.f116 (codeOf Tryz.f116) from ⟨by kernel_rfl, by kernel_rfl, by kernel_rfl, by kernel_rfl⟩) rfl ?_
      repeat' (first
        | ((with_reducible refine (?_ : Alt _ _)); first | fail | (with_reducible refine Alt.one ?_))
        | ((with_reducible refine (?_ : AllLe _ _)); first | (first | exact AllLe.refl _ | (repeat' (first | exact trivial | apply Le.aggs | apply Le.tups | apply Le.fns | exact Le.refl _ | refine ⟨?_, ?_⟩))))
        | ((with_reducible refine (?_ : Sc _ (AllRen _ _ _))); refine Sc.of ?_; first | (repeat' (first | exact trivial | apply Le.aggs | apply Le.tups | apply Le.fns | exact Le.refl _ | refine ⟨?_, ?_⟩)))
        | ((with_reducible refine (?_ : (List.all _ _) = true)); rfl)
        | ((with_reducible refine (?_ : (and _ _) = true)); rfl)
        | ((with_reducible refine (?_ : List.Nodup _)); exact nodupB_spec rfl)
        | ((with_reducible refine (?_ : @Eq Nat _ _)); rfl)
        | ((with_reducible refine (?_ : LeOks _ _ _)); first | exact trivial | exact ⟨.refl _, trivial⟩ | exact ⟨.refl _, .refl _, trivial⟩)
        | ((fail_if_success with_reducible refine Stop.go ?_); (first | with_reducible refine And.intro ?_ ?_ | with_reducible refine Cut.go ?_ | (with_reducible (refine impI ?_; intro _)) | (with_reducible refine (?_ : footOK _ _ = true); kernel_rfl) | ((with_reducible refine propI ?_); conv => whnf))))
      all_goals first
        | (rename_i v; cases v; done)
        | exact .of ⟨by decide, by decide⟩
        | exact .mk [] [0] _ rfl (.own rfl fun i j hi _ => absurd hi (Nat.not_lt_zero _)) trivial rfl
  · refine mut_of' hX (show FnIs (Xc W0 G) 116 Tryz.f116 (codeOf Tryz.f116) from ⟨by kernel_rfl, by kernel_rfl, by kernel_rfl, by kernel_rfl⟩) rfl ?_
    repeat' (first
      | ((with_reducible refine (?_ : Alt _ _)); first | fail | (with_reducible refine Alt.one ?_))
      | ((with_reducible refine (?_ : AllLe _ _)); first | (first | exact AllLe.refl _ | (repeat' (first | exact trivial | apply Le.aggs | apply Le.tups | apply Le.fns | exact Le.refl _ | refine ⟨?_, ?_⟩))))
      | ((with_reducible refine (?_ : Sc _ (AllRen _ _ _))); refine Sc.of ?_; first | (repeat' (first | exact trivial | apply Le.aggs | apply Le.tups | apply Le.fns | exact Le.refl _ | refine ⟨?_, ?_⟩)))
      | ((with_reducible refine (?_ : (List.all _ _) = true)); rfl)
      | ((with_reducible refine (?_ : (and _ _) = true)); rfl)
      | ((with_reducible refine (?_ : List.Nodup _)); exact nodupB_spec rfl)
      | ((with_reducible refine (?_ : @Eq Nat _ _)); rfl)
      | ((with_reducible refine (?_ : LeOks _ _ _)); first | exact trivial | exact ⟨.refl _, trivial⟩ | exact ⟨.refl _, .refl _, trivial⟩)
      | ((fail_if_success with_reducible refine Stop.go ?_); (first | with_reducible refine And.intro ?_ ?_ | with_reducible refine Cut.go ?_ | (with_reducible (refine impI ?_; intro _)) | (with_reducible refine (?_ : footOK _ _ = true); kernel_rfl) | ((with_reducible refine propI ?_); conv => whnf))))
    all_goals try (exact .of h0)
    all_goals try (refine Sc.of ⟨?_, by omega⟩; show l.length * 8 ≤ 140737488355328; omega)
    all_goals first
      | (rename_i v; cases v; done)
      | exact .mk [] [0] _ rfl (.own rfl fun _ _ _ _ => .refl _) trivial rfl
      | trace_state
theorem c118k (k n : Nat) (f g : Nat → Nat → AV) (hs : Side (0 < n ∧ n ≤ 1000 ∧ k < n)) : Mut (Xc W0 G) 118 [.own 0 1, .int .i64 ((k : Int) + 1), .own 1 1] [.list 74 3 n f 1, .list 74 3 1 g 1] (.own 0 2) [.list 74 3 (n + 1) (insF (k + 1) f g) 2, .dead] :=
  c118 hX n (k + 1) 1 1 f g (.mk ⟨hs.get.1, hs.get.2.1, hs.get.2.2⟩)
theorem c54 (x : Trp) (k : Nat) (a b : Int) (hs : Side (XOk x)) (hk : k < x.sg.length) (hB : inK .i64 (sgx x k).me ∧ inK .i64 (sgx x k).se) (hE : cutE x k a b = 0) : Pure (Xc W0 G) 54 [trpA x, .int .i64 (k : Int), segA ⟨(sgx x k).z, a, b⟩] ((.tup 2 (tbl [trpA (cutX x k a b), .int .i64 0]))) := by
  have h1 := hs.get.ex
  have h2 := hs.get.sg
  obtain ⟨⟨b1, b2⟩, b3, b4⟩ := hB
  have hc := cut_f hE
  refine mut_of' hX (show FnIs (Xc W0 G) 54 Tryz.f54 (codeOf Tryz.f54) from ⟨by kernel_rfl, by kernel_rfl, by kernel_rfl, by kernel_rfl⟩) rfl ?_
  repeat' (first
    | ((with_reducible refine (?_ : Alt _ _)); first | (with_reducible apply callAlt (c63 hX _ _ _)) | (with_reducible apply callAlt (c67 hX _ _)) | ((with_reducible apply callAlt (c65_3 hX _ _ _)); case hl => (first | exact ⟨le_slc2 rfl rfl, trivial⟩ | exact ⟨le_slc3 rfl rfl rfl, trivial⟩ | exact ⟨le_slc5 rfl rfl rfl rfl rfl, trivial⟩ | exact AllLe.refl _)) | (with_reducible apply callAlt (c116 hX x.ex (Side.mk hs.get.ex))) | ((with_reducible (apply altM (ks := []) (m := 1); apply And.intro; apply Sc.of; apply (c117 hX x hs (Nat.lt_of_le_of_lt (Nat.zero_le _) hk)))); case' right => (refine And.intro (Sc.of ?_) ?_; · ((repeat' (first | exact trivial | apply Le.aggs | apply Le.tups | apply Le.fns | exact Le.refl _ | refine ⟨?_, ?_⟩)); done))) | ((with_reducible (apply altM (ks := [5, 6]) (m := 0); apply And.intro; apply Sc.of; apply (c118k hX k x.sg.length _ _ ?_))); case' right => (refine And.intro (Sc.of ?_) ?_; · ((repeat' (first | exact trivial | apply Le.aggs | apply Le.tups | apply Le.fns | exact Le.refl _ | refine ⟨?_, ?_⟩)); done))) | (rw [list_eq]; with_reducible refine Alt.two ?_) | (with_reducible refine Alt.one ?_))
    | ((with_reducible refine (?_ : AllLe _ _)); first | (first | exact AllLe.refl _ | (repeat' (first | exact trivial | apply Le.aggs | apply Le.tups | apply Le.fns | exact Le.refl _ | refine ⟨?_, ?_⟩))))
    | ((with_reducible refine (?_ : Sc _ (AllRen _ _ _))); refine Sc.of ?_; first | (repeat' (first | exact trivial | apply Le.aggs | apply Le.tups | apply Le.fns | exact Le.refl _ | refine ⟨?_, ?_⟩)))
    | ((with_reducible refine (?_ : (List.all _ _) = true)); rfl)
    | ((with_reducible refine (?_ : (and _ _) = true)); rfl)
    | ((with_reducible refine (?_ : List.Nodup _)); exact nodupB_spec rfl)
    | ((with_reducible refine (?_ : @Eq Nat _ _)); rfl)
    | ((with_reducible refine (?_ : LeOks _ _ _)); first | exact trivial | exact ⟨.refl _, trivial⟩ | exact ⟨.refl _, .refl _, trivial⟩)
    | ((fail_if_success with_reducible refine Stop.go ?_); (first | with_reducible refine And.intro ?_ ?_ | with_reducible refine Cut.go ?_ | (with_reducible (refine impI ?_; intro _)) | (with_reducible refine (?_ : footOK _ _ = true); kernel_rfl) | ((with_reducible refine propI ?_); conv => whnf))))
  all_goals try (exact .of (Nat.le_of_ble_eq_true rfl))
  all_goals try (exact .of (show -9223372036854775808 ≤ (x.sg.length : Int) - 1 ∧ (x.sg.length : Int) - 1 ≤ 9223372036854775807 from ⟨by omega, by omega⟩))
  all_goals try (exact .of (show 0 ≤ (k : Int) ∧ (k : Int) < x.sg.length from ⟨by omega, by omega⟩))
  all_goals try (exfalso; rename_i v; rw [inB_iff.2 ⟨by omega, by omega⟩] at v; cases v; done)
  all_goals try (exact .of (show -9223372036854775808 ≤ (sgx x k).me - a ∧ (sgx x k).me - a ≤ 9223372036854775807 from ⟨by omega, by omega⟩))
  all_goals try (exact .of (show -9223372036854775808 ≤ (sgx x k).se - b ∧ (sgx x k).se - b ≤ 9223372036854775807 from ⟨by omega, by omega⟩))
  all_goals try (exact .of (show -9223372036854775808 ≤ (k : Int) + 1 ∧ (k : Int) + 1 ≤ 9223372036854775807 from ⟨by omega, by omega⟩))
  all_goals try (exact .of hk)
  all_goals try (exact .mk ⟨by omega, by omega, hk⟩)
  · rename_i v; exact absurd ((cut_is x k a b).trans hE) (bne0 v)
  · refine .mk [] [5] _ rfl (.tups ⟨⟨trivial, .aggs ⟨⟨⟨⟨⟨trivial, .le (.refl _)⟩, .le (.refl _)⟩, .le (.refl _)⟩, .le (.refl _)⟩, .ownN rfl (cut_len x k a b).symm fun i j hi hj => .ofEq (cut_list hk (fun _ _ _ _ => rfl) rfl (fun j hj => ?_) i j hi hj)⟩⟩, .le (.refl _)⟩) trivial rfl
    rcases j with _ | _ | _ | j
    · rfl
    · rfl
    · rfl
    · omega
theorem c54e (x : Trp) (k : Nat) (a b : Int) (hs : Side (XOk x)) (hk : k < x.sg.length) (hE : cutE x k a b ≠ 0) : Pure (Xc W0 G) 54 [trpA x, .int .i64 (k : Int), segA ⟨(sgx x k).z, a, b⟩] ((.tup 2 (tbl [.agg 5 (tbl [.int .i64 0, .int .i64 0, .bool false, .slc0, .slc0]), .int .i64 (cutE x k a b)]))) := by
  have h1 := hs.get.ex
  have h2 := hs.get.sg
  refine mut_of' hX (show FnIs (Xc W0 G) 54 Tryz.f54 (codeOf Tryz.f54) from ⟨by kernel_rfl, by kernel_rfl, by kernel_rfl, by kernel_rfl⟩) rfl ?_
  repeat' (first
    | ((with_reducible refine (?_ : Alt _ _)); first | (with_reducible apply callAlt (c63 hX _ _ _)) | (with_reducible apply callAlt (c67 hX _ _)) | ((with_reducible apply callAlt (c65_3 hX _ _ _)); case hl => (first | exact ⟨le_slc2 rfl rfl, trivial⟩ | exact ⟨le_slc3 rfl rfl rfl, trivial⟩ | exact ⟨le_slc5 rfl rfl rfl rfl rfl, trivial⟩ | exact AllLe.refl _)) | (with_reducible refine Alt.one ?_; fail_if_success (with_reducible refine (?_ : Exists _))))
    | ((with_reducible refine (?_ : AllLe _ _)); first | (first | exact AllLe.refl _ | (repeat' (first | exact trivial | apply Le.aggs | apply Le.tups | apply Le.fns | exact Le.refl _ | refine ⟨?_, ?_⟩))))
    | ((with_reducible refine (?_ : Sc _ (AllRen _ _ _))); refine Sc.of ?_; first | (repeat' (first | exact trivial | apply Le.aggs | apply Le.tups | apply Le.fns | exact Le.refl _ | refine ⟨?_, ?_⟩)))
    | ((with_reducible refine (?_ : (List.all _ _) = true)); rfl)
    | ((with_reducible refine (?_ : (and _ _) = true)); rfl)
    | ((with_reducible refine (?_ : List.Nodup _)); exact nodupB_spec rfl)
    | ((with_reducible refine (?_ : @Eq Nat _ _)); rfl)
    | ((with_reducible refine (?_ : LeOks _ _ _)); first | exact trivial | exact ⟨.refl _, trivial⟩ | exact ⟨.refl _, .refl _, trivial⟩)
    | ((fail_if_success with_reducible refine Stop.go ?_); (first | with_reducible refine And.intro ?_ ?_ | with_reducible refine Cut.go ?_ | (with_reducible (refine impI ?_; intro _)) | (with_reducible refine (?_ : footOK _ _ = true); kernel_rfl) | ((with_reducible refine propI ?_); conv => whnf))))
  all_goals try (exact .of (Nat.le_of_ble_eq_true rfl))
  all_goals try (exact .of (show -9223372036854775808 ≤ (x.sg.length : Int) - 1 ∧ (x.sg.length : Int) - 1 ≤ 9223372036854775807 from ⟨by omega, by omega⟩))
  all_goals try (exact .of (show 0 ≤ (k : Int) ∧ (k : Int) < x.sg.length from ⟨by omega, by omega⟩))
  all_goals try (exfalso; rename_i v; rw [inB_iff.2 ⟨by omega, by omega⟩] at v; cases v; done)
  · exact .mk [] [] _ rfl (.tups ⟨⟨trivial, .aggs ⟨⟨⟨⟨⟨trivial, .le (.refl _)⟩, .le (.refl _)⟩, .le (.refl _)⟩, .le (.refl _)⟩, .le (.refl _)⟩⟩, .le (.intI (cut_is x k a b))⟩) trivial rfl
  all_goals (exfalso; rename_i v; exact hE ((cut_is x k a b).symm.trans (bne1 v)))
end
end Go.Fx
