/-
  Trips with more metres and seconds; trips with segments of one's own.
-/
import Derived.Test.YtgegfljeglphlaaGreatDoorGs
import Derived.Test.YtgegfljeglphlaaGreatDoorGx
import Derived.Test.YtgegfljeglphlaaGreatDoorGf
import Derived.Test.YtgegfljeglphlaaGreatDoorGi
import Derived.Test.YtgegfljeglphlaaGreatDoorGg

set_option linter.all false

/-
  Trips that differ in metres, or in the last seconds: the same rules; more is not cheaper.
-/
namespace Go.Fx
open Go.Proofs Go.RowKit

/-- Two trips with the same moments and zones. -/
structure Near (x y : Trp) : Prop where
  m : x.m = y.m
  fx : x.fx = y.fx
  ex : x.ex = y.ex
  len : x.sg.length = y.sg.length
  z : ∀ k, k < x.sg.length → (sgx x k).z = (sgx y k).z
  se : ∀ k, k + 1 < x.sg.length → (sgx x k).se = (sgx y k).se
theorem Near.mom {x y : Trp} (h : Near x y) : ∀ {k}, k < x.sg.length → segM x k = segM y k
  | 0, _ => h.m
  | k + 1, hk => by
    show laterQ (segM x k) (sgx x k).se = laterQ (segM y k) (sgx y k).se
    rw [h.mom (by omega), h.se k hk]
theorem Near.segP {x y : Trp} (h : Near x y) {k : Nat} (hk : k < x.sg.length) : segP x k = segP y k := by
  unfold Fx.segP; rw [h.z k hk, h.mom hk]
theorem Near.seg {x y : Trp} (h : Near x y) (t : Trf) {k : Nat} (hk : k < x.sg.length) : segE t x k = segE t y k ∧ segN t x k = segN t y k ∧ segR t x k = segR t y k := by
  have e : segH t x k = segH t y k := by unfold segH; rw [h.segP hk]
  refine ⟨?_, ?_, ?_⟩
  · unfold segE; rw [e, h.mom hk]
  · unfold segN; rw [e]
  · unfold segR segN; rw [e]
theorem Near.ride {x y : Trp} (h : Near x y) {t : Trf} (hx : tripE t x = 0) (hy : tripE t y = 0) : rideE t x = rideE t y := by
  have key : ∀ j, j < x.sg.length → segE t x j = segE t y j := fun j hj => (h.seg t hj).1
  unfold rideE
  rw [hx, hy, ← h.len]
  show scanE (segE t x) _ = scanE (segE t y) _
  generalize x.sg.length = n at key
  by_cases q : ∃ i, i < n ∧ segE t x i ≠ 0
  · obtain ⟨i, hi, hne⟩ := q
    have : ∃ k, k < n ∧ segE t x k ≠ 0 ∧ ∀ j, j < k → segE t x j = 0 := by
      induction i using Nat.strongRecOn with
      | _ i ih =>
        by_cases c : ∃ j, j < i ∧ segE t x j ≠ 0
        · obtain ⟨j, hj, hpj⟩ := c
          exact ih j hj (by omega) hpj
        · exact ⟨i, hi, hne, fun j hj => Decidable.byContradiction fun e => c ⟨j, hj, e⟩⟩
    obtain ⟨k, hk, hn, h0⟩ := this
    rw [(rscan_hit hk h0 rfl hn).1, (rscan_hit hk (fun j hj => by rw [← key j (by omega)]; exact h0 j hj) rfl (by rw [← key k hk]; exact hn)).1, key k hk]
  · have z : ∀ j, j < n → segE t x j = 0 := fun j hj => Decidable.byContradiction fun e => q ⟨j, hj, e⟩
    rw [(rscan_none z).1, (rscan_none fun j hj => by rw [← key j hj]; exact z j hj).1]
theorem Near.fix {x y : Trp} (h : Near x y) (t : Trf) (hp : 0 < x.sg.length) : fixI t x = fixI t y := by
  have e : fixP t x = fixP t y := by
    funext j; unfold fixP; rw [h.z 0 hp, h.z (x.sg.length - 1) (by omega), h.len]
  unfold fixI; rw [e]
theorem Near.exs {x y : Trp} (h : Near x y) (t : Trf) : ∀ i, exS t x i = exS t y i
  | 0 => rfl
  | i + 1 => by simp only [exS, h.exs t i, h.ex]
theorem Near.sta {x y : Trp} (h : Near x y) (t : Trf) (hp : 0 < x.sg.length) : staQ t x = staQ t y := by
  unfold staQ; rw [h.fx, (h.seg t hp).2.2]
theorem tdiv_mono {a b d : Int} (ha : 0 ≤ a) (h : a ≤ b) (hd : 0 < d) : a.tdiv d ≤ b.tdiv d := by
  rw [Int.tdiv_eq_ediv_of_nonneg ha, Int.tdiv_eq_ediv_of_nonneg (by omega)]
  exact Int.ediv_le_ediv hd h
theorem accP_le {f g : Nat → Int} : ∀ {n : Nat}, (∀ k, k < n → f k ≤ g k) → accP f n ≤ accP g n
  | 0, _ => Int.le_refl _
  | n + 1, h => by
    have := accP_le (n := n) fun k hk => h k (by omega)
    have := h n (by omega)
    simp only [accP]; omega
theorem accP_nn {f : Nat → Int} : ∀ {n : Nat}, (∀ k, k < n → 0 ≤ f k) → 0 ≤ accP f n
  | 0, _ => Int.le_refl _
  | n + 1, h => by
    have := accP_nn (n := n) fun k hk => h k (by omega)
    have := h n (by omega)
    simp only [accP]; omega
theorem Near.tot {x y : Trp} (h : Near x y) {t : Trf} (ht : trfE t = 0) (hp : 0 < x.sg.length) {f g : Nat → Int} (hf : ∀ k, k < x.sg.length → 0 ≤ f k) (hle : x.fx = false → accP f x.sg.length ≤ accP g x.sg.length) : totQ t x f ≤ totQ t y g := by
  have u := trf_unit ht
  unfold totQ
  rw [h.sta t hp, h.exs t, h.ex]
  have : drvQ t x f ≤ drvQ t y g := by
    cases hx : x.fx with
    | true =>
      have hy : y.fx = true := by rw [← h.fx]; exact hx
      rw [(drv_fx hx).1, (drv_fx hy).1, h.fix t hp]
      exact Int.le_refl _
    | false =>
      have hy : y.fx = false := by rw [← h.fx]; exact hx
      rw [(drv_me hx).1, (drv_me hy).1, ← h.len]
      exact Int.mul_le_mul_of_nonneg_right (tdiv_mono (accP_nn hf) (hle hx) (by omega)) u.2.1
  omega
/-- Fares of near trips, one of which has no more points. -/
theorem Near.fare {x y : Trp} (h : Near x y) {t : Trf} (ht : trfE t = 0) (hp : 0 < x.sg.length) {f g : Nat → Int} (hf : ∀ k, k < x.sg.length → 0 ≤ f k) (hle : x.fx = false → accP f x.sg.length ≤ accP g x.sg.length) :
    (fareE t x f = 12 ∧ fareE t y g = 12) ∨ (fareE t x f = 8 ∧ fareE t y g = 8) ∨ (fareE t x f = 0 ∧ fareE t y g = 8) ∨ (fareE t x f = 0 ∧ fareE t y g = 0 ∧ totQ t x f ≤ totQ t y g) := by
  have e := h.tot ht hp hf hle
  have hfix := h.fix t hp
  rcases fare_cases (t := t) (x := x) (f := f) with ⟨a, b, c⟩ | ⟨a, b, c⟩ | ⟨a, b, c⟩
  · exact .inl ⟨c, fare_none (by rw [← h.fx]; exact a) (by rw [← hfix]; exact b)⟩
  · exact .inr (.inl ⟨c, fare_big (by rw [← h.fx, ← hfix]; exact a) (by omega)⟩)
  · by_cases q : 1000000000 < totQ t y g
    · exact .inr (.inr (.inl ⟨c, fare_big (by rw [← h.fx, ← hfix]; exact a) q⟩))
    · exact .inr (.inr (.inr ⟨c, fare_fit (by rw [← h.fx, ← hfix]; exact a) q, e⟩))
/-- More metres, and more seconds: more points. -/
theorem Near.pts {x y : Trp} (h : Near x y) {t : Trf} (ht : trfE t = 0) {k : Nat} (hk : k < x.sg.length) (he : segE t x k = 0) (hm : (sgx x k).me ≤ (sgx y k).me) (hs : (sgx x k).se ≤ (sgx y k).se) : ptM t x k ≤ ptM t y k ∧ ptS t x k ≤ ptS t y k := by
  have r := seg_rule ht he
  unfold ptM ptS
  rw [← (h.seg t hk).2.2]
  exact ⟨Int.mul_le_mul_of_nonneg_left hm r.me.1, Int.mul_le_mul_of_nonneg_left hs r.se.1⟩
theorem ptX_le {t : Trf} {x y : Trp} {k : Nat} (h : ptM t x k ≤ ptM t y k ∧ ptS t x k ≤ ptS t y k) : ptX t x k ≤ ptX t y k := by
  unfold ptX
  by_cases a : ptM t x k < ptS t x k <;> by_cases b : ptM t y k < ptS t y k <;> simp only [a, b, decide_true, decide_false, cond_true, cond_false] <;> omega
end Go.Fx

/-
  A trip with more metres and more seconds in its last segment.
-/
namespace Go.Fx
open Go.Proofs Go.RowKit

def moreS (x : Trp) (a b : Int) : Seg := ⟨(sgx x (x.sg.length - 1)).z, (sgx x (x.sg.length - 1)).me + a, (sgx x (x.sg.length - 1)).se + b⟩
def moreX (x : Trp) (a b : Int) : Trp := ⟨x.m, x.fx, x.ex, x.sg.set (x.sg.length - 1) (moreS x a b)⟩
theorem more_len (x : Trp) (a b : Int) : (moreX x a b).sg.length = x.sg.length := by simp [moreX]
theorem more_last (x : Trp) (a b : Int) (h : 0 < x.sg.length) : sgx (moreX x a b) (x.sg.length - 1) = moreS x a b := by
  show (x.sg.set _ _).getD _ _ = _
  rw [List.getD_eq_getElem?_getD, List.getElem?_set_self (by omega)]; rfl
theorem more_other (x : Trp) (a b : Int) {k : Nat} (h : k ≠ x.sg.length - 1) : sgx (moreX x a b) k = sgx x k := by
  show (x.sg.set _ _).getD _ _ = _
  rw [List.getD_eq_getElem?_getD, List.getElem?_set_ne (by omega), ← List.getD_eq_getElem?_getD]
theorem more_near (x : Trp) (a b : Int) : Near x (moreX x a b) := by
  refine ⟨rfl, rfl, rfl, (more_len x a b).symm, fun k hk => ?_, fun k hk => by rw [more_other x a b (by omega)]⟩
  by_cases h : k = x.sg.length - 1
  · rw [h, more_last x a b (by omega)]; rfl
  · rw [more_other x a b h]
theorem more_me (x : Trp) {a b : Int} (ha : 0 ≤ a) (hb : 0 ≤ b) {k : Nat} (hk : k < x.sg.length) : (sgx x k).me ≤ (sgx (moreX x a b) k).me ∧ (sgx x k).se ≤ (sgx (moreX x a b) k).se := by
  by_cases h : k = x.sg.length - 1
  · rw [h, more_last x a b (by omega)]; unfold moreS; simp only; omega
  · rw [more_other x a b h]; omega
theorem more_xok {x : Trp} (h : XOk x) (a b : Int) : XOk (moreX x a b) := ⟨h.ex, by rw [more_len]; exact h.sg⟩
theorem more_trip {t : Trf} {x : Trp} (a b : Int) (h : tripE t x = 0) : tripE t (moreX x a b) = 0 ∨ tripE t (moreX x a b) = 2 := by
  obtain ⟨h1, h2, h3, h4⟩ := trip_h h
  have hp := (trip_0 h).pos
  have hz := (trip_0 h).z
  have e1 : tripH t (moreX x a b) = tripH t x := by unfold tripH; rfl
  have e2 : ∀ j, exE (moreX x a b) j = exE x j := fun j => by unfold exE; rfl
  have e3 : tripM (moreX x a b) = tripM x := by unfold tripM; rw [more_len]
  have e4 : ∀ j, j < x.sg.length - 1 → sgE t (moreX x a b) j = 0 := fun j hj => by
    have : sgE t (moreX x a b) j = sgE t x j := by unfold sgE; rw [more_other x a b (by omega)]
    rw [this]; exact h4 j (by omega)
  have e5 : sgE t (moreX x a b) (x.sg.length - 1) = 0 ∨ sgE t (moreX x a b) (x.sg.length - 1) = 2 := by
    have z := hz (x.sg.length - 1) (by omega)
    have z' : zoneIn t (sgx (moreX x a b) (x.sg.length - 1)).z = true := by rw [more_last x a b hp]; exact z
    unfold sgE
    rw [z']
    cases (bif inB (sgx (moreX x a b) (x.sg.length - 1)).me 0 100000 then inB (sgx (moreX x a b) (x.sg.length - 1)).se 1 36000 else false)
    · right; rfl
    · left; rfl
  rcases e5 with e | e
  · left
    refine (trip_5 (by rw [e1]; exact h1) (fun j hj => by rw [e2]; exact h2 j hj) (by rw [e3]; exact h3) fun j hj => ?_).1
    rw [more_len] at hj
    by_cases q : j = x.sg.length - 1
    · rw [q]; exact e
    · exact e4 j (by omega)
  · right
    exact (trip_4 (by rw [e1]; exact h1) (fun j hj => by rw [e2]; exact h2 j hj) (by rw [e3]; exact h3) (by rw [more_len]; omega) (fun j hj => e4 j hj) e (by decide)).1
theorem more_ride {t : Trf} {x : Trp} (a b : Int) (h : rideE t x = 0) (hy : rideE t (moreX x a b) ≠ 0) : rideE t (moreX x a b) = 2 := by
  have hx := ride_trip h
  rcases more_trip a b hx with e | e
  · exact absurd ((more_near x a b).ride hx e ▸ h) hy
  · exact ride_1 e (by decide)
theorem more_pts {t : Trf} {x : Trp} {a b : Int} (ha : 0 ≤ a) (hb : 0 ≤ b) (h : rideE t x = 0) {k : Nat} (hk : k < x.sg.length) : ptX t x k ≤ ptX t (moreX x a b) k := by
  obtain ⟨T, hseg⟩ := ride_0 h
  have m := more_me x ha hb hk
  exact ptX_le ((more_near x a b).pts T.trf hk (hseg k hk) m.1 m.2)
theorem more_stp {t : Trf} {x : Trp} {a b : Int} (ha : 0 ≤ a) (hb : 0 ≤ b) (h : rideE t x = 0) {k : Nat} (hk : k < x.sg.length) : stpF t x k ≤ stpF t (moreX x a b) k := by
  obtain ⟨T, hseg⟩ := ride_0 h
  have u := trf_unit T.trf
  exact tdiv_mono (accP_nn fun j hj => (ptX_bd T (by omega) (hseg j (by omega))).1) (accP_le fun j hj => more_pts ha hb h (by omega)) (by omega)
theorem stp_up {t : Trf} {x : Trp} (h : rideE t x = 0) {k : Nat} (hk : k + 1 < x.sg.length) : stpF t x k ≤ stpF t x (k + 1) := by
  obtain ⟨T, hseg⟩ := ride_0 h
  have u := trf_unit T.trf
  have p := (ptX_bd T hk (hseg (k + 1) hk)).1
  refine tdiv_mono (accP_nn fun j hj => (ptX_bd T (by omega) (hseg j (by omega))).1) ?_ (by omega)
  show _ ≤ accP (ptX t x) (k + 1) + ptX t x (k + 1)
  omega
theorem more_fare {t : Trf} {x : Trp} {a b : Int} (ha : 0 ≤ a) (hb : 0 ≤ b) (h : rideE t x = 0) :
    (fareE t x (ptX t x) = 12 ∧ fareE t (moreX x a b) (ptX t (moreX x a b)) = 12) ∨ (fareE t x (ptX t x) = 8 ∧ fareE t (moreX x a b) (ptX t (moreX x a b)) = 8) ∨ (fareE t x (ptX t x) = 0 ∧ fareE t (moreX x a b) (ptX t (moreX x a b)) = 8) ∨ (fareE t x (ptX t x) = 0 ∧ fareE t (moreX x a b) (ptX t (moreX x a b)) = 0 ∧ totQ t x (ptX t x) ≤ totQ t (moreX x a b) (ptX t (moreX x a b))) := by
  obtain ⟨T, hseg⟩ := ride_0 h
  exact (more_near x a b).fare T.trf T.pos (fun k hk => (ptX_bd T hk (hseg k hk)).1) fun _ => accP_le fun j hj => more_pts ha hb h hj
theorem more_sta {t : Trf} {x : Trp} (a b : Int) (h : rideE t x = 0) : staQ t (moreX x a b) = staQ t x := ((more_near x a b).sta t (ride_0 h).1.pos).symm
/-- What the law asks of the two fares. -/
def moreQ (t : Trf) (x y : Trp) : Bool := bif fareE t x (ptX t x) != 0 then fareE t y (ptX t y) == fareE t x (ptX t x) else bif fareE t y (ptX t y) == 8 then true else bif (bif fareE t y (ptX t y) == 0 then decide (fareZ t x (ptX t x) (totQ t x (ptX t x)) ≤ fareZ t y (ptX t y) (totQ t y (ptX t y))) else false) then fareZ t y (ptX t y) (staQ t y) == fareZ t x (ptX t x) (staQ t x) else false
theorem more_ok {t : Trf} {x : Trp} {a b : Int} (ha : 0 ≤ a) (hb : 0 ≤ b) (h : rideE t x = 0) : moreQ t x (moreX x a b) = true := by
  have s := more_sta a b h
  unfold moreQ
  rcases more_fare ha hb h with ⟨p, q⟩ | ⟨p, q⟩ | ⟨p, q⟩ | ⟨p, q, le⟩
  · rw [p, q]; rfl
  · rw [p, q]; rfl
  · rw [p, q]; rfl
  · rw [fareZ_0 p, fareZ_0 q, fareZ_0 p, fareZ_0 q, p, q, s]; simp [le]
/-- The list of segments after the law's two writes. -/
theorem more_put (x : Trp) (a b : Int) (h : 0 < x.sg.length) (k j : Nat) (hk : k < x.sg.length) (hj : j < 3) :
    putF (x.sg.length - 1) 2 [.int .i64 (moreS x a b).se] (putF (x.sg.length - 1) 1 [.int .i64 (moreS x a b).me] (fun i j => tbl (segC (sgx x i)) j)) k j = tbl (segC (sgx (moreX x a b) k)) j := by
  by_cases e : k = x.sg.length - 1
  · subst e
    rw [more_last x a b h]
    unfold putF
    rcases j with _ | _ | _ | j
    · simp [segC, moreS]; rfl
    · simp [segC, moreS]; rfl
    · simp [segC, moreS]; rfl
    · omega
  · rw [more_other x a b e]
    unfold putF
    simp [e]
theorem more_put2 (x : Trp) (a b : Int) (h : 0 < x.sg.length) {p : Nat} (hp : p = x.sg.length - 1) (k j : Nat) (hk : k < (moreX x a b).sg.length) (hj : j < 3) :
    putF p 2 [.int .i64 ((sgx x p).se + b)] (putF p 1 [.int .i64 ((sgx x p).me + a)] (fun i j => tbl (segC (sgx x i)) j)) k j = tbl (segC (sgx (moreX x a b) k)) j := by
  subst hp
  exact more_put x a b h k j (by rw [more_len] at hk; exact hk) hj
end Go.Fx

/-
  A call that is given a list of the caller's own, for good: the callee sees its elements, the caller has it no more.
-/
namespace Go.Fx
open Go.Proofs Go.RowKit

end Go.Fx

/-
  Copies of trips with segments of one's own; fares of such trips.
-/
namespace Go.Fx
open Go.Proofs Go.RowKit

/-- A trip whose n segments are own block 0. -/
def trpO (x : Trp) : AV := .agg 5 (tbl [.int .i64 x.m.d, .int .i64 x.m.s, .bool x.fx, iRow x.ex, .own 0 1])
@[reducible] def sgO (n : Nat) (f : Nat → Nat → AV) : HObj := .list 74 3 n f 1
theorem putF_at (p off : Nat) (l : List AV) (f : Nat → Nat → AV) : putF p off l f p = fun j => bif (Nat.ble off j && Nat.blt j (off + l.length)) then l.getD (j - off) .any else f p j := by
  funext j
  unfold putF
  by_cases h : off ≤ j ∧ j < off + l.length
  · rw [if_pos ⟨rfl, h⟩, show (Nat.ble off j && Nat.blt j (off + l.length)) = true from by simp [Nat.blt_eq, h.1, h.2]]; rfl
  · rw [if_neg (fun q => h q.2), show (Nat.ble off j && Nat.blt j (off + l.length)) = false from by
      cases e : (Nat.ble off j && Nat.blt j (off + l.length)) with
      | false => rfl
      | true => simp [Nat.blt_eq] at e; exact absurd e h]; rfl
theorem trpO_le (t : Trf) {x : Trp} {f : Nat → Nat → AV} (hf : ∀ a j, a < x.sg.length → j < 3 → f a j = tbl (segC (sgx x a)) j) : AllLe (([trfA t, trpO x] : List AV).map (frzF (List.range 1) [sgO x.sg.length f])) [trfA t, trpA x] := by
  have h5 : Le (frzF (List.range 1) [sgO x.sg.length f] (.own 0 1)) (segS x.sg) := by
    show Le (.slc 3 x.sg.length f) (.slc 3 x.sg.length _)
    exact .slc fun a j ha hj => .ofEq (hf a j ha hj)
  exact ⟨.aggs ⟨⟨⟨⟨⟨⟨⟨⟨trivial, .refl _⟩, .refl _⟩, .refl _⟩, .refl _⟩, .refl _⟩, .refl _⟩, .refl _⟩, .refl _⟩, .aggs ⟨⟨⟨⟨⟨trivial, .refl _⟩, .refl _⟩, .refl _⟩, .refl _⟩, h5⟩, trivial⟩
section
variable {W0 : World} {G : Nat → Option AV} (hX : (Xc W0 G).Good)
include hX
theorem c31o (x : Trp) (hs : Side (XOk x)) : Mut (Xc W0 G) 31 [trpA x] [] (trpO x) [sgO x.sg.length (fun i j => tbl (segC (sgx x i)) j)] := by
  have hs := hs.get
  have k1 := hs.ex
  have k2 := hs.sg
  refine mut_of' hX (show FnIs (Xc W0 G) 31 Tryz.f31 (codeOf Tryz.f31) from ⟨by kernel_rfl, by kernel_rfl, by kernel_rfl, by kernel_rfl⟩) rfl ?_
  repeat' (first
    | ((with_reducible refine (?_ : Alt _ _)); first | ((with_reducible apply callAlt (c84 hX x.ex ?_)); case hl => (first | exact AllLe.refl _ | ((repeat' (first | exact trivial | apply Le.aggs | apply Le.tups | apply Le.fns | exact Le.refl _ | refine ⟨?_, ?_⟩)); done))) | (with_reducible refine Alt.one ?_))
    | ((with_reducible refine (?_ : AllLe _ _)); first | (first | exact AllLe.refl _ | (repeat' (first | exact trivial | apply Le.aggs | apply Le.tups | apply Le.fns | exact Le.refl _ | refine ⟨?_, ?_⟩))))
    | ((with_reducible refine (?_ : Sc _ (AllRen _ _ _))); refine Sc.of ?_; first | (repeat' (first | exact trivial | apply Le.aggs | apply Le.tups | apply Le.fns | exact Le.refl _ | refine ⟨?_, ?_⟩)))
    | ((with_reducible refine (?_ : (List.all _ _) = true)); rfl)
    | ((with_reducible refine (?_ : (and _ _) = true)); rfl)
    | ((with_reducible refine (?_ : List.Nodup _)); exact nodupB_spec rfl)
    | ((with_reducible refine (?_ : @Eq Nat _ _)); rfl)
    | ((with_reducible refine (?_ : LeOks _ _ _)); first | exact trivial | exact ⟨.refl _, trivial⟩ | exact ⟨.refl _, .refl _, trivial⟩)
    | ((fail_if_success with_reducible refine Stop.go ?_); (first | with_reducible refine And.intro ?_ ?_ | with_reducible refine Cut.go ?_ | (with_reducible (refine impI ?_; intro _)) | (with_reducible refine (?_ : footOK _ _ = true); kernel_rfl) | ((with_reducible refine propI ?_); conv => whnf))))
  all_goals try (exact .of (Nat.le_of_ble_eq_true rfl))
  all_goals try (exact Side.mk (by omega))
  all_goals try (refine Sc.of ⟨?_, by omega⟩; show x.sg.length * 24 ≤ 140737488355328; omega)
  exact .mk [2] [] _ rfl (.aggs ⟨⟨⟨⟨⟨trivial, .le (.refl _)⟩, .le (.refl _)⟩, .le (.refl _)⟩, .le (.refl _)⟩, .le (.refl _)⟩) ⟨.le (.refl _), trivial⟩ rfl
theorem c31k (x : Trp) (n : Nat) (hn : x.sg.length = n) (hs : Side (XOk x)) (f : Nat → Nat → AV) (hf : Side (∀ a j, a < x.sg.length → j < 3 → f a j = tbl (segC (sgx x a)) j)) : Mut (Xc W0 G) 31 [trpO x] [sgO n f] (trpA x) [sgO n f] := by
  have hs := hs.get
  have k1 := hs.ex
  have k2 := hs.sg
  have hf := hf.get
  subst hn
  refine mut_of' hX (show FnIs (Xc W0 G) 31 Tryz.f31 (codeOf Tryz.f31) from ⟨by kernel_rfl, by kernel_rfl, by kernel_rfl, by kernel_rfl⟩) rfl ?_
  repeat' (first
    | ((with_reducible refine (?_ : Alt _ _)); first | ((with_reducible apply callAlt (c84 hX x.ex ?_)); case hl => (first | exact AllLe.refl _ | ((repeat' (first | exact trivial | apply Le.aggs | apply Le.tups | apply Le.fns | exact Le.refl _ | refine ⟨?_, ?_⟩)); done))) | (with_reducible refine Alt.one ?_))
    | ((with_reducible refine (?_ : AllLe _ _)); first | (first | exact AllLe.refl _ | (repeat' (first | exact trivial | apply Le.aggs | apply Le.tups | apply Le.fns | exact Le.refl _ | refine ⟨?_, ?_⟩))))
    | ((with_reducible refine (?_ : Sc _ (AllRen _ _ _))); refine Sc.of ?_; first | (repeat' (first | exact trivial | apply Le.aggs | apply Le.tups | apply Le.fns | exact Le.refl _ | refine ⟨?_, ?_⟩)))
    | ((with_reducible refine (?_ : (List.all _ _) = true)); rfl)
    | ((with_reducible refine (?_ : (and _ _) = true)); rfl)
    | ((with_reducible refine (?_ : List.Nodup _)); exact nodupB_spec rfl)
    | ((with_reducible refine (?_ : @Eq Nat _ _)); rfl)
    | ((with_reducible refine (?_ : LeOks _ _ _)); first | exact trivial | exact ⟨.refl _, trivial⟩ | exact ⟨.refl _, .refl _, trivial⟩)
    | ((fail_if_success with_reducible refine Stop.go ?_); (first | with_reducible refine And.intro ?_ ?_ | with_reducible refine Cut.go ?_ | (with_reducible (refine impI ?_; intro _)) | (with_reducible refine (?_ : footOK _ _ = true); kernel_rfl) | ((with_reducible refine propI ?_); conv => whnf))))
  all_goals try (exact .of (Nat.le_of_ble_eq_true rfl))
  all_goals try (exact Side.mk (by omega))
  all_goals try (refine Sc.of ⟨?_, by omega⟩; show x.sg.length * 24 ≤ 140737488355328; omega)
  exact .mk [] [3] _ rfl (.aggs ⟨⟨⟨⟨⟨trivial, .le (.refl _)⟩, .le (.refl _)⟩, .le (.refl _)⟩, .le (.refl _)⟩, .own rfl fun a j ha hj => .ofEq (hf a j ha hj)⟩) ⟨.le (.refl _), trivial⟩ rfl
theorem c32k (t : Trf) (x : Trp) (n : Nat) (hn : x.sg.length = n) (hs : Side (TOk t ∧ XOk x)) (hr : rideE t x = 0) (f : Nat → Nat → AV) (hf : Side (∀ a j, a < x.sg.length → j < 3 → f a j = tbl (segC (sgx x a)) j)) : Mut (Xc W0 G) 32 [trfA t, trpO x] [sgO n f] (.tup 2 (tbl [fareA t x (ptX t x), .int .i64 (fareE t x (ptX t x))])) [sgO n f] := by
  subst hn
  exact Mut.look (c32 hX t x hs hr) rfl rfl (trpO_le t hf.get)
theorem c30n (t : Trf) (x : Trp) (n : Nat) (hn : x.sg.length = n) (hs : Side (TOk t ∧ XOk x)) (hr : rideE t x = 0) : Pure (Xc W0 G) 30 [trfA t, trpA x] (.tup 2 (tbl [rowF (stpF t x) n, .int .i64 0])) := by
  subst hn
  exact c30 hX t x hs hr
end
end Go.Fx
