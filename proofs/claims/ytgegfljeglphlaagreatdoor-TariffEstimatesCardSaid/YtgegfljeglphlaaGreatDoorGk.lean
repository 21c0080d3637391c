/-
  Estimates.
-/
import Derived.Test.YtgegfljeglphlaaGreatDoorGs
import Derived.Test.YtgegfljeglphlaaGreatDoorGi
import Derived.Test.YtgegfljeglphlaaGreatDoorGf
import Derived.Test.YtgegfljeglphlaaGreatDoorGg
import Derived.Test.YtgegfljeglphlaaGreatDoorGj

set_option linter.all false

/-
  Trips that differ in metres, or in the last seconds: the same rules; more is not cheaper.
-/
namespace Go.Fx
open Go.Proofs Go.RowKit

/-- Two trips with the same moments and zones. -/
structure Near (x y : Trp) : Prop where
  m : x.m = y.m
  fx : x.fx = y.fx
  ex : x.ex = y.ex
  len : x.sg.length = y.sg.length
  z : ∀ k, k < x.sg.length → (sgx x k).z = (sgx y k).z
  se : ∀ k, k + 1 < x.sg.length → (sgx x k).se = (sgx y k).se
theorem Near.mom {x y : Trp} (h : Near x y) : ∀ {k}, k < x.sg.length → segM x k = segM y k
  | 0, _ => h.m
  | k + 1, hk => by
    show laterQ (segM x k) (sgx x k).se = laterQ (segM y k) (sgx y k).se
    rw [h.mom (by omega), h.se k hk]
theorem Near.segP {x y : Trp} (h : Near x y) {k : Nat} (hk : k < x.sg.length) : segP x k = segP y k := by
  unfold Fx.segP; rw [h.z k hk, h.mom hk]
theorem Near.seg {x y : Trp} (h : Near x y) (t : Trf) {k : Nat} (hk : k < x.sg.length) : segE t x k = segE t y k ∧ segN t x k = segN t y k ∧ segR t x k = segR t y k := by
  have e : segH t x k = segH t y k := by unfold segH; rw [h.segP hk]
  refine ⟨?_, ?_, ?_⟩
  · unfold segE; rw [e, h.mom hk]
  · unfold segN; rw [e]
  · unfold segR segN; rw [e]
theorem Near.fix {x y : Trp} (h : Near x y) (t : Trf) (hp : 0 < x.sg.length) : fixI t x = fixI t y := by
  have e : fixP t x = fixP t y := by
    funext j; unfold fixP; rw [h.z 0 hp, h.z (x.sg.length - 1) (by omega), h.len]
  unfold fixI; rw [e]
theorem Near.exs {x y : Trp} (h : Near x y) (t : Trf) : ∀ i, exS t x i = exS t y i
  | 0 => rfl
  | i + 1 => by simp only [exS, h.exs t i, h.ex]
theorem Near.sta {x y : Trp} (h : Near x y) (t : Trf) (hp : 0 < x.sg.length) : staQ t x = staQ t y := by
  unfold staQ; rw [h.fx, (h.seg t hp).2.2]
theorem tdiv_mono {a b d : Int} (ha : 0 ≤ a) (h : a ≤ b) (hd : 0 < d) : a.tdiv d ≤ b.tdiv d := by
  rw [Int.tdiv_eq_ediv_of_nonneg ha, Int.tdiv_eq_ediv_of_nonneg (by omega)]
  exact Int.ediv_le_ediv hd h
theorem accP_le {f g : Nat → Int} : ∀ {n : Nat}, (∀ k, k < n → f k ≤ g k) → accP f n ≤ accP g n
  | 0, _ => Int.le_refl _
  | n + 1, h => by
    have := accP_le (n := n) fun k hk => h k (by omega)
    have := h n (by omega)
    simp only [accP]; omega
theorem accP_nn {f : Nat → Int} : ∀ {n : Nat}, (∀ k, k < n → 0 ≤ f k) → 0 ≤ accP f n
  | 0, _ => Int.le_refl _
  | n + 1, h => by
    have := accP_nn (n := n) fun k hk => h k (by omega)
    have := h n (by omega)
    simp only [accP]; omega
theorem Near.tot {x y : Trp} (h : Near x y) {t : Trf} (ht : trfE t = 0) (hp : 0 < x.sg.length) {f g : Nat → Int} (hf : ∀ k, k < x.sg.length → 0 ≤ f k) (hle : x.fx = false → accP f x.sg.length ≤ accP g x.sg.length) : totQ t x f ≤ totQ t y g := by
  have u := trf_unit ht
  unfold totQ
  rw [h.sta t hp, h.exs t, h.ex]
  have : drvQ t x f ≤ drvQ t y g := by
    cases hx : x.fx with
    | true =>
      have hy : y.fx = true := by rw [← h.fx]; exact hx
      rw [(drv_fx hx).1, (drv_fx hy).1, h.fix t hp]
      exact Int.le_refl _
    | false =>
      have hy : y.fx = false := by rw [← h.fx]; exact hx
      rw [(drv_me hx).1, (drv_me hy).1, ← h.len]
      exact Int.mul_le_mul_of_nonneg_right (tdiv_mono (accP_nn hf) (hle hx) (by omega)) u.2.1
  omega
/-- More metres, and more seconds: more points. -/
theorem Near.pts {x y : Trp} (h : Near x y) {t : Trf} (ht : trfE t = 0) {k : Nat} (hk : k < x.sg.length) (he : segE t x k = 0) (hm : (sgx x k).me ≤ (sgx y k).me) (hs : (sgx x k).se ≤ (sgx y k).se) : ptM t x k ≤ ptM t y k ∧ ptS t x k ≤ ptS t y k := by
  have r := seg_rule ht he
  unfold ptM ptS
  rw [← (h.seg t hk).2.2]
  exact ⟨Int.mul_le_mul_of_nonneg_left hm r.me.1, Int.mul_le_mul_of_nonneg_left hs r.se.1⟩
theorem ptX_le {t : Trf} {x y : Trp} {k : Nat} (h : ptM t x k ≤ ptM t y k ∧ ptS t x k ≤ ptS t y k) : ptX t x k ≤ ptX t y k := by
  unfold ptX
  by_cases a : ptM t x k < ptS t x k <;> by_cases b : ptM t y k < ptS t y k <;> simp only [a, b, decide_true, decide_false, cond_true, cond_false] <;> omega
theorem ptB_le {t : Trf} {x y : Trp} {k : Nat} (h : ptM t x k ≤ ptM t y k ∧ ptS t x k ≤ ptS t y k) : ptB t x k ≤ ptB t y k := by
  unfold ptB; omega
theorem ptX_ptB {t : Trf} {x : Trp} {k : Nat} (h : (0 ≤ ptM t x k) ∧ (0 ≤ ptS t x k)) : ptX t x k ≤ ptB t x k := by
  unfold ptX ptB
  by_cases a : ptM t x k < ptS t x k <;> simp only [a, decide_true, decide_false, cond_true, cond_false] <;> omega
end Go.Fx

/-
  Estimates: what is asked, what is told; a fare between the ends of the question.
-/
namespace Go.Fx
open Go.Proofs Go.RowKit

structure Qst where
  p : Plc
  ml : Int
  mh : Int
  sl : Int
  sh : Int
def qstC (q : Qst) : List AV := [.int .i64 q.p.z, .int .i64 q.p.m.d, .int .i64 q.p.m.s, .int .i64 q.ml, .int .i64 q.mh, .int .i64 q.sl, .int .i64 q.sh]
def qstA (q : Qst) : AV := .agg 7 (tbl (qstC q))
def rgE (a b lo hi : Int) : Int := isOk (bif inB a lo hi then inB b lo hi else false) 2
def ordE (q : Qst) : Int := isOk (bif decide (q.ml ≤ q.mh) then decide (q.sl ≤ q.sh) else false) 9
@[irreducible] def estH (t : Trf) (q : Qst) : Int := firstS [trfE t, placeE t q.p, rgE q.ml q.mh 0 100000, rgE q.sl q.sh 1 36000, ordE q]
structure EstOk (t : Trf) (q : Qst) : Prop where
  trf : trfE t = 0
  z : zoneIn t q.p.z = true
  m : momB q.p.m = true
  ml : 0 ≤ q.ml ∧ q.ml ≤ 100000
  mh : 0 ≤ q.mh ∧ q.mh ≤ 100000
  sl : 1 ≤ q.sl ∧ q.sl ≤ 36000
  sh : 1 ≤ q.sh ∧ q.sh ≤ 36000
  om : q.ml ≤ q.mh
  os : q.sl ≤ q.sh
theorem est_0 {t : Trf} {q : Qst} (h : estH t q = 0) : EstOk t q := by
  unfold estH at h
  have h := firstS_zero h
  have h1 := h (trfE t) (by simp)
  have h2 := h (placeE t q.p) (by simp)
  have h3 := h (rgE q.ml q.mh 0 100000) (by simp)
  have h4 := h (rgE q.sl q.sh 1 36000) (by simp)
  have h5 := h (ordE q) (by simp)
  unfold placeE at h2
  have h2 := firstS_zero h2
  have z := isOk_0 (b := zoneIn t q.p.z) (e := 6) (h2 _ (by simp)) (by decide)
  have m := isOk_0 (b := momB q.p.m) (e := 2) (h2 _ (by simp)) (by decide)
  have h3 := and_t (isOk_0 (b := bif inB q.ml 0 100000 then inB q.mh 0 100000 else false) (e := 2) h3 (by decide))
  have h4 := and_t (isOk_0 (b := bif inB q.sl 1 36000 then inB q.sh 1 36000 else false) (e := 2) h4 (by decide))
  have h5 := and_t (isOk_0 (b := bif decide (q.ml ≤ q.mh) then decide (q.sl ≤ q.sh) else false) (e := 9) h5 (by decide))
  exact ⟨h1, z, m, inB_iff.1 h3.1, inB_iff.1 h3.2, inB_iff.1 h4.1, inB_iff.1 h4.2, of_decide_eq_true h5.1, of_decide_eq_true h5.2⟩
/-- The trip of one segment. -/
def estX (t : Trf) (q : Qst) (a b : Int) : Trp := ⟨q.p.m, false, List.replicate t.extras.length 0, [⟨q.p.z, a, b⟩]⟩
theorem est_trip {t : Trf} {q : Qst} {a b : Int} (h : EstOk t q) (ha : 0 ≤ a ∧ a ≤ 100000) (hb : 1 ≤ b ∧ b ≤ 36000) : tripE t (estX t q a b) = 0 := by
  have e1 : tripH t (estX t q a b) = 0 := by
    unfold tripH
    rw [h.trf]
    show firstS [0, isOk (momB q.p.m) 2, isOk (((List.replicate t.extras.length (0 : Int)).length : Int) == (t.extras.length : Int)) 10] = 0
    rw [h.m, List.length_replicate, beq_self_eq_true]; rfl
  have e2 : ∀ j, j < (estX t q a b).ex.length → exE (estX t q a b) j = 0 := fun j hj => by
    have : (List.replicate t.extras.length (0 : Int)).getD j 0 = 0 := by
      rw [List.getD_eq_getElem?_getD]
      cases e : (List.replicate t.extras.length (0 : Int))[j]? with
      | none => rfl
      | some v => exact List.eq_of_mem_replicate (List.mem_of_getElem? e)
    unfold exE
    rw [show (estX t q a b).ex.getD j 0 = 0 from this]; rfl
  have e3 : tripM (estX t q a b) = 0 := by unfold tripM; rfl
  refine (trip_5 e1 e2 e3 fun j hj => ?_).1
  have hj : j < 1 := hj
  obtain rfl : j = 0 := by omega
  unfold sgE
  show firstS [isOk (zoneIn t q.p.z) 6, isOk (bif inB a 0 100000 then inB b 1 36000 else false) 2] = 0
  rw [h.z, inB_iff.2 ha, inB_iff.2 hb]; rfl
theorem est_segE (t : Trf) (q : Qst) (a b : Int) (h : EstOk t q) : segE t (estX t q a b) 0 = nowE t q.p := by
  unfold segE
  show (bif momB q.p.m then oneE (holdI t ⟨q.p.z, q.p.m⟩ t.rules.length) else 2) = _
  rw [h.m]; rfl
theorem est_ride {t : Trf} {q : Qst} {a b : Int} (h : EstOk t q) (ha : 0 ≤ a ∧ a ≤ 100000) (hb : 1 ≤ b ∧ b ≤ 36000) : rideE t (estX t q a b) = nowE t q.p := by
  have T := est_trip h ha hb
  have e := est_segE t q a b h
  by_cases z : nowE t q.p = 0
  · rw [z]
    refine ride_3 T fun j hj => ?_
    have hj : j < 1 := hj
    obtain rfl : j = 0 := by omega
    rw [e, z]
  · exact ride_2 T (show 0 < 1 by decide) (fun j hj => by omega) e z
@[irreducible] def estE (t : Trf) (q : Qst) : Int := bif decide (estH t q = 0) then (bif decide (nowE t q.p = 0) then rngE t (estX t q q.ml q.sl) (estX t q q.mh q.sh) else nowE t q.p) else estH t q
@[irreducible] def estLo (t : Trf) (q : Qst) : Int := bif decide (estE t q = 0) then totQ t (estX t q q.ml q.sl) (ptX t (estX t q q.ml q.sl)) else 0
@[irreducible] def estHi (t : Trf) (q : Qst) : Int := bif decide (estE t q = 0) then totQ t (estX t q q.mh q.sh) (ptB t (estX t q q.mh q.sh)) else 0
def estA (t : Trf) (q : Qst) : AV := .agg 2 (tbl [.int .i64 (estLo t q), .int .i64 (estHi t q)])
theorem est_bad {t : Trf} {q : Qst} {e : Int} (h : estE t q = e) (h0 : e ≠ 0) : estLo t q = 0 ∧ estHi t q = 0 := by
  unfold estLo estHi; rw [h, decide_eq_false h0]; exact ⟨rfl, rfl⟩
theorem est_1 {t : Trf} {q : Qst} {e : Int} (h : estH t q = e) (h0 : e ≠ 0) : estE t q = e ∧ estLo t q = 0 ∧ estHi t q = 0 := by
  have w : estE t q = e := by unfold estE; rw [h, decide_eq_false h0]; rfl
  exact ⟨w, est_bad w h0⟩
theorem est_2 {t : Trf} {q : Qst} (h : estH t q = 0) {e : Int} (h1 : nowE t q.p = e) (h0 : e ≠ 0) : estE t q = e ∧ estLo t q = 0 ∧ estHi t q = 0 := by
  have w : estE t q = e := by unfold estE; rw [h, h1, decide_eq_false h0]; rfl
  exact ⟨w, est_bad w h0⟩
theorem est_3 {t : Trf} {q : Qst} (h : estH t q = 0) (h1 : nowE t q.p = 0) : estE t q = rngE t (estX t q q.ml q.sl) (estX t q q.mh q.sh) ∧ estLo t q = rngZ t (estX t q q.ml q.sl) (estX t q q.mh q.sh) (totQ t (estX t q q.ml q.sl) (ptX t (estX t q q.ml q.sl))) ∧ estHi t q = rngZ t (estX t q q.ml q.sl) (estX t q q.mh q.sh) (totQ t (estX t q q.mh q.sh) (ptB t (estX t q q.mh q.sh))) := by
  have w : estE t q = rngE t (estX t q q.ml q.sl) (estX t q q.mh q.sh) := by unfold estE; rw [h, h1]; rfl
  refine ⟨w, ?_, ?_⟩
  · unfold estLo rngZ; rw [w]
  · unfold estHi rngZ; rw [w]
theorem est_ok {t : Trf} {q : Qst} (h : estE t q = 0) : estH t q = 0 ∧ nowE t q.p = 0 ∧ fareE t (estX t q q.ml q.sl) (ptX t (estX t q q.ml q.sl)) = 0 ∧ fareE t (estX t q q.mh q.sh) (ptB t (estX t q q.mh q.sh)) = 0 ∧ estLo t q = totQ t (estX t q q.ml q.sl) (ptX t (estX t q q.ml q.sl)) ∧ estHi t q = totQ t (estX t q q.mh q.sh) (ptB t (estX t q q.mh q.sh)) := by
  by_cases a : estH t q = 0
  · by_cases b : nowE t q.p = 0
    · have w := (est_3 a b).1
      rw [h] at w
      have lo : estLo t q = totQ t (estX t q q.ml q.sl) (ptX t (estX t q q.ml q.sl)) := by unfold estLo; rw [h]; rfl
      have hi : estHi t q = totQ t (estX t q q.mh q.sh) (ptB t (estX t q q.mh q.sh)) := by unfold estHi; rw [h]; rfl
      by_cases c : fareE t (estX t q q.ml q.sl) (ptX t (estX t q q.ml q.sl)) = 0
      · by_cases d : fareE t (estX t q q.mh q.sh) (ptB t (estX t q q.mh q.sh)) = 0
        · exact ⟨a, b, c, d, lo, hi⟩
        · exact absurd (w.trans (rng_2 c d).1).symm d
      · exact absurd (w.trans (rng_1 (y := estX t q q.mh q.sh) c).1).symm c
    · exact absurd ((est_2 a rfl b).1.symm.trans h) b
  · exact absurd ((est_1 rfl a).1.symm.trans h) a
theorem est_near (t : Trf) (q : Qst) (a b c d : Int) : Near (estX t q a b) (estX t q c d) :=
  ⟨rfl, rfl, rfl, rfl, fun k hk => by have hk : k < 1 := hk; obtain rfl : k = 0 := by omega
                                      rfl, fun k hk => by have hk : k + 1 < 1 := hk; omega⟩
/-- A fare between the ends. -/
theorem est_in {t : Trf} {q : Qst} (h : estE t q = 0) {a b : Int} (ha : q.ml ≤ a ∧ a ≤ q.mh) (hb : q.sl ≤ b ∧ b ≤ q.sh) :
    rideE t (estX t q a b) = 0 ∧ fareE t (estX t q a b) (ptX t (estX t q a b)) = 0 ∧ estLo t q ≤ totQ t (estX t q a b) (ptX t (estX t q a b)) ∧ totQ t (estX t q a b) (ptX t (estX t q a b)) ≤ estHi t q := by
  obtain ⟨h1, h2, h3, h4, lo, hi⟩ := est_ok h
  have E := est_0 h1
  have := E.ml; have := E.mh; have := E.sl; have := E.sh
  have rw0 : rideE t (estX t q a b) = 0 := (est_ride E (by omega) (by omega)).trans h2
  have rx : rideE t (estX t q q.ml q.sl) = 0 := (est_ride E (by omega) (by omega)).trans h2
  obtain ⟨T, hs⟩ := ride_0 rw0
  obtain ⟨Tx, hsx⟩ := ride_0 rx
  have n1 := est_near t q q.ml q.sl a b
  have n2 := est_near t q a b q.mh q.sh
  have p1 : ∀ k, k < 1 → ptX t (estX t q q.ml q.sl) k ≤ ptX t (estX t q a b) k := fun k hk => by
    obtain rfl : k = 0 := by omega
    exact ptX_le (n1.pts E.trf hk (hsx 0 hk) ha.1 hb.1)
  have p2 : ∀ k, k < 1 → ptX t (estX t q a b) k ≤ ptB t (estX t q q.mh q.sh) k := fun k hk => by
    obtain rfl : k = 0 := by omega
    have b := pt_bd T (k := 0) hk (hs 0 hk)
    exact Int.le_trans (ptX_ptB ⟨b.1.1, b.2.1⟩) (ptB_le (n2.pts E.trf hk (hs 0 hk) ha.2 hb.2))
  have l1 : totQ t (estX t q q.ml q.sl) (ptX t (estX t q q.ml q.sl)) ≤ totQ t (estX t q a b) (ptX t (estX t q a b)) :=
    n1.tot E.trf (show 0 < 1 by decide) (fun k hk => (ptX_bd Tx hk (hsx k hk)).1) fun _ => accP_le (n := 1) p1
  have l2 : totQ t (estX t q a b) (ptX t (estX t q a b)) ≤ totQ t (estX t q q.mh q.sh) (ptB t (estX t q q.mh q.sh)) :=
    n2.tot E.trf (show 0 < 1 by decide) (fun k hk => (ptX_bd T hk (hs k hk)).1) fun _ => accP_le (n := 1) p2
  have f4 : ¬ 1000000000 < totQ t (estX t q q.mh q.sh) (ptB t (estX t q q.mh q.sh)) := by
    rcases fare_cases (t := t) (x := estX t q q.mh q.sh) (f := ptB t (estX t q q.mh q.sh)) with ⟨x, _⟩ | ⟨_, _, x⟩ | ⟨_, x, _⟩
    · cases x
    · rw [h4] at x; cases x
    · exact x
  refine ⟨rw0, fare_fit (fun x => by cases x) (by omega), by rw [lo]; exact l1, by rw [hi]; exact l2⟩
/-- base.Mod. -/
@[irreducible] def modQ (n k : Int) : Int := bif decide (n.tmod k < 0) then n.tmod k + k else n.tmod k
theorem modQ_bd {n k : Int} (h : 0 < k) : 0 ≤ modQ n k ∧ modQ n k < k := by
  have a := Int.tmod_lt_of_pos n h
  have b := Int.lt_tmod_of_pos n h
  unfold modQ
  by_cases c : n.tmod k < 0
  · rw [decide_eq_true c]; simp only [cond_true]; omega
  · rw [decide_eq_false c]; simp only [cond_false]; omega
theorem modQ_n {n k : Int} (h : n.tmod k < 0) : modQ n k = n.tmod k + k := by unfold modQ; rw [decide_eq_true h]; rfl
theorem modQ_p {n k : Int} (h : ¬ n.tmod k < 0) : modQ n k = n.tmod k := by unfold modQ; rw [decide_eq_false h]; rfl
end Go.Fx

/-
  A call that is given a list of the caller's own, for good: the callee sees its elements, the caller has it no more.
-/
namespace Go.Fx
open Go.Proofs Go.RowKit

theorem Mut.give {X : Ctx} {f : FuncId} {args bs : List AV} {e es n ver : Nat} {fn : Nat → Nat → AV} {r : AV} (h : Pure X f bs r) (hr : r.free = true) (hfree : (bs.all (·.free)) = true) (hl : AllLe (args.map (frzF [0] [.list e es n fn ver])) bs) : Mut X f args [.list e es n fn ver] r [.dead] := by
  have hlen : bs.length = args.length := by have := hl.len; simpa using this
  refine ⟨h.1, fun c cargs hok hb hL hsz hargs => ?_⟩
  obtain ⟨I', tf, hF⟩ := Tr.freezes [0] hok
  have hH : frzL [0] c.H = [.dead] := by rw [hL]; rfl
  rw [hH] at tf
  have hbf := hb.tr tf
  let cc : Cfg := ⟨c.g, I', c.w, []⟩
  have hccok : cc.Ok := ⟨fun k o h => by simp [cc] at h, fun i j oi oj b h => by simp [cc] at h, fun k o b h => by simp [cc] at h, fun b o h => tf.ok.imm b o h, fun b o k ob _ h => by simp [cc] at h⟩
  have hccb : Base X cc := ⟨hb.below, fun b o h => hbf.imm b o h, fun b ⟨k, o, h, _⟩ => by simp [cc] at h⟩
  have hown : ∀ b, ¬ cc.Owns b := fun b ⟨k, o, h, _⟩ => by simp [cc] at h
  have hdead : ∀ (g : Nat → GO) (k : Nat) (o : HObj) (b : Nat), ([.dead] : List HObj)[k]? = some o → blk g k o ≠ some b := fun g k o b h => by
    cases k with
    | zero => simp at h; subst h; simp [blk]
    | succ k => simp at h
  refine (h.2 cc cargs hccok hccb rfl (by omega) fun j av hj => ?_).mono ?_
  · have hlt : j < args.length := by rw [← hlen]; exact (List.getElem?_eq_some_iff.1 hj).1
    obtain ⟨v, k1, k2⟩ := hargs j args[j] (List.getElem?_eq_getElem hlt)
    refine ⟨v, k1, ?_⟩
    have e1 := (frzF_le (F := [0]) (H := [.list e es n fn ver]) args[j]).reads hok (I' := I') (fun k e es n f ver hk => by rw [hL]; exact (only_list hk).1) (fun b o hI => (tf.keep b o hI).1)
      (fun k e es n f ver b hk hb o => by
        have q := (only_list hk).1
        cases k with
        | zero => exact hF 0 (List.mem_singleton.2 rfl) (.list e es n f ver) b (by rw [hL]; exact q) hb o
        | succ k => simp at q) k2
    have e2 := (hl.at j (frzF [0] [.list e es n fn ver] args[j]) av (by simp [List.getElem?_eq_getElem hlt]) hj).reads e1
    exact AV.free_reads (g' := c.g) _ _ _ _ (List.all_eq_true.1 hfree _ (List.mem_of_getElem? hj)) e2
  · rintro x w' ⟨v, cc', rfl, rfl, htr, hH', hread⟩
    have hr2 : (⟨c.g, cc'.I, cc'.w, [.dead]⟩ : Cfg).Reads r v := Reads.mono' (M := 0) (g := cc'.g) (I := cc'.I) (w := cc'.w) (fun k hk => absurd hk (Nat.not_lt_zero k)) (fun b o h => ⟨h, rfl⟩) r 0 _ v (Nat.le_refl _) (Nat.zero_le _) (AV.free_reads (g' := c.g) r _ 0 v hr hread)
    refine ⟨v, ⟨c.g, cc'.I, cc'.w, [.dead]⟩, rfl, rfl, tf.trans ?_, rfl, hr2⟩
    refine ⟨⟨fun k o h => ?_, fun i j oi oj b h hj _ hb => absurd hb (hdead _ _ _ _ h), fun k o b h hb => absurd hb (hdead _ _ _ _ h), htr.ok.imm, fun b o k ob _ h => hdead _ _ _ _ h⟩, Nat.le_refl _, fun k hk => ⟨fun _ => rfl, Nat.le_refl _, fun _ => rfl⟩, htr.keep, fun b o h => ?_, fun b ⟨k, o, h, hb⟩ => absurd hb (hdead _ _ _ _ h), htr.os, htr.tape, htr.output, htr.size, fun b hb _ => htr.block b hb (hown b)⟩
    · cases k with
      | zero => simp at h; subst h; trivial
      | succ k => simp at h
    · rcases htr.new b o h with q | q | q
      · exact .inl q
      · exact .inr (.inl q)
      · exact absurd q (hown b)
end Go.Fx

/-
  Estimates, as the program tells them.
-/
namespace Go.Fx
open Go.Proofs Go.RowKit

theorem est_xok {t : Trf} (h : TOk t) (q : Qst) (a b : Int) : XOk (estX t q a b) := ⟨by show (List.replicate _ _).length ≤ 1000; rw [List.length_replicate]; exact h.extras, by show 1 ≤ 1000; decide⟩
def estO (q : Qst) (g : Nat → Nat → AV) : AV := .agg 5 (tbl [.int .i64 q.p.m.d, .int .i64 q.p.m.s, .bool false, .own 0 1, .slc 3 1 g])
@[reducible] def zrO (n : Nat) (f : Nat → Nat → AV) : HObj := .list 3 1 n f 1
def segIs (q : Qst) (a b : Int) (g : Nat → Nat → AV) : Prop := g 0 0 = .int .i64 q.p.z ∧ g 0 1 = .int .i64 a ∧ g 0 2 = .int .i64 b
theorem rep_at (n i : Nat) : (List.replicate n (0 : Int)).getD i 0 = 0 := by
  rw [List.getD_eq_getElem?_getD]
  cases e : (List.replicate n (0 : Int))[i]? with
  | none => rfl
  | some v => exact List.eq_of_mem_replicate (List.mem_of_getElem? e)
theorem segIs_le {q : Qst} {a b : Int} {g : Nat → Nat → AV} (h : segIs q a b g) : Le (.slc 3 1 g) (segS [⟨q.p.z, a, b⟩]) := .slc fun i j hi hj => by
  obtain rfl : i = 0 := by omega
  rcases j with _ | _ | _ | j
  · exact .ofEq h.1
  · exact .ofEq h.2.1
  · exact .ofEq h.2.2
  · omega
theorem estO_le (t : Trf) {q : Qst} {a b : Int} {f g : Nat → Nat → AV} (hf : ∀ i, i < t.extras.length → f i 0 = .int .i64 0) (hg : segIs q a b g) : AllLe (([trfA t, estO q g] : List AV).map (frzF [0] [zrO t.extras.length f])) [trfA t, trpA (estX t q a b)] := by
  have h4 : Le (frzF [0] [zrO t.extras.length f] (.own 0 1)) (iRow (List.replicate t.extras.length 0)) := by
    show Le (.slc 1 t.extras.length f) _
    refine .slcN (by simp) fun i j hi hj => ?_
    obtain rfl : j = 0 := by omega
    rw [hf i hi, rep_at]; exact .refl _
  exact ⟨.aggs ⟨⟨⟨⟨⟨⟨⟨⟨trivial, .refl _⟩, .refl _⟩, .refl _⟩, .refl _⟩, .refl _⟩, .refl _⟩, .refl _⟩, .refl _⟩, .aggs ⟨⟨⟨⟨⟨trivial, .refl _⟩, .refl _⟩, .refl _⟩, h4⟩, segIs_le hg⟩, trivial⟩
section
variable {W0 : World} {G : Nat → Option AV} (hX : (Xc W0 G).Good)
include hX
theorem c111 (a b lo hi : Int) : Pure (Xc W0 G) 111 [.agg 2 (tbl [.int .i64 a, .int .i64 b]), .int .i64 lo, .int .i64 hi] (.int .i64 (rgE a b lo hi)) := by
  refine mut_of' hX (show FnIs (Xc W0 G) 111 Tryz.f111 (codeOf Tryz.f111) from ⟨by kernel_rfl, by kernel_rfl, by kernel_rfl, by kernel_rfl⟩) rfl ?_
  repeat' (first
    | ((with_reducible refine (?_ : Alt _ _)); first | (with_reducible apply callAlt (c63 hX _ _ _)) | (with_reducible apply callAlt (c67 hX _ _)) | (with_reducible refine Alt.one ?_))
    | ((with_reducible refine (?_ : AllLe _ _)); first | (first | exact AllLe.refl _ | (repeat' (first | exact trivial | apply Le.aggs | apply Le.tups | apply Le.fns | exact Le.refl _ | refine ⟨?_, ?_⟩))))
    | ((with_reducible refine (?_ : Sc _ (AllRen _ _ _))); refine Sc.of ?_; first | (repeat' (first | exact trivial | apply Le.aggs | apply Le.tups | apply Le.fns | exact Le.refl _ | refine ⟨?_, ?_⟩)))
    | ((with_reducible refine (?_ : (List.all _ _) = true)); rfl)
    | ((with_reducible refine (?_ : (and _ _) = true)); rfl)
    | ((with_reducible refine (?_ : List.Nodup _)); exact nodupB_spec rfl)
    | ((with_reducible refine (?_ : @Eq Nat _ _)); rfl)
    | ((with_reducible refine (?_ : LeOks _ _ _)); first | exact trivial | exact ⟨.refl _, trivial⟩ | exact ⟨.refl _, .refl _, trivial⟩)
    | ((fail_if_success with_reducible refine Stop.go ?_); (first | with_reducible refine And.intro ?_ ?_ | with_reducible refine Cut.go ?_ | (with_reducible (refine impI ?_; intro _)) | (with_reducible refine (?_ : footOK _ _ = true); kernel_rfl) | ((with_reducible refine propI ?_); conv => whnf))))
  all_goals try (exact .of (Nat.le_of_ble_eq_true rfl))
  all_goals exact .mk [] [] _ rfl (.le (.refl _)) trivial rfl
theorem c105g (t : Trf) (q : Qst) (a b : Int) (hs : Side (TOk t ∧ XOk (estX t q a b))) (hr : rideE t (estX t q a b) = 0) (f g : Nat → Nat → AV) (hf : Side (∀ i, i < t.extras.length → f i 0 = .int .i64 0)) (hg : Side (segIs q a b g)) : Mut (Xc W0 G) 105 [trfA t, estO q g] [zrO t.extras.length f] (.tup 2 (tbl [.agg 14 (tbl (rideC t (estX t q a b))), .int .i64 0])) [.dead] :=
  Mut.give (c105 hX t (estX t q a b) hs hr) rfl rfl (estO_le t hf.get hg.get)
theorem c105ge (t : Trf) (q : Qst) (a b : Int) (hs : Side (TOk t ∧ XOk (estX t q a b))) (hr : rideE t (estX t q a b) ≠ 0) (f g : Nat → Nat → AV) (hf : Side (∀ i, i < t.extras.length → f i 0 = .int .i64 0)) (hg : Side (segIs q a b g)) : Mut (Xc W0 G) 105 [trfA t, estO q g] [zrO t.extras.length f] (.tup 2 (tbl [.agg 14 (tbl rideZ), .int .i64 (rideE t (estX t q a b))])) [.dead] :=
  Mut.give (c105e hX t (estX t q a b) hs hr) rfl rfl (estO_le t hf.get hg.get)
theorem c112 (t : Trf) (q : Qst) (a b : Int) (hs : Side (TOk t)) (hr : rideE t (estX t q a b) = 0) : Mut (Xc W0 G) 112 [.int .i64 a, .int .i64 b, .ptr 0 0, .ptr 1 0] [.box (trfC t), .box (qstC q)] (.tup 2 (tbl [.agg 14 (tbl (rideC t (estX t q a b))), .int .i64 0])) [.box (trfC t), .box (qstC q)] := by
  have k0 := hs.get
  have k1 := k0.extras
  refine mut_of' hX (show FnIs (Xc W0 G) 112 Tryz.f112 (codeOf Tryz.f112) from ⟨by kernel_rfl, by kernel_rfl, by kernel_rfl, by kernel_rfl⟩) rfl ?_
  repeat' (first
    | ((with_reducible refine (?_ : Alt _ _)); first | ((with_reducible (apply altM (ks := [3]) (m := 0); apply And.intro; apply Sc.of; apply (c105g hX t q a b ?_ hr _ _ ?_ ?_))); case' right => (refine And.intro (Sc.of ?_) ?_; · ((repeat' (first | exact trivial | apply Le.aggs | apply Le.tups | apply Le.fns | exact Le.refl _ | refine ⟨?_, ?_⟩)); done))) | (with_reducible refine Alt.one ?_))
    | ((with_reducible refine (?_ : AllLe _ _)); first | (first | exact AllLe.refl _ | (repeat' (first | exact trivial | apply Le.aggs | apply Le.tups | apply Le.fns | exact Le.refl _ | refine ⟨?_, ?_⟩))))
    | ((with_reducible refine (?_ : Sc _ (AllRen _ _ _))); refine Sc.of ?_; first | (repeat' (first | exact trivial | apply Le.aggs | apply Le.tups | apply Le.fns | exact Le.refl _ | refine ⟨?_, ?_⟩)))
    | ((with_reducible refine (?_ : (List.all _ _) = true)); rfl)
    | ((with_reducible refine (?_ : (and _ _) = true)); rfl)
    | ((with_reducible refine (?_ : List.Nodup _)); exact nodupB_spec rfl)
    | ((with_reducible refine (?_ : @Eq Nat _ _)); rfl)
    | ((with_reducible refine (?_ : LeOks _ _ _)); first | exact trivial | exact ⟨.refl _, trivial⟩ | exact ⟨.refl _, .refl _, trivial⟩)
    | ((fail_if_success with_reducible refine Stop.go ?_); (first | with_reducible refine And.intro ?_ ?_ | with_reducible refine Cut.go ?_ | (with_reducible (refine impI ?_; intro _)) | (with_reducible refine (?_ : footOK _ _ = true); kernel_rfl) | ((with_reducible refine propI ?_); conv => whnf))))
  all_goals try (exact .of (Nat.le_of_ble_eq_true rfl))
  all_goals try (refine Sc.of ⟨rfl, by omega, ?_, by omega⟩; show (t.extras.length : Int).toNat * 8 ≤ 281474976710656; omega)
  all_goals try (exact Side.mk (by first | exact ⟨k0, est_xok k0 q a b⟩ | exact fun i hi => rfl | exact ⟨rfl, rfl, rfl⟩))
  exact .mk [] [] _ rfl (.le (.tups ⟨⟨trivial, .aggs (n := 14) ⟨⟨⟨⟨⟨⟨⟨⟨⟨⟨⟨⟨⟨⟨trivial, .refl _⟩, .refl _⟩, .refl _⟩, .refl _⟩, .refl _⟩, .refl _⟩, .refl _⟩, .refl _⟩, .refl _⟩, .refl _⟩, .refl _⟩, .refl _⟩, .refl _⟩, .refl _⟩⟩, .refl _⟩)) ⟨.le (.refl _), .le (.refl _), trivial⟩ rfl
theorem c112e (t : Trf) (q : Qst) (a b : Int) (hs : Side (TOk t)) (hr : rideE t (estX t q a b) ≠ 0) : Mut (Xc W0 G) 112 [.int .i64 a, .int .i64 b, .ptr 0 0, .ptr 1 0] [.box (trfC t), .box (qstC q)] (.tup 2 (tbl [.agg 14 (tbl rideZ), .int .i64 (rideE t (estX t q a b))])) [.box (trfC t), .box (qstC q)] := by
  have k0 := hs.get
  have k1 := k0.extras
  refine mut_of' hX (show FnIs (Xc W0 G) 112 Tryz.f112 (codeOf Tryz.f112) from ⟨by kernel_rfl, by kernel_rfl, by kernel_rfl, by kernel_rfl⟩) rfl ?_
  repeat' (first
    | ((with_reducible refine (?_ : Alt _ _)); first | ((with_reducible (apply altM (ks := [3]) (m := 0); apply And.intro; apply Sc.of; apply (c105ge hX t q a b ?_ hr _ _ ?_ ?_))); case' right => (refine And.intro (Sc.of ?_) ?_; · ((repeat' (first | exact trivial | apply Le.aggs | apply Le.tups | apply Le.fns | exact Le.refl _ | refine ⟨?_, ?_⟩)); done))) | (with_reducible refine Alt.one ?_))
    | ((with_reducible refine (?_ : AllLe _ _)); first | (first | exact AllLe.refl _ | (repeat' (first | exact trivial | apply Le.aggs | apply Le.tups | apply Le.fns | exact Le.refl _ | refine ⟨?_, ?_⟩))))
    | ((with_reducible refine (?_ : Sc _ (AllRen _ _ _))); refine Sc.of ?_; first | (repeat' (first | exact trivial | apply Le.aggs | apply Le.tups | apply Le.fns | exact Le.refl _ | refine ⟨?_, ?_⟩)))
    | ((with_reducible refine (?_ : (List.all _ _) = true)); rfl)
    | ((with_reducible refine (?_ : (and _ _) = true)); rfl)
    | ((with_reducible refine (?_ : List.Nodup _)); exact nodupB_spec rfl)
    | ((with_reducible refine (?_ : @Eq Nat _ _)); rfl)
    | ((with_reducible refine (?_ : LeOks _ _ _)); first | exact trivial | exact ⟨.refl _, trivial⟩ | exact ⟨.refl _, .refl _, trivial⟩)
    | ((fail_if_success with_reducible refine Stop.go ?_); (first | with_reducible refine And.intro ?_ ?_ | with_reducible refine Cut.go ?_ | (with_reducible (refine impI ?_; intro _)) | (with_reducible refine (?_ : footOK _ _ = true); kernel_rfl) | ((with_reducible refine propI ?_); conv => whnf))))
  all_goals try (exact .of (Nat.le_of_ble_eq_true rfl))
  all_goals try (refine Sc.of ⟨rfl, by omega, ?_, by omega⟩; show (t.extras.length : Int).toNat * 8 ≤ 281474976710656; omega)
  all_goals try (exact Side.mk (by first | exact ⟨k0, est_xok k0 q a b⟩ | exact fun i hi => rfl | exact ⟨rfl, rfl, rfl⟩))
  exact .mk [] [] _ rfl (.le (.tups ⟨⟨trivial, .aggs (n := 14) ⟨⟨⟨⟨⟨⟨⟨⟨⟨⟨⟨⟨⟨⟨trivial, .refl _⟩, .refl _⟩, .refl _⟩, .refl _⟩, .refl _⟩, .refl _⟩, .refl _⟩, .refl _⟩, .refl _⟩, .refl _⟩, .refl _⟩, .refl _⟩, .refl _⟩, .refl _⟩⟩, .refl _⟩)) ⟨.le (.refl _), .le (.refl _), trivial⟩ rfl
end
end Go.Fx

/-
  Estimates, the program's and the reference's; base.Mod.
-/
namespace Go.Fx
open Go.Proofs Go.RowKit

def estP (q : Qst) : AV := .agg 5 (tbl [.int .i64 q.p.m.d, .int .i64 q.p.m.s, .bool false, .own 0 1, .own 1 1])
@[reducible] def sgL (g : Nat → Nat → AV) : HObj := .list 74 3 1 g 1
theorem estP_le (t : Trf) {q : Qst} {a b : Int} {f g : Nat → Nat → AV} (k : Bool) (hf : ∀ i, i < t.extras.length → f i 0 = .int .i64 0) (hg : segIs q a b g) : AllLe (([trfA t, estP q, .bool k] : List AV).map (frzF (List.range 2) [zrO t.extras.length f, sgL g])) [trfA t, trpA (estX t q a b), .bool k] := by
  have h4 : Le (frzF (List.range 2) [zrO t.extras.length f, sgL g] (.own 0 1)) (iRow (List.replicate t.extras.length 0)) := by
    show Le (.slc 1 t.extras.length f) _
    refine .slcN (by simp) fun i j hi hj => ?_
    obtain rfl : j = 0 := by omega
    rw [hf i hi, rep_at]; exact .refl _
  have h5 : Le (frzF (List.range 2) [zrO t.extras.length f, sgL g] (.own 1 1)) (segS [⟨q.p.z, a, b⟩]) := segIs_le hg
  exact ⟨.aggs ⟨⟨⟨⟨⟨⟨⟨⟨trivial, .refl _⟩, .refl _⟩, .refl _⟩, .refl _⟩, .refl _⟩, .refl _⟩, .refl _⟩, .refl _⟩, .aggs ⟨⟨⟨⟨⟨trivial, .refl _⟩, .refl _⟩, .refl _⟩, h4⟩, h5⟩, .refl _, trivial⟩
theorem own_eq (k v : Nat) : AV.own k v = AV.own k v := rfl
/-- Where a look at a question ends. -/
theorem est_is {t : Trf} {q : Qst} : firstS [trfE t, placeE t q.p, rgE q.ml q.mh 0 100000, rgE q.sl q.sh 1 36000, isOk (bif decide (q.ml ≤ q.mh) then decide (q.sl ≤ q.sh) else false) 9] = estH t q := by unfold estH; rfl
theorem first_e {e : Int} (l : List Int) (h0 : e ≠ 0) : firstS (e :: l) = e := by
  show (bif decide (e = 0) then firstS l else e) = e
  rw [decide_eq_false h0]; rfl
theorem first_0 (l : List Int) : firstS (0 :: l) = firstS l := rfl
theorem est_a {t : Trf} {q : Qst} (h0 : trfE t ≠ 0) : estH t q = trfE t := est_is.symm.trans (first_e _ h0)
theorem est_b {t : Trf} {q : Qst} (h : trfE t = 0) (h0 : placeE t q.p ≠ 0) : estH t q = placeE t q.p := by
  rw [← est_is, h, first_0, first_e _ h0]
theorem est_c {t : Trf} {q : Qst} (h : trfE t = 0) (h1 : placeE t q.p = 0) (h2 : (bif (bif (bif !inB q.ml 0 100000 then true else !inB q.mh 0 100000) then true else !inB q.sl 1 36000) then true else !inB q.sh 1 36000) = true) : estH t q = 2 := by
  rw [← est_is, h, first_0, h1, first_0]
  unfold rgE
  cases a : inB q.ml 0 100000
  · rfl
  cases b : inB q.mh 0 100000
  · rfl
  cases c : inB q.sl 1 36000
  · rfl
  cases d : inB q.sh 1 36000
  · rfl
  rw [a, b, c, d] at h2; cases h2
theorem est_d {t : Trf} {q : Qst} (h : trfE t = 0) (h1 : placeE t q.p = 0) (h2 : (bif (bif (bif !inB q.ml 0 100000 then true else !inB q.mh 0 100000) then true else !inB q.sl 1 36000) then true else !inB q.sh 1 36000) = false) {b : Bool} (h3 : (bif decide (q.mh < q.ml) then true else decide (q.sh < q.sl)) = b) : estH t q = bif b then 9 else 0 := by
  rw [← est_is, h, first_0, h1, first_0, ← h3]
  unfold rgE
  cases a : inB q.ml 0 100000
  · rw [a] at h2; cases h2
  cases b : inB q.mh 0 100000
  · rw [a, b] at h2; cases h2
  cases c : inB q.sl 1 36000
  · rw [a, b, c] at h2; cases h2
  cases d : inB q.sh 1 36000
  · rw [a, b, c, d] at h2; cases h2
  by_cases e : q.ml ≤ q.mh
  · by_cases f : q.sl ≤ q.sh
    · rw [decide_eq_true e, decide_eq_true f, decide_eq_false (by omega : ¬ q.mh < q.ml), decide_eq_false (by omega : ¬ q.sh < q.sl)]; rfl
    · rw [decide_eq_true e, decide_eq_false f, decide_eq_false (by omega : ¬ q.mh < q.ml), decide_eq_true (by omega : q.sh < q.sl)]; rfl
  · rw [decide_eq_false e, decide_eq_true (by omega : q.mh < q.ml)]; rfl
section
variable {W0 : World} {G : Nat → Option AV} (hX : (Xc W0 G).Good)
include hX
theorem c108xk (t : Trf) (q : Qst) (a b : Int) (hs : Side (TOk t ∧ XOk (estX t q a b))) (hr : Side (rideE t (estX t q a b) = 0)) (f g : Nat → Nat → AV) (hf : Side (∀ i, i < t.extras.length → f i 0 = .int .i64 0)) (hg : Side (segIs q a b g)) : Mut (Xc W0 G) 108 [trfA t, estP q, .bool false] [zrO t.extras.length f, sgL g] (.tup 2 (tbl [fareA t (estX t q a b) (ptX t (estX t q a b)), .int .i64 (fareE t (estX t q a b) (ptX t (estX t q a b)))])) [zrO t.extras.length f, sgL g] :=
  Mut.look (c108x hX t (estX t q a b) hs hr.get) rfl rfl (estP_le t false hf.get hg.get)
theorem c108bk (t : Trf) (q : Qst) (a b : Int) (hs : Side (TOk t ∧ XOk (estX t q a b))) (hr : Side (rideE t (estX t q a b) = 0)) (f g : Nat → Nat → AV) (hf : Side (∀ i, i < t.extras.length → f i 0 = .int .i64 0)) (hg : Side (segIs q a b g)) : Mut (Xc W0 G) 108 [trfA t, estP q, .bool true] [zrO t.extras.length f, sgL g] (.tup 2 (tbl [fareA t (estX t q a b) (ptB t (estX t q a b)), .int .i64 (fareE t (estX t q a b) (ptB t (estX t q a b)))])) [zrO t.extras.length f, sgL g] :=
  Mut.look (c108b hX t (estX t q a b) hs hr.get) rfl rfl (estP_le t true hf.get hg.get)
theorem c47 (n k : Int) (hk : Side (0 < k ∧ k ≤ 1000000)) : Pure (Xc W0 G) 47 [.int .i64 n, .int .i64 k] (.int .i64 (modQ n k)) := by
  have hk := hk.get
  have b1 := Int.tmod_lt_of_pos n hk.1
  have b2 := Int.lt_tmod_of_pos n hk.1
  refine mut_of' hX (show FnIs (Xc W0 G) 47 Tryz.f47 (codeOf Tryz.f47) from ⟨by kernel_rfl, by kernel_rfl, by kernel_rfl, by kernel_rfl⟩) rfl ?_
  repeat' (first
    | ((with_reducible refine (?_ : Alt _ _)); first | fail | (with_reducible refine Alt.one ?_))
    | ((with_reducible refine (?_ : AllLe _ _)); first | (first | exact AllLe.refl _ | (repeat' (first | exact trivial | apply Le.aggs | apply Le.tups | apply Le.fns | exact Le.refl _ | refine ⟨?_, ?_⟩))))
    | ((with_reducible refine (?_ : Sc _ (AllRen _ _ _))); refine Sc.of ?_; first | (repeat' (first | exact trivial | apply Le.aggs | apply Le.tups | apply Le.fns | exact Le.refl _ | refine ⟨?_, ?_⟩)))
    | ((with_reducible refine (?_ : (List.all _ _) = true)); rfl)
    | ((with_reducible refine (?_ : (and _ _) = true)); rfl)
    | ((with_reducible refine (?_ : List.Nodup _)); exact nodupB_spec rfl)
    | ((with_reducible refine (?_ : @Eq Nat _ _)); rfl)
    | ((with_reducible refine (?_ : LeOks _ _ _)); first | exact trivial | exact ⟨.refl _, trivial⟩ | exact ⟨.refl _, .refl _, trivial⟩)
    | ((fail_if_success with_reducible refine Stop.go ?_); (first | with_reducible refine And.intro ?_ ?_ | with_reducible refine Cut.go ?_ | (with_reducible (refine impI ?_; intro _)) | (with_reducible refine (?_ : footOK _ _ = true); kernel_rfl) | ((with_reducible refine propI ?_); conv => whnf))))
  all_goals try (exact .of (Nat.le_of_ble_eq_true rfl))
  all_goals try (exact .of (by omega))
  all_goals try (exact .of (show -9223372036854775808 ≤ n.tmod k + k ∧ n.tmod k + k ≤ 9223372036854775807 from ⟨by omega, by omega⟩))
  · rename_i v; rw [modQ_n (of_decide_eq_true v)]; exact .mk [] [] _ rfl (.le (.refl _)) trivial rfl
  · rename_i v; rw [modQ_p (of_decide_eq_false v)]; exact .mk [] [] _ rfl (.le (.refl _)) trivial rfl
theorem c45 (t : Trf) (q : Qst) (hs : Side (TOk t)) : Pure (Xc W0 G) 45 [trfA t, qstA q] (.tup 2 (tbl [estA t q, .int .i64 (estE t q)])) := by
  have k0 := hs.get
  have k1 := k0.zones
  have k2 := k0.extras
  refine mut_of' hX (show FnIs (Xc W0 G) 45 Tryz.f45 (codeOf Tryz.f45) from ⟨by kernel_rfl, by kernel_rfl, by kernel_rfl, by kernel_rfl⟩) rfl ?_
  repeat' (first
    | ((with_reducible refine (?_ : Alt _ _)); first | (with_reducible apply callAlt (c91 hX t hs)) | (with_reducible apply callAlt (c92 hX t q.p (Side.mk k1))) | ((with_reducible apply callAlt (c111 hX _ _ _ _)); case hl => (first | exact AllLe.refl _ | ((repeat' (first | exact trivial | apply Le.aggs | apply Le.tups | apply Le.fns | exact Le.refl _ | refine ⟨?_, ?_⟩)); done))) | (with_reducible apply callAlt (c67 hX _ _)) | ((with_reducible apply callAlt (c65_5 hX _ _ _ _ _)); case hl => (first | exact ⟨le_slc2 rfl rfl, trivial⟩ | exact ⟨le_slc3 rfl rfl rfl, trivial⟩ | exact ⟨le_slc5 rfl rfl rfl rfl rfl, trivial⟩ | exact AllLe.refl _)) | (with_reducible refine Alt.one ?_; fail_if_success (with_reducible refine (?_ : Exists _))))
    | ((with_reducible refine (?_ : AllLe _ _)); first | (first | exact AllLe.refl _ | (repeat' (first | exact trivial | apply Le.aggs | apply Le.tups | apply Le.fns | exact Le.refl _ | refine ⟨?_, ?_⟩))))
    | ((with_reducible refine (?_ : Sc _ (AllRen _ _ _))); refine Sc.of ?_; first | (repeat' (first | exact trivial | apply Le.aggs | apply Le.tups | apply Le.fns | exact Le.refl _ | refine ⟨?_, ?_⟩)))
    | ((with_reducible refine (?_ : (List.all _ _) = true)); rfl)
    | ((with_reducible refine (?_ : (and _ _) = true)); rfl)
    | ((with_reducible refine (?_ : List.Nodup _)); exact nodupB_spec rfl)
    | ((with_reducible refine (?_ : @Eq Nat _ _)); rfl)
    | ((with_reducible refine (?_ : LeOks _ _ _)); first | exact trivial | exact ⟨.refl _, trivial⟩ | exact ⟨.refl _, .refl _, trivial⟩)
    | ((fail_if_success with_reducible refine Stop.go ?_); (first | with_reducible refine And.intro ?_ ?_ | with_reducible refine Cut.go ?_ | (with_reducible (refine impI ?_; intro _)) | (with_reducible refine (?_ : footOK _ _ = true); kernel_rfl) | ((with_reducible refine propI ?_); conv => whnf))))
  all_goals try (exact .of (Nat.le_of_ble_eq_true rfl))
  · rename_i v; rw [est_is] at v; have w := est_1 (t := t) (q := q) rfl (bne0 v); exact .mk [] [] _ rfl (.le (.tups ⟨⟨trivial, .aggs ⟨⟨trivial, .intI w.2.1.symm⟩, .intI w.2.2.symm⟩⟩, .intI (by rw [est_is]; exact w.1.symm)⟩)) trivial rfl
  rename_i v
  have hH : estH t q = 0 := est_is.symm.trans (bne1 v)
  have E := est_0 hH
  have x1 : Side (TOk t ∧ XOk (estX t q q.ml q.sl)) := .mk ⟨k0, est_xok k0 q _ _⟩
  have x2 : Side (TOk t ∧ XOk (estX t q q.mh q.sh)) := .mk ⟨k0, est_xok k0 q _ _⟩
  have r1 : rideE t (estX t q q.ml q.sl) = nowE t q.p := est_ride E E.ml E.sl
  have r2 : rideE t (estX t q q.mh q.sh) = nowE t q.p := est_ride E E.mh E.sh
  by_cases hn : nowE t q.p = 0
  · have h1 := r1.trans hn
    have h2 := r2.trans hn
    repeat' (first
      | ((with_reducible refine (?_ : Alt _ _)); first | ((with_reducible (apply altM (ks := [0, 1]) (m := 0); apply And.intro; apply Sc.of; apply (c112 hX t q q.ml q.sl hs h1))); case' right => (refine And.intro (Sc.of ?_) ?_; · ((repeat' (first | exact trivial | apply Le.aggs | apply Le.tups | apply Le.fns | exact Le.refl _ | refine ⟨?_, ?_⟩)); done))) | ((with_reducible (apply altM (ks := [0, 1]) (m := 0); apply And.intro; apply Sc.of; apply (c112 hX t q q.mh q.sh hs h2))); case' right => (refine And.intro (Sc.of ?_) ?_; · ((repeat' (first | exact trivial | apply Le.aggs | apply Le.tups | apply Le.fns | exact Le.refl _ | refine ⟨?_, ?_⟩)); done))) | (with_reducible apply callAlt (c107 hX t (estX t q q.ml q.sl) (estX t q q.mh q.sh) x1 h1 x2 h2)) | (with_reducible refine Alt.one ?_))
      | ((with_reducible refine (?_ : AllLe _ _)); first | (first | exact AllLe.refl _ | (repeat' (first | exact trivial | apply Le.aggs | apply Le.tups | apply Le.fns | exact Le.refl _ | refine ⟨?_, ?_⟩))))
      | ((with_reducible refine (?_ : Sc _ (AllRen _ _ _))); refine Sc.of ?_; first | (repeat' (first | exact trivial | apply Le.aggs | apply Le.tups | apply Le.fns | exact Le.refl _ | refine ⟨?_, ?_⟩)))
      | ((with_reducible refine (?_ : (List.all _ _) = true)); rfl)
      | ((with_reducible refine (?_ : (and _ _) = true)); rfl)
      | ((with_reducible refine (?_ : List.Nodup _)); exact nodupB_spec rfl)
      | ((with_reducible refine (?_ : @Eq Nat _ _)); rfl)
      | ((with_reducible refine (?_ : LeOks _ _ _)); first | exact trivial | exact ⟨.refl _, trivial⟩ | exact ⟨.refl _, .refl _, trivial⟩)
      | ((fail_if_success with_reducible refine Stop.go ?_); (first | with_reducible refine And.intro ?_ ?_ | with_reducible refine Cut.go ?_ | (with_reducible (refine impI ?_; intro _)) | (with_reducible refine (?_ : footOK _ _ = true); kernel_rfl) | ((with_reducible refine propI ?_); conv => whnf))))
    all_goals try (exact .of (Nat.le_of_ble_eq_true rfl))
    all_goals try (exfalso; rename_i v; simp at v; done)
    have w := est_3 hH hn
    exact .mk [] [] _ rfl (.le (.tups ⟨⟨trivial, .aggs ⟨⟨trivial, .intI w.2.1.symm⟩, .intI w.2.2.symm⟩⟩, .intI w.1.symm⟩)) trivial rfl
  · have h1 : rideE t (estX t q q.ml q.sl) ≠ 0 := by rw [r1]; exact hn
    have h2 : rideE t (estX t q q.mh q.sh) ≠ 0 := by rw [r2]; exact hn
    have w := est_2 hH rfl hn
    repeat' (first
      | ((with_reducible refine (?_ : Alt _ _)); first | ((with_reducible (apply altM (ks := [0, 1]) (m := 0); apply And.intro; apply Sc.of; apply (c112e hX t q q.ml q.sl hs h1))); case' right => (refine And.intro (Sc.of ?_) ?_; · ((repeat' (first | exact trivial | apply Le.aggs | apply Le.tups | apply Le.fns | exact Le.refl _ | refine ⟨?_, ?_⟩)); done))) | ((with_reducible (apply altM (ks := [0, 1]) (m := 0); apply And.intro; apply Sc.of; apply (c112e hX t q q.mh q.sh hs h2))); case' right => (refine And.intro (Sc.of ?_) ?_; · ((repeat' (first | exact trivial | apply Le.aggs | apply Le.tups | apply Le.fns | exact Le.refl _ | refine ⟨?_, ?_⟩)); done))) | (with_reducible refine Alt.one ?_))
      | ((with_reducible refine (?_ : AllLe _ _)); first | (first | exact AllLe.refl _ | (repeat' (first | exact trivial | apply Le.aggs | apply Le.tups | apply Le.fns | exact Le.refl _ | refine ⟨?_, ?_⟩))))
      | ((with_reducible refine (?_ : Sc _ (AllRen _ _ _))); refine Sc.of ?_; first | (repeat' (first | exact trivial | apply Le.aggs | apply Le.tups | apply Le.fns | exact Le.refl _ | refine ⟨?_, ?_⟩)))
      | ((with_reducible refine (?_ : (List.all _ _) = true)); rfl)
      | ((with_reducible refine (?_ : (and _ _) = true)); rfl)
      | ((with_reducible refine (?_ : List.Nodup _)); exact nodupB_spec rfl)
      | ((with_reducible refine (?_ : @Eq Nat _ _)); rfl)
      | ((with_reducible refine (?_ : LeOks _ _ _)); first | exact trivial | exact ⟨.refl _, trivial⟩ | exact ⟨.refl _, .refl _, trivial⟩)
      | ((fail_if_success with_reducible refine Stop.go ?_); (first | with_reducible refine And.intro ?_ ?_ | with_reducible refine Cut.go ?_ | (with_reducible (refine impI ?_; intro _)) | (with_reducible refine (?_ : footOK _ _ = true); kernel_rfl) | ((with_reducible refine propI ?_); conv => whnf))))
    all_goals try (exact .of (Nat.le_of_ble_eq_true rfl))
    all_goals try (exfalso; first | (rename_i v; exact h1 (bne1 v)) | (rename_i v _; exact h1 (bne1 v)))
    exact .mk [] [] _ rfl (.le (.tups ⟨⟨trivial, .aggs ⟨⟨trivial, .intI w.2.1.symm⟩, .intI w.2.2.symm⟩⟩, .intI (r1.trans w.1.symm)⟩)) trivial rfl
theorem c46 (t : Trf) (q : Qst) (hs : Side (TOk t)) : Pure (Xc W0 G) 46 [trfA t, qstA q] (.tup 2 (tbl [estA t q, .int .i64 (estE t q)])) := by
  have k0 := hs.get
  have k1 := k0.zones
  have k2 := k0.extras
  refine mut_of' hX (show FnIs (Xc W0 G) 46 Tryz.f46 (codeOf Tryz.f46) from ⟨by kernel_rfl, by kernel_rfl, by kernel_rfl, by kernel_rfl⟩) rfl ?_
  repeat' (first
    | ((with_reducible refine (?_ : Alt _ _)); first | (with_reducible apply callAlt (c20 hX t hs)) | (with_reducible apply callAlt (c21 hX t q.p (Side.mk k1))) | ((with_reducible apply callAlt (c27 hX q.ml _ _)); case hl => (first | exact AllLe.refl _ | ((repeat' (first | exact trivial | apply Le.aggs | apply Le.tups | apply Le.fns | exact Le.refl _ | refine ⟨?_, ?_⟩)); done))) | ((with_reducible apply callAlt (c27 hX q.mh _ _)); case hl => (first | exact AllLe.refl _ | ((repeat' (first | exact trivial | apply Le.aggs | apply Le.tups | apply Le.fns | exact Le.refl _ | refine ⟨?_, ?_⟩)); done))) | ((with_reducible apply callAlt (c27 hX q.sl _ _)); case hl => (first | exact AllLe.refl _ | ((repeat' (first | exact trivial | apply Le.aggs | apply Le.tups | apply Le.fns | exact Le.refl _ | refine ⟨?_, ?_⟩)); done))) | ((with_reducible apply callAlt (c27 hX q.sh _ _)); case hl => (first | exact AllLe.refl _ | ((repeat' (first | exact trivial | apply Le.aggs | apply Le.tups | apply Le.fns | exact Le.refl _ | refine ⟨?_, ?_⟩)); done))) | ((with_reducible apply callAlt (c22 hX t q.p ?_)); case hl => (first | exact AllLe.refl _ | ((repeat' (first | exact trivial | apply Le.aggs | apply Le.tups | apply Le.fns | exact Le.refl _ | refine ⟨?_, ?_⟩)); done))) | ((with_reducible (apply altM (ks := [5, 6]) (m := 0); apply And.intro; apply Sc.of; apply (c108xk hX t q q.ml q.sl ?_ ?_ _ _ ?_ ?_))); case' right => (refine And.intro (Sc.of ?_) ?_; · ((repeat' (first | exact trivial | apply Le.aggs | apply Le.tups | apply Le.fns | exact Le.refl _ | refine ⟨?_, ?_⟩)); done))) | ((with_reducible (apply altM (ks := [5, 6]) (m := 0); apply And.intro; apply Sc.of; apply (c108bk hX t q q.mh q.sh ?_ ?_ _ _ ?_ ?_))); case' right => (refine And.intro (Sc.of ?_) ?_; · ((repeat' (first | exact trivial | apply Le.aggs | apply Le.tups | apply Le.fns | exact Le.refl _ | refine ⟨?_, ?_⟩)); done))) | (rw [own_eq]; with_reducible refine Alt.two ?_) | (with_reducible refine Alt.one ?_))
    | ((with_reducible refine (?_ : AllLe _ _)); first | (first | exact AllLe.refl _ | (repeat' (first | exact trivial | apply Le.aggs | apply Le.tups | apply Le.fns | exact Le.refl _ | refine ⟨?_, ?_⟩))))
    | ((with_reducible refine (?_ : Sc _ (AllRen _ _ _))); refine Sc.of ?_; first | (repeat' (first | exact trivial | apply Le.aggs | apply Le.tups | apply Le.fns | exact Le.refl _ | refine ⟨?_, ?_⟩)))
    | ((with_reducible refine (?_ : (List.all _ _) = true)); rfl)
    | ((with_reducible refine (?_ : (and _ _) = true)); rfl)
    | ((with_reducible refine (?_ : List.Nodup _)); exact nodupB_spec rfl)
    | ((with_reducible refine (?_ : @Eq Nat _ _)); rfl)
    | ((with_reducible refine (?_ : LeOks _ _ _)); first | exact trivial | exact ⟨.refl _, trivial⟩ | exact ⟨.refl _, .refl _, trivial⟩)
    | ((fail_if_success with_reducible refine Stop.go ?_); (first | with_reducible refine And.intro ?_ ?_ | with_reducible refine Cut.go ?_ | (with_reducible (refine impI ?_; intro _)) | (with_reducible refine (?_ : footOK _ _ = true); kernel_rfl) | ((with_reducible refine propI ?_); conv => whnf))))
  all_goals try (exact .of (Nat.le_of_ble_eq_true rfl))
  all_goals try (exact .of (by decide))
  all_goals try (refine Sc.of ⟨rfl, by omega, ?_, by omega⟩; show (t.extras.length : Int).toNat * 8 ≤ 281474976710656; omega)
  all_goals try ((with_reducible refine (?_ : Side _)); first | exact Side.mk ⟨k0, est_xok k0 q _ _⟩ | exact Side.mk (fun i hi => rfl) | exact Side.mk ⟨rfl, rfl, rfl⟩ | (rename_i v1 v2 v3 v4; exact Side.mk ⟨k0, trf_sort (bne1 v1)⟩) | (rename_i v1 v2 v3 v4 v5; have hH : estH t q = 0 := est_d (bne1 v1) (bne1 v2) v3 v4; have E := est_0 hH; have hn : nowE t q.p = 0 := bne1 v5; exact Side.mk ((est_ride E E.ml E.sl).trans hn)) | (rename_i v1 v2 v3 v4 v5 v6; have hH : estH t q = 0 := est_d (bne1 v1) (bne1 v2) v3 v4; have E := est_0 hH; have hn : nowE t q.p = 0 := bne1 v5; exact Side.mk ((est_ride E E.mh E.sh).trans hn)))
  · rename_i v; have w := est_1 (q := q) (est_a (bne0 v)) (bne0 v); exact .mk [] [] _ rfl (.le (.tups ⟨⟨trivial, .aggs ⟨⟨trivial, .intI w.2.1.symm⟩, .intI w.2.2.symm⟩⟩, .intI w.1.symm⟩)) trivial rfl
  · rename_i v1 v; have w := est_1 (est_b (bne1 v1) (bne0 v)) (bne0 v); exact .mk [] [] _ rfl (.le (.tups ⟨⟨trivial, .aggs ⟨⟨trivial, .intI w.2.1.symm⟩, .intI w.2.2.symm⟩⟩, .intI w.1.symm⟩)) trivial rfl
  · rename_i v1 v2 v3; have w := est_1 (est_c (bne1 v1) (bne1 v2) v3) (by decide); exact .mk [] [] _ rfl (.le (.tups ⟨⟨trivial, .aggs ⟨⟨trivial, .intI w.2.1.symm⟩, .intI w.2.2.symm⟩⟩, .intI w.1.symm⟩)) trivial rfl
  · rename_i v1 v2 v3 v4; have w := est_1 (show estH t q = 9 from est_d (bne1 v1) (bne1 v2) v3 v4) (by decide); exact .mk [] [] _ rfl (.le (.tups ⟨⟨trivial, .aggs ⟨⟨trivial, .intI w.2.1.symm⟩, .intI w.2.2.symm⟩⟩, .intI w.1.symm⟩)) trivial rfl
  · rename_i v1 v2 v3 v4 v5; have w := est_2 (show estH t q = 0 from est_d (bne1 v1) (bne1 v2) v3 v4) (show nowE t q.p = _ from rfl) (bne0 v5); exact .mk [] [] _ rfl (.le (.tups ⟨⟨trivial, .aggs ⟨⟨trivial, .intI w.2.1.symm⟩, .intI w.2.2.symm⟩⟩, .intI w.1.symm⟩)) trivial rfl
  · rename_i v1 v2 v3 v4 v5 v6; have hH : estH t q = 0 := est_d (bne1 v1) (bne1 v2) v3 v4; have E := est_0 hH; have hn : nowE t q.p = 0 := bne1 v5; have w := est_3 hH hn; have r := rng_1 (y := (estX t q q.mh q.sh)) (bne0 v6)
    exact .mk [] [] _ rfl (.le (.tups ⟨⟨trivial, .aggs ⟨⟨trivial, .intI (w.2.1.trans (r.2 _)).symm⟩, .intI (w.2.2.trans (r.2 _)).symm⟩⟩, .intI (w.1.trans r.1).symm⟩)) trivial rfl
  · rename_i v1 v2 v3 v4 v5 v6 v7; have hH : estH t q = 0 := est_d (bne1 v1) (bne1 v2) v3 v4; have E := est_0 hH; have hn : nowE t q.p = 0 := bne1 v5; have w := est_3 hH hn; have r := rng_2 (bne1 v6) (bne0 v7)
    exact .mk [] [] _ rfl (.le (.tups ⟨⟨trivial, .aggs ⟨⟨trivial, .intI (w.2.1.trans (r.2 _)).symm⟩, .intI (w.2.2.trans (r.2 _)).symm⟩⟩, .intI (w.1.trans r.1).symm⟩)) trivial rfl
  · rename_i v1 v2 v3 v4 v5 v6 v7; have hH : estH t q = 0 := est_d (bne1 v1) (bne1 v2) v3 v4; have E := est_0 hH; have hn : nowE t q.p = 0 := bne1 v5; have w := est_3 hH hn; have r := rng_3 (bne1 v6) (bne1 v7)
    exact .mk [] [] _ rfl (.le (.tups ⟨⟨trivial, .aggs ⟨⟨trivial, .intI ((fareZ_0 (bne1 v6)).trans (w.2.1.trans (r.2 _)).symm)⟩, .intI ((fareZ_0 (bne1 v7)).trans (w.2.2.trans (r.2 _)).symm)⟩⟩, .intI (w.1.trans r.1).symm⟩)) trivial rfl
end
end Go.Fx
