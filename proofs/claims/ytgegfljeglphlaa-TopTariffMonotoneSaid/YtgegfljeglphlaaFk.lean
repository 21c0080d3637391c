/-
  Trips with other metres; the example of the chapter.
-/
import Derived.Test.YtgegfljeglphlaaFs
import Derived.Test.YtgegfljeglphlaaFi
import Derived.Test.YtgegfljeglphlaaFf

set_option linter.all false

/-
  Trips with more metres in their first segments; trips without metres.
-/
namespace Go.Fx
open Go.Proofs Go.RowKit

/-- A trip with other segments. -/
def segT' (x : Trp) (f : Nat → Seg) : Trp := ⟨x.m, x.fx, x.ex, (List.range x.sg.length).map f⟩
theorem seg_len (x : Trp) (f : Nat → Seg) : (segT' x f).sg.length = x.sg.length := by simp [segT']
theorem seg_at (x : Trp) (f : Nat → Seg) {k : Nat} (h : k < x.sg.length) : sgx (segT' x f) k = f k := by
  show ((List.range x.sg.length).map f).getD k seg0 = f k
  rw [List.getD_eq_getElem?_getD, List.getElem?_map, List.getElem?_range h]; rfl
theorem seg_near (x : Trp) (f : Nat → Seg) (hz : ∀ k, k < x.sg.length → (f k).z = (sgx x k).z) (hs : ∀ k, k < x.sg.length → (f k).se = (sgx x k).se) : Near x (segT' x f) :=
  ⟨rfl, rfl, rfl, (seg_len x f).symm, fun k hk => by rw [seg_at x f hk, hz k hk], fun k hk => by rw [seg_at x f (by omega), hs k (by omega)]⟩
theorem seg_xok {x : Trp} (h : XOk x) (f : Nat → Seg) : XOk (segT' x f) := ⟨h.ex, by rw [seg_len]; exact h.sg⟩
/-- Metres in their range are right as other metres are. -/
theorem seg_trip {t : Trf} {x : Trp} {f : Nat → Seg} (hz : ∀ k, k < x.sg.length → (f k).z = (sgx x k).z) (hs : ∀ k, k < x.sg.length → (f k).se = (sgx x k).se) (hm : ∀ k, k < x.sg.length → f k = sgx x k ∨ (inB (sgx x k).me 0 100000 = true ∧ inB (f k).me 0 100000 = true)) : tripE t (segT' x f) = tripE t x := by
  have e1 : tripH t (segT' x f) = tripH t x := by unfold tripH; rfl
  have e2 : exE (segT' x f) = exE x := by funext j; unfold exE; rfl
  have e3 : tripM (segT' x f) = tripM x := by unfold tripM; rw [seg_len]
  have e4 : ∀ j, j < x.sg.length → sgE t (segT' x f) j = sgE t x j := fun j hj => by
    unfold sgE
    rw [seg_at x f hj]
    rcases hm j hj with e | ⟨a, b⟩
    · rw [e]
    · rw [hz j hj, hs j hj, a, b]
  have e5 : scanE (sgE t (segT' x f)) (List.range x.sg.length) = scanE (sgE t x) (List.range x.sg.length) := by
    have : ∀ (l : List Nat), (∀ j ∈ l, sgE t (segT' x f) j = sgE t x j) → scanE (sgE t (segT' x f)) l = scanE (sgE t x) l := fun l => by
      induction l with
      | nil => intro _; rfl
      | cons a l ih => intro h; simp only [scanE, h a (List.mem_cons_self ..), ih fun j hj => h j (List.mem_cons_of_mem _ hj)]
    exact this _ fun j hj => e4 j (List.mem_range.1 hj)
  unfold tripE
  rw [e1, e2, e3, seg_len, e5]; rfl
theorem seg_ride {t : Trf} {x : Trp} {f : Nat → Seg} (hz : ∀ k, k < x.sg.length → (f k).z = (sgx x k).z) (hs : ∀ k, k < x.sg.length → (f k).se = (sgx x k).se) (hm : ∀ k, k < x.sg.length → f k = sgx x k ∨ (inB (sgx x k).me 0 100000 = true ∧ inB (f k).me 0 100000 = true)) : rideE t (segT' x f) = rideE t x := by
  have e := seg_trip (t := t) hz hs hm
  by_cases h : tripE t x = 0
  · exact ((seg_near x f hz hs).ride h (e.trans h)).symm
  · rw [ride_1 rfl h, ride_1 e h]

/-- The first i segments with more metres. -/
def monS (x : Trp) (l : List Int) (i a : Nat) : Seg := bif decide (a < i) then ⟨(sgx x a).z, min 100000 ((sgx x a).me + l.getD a 0), (sgx x a).se⟩ else sgx x a
def monT (x : Trp) (l : List Int) (i : Nat) : Trp := segT' x (monS x l i)
/-- The first i segments without metres. -/
def zerS (x : Trp) (i a : Nat) : Seg := bif decide (a < i) then ⟨(sgx x a).z, 0, (sgx x a).se⟩ else sgx x a
def zerT (x : Trp) (i : Nat) : Trp := segT' x (zerS x i)
theorem mon_lo {x : Trp} {l : List Int} {i a : Nat} (h : a < i) : monS x l i a = ⟨(sgx x a).z, min 100000 ((sgx x a).me + l.getD a 0), (sgx x a).se⟩ := by unfold monS; rw [decide_eq_true h]; rfl
theorem mon_hi {x : Trp} {l : List Int} {i a : Nat} (h : ¬ a < i) : monS x l i a = sgx x a := by unfold monS; rw [decide_eq_false h]; rfl
theorem zer_lo {x : Trp} {i a : Nat} (h : a < i) : zerS x i a = ⟨(sgx x a).z, 0, (sgx x a).se⟩ := by unfold zerS; rw [decide_eq_true h]; rfl
theorem zer_hi {x : Trp} {i a : Nat} (h : ¬ a < i) : zerS x i a = sgx x a := by unfold zerS; rw [decide_eq_false h]; rfl
theorem mon_zs (x : Trp) (l : List Int) (i k : Nat) : (monS x l i k).z = (sgx x k).z ∧ (monS x l i k).se = (sgx x k).se := by
  by_cases h : k < i
  · rw [mon_lo h]; exact ⟨rfl, rfl⟩
  · rw [mon_hi h]; exact ⟨rfl, rfl⟩
theorem zer_zs (x : Trp) (i k : Nat) : (zerS x i k).z = (sgx x k).z ∧ (zerS x i k).se = (sgx x k).se := by
  by_cases h : k < i
  · rw [zer_lo h]; exact ⟨rfl, rfl⟩
  · rw [zer_hi h]; exact ⟨rfl, rfl⟩
/-- What the law has looked at. -/
def MonI (x : Trp) (l : List Int) (i : Nat) : Prop := ∀ j, j < i → inB (l.getD j 0) 0 100000 = true ∧ inB (sgx x j).me 0 100000 = true
theorem mon_me {x : Trp} {l : List Int} {i k : Nat} (h : MonI x l i) : monS x l i k = sgx x k ∨ (inB (sgx x k).me 0 100000 = true ∧ inB (monS x l i k).me 0 100000 = true) := by
  by_cases c : k < i
  · right
    obtain ⟨a, b⟩ := h k c
    refine ⟨b, ?_⟩
    have a := inB_iff.1 a; have b := inB_iff.1 b
    rw [mon_lo c]; exact inB_iff.2 ⟨by show 0 ≤ min _ _; omega, by show min _ _ ≤ _; omega⟩
  · exact .inl (mon_hi c)
theorem mon_le {x : Trp} {l : List Int} {i k : Nat} (h : MonI x l i) : (sgx x k).me ≤ (monS x l i k).me := by
  by_cases c : k < i
  · obtain ⟨a, b⟩ := h k c
    have a := inB_iff.1 a; have b := inB_iff.1 b
    rw [mon_lo c]; show _ ≤ min _ _; omega
  · rw [mon_hi c]; exact Int.le_refl _
theorem mon_ride {t : Trf} {x : Trp} {l : List Int} {i : Nat} (h : MonI x l i) : rideE t (monT x l i) = rideE t x :=
  seg_ride (fun k _ => (mon_zs x l i k).1) (fun k _ => (mon_zs x l i k).2) fun k _ => mon_me h
theorem mon_near (x : Trp) (l : List Int) (i : Nat) : Near x (monT x l i) := seg_near _ _ (fun k _ => (mon_zs x l i k).1) fun k _ => (mon_zs x l i k).2
theorem zer_near (x : Trp) (i : Nat) : Near x (zerT x i) := seg_near _ _ (fun k _ => (zer_zs x i k).1) fun k _ => (zer_zs x i k).2
theorem zer_ride {t : Trf} {x : Trp} {i : Nat} (h : rideE t x = 0) : rideE t (zerT x i) = 0 := by
  have T := (ride_0 h).1
  refine (seg_ride (fun k _ => (zer_zs x i k).1) (fun k _ => (zer_zs x i k).2) fun k hk => ?_).trans h
  by_cases c : k < i
  · right; rw [zer_lo c]; exact ⟨inB_iff.2 (T.me k hk), rfl⟩
  · exact .inl (zer_hi c)
section
variable {t : Trf} {x y : Trp}
theorem near_pts (h : Near x y) (hx : rideE t x = 0) (hm : ∀ k, k < x.sg.length → (sgx x k).me ≤ (sgx y k).me) (hs : ∀ k, k < x.sg.length → (sgx x k).se ≤ (sgx y k).se) {k : Nat} (hk : k < x.sg.length) : ptM t x k ≤ ptM t y k ∧ ptS t x k ≤ ptS t y k := by
  obtain ⟨T, hseg⟩ := ride_0 hx
  exact h.pts T.trf hk (hseg k hk) (hm k hk) (hs k hk)
end
theorem mon_pts {t : Trf} {x : Trp} {l : List Int} {i : Nat} (h : MonI x l i) (hx : rideE t x = 0) {k : Nat} (hk : k < x.sg.length) : ptM t x k ≤ ptM t (monT x l i) k ∧ ptS t x k ≤ ptS t (monT x l i) k :=
  near_pts (mon_near x l i) hx (fun k hk => by show _ ≤ (sgx (segT' x _) k).me; rw [seg_at _ _ hk]; exact mon_le h) (fun k hk => by show _ ≤ (sgx (segT' x _) k).se; rw [seg_at _ _ hk, (mon_zs x l i k).2]; exact Int.le_refl _) hk
/-- The four ways of two fares, and of their ranges. -/
def Four (t : Trf) (x y : Trp) (f g : Nat → Int) : Prop := (fareE t x f = 12 ∧ fareE t y g = 12) ∨ (fareE t x f = 8 ∧ fareE t y g = 8) ∨ (fareE t x f = 0 ∧ fareE t y g = 8) ∨ (fareE t x f = 0 ∧ fareE t y g = 0 ∧ totQ t x f ≤ totQ t y g)
theorem mon_fare {t : Trf} {x : Trp} {l : List Int} {i : Nat} (h : MonI x l i) (hx : rideE t x = 0) : Four t x (monT x l i) (ptX t x) (ptX t (monT x l i)) :=
  (mon_near x l i).fare (ride_0 hx).1.trf (ride_0 hx).1.pos (fun k hk => (ptX_bd (ride_0 hx).1 hk ((ride_0 hx).2 k hk)).1) (f := ptX t x) (g := ptX t (monT x l i)) fun _ => accP_le fun j hj => ptX_le (mon_pts h hx hj)
theorem mon_rng {t : Trf} {x : Trp} {l : List Int} {i : Nat} (h : MonI x l i) (hx : rideE t x = 0) : Four t x (monT x l i) (ptB t x) (ptB t (monT x l i)) :=
  (mon_near x l i).fare (ride_0 hx).1.trf (ride_0 hx).1.pos (fun k hk => by have b := pt_bd (ride_0 hx).1 hk ((ride_0 hx).2 k hk); unfold ptB; omega) (f := ptB t x) (g := ptB t (monT x l i)) fun _ => accP_le fun j hj => ptB_le (mon_pts h hx hj)
theorem zer_pt {t : Trf} {x : Trp} {n : Nat} (hn : n = x.sg.length) (hx : rideE t x = 0) {k : Nat} (hk : k < x.sg.length) : ptM t (zerT x n) k = 0 ∧ ptS t (zerT x n) k = ptS t x k ∧ ptX t (zerT x n) k = ptS t x k ∧ ptB t (zerT x n) k = ptS t x k := by
  obtain ⟨T, hseg⟩ := ride_0 hx
  have b := pt_bd T hk (hseg k hk)
  have r := ((zer_near x n).seg t hk).2.2
  have s : sgx (zerT x n) k = ⟨(sgx x k).z, 0, (sgx x k).se⟩ := by show sgx (segT' x _) k = _; rw [seg_at _ _ hk, zer_lo (by omega)]
  have e1 : ptM t (zerT x n) k = 0 := by unfold ptM; rw [s]; exact Int.mul_zero _
  have e2 : ptS t (zerT x n) k = ptS t x k := by unfold ptS; rw [s, ← r]
  refine ⟨e1, e2, ?_, ?_⟩
  · unfold ptX; rw [e1, e2]
    by_cases c : 0 < ptS t x k
    · rw [decide_eq_true c]; rfl
    · rw [decide_eq_false c]; show (0 : Int) = _; omega
  · unfold ptB; rw [e1, e2]; omega
/-- Without metres: no more, and no range. -/
theorem zer_fare {t : Trf} {x y : Trp} {n : Nat} (hn : n = y.sg.length) (N : Near x y) (hx : rideE t x = 0) (hy : rideE t y = 0) (hs : ∀ k, k < x.sg.length → ptS t y k ≤ ptX t x k) (f0 : fareE t x (ptX t x) = 0) :
    fareE t (zerT y n) (ptX t (zerT y n)) = 0 ∧ totQ t (zerT y n) (ptX t (zerT y n)) ≤ totQ t x (ptX t x) ∧ fareE t (zerT y n) (ptB t (zerT y n)) = 0 ∧ totQ t (zerT y n) (ptB t (zerT y n)) = totQ t (zerT y n) (ptX t (zerT y n)) := by
  have Z := zer_ride (i := n) hy
  obtain ⟨T, hseg⟩ := ride_0 Z
  have len : (zerT y n).sg.length = y.sg.length := seg_len _ _
  have N2 : Near (zerT y n) x := by
    have a := zer_near y n
    refine ⟨a.m.symm.trans N.m.symm, a.fx.symm.trans N.fx.symm, a.ex.symm.trans N.ex.symm, a.len.symm.trans N.len.symm, fun k hk => ?_, fun k hk => ?_⟩
    · rw [len] at hk; rw [← a.z k hk, N.z k (by rw [N.len]; exact hk)]
    · have hk2 : k + 1 < y.sg.length := by rw [← len]; exact hk
      rw [← a.se k hk2, N.se k (by rw [N.len]; exact hk2)]
  have eqB : ∀ k, k < (zerT y n).sg.length → ptB t (zerT y n) k = ptX t (zerT y n) k := fun k hk => by
    have w := zer_pt hn hy (k := k) (by omega); rw [w.2.2.2, w.2.2.1]
  have w := N2.fare T.trf T.pos (f := ptX t (zerT y n)) (g := ptX t x) (fun k hk => (ptX_bd T hk (hseg k hk)).1) fun _ => by
    refine accP_le fun k hk => ?_
    have w := zer_pt hn hy (k := k) (by omega)
    rw [w.2.2.1]; exact hs k (by rw [N.len]; omega)
  have tB : totQ t (zerT y n) (ptB t (zerT y n)) = totQ t (zerT y n) (ptX t (zerT y n)) := by
    unfold totQ drvQ
    rw [accP_eq eqB]
  have fB : fareE t (zerT y n) (ptB t (zerT y n)) = fareE t (zerT y n) (ptX t (zerT y n)) := by
    unfold fareE; rw [tB]
  rcases w with ⟨_, b⟩ | ⟨_, b⟩ | ⟨_, b⟩ | ⟨a, _, c⟩
  · rw [f0] at b; cases b
  · rw [f0] at b; cases b
  · rw [f0] at b; cases b
  · exact ⟨a, c, fB.trans a, tB⟩
theorem put_seg {p : Nat} {v : Int} {g h : Nat → Seg} (hp : h p = ⟨(g p).z, v, (g p).se⟩) (ho : ∀ a, a ≠ p → h a = g a) (a j : Nat) (hj : j < 3) : putF p 1 [.int .i64 v] (fun i j => tbl (segC (g i)) j) a j = tbl (segC (h a)) j := by
  unfold putF
  by_cases e : a = p
  · subst e
    rw [hp]
    rcases j with _ | _ | _ | j
    · rw [if_neg (by omega)]; rfl
    · rw [if_pos ⟨rfl, by omega, by simp⟩]; rfl
    · rw [if_neg (by simp)]; rfl
    · omega
  · rw [ho a e, if_neg (fun w => e w.1)]
theorem mon_len (x : Trp) (l : List Int) (i : Nat) : (monT x l i).sg.length = x.sg.length := seg_len x _
theorem zer_len (x : Trp) (l : List Int) (i k : Nat) : (zerT (monT x l i) k).sg.length = x.sg.length := (seg_len _ _).trans (seg_len x _)
theorem mon_at (x : Trp) (l : List Int) (i : Nat) {a : Nat} (h : a < x.sg.length) : sgx (monT x l i) a = monS x l i a := seg_at x _ h
theorem zer_at (x : Trp) (l : List Int) (i k : Nat) {a : Nat} (h : a < x.sg.length) : sgx (zerT (monT x l i) k) a = zerS (monT x l i) k a := seg_at _ _ (by rw [mon_len]; exact h)
theorem mon_put (x : Trp) (l : List Int) (i a j : Nat) (hj : j < 3) {v : Int} (hv : v = min 100000 ((sgx x i).me + l.getD i 0)) : putF i 1 [.int .i64 v] (fun a j => tbl (segC (monS x l i a)) j) a j = tbl (segC (monS x l (i + 1) a)) j := by
  refine put_seg ?_ (fun a ha => ?_) a j hj
  · rw [mon_lo (by omega), mon_hi (by omega), hv]
  · by_cases c : a < i
    · rw [mon_lo c, mon_lo (by omega)]
    · rw [mon_hi c, mon_hi (by omega)]
theorem zer_put (x : Trp) (i a j : Nat) (hj : j < 3) : putF i 1 [.int .i64 0] (fun a j => tbl (segC (zerS x i a)) j) a j = tbl (segC (zerS x (i + 1) a)) j := by
  refine put_seg ?_ (fun a ha => ?_) a j hj
  · rw [zer_lo (by omega), zer_hi (by omega)]
  · by_cases c : a < i
    · rw [zer_lo c, zer_lo (by omega)]
    · rw [zer_hi c, zer_hi (by omega)]
theorem four_1 {t : Trf} {x y : Trp} {f g : Nat → Int} (h : Four t x y f g) (v : (bif fareE t x f != 0 then true else fareE t y g != 0) = true) : (bif fareE t x f == fareE t y g then true else fareE t y g == 8) = true := by
  rcases h with ⟨a, b⟩ | ⟨a, b⟩ | ⟨a, b⟩ | ⟨a, b, _⟩ <;> rw [a, b] at v ⊢ <;> first | rfl | cases v
theorem both_0 {a b : Int} (v : (bif a != 0 then true else b != 0) = false) : a = 0 ∧ b = 0 := by
  by_cases h : a = 0
  · subst h; exact ⟨rfl, bne1 v⟩
  · rw [bne_iff_ne.2 h] at v; cases v
theorem four_0 {t : Trf} {x y : Trp} {f g : Nat → Int} (h : Four t x y f g) (a : fareE t x f = 0) (b : fareE t y g = 0) : totQ t x f ≤ totQ t y g := by
  rcases h with ⟨c, _⟩ | ⟨c, _⟩ | ⟨_, d⟩ | ⟨_, _, e⟩
  · rw [a] at c; cases c
  · rw [a] at c; cases c
  · rw [b] at d; cases d
  · exact e
theorem fare_08 {t : Trf} {x : Trp} {f g : Nat → Int} (h : fareE t x f = 0) : fareE t x g = 0 ∨ fareE t x g = 8 := by
  rcases fare_cases (t := t) (x := x) (f := g) with ⟨a, b, _⟩ | ⟨_, _, c⟩ | ⟨_, _, c⟩
  · rw [fare_none a b] at h; cases h
  · exact .inr c
  · exact .inl c
theorem rng_is {t : Trf} {x : Trp} (h : fareE t x (ptX t x) = 0) : rngE t x x = fareE t x (ptB t x) := by unfold rngE; rw [h]; rfl
theorem rngZ_0 {t : Trf} {x y : Trp} (h : rngE t x y = 0) (n : Int) : rngZ t x y n = n := by unfold rngZ; rw [h]; rfl
theorem four_3 {t : Trf} {x y : Trp} (h : fareE t x (ptX t x) = 0) (h2 : fareE t y (ptX t y) = 0) (v : (bif rngE t x x != 0 then true else rngE t y y != 0) = true) : (bif rngE t x x == 8 then true else rngE t y y == 8) = true := by
  rw [rng_is h, rng_is h2] at v ⊢
  rcases fare_08 (g := ptB t x) h with a | a <;> rcases fare_08 (g := ptB t y) h2 with b | b <;> rw [a, b] at v ⊢ <;> first | rfl | cases v
section
variable {t : Trf} {x : Trp} {l : List Int} {i : Nat}
theorem mon_2 (hI : MonI x l i) (hr : rideE t x = 0) (h : fareE t x (ptX t x) = 0) (h2 : fareE t (monT x l i) (ptX t (monT x l i)) = 0)
    (v : (bif (bif decide (fareZ t (monT x l i) (ptX t (monT x l i)) (totQ t (monT x l i) (ptX t (monT x l i))) < fareZ t x (ptX t x) (totQ t x (ptX t x))) then true else fareZ t x (ptX t x) (staQ t x) != fareZ t (monT x l i) (ptX t (monT x l i)) (staQ t (monT x l i))) then true else fareZ t x (ptX t x) (exS t x x.ex.length) != fareZ t (monT x l i) (ptX t (monT x l i)) (exS t (monT x l i) (monT x l i).ex.length)) = true) : False := by
  have w := four_0 (mon_fare hI hr) h h2
  have N := mon_near x l i
  rw [fareZ_0 h, fareZ_0 h, fareZ_0 h, fareZ_0 h2, fareZ_0 h2, fareZ_0 h2, ← N.sta t (ride_0 hr).1.pos, ← N.exs t, ← N.ex, decide_eq_false (by omega)] at v
  simp at v
theorem mon_4 (hI : MonI x l i) (hr : rideE t x = 0) (h : fareE t x (ptX t x) = 0) (h2 : fareE t (monT x l i) (ptX t (monT x l i)) = 0) (r : rngE t x x = 0) (r2 : rngE t (monT x l i) (monT x l i) = 0)
    (v : (bif (bif rngZ t x x (totQ t x (ptX t x)) != fareZ t x (ptX t x) (totQ t x (ptX t x)) then true else rngZ t (monT x l i) (monT x l i) (totQ t (monT x l i) (ptX t (monT x l i))) != fareZ t (monT x l i) (ptX t (monT x l i)) (totQ t (monT x l i) (ptX t (monT x l i)))) then true else decide (rngZ t (monT x l i) (monT x l i) (totQ t (monT x l i) (ptB t (monT x l i))) < rngZ t x x (totQ t x (ptB t x)))) = true) : False := by
  have a := (rng_is h).symm.trans r
  have b := (rng_is h2).symm.trans r2
  have w := four_0 (mon_rng hI hr) a b
  rw [rngZ_0 r, rngZ_0 r, rngZ_0 r2, rngZ_0 r2, fareZ_0 h, fareZ_0 h2, decide_eq_false (by omega)] at v
  simp at v
theorem mon_ptS (x : Trp) (l : List Int) (i : Nat) {k : Nat} (hk : k < x.sg.length) : ptS t (monT x l i) k = ptS t x k := by
  unfold ptS
  rw [← ((mon_near x l i).seg t hk).2.2, mon_at x l i hk, (mon_zs x l i k).2]
theorem ptS_X (t : Trf) (x : Trp) (k : Nat) : ptS t x k ≤ ptX t x k := by
  unfold ptX
  by_cases a : ptM t x k < ptS t x k
  · rw [decide_eq_true a]; exact Int.le_refl _
  · rw [decide_eq_false a]; show _ ≤ ptM t x k; omega
theorem zer_all (hI : MonI x l i) (hr : rideE t x = 0) (h : fareE t x (ptX t x) = 0) {k : Nat} (hk : k = x.sg.length) :
    fareE t (zerT (monT x l i) k) (ptX t (zerT (monT x l i) k)) = 0 ∧ totQ t (zerT (monT x l i) k) (ptX t (zerT (monT x l i) k)) ≤ totQ t x (ptX t x) ∧ fareE t (zerT (monT x l i) k) (ptB t (zerT (monT x l i) k)) = 0 ∧ totQ t (zerT (monT x l i) k) (ptB t (zerT (monT x l i) k)) = totQ t (zerT (monT x l i) k) (ptX t (zerT (monT x l i) k)) :=
  zer_fare (hk.trans (mon_len x l i).symm) (mon_near x l i) hr ((mon_ride hI).trans hr) (fun k hk => by rw [mon_ptS x l i hk]; exact ptS_X t x k) h
end
end Go.Fx

/-
  A call that is given a list of the caller's own, for good: the callee sees its elements, the caller has it no more.
-/
namespace Go.Fx
open Go.Proofs Go.RowKit

end Go.Fx

/-
  What was run once: results kept.
-/
namespace Go.Fx
open Go.Proofs

structure Memo where
  f : FuncId
  xs : List AV
  r : AV
  L : List HObj

theorem Mut.args {X : Ctx} {f : FuncId} {args bs : List AV} {L L' : List HObj} {r : AV} (h : Mut X f bs L r L') (hl : AllLe args bs) : Mut X f args L r L' :=
  ⟨h.1, fun c cargs hok hb hL hsz hargs => h.2 c cargs hok hb hL (by rw [hsz, hl.len]) fun j av hj => by
    have h1 : j < args.length := by rw [← hl.len]; exact (List.getElem?_eq_some_iff.1 hj).1
    obtain ⟨v, h2, h3⟩ := hargs j args[j] (List.getElem?_eq_getElem h1)
    exact ⟨v, h2, (hl.at j _ av (List.getElem?_eq_getElem h1) hj).reads h3⟩⟩

/-- A call of a function that touches no owned block, on lists of the call's own. -/
theorem Mut.look {X : Ctx} {f : FuncId} {args bs : List AV} {L : List HObj} {r : AV} (h : Pure X f bs r) (hflat : r.flat = true) (hfree : (bs.all (·.free)) = true) (hl : AllLe (args.map (frzF (List.range L.length) L)) bs) : Mut X f args L r L := by
  have hlen : bs.length = args.length := by have := hl.len; simpa using this
  refine ⟨h.1, fun c cargs hok hb hL hsz hargs => ?_⟩
  let cc : Cfg := ⟨c.g, c.all, c.w, []⟩
  have hccok : cc.Ok := ⟨fun k o h => by simp [cc] at h, fun i j oi oj b h => by simp [cc] at h, fun k o b h => by simp [cc] at h, fun b o h => by
    rcases h with h | ⟨k, ob, h, h'⟩
    · exact hok.imm b o h
    · exact hok.old k ob b h h', fun b o k ob _ h => by simp [cc] at h⟩
  have hccb : Base X cc := ⟨hb.below, fun b o h => .inl (hb.imm b o h), fun b ⟨k, o, h, _⟩ => by simp [cc] at h⟩
  have hown : ∀ b, ¬ cc.Owns b := fun b ⟨k, o, h, _⟩ => by simp [cc] at h
  refine (h.2 cc cargs hccok hccb rfl (by omega) fun j av hj => ?_).mono ?_
  · have hlt : j < args.length := by rw [← hlen]; exact (List.getElem?_eq_some_iff.1 hj).1
    obtain ⟨v, k1, k2⟩ := hargs j args[j] (List.getElem?_eq_getElem hlt)
    refine ⟨v, k1, ?_⟩
    have e1 := (frzF_le (F := List.range L.length) (H := L) args[j]).reads hok (I' := c.all) (fun k e es n f ver hk => by rw [hL]; exact (only_list hk).1) (fun b o hI => .inl hI)
      (fun k e es n f ver b hk hb o => .inr ⟨k, .list e es n f ver, by rw [hL]; exact (only_list hk).1, hb⟩) k2
    have e2 := (hl.at j (frzF (List.range L.length) L args[j]) av (by simp [List.getElem?_eq_getElem hlt]) hj).reads e1
    exact AV.free_reads (g' := c.g) _ _ _ _ (List.all_eq_true.1 hfree _ (List.mem_of_getElem? hj)) e2
  · rintro e w' ⟨v, cc', rfl, rfl, htr, hH', hread⟩
    have t := Tr.imm (c := c) hok (w' := cc'.w) (I' := c.I) htr.os htr.tape htr.output htr.size (fun b hb => htr.block b hb (hown b)) (fun b o h => h) (fun b o h => .inl h)
    exact ⟨v, ⟨c.g, c.I, cc'.w, c.H⟩, rfl, rfl, t, hL, AV.flat_reads r _ _ v hflat hread⟩

end Go.Fx

/-
  Copies of trips with segments of one's own; fares of such trips.
-/
namespace Go.Fx
open Go.Proofs Go.RowKit

/-- A trip whose n segments are own block 0. -/
def trpO (x : Trp) : AV := .agg 5 (tbl [.int .i64 x.m.d, .int .i64 x.m.s, .bool x.fx, iRow x.ex, .own 0 1])
@[reducible] def sgO (n : Nat) (f : Nat → Nat → AV) : HObj := .list 40 3 n f 1
theorem putF_at (p off : Nat) (l : List AV) (f : Nat → Nat → AV) : putF p off l f p = fun j => bif (Nat.ble off j && Nat.blt j (off + l.length)) then l.getD (j - off) .any else f p j := by
  funext j
  unfold putF
  by_cases h : off ≤ j ∧ j < off + l.length
  · rw [if_pos ⟨rfl, h⟩, show (Nat.ble off j && Nat.blt j (off + l.length)) = true from by simp [Nat.blt_eq, h.1, h.2]]; rfl
  · rw [if_neg (fun q => h q.2), show (Nat.ble off j && Nat.blt j (off + l.length)) = false from by
      cases e : (Nat.ble off j && Nat.blt j (off + l.length)) with
      | false => rfl
      | true => simp [Nat.blt_eq] at e; exact absurd e h]; rfl
def cityR (nm : ByteArray) (b e s m c : Int) : Rul := ⟨nm, 0, 100000, [0, 1], [0, 1, 2, 3, 4, 5, 6, 7], b, e, s, m, c⟩
def cityT : Trf := ⟨⟨#[99, 105, 116, 121]⟩, 1000, 10, [⟨#[116, 111, 119, 110]⟩, ⟨#[112, 111, 114, 116]⟩], [7], [cityR ⟨#[100, 97, 121]⟩ 21600 79200 350 5 8, cityR ⟨#[110, 105, 103, 104, 116]⟩ 79200 21600 450 6 8], [⟨⟨#[98, 97, 103]⟩, 100⟩], [⟨0, 1, 4000⟩]⟩
def rideX : Trp := ⟨⟨0, 36000⟩, false, [0], [⟨0, 1000, 100⟩]⟩
theorem city_tok : TOk cityT := (few_ok (show fewB cityT = true by kernel_rfl)).1
theorem ride_xok : XOk rideX := ⟨by decide, by decide⟩
theorem city_ride : rideE cityT rideX = 0 := by kernel_rfl
theorem trpO_le (t : Trf) {x : Trp} {f : Nat → Nat → AV} (hf : ∀ a j, a < x.sg.length → j < 3 → f a j = tbl (segC (sgx x a)) j) : AllLe (([trfA t, trpO x] : List AV).map (frzF (List.range 1) [sgO x.sg.length f])) [trfA t, trpA x] := by
  have h5 : Le (frzF (List.range 1) [sgO x.sg.length f] (.own 0 1)) (segS x.sg) := by
    show Le (.slc 3 x.sg.length f) (.slc 3 x.sg.length _)
    exact .slc fun a j ha hj => .ofEq (hf a j ha hj)
  exact ⟨.aggs ⟨⟨⟨⟨⟨⟨⟨⟨trivial, .refl _⟩, .refl _⟩, .refl _⟩, .refl _⟩, .refl _⟩, .refl _⟩, .refl _⟩, .refl _⟩, .aggs ⟨⟨⟨⟨⟨trivial, .refl _⟩, .refl _⟩, .refl _⟩, .refl _⟩, h5⟩, trivial⟩
section
variable {W0 : World} {G : Nat → Option AV} (hX : (Xc W0 G).Good)
include hX
theorem c8o (x : Trp) (hs : Side (XOk x)) : Mut (Xc W0 G) 8 [trpA x] [] (trpO x) [sgO x.sg.length (fun i j => tbl (segC (sgx x i)) j)] := by
  have hs := hs.get
  have k1 := hs.ex
  have k2 := hs.sg
  refine mut_of' hX (show FnIs (Xc W0 G) 8 Try.f8 (codeOf Try.f8) from ⟨by kernel_rfl, by kernel_rfl, by kernel_rfl, by kernel_rfl⟩) rfl ?_
  repeat' (first
    | ((with_reducible refine (?_ : Alt _ _)); first | ((with_reducible apply callAlt (c19 hX x.ex ?_)); case hl => (first | exact AllLe.refl _ | ((repeat' (first | exact trivial | apply Le.aggs | apply Le.tups | apply Le.fns | exact Le.refl _ | refine ⟨?_, ?_⟩)); done))) | (with_reducible refine Alt.one ?_))
    | ((with_reducible refine (?_ : AllLe _ _)); first | (first | exact AllLe.refl _ | (repeat' (first | exact trivial | apply Le.aggs | apply Le.tups | apply Le.fns | exact Le.refl _ | refine ⟨?_, ?_⟩))))
    | ((with_reducible refine (?_ : Sc _ (AllRen _ _ _))); refine Sc.of ?_; first | (repeat' (first | exact trivial | apply Le.aggs | apply Le.tups | apply Le.fns | exact Le.refl _ | refine ⟨?_, ?_⟩)))
    | ((with_reducible refine (?_ : (List.all _ _) = true)); rfl)
    | ((with_reducible refine (?_ : (and _ _) = true)); rfl)
    | ((with_reducible refine (?_ : List.Nodup _)); exact nodupB_spec rfl)
    | ((with_reducible refine (?_ : @Eq Nat _ _)); rfl)
    | ((with_reducible refine (?_ : LeOks _ _ _)); first | exact trivial | exact ⟨.refl _, trivial⟩ | exact ⟨.refl _, .refl _, trivial⟩)
    | ((fail_if_success with_reducible refine Stop.go ?_); (first | with_reducible refine And.intro ?_ ?_ | with_reducible refine Cut.go ?_ | (with_reducible (refine impI ?_; intro _)) | (with_reducible refine (?_ : footOK _ _ = true); kernel_rfl) | ((with_reducible refine propI ?_); conv => whnf))))
  all_goals try (exact .of (Nat.le_of_ble_eq_true rfl))
  all_goals try (exact Side.mk (by omega))
  all_goals try (refine Sc.of ⟨?_, by omega⟩; show x.sg.length * 24 ≤ 140737488355328; omega)
  exact .mk [2] [] _ rfl (.aggs ⟨⟨⟨⟨⟨trivial, .le (.refl _)⟩, .le (.refl _)⟩, .le (.refl _)⟩, .le (.refl _)⟩, .le (.refl _)⟩) ⟨.le (.refl _), trivial⟩ rfl
theorem c8k (x : Trp) (n : Nat) (hn : x.sg.length = n) (hs : Side (XOk x)) (f : Nat → Nat → AV) (hf : Side (∀ a j, a < x.sg.length → j < 3 → f a j = tbl (segC (sgx x a)) j)) : Mut (Xc W0 G) 8 [trpO x] [sgO n f] (trpA x) [sgO n f] := by
  have hs := hs.get
  have k1 := hs.ex
  have k2 := hs.sg
  have hf := hf.get
  subst hn
  refine mut_of' hX (show FnIs (Xc W0 G) 8 Try.f8 (codeOf Try.f8) from ⟨by kernel_rfl, by kernel_rfl, by kernel_rfl, by kernel_rfl⟩) rfl ?_
  repeat' (first
    | ((with_reducible refine (?_ : Alt _ _)); first | ((with_reducible apply callAlt (c19 hX x.ex ?_)); case hl => (first | exact AllLe.refl _ | ((repeat' (first | exact trivial | apply Le.aggs | apply Le.tups | apply Le.fns | exact Le.refl _ | refine ⟨?_, ?_⟩)); done))) | (with_reducible refine Alt.one ?_))
    | ((with_reducible refine (?_ : AllLe _ _)); first | (first | exact AllLe.refl _ | (repeat' (first | exact trivial | apply Le.aggs | apply Le.tups | apply Le.fns | exact Le.refl _ | refine ⟨?_, ?_⟩))))
    | ((with_reducible refine (?_ : Sc _ (AllRen _ _ _))); refine Sc.of ?_; first | (repeat' (first | exact trivial | apply Le.aggs | apply Le.tups | apply Le.fns | exact Le.refl _ | refine ⟨?_, ?_⟩)))
    | ((with_reducible refine (?_ : (List.all _ _) = true)); rfl)
    | ((with_reducible refine (?_ : (and _ _) = true)); rfl)
    | ((with_reducible refine (?_ : List.Nodup _)); exact nodupB_spec rfl)
    | ((with_reducible refine (?_ : @Eq Nat _ _)); rfl)
    | ((with_reducible refine (?_ : LeOks _ _ _)); first | exact trivial | exact ⟨.refl _, trivial⟩ | exact ⟨.refl _, .refl _, trivial⟩)
    | ((fail_if_success with_reducible refine Stop.go ?_); (first | with_reducible refine And.intro ?_ ?_ | with_reducible refine Cut.go ?_ | (with_reducible (refine impI ?_; intro _)) | (with_reducible refine (?_ : footOK _ _ = true); kernel_rfl) | ((with_reducible refine propI ?_); conv => whnf))))
  all_goals try (exact .of (Nat.le_of_ble_eq_true rfl))
  all_goals try (exact Side.mk (by omega))
  all_goals try (refine Sc.of ⟨?_, by omega⟩; show x.sg.length * 24 ≤ 140737488355328; omega)
  exact .mk [] [3] _ rfl (.aggs ⟨⟨⟨⟨⟨trivial, .le (.refl _)⟩, .le (.refl _)⟩, .le (.refl _)⟩, .le (.refl _)⟩, .own rfl fun a j ha hj => .ofEq (hf a j ha hj)⟩) ⟨.le (.refl _), trivial⟩ rfl
theorem c12k (t : Trf) (x : Trp) (n : Nat) (hn : x.sg.length = n) (hs : Side (TOk t ∧ XOk x)) (hr : rideE t x = 0) (f : Nat → Nat → AV) (hf : Side (∀ a j, a < x.sg.length → j < 3 → f a j = tbl (segC (sgx x a)) j)) : Mut (Xc W0 G) 12 [trfA t, trpO x] [sgO n f] (.tup 2 (tbl [rngA t x x, .int .i64 (rngE t x x)])) [sgO n f] := by
  subst hn
  exact Mut.look (c12 hX t x hs hr) rfl rfl (trpO_le t hf.get)
theorem c16  : Pure (Xc W0 G) 16 [] (trfA cityT) := by
  refine mut_of' hX (show FnIs (Xc W0 G) 16 Try.f16 (codeOf Try.f16) from ⟨by kernel_rfl, by kernel_rfl, by kernel_rfl, by kernel_rfl⟩) rfl ?_
  repeat' (first
    | ((with_reducible refine (?_ : Alt _ _)); first | fail | (with_reducible refine Alt.one ?_))
    | ((with_reducible refine (?_ : AllLe _ _)); first | (first | exact AllLe.refl _ | (repeat' (first | exact trivial | apply Le.aggs | apply Le.tups | apply Le.fns | exact Le.refl _ | refine ⟨?_, ?_⟩))))
    | ((with_reducible refine (?_ : Sc _ (AllRen _ _ _))); refine Sc.of ?_; first | (repeat' (first | exact trivial | apply Le.aggs | apply Le.tups | apply Le.fns | exact Le.refl _ | refine ⟨?_, ?_⟩)))
    | ((with_reducible refine (?_ : (List.all _ _) = true)); rfl)
    | ((with_reducible refine (?_ : (and _ _) = true)); rfl)
    | ((with_reducible refine (?_ : List.Nodup _)); exact nodupB_spec rfl)
    | ((with_reducible refine (?_ : @Eq Nat _ _)); rfl)
    | ((with_reducible refine (?_ : LeOks _ _ _)); first | exact trivial | exact ⟨.refl _, trivial⟩ | exact ⟨.refl _, .refl _, trivial⟩)
    | ((fail_if_success with_reducible refine Stop.go ?_); (first | with_reducible refine And.intro ?_ ?_ | with_reducible refine Cut.go ?_ | (with_reducible (refine impI ?_; intro _)) | (with_reducible refine (?_ : footOK _ _ = true); kernel_rfl) | ((with_reducible refine propI ?_); conv => whnf))))
  all_goals try (exact .of (Nat.le_of_ble_eq_true rfl))
  all_goals exact .mk [] [] _ rfl (.le (leB_le (by kernel_rfl))) trivial rfl
theorem c17  : Pure (Xc W0 G) 17 [] (trpA rideX) := by
  refine mut_of' hX (show FnIs (Xc W0 G) 17 Try.f17 (codeOf Try.f17) from ⟨by kernel_rfl, by kernel_rfl, by kernel_rfl, by kernel_rfl⟩) rfl ?_
  repeat' (first
    | ((with_reducible refine (?_ : Alt _ _)); first | fail | (with_reducible refine Alt.one ?_))
    | ((with_reducible refine (?_ : AllLe _ _)); first | (first | exact AllLe.refl _ | (repeat' (first | exact trivial | apply Le.aggs | apply Le.tups | apply Le.fns | exact Le.refl _ | refine ⟨?_, ?_⟩))))
    | ((with_reducible refine (?_ : Sc _ (AllRen _ _ _))); refine Sc.of ?_; first | (repeat' (first | exact trivial | apply Le.aggs | apply Le.tups | apply Le.fns | exact Le.refl _ | refine ⟨?_, ?_⟩)))
    | ((with_reducible refine (?_ : (List.all _ _) = true)); rfl)
    | ((with_reducible refine (?_ : (and _ _) = true)); rfl)
    | ((with_reducible refine (?_ : List.Nodup _)); exact nodupB_spec rfl)
    | ((with_reducible refine (?_ : @Eq Nat _ _)); rfl)
    | ((with_reducible refine (?_ : LeOks _ _ _)); first | exact trivial | exact ⟨.refl _, trivial⟩ | exact ⟨.refl _, .refl _, trivial⟩)
    | ((fail_if_success with_reducible refine Stop.go ?_); (first | with_reducible refine And.intro ?_ ?_ | with_reducible refine Cut.go ?_ | (with_reducible (refine impI ?_; intro _)) | (with_reducible refine (?_ : footOK _ _ = true); kernel_rfl) | ((with_reducible refine propI ?_); conv => whnf))))
  all_goals try (exact .of (Nat.le_of_ble_eq_true rfl))
  all_goals exact .mk [] [] _ rfl (.le (leB_le (by kernel_rfl))) trivial rfl
theorem c5  : Pure (Xc W0 G) 5 [] (.bool true) := by
  refine mut_of' hX (show FnIs (Xc W0 G) 5 Try.f5 (codeOf Try.f5) from ⟨by kernel_rfl, by kernel_rfl, by kernel_rfl, by kernel_rfl⟩) rfl ?_
  repeat' (first
    | ((with_reducible refine (?_ : Alt _ _)); first | (with_reducible apply callAlt (c16 hX)) | (with_reducible apply callAlt (c17 hX)) | (with_reducible apply callAlt (c10 hX cityT rideX ?_ city_ride)) | (with_reducible refine Alt.one ?_))
    | ((with_reducible refine (?_ : AllLe _ _)); first | (first | exact AllLe.refl _ | (repeat' (first | exact trivial | apply Le.aggs | apply Le.tups | apply Le.fns | exact Le.refl _ | refine ⟨?_, ?_⟩))))
    | ((with_reducible refine (?_ : Sc _ (AllRen _ _ _))); refine Sc.of ?_; first | (repeat' (first | exact trivial | apply Le.aggs | apply Le.tups | apply Le.fns | exact Le.refl _ | refine ⟨?_, ?_⟩)))
    | ((with_reducible refine (?_ : (List.all _ _) = true)); rfl)
    | ((with_reducible refine (?_ : (and _ _) = true)); rfl)
    | ((with_reducible refine (?_ : List.Nodup _)); exact nodupB_spec rfl)
    | ((with_reducible refine (?_ : @Eq Nat _ _)); rfl)
    | ((with_reducible refine (?_ : LeOks _ _ _)); first | exact trivial | exact ⟨.refl _, trivial⟩ | exact ⟨.refl _, .refl _, trivial⟩)
    | ((fail_if_success with_reducible refine Stop.go ?_); (first | with_reducible refine And.intro ?_ ?_ | with_reducible refine Cut.go ?_ | (with_reducible (refine impI ?_; intro _)) | (with_reducible refine (?_ : footOK _ _ = true); kernel_rfl) | ((with_reducible refine propI ?_); conv => whnf))))
  all_goals try (exact .of (Nat.le_of_ble_eq_true rfl))
  all_goals try (exact Side.mk ⟨city_tok, ride_xok⟩)
  all_goals exact .mk [] [] _ rfl (.le (leB_le (by kernel_rfl))) trivial rfl
end
end Go.Fx
