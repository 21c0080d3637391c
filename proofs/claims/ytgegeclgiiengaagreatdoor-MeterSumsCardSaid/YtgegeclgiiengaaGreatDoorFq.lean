/-
  Logs: what is wrong with one, check sums, seals; the body of MeterSums.
-/
import Derived.Test.YtgegeclgiiengaaGreatDoorFm
import Derived.Test.YtgegeclgiiengaaGreatDoorFf

set_option linter.all false

/-
  Data of chapter 2: events, logs; what is looked for in a list.
-/
namespace Go.Fx
open Go.Proofs

theorem Le.slcN {es n m : Nat} {f g : Nat → Nat → AV} (e : n = m) (h : ∀ i j, i < n → j < es → Le (f i j) (g i j)) : Le (.slc es n f) (.slc es m g) := by subst e; exact .slc h
theorem Le.intI {k : IntKind} {x y : Int} (h : x = y) : Le (.int k x) (.int k y) := by rw [h]; exact .refl _

/-- The first result that is not 0, and its place. -/
def scanE {α : Type} (g : α → Int) : List α → Int
  | [] => 0
  | e :: r => bif decide (g e = 0) then scanE g r else g e
def scanN {α : Type} (g : α → Int) : List α → Int
  | [] => 0
  | e :: r => bif decide (g e = 0) then (bif decide (scanE g r = 0) then 0 else scanN g r + 1) else 0
theorem scan_hit {α : Type} {g : α → Int} {d : α} : ∀ {l : List α} {i : Nat}, i < l.length → (∀ j, j < i → g (l.getD j d) = 0) → g (l.getD i d) ≠ 0 → scanE g l = g (l.getD i d) ∧ scanN g l = i
  | x :: r, 0, _, _, h => by
    have h : g x ≠ 0 := h
    simp [scanE, scanN, h]
  | x :: r, i + 1, hi, h0, h => by
    have hx : g x = 0 := h0 0 (by omega)
    obtain ⟨a, b⟩ := scan_hit (g := g) (d := d) (l := r) (by simpa using hi) (fun j hj => h0 (j + 1) (by omega)) h
    have hr : g (r.getD i d) ≠ 0 := h
    have e : (x :: r).getD (i + 1) d = r.getD i d := rfl
    have hne : ¬ scanE g r = 0 := by rw [a]; exact hr
    simp only [scanE, scanN, hx, decide_true, cond_true, decide_eq_false hne, cond_false, e]
    exact ⟨a, by rw [b]; rfl⟩
theorem scan_none {α : Type} {g : α → Int} {d : α} : ∀ {l : List α}, (∀ j, j < l.length → g (l.getD j d) = 0) → scanE g l = 0 ∧ scanN g l = 0
  | [], _ => ⟨rfl, rfl⟩
  | x :: r, h => by
    have hx : g x = 0 := h 0 (by simp)
    obtain ⟨a, b⟩ := scan_none (g := g) (d := d) (l := r) fun j hj => h (j + 1) (by simpa using hj)
    simp [scanE, scanN, hx, a]
theorem scan_zero {α : Type} {g : α → Int} {d : α} : ∀ {l : List α}, scanE g l = 0 → (∀ j, j < l.length → g (l.getD j d) = 0)
  | [], _, j, hj => by simp at hj
  | x :: r, h, j, hj => by
    by_cases hx : g x = 0
    · cases j with
      | zero => exact hx
      | succ j => exact scan_zero (l := r) (by simpa [scanE, hx] using h) j (by simpa using hj)
    · exact absurd (by simpa [scanE, hx] using h) hx
theorem drop_at {α : Type} {l : List α} {i : Nat} {d : α} (h : i < l.length) : l.drop i = l.getD i d :: l.drop (i + 1) := by
  rw [List.drop_eq_getElem_cons h, List.getD_eq_getElem?_getD, List.getElem?_eq_getElem h]; rfl


theorem all_lt {p : Nat → Prop} {i : Nat} (h0 : ∀ j, j < i → p j) (h : p i) : ∀ j, j < i + 1 → p j := fun j hj => by
  rcases Nat.lt_succ_iff_lt_or_eq.1 hj with h1 | h1
  · exact h0 j h1
  · rw [h1]; exact h
structure Ev where
  k : Int
  n : Int
def ev0 : Ev := ⟨0, 0⟩
def evC (e : Ev) : List AV := [.int .i64 e.k, .int .i64 e.n]
def evA (e : Ev) : AV := .agg 2 (tbl (evC e))
def evS (l : List Ev) : AV := .slc 2 l.length (fun i j => tbl (evC (l.getD i ev0)) j)
structure Log where
  c : Int
  d : Int
  t : Int
  ev : List Ev
def logC (l : Log) (e : AV) : List AV := [.int .i64 l.c, .int .i64 l.d, .int .i64 l.t, e]
def lgA (l : Log) : AV := .agg 4 (tbl (logC l (evS l.ev)))
def log0 : Log := ⟨0, 0, 0, []⟩

/-- The error of an event; of a moment; of a log alone. -/
def evLo (k : Int) : Int := rangesL.getD (k.toNat * 2) 0
def evHi (k : Int) : Int := rangesL.getD (k.toNat * 2 + 1) 0
@[irreducible] def evE (e : Ev) : Int := bif inB e.k 0 6 then (bif inB e.n (evLo e.k) (evHi e.k) then 0 else 2) else 15
@[irreducible] def momE (d t : Int) : Int := bif inB d 0 100000 then (bif inB t 0 86399 then 0 else 2) else 2
@[irreducible] def headE (l : Log) : Int := firstS [bif inB l.c 1 100000 then 0 else 2, momE l.d l.t, bif decide ((l.ev.length : Int) ≤ 200) then 0 else 8]
@[irreducible] def aloneE (l : Log) : Int := bif decide (headE l = 0) then scanE evE l.ev else headE l
@[irreducible] def aloneN (l : Log) : Int := bif decide (headE l = 0) then scanN evE l.ev else 0

/-- Check sums. -/
def prime : Int := 998244353
def sumStep (o : Int) (n : Int) : Int := (o * 257 + n.tmod prime + 1).tmod prime
def sumL (o : Int) : List Ev → Int
  | [] => o
  | e :: r => sumL (sumStep (sumStep o e.k) e.n) r
theorem tmod_lt (n : Int) : -prime < n.tmod prime ∧ n.tmod prime < prime := by
  have h1 := Int.tmod_lt_of_pos n (show (0 : Int) < prime by decide)
  have h2 := Int.lt_tmod_of_pos n (show (0 : Int) < prime by decide)
  exact ⟨h2, h1⟩
end Go.Fx

/-
  Logs: what is wrong with one, check sums, seals.
-/
namespace Go.Fx
open Go.Proofs
theorem evE_k {e : Ev} {k lo hi : Int} {b : Bool} (hk : e.k = k) (hb : inB e.n lo hi = b) (h1 : inB k 0 6 = true) (h2 : evLo k = lo) (h3 : evHi k = hi) : evE e = bif b then 0 else 2 := by
  unfold evE
  rw [hk, h1, h2, h3, hb]; rfl
theorem evE_bad {e : Ev} (h : ¬ (0 ≤ e.k ∧ e.k ≤ 6)) : evE e = 15 := by
  have h1 : inB e.k 0 6 = false := by
    cases hb : inB e.k 0 6 with
    | true => exact absurd (inB_iff.1 hb) h
    | false => rfl
  unfold evE
  rw [h1]; rfl
theorem alone_ne {l : Log} {e : Int} (h : headE l = e) (h0 : e ≠ 0) : aloneE l = e ∧ aloneN l = 0 := by
  unfold aloneE aloneN
  rw [h, decide_eq_false h0]
  exact ⟨rfl, rfl⟩
theorem alone_eq {l : Log} (h : headE l = 0) : aloneE l = scanE evE l.ev ∧ aloneN l = scanN evE l.ev := by
  unfold aloneE aloneN
  rw [h]
  exact ⟨rfl, rfl⟩
theorem head_1 {l : Log} (h : (bif inB l.c 1 100000 then 0 else 2 : Int) ≠ 0) : headE l = bif inB l.c 1 100000 then 0 else 2 := by
  unfold headE; simp only [firstS, decide_eq_false h, cond_false]
theorem head_2 {l : Log} (h : (bif inB l.c 1 100000 then 0 else 2 : Int) = 0) (h2 : momE l.d l.t ≠ 0) : headE l = momE l.d l.t := by
  unfold headE; simp only [firstS, h, decide_true, cond_true, decide_eq_false h2, cond_false]
theorem head_3 {l : Log} (h : (bif inB l.c 1 100000 then 0 else 2 : Int) = 0) (h2 : momE l.d l.t = 0) (h3 : ¬ (l.ev.length : Int) ≤ 200) : headE l = 8 := by
  unfold headE; simp only [firstS, h, h2, decide_true, cond_true, decide_eq_false h3, cond_false]; rfl
theorem head_4 {l : Log} (h : (bif inB l.c 1 100000 then 0 else 2 : Int) = 0) (h2 : momE l.d l.t = 0) (h3 : (l.ev.length : Int) ≤ 200) : headE l = 0 := by
  unfold headE; simp only [firstS, h, h2, decide_true, cond_true, h3]
theorem head_0 {l : Log} (h : headE l = 0) : l.ev.length ≤ 200 := by
  unfold headE at h
  by_cases h1 : (bif inB l.c 1 100000 then 0 else 2 : Int) = 0
  · by_cases h2 : momE l.d l.t = 0
    · by_cases h3 : (l.ev.length : Int) ≤ 200
      · omega
      · simp [firstS, h1, h2, h3] at h
    · simp [firstS, h1, h2] at h
  · simp only [firstS, decide_eq_false h1, cond_false] at h
    exact absurd h h1
theorem le_two {a b x y : Int} (h : x = a) (h2 : y = b) : Le (tupAV [.int .i64 x, .int .i64 y]) (.tup 2 (tbl [.int .i64 a, .int .i64 b])) := by rw [h, h2]; exact .tups ⟨⟨trivial, .refl _⟩, .refl _⟩
theorem evE15 {e : Ev} (h : inB e.k 0 6 = false) : evE e = 15 := by unfold evE; rw [h]; rfl
theorem evE2 {e : Ev} {i j : Nat} {b : Bool} (hi : i = e.k.toNat * 2) (hj : j = e.k.toNat * 2 + 1) (h1 : inB e.k 0 6 = true) (h : inB e.n (rangesL.getD i 0) (rangesL.getD j 0) = b) : evE e = bif b then 0 else 2 := by
  subst hi hj
  unfold evE evLo evHi; rw [h1, h]; rfl
theorem head_fold {l : Log} : firstS [bif inB l.c 1 100000 then 0 else 2, bif (bif inB l.d 0 100000 then inB l.t 0 86399 else false) then 0 else 2, bif decide ((l.ev.length : Int) ≤ 200) then 0 else 8] = headE l := by
  unfold headE momE
  cases inB l.d 0 100000 <;> cases inB l.t 0 86399 <;> rfl
section
variable {W0 : World} {G : Nat → Option AV} (hX : (Xc W0 G).Good)
include hX
theorem c130 (d t : Int) : Pure (Xc W0 G) 130 [.agg 2 (tbl [.int .i64 d, .int .i64 t])] (.int .i64 (momE d t)) := by
  refine mut_of' hX (show FnIs (Xc W0 G) 130 Tryz.f130 (codeOf Tryz.f130) from ⟨by kernel_rfl, by kernel_rfl, by kernel_rfl, by kernel_rfl⟩) rfl ?_
  repeat' (first
    | ((with_reducible refine (?_ : Alt _ _)); first | (with_reducible apply callAlt (c13 hX _ _ _)) | (with_reducible refine Alt.one ?_))
    | ((with_reducible refine (?_ : AllLe _ _)); first | (first | exact AllLe.refl _ | (repeat' (first | exact trivial | apply Le.aggs | apply Le.tups | exact Le.refl _ | refine ⟨?_, ?_⟩))))
    | ((with_reducible refine (?_ : Sc _ (AllRen _ _ _))); refine Sc.of ?_; (repeat' (first | exact trivial | apply Le.aggs | apply Le.tups | exact Le.refl _ | refine ⟨?_, ?_⟩)))
    | ((with_reducible refine (?_ : (List.all _ _) = true)); rfl)
    | ((with_reducible refine (?_ : (and _ _) = true)); rfl)
    | ((with_reducible refine (?_ : List.Nodup _)); exact nodupB_spec rfl)
    | ((with_reducible refine (?_ : @Eq Nat _ _)); rfl)
    | ((with_reducible refine (?_ : LeOks _ _ _)); first | exact trivial | exact ⟨.refl _, trivial⟩ | exact ⟨.refl _, .refl _, trivial⟩)
    | ((fail_if_success with_reducible refine (?_ : False)); (fail_if_success with_reducible refine (?_ : Nat)); (fail_if_success with_reducible refine (?_ : Nat → Nat → AV)); (fail_if_success with_reducible refine (?_ : Sc _ _)); (fail_if_success with_reducible refine (?_ : Side _)); (fail_if_success with_reducible refine (?_ : Exists _)); (fail_if_success with_reducible refine (?_ : Ends _ _ _ _ _ _ _)); (fail_if_success with_reducible refine (?_ : Alt _ _)); (fail_if_success with_reducible refine (?_ : Le _ _)); (fail_if_success with_reducible refine (?_ : LeAll _ _ _)); (first | with_reducible refine And.intro ?_ ?_ | with_reducible refine Cut.go ?_ | (with_reducible (refine impI ?_; intro _)) | (with_reducible refine (?_ : footOK _ _ = true); kernel_rfl) | (conv => whnf))))
  all_goals (cases q1 : inB d 0 100000 <;> cases q2 : inB t 0 86399)
  all_goals try (exfalso; simp_all; done)
  all_goals try (exact .of (Nat.le_of_ble_eq_true rfl))
  all_goals (unfold momE; simp only [q1, q2]; exact .mk [] [] _ rfl (.le (.refl _)) trivial rfl)
theorem c131 (e : Ev) : Pure (Xc W0 G) 131 [evA e] (.int .i64 (evE e)) := by
  refine mut_of' hX (show FnIs (Xc W0 G) 131 Tryz.f131 (codeOf Tryz.f131) from ⟨by kernel_rfl, by kernel_rfl, by kernel_rfl, by kernel_rfl⟩) rfl ?_
  repeat' (first
    | ((with_reducible refine (?_ : Alt _ _)); first | (with_reducible apply callAlt (c13 hX _ _ _)) | (with_reducible refine Alt.one ?_))
    | ((with_reducible refine (?_ : AllLe _ _)); first | (first | exact AllLe.refl _ | (repeat' (first | exact trivial | apply Le.aggs | apply Le.tups | exact Le.refl _ | refine ⟨?_, ?_⟩))))
    | ((with_reducible refine (?_ : Sc _ (AllRen _ _ _))); refine Sc.of ?_; (repeat' (first | exact trivial | apply Le.aggs | apply Le.tups | exact Le.refl _ | refine ⟨?_, ?_⟩)))
    | ((with_reducible refine (?_ : (List.all _ _) = true)); rfl)
    | ((with_reducible refine (?_ : (and _ _) = true)); rfl)
    | ((with_reducible refine (?_ : List.Nodup _)); exact nodupB_spec rfl)
    | ((with_reducible refine (?_ : @Eq Nat _ _)); rfl)
    | ((with_reducible refine (?_ : LeOks _ _ _)); first | exact trivial | exact ⟨.refl _, trivial⟩ | exact ⟨.refl _, .refl _, trivial⟩)
    | ((fail_if_success with_reducible refine (?_ : False)); (fail_if_success with_reducible refine (?_ : Nat)); (fail_if_success with_reducible refine (?_ : Nat → Nat → AV)); (fail_if_success with_reducible refine (?_ : Sc _ _)); (fail_if_success with_reducible refine (?_ : Side _)); (fail_if_success with_reducible refine (?_ : Exists _)); (fail_if_success with_reducible refine (?_ : Ends _ _ _ _ _ _ _)); (fail_if_success with_reducible refine (?_ : Alt _ _)); (fail_if_success with_reducible refine (?_ : Le _ _)); (fail_if_success with_reducible refine (?_ : LeAll _ _ _)); (first | with_reducible refine And.intro ?_ ?_ | with_reducible refine Cut.go ?_ | (with_reducible (refine impI ?_; intro _)) | (with_reducible refine (?_ : footOK _ _ = true); kernel_rfl) | (conv => whnf))))
  all_goals try (exact .of (Nat.le_of_ble_eq_true rfl))
  all_goals try (exfalso; simp_all; done)
  all_goals (refine .mk [] [] _ rfl (.le (.intI ?_)) trivial rfl)
  all_goals (simp only [beq_iff_eq, beq_eq_false_iff_ne, Bool.not_eq_true', Bool.not_eq_false'] at *)
  all_goals first
    | (rename_i hk hb; exact (evE_k hk hb rfl rfl rfl).symm)
    | (rw [evE_bad (by omega)])

theorem c91 (l : Log) : Pure (Xc W0 G) 91 [lgA l] (.tup 2 (tbl [.int .i64 (aloneN l), .int .i64 (aloneE l)])) := by
  refine mut_of' hX (show FnIs (Xc W0 G) 91 Tryz.f91 (codeOf Tryz.f91) from ⟨by kernel_rfl, by kernel_rfl, by kernel_rfl, by kernel_rfl⟩) rfl ?_
  repeat' (first
    | ((with_reducible refine (?_ : Alt _ _)); first | (with_reducible apply callAlt (c38 hX _)) | (with_reducible apply callAlt (c130 hX _ _)) | (with_reducible apply callAlt (c131 hX _)) | (with_reducible refine Alt.one ?_))
    | ((with_reducible refine (?_ : AllLe _ _)); first | (first | exact AllLe.refl _ | (repeat' (first | exact trivial | apply Le.aggs | apply Le.tups | exact Le.refl _ | refine ⟨?_, ?_⟩))))
    | ((with_reducible refine (?_ : Sc _ (AllRen _ _ _))); refine Sc.of ?_; (repeat' (first | exact trivial | apply Le.aggs | apply Le.tups | exact Le.refl _ | refine ⟨?_, ?_⟩)))
    | ((with_reducible refine (?_ : (List.all _ _) = true)); rfl)
    | ((with_reducible refine (?_ : (and _ _) = true)); rfl)
    | ((with_reducible refine (?_ : List.Nodup _)); exact nodupB_spec rfl)
    | ((with_reducible refine (?_ : @Eq Nat _ _)); rfl)
    | ((with_reducible refine (?_ : LeOks _ _ _)); first | exact trivial | exact ⟨.refl _, trivial⟩ | exact ⟨.refl _, .refl _, trivial⟩)
    | ((fail_if_success with_reducible refine (?_ : False)); (fail_if_success with_reducible refine (?_ : Nat)); (fail_if_success with_reducible refine (?_ : Nat → Nat → AV)); (fail_if_success with_reducible refine (?_ : Sc _ _)); (fail_if_success with_reducible refine (?_ : Side _)); (fail_if_success with_reducible refine (?_ : Exists _)); (fail_if_success with_reducible refine (?_ : Ends _ _ _ _ _ _ _)); (fail_if_success with_reducible refine (?_ : Alt _ _)); (fail_if_success with_reducible refine (?_ : Le _ _)); (fail_if_success with_reducible refine (?_ : LeAll _ _ _)); (first | with_reducible refine And.intro ?_ ?_ | with_reducible refine Cut.go ?_ | (with_reducible (refine impI ?_; intro _)) | (with_reducible refine (?_ : footOK _ _ = true); kernel_rfl) | (conv => whnf))))
  all_goals try (exact .of (Nat.le_of_ble_eq_true rfl))
  all_goals (simp only [decide_eq_true_eq, decide_eq_false_iff_not, beq_iff_eq, bne_iff_ne, beq_eq_false_iff_ne, bne_eq_false_iff_eq, ne_eq, Int.not_lt, Int.not_le, Nat.not_lt, Nat.not_le, Decidable.not_not, Int.toNat_natCast] at *)
  · rename_i h; have e := alone_ne (head_1 h) h; exact .mk [] [] _ rfl (.le (.tups ⟨⟨trivial, .intI e.2.symm⟩, .intI e.1.symm⟩)) trivial rfl
  · rename_i h1 h; have e := alone_ne (head_2 h1 h) h; exact .mk [] [] _ rfl (.le (.tups ⟨⟨trivial, .intI e.2.symm⟩, .intI e.1.symm⟩)) trivial rfl
  · rename_i h1 h2 h; have e := alone_ne (head_3 h1 h2 (by omega)) (by decide); exact .mk [] [] _ rfl (.le (.tups ⟨⟨trivial, .intI e.2.symm⟩, .intI e.1.symm⟩)) trivial rfl
  · rename_i h1 h2 h; obtain ⟨e1, e2⟩ := alone_eq (head_4 h1 h2 (by omega))
    refine ⟨Nat, fun i => ([(1, .ptr 0 0), (6, .int .i64 i)], [.box (logC l (evS l.ev))]), fun i => i ≤ List.length l.ev ∧ ∀ j, j < i → evE (l.ev.getD j ev0) = 0, fun i => List.length l.ev - i, ⟨0, ⟨Nat.zero_le _, fun _ h => by omega⟩, .le ⟨rfl, ⟨.refl _, trivial⟩, ⟨.refl _, .refl _, trivial⟩⟩⟩, fun i ⟨hi, h0⟩ => ?_⟩
    repeat' (first
      | ((with_reducible refine (?_ : Alt _ _)); first | (with_reducible apply callAlt (c131 hX _)) | (with_reducible refine Alt.one ?_))
      | ((with_reducible refine (?_ : AllLe _ _)); first | (first | exact AllLe.refl _ | (repeat' (first | exact trivial | apply Le.aggs | apply Le.tups | exact Le.refl _ | refine ⟨?_, ?_⟩))))
      | ((with_reducible refine (?_ : Sc _ (AllRen _ _ _))); refine Sc.of ?_; (repeat' (first | exact trivial | apply Le.aggs | apply Le.tups | exact Le.refl _ | refine ⟨?_, ?_⟩)))
      | ((with_reducible refine (?_ : (List.all _ _) = true)); rfl)
      | ((with_reducible refine (?_ : (and _ _) = true)); rfl)
      | ((with_reducible refine (?_ : List.Nodup _)); exact nodupB_spec rfl)
      | ((with_reducible refine (?_ : @Eq Nat _ _)); rfl)
      | ((with_reducible refine (?_ : LeOks _ _ _)); first | exact trivial | exact ⟨.refl _, trivial⟩ | exact ⟨.refl _, .refl _, trivial⟩)
      | ((fail_if_success with_reducible refine (?_ : False)); (fail_if_success with_reducible refine (?_ : Nat)); (fail_if_success with_reducible refine (?_ : Nat → Nat → AV)); (fail_if_success with_reducible refine (?_ : Sc _ _)); (fail_if_success with_reducible refine (?_ : Side _)); (fail_if_success with_reducible refine (?_ : Exists _)); (fail_if_success with_reducible refine (?_ : Ends _ _ _ _ _ _ _)); (fail_if_success with_reducible refine (?_ : Alt _ _)); (fail_if_success with_reducible refine (?_ : Le _ _)); (fail_if_success with_reducible refine (?_ : LeAll _ _ _)); (first | with_reducible refine And.intro ?_ ?_ | with_reducible refine Cut.go ?_ | (with_reducible (refine impI ?_; intro _)) | (with_reducible refine (?_ : footOK _ _ = true); kernel_rfl) | (conv => whnf))))
    all_goals try ((with_reducible refine (?_ : Sc _ _)); first
      | exact .of (Nat.le_of_ble_eq_true rfl)
      | exact .of (by decide)
      | ((with_reducible refine Sc.of ?_); (try simp only [decide_eq_true_eq, decide_eq_false_iff_not, beq_iff_eq, bne_iff_ne, beq_eq_false_iff_ne, bne_eq_false_iff_eq, ne_eq, Int.not_lt, Int.not_le, Nat.not_lt, Nat.not_le, Decidable.not_not, Int.toNat_natCast] at *); first | omega | exact ⟨by omega, by omega⟩))
    all_goals first
      | (rename_i ha hb; simp only [decide_eq_true_eq, decide_eq_false_iff_not, beq_iff_eq, bne_iff_ne, beq_eq_false_iff_ne, bne_eq_false_iff_eq, ne_eq, Int.not_lt, Int.not_le, Nat.not_lt, Nat.not_le, Decidable.not_not, Int.toNat_natCast] at ha hb; have w := scan_hit (g := evE) (d := ev0) (l := l.ev) (by omega) h0 hb; obtain ⟨w1, w2⟩ := w; exact .mk [] [] _ rfl (.le (.tups ⟨⟨trivial, .intI (by rw [e2, w2])⟩, .intI (by simp only [Int.toNat_natCast]; rw [e1, w1])⟩)) trivial rfl)
      | (rename_i ha hb; simp only [decide_eq_true_eq, decide_eq_false_iff_not, beq_iff_eq, bne_iff_ne, beq_eq_false_iff_ne, bne_eq_false_iff_eq, ne_eq, Int.not_lt, Int.not_le, Nat.not_lt, Nat.not_le, Decidable.not_not, Int.toNat_natCast] at ha hb; exact ⟨i + 1, ⟨by omega, all_lt h0 hb⟩, by show List.length l.ev - (i + 1) < List.length l.ev - i; omega, .le ⟨rfl, ⟨.refl _, trivial⟩, ⟨.refl _, .refl _, trivial⟩⟩⟩)
      | (rename_i ha; simp only [decide_eq_true_eq, decide_eq_false_iff_not, beq_iff_eq, bne_iff_ne, beq_eq_false_iff_ne, bne_eq_false_iff_eq, ne_eq, Int.not_lt, Int.not_le, Nat.not_lt, Nat.not_le, Decidable.not_not, Int.toNat_natCast] at ha; have w := scan_none (g := evE) (d := ev0) (l := l.ev) (fun j hj => h0 j (by omega)); obtain ⟨w1, w2⟩ := w; exact .mk [] [] _ rfl (.le (.tups ⟨⟨trivial, .intI (by rw [e2, w2])⟩, .intI (by rw [e1, w1])⟩)) trivial rfl)
theorem c59 (l : Log) : Pure (Xc W0 G) 59 [lgA l] (.int .i64 (aloneE l)) := by
  refine mut_of' hX (show FnIs (Xc W0 G) 59 Tryz.f59 (codeOf Tryz.f59) from ⟨by kernel_rfl, by kernel_rfl, by kernel_rfl, by kernel_rfl⟩) rfl ?_
  repeat' (first
    | ((with_reducible refine (?_ : Alt _ _)); first | (with_reducible apply callAlt (c91 hX _)) | (with_reducible refine Alt.one ?_))
    | ((with_reducible refine (?_ : AllLe _ _)); first | (first | exact AllLe.refl _ | (repeat' (first | exact trivial | apply Le.aggs | apply Le.tups | exact Le.refl _ | refine ⟨?_, ?_⟩))))
    | ((with_reducible refine (?_ : Sc _ (AllRen _ _ _))); refine Sc.of ?_; (repeat' (first | exact trivial | apply Le.aggs | apply Le.tups | exact Le.refl _ | refine ⟨?_, ?_⟩)))
    | ((with_reducible refine (?_ : (List.all _ _) = true)); rfl)
    | ((with_reducible refine (?_ : (and _ _) = true)); rfl)
    | ((with_reducible refine (?_ : List.Nodup _)); exact nodupB_spec rfl)
    | ((with_reducible refine (?_ : @Eq Nat _ _)); rfl)
    | ((with_reducible refine (?_ : LeOks _ _ _)); first | exact trivial | exact ⟨.refl _, trivial⟩ | exact ⟨.refl _, .refl _, trivial⟩)
    | ((fail_if_success with_reducible refine (?_ : False)); (fail_if_success with_reducible refine (?_ : Nat)); (fail_if_success with_reducible refine (?_ : Nat → Nat → AV)); (fail_if_success with_reducible refine (?_ : Sc _ _)); (fail_if_success with_reducible refine (?_ : Side _)); (fail_if_success with_reducible refine (?_ : Exists _)); (fail_if_success with_reducible refine (?_ : Ends _ _ _ _ _ _ _)); (fail_if_success with_reducible refine (?_ : Alt _ _)); (fail_if_success with_reducible refine (?_ : Le _ _)); (fail_if_success with_reducible refine (?_ : LeAll _ _ _)); (first | with_reducible refine And.intro ?_ ?_ | with_reducible refine Cut.go ?_ | (with_reducible (refine impI ?_; intro _)) | (with_reducible refine (?_ : footOK _ _ = true); kernel_rfl) | (conv => whnf))))
  all_goals try (exact .of (Nat.le_of_ble_eq_true rfl))
  all_goals exact .mk [] [] _ rfl (.le (.refl _)) trivial rfl
end
section
variable {W0 : World} (hX : (Xc W0 Gt).Good)
include hX
theorem c55 (l : Log) : Pure (Xc W0 Gt) 55 [lgA l] (.tup 2 (tbl [.int .i64 (aloneN l), .int .i64 (aloneE l)])) := by
  refine mut_of' hX (show FnIs (Xc W0 Gt) 55 Tryz.f55 (codeOf Tryz.f55) from ⟨by kernel_rfl, by kernel_rfl, by kernel_rfl, by kernel_rfl⟩) rfl ?_
  repeat' (first
    | ((with_reducible refine (?_ : Alt _ _)); first | (with_reducible apply callAlt (c49 hX _ _ _)) | (with_reducible apply callAlt (c67 hX _)) | (with_reducible apply callAlt (c48 hX _ _)) | (with_reducible apply callAlt (c47t hX _ _ _)) | (with_reducible refine Alt.one ?_))
    | ((with_reducible refine (?_ : AllLe _ _)); first | exact ⟨le_slc2 rfl rfl, trivial⟩ | exact ⟨le_slc3 rfl rfl rfl, trivial⟩ | (first | exact AllLe.refl _ | (repeat' (first | exact trivial | apply Le.aggs | apply Le.tups | exact Le.refl _ | refine ⟨?_, ?_⟩))))
    | ((with_reducible refine (?_ : Sc _ (AllRen _ _ _))); refine Sc.of ?_; (repeat' (first | exact trivial | apply Le.aggs | apply Le.tups | exact Le.refl _ | refine ⟨?_, ?_⟩)))
    | ((with_reducible refine (?_ : (List.all _ _) = true)); rfl)
    | ((with_reducible refine (?_ : (and _ _) = true)); rfl)
    | ((with_reducible refine (?_ : List.Nodup _)); exact nodupB_spec rfl)
    | ((with_reducible refine (?_ : @Eq Nat _ _)); rfl)
    | ((with_reducible refine (?_ : LeOks _ _ _)); first | exact trivial | exact ⟨.refl _, trivial⟩ | exact ⟨.refl _, .refl _, trivial⟩)
    | ((fail_if_success with_reducible refine (?_ : False)); (fail_if_success with_reducible refine (?_ : Nat)); (fail_if_success with_reducible refine (?_ : Nat → Nat → AV)); (fail_if_success with_reducible refine (?_ : Sc _ _)); (fail_if_success with_reducible refine (?_ : Side _)); (fail_if_success with_reducible refine (?_ : Exists _)); (fail_if_success with_reducible refine (?_ : Ends _ _ _ _ _ _ _)); (fail_if_success with_reducible refine (?_ : Alt _ _)); (fail_if_success with_reducible refine (?_ : Le _ _)); (fail_if_success with_reducible refine (?_ : LeAll _ _ _)); (first | with_reducible refine And.intro ?_ ?_ | with_reducible refine Cut.go ?_ | (with_reducible (refine impI ?_; intro _)) | (with_reducible refine (?_ : footOK _ _ = true); kernel_rfl) | (conv => whnf))))
  all_goals try (exact .of (Nat.le_of_ble_eq_true rfl))
  all_goals (rename_i h; simp only [decide_eq_true_eq, decide_eq_false_iff_not, beq_iff_eq, bne_iff_ne, beq_eq_false_iff_ne, bne_eq_false_iff_eq, ne_eq, Int.not_lt, Int.not_le, Nat.not_lt, Nat.not_le, Decidable.not_not, Int.toNat_natCast] at h; rw [head_fold] at h)
  · have e := alone_ne rfl h; rw [head_fold]; exact .mk [] [] _ rfl (.le (.tups ⟨⟨trivial, .intI e.2.symm⟩, .intI e.1.symm⟩)) trivial rfl
  · obtain ⟨e1, e2⟩ := alone_eq h
    have hb := head_0 h
    refine ⟨Nat, fun i => ([(34, evS l.ev), (35, .int .i64 l.ev.length), (36, .int .i64 i)], []), fun i => i ≤ List.length l.ev ∧ ∀ j, j < i → evE (l.ev.getD j ev0) = 0, fun i => List.length l.ev - i, ⟨0, ⟨Nat.zero_le _, fun _ h => by omega⟩, .le ⟨rfl, trivial, ⟨.refl _, .refl _, .refl _, trivial⟩⟩⟩, fun i ⟨hi, h0⟩ => ?_⟩
    repeat' (first
      | ((with_reducible refine (?_ : Alt _ _)); first | (with_reducible apply callAlt (c49 hX _ _ _)) | (with_reducible refine Alt.one ?_))
      | ((with_reducible refine (?_ : AllLe _ _)); first | (first | exact AllLe.refl _ | (repeat' (first | exact trivial | apply Le.aggs | apply Le.tups | exact Le.refl _ | refine ⟨?_, ?_⟩))))
      | ((with_reducible refine (?_ : Sc _ (AllRen _ _ _))); refine Sc.of ?_; (repeat' (first | exact trivial | apply Le.aggs | apply Le.tups | exact Le.refl _ | refine ⟨?_, ?_⟩)))
      | ((with_reducible refine (?_ : (List.all _ _) = true)); rfl)
      | ((with_reducible refine (?_ : (and _ _) = true)); rfl)
      | ((with_reducible refine (?_ : List.Nodup _)); exact nodupB_spec rfl)
      | ((with_reducible refine (?_ : @Eq Nat _ _)); rfl)
      | ((with_reducible refine (?_ : LeOks _ _ _)); first | exact trivial | exact ⟨.refl _, trivial⟩ | exact ⟨.refl _, .refl _, trivial⟩)
      | ((fail_if_success with_reducible refine (?_ : False)); (fail_if_success with_reducible refine (?_ : Nat)); (fail_if_success with_reducible refine (?_ : Nat → Nat → AV)); (fail_if_success with_reducible refine (?_ : Sc _ _)); (fail_if_success with_reducible refine (?_ : Side _)); (fail_if_success with_reducible refine (?_ : Exists _)); (fail_if_success with_reducible refine (?_ : Ends _ _ _ _ _ _ _)); (fail_if_success with_reducible refine (?_ : Alt _ _)); (fail_if_success with_reducible refine (?_ : Le _ _)); (fail_if_success with_reducible refine (?_ : LeAll _ _ _)); (first | with_reducible refine And.intro ?_ ?_ | with_reducible refine Cut.go ?_ | (with_reducible (refine impI ?_; intro _)) | (with_reducible refine (?_ : footOK _ _ = true); kernel_rfl) | (conv => whnf))))
    all_goals try (exact .of (Nat.le_of_ble_eq_true rfl))
    all_goals try (exact .of (by decide))
    all_goals (rename_i h; simp only [Int.toNat_natCast, Bool.not_eq_true', Bool.not_eq_false', decide_eq_true_eq, decide_eq_false_iff_not, beq_iff_eq, bne_iff_ne, beq_eq_false_iff_ne, bne_eq_false_iff_eq, ne_eq, Int.not_lt, Int.not_le, Nat.not_lt, Nat.not_le, Decidable.not_not, Int.toNat_natCast] at h)
    all_goals first
      | (refine Sc.of ?_; exact ⟨by omega, by omega⟩)
      | (refine Sc.of ?_; simp only [Int.toNat_natCast]; have hk := inB_iff.1 h; exact ⟨hk.1, by have := hk.2; omega⟩)
      | (have w := scan_none (g := evE) (d := ev0) (l := l.ev) (fun j hj => h0 j (by omega)); obtain ⟨w1, w2⟩ := w; exact .mk [] [] _ rfl (.le (.tups ⟨⟨trivial, .intI (by rw [e2, w2])⟩, .intI (by rw [e1, w1])⟩)) trivial rfl)
      | (rename_i ha; simp only [decide_eq_true_eq, decide_eq_false_iff_not, beq_iff_eq, bne_iff_ne, beq_eq_false_iff_ne, bne_eq_false_iff_eq, ne_eq, Int.not_lt, Int.not_le, Nat.not_lt, Nat.not_le, Decidable.not_not, Int.toNat_natCast] at ha; have w := scan_hit (g := evE) (d := ev0) (l := l.ev) (by omega) h0 (by rw [evE15 h]; decide); obtain ⟨w1, w2⟩ := w; exact .mk [] [] _ rfl (.le (.tups ⟨⟨trivial, .intI (by rw [e2, w2])⟩, .intI (by rw [e1, w1, evE15 h])⟩)) trivial rfl)
      | (rename_i hb ha; simp only [Int.toNat_natCast, Bool.not_eq_true', Bool.not_eq_false', decide_eq_true_eq, decide_eq_false_iff_not, beq_iff_eq, bne_iff_ne, beq_eq_false_iff_ne, bne_eq_false_iff_eq, ne_eq, Int.not_lt, Int.not_le, Nat.not_lt, Nat.not_le, Decidable.not_not, Int.toNat_natCast] at ha hb
         have hh := evE2 (by simp) (by simp) ha h
         first
           | (exact ⟨i + 1, ⟨by omega, all_lt h0 hh⟩, by show List.length l.ev - (i + 1) < List.length l.ev - i; omega, .le ⟨rfl, trivial, ⟨.refl _, .refl _, .refl _, trivial⟩⟩⟩)
           | (have w := scan_hit (g := evE) (d := ev0) (l := l.ev) (by omega) h0 (by rw [hh]; decide); obtain ⟨w1, w2⟩ := w; exact .mk [] [] _ rfl (.le (.tups ⟨⟨trivial, .intI (by rw [e2, w2])⟩, .intI (by rw [e1, w1, hh]; rfl)⟩)) trivial rfl))
end
end Go.Fx

/-
  Logs: check sums, seals.
-/
namespace Go.Fx
open Go.Proofs
theorem sum_take {l : List Ev} {i : Nat} {o : Int} (h : i < l.length) : sumL o (l.drop i) = sumL (sumStep (sumStep o (l.getD i ev0).k) (l.getD i ev0).n) (l.drop (i + 1)) := by rw [drop_at (d := ev0) h]; rfl
theorem step_lt (o n : Int) : -998244353 < sumStep o n ∧ sumStep o n < 998244353 := tmod_lt _
def sum2 (o : Int) (e : Ev) : Nat → Int
  | 0 => o
  | 1 => sumStep o e.k
  | _ => sumStep (sumStep o e.k) e.n
theorem take_at {α : Type} {l : List α} {n i : Nat} {d : α} (h : i < n) : (l.take n).getD i d = l.getD i d := by
  rw [List.getD_eq_getElem?_getD, List.getD_eq_getElem?_getD, List.getElem?_take_of_lt h]
theorem step_k {o k : Int} (h0 : 0 ≤ k) (h1 : k ≤ 6) : (257 * o + k + 1).tmod 998244353 = sumStep o k := by
  unfold sumStep prime
  rw [Int.tmod_eq_of_lt h0 (by omega), Int.mul_comm]
theorem step_n {o n : Int} : (257 * o + n.tmod 998244353 + 1).tmod 998244353 = sumStep o n := by
  unfold sumStep prime
  rw [Int.mul_comm]
theorem le_take {l : List Ev} {n : Int} {f : Nat → Nat → AV} {m : Nat} (hm : m = n.toNat) (h1 : n ≤ l.length) (hf : ∀ i j, f i j = tbl (evC (l.getD i ev0)) j) : Le (.slc 2 m f) (evS (l.take n.toNat)) := by
  subst hm
  have : (l.take n.toNat).length = n.toNat := by rw [List.length_take]; omega
  refine .slcN this.symm fun i j hi hj => ?_
  rw [hf, take_at hi]
  exact .refl _
def Kinds (l : List Ev) : Prop := ∀ j, j < l.length → 0 ≤ (l.getD j ev0).k ∧ (l.getD j ev0).k ≤ 6
theorem kinds_of {l : List Ev} (h : scanE evE l = 0) : Kinds l := fun j hj => by
  have h := scan_zero (d := ev0) h j hj
  cases hb : inB (l.getD j ev0).k 0 6 with
  | true => exact inB_iff.1 hb
  | false => rw [evE15 hb] at h; cases h
section
variable {W0 : World} (hX : (Xc W0 Gt).Good)
include hX
theorem c56 (l : List Ev) (hn : Side (l.length ≤ 1000000)) : Pure (Xc W0 Gt) 56 [evS l] (.int .i64 (sumL 1 l)) := by
  have hn := hn.get
  refine mut_of' hX (show FnIs (Xc W0 Gt) 56 Tryz.f56 (codeOf Tryz.f56) from ⟨by kernel_rfl, by kernel_rfl, by kernel_rfl, by kernel_rfl⟩) rfl ?_
  repeat' (first
    | ((with_reducible refine (?_ : Alt _ _)); first | fail | (with_reducible refine Alt.one ?_))
    | ((with_reducible refine (?_ : AllLe _ _)); first | (first | exact AllLe.refl _ | (repeat' (first | exact trivial | apply Le.aggs | apply Le.tups | exact Le.refl _ | refine ⟨?_, ?_⟩))))
    | ((with_reducible refine (?_ : Sc _ (AllRen _ _ _))); refine Sc.of ?_; (repeat' (first | exact trivial | apply Le.aggs | apply Le.tups | exact Le.refl _ | refine ⟨?_, ?_⟩)))
    | ((with_reducible refine (?_ : (List.all _ _) = true)); rfl)
    | ((with_reducible refine (?_ : (and _ _) = true)); rfl)
    | ((with_reducible refine (?_ : List.Nodup _)); exact nodupB_spec rfl)
    | ((with_reducible refine (?_ : @Eq Nat _ _)); rfl)
    | ((with_reducible refine (?_ : LeOks _ _ _)); first | exact trivial | exact ⟨.refl _, trivial⟩ | exact ⟨.refl _, .refl _, trivial⟩)
    | ((fail_if_success with_reducible refine (?_ : False)); (fail_if_success with_reducible refine (?_ : Nat)); (fail_if_success with_reducible refine (?_ : Nat → Nat → AV)); (fail_if_success with_reducible refine (?_ : Sc _ _)); (fail_if_success with_reducible refine (?_ : Side _)); (fail_if_success with_reducible refine (?_ : Exists _)); (fail_if_success with_reducible refine (?_ : Ends _ _ _ _ _ _ _)); (fail_if_success with_reducible refine (?_ : Alt _ _)); (fail_if_success with_reducible refine (?_ : Le _ _)); (fail_if_success with_reducible refine (?_ : LeAll _ _ _)); (first | with_reducible refine And.intro ?_ ?_ | with_reducible refine Cut.go ?_ | (with_reducible (refine impI ?_; intro _)) | (with_reducible refine (?_ : footOK _ _ = true); kernel_rfl) | (conv => whnf))))
  refine ⟨Nat × Int, fun y => ([(3, .int .i64 y.2), (8, evS l), (9, .int .i64 l.length), (10, .int .i64 y.1)], []), fun y => y.1 ≤ l.length ∧ -998244353 < y.2 ∧ y.2 < 998244353 ∧ sumL y.2 (l.drop y.1) = sumL 1 l, fun y => l.length - y.1, ⟨(0, 1), ⟨Nat.zero_le _, by decide, by decide, rfl⟩, .le ⟨rfl, trivial, ⟨.refl _, .refl _, .refl _, .refl _, trivial⟩⟩⟩, fun ⟨i, o⟩ ⟨hi, h1, h2, h3⟩ => ?_⟩
  simp only at hi h1 h2 h3
  repeat' (first
    | ((with_reducible refine (?_ : Alt _ _)); first | fail | (with_reducible refine Alt.one ?_))
    | ((with_reducible refine (?_ : AllLe _ _)); first | (first | exact AllLe.refl _ | (repeat' (first | exact trivial | apply Le.aggs | apply Le.tups | exact Le.refl _ | refine ⟨?_, ?_⟩))))
    | ((with_reducible refine (?_ : Sc _ (AllRen _ _ _))); refine Sc.of ?_; (repeat' (first | exact trivial | apply Le.aggs | apply Le.tups | exact Le.refl _ | refine ⟨?_, ?_⟩)))
    | ((with_reducible refine (?_ : (List.all _ _) = true)); rfl)
    | ((with_reducible refine (?_ : (and _ _) = true)); rfl)
    | ((with_reducible refine (?_ : List.Nodup _)); exact nodupB_spec rfl)
    | ((with_reducible refine (?_ : @Eq Nat _ _)); rfl)
    | ((with_reducible refine (?_ : LeOks _ _ _)); first | exact trivial | exact ⟨.refl _, trivial⟩ | exact ⟨.refl _, .refl _, trivial⟩)
    | ((fail_if_success with_reducible refine (?_ : False)); (fail_if_success with_reducible refine (?_ : Nat)); (fail_if_success with_reducible refine (?_ : Nat → Nat → AV)); (fail_if_success with_reducible refine (?_ : Sc _ _)); (fail_if_success with_reducible refine (?_ : Side _)); (fail_if_success with_reducible refine (?_ : Exists _)); (fail_if_success with_reducible refine (?_ : Ends _ _ _ _ _ _ _)); (fail_if_success with_reducible refine (?_ : Alt _ _)); (fail_if_success with_reducible refine (?_ : Le _ _)); (fail_if_success with_reducible refine (?_ : LeAll _ _ _)); (first | with_reducible refine And.intro ?_ ?_ | with_reducible refine Cut.go ?_ | (with_reducible (refine impI ?_; intro _)) | (with_reducible refine (?_ : footOK _ _ = true); kernel_rfl) | (conv => whnf))))
  all_goals try (exact .of (Nat.le_of_ble_eq_true rfl))
  · rename_i h; have h := of_decide_eq_true h; exact .of ⟨by omega, by omega⟩
  · rename_i h
    have h := of_decide_eq_true h
    have hi : i < l.length := by simpa using h
    clear h
    have b1 := step_lt o (l.getD i ev0).k
    have b2 := step_lt (sumStep o (l.getD i ev0).k) (l.getD i ev0).n
    have t1 := tmod_lt (l.getD i ev0).k
    have t2 := tmod_lt (l.getD i ev0).n
    have hp : prime = 998244353 := rfl
    rw [hp] at t1 t2
    refine ⟨Nat, fun j => ([(3, .int .i64 (sum2 o (l.getD i ev0) j)), (8, evS l), (9, .int .i64 l.length), (10, .int .i64 i), (18, .agg 2 (tbl [.int .i64 (l.getD i ev0).k, .int .i64 (l.getD i ev0).n])), (19, .int .i64 j)], []), fun j => j ≤ 2, fun j => 2 - j, ⟨0, by decide, .le ⟨rfl, trivial, ⟨.refl _, .refl _, .refl _, .refl _, .refl _, .refl _, trivial⟩⟩⟩, fun j hj => ?_⟩
    rcases (show j = 0 ∨ j = 1 ∨ j = 2 by omega) with rfl | rfl | rfl
    repeat' (first
      | ((with_reducible refine (?_ : Alt _ _)); first | fail | (with_reducible refine Alt.one ?_))
      | ((with_reducible refine (?_ : AllLe _ _)); first | (first | exact AllLe.refl _ | (repeat' (first | exact trivial | apply Le.aggs | apply Le.tups | exact Le.refl _ | refine ⟨?_, ?_⟩))))
      | ((with_reducible refine (?_ : Sc _ (AllRen _ _ _))); refine Sc.of ?_; (repeat' (first | exact trivial | apply Le.aggs | apply Le.tups | exact Le.refl _ | refine ⟨?_, ?_⟩)))
      | ((with_reducible refine (?_ : (List.all _ _) = true)); rfl)
      | ((with_reducible refine (?_ : (and _ _) = true)); rfl)
      | ((with_reducible refine (?_ : List.Nodup _)); exact nodupB_spec rfl)
      | ((with_reducible refine (?_ : @Eq Nat _ _)); rfl)
      | ((with_reducible refine (?_ : LeOks _ _ _)); first | exact trivial | exact ⟨.refl _, trivial⟩ | exact ⟨.refl _, .refl _, trivial⟩)
      | ((fail_if_success with_reducible refine (?_ : False)); (fail_if_success with_reducible refine (?_ : Nat)); (fail_if_success with_reducible refine (?_ : Nat → Nat → AV)); (fail_if_success with_reducible refine (?_ : Sc _ _)); (fail_if_success with_reducible refine (?_ : Side _)); (fail_if_success with_reducible refine (?_ : Exists _)); (fail_if_success with_reducible refine (?_ : Ends _ _ _ _ _ _ _)); (fail_if_success with_reducible refine (?_ : Alt _ _)); (fail_if_success with_reducible refine (?_ : Le _ _)); (fail_if_success with_reducible refine (?_ : LeAll _ _ _)); (first | with_reducible refine And.intro ?_ ?_ | with_reducible refine Cut.go ?_ | (with_reducible (refine impI ?_; intro _)) | (with_reducible refine (?_ : footOK _ _ = true); kernel_rfl) | (conv => whnf))))
    all_goals try (rename_i h; exact absurd h (by decide))
    all_goals try (exact .of (by decide))
    all_goals try (refine Sc.of ?_; (try simp only [sum2]); exact ⟨by omega, by omega⟩)
    · exact ⟨1, by decide, by decide, .le ⟨rfl, trivial, ⟨.refl _, .refl _, .refl _, .refl _, .refl _, .refl _, trivial⟩⟩⟩
    · exact ⟨2, by decide, by decide, .le ⟨rfl, trivial, ⟨.refl _, .refl _, .refl _, .refl _, .refl _, .refl _, trivial⟩⟩⟩
    · refine ⟨(i + 1, sum2 o (l.getD i ev0) 2), ⟨by show i + 1 ≤ l.length; omega, b2.1, b2.2, ?_⟩, by show l.length - (i + 1) < l.length - i; omega, .le ⟨rfl, trivial, ⟨.refl _, .refl _, .refl _, .refl _, trivial⟩⟩⟩
      rw [← h3, sum_take hi]; rfl
  · rename_i h; have h := of_decide_eq_false h
    have : i = l.length := by simp only at h; omega
    subst this
    rw [List.drop_length] at h3
    exact .mk [] [] _ rfl (.le (.intI h3)) trivial rfl
theorem c60 (l : Log) (n : Int) (hs : Side (0 ≤ n ∧ n ≤ l.ev.length ∧ l.ev.length ≤ 1000000 ∧ Kinds l.ev)) : Pure (Xc W0 Gt) 60 [lgA l, .int .i64 n] (.int .i64 (sumL 1 (l.ev.take n.toNat))) := by
  obtain ⟨g0, g1, g2, g3⟩ := hs.get
  refine mut_of' hX (show FnIs (Xc W0 Gt) 60 Tryz.f60 (codeOf Tryz.f60) from ⟨by kernel_rfl, by kernel_rfl, by kernel_rfl, by kernel_rfl⟩) rfl ?_
  repeat' (first
    | ((with_reducible refine (?_ : Alt _ _)); first | fail | (with_reducible refine Alt.one ?_))
    | ((with_reducible refine (?_ : AllLe _ _)); first | (first | exact AllLe.refl _ | (repeat' (first | exact trivial | apply Le.aggs | apply Le.tups | exact Le.refl _ | refine ⟨?_, ?_⟩))))
    | ((with_reducible refine (?_ : Sc _ (AllRen _ _ _))); refine Sc.of ?_; (repeat' (first | exact trivial | apply Le.aggs | apply Le.tups | exact Le.refl _ | refine ⟨?_, ?_⟩)))
    | ((with_reducible refine (?_ : (List.all _ _) = true)); rfl)
    | ((with_reducible refine (?_ : (and _ _) = true)); rfl)
    | ((with_reducible refine (?_ : List.Nodup _)); exact nodupB_spec rfl)
    | ((with_reducible refine (?_ : @Eq Nat _ _)); rfl)
    | ((with_reducible refine (?_ : LeOks _ _ _)); first | exact trivial | exact ⟨.refl _, trivial⟩ | exact ⟨.refl _, .refl _, trivial⟩)
    | ((fail_if_success with_reducible refine (?_ : False)); (fail_if_success with_reducible refine (?_ : Nat)); (fail_if_success with_reducible refine (?_ : Nat → Nat → AV)); (fail_if_success with_reducible refine (?_ : Sc _ _)); (fail_if_success with_reducible refine (?_ : Side _)); (fail_if_success with_reducible refine (?_ : Exists _)); (fail_if_success with_reducible refine (?_ : Ends _ _ _ _ _ _ _)); (fail_if_success with_reducible refine (?_ : Alt _ _)); (fail_if_success with_reducible refine (?_ : Le _ _)); (fail_if_success with_reducible refine (?_ : LeAll _ _ _)); (first | with_reducible refine And.intro ?_ ?_ | with_reducible refine Cut.go ?_ | (with_reducible (refine impI ?_; intro _)) | (with_reducible refine (?_ : footOK _ _ = true); kernel_rfl) | (conv => whnf))))
  refine ⟨Nat × Int, fun y => ([(1, .int .i64 n), (2, .ptr 0 0), (5, .int .i64 y.2), (6, .int .i64 y.1)], [.box (logC l (evS l.ev))]), fun y => y.1 ≤ n.toNat ∧ -998244353 < y.2 ∧ y.2 < 998244353 ∧ sumL y.2 ((l.ev.take n.toNat).drop y.1) = sumL 1 (l.ev.take n.toNat), fun y => n.toNat - y.1, ⟨(0, 1), ⟨Nat.zero_le _, by decide, by decide, rfl⟩, .le ⟨rfl, ⟨.refl _, trivial⟩, ⟨.refl _, .refl _, .refl _, .refl _, trivial⟩⟩⟩, fun ⟨i, o⟩ ⟨hi, h1, h2, h3⟩ => ?_⟩
  simp only at hi h1 h2 h3
  repeat' (first
    | ((with_reducible refine (?_ : Alt _ _)); first | fail | (with_reducible refine Alt.one ?_))
    | ((with_reducible refine (?_ : AllLe _ _)); first | (first | exact AllLe.refl _ | (repeat' (first | exact trivial | apply Le.aggs | apply Le.tups | exact Le.refl _ | refine ⟨?_, ?_⟩))))
    | ((with_reducible refine (?_ : Sc _ (AllRen _ _ _))); refine Sc.of ?_; (repeat' (first | exact trivial | apply Le.aggs | apply Le.tups | exact Le.refl _ | refine ⟨?_, ?_⟩)))
    | ((with_reducible refine (?_ : (List.all _ _) = true)); rfl)
    | ((with_reducible refine (?_ : (and _ _) = true)); rfl)
    | ((with_reducible refine (?_ : List.Nodup _)); exact nodupB_spec rfl)
    | ((with_reducible refine (?_ : @Eq Nat _ _)); rfl)
    | ((with_reducible refine (?_ : LeOks _ _ _)); first | exact trivial | exact ⟨.refl _, trivial⟩ | exact ⟨.refl _, .refl _, trivial⟩)
    | ((fail_if_success with_reducible refine (?_ : False)); (fail_if_success with_reducible refine (?_ : Nat)); (fail_if_success with_reducible refine (?_ : Nat → Nat → AV)); (fail_if_success with_reducible refine (?_ : Sc _ _)); (fail_if_success with_reducible refine (?_ : Side _)); (fail_if_success with_reducible refine (?_ : Exists _)); (fail_if_success with_reducible refine (?_ : Ends _ _ _ _ _ _ _)); (fail_if_success with_reducible refine (?_ : Alt _ _)); (fail_if_success with_reducible refine (?_ : Le _ _)); (fail_if_success with_reducible refine (?_ : LeAll _ _ _)); (first | with_reducible refine And.intro ?_ ?_ | with_reducible refine Cut.go ?_ | (with_reducible (refine impI ?_; intro _)) | (with_reducible refine (?_ : footOK _ _ = true); kernel_rfl) | (conv => whnf))))
  all_goals try (exact .of (Nat.le_of_ble_eq_true rfl))
  all_goals (rename_i h)
  all_goals try (exact .of (by decide))
  all_goals first
    | (have h := of_decide_eq_false h
       have e : i = n.toNat := by simp only at h; omega
       subst e
       rw [List.drop_of_length_le (by rw [List.length_take]; omega)] at h3
       exact .mk [] [] _ rfl (.le (.intI h3)) trivial rfl)
    | (have h := of_decide_eq_true h
       simp only at h
       have hj : i < l.ev.length := by omega
       have hk := g3 i hj
       have t1 := tmod_lt (257 * o + (l.ev.getD i ev0).k + 1)
       have t2 := tmod_lt (l.ev.getD i ev0).n
       have b1 := step_lt o (l.ev.getD i ev0).k
       have b2 := step_lt (sumStep o (l.ev.getD i ev0).k) (l.ev.getD i ev0).n
       have hp : prime = 998244353 := rfl
       rw [hp] at t1 t2
       first
         | (refine Sc.of ?_; simp only [Int.toNat_natCast]; exact ⟨by omega, by omega⟩)
         | (refine ⟨(i + 1, sumStep (sumStep o (l.ev.getD i ev0).k) (l.ev.getD i ev0).n), ⟨by show i + 1 ≤ n.toNat; omega, b2.1, b2.2, ?_⟩, by show n.toNat - (i + 1) < n.toNat - i; omega, .le ⟨rfl, ⟨.refl _, trivial⟩, ⟨.refl _, .refl _, .intI ?_, .refl _, trivial⟩⟩⟩
            · rw [← h3, sum_take (i := i) (by rw [List.length_take]; omega), take_at (by omega)]
            · show _ = sumStep (sumStep o (l.ev.getD i ev0).k) (l.ev.getD i ev0).n
              simp only [Int.toNat_natCast]
              rw [step_k hk.1 hk.2, step_n]))
theorem c14 (l : Log) (hs : Side (l.ev.length ≤ 1000000)) : Pure (Xc W0 Gt) 14 [lgA l] (lgA l) := by
  refine mut_of' hX (show FnIs (Xc W0 Gt) 14 Tryz.f14 (codeOf Tryz.f14) from ⟨by kernel_rfl, by kernel_rfl, by kernel_rfl, by kernel_rfl⟩) rfl ?_
  repeat' (first
    | ((with_reducible refine (?_ : Alt _ _)); first | fail | (with_reducible refine Alt.one ?_))
    | ((with_reducible refine (?_ : AllLe _ _)); first | (first | exact AllLe.refl _ | (repeat' (first | exact trivial | apply Le.aggs | apply Le.tups | exact Le.refl _ | refine ⟨?_, ?_⟩))))
    | ((with_reducible refine (?_ : Sc _ (AllRen _ _ _))); refine Sc.of ?_; (repeat' (first | exact trivial | apply Le.aggs | apply Le.tups | exact Le.refl _ | refine ⟨?_, ?_⟩)))
    | ((with_reducible refine (?_ : (List.all _ _) = true)); rfl)
    | ((with_reducible refine (?_ : (and _ _) = true)); rfl)
    | ((with_reducible refine (?_ : List.Nodup _)); exact nodupB_spec rfl)
    | ((with_reducible refine (?_ : @Eq Nat _ _)); rfl)
    | ((with_reducible refine (?_ : LeOks _ _ _)); first | exact trivial | exact ⟨.refl _, trivial⟩ | exact ⟨.refl _, .refl _, trivial⟩)
    | ((fail_if_success with_reducible refine (?_ : False)); (fail_if_success with_reducible refine (?_ : Nat)); (fail_if_success with_reducible refine (?_ : Nat → Nat → AV)); (fail_if_success with_reducible refine (?_ : Sc _ _)); (fail_if_success with_reducible refine (?_ : Side _)); (fail_if_success with_reducible refine (?_ : Exists _)); (fail_if_success with_reducible refine (?_ : Ends _ _ _ _ _ _ _)); (fail_if_success with_reducible refine (?_ : Alt _ _)); (fail_if_success with_reducible refine (?_ : Le _ _)); (fail_if_success with_reducible refine (?_ : LeAll _ _ _)); (first | with_reducible refine And.intro ?_ ?_ | with_reducible refine Cut.go ?_ | (with_reducible (refine impI ?_; intro _)) | (with_reducible refine (?_ : footOK _ _ = true); kernel_rfl) | (conv => whnf))))
  all_goals try (exact .of (Nat.le_of_ble_eq_true rfl))
  all_goals first
    | (refine Sc.of ?_; have := hs.get; exact ⟨by show (l.ev.length : Nat) * 16 ≤ _; omega, by omega⟩)
    | exact .mk [] [2] _ rfl (.aggs ⟨⟨⟨⟨trivial, .le (.refl _)⟩, .le (.refl _)⟩, .le (.refl _)⟩, .own rfl fun _ _ _ _ => .refl _⟩) trivial rfl
theorem c14o (l : Log) (hs : Side (l.ev.length ≤ 1000000)) : Mut (Xc W0 Gt) 14 [lgA l] [] (.agg 4 (tbl (logC l (.own 0 1)))) [.list 41 2 l.ev.length (fun i j => tbl (evC (l.ev.getD i ev0)) j) 1] := by
  refine mut_of' hX (show FnIs (Xc W0 Gt) 14 Tryz.f14 (codeOf Tryz.f14) from ⟨by kernel_rfl, by kernel_rfl, by kernel_rfl, by kernel_rfl⟩) rfl ?_
  repeat' (first
    | ((with_reducible refine (?_ : Alt _ _)); first | fail | (with_reducible refine Alt.one ?_))
    | ((with_reducible refine (?_ : AllLe _ _)); first | (first | exact AllLe.refl _ | (repeat' (first | exact trivial | apply Le.aggs | apply Le.tups | exact Le.refl _ | refine ⟨?_, ?_⟩))))
    | ((with_reducible refine (?_ : Sc _ (AllRen _ _ _))); refine Sc.of ?_; (repeat' (first | exact trivial | apply Le.aggs | apply Le.tups | exact Le.refl _ | refine ⟨?_, ?_⟩)))
    | ((with_reducible refine (?_ : (List.all _ _) = true)); rfl)
    | ((with_reducible refine (?_ : (and _ _) = true)); rfl)
    | ((with_reducible refine (?_ : List.Nodup _)); exact nodupB_spec rfl)
    | ((with_reducible refine (?_ : @Eq Nat _ _)); rfl)
    | ((with_reducible refine (?_ : LeOks _ _ _)); first | exact trivial | exact ⟨.refl _, trivial⟩ | exact ⟨.refl _, .refl _, trivial⟩)
    | ((fail_if_success with_reducible refine (?_ : False)); (fail_if_success with_reducible refine (?_ : Nat)); (fail_if_success with_reducible refine (?_ : Nat → Nat → AV)); (fail_if_success with_reducible refine (?_ : Sc _ _)); (fail_if_success with_reducible refine (?_ : Side _)); (fail_if_success with_reducible refine (?_ : Exists _)); (fail_if_success with_reducible refine (?_ : Ends _ _ _ _ _ _ _)); (fail_if_success with_reducible refine (?_ : Alt _ _)); (fail_if_success with_reducible refine (?_ : Le _ _)); (fail_if_success with_reducible refine (?_ : LeAll _ _ _)); (first | with_reducible refine And.intro ?_ ?_ | with_reducible refine Cut.go ?_ | (with_reducible (refine impI ?_; intro _)) | (with_reducible refine (?_ : footOK _ _ = true); kernel_rfl) | (conv => whnf))))
  all_goals try (exact .of (Nat.le_of_ble_eq_true rfl))
  all_goals first
    | (refine Sc.of ?_; have := hs.get; exact ⟨by show (l.ev.length : Nat) * 16 ≤ _; omega, by omega⟩)
    | exact .mk [2] [] _ rfl (.aggs ⟨⟨⟨⟨trivial, .le (.refl _)⟩, .le (.refl _)⟩, .le (.refl _)⟩, .le (.refl _)⟩) ⟨.le (.refl _), trivial⟩ rfl
theorem c57 (l : Log) (e es n : Nat) (f : Nat → Nat → AV) (v : Nat) : Mut (Xc W0 Gt) 57 [lgA l, .own 0 v] [.list e es n f v] (.agg 4 (tbl (logC l (.own 0 v)))) [.list e es n f v] := by
  refine mut_of' hX (show FnIs (Xc W0 Gt) 57 Tryz.f57 (codeOf Tryz.f57) from ⟨by kernel_rfl, by kernel_rfl, by kernel_rfl, by kernel_rfl⟩) rfl ?_
  repeat' (first
    | ((with_reducible refine (?_ : Alt _ _)); first | fail | (with_reducible refine Alt.one ?_))
    | ((with_reducible refine (?_ : AllLe _ _)); first | (first | exact AllLe.refl _ | (repeat' (first | exact trivial | apply Le.aggs | apply Le.tups | exact Le.refl _ | refine ⟨?_, ?_⟩))))
    | ((with_reducible refine (?_ : Sc _ (AllRen _ _ _))); refine Sc.of ?_; (repeat' (first | exact trivial | apply Le.aggs | apply Le.tups | exact Le.refl _ | refine ⟨?_, ?_⟩)))
    | ((with_reducible refine (?_ : (List.all _ _) = true)); rfl)
    | ((with_reducible refine (?_ : (and _ _) = true)); rfl)
    | ((with_reducible refine (?_ : List.Nodup _)); exact nodupB_spec rfl)
    | ((with_reducible refine (?_ : @Eq Nat _ _)); rfl)
    | ((with_reducible refine (?_ : LeOks _ _ _)); first | exact trivial | exact ⟨.refl _, trivial⟩ | exact ⟨.refl _, .refl _, trivial⟩)
    | ((fail_if_success with_reducible refine (?_ : False)); (fail_if_success with_reducible refine (?_ : Nat)); (fail_if_success with_reducible refine (?_ : Nat → Nat → AV)); (fail_if_success with_reducible refine (?_ : Sc _ _)); (fail_if_success with_reducible refine (?_ : Side _)); (fail_if_success with_reducible refine (?_ : Exists _)); (fail_if_success with_reducible refine (?_ : Ends _ _ _ _ _ _ _)); (fail_if_success with_reducible refine (?_ : Alt _ _)); (fail_if_success with_reducible refine (?_ : Le _ _)); (fail_if_success with_reducible refine (?_ : LeAll _ _ _)); (first | with_reducible refine And.intro ?_ ?_ | with_reducible refine Cut.go ?_ | (with_reducible (refine impI ?_; intro _)) | (with_reducible refine (?_ : footOK _ _ = true); kernel_rfl) | (conv => whnf))))
  all_goals try (exact .of (Nat.le_of_ble_eq_true rfl))
  all_goals exact .mk [] [] _ rfl (.aggs ⟨⟨⟨⟨trivial, .le (.refl _)⟩, .le (.refl _)⟩, .le (.refl _)⟩, .le (.refl _)⟩) ⟨.le (.refl _), trivial⟩ rfl
end
end Go.Fx

/-
  Logs: check sums, or the errors; seals.
-/
namespace Go.Fx
open Go.Proofs Go.RowKit
theorem LeH.ownN {H : List HObj} {k ver e es n m : Nat} {f g : Nat → Nat → AV} (hk : H[k]? = some (.list e es n f ver)) (hm : n = m) (h : ∀ i j, i < n → j < es → Le (f i j) (g i j)) : LeH H (.own k ver) (.slc es m g) := by subst hm; exact .own hk h
@[irreducible] def sumE (l : Log) (n : Int) : Int := firstS [aloneE l, bif inB n 0 l.ev.length then 0 else 2]
@[irreducible] def sumN (l : Log) (n : Int) : Int := bif decide (sumE l n = 0) then sumL 1 (l.ev.take n.toNat) else 0
@[irreducible] def sealE (l : Log) : Int := firstS [aloneE l, bif decide ((l.ev.length : Int) < 200) then 0 else 16]
@[irreducible] def sealL (l : Log) : Log := bif decide (sealE l = 0) then { l with ev := l.ev ++ [⟨6, sumL 1 l.ev⟩] } else log0
theorem sum_bad {l : Log} {n e : Int} (h : sumE l n = e) (h0 : e ≠ 0) : sumN l n = 0 := by unfold sumN; rw [h, decide_eq_false h0]; rfl
theorem sum_ok {l : Log} {n : Int} (h : sumE l n = 0) : sumN l n = sumL 1 (l.ev.take n.toNat) := by unfold sumN; rw [h]; rfl
theorem seal_bad {l : Log} {e : Int} (h : sealE l = e) (h0 : e ≠ 0) : sealL l = log0 := by unfold sealL; rw [h, decide_eq_false h0]; rfl
theorem seal_ok {l : Log} (h : sealE l = 0) : sealL l = { l with ev := l.ev ++ [⟨6, sumL 1 l.ev⟩] } := by unfold sealL; rw [h]; rfl
theorem alone_0 {l : Log} (h : aloneE l = 0) : l.ev.length ≤ 200 ∧ Kinds l.ev := by
  by_cases hh : headE l = 0
  · exact ⟨head_0 hh, kinds_of (by rw [← (alone_eq hh).1]; exact h)⟩
  · exact absurd ((alone_ne rfl hh).1.symm.trans h) hh
theorem first2_ne {a b : Int} (h : firstS [a, b] ≠ 0) : firstS [a, b] = a ∧ a ≠ 0 ∨ firstS [a, b] = b ∧ b ≠ 0 ∧ a = 0 := by
  by_cases ha : a = 0 <;> by_cases hb : b = 0 <;> simp_all [firstS]
theorem push_at {l : List Ev} {x : Ev} {i j : Nat} {f : Nat → Nat → AV} (hf : ∀ j, f 0 j = tbl (evC x) j) (hi : i < l.length + 1) : joinF l.length (fun i j => tbl (evC (l.getD i ev0)) j) f i j = tbl (evC ((l ++ [x]).getD i ev0)) j := by
  unfold joinF
  by_cases h : i < l.length
  · rw [if_pos h]
    show tbl (evC (l.getD i ev0)) j = _
    rw [List.getD_eq_getElem?_getD, List.getD_eq_getElem?_getD, List.getElem?_append_left h]
  · obtain rfl : i = l.length := by omega
    rw [if_neg h, Nat.sub_self, hf]
    simp
section
variable {W0 : World} (hX : (Xc W0 Gt).Good)
include hX
theorem c58o (l : List Ev) (hs : Side (l.length ≤ 1000000)) : Mut (Xc W0 Gt) 58 [evS l] [] (.own 0 1) [.list 41 2 l.length (fun i j => tbl (evC (l.getD i ev0)) j) 1] := by
  have hs := hs.get
  rcases Nat.eq_zero_or_pos l.length with h0 | h0
  · obtain rfl := List.eq_nil_of_length_eq_zero h0
    refine Mut.vals (fun v => ∃ a cap, v = .slice a 0 cap) ⟨_, (show FnIs (Xc W0 Gt) 58 Tryz.f58 (codeOf Tryz.f58) from ⟨by kernel_rfl, by kernel_rfl, by kernel_rfl, by kernel_rfl⟩).1, by kernel_rfl, by kernel_rfl⟩ (fun g I w m v ⟨a, cap, hv, _⟩ => ⟨a, cap, hv⟩) fun v ⟨a, cap, hv⟩ => ?_
    subst hv
    cases a with
    | none =>
      refine Mut.slc0_own ?_
      refine mut_of' hX (show FnIs (Xc W0 Gt) 58 Tryz.f58 (codeOf Tryz.f58) from ⟨by kernel_rfl, by kernel_rfl, by kernel_rfl, by kernel_rfl⟩) rfl ?_
      repeat' (first
        | ((with_reducible refine (?_ : Alt _ _)); first | fail | (with_reducible refine Alt.one ?_))
        | ((with_reducible refine (?_ : AllLe _ _)); first | (first | exact AllLe.refl _ | (repeat' (first | exact trivial | apply Le.aggs | apply Le.tups | exact Le.refl _ | refine ⟨?_, ?_⟩))))
        | ((with_reducible refine (?_ : Sc _ (AllRen _ _ _))); refine Sc.of ?_; (repeat' (first | exact trivial | apply Le.aggs | apply Le.tups | exact Le.refl _ | refine ⟨?_, ?_⟩)))
        | ((with_reducible refine (?_ : (List.all _ _) = true)); rfl)
        | ((with_reducible refine (?_ : (and _ _) = true)); rfl)
        | ((with_reducible refine (?_ : List.Nodup _)); exact nodupB_spec rfl)
        | ((with_reducible refine (?_ : @Eq Nat _ _)); rfl)
        | ((with_reducible refine (?_ : LeOks _ _ _)); first | exact trivial | exact ⟨.refl _, trivial⟩ | exact ⟨.refl _, .refl _, trivial⟩)
        | ((fail_if_success with_reducible refine (?_ : False)); (fail_if_success with_reducible refine (?_ : Nat)); (fail_if_success with_reducible refine (?_ : Nat → Nat → AV)); (fail_if_success with_reducible refine (?_ : Sc _ _)); (fail_if_success with_reducible refine (?_ : Side _)); (fail_if_success with_reducible refine (?_ : Exists _)); (fail_if_success with_reducible refine (?_ : Ends _ _ _ _ _ _ _)); (fail_if_success with_reducible refine (?_ : Alt _ _)); (fail_if_success with_reducible refine (?_ : Le _ _)); (fail_if_success with_reducible refine (?_ : LeAll _ _ _)); (first | with_reducible refine And.intro ?_ ?_ | with_reducible refine Cut.go ?_ | (with_reducible (refine impI ?_; intro _)) | (with_reducible refine (?_ : footOK _ _ = true); kernel_rfl) | (conv => whnf))))
      all_goals try (rename_i h; first | exact absurd h (by decide) | (cases h; done))
      all_goals first | exact .of (by decide) | exact .mk [] [] _ rfl (.le (.refl _)) trivial rfl
    | some a =>
      refine mut_of' hX (show FnIs (Xc W0 Gt) 58 Tryz.f58 (codeOf Tryz.f58) from ⟨by kernel_rfl, by kernel_rfl, by kernel_rfl, by kernel_rfl⟩) rfl ?_
      repeat' (first
        | ((with_reducible refine (?_ : Alt _ _)); first | fail | (with_reducible refine Alt.one ?_))
        | ((with_reducible refine (?_ : AllLe _ _)); first | (first | exact AllLe.refl _ | (repeat' (first | exact trivial | apply Le.aggs | apply Le.tups | exact Le.refl _ | refine ⟨?_, ?_⟩))))
        | ((with_reducible refine (?_ : Sc _ (AllRen _ _ _))); refine Sc.of ?_; (repeat' (first | exact trivial | apply Le.aggs | apply Le.tups | exact Le.refl _ | refine ⟨?_, ?_⟩)))
        | ((with_reducible refine (?_ : (List.all _ _) = true)); rfl)
        | ((with_reducible refine (?_ : (and _ _) = true)); rfl)
        | ((with_reducible refine (?_ : List.Nodup _)); exact nodupB_spec rfl)
        | ((with_reducible refine (?_ : @Eq Nat _ _)); rfl)
        | ((with_reducible refine (?_ : LeOks _ _ _)); first | exact trivial | exact ⟨.refl _, trivial⟩ | exact ⟨.refl _, .refl _, trivial⟩)
        | ((fail_if_success with_reducible refine (?_ : False)); (fail_if_success with_reducible refine (?_ : Nat)); (fail_if_success with_reducible refine (?_ : Nat → Nat → AV)); (fail_if_success with_reducible refine (?_ : Sc _ _)); (fail_if_success with_reducible refine (?_ : Side _)); (fail_if_success with_reducible refine (?_ : Exists _)); (fail_if_success with_reducible refine (?_ : Ends _ _ _ _ _ _ _)); (fail_if_success with_reducible refine (?_ : Alt _ _)); (fail_if_success with_reducible refine (?_ : Le _ _)); (fail_if_success with_reducible refine (?_ : LeAll _ _ _)); (first | with_reducible refine And.intro ?_ ?_ | with_reducible refine Cut.go ?_ | (with_reducible (refine impI ?_; intro _)) | (with_reducible refine (?_ : footOK _ _ = true); kernel_rfl) | (conv => whnf))))
      all_goals try (rename_i h; first | exact absurd h (by decide) | (cases h; done))
      all_goals first | exact .of ⟨by decide, by decide⟩ | exact .mk [0] [] _ rfl (.le (.refl _)) ⟨.le (.list fun i j hi => absurd hi (Nat.not_lt_zero _)), trivial⟩ rfl
  · refine mut_of' hX (show FnIs (Xc W0 Gt) 58 Tryz.f58 (codeOf Tryz.f58) from ⟨by kernel_rfl, by kernel_rfl, by kernel_rfl, by kernel_rfl⟩) rfl ?_
    repeat' (first
      | ((with_reducible refine (?_ : Alt _ _)); first | fail | (with_reducible refine Alt.one ?_))
      | ((with_reducible refine (?_ : AllLe _ _)); first | (first | exact AllLe.refl _ | (repeat' (first | exact trivial | apply Le.aggs | apply Le.tups | exact Le.refl _ | refine ⟨?_, ?_⟩))))
      | ((with_reducible refine (?_ : Sc _ (AllRen _ _ _))); refine Sc.of ?_; (repeat' (first | exact trivial | apply Le.aggs | apply Le.tups | exact Le.refl _ | refine ⟨?_, ?_⟩)))
      | ((with_reducible refine (?_ : (List.all _ _) = true)); rfl)
      | ((with_reducible refine (?_ : (and _ _) = true)); rfl)
      | ((with_reducible refine (?_ : List.Nodup _)); exact nodupB_spec rfl)
      | ((with_reducible refine (?_ : @Eq Nat _ _)); rfl)
      | ((with_reducible refine (?_ : LeOks _ _ _)); first | exact trivial | exact ⟨.refl _, trivial⟩ | exact ⟨.refl _, .refl _, trivial⟩)
      | ((fail_if_success with_reducible refine (?_ : False)); (fail_if_success with_reducible refine (?_ : Nat)); (fail_if_success with_reducible refine (?_ : Nat → Nat → AV)); (fail_if_success with_reducible refine (?_ : Sc _ _)); (fail_if_success with_reducible refine (?_ : Side _)); (fail_if_success with_reducible refine (?_ : Exists _)); (fail_if_success with_reducible refine (?_ : Ends _ _ _ _ _ _ _)); (fail_if_success with_reducible refine (?_ : Alt _ _)); (fail_if_success with_reducible refine (?_ : Le _ _)); (fail_if_success with_reducible refine (?_ : LeAll _ _ _)); (first | with_reducible refine And.intro ?_ ?_ | with_reducible refine Cut.go ?_ | (with_reducible (refine impI ?_; intro _)) | (with_reducible refine (?_ : footOK _ _ = true); kernel_rfl) | (conv => whnf))))
    all_goals try (rename_i h; first | exact absurd h (by decide) | (cases h; done))
    all_goals first | exact .of h0 | (refine Sc.of ?_; exact ⟨by show (l.length : Nat) * 16 ≤ _; omega, by omega⟩) | exact .mk [0] [] _ rfl (.le (.refl _)) ⟨.le (.refl _), trivial⟩ rfl
theorem c17 (l : Log) (n : Int) : Pure (Xc W0 Gt) 17 [lgA l, .int .i64 n] (.tup 2 (tbl [.int .i64 (sumN l n), .int .i64 (sumE l n)])) := by
  refine mut_of' hX (show FnIs (Xc W0 Gt) 17 Tryz.f17 (codeOf Tryz.f17) from ⟨by kernel_rfl, by kernel_rfl, by kernel_rfl, by kernel_rfl⟩) rfl ?_
  repeat' (first
    | ((with_reducible refine (?_ : Alt _ _)); first | (with_reducible apply callAlt (c55 hX _)) | (with_reducible apply callAlt (c49 hX _ _ _)) | (with_reducible apply callAlt (c48 hX _ _)) | (with_reducible apply callAlt (c47b hX _ _)) | (with_reducible apply callAlt (c56 hX (l.ev.take n.toNat) ?_)) | (with_reducible refine Alt.one ?_))
    | ((with_reducible refine (?_ : AllLe _ _)); first | exact ⟨le_slc2 rfl rfl, trivial⟩ | (first | exact AllLe.refl _ | (repeat' (first | exact trivial | apply Le.aggs | apply Le.tups | exact Le.refl _ | refine ⟨?_, ?_⟩))))
    | ((with_reducible refine (?_ : Sc _ (AllRen _ _ _))); refine Sc.of ?_; (repeat' (first | exact trivial | apply Le.aggs | apply Le.tups | exact Le.refl _ | refine ⟨?_, ?_⟩)))
    | ((with_reducible refine (?_ : (List.all _ _) = true)); rfl)
    | ((with_reducible refine (?_ : (and _ _) = true)); rfl)
    | ((with_reducible refine (?_ : List.Nodup _)); exact nodupB_spec rfl)
    | ((with_reducible refine (?_ : @Eq Nat _ _)); rfl)
    | ((with_reducible refine (?_ : LeOks _ _ _)); first | exact trivial | exact ⟨.refl _, trivial⟩ | exact ⟨.refl _, .refl _, trivial⟩)
    | ((fail_if_success with_reducible refine (?_ : False)); (fail_if_success with_reducible refine (?_ : Nat)); (fail_if_success with_reducible refine (?_ : Nat → Nat → AV)); (fail_if_success with_reducible refine (?_ : Sc _ _)); (fail_if_success with_reducible refine (?_ : Side _)); (fail_if_success with_reducible refine (?_ : Exists _)); (fail_if_success with_reducible refine (?_ : Ends _ _ _ _ _ _ _)); (fail_if_success with_reducible refine (?_ : Alt _ _)); (fail_if_success with_reducible refine (?_ : Le _ _)); (fail_if_success with_reducible refine (?_ : LeAll _ _ _)); (first | with_reducible refine And.intro ?_ ?_ | with_reducible refine Cut.go ?_ | (with_reducible (refine impI ?_; intro _)) | (with_reducible refine (?_ : footOK _ _ = true); kernel_rfl) | (conv => whnf))))
  all_goals try (exact .of (Nat.le_of_ble_eq_true rfl))
  all_goals (rename_i h; simp only [decide_eq_true_eq, decide_eq_false_iff_not, beq_iff_eq, bne_iff_ne, beq_eq_false_iff_ne, bne_eq_false_iff_eq, ne_eq, Int.not_lt, Int.not_le, Nat.not_lt, Nat.not_le, Decidable.not_not, Int.toNat_natCast] at h)
  · have e : sumE l n = firstS [aloneE l, bif inB n 0 l.ev.length then 0 else 2] := by unfold sumE; rfl
    exact .mk [] [] _ rfl (.le (.tups ⟨⟨trivial, .intI (sum_bad e h).symm⟩, .intI e.symm⟩)) trivial rfl
  all_goals (have e : sumE l n = 0 := by unfold sumE; exact h)
  all_goals (have w := firstS_two h; obtain ⟨a1, a2⟩ := w; have w := alone_0 a1; obtain ⟨b1, b2⟩ := w; have b3 : inB n 0 l.ev.length = true := by cases hc : inB n 0 l.ev.length <;> simp_all)
  all_goals (have b4 := inB_iff.1 b3)
  all_goals first
    | exact .mk (by rw [List.length_take]; omega)
    | exact .of ⟨by omega, by omega⟩
    | exact le_take (l := l.ev) (by simp) (by omega) (fun i j => by simp)
    | exact ⟨le_take (l := l.ev) (by simp) (by omega) (fun i j => by simp), trivial⟩
    | exact .mk [] [] _ rfl (.le (.tups ⟨⟨trivial, .intI (sum_ok e).symm⟩, .intI e.symm⟩)) trivial rfl
theorem c19 (l : Log) (n : Int) : Pure (Xc W0 Gt) 19 [lgA l, .int .i64 n] (.tup 2 (tbl [.int .i64 (sumN l n), .int .i64 (sumE l n)])) := by
  refine mut_of' hX (show FnIs (Xc W0 Gt) 19 Tryz.f19 (codeOf Tryz.f19) from ⟨by kernel_rfl, by kernel_rfl, by kernel_rfl, by kernel_rfl⟩) rfl ?_
  repeat' (first
    | ((with_reducible refine (?_ : Alt _ _)); first | (with_reducible apply callAlt (c59 hX _)) | (with_reducible apply callAlt (c13 hX _ _ _)) | (with_reducible apply callAlt (c60 hX l n ?_)) | (with_reducible refine Alt.one ?_))
    | ((with_reducible refine (?_ : AllLe _ _)); first | (first | exact AllLe.refl _ | (repeat' (first | exact trivial | apply Le.aggs | apply Le.tups | exact Le.refl _ | refine ⟨?_, ?_⟩))))
    | ((with_reducible refine (?_ : Sc _ (AllRen _ _ _))); refine Sc.of ?_; (repeat' (first | exact trivial | apply Le.aggs | apply Le.tups | exact Le.refl _ | refine ⟨?_, ?_⟩)))
    | ((with_reducible refine (?_ : (List.all _ _) = true)); rfl)
    | ((with_reducible refine (?_ : (and _ _) = true)); rfl)
    | ((with_reducible refine (?_ : List.Nodup _)); exact nodupB_spec rfl)
    | ((with_reducible refine (?_ : @Eq Nat _ _)); rfl)
    | ((with_reducible refine (?_ : LeOks _ _ _)); first | exact trivial | exact ⟨.refl _, trivial⟩ | exact ⟨.refl _, .refl _, trivial⟩)
    | ((fail_if_success with_reducible refine (?_ : False)); (fail_if_success with_reducible refine (?_ : Nat)); (fail_if_success with_reducible refine (?_ : Nat → Nat → AV)); (fail_if_success with_reducible refine (?_ : Sc _ _)); (fail_if_success with_reducible refine (?_ : Side _)); (fail_if_success with_reducible refine (?_ : Exists _)); (fail_if_success with_reducible refine (?_ : Ends _ _ _ _ _ _ _)); (fail_if_success with_reducible refine (?_ : Alt _ _)); (fail_if_success with_reducible refine (?_ : Le _ _)); (fail_if_success with_reducible refine (?_ : LeAll _ _ _)); (first | with_reducible refine And.intro ?_ ?_ | with_reducible refine Cut.go ?_ | (with_reducible (refine impI ?_; intro _)) | (with_reducible refine (?_ : footOK _ _ = true); kernel_rfl) | (conv => whnf))))
  all_goals try (exact .of (Nat.le_of_ble_eq_true rfl))
  all_goals (rename_i h; simp only [Bool.not_eq_true', Bool.not_eq_false', decide_eq_true_eq, decide_eq_false_iff_not, beq_iff_eq, bne_iff_ne, beq_eq_false_iff_ne, bne_eq_false_iff_eq, ne_eq, Int.not_lt, Int.not_le, Nat.not_lt, Nat.not_le, Decidable.not_not, Int.toNat_natCast] at h)
  · have e : sumE l n = aloneE l := by unfold sumE; simp [firstS, h]
    exact .mk [] [] _ rfl (.le (.tups ⟨⟨trivial, .intI (sum_bad e h).symm⟩, .intI e.symm⟩)) trivial rfl
  · rename_i ha; simp only [decide_eq_true_eq, decide_eq_false_iff_not, beq_iff_eq, bne_iff_ne, beq_eq_false_iff_ne, bne_eq_false_iff_eq, ne_eq, Int.not_lt, Int.not_le, Nat.not_lt, Nat.not_le, Decidable.not_not, Int.toNat_natCast] at ha
    have e : sumE l n = 2 := by unfold sumE; simp [firstS, h, ha]
    exact .mk [] [] _ rfl (.le (.tups ⟨⟨trivial, .intI (sum_bad e (by decide)).symm⟩, .intI e.symm⟩)) trivial rfl
  all_goals (rename_i ha; simp only [decide_eq_true_eq, decide_eq_false_iff_not, beq_iff_eq, bne_iff_ne, beq_eq_false_iff_ne, bne_eq_false_iff_eq, ne_eq, Int.not_lt, Int.not_le, Nat.not_lt, Nat.not_le, Decidable.not_not, Int.toNat_natCast] at ha; have b4 := inB_iff.1 h; have w := alone_0 ha; obtain ⟨b1, b2⟩ := w)
  all_goals first
    | exact Side.mk ⟨by omega, by omega, by omega, b2⟩
    | (have e : sumE l n = 0 := by unfold sumE; simp [firstS, h, ha]
       exact .mk [] [] _ rfl (.le (.tups ⟨⟨trivial, .intI (sum_ok e).symm⟩, .intI e.symm⟩)) trivial rfl)
theorem c18 (l : Log) : Pure (Xc W0 Gt) 18 [lgA l] (.tup 2 (tbl [lgA (sealL l), .int .i64 (sealE l)])) := by
  refine mut_of' hX (show FnIs (Xc W0 Gt) 18 Tryz.f18 (codeOf Tryz.f18) from ⟨by kernel_rfl, by kernel_rfl, by kernel_rfl, by kernel_rfl⟩) rfl ?_
  repeat' (first
    | ((with_reducible refine (?_ : Alt _ _)); first | (with_reducible apply callAlt (c55 hX _)) | (with_reducible apply callAlt (c48 hX _ _)) | (with_reducible apply callAlt (c47b hX _ _)) | (with_reducible (apply altM (ks := []) (m := 1); apply And.intro; apply Sc.of; apply (c58o hX l.ev ?_))) | (with_reducible apply callAlt (c56 hX l.ev ?_)) | (with_reducible (apply altM (ks := [2]) (m := 0); apply And.intro; apply Sc.of; apply (c57 hX l))) | (with_reducible refine Alt.one ?_))
    | ((with_reducible refine (?_ : AllLe _ _)); first | exact ⟨le_slc2 rfl rfl, trivial⟩ | (first | exact AllLe.refl _ | (repeat' (first | exact trivial | apply Le.aggs | apply Le.tups | exact Le.refl _ | refine ⟨?_, ?_⟩))))
    | ((with_reducible refine (?_ : Sc _ (AllRen _ _ _))); refine Sc.of ?_; (repeat' (first | exact trivial | apply Le.aggs | apply Le.tups | exact Le.refl _ | refine ⟨?_, ?_⟩)))
    | ((with_reducible refine (?_ : (List.all _ _) = true)); rfl)
    | ((with_reducible refine (?_ : (and _ _) = true)); rfl)
    | ((with_reducible refine (?_ : List.Nodup _)); exact nodupB_spec rfl)
    | ((with_reducible refine (?_ : @Eq Nat _ _)); rfl)
    | ((with_reducible refine (?_ : LeOks _ _ _)); first | exact trivial | exact ⟨.refl _, trivial⟩ | exact ⟨.refl _, .refl _, trivial⟩)
    | ((fail_if_success with_reducible refine (?_ : False)); (fail_if_success with_reducible refine (?_ : Nat)); (fail_if_success with_reducible refine (?_ : Nat → Nat → AV)); (fail_if_success with_reducible refine (?_ : Sc _ _)); (fail_if_success with_reducible refine (?_ : Side _)); (fail_if_success with_reducible refine (?_ : Exists _)); (fail_if_success with_reducible refine (?_ : Ends _ _ _ _ _ _ _)); (fail_if_success with_reducible refine (?_ : Alt _ _)); (fail_if_success with_reducible refine (?_ : Le _ _)); (fail_if_success with_reducible refine (?_ : LeAll _ _ _)); (first | with_reducible refine And.intro ?_ ?_ | with_reducible refine Cut.go ?_ | (with_reducible (refine impI ?_; intro _)) | (with_reducible refine (?_ : footOK _ _ = true); kernel_rfl) | (conv => whnf))))
  all_goals try (exact .of (Nat.le_of_ble_eq_true rfl))
  all_goals (rename_i h; simp only [decide_eq_true_eq, decide_eq_false_iff_not, beq_iff_eq, bne_iff_ne, beq_eq_false_iff_ne, bne_eq_false_iff_eq, ne_eq, Int.not_lt, Int.not_le, Nat.not_lt, Nat.not_le, Decidable.not_not, Int.toNat_natCast] at h)
  · have e : sealE l = firstS [aloneE l, bif decide ((l.ev.length : Int) < 200) then 0 else 16] := by unfold sealE; rfl
    rw [seal_bad e h, e]
    exact .mk [] [] _ rfl (.le (.tups ⟨⟨trivial, .aggs ⟨⟨⟨⟨trivial, .refl _⟩, .refl _⟩, .refl _⟩, .slc0 _ _⟩⟩, .refl _⟩)) trivial rfl
  all_goals (have e : sealE l = 0 := by unfold sealE; exact h)
  all_goals (have w := firstS_two h; obtain ⟨a1, a2⟩ := w; have w := alone_0 a1; obtain ⟨b1, b2⟩ := w)
  all_goals try (first | exact Side.mk (by omega) | (refine Sc.of ?_; exact ⟨by show (l.ev.length + (0 + 1) : Nat) * 16 ≤ 140737488355328; omega, by omega⟩))
  · refine Sc.of ⟨?_, ?_⟩
    · show (l.ev.length + 1 : Nat) * 16 ≤ 140737488355328; omega
    · show (l.ev.length + 1 : Nat) ≤ 9223372036854775807; omega
  · rw [seal_ok e, e]
    exact .mk [] [2] _ rfl (.tups ⟨⟨trivial, .aggs ⟨⟨⟨⟨trivial, .le (.refl _)⟩, .le (.refl _)⟩, .le (.refl _)⟩, .ownN rfl (by simp) (fun i j hi _ => by rw [push_at (x := ⟨6, sumL 1 l.ev⟩) (fun j => by show List.getD _ (0 * 2 + j) _ = _; rw [Nat.zero_mul, Nat.zero_add]; rfl) hi]; exact .refl _)⟩⟩, .le (.refl _)⟩) trivial rfl
theorem c20 (l : Log) : Pure (Xc W0 Gt) 20 [lgA l] (.tup 2 (tbl [lgA (sealL l), .int .i64 (sealE l)])) := by
  refine mut_of' hX (show FnIs (Xc W0 Gt) 20 Tryz.f20 (codeOf Tryz.f20) from ⟨by kernel_rfl, by kernel_rfl, by kernel_rfl, by kernel_rfl⟩) rfl ?_
  repeat' (first
    | ((with_reducible refine (?_ : Alt _ _)); first | (with_reducible apply callAlt (c59 hX _)) | (with_reducible (apply altM (ks := []) (m := 1); apply And.intro; apply Sc.of; apply (c14o hX l ?_))) | (with_reducible apply callAlt (c60 hX l l.ev.length ?_)) | (with_reducible refine Alt.one ?_))
    | ((with_reducible refine (?_ : AllLe _ _)); first | (first | exact AllLe.refl _ | (repeat' (first | exact trivial | apply Le.aggs | apply Le.tups | exact Le.refl _ | refine ⟨?_, ?_⟩))))
    | ((with_reducible refine (?_ : Sc _ (AllRen _ _ _))); refine Sc.of ?_; (repeat' (first | exact trivial | apply Le.aggs | apply Le.tups | exact Le.refl _ | refine ⟨?_, ?_⟩)))
    | ((with_reducible refine (?_ : (List.all _ _) = true)); rfl)
    | ((with_reducible refine (?_ : (and _ _) = true)); rfl)
    | ((with_reducible refine (?_ : List.Nodup _)); exact nodupB_spec rfl)
    | ((with_reducible refine (?_ : @Eq Nat _ _)); rfl)
    | ((with_reducible refine (?_ : LeOks _ _ _)); first | exact trivial | exact ⟨.refl _, trivial⟩ | exact ⟨.refl _, .refl _, trivial⟩)
    | ((fail_if_success with_reducible refine (?_ : False)); (fail_if_success with_reducible refine (?_ : Nat)); (fail_if_success with_reducible refine (?_ : Nat → Nat → AV)); (fail_if_success with_reducible refine (?_ : Sc _ _)); (fail_if_success with_reducible refine (?_ : Side _)); (fail_if_success with_reducible refine (?_ : Exists _)); (fail_if_success with_reducible refine (?_ : Ends _ _ _ _ _ _ _)); (fail_if_success with_reducible refine (?_ : Alt _ _)); (fail_if_success with_reducible refine (?_ : Le _ _)); (fail_if_success with_reducible refine (?_ : LeAll _ _ _)); (first | with_reducible refine And.intro ?_ ?_ | with_reducible refine Cut.go ?_ | (with_reducible (refine impI ?_; intro _)) | (with_reducible refine (?_ : footOK _ _ = true); kernel_rfl) | (conv => whnf))))
  all_goals try (exact .of (Nat.le_of_ble_eq_true rfl))
  all_goals (rename_i h; simp only [decide_eq_true_eq, decide_eq_false_iff_not, beq_iff_eq, bne_iff_ne, beq_eq_false_iff_ne, bne_eq_false_iff_eq, ne_eq, Int.not_lt, Int.not_le, Nat.not_lt, Nat.not_le, Decidable.not_not, Int.toNat_natCast] at h)
  all_goals try (exact .of (by decide))
  · have e : sealE l = aloneE l := by unfold sealE; simp [firstS, h]
    rw [seal_bad e h, e]
    exact .mk [] [] _ rfl (.le (.tups ⟨⟨trivial, .aggs ⟨⟨⟨⟨trivial, .refl _⟩, .refl _⟩, .refl _⟩, .slc0 _ _⟩⟩, .refl _⟩)) trivial rfl
  · rename_i ha; simp only [decide_eq_true_eq, decide_eq_false_iff_not, beq_iff_eq, bne_iff_ne, beq_eq_false_iff_ne, bne_eq_false_iff_eq, ne_eq, Int.not_lt, Int.not_le, Nat.not_lt, Nat.not_le, Decidable.not_not, Int.toNat_natCast] at ha
    have e : sealE l = 16 := by unfold sealE; simp [firstS, show ¬ (l.ev.length : Int) < 200 by omega, ha]
    rw [seal_bad e (by decide), e]
    exact .mk [] [] _ rfl (.le (.tups ⟨⟨trivial, .aggs ⟨⟨⟨⟨trivial, .refl _⟩, .refl _⟩, .refl _⟩, .slc0 _ _⟩⟩, .refl _⟩)) trivial rfl
  all_goals (rename_i ha; simp only [decide_eq_true_eq, decide_eq_false_iff_not, beq_iff_eq, bne_iff_ne, beq_eq_false_iff_ne, bne_eq_false_iff_eq, ne_eq, Int.not_lt, Int.not_le, Nat.not_lt, Nat.not_le, Decidable.not_not, Int.toNat_natCast] at ha; have w := alone_0 ha; obtain ⟨b1, b2⟩ := w)
  all_goals first
    | exact Side.mk (by omega)
    | exact Side.mk ⟨by omega, by omega, by omega, b2⟩
    | (refine Sc.of ⟨?_, ?_⟩
       · show (l.ev.length + 1 : Nat) * 16 ≤ 140737488355328; omega
       · show (l.ev.length + 1 : Nat) ≤ 9223372036854775807; omega)
    | (have e : sealE l = 0 := by unfold sealE; simp [firstS, h, ha]
       rw [seal_ok e, e]
       have et : l.ev.take (l.ev.length : Int).toNat = l.ev := by rw [Int.toNat_natCast, List.take_length]
       exact .mk [] [2] _ rfl (.tups ⟨⟨trivial, .aggs ⟨⟨⟨⟨trivial, .le (.refl _)⟩, .le (.refl _)⟩, .le (.refl _)⟩, .ownN rfl (by simp) (fun i j hi _ => by rw [push_at (x := ⟨6, sumL 1 l.ev⟩) (fun j => by show List.getD [AV.int .i64 6, AV.int .i64 (sumL 1 (l.ev.take (l.ev.length : Int).toNat))] (0 * 2 + j) _ = _; rw [et, Nat.zero_mul, Nat.zero_add]; rfl) hi]; exact .refl _)⟩⟩, .le (.refl _)⟩) trivial rfl)
theorem c21 (l : Log) (hs : Side (l.ev.length ≤ 1000000)) : Pure (Xc W0 Gt) 21 [lgA l, lgA l] (.bool true) := by
  have hs := hs.get
  refine mut_of' hX (show FnIs (Xc W0 Gt) 21 Tryz.f21 (codeOf Tryz.f21) from ⟨by kernel_rfl, by kernel_rfl, by kernel_rfl, by kernel_rfl⟩) rfl ?_
  repeat' (first
    | ((with_reducible refine (?_ : Alt _ _)); first | fail | (with_reducible refine Alt.one ?_))
    | ((with_reducible refine (?_ : AllLe _ _)); first | (first | exact AllLe.refl _ | (repeat' (first | exact trivial | apply Le.aggs | apply Le.tups | exact Le.refl _ | refine ⟨?_, ?_⟩))))
    | ((with_reducible refine (?_ : Sc _ (AllRen _ _ _))); refine Sc.of ?_; (repeat' (first | exact trivial | apply Le.aggs | apply Le.tups | exact Le.refl _ | refine ⟨?_, ?_⟩)))
    | ((with_reducible refine (?_ : (List.all _ _) = true)); rfl)
    | ((with_reducible refine (?_ : (and _ _) = true)); rfl)
    | ((with_reducible refine (?_ : List.Nodup _)); exact nodupB_spec rfl)
    | ((with_reducible refine (?_ : @Eq Nat _ _)); rfl)
    | ((with_reducible refine (?_ : LeOks _ _ _)); first | exact trivial | exact ⟨.refl _, trivial⟩ | exact ⟨.refl _, .refl _, trivial⟩)
    | ((fail_if_success with_reducible refine (?_ : False)); (fail_if_success with_reducible refine (?_ : Nat)); (fail_if_success with_reducible refine (?_ : Nat → Nat → AV)); (fail_if_success with_reducible refine (?_ : Sc _ _)); (fail_if_success with_reducible refine (?_ : Side _)); (fail_if_success with_reducible refine (?_ : Exists _)); (fail_if_success with_reducible refine (?_ : Ends _ _ _ _ _ _ _)); (fail_if_success with_reducible refine (?_ : Alt _ _)); (fail_if_success with_reducible refine (?_ : Le _ _)); (fail_if_success with_reducible refine (?_ : LeAll _ _ _)); (first | with_reducible refine And.intro ?_ ?_ | with_reducible refine Cut.go ?_ | (with_reducible (refine impI ?_; intro _)) | (with_reducible refine (?_ : footOK _ _ = true); kernel_rfl) | (conv => whnf))))
  all_goals try (exact .of (Nat.le_of_ble_eq_true rfl))
  · rename_i h; simp at h
  · refine ⟨Nat, fun i => ([(2, .ptr 0 0), (3, .ptr 1 0), (5, .int .i64 i)], [.box (logC l (evS l.ev)), .box (logC l (evS l.ev))]), fun i => i ≤ l.ev.length, fun i => l.ev.length - i, ⟨0, Nat.zero_le _, .le ⟨rfl, ⟨.refl _, .refl _, trivial⟩, ⟨.refl _, .refl _, .refl _, trivial⟩⟩⟩, fun i hi => ?_⟩
    repeat' (first
      | ((with_reducible refine (?_ : Alt _ _)); first | fail | (with_reducible refine Alt.one ?_))
      | ((with_reducible refine (?_ : AllLe _ _)); first | (first | exact AllLe.refl _ | (repeat' (first | exact trivial | apply Le.aggs | apply Le.tups | exact Le.refl _ | refine ⟨?_, ?_⟩))))
      | ((with_reducible refine (?_ : Sc _ (AllRen _ _ _))); refine Sc.of ?_; (repeat' (first | exact trivial | apply Le.aggs | apply Le.tups | exact Le.refl _ | refine ⟨?_, ?_⟩)))
      | ((with_reducible refine (?_ : (List.all _ _) = true)); rfl)
      | ((with_reducible refine (?_ : (and _ _) = true)); rfl)
      | ((with_reducible refine (?_ : List.Nodup _)); exact nodupB_spec rfl)
      | ((with_reducible refine (?_ : @Eq Nat _ _)); rfl)
      | ((with_reducible refine (?_ : LeOks _ _ _)); first | exact trivial | exact ⟨.refl _, trivial⟩ | exact ⟨.refl _, .refl _, trivial⟩)
      | ((fail_if_success with_reducible refine (?_ : False)); (fail_if_success with_reducible refine (?_ : Nat)); (fail_if_success with_reducible refine (?_ : Nat → Nat → AV)); (fail_if_success with_reducible refine (?_ : Sc _ _)); (fail_if_success with_reducible refine (?_ : Side _)); (fail_if_success with_reducible refine (?_ : Exists _)); (fail_if_success with_reducible refine (?_ : Ends _ _ _ _ _ _ _)); (fail_if_success with_reducible refine (?_ : Alt _ _)); (fail_if_success with_reducible refine (?_ : Le _ _)); (fail_if_success with_reducible refine (?_ : LeAll _ _ _)); (first | with_reducible refine And.intro ?_ ?_ | with_reducible refine Cut.go ?_ | (with_reducible (refine impI ?_; intro _)) | (with_reducible refine (?_ : footOK _ _ = true); kernel_rfl) | (conv => whnf))))
    all_goals try ((with_reducible refine (?_ : Sc _ _)); first
      | exact .of (Nat.le_of_ble_eq_true rfl)
      | exact .of (by decide)
      | ((with_reducible refine Sc.of ?_); (try simp only [decide_eq_true_eq, decide_eq_false_iff_not, beq_iff_eq, bne_iff_ne, beq_eq_false_iff_ne, bne_eq_false_iff_eq, ne_eq, Int.not_lt, Int.not_le, Nat.not_lt, Nat.not_le, Decidable.not_not, Int.toNat_natCast] at *); first | omega | exact ⟨by omega, by omega⟩))
    all_goals try (rename_i h; simp at h; done)
    all_goals (rename_i h; try simp only [decide_eq_true_eq, decide_eq_false_iff_not, beq_iff_eq, bne_iff_ne, beq_eq_false_iff_ne, bne_eq_false_iff_eq, ne_eq, Int.not_lt, Int.not_le, Nat.not_lt, Nat.not_le, Decidable.not_not, Int.toNat_natCast] at h)
    · rename_i hd; have hd := of_decide_eq_true hd; exact ⟨i + 1, (by show i + 1 ≤ l.ev.length; omega), by show l.ev.length - (i + 1) < l.ev.length - i; omega, .le ⟨rfl, ⟨.refl _, .refl _, trivial⟩, ⟨.refl _, .refl _, .refl _, trivial⟩⟩⟩
    · exact .mk [] [] _ rfl (.le (.refl _)) trivial rfl
end
end Go.Fx

/-
  The body of MeterSums.
-/
namespace Go.Fx
open Go.Proofs Go.RowKit
theorem le_log {l : Log} {f : Nat → AV} (h0 : f 0 = .int .i64 l.c) (h1 : f 1 = .int .i64 l.d) (h2 : f 2 = .int .i64 l.t) (h3 : f 3 = evS l.ev) : Le (.agg 4 f) (lgA l) :=
  .agg fun j hj => by
    rcases (show j = 0 ∨ j = 1 ∨ j = 2 ∨ j = 3 by omega) with rfl | rfl | rfl | rfl
    · rw [h0]; exact .refl _
    · rw [h1]; exact .refl _
    · rw [h2]; exact .refl _
    · rw [h3]; exact .refl _
theorem guard_200 {n : Nat} (h : (bif bif decide (30 < (n : Int)) then decide ((n : Int) < 200) else false then true else decide (202 < (n : Int))) = false) : n ≤ 202 := by
  by_cases q : 202 < (n : Int)
  · simp [q] at h
  · omega
section
variable {W0 : World} (hX : (Xc W0 Gt).Good) (haw : Pure (Xc W0 Gt) 10 [] (.bool true))
include hX haw
theorem c4 (l : Log) (n : Int) : Pure (Xc W0 Gt) 4 [lgA l, .int .i64 n] (.bool true) := by
  refine mut_of' hX (show FnIs (Xc W0 Gt) 4 Tryz.f4 (codeOf Tryz.f4) from ⟨by kernel_rfl, by kernel_rfl, by kernel_rfl, by kernel_rfl⟩) rfl ?_
  repeat' (first
    | ((with_reducible refine (?_ : Alt _ _)); first | (with_reducible apply callAlt (haw)) | (with_reducible apply callAlt (c14 hX l ?_)) | (with_reducible apply callAlt (c17 hX l n)) | (with_reducible apply callAlt (c18 hX l)) | (with_reducible apply callAlt (c19 hX l n)) | (with_reducible apply callAlt (c20 hX l)) | (with_reducible apply callAlt (c21 hX (sealL l) ?_)) | (with_reducible refine Alt.one ?_))
    | ((with_reducible refine (?_ : AllLe _ _)); first | (first | exact AllLe.refl _ | (repeat' (first | exact trivial | apply Le.aggs | apply Le.tups | exact Le.refl _ | refine ⟨?_, ?_⟩))))
    | ((with_reducible refine (?_ : Sc _ (AllRen _ _ _))); refine Sc.of ?_; (repeat' (first | exact trivial | apply Le.aggs | apply Le.tups | exact Le.refl _ | refine ⟨?_, ?_⟩)))
    | ((with_reducible refine (?_ : (List.all _ _) = true)); rfl)
    | ((with_reducible refine (?_ : (and _ _) = true)); rfl)
    | ((with_reducible refine (?_ : List.Nodup _)); exact nodupB_spec rfl)
    | ((with_reducible refine (?_ : @Eq Nat _ _)); rfl)
    | ((with_reducible refine (?_ : LeOks _ _ _)); first | exact trivial | exact ⟨.refl _, trivial⟩ | exact ⟨.refl _, .refl _, trivial⟩)
    | ((fail_if_success with_reducible refine (?_ : False)); (fail_if_success with_reducible refine (?_ : Nat)); (fail_if_success with_reducible refine (?_ : Nat → Nat → AV)); (fail_if_success with_reducible refine (?_ : Sc _ _)); (fail_if_success with_reducible refine (?_ : Side _)); (fail_if_success with_reducible refine (?_ : Exists _)); (fail_if_success with_reducible refine (?_ : Ends _ _ _ _ _ _ _)); (fail_if_success with_reducible refine (?_ : Alt _ _)); (fail_if_success with_reducible refine (?_ : Le _ _)); (fail_if_success with_reducible refine (?_ : LeAll _ _ _)); (first | with_reducible refine And.intro ?_ ?_ | with_reducible refine Cut.go ?_ | (with_reducible (refine impI ?_; intro _)) | (with_reducible refine (?_ : footOK _ _ = true); kernel_rfl) | (conv => whnf))))
  all_goals try (exact .of (Nat.le_of_ble_eq_true rfl))
  all_goals try (rename_i h; first | exact absurd h (by decide) | (cases h; done))
  · exact .mk [] [] _ rfl (.le (.refl _)) trivial rfl
  all_goals (rename_i h)
  all_goals (have hb := guard_200 h)
  · exact .mk [] [] _ rfl (.boolT (by simp)) trivial rfl
  · refine .mk ?_
    by_cases q : sealE l = 0
    · rw [seal_ok q]; simp; omega
    · rw [seal_bad rfl q]; decide
  all_goals exact .mk (by omega)
end
end Go.Fx
