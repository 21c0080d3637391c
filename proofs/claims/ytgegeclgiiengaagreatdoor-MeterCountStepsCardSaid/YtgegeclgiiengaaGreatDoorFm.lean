/-
  Small functions of chapter 2; test rides; the body of MeterTests.
-/
import Derived.Test.YtgegeclgiiengaaGreatDoorFf
import Derived.Test.YtgegeclgiiengaaGreatDoorFe

set_option linter.all false

/-
  Small functions of chapter 2: numbers within bounds, quotients.
-/
namespace Go.Fx
open Go.Proofs

/-- A side condition that is left for later. -/
inductive Side (p : Prop) : Prop where
  | mk (h : p)
theorem Side.get {p : Prop} : Side p → p | ⟨h⟩ => h

theorem AllLe.refl : ∀ (l : List AV), AllLe l l
  | [] => trivial
  | a :: l => ⟨.refl a, AllLe.refl l⟩
theorem le_slc2 {f : Nat → Nat → AV} {a b : Int} (h0 : f 0 0 = .int .i64 a) (h1 : f 1 0 = .int .i64 b) : Le (.slc 1 2 f) (.slc 1 [a, b].length (fun i _ => .int .i64 ([a, b].getD i 0))) :=
  .slc fun i j hi hj => by
    obtain rfl : j = 0 := by omega
    rcases (show i = 0 ∨ i = 1 by omega) with rfl | rfl
    · rw [h0]; exact .refl _
    · rw [h1]; exact .refl _
theorem callAlt {X : Ctx} {gd : Option Prop} {f : FuncId} {args bs : List AV} {r : AV} {k : AV → Prop} {q : Prop} (h : Pure X f bs r) (hl : AllLe args bs) (hf : (bs.all (·.free)) = true) (hk : k r) :
    Alt (∃ as1 r1, Sc gd (Pure X f as1 r1) ∧ Sc gd (AllLe args as1) ∧ (as1.all (·.free)) = true ∧ k r1) q := .one ⟨bs, r, .of h, .of hl, hf, hk⟩

def inB (n lo hi : Int) : Bool := bif decide (lo ≤ n) then decide (n ≤ hi) else false
theorem inB_iff {n lo hi : Int} : inB n lo hi = true ↔ lo ≤ n ∧ n ≤ hi := by
  unfold inB
  by_cases h : lo ≤ n <;> simp [h]

theorem ediv_of {n b q r : Int} (hb : 0 < b) (h : n = b * q + r) (h0 : 0 ≤ r) (h1 : r < b) : n / b = q :=
  ((Int.ediv_emod_unique hb).2 ⟨by rw [h]; omega, h0, h1⟩).1
theorem floor_neg {n b : Int} (hb : 0 < b) (h : n.tmod b < 0) : n / b = n.tdiv b - 1 := by
  have h1 := Int.mul_tdiv_add_tmod n b
  have h2 : -b < n.tmod b := by have := Int.lt_tmod_of_pos n hb; omega
  refine ediv_of hb (r := n.tmod b + b) ?_ (by omega) (by omega)
  rw [Int.mul_sub]; omega
theorem floor_pos {n b : Int} (hb : 0 < b) (h : ¬ n.tmod b < 0) : n / b = n.tdiv b := by
  have h1 := Int.mul_tdiv_add_tmod n b
  have h2 : n.tmod b < b := Int.tmod_lt_of_pos n hb
  exact ediv_of hb (r := n.tmod b) (by omega) (by omega) (by omega)
theorem ceil_eq {n b : Int} (hb : 0 < b) : (n + b - 1) / b = -((-n) / b) := by
  have h1 := Int.mul_ediv_add_emod (-n) b
  have h2 := Int.emod_nonneg (-n) (show b ≠ 0 by omega)
  have h3 := Int.emod_lt_of_pos (-n) hb
  refine ediv_of hb (r := b - 1 - (-n) % b) ?_ (by omega) (by omega)
  rw [Int.mul_neg]; omega
theorem div_bd {n b B : Int} (hb : 0 < b) (h0 : -B ≤ n) (h1 : n ≤ B) (hB : 0 ≤ B) : -B ≤ n / b ∧ n / b ≤ B := by
  constructor
  · rw [Int.le_ediv_iff_mul_le hb]
    have : -B * b ≤ -B * 1 := by rw [Int.neg_mul, Int.neg_mul]; have := Int.mul_le_mul_of_nonneg_left (show (1 : Int) ≤ b by omega) hB; omega
    omega
  · refine Int.le_trans (Int.ediv_le_ediv hb h1) ?_
    exact Int.ediv_le_self _ hB
theorem tdiv_bd {n b B : Int} (hb : 0 < b) (h0 : -B ≤ n) (h1 : n ≤ B) (hB : 0 ≤ B) : -B ≤ n.tdiv b ∧ n.tdiv b ≤ B + 1 := by
  have := div_bd hb h0 h1 hB
  by_cases h : n.tmod b < 0
  · have h2 := floor_neg hb h; omega
  · have h2 := floor_pos hb h; omega

section
variable {W0 : World} {G : Nat → Option AV} (hX : (Xc W0 G).Good)
include hX
theorem c49 (n lo hi : Int) : Pure (Xc W0 G) 49 [.int .i64 n, .int .i64 lo, .int .i64 hi] (.bool (inB n lo hi)) := by
  refine mut_of' hX (show FnIs (Xc W0 G) 49 Tryz.f49 (codeOf Tryz.f49) from ⟨by kernel_rfl, by kernel_rfl, by kernel_rfl, by kernel_rfl⟩) rfl ?_
  repeat' (first
    | ((with_reducible refine (?_ : Alt _ _)); first | fail | (with_reducible refine Alt.one ?_))
    | ((with_reducible refine (?_ : AllLe _ _)); first | exact AllLe.refl _ | exact ⟨le_slc2 rfl rfl, trivial⟩)
    | ((with_reducible refine (?_ : (List.all _ _) = true)); rfl)
    | ((fail_if_success with_reducible refine (?_ : Sc _ _)); (fail_if_success with_reducible refine (?_ : Side _)); (fail_if_success with_reducible refine (?_ : Exists _)); (fail_if_success with_reducible refine (?_ : Ends _ _ _ _ _ _ _)); (fail_if_success with_reducible refine (?_ : Alt _ _)); (first | with_reducible refine And.intro ?_ ?_ | with_reducible refine Cut.go ?_ | with_reducible intro _ | (with_reducible refine (?_ : footOK _ _ = true); kernel_rfl) | (conv => whnf))))
  all_goals exact .mk [] [] _ rfl (.le (.refl _)) trivial rfl
theorem c13 (n lo hi : Int) : Pure (Xc W0 G) 13 [.int .i64 n, .int .i64 lo, .int .i64 hi] (.bool (inB n lo hi)) := by
  refine mut_of' hX (show FnIs (Xc W0 G) 13 Tryz.f13 (codeOf Tryz.f13) from ⟨by kernel_rfl, by kernel_rfl, by kernel_rfl, by kernel_rfl⟩) rfl ?_
  repeat' (first
    | ((with_reducible refine (?_ : Alt _ _)); first | fail | (with_reducible refine Alt.one ?_))
    | ((with_reducible refine (?_ : AllLe _ _)); first | exact AllLe.refl _ | exact ⟨le_slc2 rfl rfl, trivial⟩)
    | ((with_reducible refine (?_ : (List.all _ _) = true)); rfl)
    | ((fail_if_success with_reducible refine (?_ : Sc _ _)); (fail_if_success with_reducible refine (?_ : Side _)); (fail_if_success with_reducible refine (?_ : Exists _)); (fail_if_success with_reducible refine (?_ : Ends _ _ _ _ _ _ _)); (fail_if_success with_reducible refine (?_ : Alt _ _)); (first | with_reducible refine And.intro ?_ ?_ | with_reducible refine Cut.go ?_ | with_reducible intro _ | (with_reducible refine (?_ : footOK _ _ = true); kernel_rfl) | (conv => whnf))))
  all_goals exact .mk [] [] _ rfl (.le (.refl _)) trivial rfl
theorem c48 (b : Bool) (e : Int) : Pure (Xc W0 G) 48 [.bool b, .int .i64 e] (.int .i64 (bif b then 0 else e)) := by
  refine mut_of' hX (show FnIs (Xc W0 G) 48 Tryz.f48 (codeOf Tryz.f48) from ⟨by kernel_rfl, by kernel_rfl, by kernel_rfl, by kernel_rfl⟩) rfl ?_
  repeat' (first
    | ((with_reducible refine (?_ : Alt _ _)); first | fail | (with_reducible refine Alt.one ?_))
    | ((with_reducible refine (?_ : AllLe _ _)); first | exact AllLe.refl _ | exact ⟨le_slc2 rfl rfl, trivial⟩)
    | ((with_reducible refine (?_ : (List.all _ _) = true)); rfl)
    | ((fail_if_success with_reducible refine (?_ : Sc _ _)); (fail_if_success with_reducible refine (?_ : Side _)); (fail_if_success with_reducible refine (?_ : Exists _)); (fail_if_success with_reducible refine (?_ : Ends _ _ _ _ _ _ _)); (fail_if_success with_reducible refine (?_ : Alt _ _)); (first | with_reducible refine And.intro ?_ ?_ | with_reducible refine Cut.go ?_ | with_reducible intro _ | (with_reducible refine (?_ : footOK _ _ = true); kernel_rfl) | (conv => whnf))))
  · rename_i h; subst h; exact .mk [] [] _ rfl (.le (.refl _)) trivial rfl
  · rename_i h; subst h; exact .mk [] [] _ rfl (.le (.refl _)) trivial rfl
theorem c67 (n : Int) : Pure (Xc W0 G) 67 [.int .i64 n] (.int .i64 (bif inB n 1 100000 then 0 else 2)) := by
  refine mut_of' hX (show FnIs (Xc W0 G) 67 Tryz.f67 (codeOf Tryz.f67) from ⟨by kernel_rfl, by kernel_rfl, by kernel_rfl, by kernel_rfl⟩) rfl ?_
  repeat' (first
    | ((with_reducible refine (?_ : Alt _ _)); first | (with_reducible apply callAlt (c49 hX _ _ _)) | (with_reducible apply callAlt (c48 hX _ _)) | (with_reducible refine Alt.one ?_))
    | ((with_reducible refine (?_ : AllLe _ _)); first | exact AllLe.refl _ | exact ⟨le_slc2 rfl rfl, trivial⟩)
    | ((with_reducible refine (?_ : (List.all _ _) = true)); rfl)
    | ((fail_if_success with_reducible refine (?_ : Sc _ _)); (fail_if_success with_reducible refine (?_ : Side _)); (fail_if_success with_reducible refine (?_ : Exists _)); (fail_if_success with_reducible refine (?_ : Ends _ _ _ _ _ _ _)); (fail_if_success with_reducible refine (?_ : Alt _ _)); (first | with_reducible refine And.intro ?_ ?_ | with_reducible refine Cut.go ?_ | with_reducible intro _ | (with_reducible refine (?_ : footOK _ _ = true); kernel_rfl) | (conv => whnf))))
  all_goals exact .mk [] [] _ rfl (.le (.refl _)) trivial rfl
theorem c70 (n : Int) : Pure (Xc W0 G) 70 [.int .i64 n] (.bool (inB n 1 100000)) := by
  refine mut_of' hX (show FnIs (Xc W0 G) 70 Tryz.f70 (codeOf Tryz.f70) from ⟨by kernel_rfl, by kernel_rfl, by kernel_rfl, by kernel_rfl⟩) rfl ?_
  repeat' (first
    | ((with_reducible refine (?_ : Alt _ _)); first | (with_reducible apply callAlt (c49 hX _ _ _)) | (with_reducible refine Alt.one ?_))
    | ((with_reducible refine (?_ : AllLe _ _)); first | exact AllLe.refl _ | exact ⟨le_slc2 rfl rfl, trivial⟩)
    | ((with_reducible refine (?_ : (List.all _ _) = true)); rfl)
    | ((fail_if_success with_reducible refine (?_ : Sc _ _)); (fail_if_success with_reducible refine (?_ : Side _)); (fail_if_success with_reducible refine (?_ : Exists _)); (fail_if_success with_reducible refine (?_ : Ends _ _ _ _ _ _ _)); (fail_if_success with_reducible refine (?_ : Alt _ _)); (first | with_reducible refine And.intro ?_ ?_ | with_reducible refine Cut.go ?_ | with_reducible intro _ | (with_reducible refine (?_ : footOK _ _ = true); kernel_rfl) | (conv => whnf))))
  all_goals exact .mk [] [] _ rfl (.le (.refl _)) trivial rfl
theorem c71 (n : Int) : Pure (Xc W0 G) 71 [.int .i64 n] (.bool (inB n 0 100)) := by
  refine mut_of' hX (show FnIs (Xc W0 G) 71 Tryz.f71 (codeOf Tryz.f71) from ⟨by kernel_rfl, by kernel_rfl, by kernel_rfl, by kernel_rfl⟩) rfl ?_
  repeat' (first
    | ((with_reducible refine (?_ : Alt _ _)); first | (with_reducible apply callAlt (c49 hX _ _ _)) | (with_reducible refine Alt.one ?_))
    | ((with_reducible refine (?_ : AllLe _ _)); first | exact AllLe.refl _ | exact ⟨le_slc2 rfl rfl, trivial⟩)
    | ((with_reducible refine (?_ : (List.all _ _) = true)); rfl)
    | ((fail_if_success with_reducible refine (?_ : Sc _ _)); (fail_if_success with_reducible refine (?_ : Side _)); (fail_if_success with_reducible refine (?_ : Exists _)); (fail_if_success with_reducible refine (?_ : Ends _ _ _ _ _ _ _)); (fail_if_success with_reducible refine (?_ : Alt _ _)); (first | with_reducible refine And.intro ?_ ?_ | with_reducible refine Cut.go ?_ | with_reducible intro _ | (with_reducible refine (?_ : footOK _ _ = true); kernel_rfl) | (conv => whnf))))
  all_goals exact .mk [] [] _ rfl (.le (.refl _)) trivial rfl
theorem c38 (n : Int) : Pure (Xc W0 G) 38 [.int .i64 n] (.int .i64 (bif inB n 1 100000 then 0 else 2)) := by
  refine mut_of' hX (show FnIs (Xc W0 G) 38 Tryz.f38 (codeOf Tryz.f38) from ⟨by kernel_rfl, by kernel_rfl, by kernel_rfl, by kernel_rfl⟩) rfl ?_
  repeat' (first
    | ((with_reducible refine (?_ : Alt _ _)); first | (with_reducible apply callAlt (c13 hX _ _ _)) | (with_reducible refine Alt.one ?_))
    | ((with_reducible refine (?_ : AllLe _ _)); first | exact AllLe.refl _ | exact ⟨le_slc2 rfl rfl, trivial⟩)
    | ((with_reducible refine (?_ : (List.all _ _) = true)); rfl)
    | ((fail_if_success with_reducible refine (?_ : Sc _ _)); (fail_if_success with_reducible refine (?_ : Side _)); (fail_if_success with_reducible refine (?_ : Exists _)); (fail_if_success with_reducible refine (?_ : Ends _ _ _ _ _ _ _)); (fail_if_success with_reducible refine (?_ : Alt _ _)); (first | with_reducible refine And.intro ?_ ?_ | with_reducible refine Cut.go ?_ | with_reducible intro _ | (with_reducible refine (?_ : footOK _ _ = true); kernel_rfl) | (conv => whnf))))
  · rename_i h; simp only [Bool.not_eq_true'] at h; rw [h]; exact .mk [] [] _ rfl (.le (.refl _)) trivial rfl
  · rename_i h; simp only [Bool.not_eq_false'] at h; rw [h]; exact .mk [] [] _ rfl (.le (.refl _)) trivial rfl
theorem c73 (n b : Int) (hs : Side (-1000000000000000 ≤ n ∧ n ≤ 1000000000000000 ∧ 0 < b ∧ b ≤ 1000000000000000)) : Pure (Xc W0 G) 73 [.int .i64 n, .int .i64 b] (.int .i64 (n / b)) := by
  obtain ⟨h0, h1, hb, h2⟩ := hs.get
  obtain ⟨h3, h4⟩ := tdiv_bd hb h0 h1 (by omega)
  refine mut_of' hX (show FnIs (Xc W0 G) 73 Tryz.f73 (codeOf Tryz.f73) from ⟨by kernel_rfl, by kernel_rfl, by kernel_rfl, by kernel_rfl⟩) rfl ?_
  repeat' (first
    | ((with_reducible refine (?_ : Alt _ _)); first | fail | (with_reducible refine Alt.one ?_))
    | ((with_reducible refine (?_ : AllLe _ _)); first | exact AllLe.refl _ | exact ⟨le_slc2 rfl rfl, trivial⟩)
    | ((with_reducible refine (?_ : (List.all _ _) = true)); rfl)
    | ((fail_if_success with_reducible refine (?_ : Sc _ _)); (fail_if_success with_reducible refine (?_ : Side _)); (fail_if_success with_reducible refine (?_ : Exists _)); (fail_if_success with_reducible refine (?_ : Ends _ _ _ _ _ _ _)); (fail_if_success with_reducible refine (?_ : Alt _ _)); (first | with_reducible refine And.intro ?_ ?_ | with_reducible refine Cut.go ?_ | with_reducible intro _ | (with_reducible refine (?_ : footOK _ _ = true); kernel_rfl) | (conv => whnf))))
  all_goals first
    | (refine Sc.of ?_; first | exact (show b ≠ 0 by omega) | exact ⟨by omega, by omega⟩)
    | skip
  · rename_i h; rw [floor_neg hb (of_decide_eq_true h)]; exact .mk [] [] _ rfl (.le (.refl _)) trivial rfl
  · rename_i h; rw [floor_pos hb (of_decide_eq_false h)]; exact .mk [] [] _ rfl (.le (.refl _)) trivial rfl
theorem c74 (n b : Int) (hs : Side (-1000000000000000 ≤ n ∧ n ≤ 1000000000000000 ∧ 0 < b ∧ b ≤ 1000000000000000)) : Pure (Xc W0 G) 74 [.int .i64 n, .int .i64 b] (.int .i64 (-((-n) / b))) := by
  obtain ⟨h0, h1, hb, h2⟩ := hs.get
  obtain ⟨h3, h4⟩ := div_bd (n := -n) (B := 1000000000000000) hb (by omega) (by omega) (by omega)
  refine mut_of' hX (show FnIs (Xc W0 G) 74 Tryz.f74 (codeOf Tryz.f74) from ⟨by kernel_rfl, by kernel_rfl, by kernel_rfl, by kernel_rfl⟩) rfl ?_
  repeat' (first
    | ((with_reducible refine (?_ : Alt _ _)); first | (with_reducible apply callAlt (c73 hX _ _ ?_)) | (with_reducible refine Alt.one ?_))
    | ((with_reducible refine (?_ : AllLe _ _)); first | exact AllLe.refl _ | exact ⟨le_slc2 rfl rfl, trivial⟩)
    | ((with_reducible refine (?_ : (List.all _ _) = true)); rfl)
    | ((fail_if_success with_reducible refine (?_ : Sc _ _)); (fail_if_success with_reducible refine (?_ : Side _)); (fail_if_success with_reducible refine (?_ : Exists _)); (fail_if_success with_reducible refine (?_ : Ends _ _ _ _ _ _ _)); (fail_if_success with_reducible refine (?_ : Alt _ _)); (first | with_reducible refine And.intro ?_ ?_ | with_reducible refine Cut.go ?_ | with_reducible intro _ | (with_reducible refine (?_ : footOK _ _ = true); kernel_rfl) | (conv => whnf))))
  all_goals first
    | (refine Sc.of ?_; exact ⟨by omega, by omega⟩)
    | exact ⟨by omega, by omega, by omega, by omega⟩
    | exact .mk [] [] _ rfl (.le (.refl _)) trivial rfl
theorem c69 (n b : Int) (hs : Side (0 ≤ n ∧ n ≤ 1000000000000000 ∧ 0 < b ∧ b ≤ 1000000000000000)) : Pure (Xc W0 G) 69 [.int .i64 n, .int .i64 b] (.agg 2 (tbl [.int .i64 (n / b), .int .i64 (-((-n) / b))])) := by
  obtain ⟨h0, h1, hb, h2⟩ := hs.get
  obtain ⟨h3, h4⟩ := tdiv_bd (n := n) (B := 1000000000000000) hb (by omega) h1 (by omega)
  obtain ⟨h3', h4'⟩ := tdiv_bd (n := n + b - 1) (B := 2000000000000000) hb (by omega) (by omega) (by omega)
  have h5 : n.tdiv b = n / b := Int.tdiv_eq_ediv_of_nonneg h0
  have h6 : (n + b - 1).tdiv b = -((-n) / b) := by rw [Int.tdiv_eq_ediv_of_nonneg (by omega), ceil_eq hb]
  refine mut_of' hX (show FnIs (Xc W0 G) 69 Tryz.f69 (codeOf Tryz.f69) from ⟨by kernel_rfl, by kernel_rfl, by kernel_rfl, by kernel_rfl⟩) rfl ?_
  repeat' (first
    | ((with_reducible refine (?_ : Alt _ _)); first | fail | (with_reducible refine Alt.one ?_))
    | ((with_reducible refine (?_ : AllLe _ _)); first | exact AllLe.refl _ | exact ⟨le_slc2 rfl rfl, trivial⟩)
    | ((with_reducible refine (?_ : (List.all _ _) = true)); rfl)
    | ((fail_if_success with_reducible refine (?_ : Sc _ _)); (fail_if_success with_reducible refine (?_ : Side _)); (fail_if_success with_reducible refine (?_ : Exists _)); (fail_if_success with_reducible refine (?_ : Ends _ _ _ _ _ _ _)); (fail_if_success with_reducible refine (?_ : Alt _ _)); (first | with_reducible refine And.intro ?_ ?_ | with_reducible refine Cut.go ?_ | with_reducible intro _ | (with_reducible refine (?_ : footOK _ _ = true); kernel_rfl) | (conv => whnf))))
  all_goals first
    | (refine Sc.of ?_; first | exact (show b ≠ 0 by omega) | exact ⟨by omega, by omega⟩ | exact Nat.le_of_ble_eq_true rfl)
    | skip
  refine .mk [] [] _ rfl (.le (.aggs ?_)) trivial rfl
  rw [← h5, ← h6]
  exact ⟨⟨trivial, .refl _⟩, .refl _⟩
end
end Go.Fx

/-
  Contracts told in other words; calls that turn blocks, or look at them.
-/
namespace Go.Fx
open Go.RowKit

theorem Le.fns {F : FuncId} {n : Nat} {f g : Nat → AV} (h : LeAll f g n) : Le (.fn F n f) (.fn F n g) := .fn h.out
theorem propI {a : Prop} (h : a) : a := h
theorem impI {a b : Prop} (h : a → b) : a → b := h

section
variable {X : Ctx} {f : FuncId}

/-- An empty slice as an own list. -/
theorem Mut.slc0_own {args : List AV} {e es : Nat} {g : Nat → Nat → AV} (h : Pure X f args .slc0) : Mut X f args [] (.own 0 1) [.list e es 0 g 1] := by
  refine ⟨h.1, fun c cargs hok hb hL hsz hargs => (h.2 c cargs hok hb hL hsz hargs).mono fun x w' ⟨v, c', h1, h2, h3, h4, h5⟩ => ?_⟩
  obtain ⟨a, rfl⟩ := h5
  have t2 := Tr.add (w' := c'.w) (x := ⟨0, .slice a 0 0, 1⟩) (o' := .list e es 0 g 1) h3.ok rfl rfl rfl (Nat.le_refl _) (fun b _ => rfl)
    (fun b hb => by simp [blk, upd_same, vblk] at hb)
    ⟨by rw [upd_same], Nat.one_pos, [], .inl ⟨rfl, rfl, a, by rw [upd_same]⟩, by simp, fun i j hi => by omega⟩
  have hl : c'.H.length = 0 := by rw [h4]; rfl
  refine ⟨_, ⟨upd c'.g c'.H.length ⟨0, .slice a 0 0, 1⟩, c'.I, c'.w, c'.H ++ [.list e es 0 g 1]⟩, h1, h2, h3.trans t2, by simp [h4], by simp, ?_, rfl, fun _ => ?_⟩
  · show 1 ≤ (upd c'.g c'.H.length _ 0).ver; rw [hl, upd_same]; exact Nat.le_refl _
  · show _ = (upd c'.g c'.H.length _ 0).v; rw [hl, upd_same]

/-- What a call leaves, frozen. -/
theorem Mut.freeze {args : List AV} {r r2 : AV} {L : List HObj} (h : Mut X f args [] r L) (F : List Nat) (hr : LeH (only F L) r (ren (numOf []) r2)) (hu : r2.under 0 = true) : Pure X f args r2 := by
  refine ⟨h.1, fun c cargs hok hb hL hsz hargs => (h.2 c cargs hok hb hL hsz hargs).mono fun x w' ⟨v, c', h1, h2, h3, h4, h5⟩ => ?_⟩
  have sat : Sat X 0 c [] L c' { tmps := #[], defers := [] } := ⟨h3, hb.tr h3, h4, fun t => trivial, rfl, [], rfl, List.nodup_nil, by simp⟩
  have h0 : c.H.length = 0 := by rw [hL]; rfl
  obtain ⟨c2, k1, k2, _, k3, k4⟩ := freeze_sound (keep := []) (F := F) (L' := []) sat (by rw [h0]; trivial) rfl (by rw [h0]; rfl)
  rw [h0] at k4
  exact ⟨v, c2, h1, k1.trans h2, k2, k3, k4 h5 hr hu⟩

/-- An argument told value by value. -/
theorem Mut.vals {av : AV} {L : List HObj} {r : AV} {L' : List HObj} (Pr : Value → Prop) (he : Enters X.P f) (hp : ∀ (g : Nat → GO) (I : Nat → Nat → Prop) (w : World) (m : Nat) (v : Value), Reads g I w av m v → Pr v) (h : ∀ v, Pr v → Mut X f [.val v] L r L') : Mut X f [av] L r L' :=
  ⟨he, fun c cargs hok hb hL hsz hargs => by
    obtain ⟨v, h1, h2⟩ := hargs 0 av rfl
    refine (h v (hp _ _ _ _ _ h2)).2 c cargs hok hb hL hsz fun j b hj => ?_
    cases j with
    | zero => simp at hj; subst hj; exact ⟨v, h1, rfl⟩
    | succ j => simp at hj⟩

theorem callAltS {gd : Option Prop} {args bs : List AV} {r : AV} {k : AV → Prop} {q : Prop} (h : Sc gd (Pure X f bs r)) (hl : AllLe args bs) (hf : (bs.all (·.free)) = true) (hk : k r) :
    Alt (∃ as1 r1, Sc gd (Pure X f as1 r1) ∧ Sc gd (AllLe args as1) ∧ (as1.all (·.free)) = true ∧ k r1) q := .one ⟨bs, r, h, .of hl, hf, hk⟩
theorem callAltH {gd : Option Prop} {G : List HObj} {args bs : List AV} {r : AV} {k : AV → Prop} {p q : Prop} (h : Pure X f bs r) (hl : AllLeH G args bs) (hf : (bs.all (·.free)) = true) (hr : r.flat = true) (hk : k r) :
    Alt p (Alt (∃ as1 r1, Sc gd (Pure X f as1 r1) ∧ Sc gd (AllLeH G args as1) ∧ (as1.all (·.free)) = true ∧ r1.flat = true ∧ k r1) q) := .two (.one ⟨bs, r, .of h, .of hl, hf, hr, hk⟩)
theorem callAltM {gd : Option Prop} {H : List HObj} {args bs : List AV} {Ls : List HObj} {r : AV} {L' : List HObj} {k : AV → List Rg → List W → Nat → Prop} {p q : Prop} (ks : List Nat) (m : Nat) (h : Mut X f bs Ls r L') (hl : AllRen (numOf (ks ++ List.range' H.length m)) args bs)
    (hu : ((bs.all (·.under ks.length)) && (Ls.all (·.under ks.length)) && ((L'.drop ks.length).all (·.live))) = true) (hn : nodupB (ks ++ List.range' H.length m) = true) (h1 : Nat.beq Ls.length ks.length = true) (h2 : Nat.beq L'.length (ks.length + m) = true)
    (ho : LeOks H ks (Ls.map (renO (numOf (ks ++ List.range' H.length m)))))
    (hk : k (ren (numOf (ks ++ List.range' H.length m)) r) ((ks ++ List.range' H.length m).map fun q => ⟨q, 0, none⟩) (((ks ++ List.range' H.length m).zip (L'.map (renO (numOf (ks ++ List.range' H.length m))))).map fun x => .set x.1 x.2) m) :
    Alt p (Alt q (∃ zs ks m Ls r L', Sc gd (Mut X f zs Ls r L') ∧ Sc gd (AllRen (numOf (ks ++ List.range' H.length m)) args zs) ∧ ((zs.all (·.under ks.length)) && (Ls.all (·.under ks.length)) && ((L'.drop ks.length).all (·.live))) = true ∧
      ((ks ++ List.range' H.length m).Nodup ∧ Ls.length = ks.length ∧ L'.length = ks.length + m) ∧ LeOks H ks (Ls.map (renO (numOf (ks ++ List.range' H.length m)))) ∧
      k (ren (numOf (ks ++ List.range' H.length m)) r) ((ks ++ List.range' H.length m).map fun q => ⟨q, 0, none⟩) (((ks ++ List.range' H.length m).zip (L'.map (renO (numOf (ks ++ List.range' H.length m))))).map fun x => .set x.1 x.2) m)) :=
  .two (.two ⟨bs, ks, m, Ls, r, L', .of h, .of hl, hu, ⟨nodupB_spec hn, Nat.eq_of_beq_eq_true h1, Nat.eq_of_beq_eq_true h2⟩, ho, hk⟩)
theorem altM {P : List AV → List Nat → Nat → List HObj → AV → List HObj → Prop} {p q : Prop} {zs : List AV} {ks : List Nat} {m : Nat} {Ls : List HObj} {r : AV} {L' : List HObj} (h : P zs ks m Ls r L') : Alt p (Alt q (∃ zs ks m Ls r L', P zs ks m Ls r L')) := .two (.two ⟨_, _, _, _, _, _, h⟩)
end
end Go.Fx

namespace Go.Fx
open Go.Proofs
/-- The first number that is not 0. -/
def firstS : List Int → Int
  | [] => 0
  | x :: r => bif decide (x = 0) then firstS r else x
theorem firstS_hit : ∀ {l : List Int} {i : Nat}, i < l.length → (∀ j, j < i → l.getD j 0 = 0) → l.getD i 0 ≠ 0 → firstS l = l.getD i 0
  | x :: r, 0, _, _, h => by
    have h : x ≠ 0 := h
    simp [firstS, h]
  | x :: r, i + 1, hi, h0, h => by
    have hx : x = 0 := h0 0 (by omega)
    simp only [firstS, hx, decide_true, cond_true]
    exact firstS_hit (l := r) (by simpa using hi) (fun j hj => h0 (j + 1) (by omega)) h
theorem firstS_none : ∀ {l : List Int}, (∀ j, j < l.length → l.getD j 0 = 0) → firstS l = 0
  | [], _ => rfl
  | x :: r, h => by
    have hx : x = 0 := h 0 (by simp)
    simp only [firstS, hx, decide_true, cond_true]
    exact firstS_none (l := r) fun j hj => h (j + 1) (by simpa using hj)
/-- Metres of pulses; pulses for metres. -/
def metOk (c p : Int) : Bool := inB c 1 100000 && inB p 0 20000000
@[irreducible] def metLo (c p : Int) : Int := bif metOk c p then 1000 * p / c else 0
@[irreducible] def metHi (c p : Int) : Int := bif metOk c p then -((-(1000 * p)) / c) else 0
@[irreducible] def metEr (c p : Int) : Int := bif metOk c p then 0 else 2
def metA (c p : Int) : AV := .tup 2 (tbl [.agg 2 (tbl [.int .i64 (metLo c p), .int .i64 (metHi c p)]), .int .i64 (metEr c p)])
def pulOk (c m p : Int) : Bool := inB c 1 100000 && (inB m 1 100000 && inB p 0 100)
@[irreducible] def pulLo (c m p : Int) : Int := bif pulOk c m p then c * m * (1000 - p) / 1000000 else 0
@[irreducible] def pulHi (c m p : Int) : Int := bif pulOk c m p then -((-(c * m * (1000 + p))) / 1000000) else 0
@[irreducible] def pulEr (c m p : Int) : Int := bif pulOk c m p then 0 else 2
def pulA (c m p : Int) : AV := .tup 2 (tbl [.agg 2 (tbl [.int .i64 (pulLo c m p), .int .i64 (pulHi c m p)]), .int .i64 (pulEr c m p)])
theorem mul_bd {a b A B : Int} (h0 : 0 ≤ a) (h1 : a ≤ A) (h2 : 0 ≤ b) (h3 : b ≤ B) : 0 ≤ a * b ∧ a * b ≤ A * B :=
  ⟨Int.mul_nonneg h0 h2, Int.mul_le_mul h1 h3 h2 (Int.le_trans h0 h1)⟩
section
variable {W0 : World} {G : Nat → Option AV} (hX : (Xc W0 G).Good)
include hX
theorem c47 (l : List Int) (hn : l.length < 1000000) : Pure (Xc W0 G) 47 [.slc 1 l.length (fun i _ => .int .i64 (l.getD i 0))] (.int .i64 (firstS l)) := by
  refine mut_of' hX (show FnIs (Xc W0 G) 47 Tryz.f47 (codeOf Tryz.f47) from ⟨by kernel_rfl, by kernel_rfl, by kernel_rfl, by kernel_rfl⟩) rfl ?_
  repeat' (first
    | ((with_reducible refine (?_ : Alt _ _)); first | fail | (with_reducible refine Alt.one ?_))
    | ((with_reducible refine (?_ : AllLe _ _)); first | exact AllLe.refl _ | exact ⟨le_slc2 rfl rfl, trivial⟩)
    | ((with_reducible refine (?_ : (List.all _ _) = true)); rfl)
    | ((fail_if_success with_reducible refine (?_ : Sc _ _)); (fail_if_success with_reducible refine (?_ : Side _)); (fail_if_success with_reducible refine (?_ : Exists _)); (fail_if_success with_reducible refine (?_ : Ends _ _ _ _ _ _ _)); (fail_if_success with_reducible refine (?_ : Alt _ _)); (first | with_reducible refine And.intro ?_ ?_ | with_reducible refine Cut.go ?_ | with_reducible intro _ | (with_reducible refine (?_ : footOK _ _ = true); kernel_rfl) | (conv => whnf))))
  refine ⟨Nat, fun i => ([(7, .int .i64 i), (6, .int .i64 l.length), (5, .slc 1 l.length (fun i _ => .int .i64 (l.getD i 0)))], []), fun i => i ≤ l.length ∧ ∀ j, j < i → l.getD j 0 = 0, fun i => l.length - i, ⟨0, ⟨Nat.zero_le _, fun _ h => by omega⟩, .le ⟨rfl, trivial, ⟨.refl _, .refl _, .refl _, trivial⟩⟩⟩, fun i ⟨hi, h0⟩ => ?_⟩
  repeat' (first
    | ((with_reducible refine (?_ : Alt _ _)); first | fail | (with_reducible refine Alt.one ?_))
    | ((with_reducible refine (?_ : AllLe _ _)); first | exact AllLe.refl _ | exact ⟨le_slc2 rfl rfl, trivial⟩)
    | ((with_reducible refine (?_ : (List.all _ _) = true)); rfl)
    | ((fail_if_success with_reducible refine (?_ : Sc _ _)); (fail_if_success with_reducible refine (?_ : Side _)); (fail_if_success with_reducible refine (?_ : Exists _)); (fail_if_success with_reducible refine (?_ : Ends _ _ _ _ _ _ _)); (fail_if_success with_reducible refine (?_ : Alt _ _)); (first | with_reducible refine And.intro ?_ ?_ | with_reducible refine Cut.go ?_ | with_reducible intro _ | (with_reducible refine (?_ : footOK _ _ = true); kernel_rfl) | (conv => whnf))))
  · rename_i h; have := of_decide_eq_true h; exact .of ⟨by omega, by omega⟩
  · exact .of (Nat.le_of_ble_eq_true rfl)
  · rename_i h1 h2
    have := of_decide_eq_true h1
    simp only [Int.toNat_natCast, bne_iff_ne] at h2
    rw [firstS_hit (by omega) h0 h2]
    exact .mk [] [] _ rfl (.le (.refl _)) trivial rfl
  · rename_i h1 h2; have := of_decide_eq_true h1; exact .of ⟨by omega, by omega⟩
  · rename_i h1 h2
    have := of_decide_eq_true h1
    simp only [Int.toNat_natCast, bne_eq_false_iff_eq] at h2
    refine ⟨i + 1, ⟨by omega, fun j hj => ?_⟩, by show l.length - (i + 1) < l.length - i; omega, .le ⟨rfl, trivial, ⟨.refl _, .refl _, .refl _, trivial⟩⟩⟩
    rcases Nat.lt_succ_iff_lt_or_eq.1 hj with h | h
    · exact h0 j h
    · rw [h]; exact h2
  · rename_i h1
    have := of_decide_eq_false h1
    rw [firstS_none (fun j hj => h0 j (by omega))]
    exact .mk [] [] _ rfl (.le (.refl _)) trivial rfl
theorem c47b (a b : Int) : Pure (Xc W0 G) 47 [.slc 1 [a, b].length (fun i _ => .int .i64 ([a, b].getD i 0))] (.int .i64 (firstS [a, b])) := c47 hX [a, b] (show 2 < 1000000 by decide)
theorem c72 (c m p : Int) (hs : Side (1 ≤ c ∧ c ≤ 100000 ∧ 1 ≤ m ∧ m ≤ 100000 ∧ 0 ≤ p ∧ p ≤ 100)) : Pure (Xc W0 G) 72 [.int .i64 c, .int .i64 m, .int .i64 p] (.agg 2 (tbl [.int .i64 (c * m * (1000 - p) / 1000000), .int .i64 (-((-(c * m * (1000 + p))) / 1000000))])) := by
  obtain ⟨h0, h1, h2, h3, h4, h5⟩ := hs.get
  obtain ⟨a0, a1⟩ := mul_bd (A := 100000) (B := 100000) (by omega) h1 (by omega) h3
  obtain ⟨b0, b1⟩ := mul_bd (a := c * m) (b := 1000 - p) (A := 10000000000) (B := 1000) a0 a1 (by omega) (by omega)
  obtain ⟨d0, d1⟩ := mul_bd (a := c * m) (b := 1000 + p) (A := 10000000000) (B := 1100) a0 a1 (by omega) (by omega)
  refine mut_of' hX (show FnIs (Xc W0 G) 72 Tryz.f72 (codeOf Tryz.f72) from ⟨by kernel_rfl, by kernel_rfl, by kernel_rfl, by kernel_rfl⟩) rfl ?_
  repeat' (first
    | ((with_reducible refine (?_ : Alt _ _)); first | (with_reducible apply callAlt (c69 hX _ _ ?_)) | (with_reducible refine Alt.one ?_))
    | ((with_reducible refine (?_ : AllLe _ _)); first | exact AllLe.refl _ | exact ⟨le_slc2 rfl rfl, trivial⟩)
    | ((with_reducible refine (?_ : (List.all _ _) = true)); rfl)
    | ((fail_if_success with_reducible refine (?_ : Sc _ _)); (fail_if_success with_reducible refine (?_ : Side _)); (fail_if_success with_reducible refine (?_ : Exists _)); (fail_if_success with_reducible refine (?_ : Ends _ _ _ _ _ _ _)); (fail_if_success with_reducible refine (?_ : Alt _ _)); (first | with_reducible refine And.intro ?_ ?_ | with_reducible refine Cut.go ?_ | with_reducible intro _ | (with_reducible refine (?_ : footOK _ _ = true); kernel_rfl) | (conv => whnf))))
  all_goals first
    | exact .mk ⟨by omega, by omega, by omega, by omega⟩
    | (refine Sc.of ?_; first | exact ⟨by omega, by omega⟩ | exact Nat.le_of_ble_eq_true rfl)
    | exact .mk [] [] _ rfl (.le (.aggs ⟨⟨trivial, .refl _⟩, .refl _⟩)) trivial rfl
theorem c75 (c m p : Int) (hs : Side (1 ≤ c ∧ c ≤ 100000 ∧ 1 ≤ m ∧ m ≤ 100000 ∧ 0 ≤ p ∧ p ≤ 100)) : Pure (Xc W0 G) 75 [.int .i64 c, .int .i64 m, .int .i64 p] (.agg 2 (tbl [.int .i64 (c * m * (1000 - p) / 1000000), .int .i64 (-((-(c * m * (1000 + p))) / 1000000))])) := by
  obtain ⟨h0, h1, h2, h3, h4, h5⟩ := hs.get
  obtain ⟨a0, a1⟩ := mul_bd (A := 100000) (B := 100000) (by omega) h1 (by omega) h3
  obtain ⟨b0, b1⟩ := mul_bd (a := c * m) (b := 1000 - p) (A := 10000000000) (B := 1000) a0 a1 (by omega) (by omega)
  obtain ⟨d0, d1⟩ := mul_bd (a := c * m) (b := 1000 + p) (A := 10000000000) (B := 1100) a0 a1 (by omega) (by omega)
  refine mut_of' hX (show FnIs (Xc W0 G) 75 Tryz.f75 (codeOf Tryz.f75) from ⟨by kernel_rfl, by kernel_rfl, by kernel_rfl, by kernel_rfl⟩) rfl ?_
  repeat' (first
    | ((with_reducible refine (?_ : Alt _ _)); first | (with_reducible apply callAlt (c73 hX _ _ ?_)) | (with_reducible apply callAlt (c74 hX _ _ ?_)) | (with_reducible refine Alt.one ?_))
    | ((with_reducible refine (?_ : AllLe _ _)); first | exact AllLe.refl _ | exact ⟨le_slc2 rfl rfl, trivial⟩)
    | ((with_reducible refine (?_ : (List.all _ _) = true)); rfl)
    | ((fail_if_success with_reducible refine (?_ : Sc _ _)); (fail_if_success with_reducible refine (?_ : Side _)); (fail_if_success with_reducible refine (?_ : Exists _)); (fail_if_success with_reducible refine (?_ : Ends _ _ _ _ _ _ _)); (fail_if_success with_reducible refine (?_ : Alt _ _)); (first | with_reducible refine And.intro ?_ ?_ | with_reducible refine Cut.go ?_ | with_reducible intro _ | (with_reducible refine (?_ : footOK _ _ = true); kernel_rfl) | (conv => whnf))))
  all_goals first
    | exact .mk ⟨by omega, by omega, by omega, by omega⟩
    | (refine Sc.of ?_; first | exact ⟨by omega, by omega⟩ | exact Nat.le_of_ble_eq_true rfl)
    | exact .mk [] [] _ rfl (.le (.aggs ⟨⟨trivial, .refl _⟩, .refl _⟩)) trivial rfl
theorem c28 (c p : Int) : Pure (Xc W0 G) 28 [.int .i64 c, .int .i64 p] (metA c p) := by
  refine mut_of' hX (show FnIs (Xc W0 G) 28 Tryz.f28 (codeOf Tryz.f28) from ⟨by kernel_rfl, by kernel_rfl, by kernel_rfl, by kernel_rfl⟩) rfl ?_
  repeat' (first
    | ((with_reducible refine (?_ : Alt _ _)); first | (with_reducible apply callAlt (c67 hX _)) | (with_reducible apply callAlt (c49 hX _ _ _)) | (with_reducible apply callAlt (c48 hX _ _)) | (with_reducible apply callAlt (c69 hX _ _ ?_)) | (with_reducible apply callAlt (c47b hX _ _)) | (with_reducible refine Alt.one ?_))
    | ((with_reducible refine (?_ : AllLe _ _)); first | exact AllLe.refl _ | exact ⟨le_slc2 rfl rfl, trivial⟩)
    | ((with_reducible refine (?_ : (List.all _ _) = true)); rfl)
    | ((fail_if_success with_reducible refine (?_ : Sc _ _)); (fail_if_success with_reducible refine (?_ : Side _)); (fail_if_success with_reducible refine (?_ : Exists _)); (fail_if_success with_reducible refine (?_ : Ends _ _ _ _ _ _ _)); (fail_if_success with_reducible refine (?_ : Alt _ _)); (first | with_reducible refine And.intro ?_ ?_ | with_reducible refine Cut.go ?_ | with_reducible intro _ | (with_reducible refine (?_ : footOK _ _ = true); kernel_rfl) | (conv => whnf))))
  all_goals try (exact .of (Nat.le_of_ble_eq_true rfl))
  all_goals (cases h0 : inB c 1 100000 <;> cases h1 : inB p 0 20000000)
  all_goals try (exfalso; simp_all [firstS]; done)
  all_goals first
    | ((with_reducible refine (?_ : Ends _ _ _ _ _ _ _)); unfold metA metLo metHi metEr metOk; simp only [h0, h1]; exact .mk [] [] _ rfl (.le (.tups ⟨⟨trivial, .aggs ⟨⟨trivial, .refl _⟩, .refl _⟩⟩, .refl _⟩)) trivial rfl)
    | (obtain ⟨a0, b0⟩ := inB_iff.1 h0; obtain ⟨a1, b1⟩ := inB_iff.1 h1; first | exact .of ⟨by omega, by omega⟩ | exact .mk ⟨by omega, by omega, by omega, by omega⟩ | exact .mk ⟨by omega, by omega, by omega, by omega, by omega, by omega⟩)
theorem c30 (c p : Int) : Pure (Xc W0 G) 30 [.int .i64 c, .int .i64 p] (metA c p) := by
  refine mut_of' hX (show FnIs (Xc W0 G) 30 Tryz.f30 (codeOf Tryz.f30) from ⟨by kernel_rfl, by kernel_rfl, by kernel_rfl, by kernel_rfl⟩) rfl ?_
  repeat' (first
    | ((with_reducible refine (?_ : Alt _ _)); first | (with_reducible apply callAlt (c38 hX _)) | (with_reducible apply callAlt (c13 hX _ _ _)) | (with_reducible apply callAlt (c73 hX _ _ ?_)) | (with_reducible apply callAlt (c74 hX _ _ ?_)) | (with_reducible refine Alt.one ?_))
    | ((with_reducible refine (?_ : AllLe _ _)); first | exact AllLe.refl _ | exact ⟨le_slc2 rfl rfl, trivial⟩)
    | ((with_reducible refine (?_ : (List.all _ _) = true)); rfl)
    | ((fail_if_success with_reducible refine (?_ : Sc _ _)); (fail_if_success with_reducible refine (?_ : Side _)); (fail_if_success with_reducible refine (?_ : Exists _)); (fail_if_success with_reducible refine (?_ : Ends _ _ _ _ _ _ _)); (fail_if_success with_reducible refine (?_ : Alt _ _)); (first | with_reducible refine And.intro ?_ ?_ | with_reducible refine Cut.go ?_ | with_reducible intro _ | (with_reducible refine (?_ : footOK _ _ = true); kernel_rfl) | (conv => whnf))))
  all_goals try (exact .of (Nat.le_of_ble_eq_true rfl))
  all_goals (cases h0 : inB c 1 100000 <;> cases h1 : inB p 0 20000000)
  all_goals try (exfalso; simp_all [firstS]; done)
  all_goals first
    | ((with_reducible refine (?_ : Ends _ _ _ _ _ _ _)); unfold metA metLo metHi metEr metOk; simp only [h0, h1]; exact .mk [] [] _ rfl (.le (.tups ⟨⟨trivial, .aggs ⟨⟨trivial, .refl _⟩, .refl _⟩⟩, .refl _⟩)) trivial rfl)
    | (obtain ⟨a0, b0⟩ := inB_iff.1 h0; obtain ⟨a1, b1⟩ := inB_iff.1 h1; first | exact .of ⟨by omega, by omega⟩ | exact .mk ⟨by omega, by omega, by omega, by omega⟩ | exact .mk ⟨by omega, by omega, by omega, by omega, by omega, by omega⟩)
theorem c29 (c m p : Int) : Pure (Xc W0 G) 29 [.int .i64 c, .int .i64 m, .int .i64 p] (pulA c m p) := by
  refine mut_of' hX (show FnIs (Xc W0 G) 29 Tryz.f29 (codeOf Tryz.f29) from ⟨by kernel_rfl, by kernel_rfl, by kernel_rfl, by kernel_rfl⟩) rfl ?_
  repeat' (first
    | ((with_reducible refine (?_ : Alt _ _)); first | (with_reducible apply callAlt (c67 hX _)) | (with_reducible apply callAlt (c70 hX _)) | (with_reducible apply callAlt (c71 hX _)) | (with_reducible apply callAlt (c48 hX _ _)) | (with_reducible apply callAlt (c72 hX _ _ _ ?_)) | (with_reducible apply callAlt (c47b hX _ _)) | (with_reducible refine Alt.one ?_))
    | ((with_reducible refine (?_ : AllLe _ _)); first | exact AllLe.refl _ | exact ⟨le_slc2 rfl rfl, trivial⟩)
    | ((with_reducible refine (?_ : (List.all _ _) = true)); rfl)
    | ((fail_if_success with_reducible refine (?_ : Sc _ _)); (fail_if_success with_reducible refine (?_ : Side _)); (fail_if_success with_reducible refine (?_ : Exists _)); (fail_if_success with_reducible refine (?_ : Ends _ _ _ _ _ _ _)); (fail_if_success with_reducible refine (?_ : Alt _ _)); (first | with_reducible refine And.intro ?_ ?_ | with_reducible refine Cut.go ?_ | with_reducible intro _ | (with_reducible refine (?_ : footOK _ _ = true); kernel_rfl) | (conv => whnf))))
  all_goals try (exact .of (Nat.le_of_ble_eq_true rfl))
  all_goals (cases h0 : inB c 1 100000 <;> cases h1 : inB m 1 100000 <;> cases h2 : inB p 0 100)
  all_goals try (exfalso; simp_all [firstS]; done)
  all_goals first
    | ((with_reducible refine (?_ : Ends _ _ _ _ _ _ _)); unfold pulA pulLo pulHi pulEr pulOk; simp only [h0, h1, h2]; exact .mk [] [] _ rfl (.le (.tups ⟨⟨trivial, .aggs ⟨⟨trivial, .refl _⟩, .refl _⟩⟩, .refl _⟩)) trivial rfl)
    | (obtain ⟨a0, b0⟩ := inB_iff.1 h0; obtain ⟨a1, b1⟩ := inB_iff.1 h1; obtain ⟨a2, b2⟩ := inB_iff.1 h2; first | exact .of ⟨by omega, by omega⟩ | exact .mk ⟨by omega, by omega, by omega, by omega⟩ | exact .mk ⟨by omega, by omega, by omega, by omega, by omega, by omega⟩)
theorem c31 (c m p : Int) : Pure (Xc W0 G) 31 [.int .i64 c, .int .i64 m, .int .i64 p] (pulA c m p) := by
  refine mut_of' hX (show FnIs (Xc W0 G) 31 Tryz.f31 (codeOf Tryz.f31) from ⟨by kernel_rfl, by kernel_rfl, by kernel_rfl, by kernel_rfl⟩) rfl ?_
  repeat' (first
    | ((with_reducible refine (?_ : Alt _ _)); first | (with_reducible apply callAlt (c38 hX _)) | (with_reducible apply callAlt (c13 hX _ _ _)) | (with_reducible apply callAlt (c75 hX _ _ _ ?_)) | (with_reducible refine Alt.one ?_))
    | ((with_reducible refine (?_ : AllLe _ _)); first | exact AllLe.refl _ | exact ⟨le_slc2 rfl rfl, trivial⟩)
    | ((with_reducible refine (?_ : (List.all _ _) = true)); rfl)
    | ((fail_if_success with_reducible refine (?_ : Sc _ _)); (fail_if_success with_reducible refine (?_ : Side _)); (fail_if_success with_reducible refine (?_ : Exists _)); (fail_if_success with_reducible refine (?_ : Ends _ _ _ _ _ _ _)); (fail_if_success with_reducible refine (?_ : Alt _ _)); (first | with_reducible refine And.intro ?_ ?_ | with_reducible refine Cut.go ?_ | with_reducible intro _ | (with_reducible refine (?_ : footOK _ _ = true); kernel_rfl) | (conv => whnf))))
  all_goals try (exact .of (Nat.le_of_ble_eq_true rfl))
  all_goals (cases h0 : inB c 1 100000 <;> cases h1 : inB m 1 100000 <;> cases h2 : inB p 0 100)
  all_goals try (exfalso; simp_all [firstS]; done)
  all_goals first
    | ((with_reducible refine (?_ : Ends _ _ _ _ _ _ _)); unfold pulA pulLo pulHi pulEr pulOk; simp only [h0, h1, h2]; exact .mk [] [] _ rfl (.le (.tups ⟨⟨trivial, .aggs ⟨⟨trivial, .refl _⟩, .refl _⟩⟩, .refl _⟩)) trivial rfl)
    | (obtain ⟨a0, b0⟩ := inB_iff.1 h0; obtain ⟨a1, b1⟩ := inB_iff.1 h1; obtain ⟨a2, b2⟩ := inB_iff.1 h2; first | exact .of ⟨by omega, by omega⟩ | exact .mk ⟨by omega, by omega, by omega, by omega⟩ | exact .mk ⟨by omega, by omega, by omega, by omega, by omega, by omega⟩)
end
end Go.Fx

/-
  Test rides: a test's fault, the constants that it leaves, what it says of a constant.
-/
namespace Go.Fx
open Go.Proofs
theorem le_slc3 {f : Nat → Nat → AV} {a b c : Int} (h0 : f 0 0 = .int .i64 a) (h1 : f 1 0 = .int .i64 b) (h2 : f 2 0 = .int .i64 c) : Le (.slc 1 3 f) (.slc 1 [a, b, c].length (fun i _ => .int .i64 ([a, b, c].getD i 0))) :=
  .slc fun i j hi hj => by
    obtain rfl : j = 0 := by omega
    rcases (show i = 0 ∨ i = 1 ∨ i = 2 by omega) with rfl | rfl | rfl
    · rw [h0]; exact .refl _
    · rw [h1]; exact .refl _
    · rw [h2]; exact .refl _
/-- A test ride: near, far, pulses, permille. -/
def tstA (a b p m : Int) : AV := .agg 4 (tbl [.int .i64 a, .int .i64 b, .int .i64 p, .int .i64 m])
def tst1 (a b : Int) : Bool := inB a 1 100000 && inB b 1 100000
def tst3 (p m : Int) : Bool := inB p 0 20000000 && inB m 0 100
@[irreducible] def tstE (a b p m : Int) : Int := bif tst1 a b then (bif decide (a ≤ b) then (bif tst3 p m then 0 else 2) else 9) else 2
section
variable {W0 : World} {G : Nat → Option AV} (hX : (Xc W0 G).Good)
include hX
theorem c47t (a b c : Int) : Pure (Xc W0 G) 47 [.slc 1 [a, b, c].length (fun i _ => .int .i64 ([a, b, c].getD i 0))] (.int .i64 (firstS [a, b, c])) := c47 hX [a, b, c] (show 3 < 1000000 by decide)
theorem c79 (a b p m : Int) : Pure (Xc W0 G) 79 [tstA a b p m] (.int .i64 (tstE a b p m)) := by
  refine mut_of' hX (show FnIs (Xc W0 G) 79 Tryz.f79 (codeOf Tryz.f79) from ⟨by kernel_rfl, by kernel_rfl, by kernel_rfl, by kernel_rfl⟩) rfl ?_
  repeat' (first
    | ((with_reducible refine (?_ : Alt _ _)); first | (with_reducible apply callAlt (c70 hX _)) | (with_reducible apply callAlt (c48 hX _ _)) | (with_reducible apply callAlt (c49 hX _ _ _)) | (with_reducible apply callAlt (c71 hX _)) | (with_reducible apply callAlt (c47t hX _ _ _)) | (with_reducible refine Alt.one ?_))
    | ((with_reducible refine (?_ : AllLe _ _)); first | exact AllLe.refl _ | exact ⟨le_slc2 rfl rfl, trivial⟩ | exact ⟨le_slc3 rfl rfl rfl, trivial⟩)
    | ((with_reducible refine (?_ : (List.all _ _) = true)); rfl)
    | ((fail_if_success with_reducible refine (?_ : Sc _ _)); (fail_if_success with_reducible refine (?_ : Side _)); (fail_if_success with_reducible refine (?_ : Exists _)); (fail_if_success with_reducible refine (?_ : Ends _ _ _ _ _ _ _)); (fail_if_success with_reducible refine (?_ : Alt _ _)); (first | with_reducible refine And.intro ?_ ?_ | with_reducible refine Cut.go ?_ | with_reducible intro _ | (with_reducible refine (?_ : footOK _ _ = true); kernel_rfl) | (conv => whnf))))
  all_goals try (exact .of (Nat.le_of_ble_eq_true rfl))
  all_goals (cases h0 : inB a 1 100000 <;> cases h1 : inB b 1 100000 <;> cases h2 : decide (a ≤ b) <;> cases h3 : inB p 0 20000000 <;> cases h4 : inB m 0 100)
  all_goals try (exfalso; simp_all; done)
  all_goals try (exfalso; simp_all; omega)
  all_goals (unfold tstE tst1 tst3; simp only [h0, h1, h2, h3, h4]; exact .mk [] [] _ rfl (.le (.refl _)) trivial rfl)
theorem c36 (a b p m : Int) : Pure (Xc W0 G) 36 [tstA a b p m] (.int .i64 (tstE a b p m)) := by
  refine mut_of' hX (show FnIs (Xc W0 G) 36 Tryz.f36 (codeOf Tryz.f36) from ⟨by kernel_rfl, by kernel_rfl, by kernel_rfl, by kernel_rfl⟩) rfl ?_
  repeat' (first
    | ((with_reducible refine (?_ : Alt _ _)); first | (with_reducible apply callAlt (c13 hX _ _ _)) | (with_reducible refine Alt.one ?_))
    | ((with_reducible refine (?_ : AllLe _ _)); first | exact AllLe.refl _ | exact ⟨le_slc2 rfl rfl, trivial⟩ | exact ⟨le_slc3 rfl rfl rfl, trivial⟩)
    | ((with_reducible refine (?_ : (List.all _ _) = true)); rfl)
    | ((fail_if_success with_reducible refine (?_ : Sc _ _)); (fail_if_success with_reducible refine (?_ : Side _)); (fail_if_success with_reducible refine (?_ : Exists _)); (fail_if_success with_reducible refine (?_ : Ends _ _ _ _ _ _ _)); (fail_if_success with_reducible refine (?_ : Alt _ _)); (first | with_reducible refine And.intro ?_ ?_ | with_reducible refine Cut.go ?_ | with_reducible intro _ | (with_reducible refine (?_ : footOK _ _ = true); kernel_rfl) | (conv => whnf))))
  all_goals try (exact .of (Nat.le_of_ble_eq_true rfl))
  all_goals (cases h0 : inB a 1 100000 <;> cases h1 : inB b 1 100000 <;> cases h2 : decide (a ≤ b) <;> cases h3 : inB p 0 20000000 <;> cases h4 : inB m 0 100)
  all_goals try (exfalso; simp_all; done)
  all_goals try (exfalso; simp_all; omega)
  all_goals (unfold tstE tst1 tst3; simp only [h0, h1, h2, h3, h4]; exact .mk [] [] _ rfl (.le (.refl _)) trivial rfl)
end
end Go.Fx

/-
  Test rides: the constants that a ride leaves; what it says of a constant.
-/
namespace Go.Fx
open Go.Proofs
theorem firstS_two {x y : Int} (h : firstS [x, y] = 0) : x = 0 ∧ y = 0 := by
  simp only [firstS] at h
  by_cases hx : x = 0 <;> by_cases hy : y = 0 <;> simp_all
theorem le_tst {f : Nat → AV} {a b p m : Int} (h0 : f 0 = .int .i64 a) (h1 : f 1 = .int .i64 b) (h2 : f 2 = .int .i64 p) (h3 : f 3 = .int .i64 m) : Le (.agg 4 f) (tstA a b p m) :=
  .agg fun j hj => by
    rcases (show j = 0 ∨ j = 1 ∨ j = 2 ∨ j = 3 by omega) with rfl | rfl | rfl | rfl
    · rw [h0]; exact .refl _
    · rw [h1]; exact .refl _
    · rw [h2]; exact .refl _
    · rw [h3]; exact .refl _
@[irreducible] def conLo (a b p m : Int) : Int := bif decide (tstE a b p m = 0) then 1000 * p / b else 0
@[irreducible] def conHi (a b p m : Int) : Int := bif decide (tstE a b p m = 0) then -((-(1000 * (p + 1))) / a) else 0
def conA (a b p m : Int) : AV := .tup 2 (tbl [.agg 2 (tbl [.int .i64 (conLo a b p m), .int .i64 (conHi a b p m)]), .int .i64 (tstE a b p m)])
def shLo (c a m : Int) : Int := c * a * (1000 - m) / 1000000
def shHi (c a m : Int) : Int := -((-(c * a * (1000 + m))) / 1000000)
@[irreducible] def tisV (c a b p m : Int) : Int := bif inB p (shLo c a m) (shHi c a m) && inB p (shLo c b m) (shHi c b m) then 2 else bif decide (p < shLo c a m) || decide (shHi c b m < p) then 0 else 1
def conE (c : Int) : Int := bif inB c 1 100000 then 0 else 2
@[irreducible] def tisE (c a b p m : Int) : Int := firstS [conE c, tstE a b p m]
@[irreducible] def tisN (c a b p m : Int) : Int := bif decide (tisE c a b p m = 0) then tisV c a b p m else 0
theorem tstE_zero {a b p m : Int} (h : tstE a b p m = 0) : 1 ≤ a ∧ a ≤ 100000 ∧ 1 ≤ b ∧ b ≤ 100000 ∧ a ≤ b ∧ 0 ≤ p ∧ p ≤ 20000000 ∧ 0 ≤ m ∧ m ≤ 100 := by
  unfold tstE tst1 tst3 at h
  cases h0 : inB a 1 100000 <;> cases h1 : inB b 1 100000 <;> cases h2 : decide (a ≤ b) <;> cases h3 : inB p 0 20000000 <;> cases h4 : inB m 0 100 <;> simp [h0, h1, h2, h3, h4] at h
  obtain ⟨a0, b0⟩ := inB_iff.1 h0; obtain ⟨a1, b1⟩ := inB_iff.1 h1; obtain ⟨a3, b3⟩ := inB_iff.1 h3; obtain ⟨a4, b4⟩ := inB_iff.1 h4
  have := of_decide_eq_true h2
  exact ⟨a0, b0, a1, b1, this, a3, b3, a4, b4⟩
section
variable {W0 : World} {G : Nat → Option AV} (hX : (Xc W0 G).Good)
include hX
theorem c34 (a b p m : Int) : Pure (Xc W0 G) 34 [tstA a b p m] (conA a b p m) := by
  refine mut_of' hX (show FnIs (Xc W0 G) 34 Tryz.f34 (codeOf Tryz.f34) from ⟨by kernel_rfl, by kernel_rfl, by kernel_rfl, by kernel_rfl⟩) rfl ?_
  repeat' (first
    | ((with_reducible refine (?_ : Alt _ _)); first | (with_reducible apply callAlt (c79 hX _ _ _ _)) | (with_reducible apply callAltS (Sc.map (c69 hX _ _) ?_)) | (with_reducible refine Alt.one ?_))
    | ((with_reducible refine (?_ : AllLe _ _)); first | exact ⟨le_tst rfl rfl rfl rfl, trivial⟩ | exact ⟨.refl _, le_tst rfl rfl rfl rfl, trivial⟩ | exact AllLe.refl _ | exact ⟨le_slc2 rfl rfl, trivial⟩)
    | ((with_reducible refine (?_ : (List.all _ _) = true)); rfl)
    | ((fail_if_success with_reducible refine (?_ : Sc _ _)); (fail_if_success with_reducible refine (?_ : Side _)); (fail_if_success with_reducible refine (?_ : Exists _)); (fail_if_success with_reducible refine (?_ : Ends _ _ _ _ _ _ _)); (fail_if_success with_reducible refine (?_ : Alt _ _)); (first | with_reducible refine And.intro ?_ ?_ | with_reducible refine Cut.go ?_ | with_reducible intro _ | (with_reducible refine (?_ : footOK _ _ = true); kernel_rfl) | (conv => whnf))))
  all_goals try (exact .of (Nat.le_of_ble_eq_true rfl))
  all_goals rename_i h
  all_goals first
    | (have h' : ¬ tstE a b p m = 0 := by simpa using h
       unfold conA conLo conHi; simp only [decide_eq_false h']; exact .mk [] [] _ rfl (.le (.tups ⟨⟨trivial, .aggs ⟨⟨trivial, .refl _⟩, .refl _⟩⟩, .refl _⟩)) trivial rfl)
    | (have h' : tstE a b p m = 0 := by simpa using h
       obtain ⟨q0, q1, q2, q3, q4, q5, q6, q7, q8⟩ := tstE_zero h'
       first
        | ((with_reducible refine (?_ : Ends _ _ _ _ _ _ _)); unfold conA conLo conHi; simp only [h', decide_true]; exact .mk [] [] _ rfl (.le (.tups ⟨⟨trivial, .aggs ⟨⟨trivial, .refl _⟩, .refl _⟩⟩, .refl _⟩)) trivial rfl)
        | (first | exact .of ⟨by omega, by omega⟩ | exact .of (.mk ⟨by omega, by omega, by omega, by omega⟩)))
theorem c37 (a b p m : Int) (hs : Side (1 ≤ a ∧ a ≤ 100000 ∧ 1 ≤ b ∧ b ≤ 100000 ∧ 0 ≤ p ∧ p ≤ 20000000)) : Pure (Xc W0 G) 37 [tstA a b p m] (.agg 2 (tbl [.int .i64 (1000 * p / b), .int .i64 (-((-(1000 * (p + 1))) / a))])) := by
  obtain ⟨q0, q1, q2, q3, q4, q5⟩ := hs.get
  refine mut_of' hX (show FnIs (Xc W0 G) 37 Tryz.f37 (codeOf Tryz.f37) from ⟨by kernel_rfl, by kernel_rfl, by kernel_rfl, by kernel_rfl⟩) rfl ?_
  repeat' (first
    | ((with_reducible refine (?_ : Alt _ _)); first | (with_reducible apply callAltS (Sc.map (c73 hX _ _) ?_)) | (with_reducible apply callAltS (Sc.map (c74 hX _ _) ?_)) | (with_reducible refine Alt.one ?_))
    | ((with_reducible refine (?_ : AllLe _ _)); first | exact ⟨le_tst rfl rfl rfl rfl, trivial⟩ | exact ⟨.refl _, le_tst rfl rfl rfl rfl, trivial⟩ | exact AllLe.refl _ | exact ⟨le_slc2 rfl rfl, trivial⟩)
    | ((with_reducible refine (?_ : (List.all _ _) = true)); rfl)
    | ((fail_if_success with_reducible refine (?_ : Sc _ _)); (fail_if_success with_reducible refine (?_ : Side _)); (fail_if_success with_reducible refine (?_ : Exists _)); (fail_if_success with_reducible refine (?_ : Ends _ _ _ _ _ _ _)); (fail_if_success with_reducible refine (?_ : Alt _ _)); (first | with_reducible refine And.intro ?_ ?_ | with_reducible refine Cut.go ?_ | with_reducible intro _ | (with_reducible refine (?_ : footOK _ _ = true); kernel_rfl) | (conv => whnf))))
  all_goals try (exact .of (Nat.le_of_ble_eq_true rfl))
  all_goals first
    | exact .mk [] [] _ rfl (.le (.aggs ⟨⟨trivial, .refl _⟩, .refl _⟩)) trivial rfl
    | (first | exact .of ⟨by omega, by omega⟩ | exact .of (.mk ⟨by omega, by omega, by omega, by omega⟩))
theorem c39 (c a b p m : Int) (hs : Side (1 ≤ c ∧ c ≤ 100000 ∧ 1 ≤ a ∧ a ≤ 100000 ∧ 1 ≤ b ∧ b ≤ 100000 ∧ 0 ≤ m ∧ m ≤ 100)) : Pure (Xc W0 G) 39 [.int .i64 c, tstA a b p m] (.int .i64 (tisV c a b p m)) := by
  obtain ⟨q0, q1, q2, q3, q4, q5, q6, q7⟩ := hs.get
  refine mut_of' hX (show FnIs (Xc W0 G) 39 Tryz.f39 (codeOf Tryz.f39) from ⟨by kernel_rfl, by kernel_rfl, by kernel_rfl, by kernel_rfl⟩) rfl ?_
  repeat' (first
    | ((with_reducible refine (?_ : Alt _ _)); first | (with_reducible apply callAltS (Sc.map (c75 hX _ _ _) ?_)) | (with_reducible apply callAlt (c13 hX _ _ _)) | (with_reducible refine Alt.one ?_))
    | ((with_reducible refine (?_ : AllLe _ _)); first | exact ⟨le_tst rfl rfl rfl rfl, trivial⟩ | exact ⟨.refl _, le_tst rfl rfl rfl rfl, trivial⟩ | exact AllLe.refl _ | exact ⟨le_slc2 rfl rfl, trivial⟩)
    | ((with_reducible refine (?_ : (List.all _ _) = true)); rfl)
    | ((fail_if_success with_reducible refine (?_ : Sc _ _)); (fail_if_success with_reducible refine (?_ : Side _)); (fail_if_success with_reducible refine (?_ : Exists _)); (fail_if_success with_reducible refine (?_ : Ends _ _ _ _ _ _ _)); (fail_if_success with_reducible refine (?_ : Alt _ _)); (first | with_reducible refine And.intro ?_ ?_ | with_reducible refine Cut.go ?_ | with_reducible intro _ | (with_reducible refine (?_ : footOK _ _ = true); kernel_rfl) | (conv => whnf))))
  all_goals try (exact .of (Nat.le_of_ble_eq_true rfl))
  all_goals try (first | exact .of ⟨by omega, by omega⟩ | exact .of (.mk ⟨by omega, by omega, by omega, by omega, by omega, by omega⟩))
  all_goals (cases g1 : inB p (c * a * (1000 - m) / 1000000) (-(-(c * a * (1000 + m)) / 1000000)) <;> cases g2 : inB p (c * b * (1000 - m) / 1000000) (-(-(c * b * (1000 + m)) / 1000000)) <;> cases g3 : decide (p < c * a * (1000 - m) / 1000000) <;> cases g4 : decide (-(-(c * b * (1000 + m)) / 1000000) < p))
  all_goals try (exfalso; simp_all; done)
  all_goals try (exfalso; have k1 := inB_iff.1 g1; have k2 := inB_iff.1 g2; simp only [decide_eq_true_eq, decide_eq_false_iff_not] at g3 g4; omega)
  all_goals (unfold tisV shLo shHi; simp only [g1, g2, g3, g4]; exact .mk [] [] _ rfl (.le (.refl _)) trivial rfl)
theorem c35 (c a b p m : Int) : Pure (Xc W0 G) 35 [.int .i64 c, tstA a b p m] (.tup 2 (tbl [.int .i64 (tisN c a b p m), .int .i64 (tisE c a b p m)])) := by
  refine mut_of' hX (show FnIs (Xc W0 G) 35 Tryz.f35 (codeOf Tryz.f35) from ⟨by kernel_rfl, by kernel_rfl, by kernel_rfl, by kernel_rfl⟩) rfl ?_
  repeat' (first
    | ((with_reducible refine (?_ : Alt _ _)); first | (with_reducible apply callAlt (c67 hX _)) | (with_reducible apply callAlt (c79 hX _ _ _ _)) | (with_reducible apply callAlt (c47b hX _ _)) | (with_reducible apply callAltS (Sc.map (c72 hX _ _ _) ?_)) | (with_reducible apply callAlt (c49 hX _ _ _)) | (with_reducible refine Alt.one ?_))
    | ((with_reducible refine (?_ : AllLe _ _)); first | exact ⟨le_tst rfl rfl rfl rfl, trivial⟩ | exact ⟨.refl _, le_tst rfl rfl rfl rfl, trivial⟩ | exact AllLe.refl _ | exact ⟨le_slc2 rfl rfl, trivial⟩)
    | ((with_reducible refine (?_ : (List.all _ _) = true)); rfl)
    | ((fail_if_success with_reducible refine (?_ : Sc _ _)); (fail_if_success with_reducible refine (?_ : Side _)); (fail_if_success with_reducible refine (?_ : Exists _)); (fail_if_success with_reducible refine (?_ : Ends _ _ _ _ _ _ _)); (fail_if_success with_reducible refine (?_ : Alt _ _)); (first | with_reducible refine And.intro ?_ ?_ | with_reducible refine Cut.go ?_ | with_reducible intro _ | (with_reducible refine (?_ : footOK _ _ = true); kernel_rfl) | (conv => whnf))))
  all_goals try (exact .of (Nat.le_of_ble_eq_true rfl))
  · rename_i h
    have h' : ¬ firstS [bif inB c 1 100000 then 0 else 2, tstE a b p m] = 0 := by simpa using h
    unfold tisN tisE conE; simp only [decide_eq_false h']
    exact .mk [] [] _ rfl (.le (.tups ⟨⟨trivial, .refl _⟩, .refl _⟩)) trivial rfl
  all_goals (have h' : firstS [bif inB c 1 100000 then 0 else 2, tstE a b p m] = 0 := by simp_all)
  all_goals (
    obtain ⟨w1, w2⟩ := firstS_two h'
    have w3 : inB c 1 100000 = true := by cases hc : inB c 1 100000 <;> simp_all
    obtain ⟨w4, w5⟩ := inB_iff.1 w3
    obtain ⟨q0, q1, q2, q3, q4, q5, q6, q7, q8⟩ := tstE_zero w2)
  all_goals try (first | exact .of ⟨by omega, by omega⟩ | exact .of (.mk ⟨by omega, by omega, by omega, by omega, by omega, by omega⟩))
  all_goals (cases g1 : inB p (c * a * (1000 - m) / 1000000) (-(-(c * a * (1000 + m)) / 1000000)) <;> cases g2 : inB p (c * b * (1000 - m) / 1000000) (-(-(c * b * (1000 + m)) / 1000000)) <;> cases g3 : decide (p < c * a * (1000 - m) / 1000000) <;> cases g4 : decide (-(-(c * b * (1000 + m)) / 1000000) < p))
  all_goals try (exfalso; simp_all; done)
  all_goals try (exfalso; have k1 := inB_iff.1 g1; have k2 := inB_iff.1 g2; simp only [decide_eq_true_eq, decide_eq_false_iff_not] at g3 g4; omega)
  all_goals (unfold tisN tisE conE tisV shLo shHi; simp only [h', decide_true, g1, g2, g3, g4]; exact .mk [] [] _ rfl (.le (.tups ⟨⟨trivial, .refl _⟩, .refl _⟩)) trivial rfl)
end
end Go.Fx

/-
  The body of MeterTests.
-/
namespace Go.Fx
open Go.Proofs
theorem Le.boolT {x y : Bool} (h : x = y) : Le (.bool x) (.bool y) := by rw [h]; exact .refl _
theorem Sc.imp {q p : Prop} (h : q → p) : Sc (some q) p := h
theorem LeH.boolT {H : List HObj} {x y : Bool} (h : x = y) : LeH H (.bool x) (.bool y) := .le (.boolT h)
theorem tst_in {c a b p : Int} (h1 : 1 ≤ a) (h2 : a ≤ b) (hc : 1 ≤ c) (h : (c * a).tdiv 1000 = p ∨ (c * b).tdiv 1000 = p) : inB c (1000 * p / b) (-((-(1000 * (p + 1))) / a)) = true := by
  have hab : c * a ≤ c * b := Int.mul_le_mul_of_nonneg_left h2 (by omega)
  have h0 : 0 ≤ c * a := Int.mul_nonneg (by omega) (by omega)
  obtain ⟨k1, k2⟩ : 1000 * p ≤ c * b ∧ c * a < 1000 * (p + 1) := by
    rcases h with h | h
    · rw [Int.tdiv_eq_ediv_of_nonneg h0] at h; omega
    · rw [Int.tdiv_eq_ediv_of_nonneg (by omega)] at h; omega
  refine inB_iff.2 ⟨?_, ?_⟩
  · have := Int.ediv_le_ediv (show 0 < b by omega) k1
    rwa [Int.mul_ediv_cancel _ (by omega)] at this
  · have := Int.ediv_le_ediv (show 0 < a by omega) (show -(1000 * (p + 1)) ≤ (-c) * a by rw [Int.neg_mul]; omega)
    rw [Int.mul_ediv_cancel _ (by omega)] at this
    omega
theorem tis_zero {c a b p m : Int} (h1 : inB c 1 100000 = true) (h2 : tstE a b p m = 0) : tisE c a b p m = 0 ∧ tisN c a b p m = tisV c a b p m := by
  have e : tisE c a b p m = 0 := by unfold tisE conE; rw [h1, h2]; rfl
  exact ⟨e, by unfold tisN; rw [e]; rfl⟩
theorem tis_one {c a b p m : Int} (h1 : inB c 1 100000 = true) (h2 : ¬ tstE a b p m = 0) : tisE c a b p m = tstE a b p m ∧ tisN c a b p m = 0 := by
  have e : tisE c a b p m = tstE a b p m := by unfold tisE conE; rw [h1]; simp [firstS, h2]
  exact ⟨e, by unfold tisN; rw [e]; simp [h2]⟩
theorem tis_two {c a b p m : Int} (h1 : inB c 1 100000 = false) : tisE c a b p m = 2 ∧ tisN c a b p m = 0 := by
  have e : tisE c a b p m = 2 := by unfold tisE conE; rw [h1]; rfl
  exact ⟨e, by unfold tisN; rw [e]; rfl⟩
theorem con_zero {a b p m : Int} (h2 : tstE a b p m = 0) : conLo a b p m = 1000 * p / b ∧ conHi a b p m = -((-(1000 * (p + 1))) / a) := by unfold conLo conHi; rw [h2]; exact ⟨rfl, rfl⟩
theorem con_one {a b p m : Int} (h2 : ¬ tstE a b p m = 0) : conLo a b p m = 0 ∧ conHi a b p m = 0 := by unfold conLo conHi; simp [h2]
theorem tst_side {a b p m : Int} (w : tstE a b p m = 0) : Side (1 ≤ a ∧ a ≤ 100000 ∧ 1 ≤ b ∧ b ≤ 100000 ∧ 0 ≤ p ∧ p ≤ 20000000) := by
  obtain ⟨r0, r1, r2, r3, r4, r5, r6, r7, r8⟩ := tstE_zero w
  exact .mk ⟨r0, r1, r2, r3, r5, r6⟩
section
variable {W0 : World} {G : Nat → Option AV} (hX : (Xc W0 G).Good) (haw : Pure (Xc W0 G) 10 [] (.bool true))
include hX haw
set_option maxHeartbeats 4000000 in
theorem c9 (c a b p m : Int) : Pure (Xc W0 G) 9 [.int .i64 c, tstA a b p m] (.bool true) := by
  refine mut_of' hX (show FnIs (Xc W0 G) 9 Tryz.f9 (codeOf Tryz.f9) from ⟨by kernel_rfl, by kernel_rfl, by kernel_rfl, by kernel_rfl⟩) rfl ?_
  repeat' (first
    | ((with_reducible refine (?_ : Alt _ _)); first | (with_reducible apply callAlt (haw)) | (with_reducible apply callAlt (c34 hX _ _ _ _)) | (with_reducible apply callAlt (c35 hX _ _ _ _ _)) | (with_reducible apply callAlt (c36 hX _ _ _ _)) | (with_reducible apply callAltS (Sc.map (c37 hX _ _ _ _) ?_)) | (with_reducible apply callAlt (c38 hX _)) | (with_reducible apply callAltS (Sc.map (c39 hX _ _ _ _ _) ?_)) | (with_reducible apply callAlt (c13 hX _ _ _)) | (with_reducible refine Alt.one ?_))
    | ((with_reducible refine (?_ : AllLe _ _)); first | exact ⟨le_tst rfl rfl rfl rfl, trivial⟩ | exact ⟨.refl _, le_tst rfl rfl rfl rfl, trivial⟩ | exact AllLe.refl _ | exact ⟨le_slc2 rfl rfl, trivial⟩)
    | ((with_reducible refine (?_ : (List.all _ _) = true)); rfl)
    | ((fail_if_success with_reducible refine (?_ : Sc _ _)); (fail_if_success with_reducible refine (?_ : Side _)); (fail_if_success with_reducible refine (?_ : Exists _)); (fail_if_success with_reducible refine (?_ : Ends _ _ _ _ _ _ _)); (fail_if_success with_reducible refine (?_ : Alt _ _)); (first | with_reducible refine And.intro ?_ ?_ | with_reducible refine Cut.go ?_ | with_reducible intro _ | (with_reducible refine (?_ : footOK _ _ = true); kernel_rfl) | (conv => whnf))))
  all_goals try (exact .of (Nat.le_of_ble_eq_true rfl))
  all_goals try (exact .of (by decide))
  all_goals try (rename_i h; exact absurd h (by decide))
  all_goals (cases q1 : inB c 1 100000 <;> by_cases q2 : tstE a b p m = 0)
  all_goals try (exfalso; rename_i h; first
    | (simp [q1, q2, con_zero, con_one, tis_zero, tis_one, tis_two] at h; done)
    | (rename_i h1; simp [q1, q2, con_zero, con_one, tis_zero, tis_one, tis_two] at h1; done)
    | (rename_i h2 h1; simp [q1, q2, con_zero, con_one, tis_zero, tis_one, tis_two] at h2; done)
    | (rename_i h3 h2 h1; simp [q1, q2, con_zero, con_one, tis_zero, tis_one, tis_two] at h3; done))
  · exact .mk [] [] _ rfl (.boolT (by simp [tis_two q1])) trivial rfl
  · exact .mk [] [] _ rfl (.boolT (by simp [tis_two q1])) trivial rfl
  · exact .mk [] [] _ rfl (.boolT (by simp [tis_one q1 q2])) trivial rfl
  · obtain ⟨r0, r1, r2, r3, r4, r5, r6, r7, r8⟩ := tstE_zero q2
    obtain ⟨s0, s1⟩ := inB_iff.1 q1
    refine ⟨Nat, fun i => ([(0, .int .i64 c), (3, .ptr 0 0), (5, .ptr 1 0), (11, .int .i64 i)], [.box [.int .i64 a, .int .i64 b, .int .i64 p, .int .i64 m], .box [.int .i64 (conLo a b p m), .int .i64 (conHi a b p m)]]), fun i => i ≤ 2, fun i => 2 - i, ⟨0, by omega, .le ⟨rfl, ⟨.refl _, .refl _, trivial⟩, ⟨.refl _, .refl _, .refl _, .refl _, trivial⟩⟩⟩, fun i hi => ?_⟩
    repeat' (first
      | ((with_reducible refine (?_ : Alt _ _)); first | (with_reducible apply callAlt (haw)) | (with_reducible apply callAlt (c34 hX _ _ _ _)) | (with_reducible apply callAlt (c35 hX _ _ _ _ _)) | (with_reducible apply callAlt (c36 hX _ _ _ _)) | (with_reducible apply callAltS (Sc.map (c37 hX _ _ _ _) ?_)) | (with_reducible apply callAlt (c38 hX _)) | (with_reducible apply callAltS (Sc.map (c39 hX _ _ _ _ _) ?_)) | (with_reducible apply callAlt (c13 hX _ _ _)) | (with_reducible refine Alt.one ?_))
      | ((with_reducible refine (?_ : AllLe _ _)); first | exact ⟨le_tst rfl rfl rfl rfl, trivial⟩ | exact ⟨.refl _, le_tst rfl rfl rfl rfl, trivial⟩ | exact AllLe.refl _ | exact ⟨le_slc2 rfl rfl, trivial⟩)
      | ((with_reducible refine (?_ : (List.all _ _) = true)); rfl)
      | ((fail_if_success with_reducible refine (?_ : Sc _ _)); (fail_if_success with_reducible refine (?_ : Side _)); (fail_if_success with_reducible refine (?_ : Exists _)); (fail_if_success with_reducible refine (?_ : Ends _ _ _ _ _ _ _)); (fail_if_success with_reducible refine (?_ : Alt _ _)); (first | with_reducible refine And.intro ?_ ?_ | with_reducible refine Cut.go ?_ | with_reducible intro _ | (with_reducible refine (?_ : footOK _ _ = true); kernel_rfl) | (conv => whnf))))
    all_goals (have f1 : 0 ≤ c * a ∧ c * a ≤ 100000 * 100000 := mul_bd (by omega) s1 (by omega) r1)
    all_goals (have f2 : 0 ≤ c * b ∧ c * b ≤ 100000 * 100000 := mul_bd (by omega) s1 (by omega) r3)
    all_goals (have f3 : (c * a).tdiv 1000 = c * a / 1000 := Int.tdiv_eq_ediv_of_nonneg f1.1)
    all_goals (have f4 : (c * b).tdiv 1000 = c * b / 1000 := Int.tdiv_eq_ediv_of_nonneg f2.1)
    all_goals try ((with_reducible refine (?_ : Sc _ _)); first
      | exact .of (Nat.le_of_ble_eq_true rfl)
      | exact .of (by decide)
      | ((with_reducible refine Sc.of ?_); (try simp only [decide_eq_true_eq, decide_eq_false_iff_not, beq_iff_eq, bne_iff_ne, beq_eq_false_iff_ne, bne_eq_false_iff_eq, ne_eq, not_lt, not_le, Decidable.not_not] at *); first | omega | exact ⟨by omega, by omega⟩))
  
    all_goals try ((with_reducible refine (?_ : Ends _ _ _ _ _ _ _)); first
      | exact .mk [] [] _ rfl (.le (.refl _)) trivial rfl
      | (exfalso; rename_i h; obtain ⟨k1, k2⟩ := con_zero q2; rw [k1, k2] at h
         first
           | (by_cases w : (c * a).tdiv 1000 = p
              · rw [tst_in r0 r4 s0 (.inl w)] at h; simp at h
              · simp [w] at h)
           | (by_cases w : (c * b).tdiv 1000 = p
              · rw [tst_in r0 r4 s0 (.inr w)] at h; simp at h
              · simp [w] at h)))
    all_goals (simp only [decide_eq_true_eq] at *; refine ⟨i + 1, by show i + 1 ≤ 2; omega, by show 2 - (i + 1) < 2 - i; omega, .le ⟨rfl, ⟨.refl _, .refl _, trivial⟩, ⟨.refl _, .refl _, .refl _, .refl _, trivial⟩⟩⟩)
  · refine Sc.of (.mk ?_)
    obtain ⟨r0, r1, r2, r3, r4, r5, r6, r7, r8⟩ := tstE_zero q2
    obtain ⟨s0, s1⟩ := inB_iff.1 q1
    exact ⟨s0, s1, r0, r1, r2, r3, r7, r8⟩
  all_goals (by_cases w : tstE a b p m = 0)
  all_goals try (exact .of (tst_side w))
  all_goals (refine Sc.imp fun hh => ?_; have h : (tstE a b p m == 0) = true := hh.1; exact absurd (eq_of_beq h) w)
end
end Go.Fx
