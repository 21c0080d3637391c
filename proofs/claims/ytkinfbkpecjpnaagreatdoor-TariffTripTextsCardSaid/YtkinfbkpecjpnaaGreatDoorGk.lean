/-
  The program reads a trip.
-/
import Derived.Test.YtkinfbkpecjpnaaGreatDoorGj

set_option linter.all false

/-
  The program reads a trip.
-/
namespace Go.Fx
open Go.Proofs Go.RowKit

def rdX (s : ByteArray) (c : Int) : Bool := bif !nsB s then true else (bif decide (0 < c) then (((nsW s).length : Int) != c) else false)
def rdL (s : ByteArray) (c : Int) : List Int := bif rdX s c then List.replicate (max c 0).toNat 0 else nsW s
theorem rd_1 {s : ByteArray} {c : Int} (h : rdX s c = true) : rdL s c = List.replicate (max c 0).toNat 0 := by unfold rdL; rw [h]; rfl
theorem rd_0 {s : ByteArray} {c : Int} (h : rdX s c = false) : rdL s c = nsW s := by unfold rdL; rw [h]; rfl

def ok1 (s : ByteArray) : Bool := bif rdX (wd s 0) 1 then false else true
def okA (s : ByteArray) : Bool := bif rdX (wd s 1) 1 then false else ok1 s
def okB (s : ByteArray) : Bool := bif decide (wd s 3 = toS [45]) then okA s else (bif rdX (wd s 3) 0 then false else okA s)
def okI (s : ByteArray) : Nat → Bool
  | 0 => okB s
  | i + 1 => bif rdX (wd s (4 + i)) 3 then false else okI s i

def exR (s : ByteArray) : List Int := bif decide (wd s 3 = toS [45]) then [] else rdL (wd s 3) 0
theorem exR_1 {s : ByteArray} (h : ¬ wd s 3 = toS [45]) : exR s = rdL (wd s 3) 0 := by unfold exR; rw [decide_eq_false h]; rfl
theorem exR_0 {s : ByteArray} (h : wd s 3 = toS [45]) : exR s = [] := by unfold exR; rw [decide_eq_true h]; rfl
def sgr (s : ByteArray) (a : Nat) : Seg := ⟨(rdL (wd s (4 + a)) 3).getD 0 0, (rdL (wd s (4 + a)) 3).getD 1 0, (rdL (wd s (4 + a)) 3).getD 2 0⟩
theorem nB_ns (w : ByteArray) : nB w = (nsB w && Nat.beq (nsV w).length 1) := by
  cases h : nB w with
  | true => obtain ⟨a, b⟩ := nums_one h; unfold nsB nsV; rw [a, b]; rfl
  | false =>
    cases h2 : nsB w with
    | false => rfl
    | true =>
      cases h3 : Nat.beq (nsV w).length 1 with
      | false => rfl
      | true => exact absurd (one_nums h2 (Nat.eq_of_beq_eq_true h3)).1 (by rw [show numB w.data.toList = nB w from rfl, h]; decide)
theorem rdX0 (w : ByteArray) : rdX w 0 = !nsB w := by unfold rdX; cases nsB w <;> rfl
theorem rdX1 (w : ByteArray) : rdX w 1 = !nB w := by
  rw [nB_ns]
  unfold rdX
  cases h : nsB w with
  | false => rfl
  | true =>
    rw [nsW_1 h]
    show (((nsV w).length : Int) != 1) = !(true && Nat.beq (nsV w).length 1)
    by_cases hl : (nsV w).length = 1
    · rw [hl]; rfl
    · have : Nat.beq (nsV w).length 1 = false := by rw [← Bool.not_eq_true, Nat.beq_eq]; exact hl
      rw [this]; simp; omega
theorem rdX3 (w : ByteArray) : rdX w 3 = !segB w := (seg_is w).symm ▸ rfl
theorem rd1_pos (w : ByteArray) : 0 < (rdL w 1).length := by
  cases h : rdX w 1 with
  | true => rw [rd_1 h]; decide
  | false =>
    have hn : nB w = true := by rw [rdX1] at h; exact not_f h
    have hs : nsB w = true := (nums_one hn).1
    rw [rd_0 h, nsW_1 hs]
    have : nsV w = [numV w.data.toList] := (nums_one hn).2
    rw [this]; exact Nat.one_pos
theorem rd3_len (w : ByteArray) : (rdL w 3).length = 3 := by
  cases h : rdX w 3 with
  | true => rw [rd_1 h]; rfl
  | false => rw [rd_0 h]; rw [rdX3] at h; exact (seg_yes (not_f h)).2
theorem okI_iff {s : ByteArray} : ∀ {i : Nat}, okI s i = true ↔ (dtB s = true ∧ exB s = true ∧ ∀ j, j < i → segB (wd s (4 + j)) = true)
  | 0 => by
    have e : okI s 0 = okB s := rfl
    rw [e]
    unfold okB okA ok1 dtB exB
    rw [rdX1, rdX1, rdX0]
    constructor
    · intro h
      refine ⟨?_, ?_, fun j hj => by omega⟩ <;> (cases h1 : nB (wd s 0) <;> cases h2 : nB (wd s 1) <;> cases h3 : nsB (wd s 3) <;> cases h4 : decide (wd s 3 = toS [45]) <;> simp_all)
    · rintro ⟨h, h', _⟩
      cases h1 : nB (wd s 0) <;> cases h2 : nB (wd s 1) <;> cases h3 : nsB (wd s 3) <;> cases h4 : decide (wd s 3 = toS [45]) <;> simp_all
  | i + 1 => by
    have e : okI s (i + 1) = bif rdX (wd s (4 + i)) 3 then false else okI s i := rfl
    rw [e, rdX3]
    constructor
    · intro h
      cases hb : segB (wd s (4 + i)) with
      | false => rw [hb] at h; cases h
      | true =>
        rw [hb] at h
        obtain ⟨a, b, c⟩ := okI_iff.1 (show okI s i = true from h)
        exact ⟨a, b, all_lt c hb⟩
    · rintro ⟨a, b, c⟩
      rw [c i (by omega)]
      exact okI_iff.2 ⟨a, b, fun j hj => c j (by omega)⟩
theorem par_split {s : ByteArray} {i : Nat} (h : parB s = true) (hi : i ≤ wn s - 4) : dtB s = true ∧ exB s = true ∧ ∀ j, j < i → segB (wd s (4 + j)) = true := by
  unfold parB at h
  simp only [Bool.and_eq_true] at h
  refine ⟨h.1.1.2, h.1.2, fun j hj => ?_⟩
  have := h.2
  unfold sgB at this
  exact List.all_eq_true.1 this j (List.mem_range.2 (by omega))
theorem rd1_val {w : ByteArray} (h : nB w = true) : (rdL w 1).getD 0 0 = nV w := by
  have hx : rdX w 1 = false := by rw [rdX1, h]; rfl
  have hs : nsB w = true := (nums_one h).1
  have : nsV w = [numV w.data.toList] := (nums_one h).2
  rw [rd_0 hx, nsW_1 hs, this]; rfl
theorem dt_vals {s : ByteArray} (h : dtB s = true) : (rdL (wd s 0) 1).getD 0 0 = nV (wd s 0) ∧ (rdL (wd s 1) 1).getD 0 0 = nV (wd s 1) := by
  unfold dtB at h; simp only [Bool.and_eq_true] at h
  exact ⟨rd1_val h.1, rd1_val h.2⟩
theorem exR_is {s : ByteArray} (h : exB s = true) : exR s = exV s := by
  unfold exR exV
  by_cases z : wd s 3 = toS [45]
  · rw [decide_eq_true z, if_pos z]; rfl
  · rw [decide_eq_false z, if_neg z]
    unfold exB at h
    rw [decide_eq_false z, Bool.false_or] at h
    rw [show (bif false then ([] : List Int) else rdL (wd s 3) 0) = rdL (wd s 3) 0 from rfl, rd_0 (by rw [rdX0, h]; rfl), nsW_1 h]
theorem sgr_is {s : ByteArray} {a : Nat} (h : segB (wd s (4 + a)) = true) : sgr s a = segV (wd s (4 + a)) := by
  unfold sgr segV; rw [rd_0 (by rw [rdX3, h]; rfl), nsW_1 (seg_yes h).1]
section
variable {W0 : World} {G : Nat → Option AV} (hX : (Xc W0 G).Good) (hl : Laid W0)
include hX hl
theorem c29 (s : ByteArray) (c : Int) (b : Bool) (hs : Side (s.size ≤ 1000000)) (hc : Side (0 ≤ c ∧ c ≤ 3)) : Mut (Xc W0 G) 29 [.str s, .int .i64 c, .ptr 0 0] [.box [.bool b]] (iRow (rdL s c)) [.box [.bool (bif rdX s c then false else b)]] := by
  refine mut_of' hX (show FnIs (Xc W0 G) 29 Tryz.f29 (codeOf Tryz.f29) from ⟨by kernel_rfl, by kernel_rfl, by kernel_rfl, by kernel_rfl⟩) rfl ?_
  repeat' (first
    | ((with_reducible refine (?_ : Alt _ _)); first | (with_reducible apply callAlt (c30 hX hl s hs)) | (with_reducible refine Alt.one ?_))
    | ((with_reducible refine (?_ : AllLe _ _)); first | (first | exact AllLe.refl _ | (repeat' (first | exact trivial | apply Le.aggs | apply Le.tups | apply Le.fns | exact Le.refl _ | refine ⟨?_, ?_⟩))))
    | ((with_reducible refine (?_ : Sc _ (AllRen _ _ _))); refine Sc.of ?_; first | (repeat' (first | exact trivial | apply Le.aggs | apply Le.tups | apply Le.fns | exact Le.refl _ | refine ⟨?_, ?_⟩)))
    | ((with_reducible refine (?_ : (List.all _ _) = true)); rfl)
    | ((with_reducible refine (?_ : (and _ _) = true)); rfl)
    | ((with_reducible refine (?_ : List.Nodup _)); exact nodupB_spec rfl)
    | ((with_reducible refine (?_ : @Eq Nat _ _)); rfl)
    | ((with_reducible refine (?_ : @Eq (List (Option HObj)) _ _)); kernel_rfl)
    | ((with_reducible refine (?_ : LeOks _ _ _)); first | exact trivial | exact ⟨.refl _, trivial⟩ | exact ⟨.refl _, .refl _, trivial⟩)
    | ((fail_if_success with_reducible refine Stop.go ?_); (first | with_reducible refine And.intro ?_ ?_ | with_reducible refine Cut.go ?_ | (with_reducible (refine impI ?_; intro _)) | (with_reducible refine (?_ : footOK _ _ = true); kernel_rfl) | ((with_reducible refine propI ?_); conv => whnf))))
  all_goals try (exact .of (Nat.le_of_ble_eq_true rfl))
  · have h := hc.get; exact .of ⟨rfl, by omega, show (max c 0).toNat * 8 ≤ 281474976710656 by omega, by omega⟩
  · rename_i q
    have q : rdX s c = true := q
    have hln : (rdL s c).length = (max c 0).toNat := by rw [rd_1 q]; simp
    unfold iRow
    rw [hln]
    refine .mk [] [1] _ rfl (.own rfl fun i j hi hj => ?_) ⟨.le (.boxes ⟨by rw [q]; exact .refl _, trivial⟩), trivial⟩ rfl
    replace hj : j < 1 := hj
    obtain rfl : j = 0 := by omega
    refine Le.intI ?_
    rw [rd_1 q]
    simp [List.getD_eq_getElem?_getD, hi]
  · rename_i q
    have q : rdX s c = false := q
    exact .mk [] [] _ rfl (.le (by rw [rd_0 q]; exact .refl _)) ⟨.le (.boxes ⟨by rw [q]; exact .refl _, trivial⟩), trivial⟩ rfl
set_option maxHeartbeats 4000000 in
theorem c9 (s : ByteArray) (hs : Side (s.size ≤ 1000000)) : Pure (Xc W0 G) 9 [.str s] (.tup 2 (tbl [trpA (parT s), .int .i64 (parE s)])) := by
  have hs := hs.get
  have hq := cutS_len_le 32 s
  refine mut_of' hX (show FnIs (Xc W0 G) 9 Tryz.f9 (codeOf Tryz.f9) from ⟨by kernel_rfl, by kernel_rfl, by kernel_rfl, by kernel_rfl⟩) rfl ?_
  repeat' (first
    | ((with_reducible refine (?_ : Alt _ _)); first | (with_reducible apply callAlt (c28 hl s (Side.mk hs))) | ((with_reducible (apply altM (ks := [2]) (m := 0); apply And.intro; apply Sc.of; apply (c29 hX hl (wd s 0) 1 true (Side.mk (Nat.le_trans (wd_size s _) hs)) (Side.mk (by decide))))); case' right => (refine And.intro (Sc.of ?_) ?_; · ((repeat' (first | exact trivial | apply Le.aggs | apply Le.tups | apply Le.fns | exact Le.refl _ | refine ⟨?_, ?_⟩)); done))) | ((with_reducible (apply altM (ks := [2]) (m := 0); apply And.intro; apply Sc.of; apply (c29 hX hl (wd s 1) 1 (ok1 s) (Side.mk (Nat.le_trans (wd_size s _) hs)) (Side.mk (by decide))))); case' right => (refine And.intro (Sc.of ?_) ?_; · ((repeat' (first | exact trivial | apply Le.aggs | apply Le.tups | apply Le.fns | exact Le.refl _ | refine ⟨?_, ?_⟩)); done))) | ((with_reducible (apply altM (ks := [2]) (m := 0); apply And.intro; apply Sc.of; apply (c29 hX hl (wd s 3) 0 (okA s) (Side.mk (Nat.le_trans (wd_size s _) hs)) (Side.mk (by decide))))); case' right => (refine And.intro (Sc.of ?_) ?_; · ((repeat' (first | exact trivial | apply Le.aggs | apply Le.tups | apply Le.fns | exact Le.refl _ | refine ⟨?_, ?_⟩)); done))) | (with_reducible refine Alt.one ?_))
    | ((with_reducible refine (?_ : AllLe _ _)); first | (first | exact AllLe.refl _ | (repeat' (first | exact trivial | apply Le.aggs | apply Le.tups | apply Le.fns | exact Le.refl _ | refine ⟨?_, ?_⟩))))
    | ((with_reducible refine (?_ : Sc _ (AllRen _ _ _))); refine Sc.of ?_; first | (repeat' (first | exact trivial | apply Le.aggs | apply Le.tups | apply Le.fns | exact Le.refl _ | refine ⟨?_, ?_⟩)))
    | ((with_reducible refine (?_ : (List.all _ _) = true)); rfl)
    | ((with_reducible refine (?_ : (and _ _) = true)); rfl)
    | ((with_reducible refine (?_ : List.Nodup _)); exact nodupB_spec rfl)
    | ((with_reducible refine (?_ : @Eq Nat _ _)); rfl)
    | ((with_reducible refine (?_ : @Eq (List (Option HObj)) _ _)); kernel_rfl)
    | ((with_reducible refine (?_ : LeOks _ _ _)); first | exact trivial | exact ⟨.refl _, trivial⟩ | exact ⟨.refl _, .refl _, trivial⟩)
    | ((fail_if_success with_reducible refine Stop.go ?_); (first | with_reducible refine And.intro ?_ ?_ | with_reducible refine Cut.go ?_ | (with_reducible (refine impI ?_; intro _)) | (with_reducible refine (?_ : footOK _ _ = true); kernel_rfl) | ((with_reducible refine propI ?_); conv => whnf))))
  all_goals try (exact .of (Nat.le_of_ble_eq_true rfl))
  all_goals try (refine Sc.imp fun w => ?_; have w := of_decide_eq_false w; exact ⟨by omega, by omega⟩)
  all_goals try (refine Sc.imp fun w => ?_; have w := of_decide_eq_false w.1; exact ⟨by omega, by omega⟩)
  all_goals try ((with_reducible refine (?_ : Sc _ _)); first | (rename_i q; have g1 := not_f ((hd_is s).symm.trans q); have g5 := hd_len g1; have g6 : wn s = (cutS 32 s).length := rfl; have y0 := rd1_pos (wd s 0); have y1 := rd1_pos (wd s 1); first | exact .of ⟨by omega, by omega⟩ | exact .of ⟨by omega, by omega, by omega⟩) | (rename_i q _; have g1 := not_f ((hd_is s).symm.trans q); have g5 := hd_len g1; have g6 : wn s = (cutS 32 s).length := rfl; have y0 := rd1_pos (wd s 0); have y1 := rd1_pos (wd s 1); first | exact .of ⟨by omega, by omega⟩ | exact .of ⟨by omega, by omega, by omega⟩))
  · rename_i q
    have w := par_f1 ((hd_is s).symm.trans q)
    exact .mk [] [] _ rfl (.le (.tups ⟨⟨trivial, by rw [(parE_1 w).2]; exact .aggs ⟨⟨⟨⟨⟨trivial, .refl _⟩, .refl _⟩, .refl _⟩, Le.slc0 1 _⟩, Le.slc0 3 _⟩⟩, .intI (by rw [(parE_1 w).1])⟩)) trivial rfl
  · rename_i q q3
    have g1 := not_f ((hd_is s).symm.trans q); have g5 := hd_len g1; have g6 : wn s = (cutS 32 s).length := rfl
    have z : ¬ wd s 3 = toS [45] := of_decide_eq_false (not_t q3)
    clear q q3
    have ok0 : okB s = (bif rdX (wd s 3) 0 then false else okA s) := by unfold okB; rw [decide_eq_false z]; rfl
    refine ⟨Nat, fun i => match i with | 0 => ([(2, .ptr 0 0), (5, .ptr 1 0), (6, .ptr 2 0), (7, .fn 29 1 (tbl [.ptr 2 0])), (64, .slc 1 (wn s - 4) (fun q _ => .str (wd s (4 + q)))), (65, .int .i64 ((wn s - 4 : Nat) : Int)), (66, .int .i64 ((0 : Nat) : Int))], [.box [.int .i64 0, .int .i64 0, .bool false, .slc0, .slc0], .box [.int .i64 ((rdL (wd s 0) 1).getD 0 0), .int .i64 ((rdL (wd s 1) 1).getD 0 0), .bool (decide (wd s 2 = toS fixW)), iRow (exR s), .slc0], .box [.bool (okI s (0))]]) | i + 1 => ([(2, .ptr 0 0), (5, .ptr 1 0), (6, .ptr 2 0), (7, .fn 29 1 (tbl [.ptr 2 0])), (64, .slc 1 (wn s - 4) (fun q _ => .str (wd s (4 + q)))), (65, .int .i64 ((wn s - 4 : Nat) : Int)), (66, .int .i64 ((i + 1 : Nat) : Int))], [.box [.int .i64 0, .int .i64 0, .bool false, .slc0, .slc0], .box [.int .i64 ((rdL (wd s 0) 1).getD 0 0), .int .i64 ((rdL (wd s 1) 1).getD 0 0), .bool (decide (wd s 2 = toS fixW)), iRow (exR s), .own 3 (i + 1)], .box [.bool (okI s (i + 1))], .list 72 3 (i + 1) (fun a j => tbl (segC (sgr s a)) j) (i + 1)]), fun i => i ≤ wn s - 4, fun i => wn s - 4 - i, ⟨0, Nat.zero_le _, .le ⟨rfl, ⟨.refl _, .boxes ⟨.refl _, .refl _, .refl _, (by rw [exR_1 z]; exact .refl _), .refl _, trivial⟩, .boxes ⟨by show Le _ (.bool (okB s)); rw [ok0]; exact .refl _, trivial⟩, trivial⟩, ⟨.refl _, .refl _, .refl _, .fns ⟨trivial, .refl _⟩, .refl _, .intI ?_, .refl _, trivial⟩⟩⟩, fun i hi => ?_⟩
    · show ((((cutS 32 s).length : Int).toNat - Int.toNat 4 : Nat) : Int) = ((wn s - 4 : Nat) : Int); rfl
    rcases i with _ | i
    · replace hi : 0 ≤ wn s - 4 := hi
      repeat' (first
        | ((with_reducible refine (?_ : Alt _ _)); first | ((with_reducible (apply altM (ks := [2]) (m := 0); apply And.intro; apply Sc.of; apply (c29 hX hl (wd s (4 + 0)) 3 (okI s (0)) (Side.mk (Nat.le_trans (wd_size s _) hs)) (Side.mk (by decide))))); case' right => (refine And.intro (Sc.of ?_) ?_; · ((repeat' (first | exact trivial | apply Le.aggs | apply Le.tups | apply Le.fns | exact Le.refl _ | refine ⟨?_, ?_⟩)); done))) | (with_reducible refine Alt.one ?_))
        | ((with_reducible refine (?_ : AllLe _ _)); first | (first | exact AllLe.refl _ | (repeat' (first | exact trivial | apply Le.aggs | apply Le.tups | apply Le.fns | exact Le.refl _ | refine ⟨?_, ?_⟩))))
        | ((with_reducible refine (?_ : Sc _ (AllRen _ _ _))); refine Sc.of ?_; first | (repeat' (first | exact trivial | apply Le.aggs | apply Le.tups | apply Le.fns | exact Le.refl _ | refine ⟨?_, ?_⟩)))
        | ((with_reducible refine (?_ : (List.all _ _) = true)); rfl)
        | ((with_reducible refine (?_ : (and _ _) = true)); rfl)
        | ((with_reducible refine (?_ : List.Nodup _)); exact nodupB_spec rfl)
        | ((with_reducible refine (?_ : @Eq Nat _ _)); rfl)
        | ((with_reducible refine (?_ : @Eq (List (Option HObj)) _ _)); kernel_rfl)
        | ((with_reducible refine (?_ : LeOks _ _ _)); first | exact trivial | exact ⟨.refl _, trivial⟩ | exact ⟨.refl _, .refl _, trivial⟩)
        | ((fail_if_success with_reducible refine Stop.go ?_); (first | with_reducible refine And.intro ?_ ?_ | with_reducible refine Cut.go ?_ | (with_reducible (refine impI ?_; intro _)) | (with_reducible refine (?_ : footOK _ _ = true); kernel_rfl) | ((with_reducible refine propI ?_); conv => whnf))))
      all_goals try (exact .of (Nat.le_of_ble_eq_true rfl))
      all_goals try ((with_reducible refine (?_ : Sc _ _)); rename_i q; have q := of_decide_eq_true q; have y := rd3_len (wd s (4 + 0)); refine Sc.of ?_; first | exact ⟨Nat.le_of_ble_eq_true rfl, Nat.le_of_ble_eq_true rfl⟩ | exact ⟨by omega, by omega⟩ | exact ⟨show (0 + (0 + 1)) * 24 ≤ 140737488355328 by omega, show 0 + (0 + 1) ≤ 9223372036854775807 by omega⟩)
      · rename_i q; have q := of_decide_eq_true q
        refine ⟨0 + 1, by show 0 + 1 ≤ wn s - 4; omega, by show wn s - 4 - (0 + 1) < wn s - 4 - (0); omega, .le ⟨rfl, ⟨.refl _, .refl _, .refl _, .list (fun a j ha hj => ?_), trivial⟩, ⟨.refl _, .refl _, .refl _, .refl _, .refl _, .refl _, .intI (by first | rfl | omega), trivial⟩⟩⟩
        replace ha : a < 1 := by omega
        obtain rfl : a = 0 := by omega
        show Le (tbl (segC (sgr s 0)) (0 * 3 + j)) (tbl (segC (sgr s 0)) j); rw [Nat.zero_mul, Nat.zero_add]; exact .refl _
      all_goals (exfalso; first | (rename_i q; have q := of_decide_eq_false q; omega) | (rename_i q _; have q := of_decide_eq_false q; omega))

    · replace hi : i + 1 ≤ wn s - 4 := hi
      repeat' (first
        | ((with_reducible refine (?_ : Alt _ _)); first | ((with_reducible (apply altM (ks := [2]) (m := 0); apply And.intro; apply Sc.of; apply (c29 hX hl (wd s (4 + (i + 1))) 3 (okI s ((i + 1))) (Side.mk (Nat.le_trans (wd_size s _) hs)) (Side.mk (by decide))))); case' right => (refine And.intro (Sc.of ?_) ?_; · ((repeat' (first | exact trivial | apply Le.aggs | apply Le.tups | apply Le.fns | exact Le.refl _ | refine ⟨?_, ?_⟩)); done))) | (with_reducible refine Alt.one ?_))
        | ((with_reducible refine (?_ : AllLe _ _)); first | (first | exact AllLe.refl _ | (repeat' (first | exact trivial | apply Le.aggs | apply Le.tups | apply Le.fns | exact Le.refl _ | refine ⟨?_, ?_⟩))))
        | ((with_reducible refine (?_ : Sc _ (AllRen _ _ _))); refine Sc.of ?_; first | (repeat' (first | exact trivial | apply Le.aggs | apply Le.tups | apply Le.fns | exact Le.refl _ | refine ⟨?_, ?_⟩)))
        | ((with_reducible refine (?_ : (List.all _ _) = true)); rfl)
        | ((with_reducible refine (?_ : (and _ _) = true)); rfl)
        | ((with_reducible refine (?_ : List.Nodup _)); exact nodupB_spec rfl)
        | ((with_reducible refine (?_ : @Eq Nat _ _)); rfl)
        | ((with_reducible refine (?_ : @Eq (List (Option HObj)) _ _)); kernel_rfl)
        | ((with_reducible refine (?_ : LeOks _ _ _)); first | exact trivial | exact ⟨.refl _, trivial⟩ | exact ⟨.refl _, .refl _, trivial⟩)
        | ((fail_if_success with_reducible refine Stop.go ?_); (first | rw [beqvv (i + 1)] | rw [beqvv i] | with_reducible refine And.intro ?_ ?_ | with_reducible refine Cut.go ?_ | (with_reducible (refine impI ?_; intro _)) | (with_reducible refine (?_ : footOK _ _ = true); kernel_rfl) | ((with_reducible refine propI ?_); conv => whnf))))
      all_goals try (exact .of (Nat.le_of_ble_eq_true rfl))
      all_goals try ((with_reducible refine (?_ : Sc _ _)); rename_i q; have q := of_decide_eq_true q; have y := rd3_len (wd s (4 + (i + 1))); refine Sc.of ?_; first | exact ⟨Nat.le_of_ble_eq_true rfl, Nat.le_of_ble_eq_true rfl⟩ | exact ⟨by omega, by omega⟩ | exact ⟨show ((i + 1) + (0 + 1)) * 24 ≤ 140737488355328 by omega, show (i + 1) + (0 + 1) ≤ 9223372036854775807 by omega⟩)
      · rename_i q; have q := of_decide_eq_true q
        refine ⟨(i + 1) + 1, by show (i + 1) + 1 ≤ wn s - 4; omega, by show wn s - 4 - ((i + 1) + 1) < wn s - 4 - ((i + 1)); omega, .le ⟨rfl, ⟨.refl _, .refl _, .refl _, .list (fun a j ha hj => ?_), trivial⟩, ⟨.refl _, .refl _, .refl _, .refl _, .refl _, .refl _, .intI (by first | rfl | omega), trivial⟩⟩⟩
        exact Le.ofEq (push_sg (fun j => rfl) ha)
        skip
        skip
      · rename_i q q2; have q := of_decide_eq_false q
        have w : parB s = false := by
          cases hp : parB s with
          | false => rfl
          | true =>
            have z := okI_iff.2 (par_split hp (i := i + 1) (by omega))
            rw [not_t q2] at z; cases z
        exact .mk [] [] _ rfl (.le (.tups ⟨⟨trivial, by rw [(parE_1 w).2]; exact .aggs ⟨⟨⟨⟨⟨trivial, .refl _⟩, .refl _⟩, .refl _⟩, Le.slc0 1 _⟩, Le.slc0 3 _⟩⟩, .intI (by rw [(parE_1 w).1])⟩)) trivial rfl
      · rename_i q q2; have q := of_decide_eq_false q
        obtain ⟨z1, z2, z3⟩ := okI_iff.1 (not_f q2)
        have w := par_t g1 z1 z2 (fun j hj => z3 j (by unfold wn at q; omega))
        refine .mk [] [3] _ rfl (.tups ⟨⟨trivial, ?_⟩, .le (.intI (by rw [(parE_0 w).1]))⟩) trivial rfl
        rw [(parE_0 w).2]
        obtain ⟨d1, d2⟩ := dt_vals z1
        refine .aggs (n := 5) ⟨⟨⟨⟨⟨trivial, .le (.intI d1)⟩, .le (.intI d2)⟩, .le (.refl _)⟩, .le (by show Le (iRow (exR s)) (iRow (exV s)); rw [exR_is z2]; exact .refl _)⟩, ?_⟩
        show LeH _ _ (segS ((List.range (wn s - 4)).map fun i => segV (wd s (4 + i))))
        have hln : ((List.range (wn s - 4)).map fun i => segV (wd s (4 + i))).length = i + 1 := by simp; omega
        unfold segS
        rw [hln]
        refine .own rfl fun a j ha hj => ?_
        have e : ((List.range (wn s - 4)).map fun i => segV (wd s (4 + i))).getD a seg0 = segV (wd s (4 + a)) := by
          have : a < wn s - 4 := by omega
          simp [List.getD_eq_getElem?_getD, this]
        rw [e, ← sgr_is (z3 a (by omega))]
        exact .refl _

  · rename_i q q3
    have g1 := not_f ((hd_is s).symm.trans q); have g5 := hd_len g1; have g6 : wn s = (cutS 32 s).length := rfl
    have z : wd s 3 = toS [45] := of_decide_eq_true (not_f q3)
    clear q q3
    have ok0 : okB s = okA s := by unfold okB; rw [decide_eq_true z]; rfl
    refine ⟨Nat, fun i => match i with | 0 => ([(2, .ptr 0 0), (5, .ptr 1 0), (6, .ptr 2 0), (7, .fn 29 1 (tbl [.ptr 2 0])), (64, .slc 1 (wn s - 4) (fun q _ => .str (wd s (4 + q)))), (65, .int .i64 ((wn s - 4 : Nat) : Int)), (66, .int .i64 ((0 : Nat) : Int))], [.box [.int .i64 0, .int .i64 0, .bool false, .slc0, .slc0], .box [.int .i64 ((rdL (wd s 0) 1).getD 0 0), .int .i64 ((rdL (wd s 1) 1).getD 0 0), .bool (decide (wd s 2 = toS fixW)), iRow (exR s), .slc0], .box [.bool (okI s (0))]]) | i + 1 => ([(2, .ptr 0 0), (5, .ptr 1 0), (6, .ptr 2 0), (7, .fn 29 1 (tbl [.ptr 2 0])), (64, .slc 1 (wn s - 4) (fun q _ => .str (wd s (4 + q)))), (65, .int .i64 ((wn s - 4 : Nat) : Int)), (66, .int .i64 ((i + 1 : Nat) : Int))], [.box [.int .i64 0, .int .i64 0, .bool false, .slc0, .slc0], .box [.int .i64 ((rdL (wd s 0) 1).getD 0 0), .int .i64 ((rdL (wd s 1) 1).getD 0 0), .bool (decide (wd s 2 = toS fixW)), iRow (exR s), .own 3 (i + 1)], .box [.bool (okI s (i + 1))], .list 72 3 (i + 1) (fun a j => tbl (segC (sgr s a)) j) (i + 1)]), fun i => i ≤ wn s - 4, fun i => wn s - 4 - i, ⟨0, Nat.zero_le _, .le ⟨rfl, ⟨.refl _, .boxes ⟨.refl _, .refl _, .refl _, (by rw [exR_0 z]; exact Le.slc0 1 _), .refl _, trivial⟩, .boxes ⟨by show Le _ (.bool (okB s)); rw [ok0]; exact .refl _, trivial⟩, trivial⟩, ⟨.refl _, .refl _, .refl _, .fns ⟨trivial, .refl _⟩, .refl _, .intI ?_, .refl _, trivial⟩⟩⟩, fun i hi => ?_⟩
    · show ((((cutS 32 s).length : Int).toNat - Int.toNat 4 : Nat) : Int) = ((wn s - 4 : Nat) : Int); rfl
    rcases i with _ | i
    · replace hi : 0 ≤ wn s - 4 := hi
      repeat' (first
        | ((with_reducible refine (?_ : Alt _ _)); first | ((with_reducible (apply altM (ks := [2]) (m := 0); apply And.intro; apply Sc.of; apply (c29 hX hl (wd s (4 + 0)) 3 (okI s (0)) (Side.mk (Nat.le_trans (wd_size s _) hs)) (Side.mk (by decide))))); case' right => (refine And.intro (Sc.of ?_) ?_; · ((repeat' (first | exact trivial | apply Le.aggs | apply Le.tups | apply Le.fns | exact Le.refl _ | refine ⟨?_, ?_⟩)); done))) | (with_reducible refine Alt.one ?_))
        | ((with_reducible refine (?_ : AllLe _ _)); first | (first | exact AllLe.refl _ | (repeat' (first | exact trivial | apply Le.aggs | apply Le.tups | apply Le.fns | exact Le.refl _ | refine ⟨?_, ?_⟩))))
        | ((with_reducible refine (?_ : Sc _ (AllRen _ _ _))); refine Sc.of ?_; first | (repeat' (first | exact trivial | apply Le.aggs | apply Le.tups | apply Le.fns | exact Le.refl _ | refine ⟨?_, ?_⟩)))
        | ((with_reducible refine (?_ : (List.all _ _) = true)); rfl)
        | ((with_reducible refine (?_ : (and _ _) = true)); rfl)
        | ((with_reducible refine (?_ : List.Nodup _)); exact nodupB_spec rfl)
        | ((with_reducible refine (?_ : @Eq Nat _ _)); rfl)
        | ((with_reducible refine (?_ : @Eq (List (Option HObj)) _ _)); kernel_rfl)
        | ((with_reducible refine (?_ : LeOks _ _ _)); first | exact trivial | exact ⟨.refl _, trivial⟩ | exact ⟨.refl _, .refl _, trivial⟩)
        | ((fail_if_success with_reducible refine Stop.go ?_); (first | with_reducible refine And.intro ?_ ?_ | with_reducible refine Cut.go ?_ | (with_reducible (refine impI ?_; intro _)) | (with_reducible refine (?_ : footOK _ _ = true); kernel_rfl) | ((with_reducible refine propI ?_); conv => whnf))))
      all_goals try (exact .of (Nat.le_of_ble_eq_true rfl))
      all_goals try ((with_reducible refine (?_ : Sc _ _)); rename_i q; have q := of_decide_eq_true q; have y := rd3_len (wd s (4 + 0)); refine Sc.of ?_; first | exact ⟨Nat.le_of_ble_eq_true rfl, Nat.le_of_ble_eq_true rfl⟩ | exact ⟨by omega, by omega⟩ | exact ⟨show (0 + (0 + 1)) * 24 ≤ 140737488355328 by omega, show 0 + (0 + 1) ≤ 9223372036854775807 by omega⟩)
      · rename_i q; have q := of_decide_eq_true q
        refine ⟨0 + 1, by show 0 + 1 ≤ wn s - 4; omega, by show wn s - 4 - (0 + 1) < wn s - 4 - (0); omega, .le ⟨rfl, ⟨.refl _, .refl _, .refl _, .list (fun a j ha hj => ?_), trivial⟩, ⟨.refl _, .refl _, .refl _, .refl _, .refl _, .refl _, .intI (by first | rfl | omega), trivial⟩⟩⟩
        replace ha : a < 1 := by omega
        obtain rfl : a = 0 := by omega
        show Le (tbl (segC (sgr s 0)) (0 * 3 + j)) (tbl (segC (sgr s 0)) j); rw [Nat.zero_mul, Nat.zero_add]; exact .refl _
      all_goals (exfalso; first | (rename_i q; have q := of_decide_eq_false q; omega) | (rename_i q _; have q := of_decide_eq_false q; omega))

    · replace hi : i + 1 ≤ wn s - 4 := hi
      repeat' (first
        | ((with_reducible refine (?_ : Alt _ _)); first | ((with_reducible (apply altM (ks := [2]) (m := 0); apply And.intro; apply Sc.of; apply (c29 hX hl (wd s (4 + (i + 1))) 3 (okI s ((i + 1))) (Side.mk (Nat.le_trans (wd_size s _) hs)) (Side.mk (by decide))))); case' right => (refine And.intro (Sc.of ?_) ?_; · ((repeat' (first | exact trivial | apply Le.aggs | apply Le.tups | apply Le.fns | exact Le.refl _ | refine ⟨?_, ?_⟩)); done))) | (with_reducible refine Alt.one ?_))
        | ((with_reducible refine (?_ : AllLe _ _)); first | (first | exact AllLe.refl _ | (repeat' (first | exact trivial | apply Le.aggs | apply Le.tups | apply Le.fns | exact Le.refl _ | refine ⟨?_, ?_⟩))))
        | ((with_reducible refine (?_ : Sc _ (AllRen _ _ _))); refine Sc.of ?_; first | (repeat' (first | exact trivial | apply Le.aggs | apply Le.tups | apply Le.fns | exact Le.refl _ | refine ⟨?_, ?_⟩)))
        | ((with_reducible refine (?_ : (List.all _ _) = true)); rfl)
        | ((with_reducible refine (?_ : (and _ _) = true)); rfl)
        | ((with_reducible refine (?_ : List.Nodup _)); exact nodupB_spec rfl)
        | ((with_reducible refine (?_ : @Eq Nat _ _)); rfl)
        | ((with_reducible refine (?_ : @Eq (List (Option HObj)) _ _)); kernel_rfl)
        | ((with_reducible refine (?_ : LeOks _ _ _)); first | exact trivial | exact ⟨.refl _, trivial⟩ | exact ⟨.refl _, .refl _, trivial⟩)
        | ((fail_if_success with_reducible refine Stop.go ?_); (first | rw [beqvv (i + 1)] | rw [beqvv i] | with_reducible refine And.intro ?_ ?_ | with_reducible refine Cut.go ?_ | (with_reducible (refine impI ?_; intro _)) | (with_reducible refine (?_ : footOK _ _ = true); kernel_rfl) | ((with_reducible refine propI ?_); conv => whnf))))
      all_goals try (exact .of (Nat.le_of_ble_eq_true rfl))
      all_goals try ((with_reducible refine (?_ : Sc _ _)); rename_i q; have q := of_decide_eq_true q; have y := rd3_len (wd s (4 + (i + 1))); refine Sc.of ?_; first | exact ⟨Nat.le_of_ble_eq_true rfl, Nat.le_of_ble_eq_true rfl⟩ | exact ⟨by omega, by omega⟩ | exact ⟨show ((i + 1) + (0 + 1)) * 24 ≤ 140737488355328 by omega, show (i + 1) + (0 + 1) ≤ 9223372036854775807 by omega⟩)
      · rename_i q; have q := of_decide_eq_true q
        refine ⟨(i + 1) + 1, by show (i + 1) + 1 ≤ wn s - 4; omega, by show wn s - 4 - ((i + 1) + 1) < wn s - 4 - ((i + 1)); omega, .le ⟨rfl, ⟨.refl _, .refl _, .refl _, .list (fun a j ha hj => ?_), trivial⟩, ⟨.refl _, .refl _, .refl _, .refl _, .refl _, .refl _, .intI (by first | rfl | omega), trivial⟩⟩⟩
        exact Le.ofEq (push_sg (fun j => rfl) ha)
        skip
        skip
      · rename_i q q2; have q := of_decide_eq_false q
        have w : parB s = false := by
          cases hp : parB s with
          | false => rfl
          | true =>
            have z := okI_iff.2 (par_split hp (i := i + 1) (by omega))
            rw [not_t q2] at z; cases z
        exact .mk [] [] _ rfl (.le (.tups ⟨⟨trivial, by rw [(parE_1 w).2]; exact .aggs ⟨⟨⟨⟨⟨trivial, .refl _⟩, .refl _⟩, .refl _⟩, Le.slc0 1 _⟩, Le.slc0 3 _⟩⟩, .intI (by rw [(parE_1 w).1])⟩)) trivial rfl
      · rename_i q q2; have q := of_decide_eq_false q
        obtain ⟨z1, z2, z3⟩ := okI_iff.1 (not_f q2)
        have w := par_t g1 z1 z2 (fun j hj => z3 j (by unfold wn at q; omega))
        refine .mk [] [3] _ rfl (.tups ⟨⟨trivial, ?_⟩, .le (.intI (by rw [(parE_0 w).1]))⟩) trivial rfl
        rw [(parE_0 w).2]
        obtain ⟨d1, d2⟩ := dt_vals z1
        refine .aggs (n := 5) ⟨⟨⟨⟨⟨trivial, .le (.intI d1)⟩, .le (.intI d2)⟩, .le (.refl _)⟩, .le (by show Le (iRow (exR s)) (iRow (exV s)); rw [exR_is z2]; exact .refl _)⟩, ?_⟩
        show LeH _ _ (segS ((List.range (wn s - 4)).map fun i => segV (wd s (4 + i))))
        have hln : ((List.range (wn s - 4)).map fun i => segV (wd s (4 + i))).length = i + 1 := by simp; omega
        unfold segS
        rw [hln]
        refine .own rfl fun a j ha hj => ?_
        have e : ((List.range (wn s - 4)).map fun i => segV (wd s (4 + i))).getD a seg0 = segV (wd s (4 + a)) := by
          have : a < wn s - 4 := by omega
          simp [List.getD_eq_getElem?_getD, this]
        rw [e, ← sgr_is (z3 a (by omega))]
        exact .refl _


end
end Go.Fx

/-
  Trips that are the same.
-/
namespace Go.Fx
open Go.Proofs Go.RowKit
section
variable {W0 : World} {G : Nat → Option AV} (hX : (Xc W0 G).Good)
include hX
theorem c36 (l : List Int) (hs : Side (l.length ≤ 1000000)) : Pure (Xc W0 G) 36 [iRow l, iRow l] (.bool true) := by
  have hs := hs.get
  refine mut_of' hX (show FnIs (Xc W0 G) 36 Tryz.f36 (codeOf Tryz.f36) from ⟨by kernel_rfl, by kernel_rfl, by kernel_rfl, by kernel_rfl⟩) rfl ?_
  repeat' (first
    | ((with_reducible refine (?_ : Alt _ _)); first | fail | (with_reducible refine Alt.one ?_))
    | ((with_reducible refine (?_ : AllLe _ _)); first | (first | exact AllLe.refl _ | (repeat' (first | exact trivial | apply Le.aggs | apply Le.tups | apply Le.fns | exact Le.refl _ | refine ⟨?_, ?_⟩))))
    | ((with_reducible refine (?_ : Sc _ (AllRen _ _ _))); refine Sc.of ?_; first | (repeat' (first | exact trivial | apply Le.aggs | apply Le.tups | apply Le.fns | exact Le.refl _ | refine ⟨?_, ?_⟩)))
    | ((with_reducible refine (?_ : (List.all _ _) = true)); rfl)
    | ((with_reducible refine (?_ : (and _ _) = true)); rfl)
    | ((with_reducible refine (?_ : List.Nodup _)); exact nodupB_spec rfl)
    | ((with_reducible refine (?_ : @Eq Nat _ _)); rfl)
    | ((with_reducible refine (?_ : @Eq (List (Option HObj)) _ _)); kernel_rfl)
    | ((with_reducible refine (?_ : LeOks _ _ _)); first | exact trivial | exact ⟨.refl _, trivial⟩ | exact ⟨.refl _, .refl _, trivial⟩)
    | ((fail_if_success with_reducible refine Stop.go ?_); (first | with_reducible refine And.intro ?_ ?_ | with_reducible refine Cut.go ?_ | (with_reducible (refine impI ?_; intro _)) | (with_reducible refine (?_ : footOK _ _ = true); kernel_rfl) | ((with_reducible refine propI ?_); conv => whnf))))
  all_goals try (exact .of (Nat.le_of_ble_eq_true rfl))
  all_goals try (rename_i q; exfalso; simp at q; done)
  refine ⟨Nat, fun i => ([(0, iRow l), (1, iRow l), (5, .int .i64 (i : Nat))], []), fun i => i ≤ l.length, fun i => l.length - i, ⟨0, Nat.zero_le _, .le ⟨rfl, trivial, ⟨.refl _, .refl _, .refl _, trivial⟩⟩⟩, fun i hi => ?_⟩
  repeat' (first
    | ((with_reducible refine (?_ : Alt _ _)); first | fail | (with_reducible refine Alt.one ?_))
    | ((with_reducible refine (?_ : AllLe _ _)); first | (first | exact AllLe.refl _ | (repeat' (first | exact trivial | apply Le.aggs | apply Le.tups | apply Le.fns | exact Le.refl _ | refine ⟨?_, ?_⟩))))
    | ((with_reducible refine (?_ : Sc _ (AllRen _ _ _))); refine Sc.of ?_; first | (repeat' (first | exact trivial | apply Le.aggs | apply Le.tups | apply Le.fns | exact Le.refl _ | refine ⟨?_, ?_⟩)))
    | ((with_reducible refine (?_ : (List.all _ _) = true)); rfl)
    | ((with_reducible refine (?_ : (and _ _) = true)); rfl)
    | ((with_reducible refine (?_ : List.Nodup _)); exact nodupB_spec rfl)
    | ((with_reducible refine (?_ : @Eq Nat _ _)); rfl)
    | ((with_reducible refine (?_ : @Eq (List (Option HObj)) _ _)); kernel_rfl)
    | ((with_reducible refine (?_ : LeOks _ _ _)); first | exact trivial | exact ⟨.refl _, trivial⟩ | exact ⟨.refl _, .refl _, trivial⟩)
    | ((fail_if_success with_reducible refine Stop.go ?_); (first | with_reducible refine And.intro ?_ ?_ | with_reducible refine Cut.go ?_ | (with_reducible (refine impI ?_; intro _)) | (with_reducible refine (?_ : footOK _ _ = true); kernel_rfl) | ((with_reducible refine propI ?_); conv => whnf))))
  all_goals replace hi : i ≤ l.length := hi
  all_goals try (exact .of (Nat.le_of_ble_eq_true rfl))
  all_goals try (rename_i q; have q := of_decide_eq_true q; first | exact .of ⟨by omega, by omega⟩ | exact .of (by decide))
  all_goals try (rename_i q2 q; exfalso; simp at q; done)
  all_goals try (rename_i q q2; have q := of_decide_eq_true q; exact .of ⟨by omega, by omega⟩)
  · rename_i q q2; have q := of_decide_eq_true q
    exact ⟨i + 1, by show i + 1 ≤ l.length; omega, by show l.length - (i + 1) < l.length - i; omega, .le ⟨rfl, trivial, ⟨.refl _, .refl _, .refl _, trivial⟩⟩⟩
  · exact .mk [] [] _ rfl (.le (.refl _)) trivial rfl
theorem c12 (x : Trp) (hs : Side (x.ex.length ≤ 1000000 ∧ x.sg.length ≤ 1000000)) : Pure (Xc W0 G) 12 [trpA x, trpA x] (.bool true) := by
  have hs := hs.get
  refine mut_of' hX (show FnIs (Xc W0 G) 12 Tryz.f12 (codeOf Tryz.f12) from ⟨by kernel_rfl, by kernel_rfl, by kernel_rfl, by kernel_rfl⟩) rfl ?_
  repeat' (first
    | ((with_reducible refine (?_ : Alt _ _)); first | (with_reducible apply callAlt (c36 hX x.ex ?_)) | (with_reducible refine Alt.one ?_))
    | ((with_reducible refine (?_ : AllLe _ _)); first | (first | exact AllLe.refl _ | (repeat' (first | exact trivial | apply Le.aggs | apply Le.tups | apply Le.fns | exact Le.refl _ | refine ⟨?_, ?_⟩))))
    | ((with_reducible refine (?_ : Sc _ (AllRen _ _ _))); refine Sc.of ?_; first | (repeat' (first | exact trivial | apply Le.aggs | apply Le.tups | apply Le.fns | exact Le.refl _ | refine ⟨?_, ?_⟩)))
    | ((with_reducible refine (?_ : (List.all _ _) = true)); rfl)
    | ((with_reducible refine (?_ : (and _ _) = true)); rfl)
    | ((with_reducible refine (?_ : List.Nodup _)); exact nodupB_spec rfl)
    | ((with_reducible refine (?_ : @Eq Nat _ _)); rfl)
    | ((with_reducible refine (?_ : @Eq (List (Option HObj)) _ _)); kernel_rfl)
    | ((with_reducible refine (?_ : LeOks _ _ _)); first | exact trivial | exact ⟨.refl _, trivial⟩ | exact ⟨.refl _, .refl _, trivial⟩)
    | ((fail_if_success with_reducible refine Stop.go ?_); (first | with_reducible refine And.intro ?_ ?_ | with_reducible refine Cut.go ?_ | (with_reducible (refine impI ?_; intro _)) | (with_reducible refine (?_ : footOK _ _ = true); kernel_rfl) | ((with_reducible refine propI ?_); conv => whnf))))
  all_goals try (exact .of (Nat.le_of_ble_eq_true rfl))
  all_goals try (exact Side.mk hs.1)
  all_goals try (rename_i q; exfalso; simp at q; done)
  refine ⟨Nat, fun i => ([(2, .ptr 0 0), (3, .ptr 1 0), (5, .int .i64 (i : Nat))], [.box (trpC x), .box (trpC x)]), fun i => i ≤ x.sg.length, fun i => x.sg.length - i, ⟨0, Nat.zero_le _, .le ⟨rfl, ⟨.refl _, .refl _, trivial⟩, ⟨.refl _, .refl _, .refl _, trivial⟩⟩⟩, fun i hi => ?_⟩
  repeat' (first
    | ((with_reducible refine (?_ : Alt _ _)); first | fail | (with_reducible refine Alt.one ?_))
    | ((with_reducible refine (?_ : AllLe _ _)); first | (first | exact AllLe.refl _ | (repeat' (first | exact trivial | apply Le.aggs | apply Le.tups | apply Le.fns | exact Le.refl _ | refine ⟨?_, ?_⟩))))
    | ((with_reducible refine (?_ : Sc _ (AllRen _ _ _))); refine Sc.of ?_; first | (repeat' (first | exact trivial | apply Le.aggs | apply Le.tups | apply Le.fns | exact Le.refl _ | refine ⟨?_, ?_⟩)))
    | ((with_reducible refine (?_ : (List.all _ _) = true)); rfl)
    | ((with_reducible refine (?_ : (and _ _) = true)); rfl)
    | ((with_reducible refine (?_ : List.Nodup _)); exact nodupB_spec rfl)
    | ((with_reducible refine (?_ : @Eq Nat _ _)); rfl)
    | ((with_reducible refine (?_ : @Eq (List (Option HObj)) _ _)); kernel_rfl)
    | ((with_reducible refine (?_ : LeOks _ _ _)); first | exact trivial | exact ⟨.refl _, trivial⟩ | exact ⟨.refl _, .refl _, trivial⟩)
    | ((fail_if_success with_reducible refine Stop.go ?_); (first | with_reducible refine And.intro ?_ ?_ | with_reducible refine Cut.go ?_ | (with_reducible (refine impI ?_; intro _)) | (with_reducible refine (?_ : footOK _ _ = true); kernel_rfl) | ((with_reducible refine propI ?_); conv => whnf))))
  all_goals replace hi : i ≤ x.sg.length := hi
  all_goals try (exact .of (Nat.le_of_ble_eq_true rfl))
  all_goals try (rename_i q; have q := of_decide_eq_true q; first | exact .of ⟨by omega, by omega⟩ | exact .of (by decide))
  all_goals try (rename_i q2 q; exfalso; simp at q; done)
  all_goals try (rename_i q q2; have q := of_decide_eq_true q; exact .of ⟨by omega, by omega⟩)
  · rename_i q q2; have q := of_decide_eq_true q
    exact ⟨i + 1, by show i + 1 ≤ x.sg.length; omega, by show x.sg.length - (i + 1) < x.sg.length - i; omega, .le ⟨rfl, ⟨.refl _, .refl _, trivial⟩, ⟨.refl _, .refl _, .refl _, trivial⟩⟩⟩
  · exact .mk [] [] _ rfl (.le (.refl _)) trivial rfl
end
end Go.Fx
