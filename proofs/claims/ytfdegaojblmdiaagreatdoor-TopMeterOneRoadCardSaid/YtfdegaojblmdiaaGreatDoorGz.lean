/-
  The body of TopMeterOneRoad.
-/
import Derived.Test.YtfdegaojblmdiaaGreatDoorGu
import Derived.Test.YtfdegaojblmdiaaGreatDoorGx
import Derived.Test.YtfdegaojblmdiaaGreatDoorGm

set_option linter.all false

/-
  States compared.
-/
namespace Go.Fx
open Go.Proofs Go.RowKit

def sgA (a b c d e f : Int) (x : List Int) (g : Int) : AV := .agg 8 (tbl [.int .i64 a, .int .i64 b, .int .i64 c, .int .i64 d, .int .i64 e, .int .i64 f, iRow x, .int .i64 g])
section
variable {W0 : World} {G : Nat → Option AV} (hX : (Xc W0 G).Good)
include hX
theorem c77 (l : List Int) (hs : Side (l.length ≤ 1000)) : Pure (Xc W0 G) 77 [iRow l, iRow l] (.bool true) := by
  have hs := hs.get
  refine mut_of' hX (show FnIs (Xc W0 G) 77 Tryz.f77 (codeOf Tryz.f77) from ⟨by kernel_rfl, by kernel_rfl, by kernel_rfl, by kernel_rfl⟩) rfl ?_
  repeat' (first
    | ((with_reducible refine (?_ : Alt _ _)); first | fail | (with_reducible refine Alt.one ?_))
    | ((with_reducible refine (?_ : AllLe _ _)); first | (first | exact AllLe.refl _ | (repeat' (first | exact trivial | apply Le.aggs | apply Le.tups | apply Le.fns | exact Le.refl _ | refine ⟨?_, ?_⟩))))
    | ((with_reducible refine (?_ : Sc _ (AllRen _ _ _))); refine Sc.of ?_; first | (repeat' (first | exact trivial | apply Le.aggs | apply Le.tups | apply Le.fns | exact Le.refl _ | refine ⟨?_, ?_⟩)))
    | ((with_reducible refine (?_ : (List.all _ _) = true)); rfl)
    | ((with_reducible refine (?_ : (and _ _) = true)); rfl)
    | ((with_reducible refine (?_ : List.Nodup _)); exact nodupB_spec rfl)
    | ((with_reducible refine (?_ : @Eq Nat _ _)); rfl)
    | ((with_reducible refine (?_ : @Eq (List (Option HObj)) _ _)); kernel_rfl)
    | ((with_reducible refine (?_ : LeOks _ _ _)); first | exact trivial | exact ⟨.refl _, trivial⟩ | exact ⟨.refl _, .refl _, trivial⟩)
    | ((fail_if_success with_reducible refine Stop.go ?_); (first | with_reducible refine And.intro ?_ ?_ | with_reducible refine Cut.go ?_ | (with_reducible (refine impI ?_; intro _)) | (with_reducible refine (?_ : footOK _ _ = true); kernel_rfl) | ((with_reducible refine propI ?_); conv => whnf))))
  all_goals try (exact .of (Nat.le_of_ble_eq_true rfl))
  all_goals try (rename_i q; exfalso; simp at q; done)
  refine ⟨Nat, fun i => ([(0, iRow l), (1, iRow l), (5, .int .i64 ((i : Nat)))], []), fun i => i ≤ l.length, fun i => l.length - i, ⟨0, Nat.zero_le _, .le ⟨rfl, trivial, ⟨.refl _, .refl _, .refl _, trivial⟩⟩⟩, fun i hi => ?_⟩
  repeat' (first
    | ((with_reducible refine (?_ : Alt _ _)); first | fail | (with_reducible refine Alt.one ?_))
    | ((with_reducible refine (?_ : AllLe _ _)); first | (first | exact AllLe.refl _ | (repeat' (first | exact trivial | apply Le.aggs | apply Le.tups | apply Le.fns | exact Le.refl _ | refine ⟨?_, ?_⟩))))
    | ((with_reducible refine (?_ : Sc _ (AllRen _ _ _))); refine Sc.of ?_; first | (repeat' (first | exact trivial | apply Le.aggs | apply Le.tups | apply Le.fns | exact Le.refl _ | refine ⟨?_, ?_⟩)))
    | ((with_reducible refine (?_ : (List.all _ _) = true)); rfl)
    | ((with_reducible refine (?_ : (and _ _) = true)); rfl)
    | ((with_reducible refine (?_ : List.Nodup _)); exact nodupB_spec rfl)
    | ((with_reducible refine (?_ : @Eq Nat _ _)); rfl)
    | ((with_reducible refine (?_ : @Eq (List (Option HObj)) _ _)); kernel_rfl)
    | ((with_reducible refine (?_ : LeOks _ _ _)); first | exact trivial | exact ⟨.refl _, trivial⟩ | exact ⟨.refl _, .refl _, trivial⟩)
    | ((fail_if_success with_reducible refine Stop.go ?_); (first | with_reducible refine And.intro ?_ ?_ | with_reducible refine Cut.go ?_ | (with_reducible (refine impI ?_; intro _)) | (with_reducible refine (?_ : footOK _ _ = true); kernel_rfl) | ((with_reducible refine propI ?_); conv => whnf))))
  all_goals replace hi : i ≤ l.length := hi
  all_goals try (exact .of (Nat.le_of_ble_eq_true rfl))
  all_goals try (rename_i q; have q := of_decide_eq_true q; first | exact .of ⟨by omega, by omega⟩ | exact .of (by decide))
  all_goals try (rename_i q2 q; exfalso; simp at q; done)
  all_goals try (rename_i q q2; have q := of_decide_eq_true q; exact .of ⟨by omega, by omega⟩)
  · rename_i q q2; have q := of_decide_eq_true q
    exact ⟨i + 1, by show i + 1 ≤ l.length; omega, by show l.length - (i + 1) < l.length - i; omega, .le ⟨rfl, trivial, ⟨.refl _, .refl _, .refl _, trivial⟩⟩⟩
  · exact .mk [] [] _ rfl (.le (.refl _)) trivial rfl
theorem c35 (a b c d e f : Int) (x : List Int) (g : Int) (hs : Side (x.length ≤ 1000)) : Pure (Xc W0 G) 35 [sgA a b c d e f x g, sgA a b c d e f x g] (.bool true) := by
  refine mut_of' hX (show FnIs (Xc W0 G) 35 Tryz.f35 (codeOf Tryz.f35) from ⟨by kernel_rfl, by kernel_rfl, by kernel_rfl, by kernel_rfl⟩) rfl ?_
  repeat' (first
    | ((with_reducible refine (?_ : Alt _ _)); first | (with_reducible apply callAlt (c77 hX x hs)) | (with_reducible refine Alt.one ?_))
    | ((with_reducible refine (?_ : AllLe _ _)); first | (first | exact AllLe.refl _ | (repeat' (first | exact trivial | apply Le.aggs | apply Le.tups | apply Le.fns | exact Le.refl _ | refine ⟨?_, ?_⟩))))
    | ((with_reducible refine (?_ : Sc _ (AllRen _ _ _))); refine Sc.of ?_; first | (repeat' (first | exact trivial | apply Le.aggs | apply Le.tups | apply Le.fns | exact Le.refl _ | refine ⟨?_, ?_⟩)))
    | ((with_reducible refine (?_ : (List.all _ _) = true)); rfl)
    | ((with_reducible refine (?_ : (and _ _) = true)); rfl)
    | ((with_reducible refine (?_ : List.Nodup _)); exact nodupB_spec rfl)
    | ((with_reducible refine (?_ : @Eq Nat _ _)); rfl)
    | ((with_reducible refine (?_ : @Eq (List (Option HObj)) _ _)); kernel_rfl)
    | ((with_reducible refine (?_ : LeOks _ _ _)); first | exact trivial | exact ⟨.refl _, trivial⟩ | exact ⟨.refl _, .refl _, trivial⟩)
    | ((fail_if_success with_reducible refine Stop.go ?_); (first | with_reducible refine And.intro ?_ ?_ | with_reducible refine Cut.go ?_ | (with_reducible (refine impI ?_; intro _)) | (with_reducible refine (?_ : footOK _ _ = true); kernel_rfl) | ((with_reducible refine propI ?_); conv => whnf))))
  all_goals try (exact .of (Nat.le_of_ble_eq_true rfl))
  all_goals (exact .mk [] [] _ rfl (.le (.boolT (by simp))) trivial rfl)
end
end Go.Fx

/-
  The body of TopMeterOneRoad.
-/
namespace Go.Fx
open Go.Proofs Go.RowKit
theorem road_g {t : Trf} {l : Log} {b c : Bool} (h : (bif (bif (bif !fewB t then true else !briefB l) then true else b) then true else !c) = false) : TOk t ∧ l.ev.length ≤ 202 ∧ b = false ∧ c = true := by
  cases hf : fewB t
  · rw [hf] at h; cases h
  cases hx : briefB l
  · rw [hf, hx] at h; cases h
  · rw [hf, hx] at h
    cases b
    · cases c
      · cases h
      · exact ⟨(few_ok hf).1, brief_len hx, rfl, rfl⟩
    · cases h
/-- The log, changed up to event i. -/
def dbN (l : Log) (i a : Nat) : Ev := if a < i then dbE (l.ev.getD a ev0) else l.ev.getD a ev0
theorem dbN_0 (l : Log) (a j : Nat) : Le (tbl (evC (l.ev.getD a ev0)) j) (tbl (evC (dbN l 0 a)) j) := by unfold dbN; rw [if_neg (Nat.not_lt_zero a)]; exact .refl _
theorem dbN_no {l : Log} {i : Nat} (h : (l.ev.getD i ev0).k ≠ 0) (a j : Nat) : Le (tbl (evC (dbN l i a)) j) (tbl (evC (dbN l (i + 1) a)) j) := by
  unfold dbN
  by_cases c : a < i
  · rw [if_pos c, if_pos (by omega)]; exact .refl _
  · by_cases d : a = i
    · subst d; rw [if_neg c, if_pos (by omega)]; unfold dbE; rw [beq_false_of_ne h]; exact .refl _
    · rw [if_neg c, if_neg (by omega)]; exact .refl _
theorem dbN_put {l : Log} {i : Nat} (h : (l.ev.getD i ev0).k = 0) (a j : Nat) (hj : j < 2) : Le (putF i 1 [.int .i64 (2 * (l.ev.getD i ev0).n)] (fun a j => tbl (evC (dbN l i a)) j) a j) (tbl (evC (dbN l (i + 1) a)) j) := by
  refine .ofEq ?_
  unfold putF dbN
  by_cases c : a = i
  · subst c
    rw [if_pos (show a < a + 1 by omega)]
    unfold dbE
    rw [h]
    rcases (show j = 0 ∨ j = 1 by omega) with q | q <;> subst q
    · rw [if_neg (by omega)]; show tbl (evC (if a < a then _ else _)) 0 = _; rw [if_neg (by omega)]; exact congrArg (AV.int .i64) h
    · rw [if_pos ⟨rfl, by omega, by show 1 < 1 + 1; omega⟩]; rfl
  · rw [if_neg (fun q => c q.1)]
    by_cases d : a < i
    · show tbl (evC (if a < i then _ else _)) j = _; rw [if_pos d, if_pos (by omega)]
    · show tbl (evC (if a < i then _ else _)) j = _; rw [if_neg d, if_neg (by omega)]
theorem dbN_end {l : Log} (a j : Nat) (ha : a < l.ev.length) : Le (tbl (evC (dbN l l.ev.length a)) j) (tbl (evC ((dbL l).ev.getD a ev0)) j) := by unfold dbN; rw [if_pos ha, db_at]; exact .refl _
theorem dbN_sl {e n : Nat} {H : List HObj} {k v : Nat} {l : Log} {F : Nat → Nat → AV} (hk : H[k]? = some (.list e 2 n F v)) (hn : n = l.ev.length) (h : ∀ i j, i < l.ev.length → Le (F i j) (tbl (evC ((dbL l).ev.getD i ev0)) j)) : LeH H (.own k v) (evS (dbL l).ev) :=
  .ownM hk (by rw [db_len]; exact hn) fun i j hi _ => h i j (by omega)
section
variable {W0 : World} (hX : (Xc W0 Gt).Good) (haw : Pure (Xc W0 Gt) 34 [] (.bool true))
include hX haw
omit haw in
theorem c17n (t : Trf) (l : Log) (hs : Side (TOk t)) (i : Nat) (hr : rnE t l = 0) (hi : Side (i ≤ l.ev.length)) : Pure (Xc W0 Gt) 17 [trfA t, lgA l, .int .i64 i] (.tup 2 (tbl [staA t l (mcN t l i), .int .i64 0])) := by
  have w := c17 hX t l hs i hr (inB_iff.2 (by have := hi.get; omega))
  rwa [Int.toNat_natCast] at w
omit haw in
theorem c17d (t : Trf) (l : Log) (hs : Side (TOk t)) (i : Nat) (hr : rnE t l = 0) (hd : Side (dbOk l)) (hi : Side (i ≤ l.ev.length)) : Pure (Xc W0 Gt) 17 [trfA t, lgA (dbL l), .int .i64 i] (.tup 2 (tbl [.agg 8 (tbl [.int .i64 (mcN t l i).tk, .int .i64 (2 * (mcN t l i).pu), .int .i64 (mcN t l i).ps, .int .i64 (mcN t l i).zn, .int .i64 (2 * (mcN t l i).si), .int .i64 (stpZ t l (mcN t l i)), iRow (mcN t l i).ex, .int .i64 (mFare t l (mcN t l i))]), .int .i64 0])) := by
  have w := c17n hX t (dbL l) hs i ((db_rn hs.get hd.get).trans hr) (Side.mk (by rw [db_len]; exact hi.get))
  have d := db_state hs.get hd.get hr hi.get
  unfold staA staC at w
  rw [d.1, d.2.1, d.2.2.1, d.2.2.2.1, d.2.2.2.2.1, d.2.2.2.2.2.1, d.2.2.2.2.2.2.1, d.2.2.2.2.2.2.2] at w
  exact w
set_option maxHeartbeats 1000000 in
theorem c8e (t : Trf) (l : Log) (hr : rnE t l ≠ 0) : Pure (Xc W0 Gt) 8 [trfA t, lgA l] (.bool true) := by
  refine mut_of' hX (show FnIs (Xc W0 Gt) 8 Tryz.f8 (codeOf Tryz.f8) from ⟨by kernel_rfl, by kernel_rfl, by kernel_rfl, by kernel_rfl⟩) rfl ?_
  repeat' (first
    | ((with_reducible refine (?_ : Alt _ _)); first | (with_reducible apply callAlt (haw)) | (with_reducible apply callAlt (c13 hX t)) | (with_reducible apply callAlt (c18 hX t ?_)) | (with_reducible apply callAlt (c14 hX l)) | ((with_reducible apply callAlt (c15 hX _ _ _)); case hl => (first | exact AllLe.refl _ | ((repeat' (first | exact trivial | apply Le.aggs | apply Le.tups | apply Le.fns | exact Le.refl _ | refine ⟨?_, ?_⟩)); done))) | (with_reducible (apply altM (ks := []) (m := 1); apply And.intro; apply Sc.of; apply (c16o hX l ?_))) | (with_reducible refine Alt.one ?_))
    | ((with_reducible refine (?_ : AllLe _ _)); first | (first | exact AllLe.refl _ | (repeat' (first | exact trivial | apply Le.aggs | apply Le.tups | apply Le.fns | exact Le.refl _ | refine ⟨?_, ?_⟩))))
    | ((with_reducible refine (?_ : Sc _ (AllRen _ _ _))); refine Sc.of ?_; first | (repeat' (first | exact trivial | apply Le.aggs | apply Le.tups | apply Le.fns | exact Le.refl _ | refine ⟨?_, ?_⟩)))
    | ((with_reducible refine (?_ : (List.all _ _) = true)); rfl)
    | ((with_reducible refine (?_ : (and _ _) = true)); rfl)
    | ((with_reducible refine (?_ : List.Nodup _)); exact nodupB_spec rfl)
    | ((with_reducible refine (?_ : @Eq Nat _ _)); rfl)
    | ((with_reducible refine (?_ : @Eq (List (Option HObj)) _ _)); kernel_rfl)
    | ((with_reducible refine (?_ : LeOks _ _ _)); first | exact trivial | exact ⟨.refl _, trivial⟩ | exact ⟨.refl _, .refl _, trivial⟩)
    | ((fail_if_success with_reducible refine Stop.go ?_); (first | with_reducible refine And.intro ?_ ?_ | with_reducible refine Cut.go ?_ | (with_reducible (refine impI ?_; intro _)) | (with_reducible refine (?_ : footOK _ _ = true); kernel_rfl) | ((with_reducible refine propI ?_); conv => whnf))))
  all_goals try (exact .of (Nat.le_of_ble_eq_true rfl))
  all_goals try (rename_i h; first | exact absurd h (by decide) | (cases h; done))
  all_goals try (exact .of (by decide))
  all_goals try (exact .mk [] [] _ rfl (.le (.refl _)) trivial rfl)
  all_goals have gg := road_g ‹(bif (bif (bif !fewB t then true else !briefB l) then true else decide (30 < (l.ev.length : Int))) then true else !inB l.c 1 50000) = false›
  all_goals have el := gg.2.1
  all_goals have cb := inB_iff.1 gg.2.2.2
  all_goals try (exact Side.mk (by omega))
  all_goals try (exact .of ⟨by omega, by omega⟩)
  refine ⟨Nat, fun i => ([(2, .ptr 0 0), (3, .ptr 1 0), (5, .ptr 3 0), (6, .int .i64 ((i : Int)))], [.box (trfC t), .box (logC l (evS l.ev)), .list 41 2 l.ev.length (fun a j => tbl (evC (dbN l (i) a)) j) 1, .box [.int .i64 (2 * l.c), .int .i64 l.d, .int .i64 l.t, .own 2 1]]), fun i => i ≤ l.ev.length ∧ ∀ j, j < i → (l.ev.getD j ev0).k = 0 → 1 ≤ (l.ev.getD j ev0).n ∧ (l.ev.getD j ev0).n ≤ 50000, fun i => l.ev.length - i, ⟨0, ⟨Nat.zero_le _, fun j hj => absurd hj (Nat.not_lt_zero j)⟩, .le ⟨by kernel_rfl, ⟨.refl _, .refl _, .list fun a j _ _ => dbN_0 l a j, .refl _, trivial⟩, ⟨.refl _, .refl _, .refl _, .refl _, trivial⟩⟩⟩, fun i hi => ?_⟩
  have hn := hi.2
  replace hi := hi.1
  have dn : ∀ j, dbN l i j = if j < i then dbE (l.ev.getD j ev0) else l.ev.getD j ev0 := fun j => rfl
  have di : dbN l i i = l.ev.getD i ev0 := if_neg (Nat.lt_irrefl i)
  repeat' (first
    | ((with_reducible refine (?_ : Alt _ _)); first | (with_reducible apply callAlt (c15 hX _ _ _)) | (with_reducible refine Alt.one ?_))
    | ((with_reducible refine (?_ : AllLe _ _)); first | (first | exact AllLe.refl _ | (repeat' (first | exact trivial | apply Le.aggs | apply Le.tups | apply Le.fns | exact Le.refl _ | refine ⟨?_, ?_⟩))))
    | ((with_reducible refine (?_ : Sc _ (AllRen _ _ _))); refine Sc.of ?_; first | (repeat' (first | exact trivial | apply Le.aggs | apply Le.tups | apply Le.fns | exact Le.refl _ | refine ⟨?_, ?_⟩)))
    | ((with_reducible refine (?_ : (List.all _ _) = true)); rfl)
    | ((with_reducible refine (?_ : (and _ _) = true)); rfl)
    | ((with_reducible refine (?_ : List.Nodup _)); exact nodupB_spec rfl)
    | ((with_reducible refine (?_ : @Eq Nat _ _)); rfl)
    | ((with_reducible refine (?_ : @Eq (List (Option HObj)) _ _)); kernel_rfl)
    | ((with_reducible refine (?_ : LeOks _ _ _)); first | exact trivial | exact ⟨.refl _, trivial⟩ | exact ⟨.refl _, .refl _, trivial⟩)
    | ((fail_if_success with_reducible refine Stop.go ?_); (first | with_reducible refine And.intro ?_ ?_ | with_reducible refine Cut.go ?_ | (with_reducible (refine impI ?_; intro _)) | (with_reducible refine (?_ : footOK _ _ = true); kernel_rfl) | ((with_reducible refine propI ?_); conv => whnf))))
  all_goals try (exact .of (Nat.le_of_ble_eq_true rfl))
  all_goals try (exact .mk [] [] _ rfl (.le (.refl _)) trivial rfl)
  all_goals try (have lt : i < l.ev.length := (by have q := of_decide_eq_true ‹decide ((i : Int) < (l.ev.length : Int)) = true›; omega); first | exact .of ⟨by omega, by omega⟩ | exact .of (by rw [Int.toNat_natCast]; exact lt))
  all_goals try (have lt : i < l.ev.length := (by have q := of_decide_eq_true ‹decide ((i : Int) < (l.ev.length : Int)) = true›; omega); have k0 : (l.ev.getD i ev0).k = 0 := (by have q := ‹((dbN l i (i : Int).toNat).k == 0) = true›; rw [Int.toNat_natCast, di] at q; exact eq_of_beq q); have nb := inB_iff.1 (show inB (l.ev.getD i ev0).n 1 50000 = true from by have q := ‹(!inB (dbN l i (i : Int).toNat).n 1 50000) = false›; rw [Int.toNat_natCast, di] at q; cases b : inB (l.ev.getD i ev0).n 1 50000; (rw [b] at q; cases q); rfl); refine Sc.of ?_; rw [Int.toNat_natCast, di]; exact ⟨by omega, by omega⟩)
  · have lt : i < l.ev.length := (by have q := of_decide_eq_true ‹decide ((i : Int) < (l.ev.length : Int)) = true›; omega); have k0 : (l.ev.getD i ev0).k = 0 := (by have q := ‹((dbN l i (i : Int).toNat).k == 0) = true›; rw [Int.toNat_natCast, di] at q; exact eq_of_beq q); have nb := inB_iff.1 (show inB (l.ev.getD i ev0).n 1 50000 = true from by have q := ‹(!inB (dbN l i (i : Int).toNat).n 1 50000) = false›; rw [Int.toNat_natCast, di] at q; cases b : inB (l.ev.getD i ev0).n 1 50000; (rw [b] at q; cases q); rfl)
    have put : ∀ a j, j < 2 → Le (putF (i : Int).toNat 1 [.int .i64 (2 * (dbN l i (i : Int).toNat).n)] (fun a j => tbl (evC (dbN l i a)) j) a j) (tbl (evC (dbN l (i + 1) a)) j) := fun a j hj => by rw [Int.toNat_natCast, di]; exact dbN_put k0 a j hj
    exact ⟨i + 1, ⟨by omega, all_lt hn fun _ => nb⟩, by show l.ev.length - (i + 1) < l.ev.length - i; omega, .le ⟨by kernel_rfl, ⟨.refl _, .refl _, .list (fun a j _ hj => put a j hj), .refl _, trivial⟩, ⟨.refl _, .refl _, .refl _, .intI (by omega), trivial⟩⟩⟩
  · have lt : i < l.ev.length := (by have q := of_decide_eq_true ‹decide ((i : Int) < (l.ev.length : Int)) = true›; omega); have k1 : (l.ev.getD i ev0).k ≠ 0 := (by have q := ‹((dbN l i (i : Int).toNat).k == 0) = false›; rw [Int.toNat_natCast, di] at q; exact fun e => by rw [e] at q; cases q)
    exact ⟨i + 1, ⟨by omega, all_lt hn fun e => absurd e k1⟩, by show l.ev.length - (i + 1) < l.ev.length - i; omega, .le ⟨by kernel_rfl, ⟨.refl _, .refl _, .list (fun a j _ hj => dbN_no k1 a j), .refl _, trivial⟩, ⟨.refl _, .refl _, .refl _, .intI (by omega), trivial⟩⟩⟩
  have q := of_decide_eq_false ‹decide ((i : Int) < (l.ev.length : Int)) = false›
  obtain rfl : i = l.ev.length := by omega
  have dk : dbOk l := ⟨cb, hn⟩
  refine ⟨Nat, fun i => ([(2, .ptr 0 0), (3, .ptr 1 0), (5, .ptr 2 0), (7, .int .i64 (i : Int))], [.box (trfC t), .box (logC l (evS l.ev)), .box (logC (dbL l) (evS (dbL l).ev))]), fun i => i ≤ l.ev.length + 1, fun i => l.ev.length + 1 - i, ⟨0, Nat.zero_le _, .fr [0, 1, 3] [2] (by kernel_rfl) ⟨.le (.refl _), .le (.refl _), .box ⟨.le (.refl _), .le (.refl _), .le (.refl _), dbN_sl rfl rfl (fun a j ha => dbN_end a j ha), trivial⟩, trivial⟩ ⟨.le (.refl _), .le (.refl _), .le (.refl _), .le (.refl _), trivial⟩⟩, fun i hi => ?_⟩
  replace hi : i ≤ l.ev.length + 1 := hi
  have hx9 : ∀ x : Int, (x != x) = true → False := fun x h => by simp at h
  have hx0 : (soE t l (i : Int) != 0) = false → False := fun q => by rw [so_e hr] at q; exact hr (bne_eq_false_iff_eq.1 q)
  have hr' : rnE t (dbL l) ≠ 0 := by rw [db_rn gg.1 dk]; exact hr
  have hx1 : (soE t l (i : Int) != soE t (dbL l) (i : Int)) = true → False := fun q => by rw [so_e hr, so_e hr', db_rn gg.1 dk] at q; simp at q
  repeat' (first
    | ((with_reducible refine (?_ : Alt _ _)); first | (with_reducible apply callAlt (c18 hX t ?_)) | ((with_reducible apply callAlt (c16 hX l ?_)); case hl => (first | exact AllLe.refl _ | ((repeat' (first | exact trivial | apply Le.aggs | apply Le.tups | apply Le.fns | exact Le.refl _ | refine ⟨?_, ?_⟩)); done))) | ((with_reducible apply callAlt (c16 hX (dbL l) ?_)); case hl => (first | exact AllLe.refl _ | ((repeat' (first | exact trivial | apply Le.aggs | apply Le.tups | apply Le.fns | exact Le.refl _ | refine ⟨?_, ?_⟩)); done))) | ((with_reducible apply callAlt (c17e hX t l ?_ _ hr)); case hl => (first | exact AllLe.refl _ | ((repeat' (first | exact trivial | apply Le.aggs | apply Le.tups | apply Le.fns | exact Le.refl _ | refine ⟨?_, ?_⟩)); done))) | ((with_reducible apply callAlt (c17e hX t (dbL l) ?_ _ hr')); case hl => (first | exact AllLe.refl _ | ((repeat' (first | exact trivial | apply Le.aggs | apply Le.tups | apply Le.fns | exact Le.refl _ | refine ⟨?_, ?_⟩)); done))) | (with_reducible refine Alt.one ?_))
    | ((with_reducible refine (?_ : AllLe _ _)); first | (first | exact AllLe.refl _ | (repeat' (first | exact trivial | apply Le.aggs | apply Le.tups | apply Le.fns | exact Le.refl _ | refine ⟨?_, ?_⟩))))
    | ((with_reducible refine (?_ : Sc _ (AllRen _ _ _))); refine Sc.of ?_; first | (repeat' (first | exact trivial | apply Le.aggs | apply Le.tups | apply Le.fns | exact Le.refl _ | refine ⟨?_, ?_⟩)))
    | ((with_reducible refine (?_ : (List.all _ _) = true)); rfl)
    | ((with_reducible refine (?_ : (and _ _) = true)); rfl)
    | ((with_reducible refine (?_ : List.Nodup _)); exact nodupB_spec rfl)
    | ((with_reducible refine (?_ : @Eq Nat _ _)); rfl)
    | ((with_reducible refine (?_ : @Eq (List (Option HObj)) _ _)); kernel_rfl)
    | ((with_reducible refine (?_ : LeOks _ _ _)); first | exact trivial | exact ⟨.refl _, trivial⟩ | exact ⟨.refl _, .refl _, trivial⟩)
    | ((fail_if_success with_reducible refine Stop.go ?_); (first | exact (hx0 ‹_›).elim | exact (hx1 ‹_›).elim | with_reducible refine And.intro ?_ ?_ | with_reducible refine Cut.go ?_ | (with_reducible (refine impI ?_; intro _)) | (with_reducible refine (?_ : footOK _ _ = true); kernel_rfl) | ((with_reducible refine propI ?_); conv => whnf))))
  all_goals try (exact .of (Nat.le_of_ble_eq_true rfl))
  all_goals try (exact .mk [] [] _ rfl (.le (.refl _)) trivial rfl)
  all_goals try (exact Side.mk gg.1)
  all_goals try (exact Side.mk dk)
  all_goals try (exact Side.mk (by rw [db_len]; omega))
  all_goals try (exact Side.mk (by omega))
  all_goals try (exact Side.mk (by have q := of_decide_eq_true ‹decide ((i : Int) ≤ (l.ev.length : Int)) = true›; omega))
  all_goals try (exact .of ⟨by omega, by omega⟩)
  all_goals try (refine ⟨i + 1, ?_, ?_, .le ⟨by kernel_rfl, ⟨.refl _, .refl _, .refl _, trivial⟩, ⟨.refl _, .refl _, .refl _, .intI (by omega), trivial⟩⟩⟩ <;> (have q := of_decide_eq_true ‹decide ((i : Int) ≤ (l.ev.length : Int)) = true›); (show i + 1 ≤ l.ev.length + 1; omega); (show l.ev.length + 1 - (i + 1) < l.ev.length + 1 - i; omega))

set_option maxHeartbeats 1000000 in
theorem c8k (t : Trf) (l : Log) (hr : rnE t l = 0) : Pure (Xc W0 Gt) 8 [trfA t, lgA l] (.bool true) := by
  refine mut_of' hX (show FnIs (Xc W0 Gt) 8 Tryz.f8 (codeOf Tryz.f8) from ⟨by kernel_rfl, by kernel_rfl, by kernel_rfl, by kernel_rfl⟩) rfl ?_
  repeat' (first
    | ((with_reducible refine (?_ : Alt _ _)); first | (with_reducible apply callAlt (haw)) | (with_reducible apply callAlt (c13 hX t)) | (with_reducible apply callAlt (c18 hX t ?_)) | (with_reducible apply callAlt (c14 hX l)) | ((with_reducible apply callAlt (c15 hX _ _ _)); case hl => (first | exact AllLe.refl _ | ((repeat' (first | exact trivial | apply Le.aggs | apply Le.tups | apply Le.fns | exact Le.refl _ | refine ⟨?_, ?_⟩)); done))) | (with_reducible (apply altM (ks := []) (m := 1); apply And.intro; apply Sc.of; apply (c16o hX l ?_))) | (with_reducible refine Alt.one ?_))
    | ((with_reducible refine (?_ : AllLe _ _)); first | (first | exact AllLe.refl _ | (repeat' (first | exact trivial | apply Le.aggs | apply Le.tups | apply Le.fns | exact Le.refl _ | refine ⟨?_, ?_⟩))))
    | ((with_reducible refine (?_ : Sc _ (AllRen _ _ _))); refine Sc.of ?_; first | (repeat' (first | exact trivial | apply Le.aggs | apply Le.tups | apply Le.fns | exact Le.refl _ | refine ⟨?_, ?_⟩)))
    | ((with_reducible refine (?_ : (List.all _ _) = true)); rfl)
    | ((with_reducible refine (?_ : (and _ _) = true)); rfl)
    | ((with_reducible refine (?_ : List.Nodup _)); exact nodupB_spec rfl)
    | ((with_reducible refine (?_ : @Eq Nat _ _)); rfl)
    | ((with_reducible refine (?_ : @Eq (List (Option HObj)) _ _)); kernel_rfl)
    | ((with_reducible refine (?_ : LeOks _ _ _)); first | exact trivial | exact ⟨.refl _, trivial⟩ | exact ⟨.refl _, .refl _, trivial⟩)
    | ((fail_if_success with_reducible refine Stop.go ?_); (first | with_reducible refine And.intro ?_ ?_ | with_reducible refine Cut.go ?_ | (with_reducible (refine impI ?_; intro _)) | (with_reducible refine (?_ : footOK _ _ = true); kernel_rfl) | ((with_reducible refine propI ?_); conv => whnf))))
  all_goals try (exact .of (Nat.le_of_ble_eq_true rfl))
  all_goals try (rename_i h; first | exact absurd h (by decide) | (cases h; done))
  all_goals try (exact .of (by decide))
  all_goals try (exact .mk [] [] _ rfl (.le (.refl _)) trivial rfl)
  all_goals have gg := road_g ‹(bif (bif (bif !fewB t then true else !briefB l) then true else decide (30 < (l.ev.length : Int))) then true else !inB l.c 1 50000) = false›
  all_goals have el := gg.2.1
  all_goals have cb := inB_iff.1 gg.2.2.2
  all_goals try (exact Side.mk (by omega))
  all_goals try (exact .of ⟨by omega, by omega⟩)
  refine ⟨Nat, fun i => ([(2, .ptr 0 0), (3, .ptr 1 0), (5, .ptr 3 0), (6, .int .i64 ((i : Int)))], [.box (trfC t), .box (logC l (evS l.ev)), .list 41 2 l.ev.length (fun a j => tbl (evC (dbN l (i) a)) j) 1, .box [.int .i64 (2 * l.c), .int .i64 l.d, .int .i64 l.t, .own 2 1]]), fun i => i ≤ l.ev.length ∧ ∀ j, j < i → (l.ev.getD j ev0).k = 0 → 1 ≤ (l.ev.getD j ev0).n ∧ (l.ev.getD j ev0).n ≤ 50000, fun i => l.ev.length - i, ⟨0, ⟨Nat.zero_le _, fun j hj => absurd hj (Nat.not_lt_zero j)⟩, .le ⟨by kernel_rfl, ⟨.refl _, .refl _, .list fun a j _ _ => dbN_0 l a j, .refl _, trivial⟩, ⟨.refl _, .refl _, .refl _, .refl _, trivial⟩⟩⟩, fun i hi => ?_⟩
  have hn := hi.2
  replace hi := hi.1
  have dn : ∀ j, dbN l i j = if j < i then dbE (l.ev.getD j ev0) else l.ev.getD j ev0 := fun j => rfl
  have di : dbN l i i = l.ev.getD i ev0 := if_neg (Nat.lt_irrefl i)
  repeat' (first
    | ((with_reducible refine (?_ : Alt _ _)); first | (with_reducible apply callAlt (c15 hX _ _ _)) | (with_reducible refine Alt.one ?_))
    | ((with_reducible refine (?_ : AllLe _ _)); first | (first | exact AllLe.refl _ | (repeat' (first | exact trivial | apply Le.aggs | apply Le.tups | apply Le.fns | exact Le.refl _ | refine ⟨?_, ?_⟩))))
    | ((with_reducible refine (?_ : Sc _ (AllRen _ _ _))); refine Sc.of ?_; first | (repeat' (first | exact trivial | apply Le.aggs | apply Le.tups | apply Le.fns | exact Le.refl _ | refine ⟨?_, ?_⟩)))
    | ((with_reducible refine (?_ : (List.all _ _) = true)); rfl)
    | ((with_reducible refine (?_ : (and _ _) = true)); rfl)
    | ((with_reducible refine (?_ : List.Nodup _)); exact nodupB_spec rfl)
    | ((with_reducible refine (?_ : @Eq Nat _ _)); rfl)
    | ((with_reducible refine (?_ : @Eq (List (Option HObj)) _ _)); kernel_rfl)
    | ((with_reducible refine (?_ : LeOks _ _ _)); first | exact trivial | exact ⟨.refl _, trivial⟩ | exact ⟨.refl _, .refl _, trivial⟩)
    | ((fail_if_success with_reducible refine Stop.go ?_); (first | with_reducible refine And.intro ?_ ?_ | with_reducible refine Cut.go ?_ | (with_reducible (refine impI ?_; intro _)) | (with_reducible refine (?_ : footOK _ _ = true); kernel_rfl) | ((with_reducible refine propI ?_); conv => whnf))))
  all_goals try (exact .of (Nat.le_of_ble_eq_true rfl))
  all_goals try (exact .mk [] [] _ rfl (.le (.refl _)) trivial rfl)
  all_goals try (have lt : i < l.ev.length := (by have q := of_decide_eq_true ‹decide ((i : Int) < (l.ev.length : Int)) = true›; omega); first | exact .of ⟨by omega, by omega⟩ | exact .of (by rw [Int.toNat_natCast]; exact lt))
  all_goals try (have lt : i < l.ev.length := (by have q := of_decide_eq_true ‹decide ((i : Int) < (l.ev.length : Int)) = true›; omega); have k0 : (l.ev.getD i ev0).k = 0 := (by have q := ‹((dbN l i (i : Int).toNat).k == 0) = true›; rw [Int.toNat_natCast, di] at q; exact eq_of_beq q); have nb := inB_iff.1 (show inB (l.ev.getD i ev0).n 1 50000 = true from by have q := ‹(!inB (dbN l i (i : Int).toNat).n 1 50000) = false›; rw [Int.toNat_natCast, di] at q; cases b : inB (l.ev.getD i ev0).n 1 50000; (rw [b] at q; cases q); rfl); refine Sc.of ?_; rw [Int.toNat_natCast, di]; exact ⟨by omega, by omega⟩)
  · have lt : i < l.ev.length := (by have q := of_decide_eq_true ‹decide ((i : Int) < (l.ev.length : Int)) = true›; omega); have k0 : (l.ev.getD i ev0).k = 0 := (by have q := ‹((dbN l i (i : Int).toNat).k == 0) = true›; rw [Int.toNat_natCast, di] at q; exact eq_of_beq q); have nb := inB_iff.1 (show inB (l.ev.getD i ev0).n 1 50000 = true from by have q := ‹(!inB (dbN l i (i : Int).toNat).n 1 50000) = false›; rw [Int.toNat_natCast, di] at q; cases b : inB (l.ev.getD i ev0).n 1 50000; (rw [b] at q; cases q); rfl)
    have put : ∀ a j, j < 2 → Le (putF (i : Int).toNat 1 [.int .i64 (2 * (dbN l i (i : Int).toNat).n)] (fun a j => tbl (evC (dbN l i a)) j) a j) (tbl (evC (dbN l (i + 1) a)) j) := fun a j hj => by rw [Int.toNat_natCast, di]; exact dbN_put k0 a j hj
    exact ⟨i + 1, ⟨by omega, all_lt hn fun _ => nb⟩, by show l.ev.length - (i + 1) < l.ev.length - i; omega, .le ⟨by kernel_rfl, ⟨.refl _, .refl _, .list (fun a j _ hj => put a j hj), .refl _, trivial⟩, ⟨.refl _, .refl _, .refl _, .intI (by omega), trivial⟩⟩⟩
  · have lt : i < l.ev.length := (by have q := of_decide_eq_true ‹decide ((i : Int) < (l.ev.length : Int)) = true›; omega); have k1 : (l.ev.getD i ev0).k ≠ 0 := (by have q := ‹((dbN l i (i : Int).toNat).k == 0) = false›; rw [Int.toNat_natCast, di] at q; exact fun e => by rw [e] at q; cases q)
    exact ⟨i + 1, ⟨by omega, all_lt hn fun e => absurd e k1⟩, by show l.ev.length - (i + 1) < l.ev.length - i; omega, .le ⟨by kernel_rfl, ⟨.refl _, .refl _, .list (fun a j _ hj => dbN_no k1 a j), .refl _, trivial⟩, ⟨.refl _, .refl _, .refl _, .intI (by omega), trivial⟩⟩⟩
  have q := of_decide_eq_false ‹decide ((i : Int) < (l.ev.length : Int)) = false›
  obtain rfl : i = l.ev.length := by omega
  have dk : dbOk l := ⟨cb, hn⟩
  refine ⟨Nat, fun i => ([(2, .ptr 0 0), (3, .ptr 1 0), (5, .ptr 2 0), (7, .int .i64 (i : Int))], [.box (trfC t), .box (logC l (evS l.ev)), .box (logC (dbL l) (evS (dbL l).ev))]), fun i => i ≤ l.ev.length + 1, fun i => l.ev.length + 1 - i, ⟨0, Nat.zero_le _, .fr [0, 1, 3] [2] (by kernel_rfl) ⟨.le (.refl _), .le (.refl _), .box ⟨.le (.refl _), .le (.refl _), .le (.refl _), dbN_sl rfl rfl (fun a j ha => dbN_end a j ha), trivial⟩, trivial⟩ ⟨.le (.refl _), .le (.refl _), .le (.refl _), .le (.refl _), trivial⟩⟩, fun i hi => ?_⟩
  replace hi : i ≤ l.ev.length + 1 := hi
  have hx9 : ∀ x : Int, (x != x) = true → False := fun x h => by simp at h
  have g := rn_gd gg.1 hr
  have hx0 : ((0 : Int) != 0) = true → False := fun q => by cases q
  have hx2 : ∀ a b : Int, (bif a != a then true else b != b) = true → False := fun a b q => by simp at q
  have pm : i ≤ l.ev.length → (mcN t l i).pu ≤ 20100000 ∧ 0 ≤ (mcN t l i).si ∧ (mcN t l i).si ≤ (mcN t l i).pu := fun h => by have n := (mcN_hm g.1 h).nums; omega
  repeat' (first
    | ((with_reducible refine (?_ : Alt _ _)); first | (with_reducible apply callAlt (c18 hX t ?_)) | ((with_reducible apply callAlt (c16 hX l ?_)); case hl => (first | exact AllLe.refl _ | ((repeat' (first | exact trivial | apply Le.aggs | apply Le.tups | apply Le.fns | exact Le.refl _ | refine ⟨?_, ?_⟩)); done))) | ((with_reducible apply callAlt (c16 hX (dbL l) ?_)); case hl => (first | exact AllLe.refl _ | ((repeat' (first | exact trivial | apply Le.aggs | apply Le.tups | apply Le.fns | exact Le.refl _ | refine ⟨?_, ?_⟩)); done))) | ((with_reducible apply callAlt (c17n hX t l ?_ _ hr ?_)); case hl => (first | exact AllLe.refl _ | ((repeat' (first | exact trivial | apply Le.aggs | apply Le.tups | apply Le.fns | exact Le.refl _ | refine ⟨?_, ?_⟩)); done))) | ((with_reducible apply callAlt (c17d hX t l ?_ _ hr ?_ ?_)); case hl => (first | exact AllLe.refl _ | ((repeat' (first | exact trivial | apply Le.aggs | apply Le.tups | apply Le.fns | exact Le.refl _ | refine ⟨?_, ?_⟩)); done))) | ((with_reducible apply callAlt (c35 hX (mcN t l i).tk (mcN t l i).pu (mcN t l i).ps (mcN t l i).zn (mcN t l i).si (stpZ t l (mcN t l i)) (mcN t l i).ex (mFare t l (mcN t l i)) ?_)); case hl => (first | exact AllLe.refl _ | ((repeat' (first | exact trivial | apply Le.aggs | apply Le.tups | apply Le.fns | exact Le.refl _ | refine ⟨?_, ?_⟩)); done))) | (with_reducible refine Alt.one ?_))
    | ((with_reducible refine (?_ : AllLe _ _)); first | (first | exact AllLe.refl _ | (repeat' (first | exact trivial | apply Le.aggs | apply Le.tups | apply Le.fns | exact Le.refl _ | refine ⟨?_, ?_⟩))))
    | ((with_reducible refine (?_ : Sc _ (AllRen _ _ _))); refine Sc.of ?_; first | (repeat' (first | exact trivial | apply Le.aggs | apply Le.tups | apply Le.fns | exact Le.refl _ | refine ⟨?_, ?_⟩)))
    | ((with_reducible refine (?_ : (List.all _ _) = true)); rfl)
    | ((with_reducible refine (?_ : (and _ _) = true)); rfl)
    | ((with_reducible refine (?_ : List.Nodup _)); exact nodupB_spec rfl)
    | ((with_reducible refine (?_ : @Eq Nat _ _)); rfl)
    | ((with_reducible refine (?_ : @Eq (List (Option HObj)) _ _)); kernel_rfl)
    | ((with_reducible refine (?_ : LeOks _ _ _)); first | exact trivial | exact ⟨.refl _, trivial⟩ | exact ⟨.refl _, .refl _, trivial⟩)
    | ((fail_if_success with_reducible refine Stop.go ?_); (first | exact (hx0 ‹_›).elim | exact (hx2 _ _ ‹_›).elim | with_reducible refine And.intro ?_ ?_ | with_reducible refine Cut.go ?_ | (with_reducible (refine impI ?_; intro _)) | (with_reducible refine (?_ : footOK _ _ = true); kernel_rfl) | ((with_reducible refine propI ?_); conv => whnf))))
  all_goals try (exact .of (Nat.le_of_ble_eq_true rfl))
  all_goals try (exact .mk [] [] _ rfl (.le (.refl _)) trivial rfl)
  all_goals try (exact Side.mk gg.1)
  all_goals try (exact Side.mk dk)
  all_goals try (exact Side.mk (by rw [db_len]; omega))
  all_goals try (exact Side.mk (by omega))
  all_goals try (exact Side.mk (by have q := of_decide_eq_true ‹decide ((i : Int) ≤ (l.ev.length : Int)) = true›; omega))
  all_goals try (exact .of ⟨by omega, by omega⟩)
  all_goals try (refine ⟨i + 1, ?_, ?_, .le ⟨by kernel_rfl, ⟨.refl _, .refl _, .refl _, trivial⟩, ⟨.refl _, .refl _, .refl _, .intI (by omega), trivial⟩⟩⟩ <;> (have q := of_decide_eq_true ‹decide ((i : Int) ≤ (l.ev.length : Int)) = true›); (show i + 1 ≤ l.ev.length + 1; omega); (show l.ev.length + 1 - (i + 1) < l.ev.length + 1 - i; omega))
  all_goals try (have p := pm (by have q := of_decide_eq_true ‹decide ((i : Int) ≤ (l.ev.length : Int)) = true›; omega); first | exact .of ⟨by omega, by omega⟩ | exact Sc.imp fun _ => ⟨by omega, by omega⟩)
  all_goals try (have k := mcN_hm g.1 (show i ≤ l.ev.length from (by have q := of_decide_eq_true ‹decide ((i : Int) ≤ (l.ev.length : Int)) = true›; omega)); have x := k.m.exl; have x0 := k.m.ex0; have te := (trf_ext g.1.trf).1; exact Side.mk (by by_cases z : (mcN t l i).ps = 0; (rw [x0 z]; decide); (rw [x z]; omega)))

theorem c8 (t : Trf) (l : Log) : Pure (Xc W0 Gt) 8 [trfA t, lgA l] (.bool true) := by
  by_cases hr : rnE t l = 0
  · exact c8k hX haw t l hr
  · exact c8e hX haw t l hr
end
end Go.Fx
