/-
  The body of TopTariffMonotone.
-/
import Derived.Test.YtgegfljeglphlaaFk

set_option linter.all false

/-
  The body of TopTariffMonotone.
-/
namespace Go.Fx
open Go.Proofs Go.RowKit
theorem mono_g {t : Trf} {x : Trp} {b : Bool} (h : (bif (bif !fewB t then true else !shortB x) then true else b) = false) : TOk t ∧ XOk x ∧ b = false := by
  cases hf : fewB t
  · rw [hf] at h; cases h
  cases hx : shortB x
  · rw [hf, hx] at h; cases h
  · rw [hf, hx] at h; exact ⟨(few_ok hf).1, short_ok hx, h⟩
theorem two_lt {a b c : Int} (h : (bif decide (a < b) then decide (a < c) else false) = true) : a < b ∧ a < c := ⟨of_decide_eq_true (and_t h).1, of_decide_eq_true (and_t h).2⟩
section
variable {x : Trp} {l : List Int} {i : Nat}
theorem mon_v (h : (bif !inB (l.getD (i : Int).toNat 0) 0 100000 then true else !inB (monS x l i (i : Int).toNat).me 0 100000) = false) : (0 ≤ l.getD (i : Int).toNat 0 ∧ l.getD (i : Int).toNat 0 ≤ 100000) ∧ (0 ≤ (monS x l i (i : Int).toNat).me ∧ (monS x l i (i : Int).toNat).me ≤ 100000) := by
  cases a : inB (l.getD (i : Int).toNat 0) 0 100000
  · rw [a] at h; cases h
  cases b : inB (monS x l i (i : Int).toNat).me 0 100000
  · rw [a, b] at h; cases h
  exact ⟨inB_iff.1 a, inB_iff.1 b⟩
theorem mon_nx (hI : MonI x l i) (h : (bif !inB (l.getD (i : Int).toNat 0) 0 100000 then true else !inB (monS x l i (i : Int).toNat).me 0 100000) = false) : MonI x l (i + 1) := by
  have w := mon_v h
  rw [Int.toNat_natCast, mon_hi (by omega)] at w
  intro j hj
  by_cases c : j < i
  · exact hI j c
  · obtain rfl : j = i := by omega
    exact ⟨inB_iff.2 w.1, inB_iff.2 w.2⟩
theorem mon_w (h : (bif !inB (l.getD (i : Int).toNat 0) 0 100000 then true else !inB (monS x l i (i : Int).toNat).me 0 100000) = false) : min 100000 ((monS x l i (i : Int).toNat).me + l.getD (i : Int).toNat 0) = min 100000 ((sgx x i).me + l.getD i 0) := by
  rw [Int.toNat_natCast, mon_hi (by omega)]
end
section
variable {W0 : World} {G : Nat → Option AV} (hX : (Xc W0 G).Good)
include hX
theorem c3e (t : Trf) (x : Trp) (l : List Int) (hr : rideE t x ≠ 0) : Pure (Xc W0 G) 3 [trfA t, trpA x, iRow l] (.bool true) := by
  refine mut_of' hX (show FnIs (Xc W0 G) 3 Try.f3 (codeOf Try.f3) from ⟨by kernel_rfl, by kernel_rfl, by kernel_rfl, by kernel_rfl⟩) rfl ?_
  repeat' (first
    | ((with_reducible refine (?_ : Alt _ _)); first | (with_reducible apply callAlt (c5 hX)) | (with_reducible apply callAlt (c6 hX t)) | (with_reducible apply callAlt (c7 hX x)) | ((with_reducible (apply altM (ks := []) (m := 1); apply And.intro; apply Sc.of; apply (c8o hX x ?_))); case' right => (refine And.intro (Sc.of ?_) ?_; · ((repeat' (first | exact trivial | apply Le.aggs | apply Le.tups | apply Le.fns | exact Le.refl _ | refine ⟨?_, ?_⟩)); done))) | (with_reducible refine Alt.one ?_))
    | ((with_reducible refine (?_ : AllLe _ _)); first | (first | exact AllLe.refl _ | (repeat' (first | exact trivial | apply Le.aggs | apply Le.tups | apply Le.fns | exact Le.refl _ | refine ⟨?_, ?_⟩))))
    | ((with_reducible refine (?_ : Sc _ (AllRen _ _ _))); refine Sc.of ?_; first | (repeat' (first | exact trivial | apply Le.aggs | apply Le.tups | apply Le.fns | exact Le.refl _ | refine ⟨?_, ?_⟩)))
    | ((with_reducible refine (?_ : (List.all _ _) = true)); rfl)
    | ((with_reducible refine (?_ : (and _ _) = true)); rfl)
    | ((with_reducible refine (?_ : List.Nodup _)); exact nodupB_spec rfl)
    | ((with_reducible refine (?_ : @Eq Nat _ _)); rfl)
    | ((with_reducible refine (?_ : LeOks _ _ _)); first | exact trivial | exact ⟨.refl _, trivial⟩ | exact ⟨.refl _, .refl _, trivial⟩)
    | ((fail_if_success with_reducible refine Stop.go ?_); (first | with_reducible refine And.intro ?_ ?_ | with_reducible refine Cut.go ?_ | (with_reducible (refine impI ?_; intro _)) | (with_reducible refine (?_ : footOK _ _ = true); kernel_rfl) | ((with_reducible refine propI ?_); conv => whnf))))
  all_goals try (exact .of (Nat.le_of_ble_eq_true rfl))
  all_goals try (rename_i h; first | exact absurd h (by decide) | (cases h; done))
  all_goals try (exact .of (by decide))
  all_goals try (exact Sc.imp fun _ => (by decide))
  all_goals try ((with_reducible refine (?_ : Side _)); have g := mono_g ‹(bif (bif !fewB t then true else !shortB x) then true else decide (10 < (l.length : Int))) = false›; exact Side.mk (by first | exact g.1 | exact g.2.1 | exact ⟨g.1, g.2.1⟩))
  all_goals try (exact .mk [] [] _ rfl (.le (.refl _)) trivial rfl)
  obtain ⟨g1, g2, g3⟩ := mono_g ‹(bif (bif !fewB t then true else !shortB x) then true else decide (10 < (l.length : Int))) = false›
  have g3 := of_decide_eq_false g3
  have k1 := g2.sg
  refine ⟨Nat, fun i => ([(2, iRow l), (3, .ptr 0 0), (4, .ptr 1 0), (7, .ptr 3 0), (8, .int .i64 ((i : Nat) : Int))], [.box (trfC t), .box (trpC x), sgO x.sg.length (fun a j => tbl (segC (monS x l i a)) j), .box [.int .i64 x.m.d, .int .i64 x.m.s, .bool x.fx, iRow x.ex, .own 2 1]]), fun i => i ≤ x.sg.length ∧ MonI x l i, fun i => x.sg.length - i, ⟨0, ⟨Nat.zero_le _, fun _ h => by omega⟩, .le ⟨rfl, ⟨.refl _, .refl _, .list (fun a j ha hj => .ofEq (by rw [mon_hi (by omega)])), .refl _, trivial⟩, ⟨.refl _, .refl _, .refl _, .refl _, .refl _, trivial⟩⟩⟩, fun i ⟨hi, hI⟩ => ?_⟩
  have hry : rideE t (monT x l i) = rideE t x := mon_ride hI
  repeat' (first
    | ((with_reducible refine (?_ : Alt _ _)); first | (with_reducible apply callAlt (c9 hX _ _ _)) | (with_reducible apply callAlt (c11 hX t ?_)) | ((with_reducible apply callAlt (c8 hX x ?_)); case hl => (first | exact AllLe.refl _ | ((repeat' (first | exact trivial | apply Le.aggs | apply Le.tups | apply Le.fns | exact Le.refl _ | refine ⟨?_, ?_⟩)); done))) | ((with_reducible (apply altM (ks := [2]) (m := 0); apply And.intro; apply Sc.of; apply (c8k hX (monT x l i) x.sg.length (mon_len x l i) ?_ _ ?_))); case' right => (refine And.intro (Sc.of ?_) ?_; · ((repeat' (first | exact trivial | apply Le.aggs | apply Le.tups | apply Le.fns | exact Le.refl _ | refine ⟨?_, ?_⟩)); done))) | ((with_reducible apply callAlt (c10e hX t x ?_ hr)); case hl => (first | exact AllLe.refl _ | ((repeat' (first | exact trivial | apply Le.aggs | apply Le.tups | apply Le.fns | exact Le.refl _ | refine ⟨?_, ?_⟩)); done))) | ((with_reducible apply callAlt (c10e hX t (monT x l i) ?_ (by rw [hry]; exact hr))); case hl => (first | exact AllLe.refl _ | ((repeat' (first | exact trivial | apply Le.aggs | apply Le.tups | apply Le.fns | exact Le.refl _ | refine ⟨?_, ?_⟩)); done))) | (with_reducible refine Alt.one ?_))
    | ((with_reducible refine (?_ : AllLe _ _)); first | (first | exact AllLe.refl _ | (repeat' (first | exact trivial | apply Le.aggs | apply Le.tups | apply Le.fns | exact Le.refl _ | refine ⟨?_, ?_⟩))))
    | ((with_reducible refine (?_ : Sc _ (AllRen _ _ _))); refine Sc.of ?_; first | (repeat' (first | exact trivial | apply Le.aggs | apply Le.tups | apply Le.fns | exact Le.refl _ | refine ⟨?_, ?_⟩)))
    | ((with_reducible refine (?_ : (List.all _ _) = true)); rfl)
    | ((with_reducible refine (?_ : (and _ _) = true)); rfl)
    | ((with_reducible refine (?_ : List.Nodup _)); exact nodupB_spec rfl)
    | ((with_reducible refine (?_ : @Eq Nat _ _)); rfl)
    | ((with_reducible refine (?_ : LeOks _ _ _)); first | exact trivial | exact ⟨.refl _, trivial⟩ | exact ⟨.refl _, .refl _, trivial⟩)
    | ((fail_if_success with_reducible refine Stop.go ?_); (first | rw [putF_at] | with_reducible refine And.intro ?_ ?_ | with_reducible refine Cut.go ?_ | (with_reducible (refine impI ?_; intro _)) | (with_reducible refine (?_ : footOK _ _ = true); kernel_rfl) | ((with_reducible refine propI ?_); conv => whnf))))
  all_goals try (exact .of (Nat.le_of_ble_eq_true rfl))
  all_goals try (exact .of (by decide))
  all_goals try (exact Sc.imp fun _ => (by decide))
  all_goals try (exact Side.mk (by first | exact g1 | exact g2 | exact ⟨g1, g2⟩ | exact ⟨g1, seg_xok g2 _⟩ | exact seg_xok g2 _ | exact fun a j ha hj => by rw [mon_at x l i (by rw [mon_len] at ha; exact ha)]))
  all_goals try (exact .mk [] [] _ rfl (.le (.refl _)) trivial rfl)
  all_goals try (rename_i v; have v := two_lt v; first | exact .of ⟨by omega, by omega⟩ | exact Sc.imp fun _ => ⟨by omega, by omega⟩ | exact Sc.imp fun _ => (show (i : Int).toNat < x.sg.length by omega))
  all_goals try (rename_i v v2; have v := two_lt v; first | exact .of ⟨by omega, by omega⟩ | exact .of (show (i : Int).toNat < x.sg.length by omega))
  all_goals try (rename_i v v2; have w := mon_v v2; exact .of (show -9223372036854775808 ≤ (monS x l i (i : Int).toNat).me + l.getD (i : Int).toNat 0 ∧ (monS x l i (i : Int).toNat).me + l.getD (i : Int).toNat 0 ≤ 9223372036854775807 by omega))
  · rename_i v v2; have v := two_lt v
    exact ⟨i + 1, ⟨by omega, mon_nx hI v2⟩, by show x.sg.length - (i + 1) < x.sg.length - i; omega, .le ⟨rfl, ⟨.refl _, .refl _, .list (fun a j ha hj => .ofEq (mon_put x l i a j hj (mon_w v2))), .refl _, trivial⟩, ⟨.refl _, .refl _, .refl _, .refl _, .refl _, trivial⟩⟩⟩
  · exact .mk [] [] _ rfl (.le (.boolT (by rw [hry, beq_self_eq_true]; rfl))) trivial rfl
  all_goals (exfalso; have v := ‹(bif rideE t x != 0 then true else rideE t (monT x l i) != 0) = false›; rw [bne_iff_ne.2 hr] at v; cases v)
theorem c3o (t : Trf) (x : Trp) (l : List Int) (hr : rideE t x = 0) : Pure (Xc W0 G) 3 [trfA t, trpA x, iRow l] (.bool true) := by
  refine mut_of' hX (show FnIs (Xc W0 G) 3 Try.f3 (codeOf Try.f3) from ⟨by kernel_rfl, by kernel_rfl, by kernel_rfl, by kernel_rfl⟩) rfl ?_
  repeat' (first
    | ((with_reducible refine (?_ : Alt _ _)); first | (with_reducible apply callAlt (c5 hX)) | (with_reducible apply callAlt (c6 hX t)) | (with_reducible apply callAlt (c7 hX x)) | ((with_reducible (apply altM (ks := []) (m := 1); apply And.intro; apply Sc.of; apply (c8o hX x ?_))); case' right => (refine And.intro (Sc.of ?_) ?_; · ((repeat' (first | exact trivial | apply Le.aggs | apply Le.tups | apply Le.fns | exact Le.refl _ | refine ⟨?_, ?_⟩)); done))) | (with_reducible refine Alt.one ?_))
    | ((with_reducible refine (?_ : AllLe _ _)); first | (first | exact AllLe.refl _ | (repeat' (first | exact trivial | apply Le.aggs | apply Le.tups | apply Le.fns | exact Le.refl _ | refine ⟨?_, ?_⟩))))
    | ((with_reducible refine (?_ : Sc _ (AllRen _ _ _))); refine Sc.of ?_; first | (repeat' (first | exact trivial | apply Le.aggs | apply Le.tups | apply Le.fns | exact Le.refl _ | refine ⟨?_, ?_⟩)))
    | ((with_reducible refine (?_ : (List.all _ _) = true)); rfl)
    | ((with_reducible refine (?_ : (and _ _) = true)); rfl)
    | ((with_reducible refine (?_ : List.Nodup _)); exact nodupB_spec rfl)
    | ((with_reducible refine (?_ : @Eq Nat _ _)); rfl)
    | ((with_reducible refine (?_ : LeOks _ _ _)); first | exact trivial | exact ⟨.refl _, trivial⟩ | exact ⟨.refl _, .refl _, trivial⟩)
    | ((fail_if_success with_reducible refine Stop.go ?_); (first | with_reducible refine And.intro ?_ ?_ | with_reducible refine Cut.go ?_ | (with_reducible (refine impI ?_; intro _)) | (with_reducible refine (?_ : footOK _ _ = true); kernel_rfl) | ((with_reducible refine propI ?_); conv => whnf))))
  all_goals try (exact .of (Nat.le_of_ble_eq_true rfl))
  all_goals try (rename_i h; first | exact absurd h (by decide) | (cases h; done))
  all_goals try (exact .of (by decide))
  all_goals try (exact Sc.imp fun _ => (by decide))
  all_goals try ((with_reducible refine (?_ : Side _)); have g := mono_g ‹(bif (bif !fewB t then true else !shortB x) then true else decide (10 < (l.length : Int))) = false›; exact Side.mk (by first | exact g.1 | exact g.2.1 | exact ⟨g.1, g.2.1⟩))
  all_goals try (exact .mk [] [] _ rfl (.le (.refl _)) trivial rfl)
  obtain ⟨g1, g2, g3⟩ := mono_g ‹(bif (bif !fewB t then true else !shortB x) then true else decide (10 < (l.length : Int))) = false›
  have g3 := of_decide_eq_false g3
  have k1 := g2.sg
  refine ⟨Nat, fun i => ([(2, iRow l), (3, .ptr 0 0), (4, .ptr 1 0), (7, .ptr 3 0), (8, .int .i64 ((i : Nat) : Int))], [.box (trfC t), .box (trpC x), sgO x.sg.length (fun a j => tbl (segC (monS x l i a)) j), .box [.int .i64 x.m.d, .int .i64 x.m.s, .bool x.fx, iRow x.ex, .own 2 1]]), fun i => i ≤ x.sg.length ∧ MonI x l i, fun i => x.sg.length - i, ⟨0, ⟨Nat.zero_le _, fun _ h => by omega⟩, .le ⟨rfl, ⟨.refl _, .refl _, .list (fun a j ha hj => .ofEq (by rw [mon_hi (by omega)])), .refl _, trivial⟩, ⟨.refl _, .refl _, .refl _, .refl _, .refl _, trivial⟩⟩⟩, fun i ⟨hi, hI⟩ => ?_⟩
  have hry : rideE t (monT x l i) = rideE t x := mon_ride hI
  repeat' (first
    | ((with_reducible refine (?_ : Alt _ _)); first | (with_reducible apply callAlt (c9 hX _ _ _)) | (with_reducible apply callAlt (c11 hX t ?_)) | ((with_reducible apply callAlt (c8 hX x ?_)); case hl => (first | exact AllLe.refl _ | ((repeat' (first | exact trivial | apply Le.aggs | apply Le.tups | apply Le.fns | exact Le.refl _ | refine ⟨?_, ?_⟩)); done))) | ((with_reducible (apply altM (ks := [2]) (m := 0); apply And.intro; apply Sc.of; apply (c8k hX (monT x l i) x.sg.length (mon_len x l i) ?_ _ ?_))); case' right => (refine And.intro (Sc.of ?_) ?_; · ((repeat' (first | exact trivial | apply Le.aggs | apply Le.tups | apply Le.fns | exact Le.refl _ | refine ⟨?_, ?_⟩)); done))) | ((with_reducible apply callAlt (c10 hX t x ?_ hr)); case hl => (first | exact AllLe.refl _ | ((repeat' (first | exact trivial | apply Le.aggs | apply Le.tups | apply Le.fns | exact Le.refl _ | refine ⟨?_, ?_⟩)); done))) | ((with_reducible apply callAlt (c10 hX t (monT x l i) ?_ (hry.trans hr))); case hl => (first | exact AllLe.refl _ | ((repeat' (first | exact trivial | apply Le.aggs | apply Le.tups | apply Le.fns | exact Le.refl _ | refine ⟨?_, ?_⟩)); done))) | ((with_reducible apply callAlt (c12 hX t x ?_ hr)); case hl => (first | exact AllLe.refl _ | ((repeat' (first | exact trivial | apply Le.aggs | apply Le.tups | apply Le.fns | exact Le.refl _ | refine ⟨?_, ?_⟩)); done))) | ((with_reducible apply callAlt (c12 hX t (monT x l i) ?_ (hry.trans hr))); case hl => (first | exact AllLe.refl _ | ((repeat' (first | exact trivial | apply Le.aggs | apply Le.tups | apply Le.fns | exact Le.refl _ | refine ⟨?_, ?_⟩)); done))) | (with_reducible refine Alt.one ?_))
    | ((with_reducible refine (?_ : AllLe _ _)); first | (first | exact AllLe.refl _ | (repeat' (first | exact trivial | apply Le.aggs | apply Le.tups | apply Le.fns | exact Le.refl _ | refine ⟨?_, ?_⟩))))
    | ((with_reducible refine (?_ : Sc _ (AllRen _ _ _))); refine Sc.of ?_; first | (repeat' (first | exact trivial | apply Le.aggs | apply Le.tups | apply Le.fns | exact Le.refl _ | refine ⟨?_, ?_⟩)))
    | ((with_reducible refine (?_ : (List.all _ _) = true)); rfl)
    | ((with_reducible refine (?_ : (and _ _) = true)); rfl)
    | ((with_reducible refine (?_ : List.Nodup _)); exact nodupB_spec rfl)
    | ((with_reducible refine (?_ : @Eq Nat _ _)); rfl)
    | ((with_reducible refine (?_ : LeOks _ _ _)); first | exact trivial | exact ⟨.refl _, trivial⟩ | exact ⟨.refl _, .refl _, trivial⟩)
    | ((fail_if_success with_reducible refine Stop.go ?_); (first | rw [putF_at] | with_reducible refine And.intro ?_ ?_ | with_reducible refine Cut.go ?_ | (with_reducible (refine impI ?_; intro _)) | (with_reducible refine (?_ : footOK _ _ = true); kernel_rfl) | ((with_reducible refine propI ?_); conv => whnf))))
  all_goals try (exact .of (Nat.le_of_ble_eq_true rfl))
  all_goals try (exact .of (by decide))
  all_goals try (exact Sc.imp fun _ => (by decide))
  all_goals try (exact Side.mk (by first | exact g1 | exact g2 | exact ⟨g1, g2⟩ | exact ⟨g1, seg_xok g2 _⟩ | exact seg_xok g2 _ | exact fun a j ha hj => by rw [mon_at x l i (by rw [mon_len] at ha; exact ha)]))
  all_goals try (exact .mk [] [] _ rfl (.le (.refl _)) trivial rfl)
  all_goals try (rename_i v; have v := two_lt v; first | exact .of ⟨by omega, by omega⟩ | exact Sc.imp fun _ => ⟨by omega, by omega⟩ | exact Sc.imp fun _ => (show (i : Int).toNat < x.sg.length by omega))
  all_goals try (rename_i v v2; have v := two_lt v; first | exact .of ⟨by omega, by omega⟩ | exact .of (show (i : Int).toNat < x.sg.length by omega))
  all_goals try (rename_i v v2; have w := mon_v v2; exact .of (show -9223372036854775808 ≤ (monS x l i (i : Int).toNat).me + l.getD (i : Int).toNat 0 ∧ (monS x l i (i : Int).toNat).me + l.getD (i : Int).toNat 0 ≤ 9223372036854775807 by omega))
  · rename_i v v2; have v := two_lt v
    exact ⟨i + 1, ⟨by omega, mon_nx hI v2⟩, by show x.sg.length - (i + 1) < x.sg.length - i; omega, .le ⟨rfl, ⟨.refl _, .refl _, .list (fun a j ha hj => .ofEq (mon_put x l i a j hj (mon_w v2))), .refl _, trivial⟩, ⟨.refl _, .refl _, .refl _, .refl _, .refl _, trivial⟩⟩⟩
  · rename_i v; exact .mk [] [] _ rfl (.le (.boolT (four_1 (mon_fare hI hr) v))) trivial rfl
  · rename_i v; have e := both_0 ‹(bif fareE t x (ptX t x) != 0 then true else fareE t (monT x l i) (ptX t (monT x l i)) != 0) = false›; exact (mon_2 hI hr e.1 e.2 v).elim
  · rename_i v; have e := both_0 ‹(bif fareE t x (ptX t x) != 0 then true else fareE t (monT x l i) (ptX t (monT x l i)) != 0) = false›; exact .mk [] [] _ rfl (.le (.boolT (four_3 e.1 e.2 v))) trivial rfl
  · rename_i v; have e := both_0 ‹(bif fareE t x (ptX t x) != 0 then true else fareE t (monT x l i) (ptX t (monT x l i)) != 0) = false›; have r := both_0 ‹(bif rngE t x x != 0 then true else rngE t (monT x l i) (monT x l i) != 0) = false›; exact (mon_4 hI hr e.1 e.2 r.1 r.2 v).elim
  have e := both_0 ‹(bif fareE t x (ptX t x) != 0 then true else fareE t (monT x l i) (ptX t (monT x l i)) != 0) = false›
  refine ⟨Nat, fun k => ([(3, .ptr 0 0), (7, .ptr 3 0), (9, .ptr 4 0), (17, .int .i64 ((k : Nat) : Int))], [.box (trfC t), .dead, sgO x.sg.length (fun a j => tbl (segC (zerS (monT x l i) k a)) j), .box [.int .i64 x.m.d, .int .i64 x.m.s, .bool x.fx, iRow x.ex, .own 2 1], .box [.int .i64 (fareZ t x (ptX t x) (staQ t x)), .int .i64 (fareZ t x (ptX t x) (drvQ t x (ptX t x))), .int .i64 (fareZ t x (ptX t x) (exS t x x.ex.length)), .int .i64 (fareZ t x (ptX t x) (totQ t x (ptX t x)))], .dead, .dead, .dead]), fun k => k ≤ x.sg.length, fun k => x.sg.length - k, ⟨0, Nat.zero_le _, .le ⟨rfl, ⟨.refl _, .dead _, .list (fun a j ha hj => .ofEq (by rw [zer_hi (by omega), mon_at x l i ha])), .refl _, .refl _, .dead _, .dead _, .dead _, trivial⟩, ⟨.refl _, .refl _, .refl _, .refl _, trivial⟩⟩⟩, fun k hk => ?_⟩
  replace hk : k ≤ x.sg.length := hk
  have hz : rideE t (zerT (monT x l i) k) = 0 := zer_ride (hry.trans hr)
  repeat' (first
    | ((with_reducible refine (?_ : Alt _ _)); first | (with_reducible apply callAlt (c11 hX t ?_)) | ((with_reducible (apply altM (ks := [2]) (m := 0); apply And.intro; apply Sc.of; apply (c8k hX (zerT (monT x l i) k) x.sg.length (zer_len x l i k) ?_ _ ?_))); case' right => (refine And.intro (Sc.of ?_) ?_; · ((repeat' (first | exact trivial | apply Le.aggs | apply Le.tups | apply Le.fns | exact Le.refl _ | refine ⟨?_, ?_⟩)); done))) | ((with_reducible apply callAlt (c10 hX t (zerT (monT x l i) k) ?_ hz)); case hl => (first | exact AllLe.refl _ | ((repeat' (first | exact trivial | apply Le.aggs | apply Le.tups | apply Le.fns | exact Le.refl _ | refine ⟨?_, ?_⟩)); done))) | ((with_reducible (apply altM (ks := [2]) (m := 0); apply And.intro; apply Sc.of; apply (c12k hX t (zerT (monT x l i) k) x.sg.length (zer_len x l i k) ?_ hz _ ?_))); case' right => (refine And.intro (Sc.of ?_) ?_; · ((repeat' (first | exact trivial | apply Le.aggs | apply Le.tups | apply Le.fns | exact Le.refl _ | refine ⟨?_, ?_⟩)); done))) | (with_reducible refine Alt.one ?_))
    | ((with_reducible refine (?_ : AllLe _ _)); first | (first | exact AllLe.refl _ | (repeat' (first | exact trivial | apply Le.aggs | apply Le.tups | apply Le.fns | exact Le.refl _ | refine ⟨?_, ?_⟩))))
    | ((with_reducible refine (?_ : Sc _ (AllRen _ _ _))); refine Sc.of ?_; first | (repeat' (first | exact trivial | apply Le.aggs | apply Le.tups | apply Le.fns | exact Le.refl _ | refine ⟨?_, ?_⟩)))
    | ((with_reducible refine (?_ : (List.all _ _) = true)); rfl)
    | ((with_reducible refine (?_ : (and _ _) = true)); rfl)
    | ((with_reducible refine (?_ : List.Nodup _)); exact nodupB_spec rfl)
    | ((with_reducible refine (?_ : @Eq Nat _ _)); rfl)
    | ((with_reducible refine (?_ : LeOks _ _ _)); first | exact trivial | exact ⟨.refl _, trivial⟩ | exact ⟨.refl _, .refl _, trivial⟩)
    | ((fail_if_success with_reducible refine Stop.go ?_); (first | with_reducible refine And.intro ?_ ?_ | with_reducible refine Cut.go ?_ | (with_reducible (refine impI ?_; intro _)) | (with_reducible refine (?_ : footOK _ _ = true); kernel_rfl) | ((with_reducible refine propI ?_); conv => whnf))))
  all_goals try (exact .of (Nat.le_of_ble_eq_true rfl))
  all_goals try (exact Side.mk (by first | exact g1 | exact ⟨g1, seg_xok (seg_xok g2 _) _⟩ | exact seg_xok (seg_xok g2 _) _ | exact fun a j ha hj => by rw [zer_at x l i k (by rw [zer_len] at ha; exact ha)]))
  all_goals try (rename_i v; have v := of_decide_eq_true v; first | exact .of ⟨by omega, by omega⟩ | exact .of (show (k : Int).toNat < x.sg.length by omega))
  · rename_i v; have v := of_decide_eq_true v
    exact ⟨k + 1, by show k + 1 ≤ _; omega, by show x.sg.length - (k + 1) < x.sg.length - k; omega, .le ⟨rfl, ⟨.refl _, .dead _, .list (fun a j ha hj => .ofEq (zer_put (monT x l i) k a j hj)), .refl _, .refl _, .dead _, .dead _, .dead _, trivial⟩, ⟨.refl _, .refl _, .refl _, .refl _, trivial⟩⟩⟩
  · rename_i v; have v := of_decide_eq_false v
    have w := zer_all hI hr e.1 (k := k) (by omega)
    have r : rngE t (zerT (monT x l i) k) (zerT (monT x l i) k) = 0 := (rng_is w.1).trans w.2.2.1
    exact .mk [] [] _ rfl (.le (.boolT (by simp [w.1, r, fareZ_0 w.1, fareZ_0 e.1, rngZ_0 r, w.2.1, w.2.2.2]))) trivial rfl
theorem c3 (t : Trf) (x : Trp) (l : List Int) : Pure (Xc W0 G) 3 [trfA t, trpA x, iRow l] (.bool true) := by
  by_cases hr : rideE t x = 0
  · exact c3o hX t x l hr
  · exact c3e hX t x l hr
end
end Go.Fx
