/-
 The meter's machine: logs, states, takings.
-/
import Derived.Test.YtfdegaojblmdiaaGreatDoorGw
set_option linter.all false
namespace Go.Fx
open Go.Proofs
theorem fare_bd {t : Trf} {l : Log} {s : Mc} (h : Hm t l s) : 0 <= mFare t l s /\ mFare t l s <= 2000000000 := by
 have n := h.nums
 have st := h.m.st
 by_cases h0 : s.ps = 0
 ·rw [fare_0 h0]; omega
 ·have el := h.m.exl h0
  have te := trf_ext h.g.trf
  have a := mxA_bd h.g.trf h.m.ex s.ex.length (by omega)
  by_cases hp : 0 < t.step
  ·rw [fare_1 h0 hp]
   have b := min_bd (stp_bd h).1 hp n.2.2.2.2.2.2.2.2.2
   omega
  ·rw [fare_2 h0 hp]; omega
structure TkSame (s s' : Mc) : Prop where
 ps : s'.ps = s.ps
 pu : s'.pu = s.pu
 zn : s'.zn = s.zn
 st : s'.st = s.st
 ex : s'.ex = s.ex
 tr : s'.tr = s.tr
 zs : s'.zs = s.zs
 fe : s'.fe = s.fe
 ad : s'.ad = s.ad
 at_ : s'.at_ = s.at_
theorem TkSame.refl (s : Mc) : TkSame s s := ⟨rfl, rfl, rfl, rfl, rfl, rfl, rfl, rfl, rfl, rfl⟩
theorem TkSame.trans {a b c : Mc} (h : TkSame a b) (k : TkSame b c) : TkSame a c := ⟨k.ps.trans h.ps, k.pu.trans h.pu, k.zn.trans h.zn, k.st.trans h.st, k.ex.trans h.ex, k.tr.trans h.tr, k.zs.trans h.zs, k.fe.trans h.fe, k.ad.trans h.ad, k.at_.trans h.at_⟩
theorem rd_same (t : Trf) (l : Log) (s : Mc) (n : Int) : TkSame s (rdS t l s n) := by rw [rdS_eq, nt_eq]; exact ⟨rfl, rfl, rfl, rfl, rfl, rfl, rfl, rfl, rfl, rfl⟩
theorem tkF_same (t : Trf) (l : Log) : ∀ (f : Nat) (s : Mc) (n : Int), TkSame s (tkF t l f s n).1
 | 0, s, n => .refl s
 | f + 1, s, n => by
  unfold tkF
  by_cases q : 0 < n
  ·rw [decide_eq_true q]
   by_cases e : rdE t l s = 0
   ·rw [e]
    by_cases c : 1000000000 < mFare t l (rdS t l s n)
    ·rw [decide_eq_true c]; exact rd_same t l s n
    ·rw [decide_eq_false c]; exact (rd_same t l s n).trans (tkF_same t l f _ _)
   ·rw [decide_eq_false e]; exact .refl s
  ·rw [decide_eq_false q]; exact .refl s
theorem tk_same (t : Trf) (l : Log) (s : Mc) (n : Int) : TkSame s (tkS t l s n) := by unfold tkS; exact tkF_same t l _ s n
def faN (l : List Mtp) : Nat -> Int
 | 0 => 0
 | i + 1 => faN l i + (l.getD i mtp0).fa
open Go.Proofs Go.RowKit
theorem own_eq (k v : Nat) : AV.own k v = AV.own k v := rfl
theorem LeH.ownN {H : List HObj} {k ver e es n m : Nat} {f g : Nat -> Nat -> AV} (hk : H[k]? = some (.list e es n f ver)) (hm : n = m) (h : ∀ i j, i < n -> j < es -> Le (f i j) (g i j)) : LeH H (.own k ver) (.slc es m g) := by subst hm; exact .own hk h
@[irreducible] def stpZ (t : Trf) (l : Log) (s : Mc) : Int := bif s.ps == 0 then 0 else mStp t l s
section
variable {W0 : World} (hX : (Xc W0 Gt).Good)
include hX
theorem c85 {l : List Int} {ver : Nat} {g : Nat -> AV} (hs : Side (l ≠ [] /\ l.length <= 1000)) : Mut (Xc W0 Gt) 85 [.own 0 ver] [.list 3 1 (l).length (fun i _ => .int .i64 ((l).getD i 0)) (ver)] (.tup 0 g) [.list 3 1 (sortI l).length (fun i _ => .int .i64 ((sortI l).getD i 0)) (ver)] :=
 mut_sort (enters_lib (by kernel_rfl)) hs.get.1 hs.get.2 fun b cap w h1 h2 => Tryz.slices_Sort_int b 0 cap l w h1 h2 (by have := hs.get.2; omega)
end
open Go.Proofs Go.RowKit
@[reducible] def bgC (t : Trf) (l : Log) (x : AV) : List AV := [.str t.name, .int .i64 t.unit, .int .i64 t.step, sRow t.zones, iRow t.hol, rulS t.rules, extS t.extras, fxdS t.fixed, .int .i64 l.c, .int .i64 l.d, .int .i64 l.t, evS l.ev, x,
 .int .i64 0, .int .i64 0, .int .i64 0, .int .i64 0, .int .i64 0, .int .i64 0, .int .i64 0, .slc0, .int .i64 0, .int .i64 (t.unit * l.c), .int .i64 0, .int .i64 0, .slc0, .slc0, .slc0]
theorem mrk_at (t : Trf) {i a : Nat} {f : Nat -> Nat -> AV} (hf0 : f 0 0 = .int .i64 (t.rules.getD i rul0).bg) (hf1 : f 1 0 = .int .i64 (t.rules.getD i rul0).en) (ha : a < (mrkL t i).length + 2) :
  joinF (mrkL t i).length (fun a _ => .int .i64 ((mrkL t i).getD a 0)) f a 0 = .int .i64 ((mrkL t (i + 1)).getD a 0) := by
 unfold joinF
 have e : mrkL t (i + 1) = mrkL t i ++ [(t.rules.getD i rul0).bg, (t.rules.getD i rul0).en] := rfl
 by_cases h : a < (mrkL t i).length
 ·rw [if_pos h, e]; simp [List.getD_eq_getElem?_getD, List.getElem?_append_left h]
 ·rw [if_neg h, e]
  rcases (show a = (mrkL t i).length \/ a = (mrkL t i).length + 1 by omega) with q | q
  ·rw [q, Nat.sub_self, hf0]; simp [List.getD_eq_getElem?_getD]
  ·rw [q, show (mrkL t i).length + 1 - (mrkL t i).length = 1 by omega, hf1]; simp [List.getD_eq_getElem?_getD]
section
variable {W0 : World} (hX : (Xc W0 Gt).Good)
include hX
set_option maxHeartbeats 400000 in
theorem c51r (t : Trf) (l : Log) (hs : Side (Gd t l)) : Mut (Xc W0 Gt) 51 [trfA t, lgA l] [] (.ptr 0 0) [.box (bgC t l (iRow (mrkS t)))] := by
 have g := hs.get
 have rl := (pE_0 ((trf_0 g.trf).2 2 (by decide))).1
 replace rl : t.rules.length <= 12 := rl
 have n1 := (gd_head g.al).1
 have n8 := (trf_unit g.trf).1
 refine mut_of' hX (fnI Tryz.f51) rfl ?_
 repeat' (first
  | (refine Ax.go ?_; first | (rw [own_eq]; with_reducible refine Alt.two ?_) | apply Alt.one)
  | exact Cz.go
  | ((fail_if_success refine Stop.go ?_); first | (with_reducible first | apply And.intro | apply Cut.go | (refine impI ?_; intro _)) | (refine propI ?_; conv => whnf)))
 all_goals try exact nbZ
 all_goals try (have u := uc_bd n8 n1; exact owZ)
 refine ⟨Nat, fun i => ([(5, .ptr 3 0), (19, rulS t.rules), (20, .int .i64 t.rules.length), (21, .int .i64 i)], [.box (trfC t), .box (logC l (evS l.ev)), .list 3 1 (mrkL t (i)).length (fun a _ => .int .i64 ((mrkL t (i)).getD a 0)) (i + 1), .box (bgC t l (.own 2 (i + 1)))]), fun i => i <= t.rules.length, fun i => t.rules.length - i, ⟨0, Nat.zero_le _, .le ⟨by kernel_rfl, ⟨.refl _, .refl _, .list (fun a j ha hj => ?_), .refl _, trivial⟩, ⟨.refl _, .refl _, .refl _, .refl _, trivial⟩⟩⟩, fun i hi => ?_⟩
 ·replace hj : j < 1 := hj
  replace ha : a < 1 := ha
  obtain rfl : a = 0 := by omega
  obtain rfl : j = 0 := by omega
  exact .refl _
 repeat' (first
  | (refine Ax.go ?_; with_reducible first | (apply altM (ks := [2]) (m := 0); apply And.intro; apply Sc.of; apply (c85 hX ?_)) | apply Alt.one)
  | exact Cz.go
  | ((fail_if_success refine Stop.go ?_); (first | rw [beqvv (i + 1)] | rw [beqvv i] | (with_reducible first | apply And.intro | apply Cut.go | (refine impI ?_; intro _)) | (refine propI ?_; conv => whnf))))
 all_goals try exact nbZ
 ·rename_i q; have q := of_decide_eq_true q; exact owZ
 ·rename_i q; have q := of_decide_eq_true q; exact .of ⟨show ((mrkL t i).length + (1 + 1)) * 8 <= 140737488355328 by rw [mrkL_len]; omega, show (mrkL t i).length + (1 + 1) <= 9223372036854775807 by rw [mrkL_len]; omega⟩
 ·rename_i q; have q := of_decide_eq_true q; exact owZ
 ·rename_i q; have q := of_decide_eq_true q
  have e : (mrkL t (i + 1)).length = (mrkL t i).length + (1 + 1) := by simp only [mrkL, List.length_append]; rfl
  refine ⟨i + 1, by show i + 1 <= _; omega, by show t.rules.length - (i + 1) < t.rules.length - i; omega, ?_⟩
  show StTo _ _ _ [(5, .ptr 3 0), (19, rulS t.rules), (20, .int .i64 t.rules.length), (21, .int .i64 ((i + 1 : Nat)))] [.box (trfC t), .box (logC l (evS l.ev)), .list 3 1 (mrkL t ((i + 1))).length (fun a _ => .int .i64 ((mrkL t ((i + 1))).getD a 0)) ((i + 1) + 1), .box (bgC t l (.own 2 ((i + 1) + 1)))]
  rw [e]
  refine .le ⟨by kernel_rfl, ⟨.refl _, .refl _, .list (fun a j ha hj => ?_), .refl _, trivial⟩, ⟨.refl _, .refl _, .refl _, .intI (by simp), trivial⟩⟩
  replace hj : j < 1 := hj
  obtain rfl : j = 0 := by omega
  exact .ofEq (mrk_at t rfl rfl ha)
 ·exact fun _ => .any
 ·rename_i q; have q := of_decide_eq_false q
  refine .mk ⟨fun e => ?_, by rw [mrkL_len]; omega⟩
  have := mrkL_len t i; rw [e] at this; simp at this
 ·rename_i q; have q := of_decide_eq_false q
  obtain rfl : i = t.rules.length := by omega
  refine .mk [3] [2] _ rfl (.le (.refl _)) ⟨.box ⟨.le (.refl _), .le (.refl _), .le (.refl _), .le (.refl _), .le (.refl _), .le (.refl _), .le (.refl _), .le (.refl _), .le (.refl _), .le (.refl _), .le (.refl _), .le (.refl _), .own rfl (fun _ _ _ _ => .refl _), .le (.refl _), .le (.refl _), .le (.refl _), .le (.refl _), .le (.refl _), .le (.refl _), .le (.refl _), .le (.refl _), .le (.refl _), .le (.refl _), .le (.refl _), .le (.refl _), .le (.refl _), .le (.refl _), .le (.refl _), trivial⟩, trivial⟩ (by kernel_rfl)
theorem c51 (t : Trf) (l : Log) (hs : Side (Gd t l)) : Mut (Xc W0 Gt) 51 [trfA t, lgA l] [] (.ptr 0 0) (mcO t l mc0) := by
 have h0 := c51r hX t l hs
 have h1 := h0.ghost (e := 3) (es := 1) (F := fun i _ => .int .i64 (([] : List Int).getD i 0))
 have h2 := Mut.stale (j := 0) (i := 20) (k := 1) (v0 := 0) h1 rfl rfl rfl (by decide)
 have h3 := Mut.born (j := 0) (i := 25) (e := 67) (es := 8) (F := fun i j => tbl (mtpC (([] : List Mtp).getD i mtp0)) j) h2 rfl rfl
 have h4 := Mut.born (j := 0) (i := 26) (e := 3) (es := 1) (F := fun i _ => .int .i64 (([] : List Int).getD i 0)) h3 rfl rfl
 have h5 := Mut.born (j := 0) (i := 27) (e := 140) (es := 7) (F := fun i j => tbl (pcC (([] : List Pc).getD i pc0)) j) h4 rfl rfl
 exact h5
end
open Go.Proofs Go.RowKit
theorem rn_trf {t : Trf} {l : Log} (h : trfE t ≠ 0) : rnE t l = trfE t /\ rnN t l = 0 := by unfold rnE rnN; rw [decide_eq_false h]; exact ⟨rfl, rfl⟩
theorem rn_al {t : Trf} {l : Log} (h : trfE t = 0) (h2 : aloneE l ≠ 0) : rnE t l = aloneE l /\ rnN t l = aloneN l := by unfold rnE rnN; rw [h, decide_eq_false h2]; exact ⟨rfl, rfl⟩
theorem rn_hit {t : Trf} {l : Log} (h : trfE t = 0) (h2 : aloneE l = 0) {i : Nat} (hi : i < l.ev.length) (h0 : ∀ j, j < i -> mcE t l j = 0) (hne : mcE t l i ≠ 0) : rnE t l = mcE t l i /\ rnN t l = i := by
 unfold rnE rnN; rw [h, h2]; exact rscan_hit hi h0 rfl hne
theorem rn_ok {t : Trf} {l : Log} (h : trfE t = 0) (h2 : aloneE l = 0) (h0 : ∀ j, j < l.ev.length -> mcE t l j = 0) : rnE t l = 0 /\ rnN t l = 0 := by
 unfold rnE rnN; rw [h, h2]; exact rscan_none h0
theorem rn_gd {t : Trf} {l : Log} (hk : TOk t) (h : rnE t l = 0) : Gd t l /\ ∀ j, j < l.ev.length -> mcE t l j = 0 := by
 by_cases a : trfE t = 0
 ·by_cases b : aloneE l = 0
  ·refine ⟨⟨hk, a, b⟩, fun j hj => ?_⟩
   unfold rnE at h; rw [a, b] at h
   exact rscan_zero h hj
  ·exact absurd ((rn_al a b).1.symm.trans h) b
 ·exact absurd ((rn_trf (l := l) a).1.symm.trans h) a
section
variable {W0 : World} (hX : (Xc W0 Gt).Good)
include hX
set_option maxHeartbeats 400000 in
theorem c64e (t : Trf) (l : Log) (hs : Side (TOk t)) (hr : rnE t l ≠ 0) : Mut (Xc W0 Gt) 64 [trfA t, lgA l] [] (.tup 3 (tbl [.any, .int .i64 (rnN t l), .int .i64 (rnE t l)])) [] := by
 refine mut_of' hX (fnI Tryz.f64) rfl ?_
 repeat' (first
  | (refine Ax.go ?_; with_reducible first | apply callAlt (c68 hX t hs) | apply callAlt (c61 hX l) | (apply altM (ks := []) (m := 5); apply And.intro; apply Sc.of; apply (c51 hX t l ?_)) | apply Alt.one)
  | exact Cl.go
  | exact Ce.go
  | ((fail_if_success refine Stop.go ?_); first | (with_reducible first | apply And.intro | apply Cut.go | (refine impI ?_; intro _)) | (refine propI ?_; conv => whnf)))
 all_goals try exact nbZ
 ·rename_i q; have q := bne_iff_ne.1 q; have w := rn_trf (l := l) q; exact .mk [] [] _ rfl (.le (.tups ⟨⟨⟨trivial, .any _⟩, .intI w.2.symm⟩, .intI w.1.symm⟩)) trivial rfl
 ·rename_i a q; have a := bne_eq_false_iff_eq.1 a; have q := bne_iff_ne.1 q; have w := rn_al a q; exact .mk [] [] _ rfl (.le (.tups ⟨⟨⟨trivial, .any _⟩, .intI w.2.symm⟩, .intI w.1.symm⟩)) trivial rfl
 ·rename_i a b; exact Side.mk ⟨hs.get, bne_eq_false_iff_eq.1 a, bne_eq_false_iff_eq.1 b⟩
 rename_i a b
 have g : Gd t l := ⟨hs.get, bne_eq_false_iff_eq.1 a, bne_eq_false_iff_eq.1 b⟩
 have el := (gd_head g.al).2.2.2.1
 refine ⟨Nat, fun i => ([(11, .ptr 3 0), (36, .int .i64 l.ev.length), (37, .int .i64 i)], (.dead :: .dead :: .dead :: (mcO t l (mcN t l (i))).map (renO (numOf [3, 4, 5, 6, 7])))), fun i => i <= l.ev.length /\ ∀ j, j < i -> mcE t l j = 0, fun i => l.ev.length - i, ⟨0, ⟨Nat.zero_le _, fun _ h => by omega⟩, .le ⟨by kernel_rfl, ⟨.dead _, .dead _, .dead _, HLe.ofEq (by kernel_rfl)⟩, ⟨.refl _, .refl _, .refl _, trivial⟩⟩⟩, fun i ⟨hi, h0⟩ => ?_⟩
 have hy : Side (Hm t l (mcN t l i)) := Side.mk (mcN_hm g hi)
 repeat' (first
  | (refine Ax.go ?_; with_reducible first | (apply altM (ks := [3, 4, 5, 6, 7]) (m := 0); apply And.intro; apply Sc.of; apply (c52 hX t l (mcN t l i) hy i ?_)) | apply Alt.one)
  | exact Cl.go
  | exact Ce.go
  | ((fail_if_success refine Stop.go ?_); first | (with_reducible first | apply And.intro | apply Cut.go | (refine impI ?_; intro _)) | (refine propI ?_; conv => whnf)))
 all_goals try exact nbZ
 ·rename_i q; have q := of_decide_eq_true q; exact Side.mk ⟨mcN_ok g i hi, by omega⟩
 ·rename_i q e; have q := of_decide_eq_true q; have e := bne_iff_ne.1 e; replace e : mcE t l i ≠ 0 := e; have w := rn_hit g.trf g.al (show i < l.ev.length by omega) h0 e; exact .mk [] [] _ rfl (.le (.tups ⟨⟨⟨trivial, .any _⟩, .intI w.2.symm⟩, .intI w.1.symm⟩)) trivial rfl
 ·rename_i q e; have q := of_decide_eq_true q; exact owZ
 ·rename_i q e; have q := of_decide_eq_true q; have e := bne_eq_false_iff_eq.1 e; replace e : mcE t l i = 0 := e
  exact ⟨i + 1, ⟨by omega, all_lt h0 e⟩, by show l.ev.length - (i + 1) < l.ev.length - i; omega, .le ⟨by kernel_rfl, ⟨.dead _, .dead _, .dead _, HLe.ofEq (by kernel_rfl)⟩, ⟨.refl _, .refl _, .intI (by omega), trivial⟩⟩⟩
 ·rename_i q; have q := of_decide_eq_false q
  obtain rfl : i = l.ev.length := by omega
  exact absurd (rn_ok g.trf g.al h0).1 hr
set_option maxHeartbeats 400000 in
theorem c64 (t : Trf) (l : Log) (hs : Side (TOk t)) (hr : rnE t l = 0) : Mut (Xc W0 Gt) 64 [trfA t, lgA l] [] (.tup 3 (tbl [.ptr 0 0, .int .i64 0, .int .i64 0])) (mcO t l (mcN t l l.ev.length)) := by
 refine mut_of' hX (fnI Tryz.f64) rfl ?_
 repeat' (first
  | (refine Ax.go ?_; with_reducible first | apply callAlt (c68 hX t hs) | apply callAlt (c61 hX l) | (apply altM (ks := []) (m := 5); apply And.intro; apply Sc.of; apply (c51 hX t l ?_)) | apply Alt.one)
  | exact Cl.go
  | exact Ce.go
  | ((fail_if_success refine Stop.go ?_); first | (with_reducible first | apply And.intro | apply Cut.go | (refine impI ?_; intro _)) | (refine propI ?_; conv => whnf)))
 all_goals try exact nbZ
 ·rename_i q; have q := bne_iff_ne.1 q; exact absurd ((rn_trf (l := l) q).1.symm.trans hr) q
 ·rename_i a q; have a := bne_eq_false_iff_eq.1 a; have q := bne_iff_ne.1 q; exact absurd ((rn_al a q).1.symm.trans hr) q
 ·rename_i a b; exact Side.mk ⟨hs.get, bne_eq_false_iff_eq.1 a, bne_eq_false_iff_eq.1 b⟩
 rename_i a b
 have g : Gd t l := ⟨hs.get, bne_eq_false_iff_eq.1 a, bne_eq_false_iff_eq.1 b⟩
 have el := (gd_head g.al).2.2.2.1
 refine ⟨Nat, fun i => ([(11, .ptr 3 0), (36, .int .i64 l.ev.length), (37, .int .i64 i)], (.dead :: .dead :: .dead :: (mcO t l (mcN t l (i))).map (renO (numOf [3, 4, 5, 6, 7])))), fun i => i <= l.ev.length /\ ∀ j, j < i -> mcE t l j = 0, fun i => l.ev.length - i, ⟨0, ⟨Nat.zero_le _, fun _ h => by omega⟩, .le ⟨by kernel_rfl, ⟨.dead _, .dead _, .dead _, HLe.ofEq (by kernel_rfl)⟩, ⟨.refl _, .refl _, .refl _, trivial⟩⟩⟩, fun i ⟨hi, h0⟩ => ?_⟩
 have hy : Side (Hm t l (mcN t l i)) := Side.mk (mcN_hm g hi)
 repeat' (first
  | (refine Ax.go ?_; with_reducible first | (apply altM (ks := [3, 4, 5, 6, 7]) (m := 0); apply And.intro; apply Sc.of; apply (c52 hX t l (mcN t l i) hy i ?_)) | apply Alt.one)
  | exact Cl.go
  | exact Ce.go
  | ((fail_if_success refine Stop.go ?_); first | (with_reducible first | apply And.intro | apply Cut.go | (refine impI ?_; intro _)) | (refine propI ?_; conv => whnf)))
 all_goals try exact nbZ
 ·rename_i q; have q := of_decide_eq_true q; exact Side.mk ⟨mcN_ok g i hi, by omega⟩
 ·rename_i q e; have q := of_decide_eq_true q; have e := bne_iff_ne.1 e; replace e : mcE t l i ≠ 0 := e; exact absurd ((rn_hit g.trf g.al (by omega) h0 e).1.symm.trans hr) e
 ·rename_i q e; have q := of_decide_eq_true q; exact owZ
 ·rename_i q e; have q := of_decide_eq_true q; have e := bne_eq_false_iff_eq.1 e; replace e : mcE t l i = 0 := e
  exact ⟨i + 1, ⟨by omega, all_lt h0 e⟩, by show l.ev.length - (i + 1) < l.ev.length - i; omega, .le ⟨by kernel_rfl, ⟨.dead _, .dead _, .dead _, HLe.ofEq (by kernel_rfl)⟩, ⟨.refl _, .refl _, .intI (by omega), trivial⟩⟩⟩
 ·rename_i q; have q := of_decide_eq_false q
  obtain rfl : i = l.ev.length := by omega
  exact .mk [3, 4, 5, 6, 7] [] _ rfl (.le (.tups ⟨⟨⟨trivial, .refl _⟩, .refl _⟩, .refl _⟩)) (.ofEq (by kernel_rfl)) (by kernel_rfl)
end
open Go.Proofs Go.RowKit
@[irreducible] def soE (t : Trf) (l : Log) (k : Int) : Int := firstS [rnE t l, isOk (inB k 0 l.ev.length) 2]
def zst : List AV := [.int .i64 0, .int .i64 0, .int .i64 0, .int .i64 0, .int .i64 0, .int .i64 0, iRow [], .int .i64 0]
@[irreducible] def tkgE (t : Trf) (l : Log) : Int := bif decide (rnE t l = 0) then (bif decide (1000000000 < faN (mcN t l l.ev.length).tr (mcN t l l.ev.length).tr.length) then 8 else 0) else rnE t l
@[irreducible] def tkgN (t : Trf) (l : Log) : Int := bif decide (tkgE t l = 0) then faN (mcN t l l.ev.length).tr (mcN t l l.ev.length).tr.length else 0
section
variable {W0 : World} (hX : (Xc W0 Gt).Good)
include hX
theorem c47e (t : Trf) (l : Log) (hs : Side (TOk t)) (hr : rnE t l ≠ 0) : Pure (Xc W0 Gt) 47 [trfA t, lgA l] (.tup 2 (tbl [.any, .int .i64 (rnE t l)])) := by
 refine mut_of' hX (fnI Tryz.f47) rfl ?_
 repeat' (first
  | (refine Ax.go ?_; with_reducible first | apply callAlt (c64e hX t l hs hr) | apply Alt.one)
  | exact Cl.go
  | exact Ce.go
  | ((fail_if_success refine Stop.go ?_); first | (with_reducible first | apply And.intro | apply Cut.go | (refine impI ?_; intro _)) | (refine propI ?_; conv => whnf)))
 all_goals try exact nbZ
 exact .mk [] [] _ rfl (.le (.tups ⟨⟨trivial, .any _⟩, .intI rfl⟩)) trivial rfl
theorem c47 (t : Trf) (l : Log) (hs : Side (TOk t)) (hr : rnE t l = 0) : Mut (Xc W0 Gt) 47 [trfA t, lgA l] [] (.tup 2 (tbl [.ptr 0 0, .int .i64 0])) (mcO t l (mcN t l l.ev.length)) := by
 refine mut_of' hX (fnI Tryz.f47) rfl ?_
 repeat' (first
  | (refine Ax.go ?_; with_reducible first | (apply altM (ks := []) (m := 5); apply And.intro; apply Sc.of; apply (c64 hX t l hs hr)) | apply Alt.one)
  | exact Cl.go
  | exact Ce.go
  | ((fail_if_success refine Stop.go ?_); first | (with_reducible first | apply And.intro | apply Cut.go | (refine impI ?_; intro _)) | (refine propI ?_; conv => whnf)))
 all_goals try exact nbZ
 exact .mk [2, 3, 4, 5, 6] [] _ rfl (.le (.tups ⟨⟨trivial, .refl _⟩, .refl _⟩)) (.ofEq (by kernel_rfl)) (by kernel_rfl)
end
end Go.Fx
