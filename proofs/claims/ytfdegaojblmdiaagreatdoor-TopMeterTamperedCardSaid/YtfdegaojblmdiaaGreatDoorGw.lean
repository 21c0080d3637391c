/-
 The meter's machine: changes, ticks, positions, events.
-/
import Derived.Test.YtfdegaojblmdiaaGreatDoorGv
set_option linter.all false
namespace Go.Fx
open Go.Proofs
theorem chS_f {t : Trf} {l : Log} {s : Mc} (h : chgB s = false) : chS t l s = { s with si := 0 } := by unfold chS; rw [h]; rfl
theorem chS_t {t : Trf} {l : Log} {s : Mc} (h : chgB s = true) (e : mrE t l s = 0) : chS t l s = { ntS t l s (mrN t l s) s.si 0 with si := 0 } := by unfold chS; rw [h, e]; rfl
theorem chS_e {t : Trf} {l : Log} {s : Mc} (h : chgB s = true) (e : mrE t l s ≠ 0) : chS t l s = s := by unfold chS; rw [h, decide_eq_false e]; rfl
theorem chE_f {t : Trf} {l : Log} {s : Mc} (h : chgB s = false) : chE_ t l s = 0 := by unfold chE_; rw [h]; rfl
theorem chE_t {t : Trf} {l : Log} {s : Mc} (h : chgB s = true) : chE_ t l s = mrE t l s := by unfold chE_; rw [h]; rfl
theorem chg_iff {s : Mc} : chgB s = true ↔ rnB s = true /\ 0 < s.si := by
 unfold chgB
 cases rnB s <;> simp
theorem rn_iff {s : Mc} : rnB s = true ↔ s.ps = 1 \/ s.ps = 2 := by
 unfold rnB
 by_cases h1 : s.ps = 1
 ·simp [h1]
 ·by_cases h2 : s.ps = 2
  ·simp [h2]
  ·simp [h1, h2]
theorem rdS_eq {t : Trf} {l : Log} {s : Mc} {n : Int} : rdS t l s n = { ntS t l s (bif rnB s then mrN t l s else 0) (bif rnB s then s.si else 0) (rdK t l s n) with si := 0, tk := s.tk + rdK t l s n } := by unfold rdS; rfl
theorem tm_0 {t : Trf} {l : Log} {s : Mc} {ru pu : Int} : tmB t l s ru pu 0 = false := by unfold tmB; rfl
theorem nta_0 {t : Trf} {l : Log} {s : Mc} {ru pu : Int} (h : rnB s = true) : ntA t l s ru pu 0 = s.pa + dstQ t ru pu := by
 unfold ntA; rw [h, tm_0]; show s.pa + dstQ t ru pu * max 1 0 = _; rw [max1 (by decide) (by decide), Int.mul_one]
theorem nta_f {t : Trf} {l : Log} {s : Mc} {ru pu tk : Int} (h : rnB s = false) : ntA t l s ru pu tk = s.pa := by unfold ntA; rw [h]; rfl
theorem rn_f {s : Mc} (h : ¬ rnB s = true) : rnB s = false := by cases q : rnB s <;> simp_all
theorem ch_nth {t : Trf} {l : Log} {s : Mc} (hm : Hm t l s) (h : chgB s = true) (e : mrE t l s = 0) : NtH t s (mrN t l s) s.si 0 := by
 have n := hm.nums
 exact ⟨fun _ => mr_ok e, by omega, by omega, fun h => by omega⟩
theorem ch_ok {t : Trf} {l : Log} {s : Mc} {k : Int} (g : Gd t l) (h : MOk t k s) (hk : k <= 201) : MOk t (k + 1) (chS t l s) := by
 have hm : Hm t l s := ⟨g, h.mono hk⟩
 have h1 := h.tk; have h2 := h.si; have h3 := h.pu; have h4 := h.pa; have h5 := h.tr; have h6 := h.zs; have h7 := h.pc
 cases q : chgB s with
 | false =>
  rw [chS_f q]
  exact ⟨by show 0 <= s.tk /\ s.tk <= _; omega, by show (0 : Int) <= 0 /\ 0 <= s.pu; omega, by show s.pu <= _; omega, by show 0 <= s.pa /\ s.pa <= 1000000000 * (s.pu - 0) + 100000000000 * s.tk; omega, h.ps, h.zn, h.st, h.exl, h.ex0, h.ex, by show (s.tr.length : Int) <= _; omega, by show (s.zs.length : Int) <= _; omega, by show (s.pc.length : Int) <= s.tk + _; omega⟩
 | true =>
  obtain ⟨hr, hsi⟩ := chg_iff.1 q
  by_cases e : mrE t l s = 0
  ·have hR := mr_rule g.trf e
   have d := dst_bd (pu := s.si) hR h2.1
   rw [chS_t q e, nt_eq, nta_0 hr]
   exact ⟨by show 0 <= s.tk /\ s.tk <= _; omega, by show (0 : Int) <= 0 /\ 0 <= s.pu; omega, by show s.pu <= _; omega,
    by show 0 <= s.pa + dstQ t (mrN t l s) s.si /\ s.pa + dstQ t (mrN t l s) s.si <= 1000000000 * (s.pu - 0) + 100000000000 * s.tk; omega, h.ps, h.zn, h.st, h.exl, h.ex0, h.ex, by show (s.tr.length : Int) <= _; omega, by show (s.zs.length : Int) <= _; omega,
    by show ((s.pc ++ [_]).length : Int) <= s.tk + _; simp only [List.length_append, List.length_cons, List.length_nil]; omega⟩
  ·rw [chS_e q e]; exact h.mono (by omega)
theorem ch_same (t : Trf) (l : Log) (s : Mc) : (chS t l s).ps = s.ps /\ (chS t l s).tk = s.tk /\ (chS t l s).pu = s.pu /\ (chS t l s).zn = s.zn /\ (chS t l s).st = s.st /\ (chS t l s).ex = s.ex /\ (chS t l s).tr = s.tr /\ (chS t l s).zs = s.zs /\ (chS t l s).fe = s.fe /\ (chS t l s).ad = s.ad /\ (chS t l s).at_ = s.at_ := by
 cases q : chgB s with
 | false => rw [chS_f q]; exact ⟨rfl, rfl, rfl, rfl, rfl, rfl, rfl, rfl, rfl, rfl, rfl⟩
 | true =>
  by_cases e : mrE t l s = 0
  ·rw [chS_t q e, nt_eq]; exact ⟨rfl, rfl, rfl, rfl, rfl, rfl, rfl, rfl, rfl, rfl, rfl⟩
  ·rw [chS_e q e]; exact ⟨rfl, rfl, rfl, rfl, rfl, rfl, rfl, rfl, rfl, rfl, rfl⟩
theorem rdK_bd {t : Trf} {l : Log} {s : Mc} {n : Int} (hn : 0 < n) : 1 <= rdK t l s n /\ rdK t l s n <= n /\ (rnB s = true -> 1 < rdK t l s n -> ¬ 0 < s.si) := by
 unfold rdK
 cases q : rnB s with
 | false => exact ⟨by show 1 <= n; omega, by show n <= n; omega, fun h => (by cases h)⟩
 | true =>
  by_cases h : 0 < s.si
  ·rw [decide_eq_true h]; exact ⟨by show (1 : Int) <= 1; omega, by show 1 <= n; omega, fun _ h => by replace h : (1 : Int) < 1 := h; omega⟩
  ·rw [decide_eq_false h]
   have : 1 <= stdQ t l s := by unfold stdQ; exact std_ge _ _
   exact ⟨by show 1 <= min n _; omega, by show min n _ <= n; omega, fun _ _ => h⟩
theorem rd_nth {t : Trf} {l : Log} {s : Mc} {n : Int} (hm : Hm t l s) (e : rdE t l s = 0) (hn : 0 < n) (hn2 : n <= 3600) : NtH t s (bif rnB s then mrN t l s else 0) (bif rnB s then s.si else 0) (rdK t l s n) := by
 have b := rdK_bd (t := t) (l := l) (s := s) hn
 have m := hm.nums
 cases q : rnB s with
 | false => exact ⟨fun h => (by rw [q] at h; cases h), by show (0 : Int) <= 0 /\ (0 : Int) <= _; omega, by omega, fun _ => rfl⟩
 | true =>
  have e : mrE t l s = 0 := by unfold rdE at e; rw [q] at e; exact e
  exact ⟨fun _ => mr_ok e, by show 0 <= s.si /\ s.si <= _; omega, by omega, fun h => by have := b.2.2 q h; show s.si = 0; omega⟩
theorem rd_ok {t : Trf} {l : Log} {s : Mc} {k n : Int} (g : Gd t l) (h : MOk t k s) (hk : k <= 201) (e : rdE t l s = 0) (hn : 0 < n) (hn2 : s.tk + n <= 3600 * k) : MOk t k (rdS t l s n) /\ (rdS t l s n).tk = s.tk + rdK t l s n := by
 have hm : Hm t l s := ⟨g, h.mono hk⟩
 have h1 := h.tk; have h2 := h.si; have h3 := h.pu; have h4 := h.pa; have h5 := h.tr; have h6 := h.zs; have h7 := h.pc
 have b := rdK_bd (t := t) (l := l) (s := s) hn
 rw [rdS_eq, nt_eq]
 refine ⟨?_, rfl⟩
 have key : 0 <= ntA t l s (bif rnB s then mrN t l s else 0) (bif rnB s then s.si else 0) (rdK t l s n) /\ ntA t l s (bif rnB s then mrN t l s else 0) (bif rnB s then s.si else 0) (rdK t l s n) <= 1000000000 * (s.pu - 0) + 100000000000 * (s.tk + rdK t l s n) := by
  cases q : rnB s with
  | false => rw [nta_f q]; omega
  | true =>
   have e : mrE t l s = 0 := by unfold rdE at e; rw [q] at e; exact e
   have hR := mr_rule g.trf e
   have d := dst_bd (pu := s.si) hR h2.1
   have c := scn_bd (l := l) hR hm.nums.1
   unfold ntA
   rw [q]
   show 0 <= s.pa + (bif tmB t l s (mrN t l s) s.si (rdK t l s n) then _ else _) * max 1 (rdK t l s n) /\ s.pa + (bif tmB t l s (mrN t l s) s.si (rdK t l s n) then _ else _) * max 1 (rdK t l s n) <= _
   rw [show max 1 (rdK t l s n) = rdK t l s n by omega]
   cases tmB t l s (mrN t l s) s.si (rdK t l s n) with
   | true =>
    have w := mul_bd (A := 100000000000) (B := rdK t l s n) c.1 c.2 (show 0 <= rdK t l s n by omega) (Int.le_refl _)
    show 0 <= s.pa + scnQ t l (mrN t l s) * _ /\ s.pa + scnQ t l (mrN t l s) * _ <= _
    omega
   | false =>
    show 0 <= s.pa + dstQ t (mrN t l s) s.si * _ /\ s.pa + dstQ t (mrN t l s) s.si * _ <= _
    by_cases h8 : 0 < s.si
    ·have h9 : rdK t l s n = 1 := by unfold rdK; rw [q, decide_eq_true h8]; rfl
     rw [h9, Int.mul_one]; omega
    ·have h9 : s.si = 0 := by omega
     rw [h9, dst_0, Int.zero_mul]; omega
 exact ⟨by show 0 <= s.tk + rdK t l s n /\ s.tk + rdK t l s n <= _; omega, by show (0 : Int) <= 0 /\ 0 <= s.pu; omega, by show s.pu <= _; omega, key, h.ps, h.zn, h.st, h.exl, h.ex0, h.ex, h5, h6,
  by show ((s.pc ++ [_]).length : Int) <= s.tk + rdK t l s n + _; simp only [List.length_append, List.length_cons, List.length_nil]; omega⟩
theorem tkF_ok {t : Trf} {l : Log} {k : Int} (g : Gd t l) (hk : k <= 201) : ∀ (f : Nat) (s : Mc) (n : Int), MOk t k s -> s.tk + n <= 3600 * k -> MOk t k (tkF t l f s n).1
 | 0, s, n, h, _ => h
 | f + 1, s, n, h, hn => by
  unfold tkF
  by_cases q : 0 < n
  ·rw [decide_eq_true q]
   by_cases e : rdE t l s = 0
   ·have w := rd_ok g h hk e q hn
    have b := rdK_bd (t := t) (l := l) (s := s) q
    rw [e]
    by_cases c : 1000000000 < mFare t l (rdS t l s n)
    ·rw [decide_eq_true c]; exact w.1
    ·rw [decide_eq_false c]; exact tkF_ok g hk f _ _ w.1 (by rw [w.2]; omega)
   ·rw [decide_eq_false e]; exact h
  ·rw [decide_eq_false q]; exact h
theorem tkF_fuel {t : Trf} {l : Log} : ∀ (f f' : Nat) (s : Mc) (n : Int), n <= f -> n <= f' -> tkF t l f s n = tkF t l f' s n
 | 0, 0, s, n, _, _ => rfl
 | 0, f' + 1, s, n, h, _ => by unfold tkF; rw [decide_eq_false (show ¬ 0 < n by omega)]; rfl
 | f + 1, 0, s, n, _, h => by unfold tkF; rw [decide_eq_false (show ¬ 0 < n by omega)]; rfl
 | f + 1, f' + 1, s, n, h, h' => by
  unfold tkF
  by_cases q : 0 < n
  ·have b := rdK_bd (t := t) (l := l) (s := s) q
   rw [tkF_fuel f f' (rdS t l s n) (n - rdK t l s n) (by omega) (by omega)]
  ·rw [decide_eq_false q]; rfl
theorem tk_end {t : Trf} {l : Log} {s : Mc} {n : Int} (h : ¬ 0 < n) : tkS t l s n = s /\ tkE t l s n = 0 := by
 unfold tkS tkE
 rw [show n.toNat = 0 by omega]
 exact ⟨rfl, rfl⟩
theorem tk_err {t : Trf} {l : Log} {s : Mc} {n : Int} (h : 0 < n) (e : rdE t l s ≠ 0) : tkS t l s n = s /\ tkE t l s n = rdE t l s := by
 unfold tkS tkE
 obtain ⟨m, hm⟩ : ∃ m, n.toNat = m + 1 := ⟨n.toNat - 1, by omega⟩
 rw [hm]
 unfold tkF
 rw [decide_eq_true h, decide_eq_false e]
 exact ⟨rfl, rfl⟩
theorem tk_big {t : Trf} {l : Log} {s : Mc} {n : Int} (h : 0 < n) (e : rdE t l s = 0) (c : 1000000000 < mFare t l (rdS t l s n)) : tkS t l s n = rdS t l s n /\ tkE t l s n = 8 := by
 unfold tkS tkE
 obtain ⟨m, hm⟩ : ∃ m, n.toNat = m + 1 := ⟨n.toNat - 1, by omega⟩
 rw [hm]
 unfold tkF
 rw [decide_eq_true h, e, decide_eq_true c]
 exact ⟨rfl, rfl⟩
theorem tk_step {t : Trf} {l : Log} {s : Mc} {n : Int} (h : 0 < n) (e : rdE t l s = 0) (c : ¬ 1000000000 < mFare t l (rdS t l s n)) : tkS t l s n = tkS t l (rdS t l s n) (n - rdK t l s n) /\ tkE t l s n = tkE t l (rdS t l s n) (n - rdK t l s n) := by
 have b := rdK_bd (t := t) (l := l) (s := s) h
 unfold tkS tkE
 obtain ⟨m, hm⟩ : ∃ m, n.toNat = m + 1 := ⟨n.toNat - 1, by omega⟩
 have e2 : tkF t l n.toNat s n = tkF t l (n - rdK t l s n).toNat (rdS t l s n) (n - rdK t l s n) := by
  rw [hm]
  conv => lhs; unfold tkF
  rw [decide_eq_true h, e, decide_eq_false c]
  exact tkF_fuel _ _ _ _ (by omega) (by omega)
 rw [e2]; exact ⟨rfl, rfl⟩
theorem rdS_1 {t : Trf} {l : Log} {s : Mc} {n : Int} (hr : rnB s = true) (h : 0 < s.si) : rdK t l s n = 1 /\ rdS t l s n = { ntS t l s (mrN t l s) s.si 1 with si := 0, tk := s.tk + 1 } := by
 have k : rdK t l s n = 1 := by unfold rdK; rw [hr, decide_eq_true h]; rfl
 rw [rdS_eq, k, hr]; exact ⟨rfl, rfl⟩
theorem rdS_2 {t : Trf} {l : Log} {s : Mc} {n : Int} (hr : rnB s = true) (h : ¬ 0 < s.si) : rdK t l s n = min n (stdQ t l s) /\ rdS t l s n = { ntS t l s (mrN t l s) s.si (min n (stdQ t l s)) with si := 0, tk := s.tk + min n (stdQ t l s) } := by
 have k : rdK t l s n = min n (stdQ t l s) := by unfold rdK; rw [hr, decide_eq_false h]; rfl
 rw [rdS_eq, k, hr]; exact ⟨rfl, rfl⟩
theorem rdS_3 {t : Trf} {l : Log} {s : Mc} {n : Int} (hr : rnB s = false) : rdK t l s n = n /\ rdS t l s n = { ntS t l s 0 0 n with si := 0, tk := s.tk + n } := by
 have k : rdK t l s n = n := by unfold rdK; rw [hr]; rfl
 rw [rdS_eq, k, hr]; exact ⟨rfl, rfl⟩
theorem rdE_t {t : Trf} {l : Log} {s : Mc} (hr : rnB s = true) : rdE t l s = mrE t l s := by unfold rdE; rw [hr]; rfl
theorem rdE_f {t : Trf} {l : Log} {s : Mc} (hr : rnB s = false) : rdE t l s = 0 := by unfold rdE; rw [hr]; rfl
theorem tk_ok {t : Trf} {l : Log} {k n : Int} {s : Mc} (g : Gd t l) (hk : k <= 201) (h : MOk t k s) (hn : s.tk + n <= 3600 * k) : MOk t k (tkS t l s n) := by unfold tkS; exact tkF_ok g hk _ s n h hn
open Go.Proofs Go.RowKit
section
variable {W0 : World} {G : Nat -> Option AV} (hX : (Xc W0 G).Good)
include hX
theorem c88 (t : Trf) (l : Log) (s : Mc) (hs : Side (Hm t l s)) : Mut (Xc W0 G) 88 [.ptr 0 0] (mcO t l s) (.int .i64 (chE_ t l s)) (mcO t l (chS t l s)) := by
 have hm := hs.get
 have nn := hm.nums
 obtain ⟨n1, n2, n3, n4, n5, n6, n7, n8, n9⟩ := nn
 have mk_ := hm.m
 refine mut_of' hX (show FnIs (Xc W0 G) 88 Tryz.f88 (codeOf Tryz.f88) by refine ⟨?_, ?_, ?_, ?_⟩ <;> kernel_rfl) rfl ?_
 repeat' (first
  | ((with_reducible refine (?_ : Alt _ _)); first | (with_reducible (apply altM (ks := [0, 1, 2, 3, 4]) (m := 0); apply And.intro; apply Sc.of; apply (c131 hX t l s hs))) | (with_reducible (apply altM (ks := [0, 1, 2, 3, 4]) (m := 0); apply And.intro; apply Sc.of; apply (c132 hX t l s hs))) | (with_reducible (apply altM (ks := [0, 1, 2, 3, 4]) (m := 0); apply And.intro; apply Sc.of; apply (c134 hX t l s hs (mrN t l s) s.si 0 ?_))) | (with_reducible refine Alt.one ?_))
  | ((with_reducible refine Ar.go ?_); first | exact AllLe.refl _ | (repeat' (first | exact trivial | apply Le.aggs | apply Le.tups | apply Le.fns | exact Le.refl _ | refine ⟨?_, ?_⟩)))
  | with_reducible refine Ac.go ?_
  | ((with_reducible refine Rf.go ?_); rfl)
  | with_reducible refine nodupB_spec ?_
  | ((with_reducible refine Kf.go ?_); kernel_rfl)
  | ((with_reducible refine Lo.go ?_); first | exact LeOks.ofEq (by kernel_rfl) | (repeat' first | exact trivial | refine ⟨.refl _, ?_⟩))
  | ((fail_if_success with_reducible refine Stop.go ?_); (first | rw [beqvv (s.tr.length + 1)] | rw [beqvv (s.zs.length + 1)] | rw [beqvv (s.pc.length + 1)] | rw [beqvv s.tr.length] | rw [beqvv s.zs.length] | rw [beqvv s.pc.length] | rw [beqvv (2 * s.zs.length)] | with_reducible refine And.intro ?_ ?_ | with_reducible refine Cut.go ?_ | (with_reducible (refine impI ?_; intro _)) | ((with_reducible refine propI ?_); conv => whnf))))
 all_goals try exact nbZ
 ·rename_i h e; replace h : chgB s = true := h; have e := bne_iff_ne.1 e; rw [chE_t h, chS_e h e]; exact .mk [] [] _ rfl (.le (.refl _)) (.ofEq (by kernel_rfl)) (by kernel_rfl)
 ·rename_i h e; replace h : chgB s = true := h; exact Side.mk (ch_nth hm h (bne_eq_false_iff_eq.1 e))
 ·rename_i h e; replace h : chgB s = true := h; have e := bne_eq_false_iff_eq.1 e; rw [chE_t h, chS_t h e]; exact .mk [] [] _ rfl (.le (.intI e.symm)) (.ofEq (by kernel_rfl)) (by kernel_rfl)
 ·rename_i h; replace h : chgB s = false := h; rw [chE_f h, chS_f h]; exact .mk [] [] _ rfl (.le (.refl _)) (.ofEq (by kernel_rfl)) (by kernel_rfl)
set_option maxHeartbeats 400000 in
theorem c86 (t : Trf) (l : Log) (s : Mc) (hs : Side (Hm t l s)) (n : Int) (hn : Side (s.tk + n <= 723600 /\ n <= 3600)) : Mut (Xc W0 G) 86 [.ptr 0 0, .int .i64 n] (mcO t l s) (.int .i64 (tkE t l s n)) (mcO t l (tkS t l s n)) := by
 have hm := hs.get
 have nn := hm.nums
 obtain ⟨n1, n2, n3, n4, n5, n6, n7, n8, n9⟩ := nn
 have mk_ := hm.m
 obtain ⟨h1, h2⟩ := hn.get
 refine mut_of' hX (show FnIs (Xc W0 G) 86 Tryz.f86 (codeOf Tryz.f86) by refine ⟨?_, ?_, ?_, ?_⟩ <;> kernel_rfl) rfl ?_
 repeat' (first
  | ((with_reducible refine (?_ : Alt _ _)); first | fail | (with_reducible refine Alt.one ?_))
  | ((with_reducible refine Ar.go ?_); first | exact AllLe.refl _ | (repeat' (first | exact trivial | apply Le.aggs | apply Le.tups | apply Le.fns | exact Le.refl _ | refine ⟨?_, ?_⟩)))
  | with_reducible refine Ac.go ?_
  | ((with_reducible refine Rf.go ?_); rfl)
  | with_reducible refine nodupB_spec ?_
  | ((with_reducible refine Kf.go ?_); kernel_rfl)
  | ((with_reducible refine Lo.go ?_); first | exact LeOks.ofEq (by kernel_rfl) | (repeat' first | exact trivial | refine ⟨.refl _, ?_⟩))
  | ((fail_if_success with_reducible refine Stop.go ?_); (first | rw [beqvv (s.tr.length + 1)] | rw [beqvv (s.zs.length + 1)] | rw [beqvv (s.pc.length + 1)] | rw [beqvv s.tr.length] | rw [beqvv s.zs.length] | rw [beqvv s.pc.length] | rw [beqvv (2 * s.zs.length)] | with_reducible refine And.intro ?_ ?_ | with_reducible refine Cut.go ?_ | (with_reducible (refine impI ?_; intro _)) | ((with_reducible refine propI ?_); conv => whnf))))
 all_goals try exact nbZ
 refine ⟨Mc × Int, fun y => ([(0, .ptr 0 0), (1, .int .i64 y.2)], mcO t l y.1), fun y => MOk t 201 y.1 /\ y.1.tk + y.2 <= 723600 /\ y.2 <= 3600 /\ tkS t l y.1 y.2 = tkS t l s n /\ tkE t l y.1 y.2 = tkE t l s n, fun y => y.2.toNat, ⟨(s, n), ⟨mk_, h1, h2, rfl, rfl⟩, .le ⟨by kernel_rfl, HLe.ofEq (by kernel_rfl), ⟨.refl _, .refl _, trivial⟩⟩⟩, fun y ⟨i1, i2, i2b, i3, i4⟩ => ?_⟩
 have hy : Side (Hm t l y.1) := Side.mk ⟨hm.g, i1⟩
 have ny := hy.get.nums
 by_cases hp : 0 < y.2
 ·have hxp : decide (0 < y.2) = false -> False := fun q => by rw [decide_eq_true hp] at q; cases q
  cases hr : rnB y.1 with
  | true =>
   have hxr : rnB y.1 = false -> False := fun q => by rw [hr] at q; cases q
   by_cases hsi : 0 < y.1.si
   ·have hxs : decide (0 < y.1.si) = false -> False := fun q => by rw [decide_eq_true hsi] at q; cases q
    obtain ⟨k1, k2⟩ := rdS_1 (t := t) (l := l) (n := y.2) hr hsi
    repeat' (first
     | ((with_reducible refine (?_ : Alt _ _)); first | (with_reducible (apply altM (ks := [0, 1, 2, 3, 4]) (m := 0); apply And.intro; apply Sc.of; apply (c131 hX t l y.1 hy))) | (with_reducible (apply altM (ks := [0, 1, 2, 3, 4]) (m := 0); apply And.intro; apply Sc.of; apply (c132 hX t l y.1 hy))) | (with_reducible (apply altM (ks := [0, 1, 2, 3, 4]) (m := 0); apply And.intro; apply Sc.of; apply (c133 hX t l y.1 hy))) | (with_reducible (apply altM (ks := [0, 1, 2, 3, 4]) (m := 0); apply And.intro; apply Sc.of; apply (c134 hX t l y.1 hy (mrN t l y.1) y.1.si (1) ?_))) | (with_reducible (apply altM (ks := [0, 1, 2, 3, 4]) (m := 0); apply And.intro; apply Sc.of; apply (c56 hX t l { ntS t l y.1 (mrN t l y.1) y.1.si (1) with si := 0, tk := y.1.tk + 1 } ?_))) | (with_reducible refine Alt.one ?_))
     | ((with_reducible refine Ar.go ?_); first | exact AllLe.refl _ | (repeat' (first | exact trivial | apply Le.aggs | apply Le.tups | apply Le.fns | exact Le.refl _ | refine ⟨?_, ?_⟩)))
     | with_reducible refine Ac.go ?_
     | ((with_reducible refine Rf.go ?_); rfl)
     | with_reducible refine nodupB_spec ?_
     | ((with_reducible refine Kf.go ?_); kernel_rfl)
     | ((with_reducible refine Lo.go ?_); first | exact LeOks.ofEq (by kernel_rfl) | (repeat' first | exact trivial | refine ⟨.refl _, ?_⟩))
     | ((fail_if_success with_reducible refine Stop.go ?_); (first | exact (hxp ‹_›).elim | exact (hxr ‹_›).elim | exact (hxs ‹_›).elim | rw [beqvv (y.1.tr.length + 1)] | rw [beqvv (y.1.zs.length + 1)] | rw [beqvv (y.1.pc.length + 1)] | rw [beqvv y.1.tr.length] | rw [beqvv y.1.zs.length] | rw [beqvv y.1.pc.length] | rw [beqvv (2 * y.1.zs.length)] | with_reducible refine And.intro ?_ ?_ | with_reducible refine Cut.go ?_ | (with_reducible (refine impI ?_; intro _)) | ((with_reducible refine propI ?_); conv => whnf))))
    all_goals try exact nbZ
    ·rename_i _ e; have e := bne_iff_ne.1 e
     have w := tk_err hp (by rw [rdE_t hr]; exact e); rw [<- i3, <- i4, w.1, w.2, rdE_t hr]; exact .mk [] [] _ rfl (.le (.refl _)) (.ofEq (by kernel_rfl)) (by kernel_rfl)
    ·have e : rdE t l y.1 = 0 := by rw [rdE_t hr]; exact bne_eq_false_iff_eq.1 ‹(mrE t l y.1 != 0) = false›
     have w := rd_nth hy.get e hp i2b; rw [k1, hr] at w; exact Side.mk w
    ·rw [nt_eq]; exact Sc.of ⟨by show _ <= y.1.tk + 1; omega, by show y.1.tk + 1 <= _; omega⟩
    ·exact Sc.of ⟨by omega, by omega⟩
    ·have e : rdE t l y.1 = 0 := by rw [rdE_t hr]; exact bne_eq_false_iff_eq.1 ‹(mrE t l y.1 != 0) = false›
     rw [<- k2]; exact Side.mk ⟨hm.g, (rd_ok hm.g i1 (by decide) e hp (by omega)).1⟩
    ·rename_i q; have e : rdE t l y.1 = 0 := by rw [rdE_t hr]; exact bne_eq_false_iff_eq.1 ‹(mrE t l y.1 != 0) = false›
     have q := of_decide_eq_true q; rw [<- k2] at q
     have w := tk_big hp e q; rw [<- i3, <- i4, w.1, w.2, k2]; exact .mk [] [] _ rfl (.le (.refl _)) (.ofEq (by kernel_rfl)) (by kernel_rfl)
    ·rename_i q; have e : rdE t l y.1 = 0 := by rw [rdE_t hr]; exact bne_eq_false_iff_eq.1 ‹(mrE t l y.1 != 0) = false›
     have q := of_decide_eq_false q; rw [<- k2] at q
     have w := tk_step hp e q; rw [k1] at w
     have v := rd_ok hm.g i1 (by decide) e hp (by omega)
     rw [k1] at v
     refine ⟨({ ntS t l y.1 (mrN t l y.1) y.1.si (1) with si := 0, tk := y.1.tk + 1 }, y.2 - 1), ⟨by rw [<- k2]; exact v.1, by rw [<- k2]; show (rdS t l y.1 y.2).tk + (y.2 - 1) <= _; rw [v.2]; omega, by show y.2 - 1 <= _; omega, by rw [<- k2]; show tkS t l (rdS t l y.1 y.2) (y.2 - 1) = _; rw [<- w.1]; exact i3, by rw [<- k2]; show tkE t l (rdS t l y.1 y.2) (y.2 - 1) = _; rw [<- w.2]; exact i4⟩, by show (y.2 - 1).toNat < y.2.toNat; omega, .le ⟨by kernel_rfl, HLe.ofEq (by kernel_rfl), ⟨.refl _, .refl _, trivial⟩⟩⟩
   ·have hxs : decide (0 < y.1.si) = true -> False := fun q => by rw [decide_eq_false hsi] at q; cases q
    obtain ⟨k1, k2⟩ := rdS_2 (t := t) (l := l) (n := y.2) hr hsi
    have kb := rdK_bd (t := t) (l := l) (s := y.1) hp
    rw [k1] at kb
    repeat' (first
     | ((with_reducible refine (?_ : Alt _ _)); first | (with_reducible (apply altM (ks := [0, 1, 2, 3, 4]) (m := 0); apply And.intro; apply Sc.of; apply (c131 hX t l y.1 hy))) | (with_reducible (apply altM (ks := [0, 1, 2, 3, 4]) (m := 0); apply And.intro; apply Sc.of; apply (c132 hX t l y.1 hy))) | (with_reducible (apply altM (ks := [0, 1, 2, 3, 4]) (m := 0); apply And.intro; apply Sc.of; apply (c133 hX t l y.1 hy))) | (with_reducible (apply altM (ks := [0, 1, 2, 3, 4]) (m := 0); apply And.intro; apply Sc.of; apply (c134 hX t l y.1 hy (mrN t l y.1) y.1.si (min y.2 (stdQ t l y.1)) ?_))) | (with_reducible (apply altM (ks := [0, 1, 2, 3, 4]) (m := 0); apply And.intro; apply Sc.of; apply (c56 hX t l { ntS t l y.1 (mrN t l y.1) y.1.si (min y.2 (stdQ t l y.1)) with si := 0, tk := y.1.tk + min y.2 (stdQ t l y.1) } ?_))) | (with_reducible refine Alt.one ?_))
     | ((with_reducible refine Ar.go ?_); first | exact AllLe.refl _ | (repeat' (first | exact trivial | apply Le.aggs | apply Le.tups | apply Le.fns | exact Le.refl _ | refine ⟨?_, ?_⟩)))
     | with_reducible refine Ac.go ?_
     | ((with_reducible refine Rf.go ?_); rfl)
     | with_reducible refine nodupB_spec ?_
     | ((with_reducible refine Kf.go ?_); kernel_rfl)
     | ((with_reducible refine Lo.go ?_); first | exact LeOks.ofEq (by kernel_rfl) | (repeat' first | exact trivial | refine ⟨.refl _, ?_⟩))
     | ((fail_if_success with_reducible refine Stop.go ?_); (first | exact (hxp ‹_›).elim | exact (hxr ‹_›).elim | exact (hxs ‹_›).elim | rw [beqvv (y.1.tr.length + 1)] | rw [beqvv (y.1.zs.length + 1)] | rw [beqvv (y.1.pc.length + 1)] | rw [beqvv y.1.tr.length] | rw [beqvv y.1.zs.length] | rw [beqvv y.1.pc.length] | rw [beqvv (2 * y.1.zs.length)] | with_reducible refine And.intro ?_ ?_ | with_reducible refine Cut.go ?_ | (with_reducible (refine impI ?_; intro _)) | ((with_reducible refine propI ?_); conv => whnf))))
    all_goals try exact nbZ
    ·rename_i _ e; have e := bne_iff_ne.1 e
     have w := tk_err hp (by rw [rdE_t hr]; exact e); rw [<- i3, <- i4, w.1, w.2, rdE_t hr]; exact .mk [] [] _ rfl (.le (.refl _)) (.ofEq (by kernel_rfl)) (by kernel_rfl)
    ·have e : rdE t l y.1 = 0 := by rw [rdE_t hr]; exact bne_eq_false_iff_eq.1 ‹(mrE t l y.1 != 0) = false›
     have w := rd_nth hy.get e hp i2b; rw [k1, hr] at w; exact Side.mk w
    ·rw [nt_eq]; exact Sc.of ⟨by show _ <= y.1.tk + min y.2 (stdQ t l y.1); omega, by show y.1.tk + min y.2 (stdQ t l y.1) <= _; omega⟩
    ·exact Sc.of ⟨by omega, by omega⟩
    ·have e : rdE t l y.1 = 0 := by rw [rdE_t hr]; exact bne_eq_false_iff_eq.1 ‹(mrE t l y.1 != 0) = false›
     rw [<- k2]; exact Side.mk ⟨hm.g, (rd_ok hm.g i1 (by decide) e hp (by omega)).1⟩
    ·rename_i q; have e : rdE t l y.1 = 0 := by rw [rdE_t hr]; exact bne_eq_false_iff_eq.1 ‹(mrE t l y.1 != 0) = false›
     have q := of_decide_eq_true q; rw [<- k2] at q
     have w := tk_big hp e q; rw [<- i3, <- i4, w.1, w.2, k2]; exact .mk [] [] _ rfl (.le (.refl _)) (.ofEq (by kernel_rfl)) (by kernel_rfl)
    ·rename_i q; have e : rdE t l y.1 = 0 := by rw [rdE_t hr]; exact bne_eq_false_iff_eq.1 ‹(mrE t l y.1 != 0) = false›
     have q := of_decide_eq_false q; rw [<- k2] at q
     have w := tk_step hp e q; rw [k1] at w
     have v := rd_ok hm.g i1 (by decide) e hp (by omega)
     rw [k1] at v
     refine ⟨({ ntS t l y.1 (mrN t l y.1) y.1.si (min y.2 (stdQ t l y.1)) with si := 0, tk := y.1.tk + min y.2 (stdQ t l y.1) }, y.2 - min y.2 (stdQ t l y.1)), ⟨by rw [<- k2]; exact v.1, by rw [<- k2]; show (rdS t l y.1 y.2).tk + (y.2 - min y.2 (stdQ t l y.1)) <= _; rw [v.2]; omega, by show y.2 - min y.2 (stdQ t l y.1) <= _; omega, by rw [<- k2]; show tkS t l (rdS t l y.1 y.2) (y.2 - min y.2 (stdQ t l y.1)) = _; rw [<- w.1]; exact i3, by rw [<- k2]; show tkE t l (rdS t l y.1 y.2) (y.2 - min y.2 (stdQ t l y.1)) = _; rw [<- w.2]; exact i4⟩, by show (y.2 - min y.2 (stdQ t l y.1)).toNat < y.2.toNat; omega, .le ⟨by kernel_rfl, HLe.ofEq (by kernel_rfl), ⟨.refl _, .refl _, trivial⟩⟩⟩
  | false =>
   have hxr : rnB y.1 = true -> False := fun q => by rw [hr] at q; cases q
   obtain ⟨k1, k2⟩ := rdS_3 (t := t) (l := l) (n := y.2) hr
   have e := rdE_f (t := t) (l := l) hr
   repeat' (first
    | ((with_reducible refine (?_ : Alt _ _)); first | (with_reducible (apply altM (ks := [0, 1, 2, 3, 4]) (m := 0); apply And.intro; apply Sc.of; apply (c131 hX t l y.1 hy))) | (with_reducible (apply altM (ks := [0, 1, 2, 3, 4]) (m := 0); apply And.intro; apply Sc.of; apply (c134 hX t l y.1 hy 0 0 (y.2) ?_))) | (with_reducible (apply altM (ks := [0, 1, 2, 3, 4]) (m := 0); apply And.intro; apply Sc.of; apply (c56 hX t l { ntS t l y.1 0 0 (y.2) with si := 0, tk := y.1.tk + y.2 } ?_))) | (with_reducible refine Alt.one ?_))
    | ((with_reducible refine Ar.go ?_); first | exact AllLe.refl _ | (repeat' (first | exact trivial | apply Le.aggs | apply Le.tups | apply Le.fns | exact Le.refl _ | refine ⟨?_, ?_⟩)))
    | with_reducible refine Ac.go ?_
    | ((with_reducible refine Rf.go ?_); rfl)
    | with_reducible refine nodupB_spec ?_
    | ((with_reducible refine Kf.go ?_); kernel_rfl)
    | ((with_reducible refine Lo.go ?_); first | exact LeOks.ofEq (by kernel_rfl) | (repeat' first | exact trivial | refine ⟨.refl _, ?_⟩))
    | ((fail_if_success with_reducible refine Stop.go ?_); (first | exact (hxp ‹_›).elim | exact (hxr ‹_›).elim | rw [beqvv (y.1.tr.length + 1)] | rw [beqvv (y.1.zs.length + 1)] | rw [beqvv (y.1.pc.length + 1)] | rw [beqvv y.1.tr.length] | rw [beqvv y.1.zs.length] | rw [beqvv y.1.pc.length] | rw [beqvv (2 * y.1.zs.length)] | with_reducible refine And.intro ?_ ?_ | with_reducible refine Cut.go ?_ | (with_reducible (refine impI ?_; intro _)) | ((with_reducible refine propI ?_); conv => whnf))))
   all_goals try exact nbZ
   ·skip
    have w := rd_nth hy.get e hp i2b; rw [k1, hr] at w; exact Side.mk w
   ·rw [nt_eq]; exact Sc.of ⟨by show _ <= y.1.tk + y.2; omega, by show y.1.tk + y.2 <= _; omega⟩
   ·exact Sc.of ⟨by omega, by omega⟩
   ·skip
    rw [<- k2]; exact Side.mk ⟨hm.g, (rd_ok hm.g i1 (by decide) e hp (by omega)).1⟩
   ·rename_i q
    have q := of_decide_eq_true q; rw [<- k2] at q
    have w := tk_big hp e q; rw [<- i3, <- i4, w.1, w.2, k2]; exact .mk [] [] _ rfl (.le (.refl _)) (.ofEq (by kernel_rfl)) (by kernel_rfl)
   ·rename_i q
    have q := of_decide_eq_false q; rw [<- k2] at q
    have w := tk_step hp e q; rw [k1] at w
    have v := rd_ok hm.g i1 (by decide) e hp (by omega)
    rw [k1] at v
    refine ⟨({ ntS t l y.1 0 0 (y.2) with si := 0, tk := y.1.tk + y.2 }, y.2 - y.2), ⟨by rw [<- k2]; exact v.1, by rw [<- k2]; show (rdS t l y.1 y.2).tk + (y.2 - y.2) <= _; rw [v.2]; omega, by show y.2 - y.2 <= _; omega, by rw [<- k2]; show tkS t l (rdS t l y.1 y.2) (y.2 - y.2) = _; rw [<- w.1]; exact i3, by rw [<- k2]; show tkE t l (rdS t l y.1 y.2) (y.2 - y.2) = _; rw [<- w.2]; exact i4⟩, by show (y.2 - y.2).toNat < y.2.toNat; omega, .le ⟨by kernel_rfl, HLe.ofEq (by kernel_rfl), ⟨.refl _, .refl _, trivial⟩⟩⟩
 ·have hxp : decide (0 < y.2) = true -> False := fun q => by rw [decide_eq_false hp] at q; cases q
  repeat' (first
   | ((with_reducible refine (?_ : Alt _ _)); first | fail | (with_reducible refine Alt.one ?_))
   | ((with_reducible refine Ar.go ?_); first | exact AllLe.refl _ | (repeat' (first | exact trivial | apply Le.aggs | apply Le.tups | apply Le.fns | exact Le.refl _ | refine ⟨?_, ?_⟩)))
   | with_reducible refine Ac.go ?_
   | ((with_reducible refine Rf.go ?_); rfl)
   | with_reducible refine nodupB_spec ?_
   | ((with_reducible refine Kf.go ?_); kernel_rfl)
   | ((with_reducible refine Lo.go ?_); first | exact LeOks.ofEq (by kernel_rfl) | (repeat' first | exact trivial | refine ⟨.refl _, ?_⟩))
   | ((fail_if_success with_reducible refine Stop.go ?_); (first | exact (hxp ‹_›).elim | with_reducible refine And.intro ?_ ?_ | with_reducible refine Cut.go ?_ | (with_reducible (refine impI ?_; intro _)) | ((with_reducible refine propI ?_); conv => whnf))))
  all_goals try exact nbZ
  have w := tk_end (t := t) (l := l) (s := y.1) hp; rw [<- i3, <- i4, w.1, w.2]; exact .mk [] [] _ rfl (.le (.refl _)) (.ofEq (by kernel_rfl)) (by kernel_rfl)
end
open Go.Proofs
theorem mx_bad {t : Trf} {s : Mc} {n e : Int} (h : mxH t s n = e) (h0 : e ≠ 0) : mxE t s n = e /\ mxU t s n = s := by
 have w : mxE t s n = e := by unfold mxE; rw [h, decide_eq_false h0]; rfl
 exact ⟨w, by unfold mxU; rw [w, decide_eq_false h0]; rfl⟩
theorem mx_full {t : Trf} {s : Mc} {n : Int} (h : mxH t s n = 0) (c : 20 <= s.ex.getD n.toNat 0) : mxE t s n = 16 /\ mxU t s n = s := by
 have w : mxE t s n = 16 := by unfold mxE; rw [h, decide_eq_true c]; rfl
 exact ⟨w, by unfold mxU; rw [w]; rfl⟩
theorem mx_add {t : Trf} {s : Mc} {n : Int} (h : mxH t s n = 0) (c : ¬ 20 <= s.ex.getD n.toNat 0) : mxE t s n = 0 /\ mxU t s n = { s with ex := s.ex.set n.toNat (s.ex.getD n.toNat 0 + 1) } := by
 have w : mxE t s n = 0 := by unfold mxE; rw [h, decide_eq_false c]; rfl
 exact ⟨w, by unfold mxU; rw [w]; rfl⟩
theorem mxH_0 {t : Trf} {s : Mc} {n : Int} (h : mxH t s n = 0) : n < t.extras.length /\ s.ps ≠ 0 := by
 unfold mxH at h
 have z := firstS_zero h
 have z0 := isOk_0 (b := decide (n < t.extras.length)) (e := 6) (z _ (by simp)) (by decide)
 have z1 := isOk_0 (b := s.ps != 0) (e := 22) (z _ (by simp)) (by decide)
 exact ⟨of_decide_eq_true z0, bne_iff_ne.1 z1⟩
theorem mxH_free {t : Trf} {s : Mc} {n : Int} (h : s.ps = 0) : mxH t s n ≠ 0 := fun q => (mxH_0 q).2 h
theorem getD_set {l : List Int} {i j : Nat} {v : Int} : (l.set i v).getD j 0 = if i = j /\ i < l.length then v else l.getD j 0 := by
 simp only [List.getD_eq_getElem?_getD, List.getElem?_set]
 by_cases h : i = j
 ·subst h
  by_cases q : i < l.length
  ·simp [q]
  ·simp [q]
 ·simp [h]
theorem mx_ok {t : Trf} {s : Mc} {k n : Int} (h : MOk t k s) (hn : 0 <= n) : MOk t k (mxU t s n) := by
 by_cases q : mxH t s n = 0
 ·by_cases c : 20 <= s.ex.getD n.toNat 0
  ·rw [(mx_full q c).2]; exact h
  ·rw [(mx_add q c).2]
   refine ⟨h.tk, h.si, h.pu, h.pa, h.ps, h.zn, h.st, fun h0 => by show (s.ex.set _ _).length = _; rw [List.length_set]; exact h.exl h0, fun h0 => absurd h0 (mxH_0 q).2, fun j => ?_, h.tr, h.zs, h.pc⟩
   show 0 <= (s.ex.set _ _).getD j 0 /\ (s.ex.set _ _).getD j 0 <= 20
   rw [getD_set]
   have a := h.ex j
   have b := h.ex n.toNat
   split <;> omega
 ·rw [(mx_bad rfl q).2]; exact h
theorem ex_put {T : Nat} {l : List Int} {i v : Nat} {x : Int} (hi : i < l.length) : LeO (.list T 1 l.length (putF i 0 [.int .i64 x] (fun a _ => .int .i64 (l.getD a 0))) v) (.list T 1 (l.set i x).length (fun a _ => .int .i64 ((l.set i x).getD a 0)) v) := by
 rw [List.length_set]
 refine .list fun a j ha hj => ?_
 obtain rfl : j = 0 := by omega
 refine .ofEq ?_
 rw [getD_set]
 unfold putF
 by_cases h : a = i
 ·subst h; rw [if_pos ⟨rfl, Nat.le_refl _, by simp⟩, if_pos ⟨rfl, hi⟩]; rfl
 ·rw [if_neg (fun q => h q.1), if_neg (fun q => h q.1.symm)]
theorem go_bd {a b : Int} (h : goB a b = true) : 0 <= b /\ b <= 3 := by
 unfold goB at h
 by_cases h0 : a = 0
 ·rw [show (a == 0) = true by simp [h0]] at h
  have := eq_of_beq (show (b == 1) = true from h); omega
 ·rw [show (a == 0) = false by simp [h0]] at h
  by_cases h1 : a = 1
  ·rw [show (a == 1) = true by simp [h1]] at h
   by_cases c : b = 2
   ·omega
   ·rw [show (b == 2) = false by simp [c]] at h
    have := eq_of_beq (show (b == 3) = true from h); omega
  ·rw [show (a == 1) = false by simp [h1]] at h
   by_cases h2 : a = 2
   ·rw [show (a == 2) = true by simp [h2]] at h
    by_cases c : b = 1
    ·omega
    ·rw [show (b == 1) = false by simp [c]] at h
     have := eq_of_beq (show (b == 3) = true from h); omega
   ·rw [show (a == 2) = false by simp [h2]] at h
    by_cases c : b = 1
    ·omega
    ·rw [show (b == 1) = false by simp [c]] at h
     have := eq_of_beq (show (b == 0) = true from h); omega
theorem po_no {t : Trf} {l : Log} {s : Mc} {i p : Int} (h : goB s.ps p = false) : poE t l s i p = 22 /\ poS t l s i p = s := by
 unfold poE poS; rw [h]; exact ⟨rfl, rfl⟩
theorem po_ch {t : Trf} {l : Log} {s : Mc} {i p : Int} (h : goB s.ps p = true) (e : chE_ t l s ≠ 0) : poE t l s i p = chE_ t l s /\ poS t l s i p = chS t l s := by
 unfold poE poS; rw [h, decide_eq_false e]; exact ⟨rfl, rfl⟩
theorem po_bgE {t : Trf} {l : Log} {s : Mc} {i p : Int} (h : goB s.ps p = true) (e : chE_ t l s = 0) (h0 : s.ps = 0) (r : mrE t l (chS t l s) ≠ 0) : poE t l s i p = mrE t l (chS t l s) /\ poS t l s i p = chS t l s := by
 unfold poE poS; rw [h, e, decide_eq_false r, show (s.ps == 0) = true by simp [h0]]; exact ⟨rfl, rfl⟩
theorem po_bg {t : Trf} {l : Log} {s : Mc} {i p : Int} (h : goB s.ps p = true) (e : chE_ t l s = 0) (h0 : s.ps = 0) (r : mrE t l (chS t l s) = 0) : poE t l s i p = 0 /\ poS t l s i p = { bgS t l (chS t l s) i with ps := p } := by
 unfold poE poS; rw [h, e, r, show (s.ps == 0) = true by simp [h0]]; exact ⟨rfl, rfl⟩
theorem po_ed {t : Trf} {l : Log} {s : Mc} {i p : Int} (h : goB s.ps p = true) (e : chE_ t l s = 0) (h0 : s.ps ≠ 0) (hp : p = 0) : poE t l s i p = 0 /\ poS t l s i p = { edS t l (chS t l s) i with ps := p } := by
 unfold poE poS; rw [h, e, show (s.ps == 0) = false by simp [h0], show (p == 0) = true by simp [hp]]; exact ⟨rfl, rfl⟩
theorem po_mv {t : Trf} {l : Log} {s : Mc} {i p : Int} (h : goB s.ps p = true) (e : chE_ t l s = 0) (h0 : s.ps ≠ 0) (hp : p ≠ 0) : poE t l s i p = 0 /\ poS t l s i p = { chS t l s with ps := p } := by
 unfold poE poS; rw [h, e, show (s.ps == 0) = false by simp [h0], show (p == 0) = false by simp [hp]]; exact ⟨rfl, rfl⟩
theorem go_end {a b : Int} (h : goB a b = true) (ha : a ≠ 0) (hb : b = 0) : a ≠ 1 /\ a ≠ 2 := by
 subst hb
 unfold goB at h
 rw [show (a == 0) = false by simp [ha]] at h
 by_cases h1 : a = 1
 ·rw [show (a == 1) = true by simp [h1]] at h; cases h
 ·by_cases h2 : a = 2
  ·rw [show (a == 1) = false by simp [h1], show (a == 2) = true by simp [h2]] at h; cases h
  ·exact ⟨h1, h2⟩
theorem si_ok {t : Trf} {l : Log} {s : Mc} (h : Hm t l s) : Hm t l { s with si := 0 } := by
 have m := h.m
 have a := m.si; have b := m.pa; have c := m.pu; have d := m.tk
 exact ⟨h.g, ⟨m.tk, by show (0 : Int) <= 0 /\ 0 <= s.pu; omega, m.pu, by show 0 <= s.pa /\ s.pa <= 1000000000 * (s.pu - 0) + 100000000000 * s.tk; omega, m.ps, m.zn, m.st, m.exl, m.ex0, m.ex, m.tr, m.zs, m.pc⟩⟩
theorem rep_at0 (n j : Nat) : (List.replicate n (0 : Int)).getD j 0 = 0 := by
 rw [List.getD_eq_getElem?_getD]
 cases e : (List.replicate n (0 : Int))[j]? with
 | none => rfl
 | some v => exact List.eq_of_mem_replicate (List.mem_of_getElem? e)
theorem po_ok {t : Trf} {l : Log} {s : Mc} {k i p : Int} (g : Gd t l) (h : MOk t k s) (hk : k <= 200) : MOk t (k + 1) (poS t l s i p) := by
 have c := ch_ok g h (by omega)
 have sm := ch_same t l s
 cases q : goB s.ps p with
 | false => rw [(po_no (t := t) (l := l) (i := i) q).2]; exact h.mono (by omega)
 | true =>
  by_cases e : chE_ t l s = 0
  ·have hp := go_bd q
   by_cases h0 : s.ps = 0
   ·by_cases r : mrE t l (chS t l s) = 0
    ·rw [(po_bg q e h0 r).2]
     have hR := mr_rule g.trf r
     have st := hR.st
     have p1 := go_bd q
     have pp : p ≠ 0 := by
      unfold goB at q
      rw [show (s.ps == 0) = true by simp [h0]] at q
      have := eq_of_beq (show (p == 1) = true from q); omega
     have b1 := c.tk; have b2 := c.si; have b3 := c.pu; have zs := h.zs
     refine ⟨c.tk, c.si, c.pu, ?_, hp, c.zn, st, fun _ => List.length_replicate, fun h => absurd h pp, fun j => by show 0 <= (List.replicate _ (0 : Int)).getD j 0 /\ (List.replicate _ (0 : Int)).getD j 0 <= 20; rw [rep_at0]; omega, c.tr, ?_, c.pc⟩
     ·show (0 : Int) <= 0 /\ 0 <= 1000000000 * ((chS t l s).pu - (chS t l s).si) + 100000000000 * (chS t l s).tk
      omega
     ·show (((chS t l s).zs ++ [_]).length : Int) <= k + 1
      rw [sm.2.2.2.2.2.2.2.1]; simp only [List.length_append, List.length_cons, List.length_nil]; omega
    ·rw [(po_bgE (i := i) q e h0 r).2]; exact c
   ·by_cases hz : p = 0
    ·rw [(po_ed q e h0 hz).2]
     have tr := h.tr
     refine ⟨c.tk, c.si, c.pu, c.pa, hp, c.zn, c.st, fun h => absurd hz h, fun _ => rfl, fun j => by show 0 <= ([] : List Int).getD j 0 /\ ([] : List Int).getD j 0 <= 20; simp, ?_, c.zs, c.pc⟩
     show (((chS t l s).tr ++ [_]).length : Int) <= k + 1
     rw [sm.2.2.2.2.2.2.1]; simp only [List.length_append, List.length_cons, List.length_nil]; omega
    ·rw [(po_mv (i := i) q e h0 hz).2]
     exact ⟨c.tk, c.si, c.pu, c.pa, hp, c.zn, c.st, fun _ => c.exl (by rw [sm.1]; exact h0), fun h => absurd h hz, c.ex, c.tr, c.zs, c.pc⟩
  ·rw [(po_ch (i := i) q e).2]; exact c
open Go.Proofs Go.RowKit
def nxL (p : Int) : List Int := bif p == 0 then [1] else bif p == 1 then [2, 3] else bif p == 2 then [1, 3] else [1, 0]
theorem nx_at {p : Int} (h : 0 <= p /\ p <= 3) : [iRow [1], iRow [2, 3], iRow [1, 3], iRow [1, 0]].getD p.toNat .any = iRow (nxL p) := by
 rcases (show p = 0 \/ p = 1 \/ p = 2 \/ p = 3 by omega) with rfl | rfl | rfl | rfl <;> rfl
theorem nx_part {s : Int} (h : 0 <= s /\ s <= 3) : partAV ⟨.slice 3, 1, 24, [.slice none 0 0], false⟩ (fun j => (fun j => [iRow [1], iRow [2, 3], iRow [1, 3], iRow [1, 0]].getD j .any) (0 + (s.toNat * (TI.size ⟨.slice 3, 1, 24, [.slice none 0 0], false⟩) + j))) 0 = iRow (nxL s) := by
 rw [<- nx_at h]
 show [iRow [1], iRow [2, 3], iRow [1, 3], iRow [1, 0]].getD (0 + (s.toNat * 1 + 0)) .any = _
 rw [Nat.mul_one, Nat.add_zero, Nat.zero_add]
theorem nx_go {a b : Int} (h : 0 <= a /\ a <= 3) : hasI (nxL a) (nxL a).length b = goB a b := by
 have r1 : List.range 1 = [0] := rfl
 have r2 : List.range 2 = [0, 1] := rfl
 rcases (show a = 0 \/ a = 1 \/ a = 2 \/ a = 3 by omega) with rfl | rfl | rfl | rfl
 ·by_cases c : b = 1
  ·subst c; unfold hasI; rfl
  ·have c2 : ¬ 1 = b := fun e => c e.symm
   simp [nxL, goB, hasI, r1, c, c2]
 ·by_cases c : b = 2
  ·subst c; unfold hasI; rfl
  ·by_cases d : b = 3
   ·subst d; unfold hasI; rfl
   ·have c2 : ¬ 2 = b := fun e => c e.symm
    have d2 : ¬ 3 = b := fun e => d e.symm
    simp [nxL, goB, hasI, r2, c, c2, d, d2]
 ·by_cases c : b = 1
  ·subst c; unfold hasI; rfl
  ·by_cases d : b = 3
   ·subst d; unfold hasI; rfl
   ·have c2 : ¬ 1 = b := fun e => c e.symm
    have d2 : ¬ 3 = b := fun e => d e.symm
    simp [nxL, goB, hasI, r2, c, c2, d, d2]
 ·by_cases c : b = 1
  ·subst c; unfold hasI; rfl
  ·by_cases d : b = 0
   ·subst d; unfold hasI; rfl
   ·have c2 : ¬ 1 = b := fun e => c e.symm
    have d2 : ¬ 0 = b := fun e => d e.symm
    simp [nxL, goB, hasI, r2, c, c2, d, d2]
theorem nx_len {p : Int} : (nxL p).length <= 1000 := by
 unfold nxL
 cases p == 0 <;> cases p == 1 <;> cases p == 2 <;> simp
theorem tr_push {l : List Mtp} {x : Mtp} {c : List AV} {f : Nat -> Nat -> AV} {n v : Nat} (hc : c = mtpC x) (hf : ∀ j, j < 8 -> f 0 j = tbl c j) (hn : n = l.length + 1) (hv : v = l.length + 1 + 1) :
  LeO (.list 67 8 n (joinF l.length (fun i j => tbl (mtpC (l.getD i mtp0)) j) f) v) (trO (l ++ [x])) := by
 subst hc hn hv
 have e : (l ++ [x]).length = l.length + 1 := by simp
 show LeO _ (.list 67 8 (l ++ [x]).length _ ((l ++ [x]).length + 1))
 rw [e]
 refine .list fun i j hi hj => .ofEq ?_
 unfold joinF
 by_cases h : i < l.length
 ·rw [if_pos h]; simp [List.getD_eq_getElem?_getD, List.getElem?_append_left h]
 ·obtain rfl : i = l.length := by omega
  rw [if_neg h, Nat.sub_self, hf j hj]; simp [List.getD_eq_getElem?_getD]
theorem zs_push {l : List Int} {x : Int} {f : Nat -> Nat -> AV} {n v : Nat} (hf : f 0 0 = .int .i64 x) (hn : n = l.length + 1) (hv : v = l.length + 1 + 1) :
  LeO (.list 3 1 n (joinF l.length (fun i _ => .int .i64 (l.getD i 0)) f) v) (zsO (l ++ [x])) := by
 subst hn hv
 have e : (l ++ [x]).length = l.length + 1 := by simp
 show LeO _ (.list 3 1 (l ++ [x]).length _ ((l ++ [x]).length + 1))
 rw [e]
 refine .list fun i j hi hj => .ofEq ?_
 obtain rfl : j = 0 := by omega
 unfold joinF
 by_cases h : i < l.length
 ·rw [if_pos h]; simp [List.getD_eq_getElem?_getD, List.getElem?_append_left h]
 ·obtain rfl : i = l.length := by omega
  rw [if_neg h, Nat.sub_self, hf]; simp [List.getD_eq_getElem?_getD]
theorem ex_new {n m v w : Nat} {F : Nat -> Nat -> AV} (hn : n = m) (hv : v = w) (hF : ∀ i, F i 0 = .int .i64 0) : LeO (.list 3 1 n F v) (mxO (List.replicate m 0) w) := by
 subst hn hv
 show LeO _ (.list 3 1 (List.replicate n 0).length _ v)
 rw [List.length_replicate]
 refine .list fun i j hi hj => .ofEq ?_
 obtain rfl : j = 0 := by omega
 rw [hF, rep_at0]
section
variable {W0 : World} {G : Nat -> Option AV} (hX : (Xc W0 G).Good)
include hX
theorem c89r (t : Trf) (l : Log) (s : Mc) (hs : Side (Hm t l s)) (n : Int) (h0 : Side (s.ps = 0)) : Mut (Xc W0 G) 89 [.ptr 0 0, .int .i64 n] (mcO t l s) (.int .i64 (mxE t s n)) (mcO t l (mxU t s n)) := by
 have hm := hs.get
 have nn := hm.nums
 obtain ⟨n1, n2, n3, n4, n5, n6, n7, n8, n9⟩ := nn
 have mk_ := hm.m
 have h0 := h0.get
 have w := mx_bad (t := t) (s := s) (n := n) rfl (mxH_free h0)
 have hx : (firstS [bif decide (n < t.extras.length) then 0 else 6, bif s.ps != 0 then 0 else 22] != 0) = false -> False := fun q => by have q := bne_eq_false_iff_eq.1 q; exact mxH_free (t := t) (n := n) h0 (by unfold mxH isOk; exact q)
 refine mut_of' hX (fnI Tryz.f89) rfl ?_
 repeat' (first
  | (refine Ax.go ?_; with_reducible first | apply callAlt (c49 hX _ _) | apply callAlt (c48_2 hX _ _) | apply Alt.one)
  | ((with_reducible refine Ar.go ?_); first | exact ⟨le_slc2 rfl rfl, trivial⟩ | exact AllLe.refl _ | (repeat' (first | exact trivial | apply Le.aggs | apply Le.tups | apply Le.fns | exact Le.refl _ | refine ⟨?_, ?_⟩)))
  | exact Cl.go
  | exact Ce.go
  | ((fail_if_success refine Stop.go ?_); (first | exact (hx ‹_›).elim | (with_reducible first | apply And.intro | apply Cut.go | (refine impI ?_; intro _)) | (refine propI ?_; conv => whnf))))
 all_goals try exact nbZ
 all_goals try (exact (hx ‹_›).elim)
 ·rw [w.1, w.2]; exact .mk [] [] _ rfl (.le (.intI (by unfold mxH; rfl))) (.ofEq (by kernel_rfl)) (by kernel_rfl)
theorem c89t (t : Trf) (l : Log) (s : Mc) (hs : Side (Hm t l s)) (n : Int) (h0 : Side (s.ps ≠ 0)) (hn : Side (0 <= n)) : Mut (Xc W0 G) 89 [.ptr 0 0, .int .i64 n] (mcT t l s) (.int .i64 (mxE t s n)) (mcT t l (mxU t s n)) := by
 have hm := hs.get
 have nn := hm.nums
 obtain ⟨n1, n2, n3, n4, n5, n6, n7, n8, n9⟩ := nn
 have mk_ := hm.m
 have h0 := h0.get
 have hn := hn.get
 refine mut_of' hX (fnI Tryz.f89) rfl ?_
 repeat' (first
  | (refine Ax.go ?_; with_reducible first | apply callAlt (c49 hX _ _) | apply callAlt (c48_2 hX _ _) | apply Alt.one)
  | ((with_reducible refine Ar.go ?_); first | exact ⟨le_slc2 rfl rfl, trivial⟩ | exact AllLe.refl _ | (repeat' (first | exact trivial | apply Le.aggs | apply Le.tups | apply Le.fns | exact Le.refl _ | refine ⟨?_, ?_⟩)))
  | exact Cl.go
  | exact Ce.go
  | ((fail_if_success refine Stop.go ?_); (first | rw [beqvv (s.tr.length + 1)] | rw [beqvv (s.zs.length + 1)] | rw [beqvv (s.pc.length + 1)] | rw [beqvv s.tr.length] | rw [beqvv s.zs.length] | rw [beqvv s.pc.length] | rw [beqvv (2 * s.zs.length)] | (with_reducible first | apply And.intro | apply Cut.go | (refine impI ?_; intro _)) | (refine propI ?_; conv => whnf))))
 all_goals try exact nbZ
 ·rename_i q; have q := bne_iff_ne.1 q; have w := mx_bad (t := t) (s := s) (n := n) (by unfold mxH isOk; rfl) q; rw [w.1, w.2]; exact .mk [] [] _ rfl (.le (.refl _)) (.ofEq (by kernel_rfl)) (by kernel_rfl)
 all_goals (have q0 : mxH t s n = 0 := (by unfold mxH isOk; exact bne_eq_false_iff_eq.1 ‹(firstS _ != 0) = false›); have q1 := mxH_0 q0; have el := mk_.exl h0)
 all_goals try (exact Sc.of ⟨by omega, by omega⟩)
 all_goals try (exact Sc.of (by omega : n.toNat < s.ex.length))
 ·rename_i q; have q := of_decide_eq_true q; have w := mx_full q0 q; rw [w.1, w.2]; exact .mk [] [] _ rfl (.le (.refl _)) (.ofEq (by kernel_rfl)) (by kernel_rfl)
 ·have w := mk_.ex n.toNat; exact Sc.of ⟨by omega, by omega⟩
 ·rename_i q; have q := of_decide_eq_false q; have w := mx_add q0 q; rw [w.1, w.2]
  exact .mk [] [] _ rfl (.le (.refl _)) ⟨.le (.refl _), .le (ex_put (by omega)), .le (.refl _), .le (.refl _), .le (.refl _), trivial⟩ (by kernel_rfl)
theorem c89 (t : Trf) (l : Log) (s : Mc) (hs : Side (Hm t l s)) (n : Int) (hn : Side (0 <= n)) : Mut (Xc W0 G) 89 [.ptr 0 0, .int .i64 n] (mcO t l s) (.int .i64 (mxE t s n)) (mcO t l (mxU t s n)) := by
 have hps : (mxU t s n).ps = s.ps := by unfold mxU; cases decide (mxE t s n = 0) <;> rfl
 by_cases h : s.ps = 0
 ·exact c89r hX t l s hs n (Side.mk h)
 ·rw [mcO_t h, mcO_t (by rw [hps]; exact h)]; exact c89t hX t l s hs n (Side.mk h) hn
end
section
variable {W0 : World} (hX : (Xc W0 Gt).Good)
include hX
set_option maxHeartbeats 400000 in
theorem c87m (t : Trf) (l : Log) (s : Mc) (hs : Side (Hm t l s)) (i p : Int) (h0 : Side (s.ps ≠ 0 /\ p ≠ 0)) : Mut (Xc W0 Gt) 87 [.ptr 0 0, .int .i64 i, .int .i64 p] (mcT t l s) (.int .i64 (poE t l s i p)) (mcT t l (poS t l s i p)) := by
 have hm := hs.get
 have nn := hm.nums
 obtain ⟨n1, n2, n3, n4, n5, n6, n7, n8, n9⟩ := nn
 have mk_ := hm.m
 have h0 := h0.get
 have hnx := nx_part mk_.ps
 have ps_ := mk_.ps
 have hcon := c135 hX (nxL s.ps) p (Side.mk nx_len)
 rw [nx_go ps_] at hcon
 have sm := ch_same t l s
 have hch := c88 hX t l s hs
 rw [mcO_t h0.1, mcO_t (show (chS t l s).ps ≠ 0 by rw [sm.1]; exact h0.1)] at hch
 have hx1 : ((chS t l s).ps == 0) = true -> False := fun q => by rw [sm.1] at q; exact h0.1 (eq_of_beq q)
 have hx2 : (p == 0) = true -> False := fun q => h0.2 (eq_of_beq q)
 refine mut_of' hX (fnI Tryz.f87) rfl ?_
 repeat' (first
  | (refine Ax.go ?_; first | ((with_reducible apply callAlt (hcon)); case hl => (first | exact AllLe.refl _ | ((repeat' (first | exact trivial | apply Le.aggs | apply Le.tups | apply Le.fns | exact Le.refl _ | refine ⟨?_, ?_⟩)); done))) | (with_reducible (apply altM (ks := [0, 1, 2, 3, 4]) (m := 0); apply And.intro; apply Sc.of; apply (hch))) | apply Alt.one)
  | exact Cl.go
  | exact Ce.go
  | ((fail_if_success refine Stop.go ?_); (first | rw [hnx] | exact (hx1 ‹_›).elim | exact (hx2 ‹_›).elim | rw [beqvv (s.tr.length + 1)] | rw [beqvv (s.zs.length + 1)] | rw [beqvv (s.pc.length + 1)] | rw [beqvv s.tr.length] | rw [beqvv s.zs.length] | rw [beqvv s.pc.length] | rw [beqvv (2 * s.zs.length)] | (with_reducible first | apply And.intro | apply Cut.go | (refine impI ?_; intro _)) | (refine propI ?_; conv => whnf))))
 all_goals try exact nbZ
 all_goals try (exact Sc.of ⟨by omega, by show s.ps < 4; omega⟩)
 ·rename_i q; have q : goB s.ps p = false := (Bool.not_eq_true' _).mp q; have w := po_no (t := t) (l := l) (i := i) q; rw [w.1, w.2]; exact .mk [] [] _ rfl (.le (.refl _)) (.ofEq (by kernel_rfl)) (by kernel_rfl)
 ·rename_i e; have e := bne_iff_ne.1 e; have q : goB s.ps p = true := (Bool.not_eq_false' _).mp ‹(!goB s.ps p) = false›; have w := po_ch (i := i) q e; rw [w.1, w.2]; exact .mk [] [] _ rfl (.le (.refl _)) (.ofEq (by kernel_rfl)) (by kernel_rfl)
 ·have e := bne_eq_false_iff_eq.1 ‹(chE_ t l s != 0) = false›; have q : goB s.ps p = true := (Bool.not_eq_false' _).mp ‹(!goB s.ps p) = false›; have w := po_mv (i := i) q e h0.1 h0.2; rw [w.1, w.2]; exact .mk [] [] _ rfl (.le (.refl _)) (.ofEq (by kernel_rfl)) (by kernel_rfl)
theorem c88z (t : Trf) (l : Log) (s : Mc) (hs : Side (Hm t l s)) (h0 : Side (rnB s = false)) : Mut (Xc W0 Gt) 88 [.ptr 0 0] (mcZ t l s) (.int .i64 0) (mcZ t l { s with si := 0 }) := by
 have hm := hs.get
 have nn := hm.nums
 obtain ⟨n1, n2, n3, n4, n5, n6, n7, n8, n9⟩ := nn
 have mk_ := hm.m
 have h0 := h0.get
 have hx : (bif rnB s then decide (0 < s.si) else false) = true -> False := fun q => by rw [h0] at q; cases q
 refine mut_of' hX (fnI Tryz.f88) rfl ?_
 repeat' (first
  | (refine Ax.go ?_; with_reducible first | (apply altM (ks := [0, 1, 2, 3, 4]) (m := 0); apply And.intro; apply Sc.of; apply (c131z hX t l s hs)) | apply Alt.one)
  | exact Cl.go
  | exact Ce.go
  | ((fail_if_success refine Stop.go ?_); (first | exact (hx ‹_›).elim | (with_reducible first | apply And.intro | apply Cut.go | (refine impI ?_; intro _)) | (refine propI ?_; conv => whnf))))
 all_goals try exact nbZ
 all_goals (exact .mk [] [] _ rfl (.le (.refl _)) (.ofEq (by kernel_rfl)) (by kernel_rfl))
set_option maxHeartbeats 400000 in
theorem c87n (t : Trf) (l : Log) (s : Mc) (hs : Side (Hm t l s)) (i p : Int) (h0 : Side (goB s.ps p = false)) : Mut (Xc W0 Gt) 87 [.ptr 0 0, .int .i64 i, .int .i64 p] (mcO t l s) (.int .i64 (poE t l s i p)) (mcO t l (poS t l s i p)) := by
 have hm := hs.get
 have nn := hm.nums
 obtain ⟨n1, n2, n3, n4, n5, n6, n7, n8, n9⟩ := nn
 have mk_ := hm.m
 have h0 := h0.get
 have hnx := nx_part mk_.ps
 have ps_ := mk_.ps
 have hcon := c135 hX (nxL s.ps) p (Side.mk nx_len)
 rw [nx_go ps_] at hcon
 have sm := ch_same t l s
 have hx1 : (!goB s.ps p) = false -> False := fun q => by rw [h0] at q; cases q
 refine mut_of' hX (fnI Tryz.f87) rfl ?_
 repeat' (first
  | (refine Ax.go ?_; first | ((with_reducible apply callAlt (hcon)); case hl => (first | exact AllLe.refl _ | ((repeat' (first | exact trivial | apply Le.aggs | apply Le.tups | apply Le.fns | exact Le.refl _ | refine ⟨?_, ?_⟩)); done))) | apply Alt.one)
  | exact Cl.go
  | exact Ce.go
  | ((fail_if_success refine Stop.go ?_); (first | rw [hnx] | exact (hx1 ‹_›).elim | (with_reducible first | apply And.intro | apply Cut.go | (refine impI ?_; intro _)) | (refine propI ?_; conv => whnf))))
 all_goals try exact nbZ
 all_goals try (exact Sc.of ⟨by omega, by show s.ps < 4; omega⟩)
 all_goals (have w := po_no (t := t) (l := l) (i := i) h0; rw [w.1, w.2]; exact .mk [] [] _ rfl (.le (.refl _)) (.ofEq (by kernel_rfl)) (by kernel_rfl))
set_option maxHeartbeats 400000 in
theorem c87z (t : Trf) (l : Log) (s : Mc) (hs : Side (Hm t l s)) (i p : Int) (h0 : Side (s.ps ≠ 0 /\ p = 0 /\ s.ps ≠ 1 /\ s.ps ≠ 2 /\ goB s.ps p = true)) : Mut (Xc W0 Gt) 87 [.ptr 0 0, .int .i64 i, .int .i64 p] (mcZ t l s) (.int .i64 0) (mcZ t l { edS t l { s with si := 0 } i with ex := s.ex, ps := p }) := by
 have hm := hs.get
 have nn := hm.nums
 obtain ⟨n1, n2, n3, n4, n5, n6, n7, n8, n9⟩ := nn
 have mk_ := hm.m
 have h0 := h0.get
 have hnx := nx_part mk_.ps
 have ps_ := mk_.ps
 have hcon := c135 hX (nxL s.ps) p (Side.mk nx_len)
 rw [nx_go ps_] at hcon
 have sm := ch_same t l s
 have hrn : rnB s = false := rn_f fun q => by rcases rn_iff.1 q with q | q; exact h0.2.2.1 q; exact h0.2.2.2.1 q
 have hcz := c88z hX t l s hs (Side.mk hrn)
 have h0s : Side (Hm t l { s with si := 0 }) := Side.mk (si_ok hm)
 have hx1 : (s.ps == 0) = true -> False := fun q => h0.1 (eq_of_beq q)
 have hx2 : (p == 0) = false -> False := fun q => by rw [h0.2.1] at q; cases q
 have hx3 : ((0 : Int) != 0) = true -> False := fun q => by cases q
 have hx4 : (!goB s.ps p) = true -> False := fun q => by rw [h0.2.2.2.2] at q; cases q
 have tl_ := mk_.tr
 refine mut_of' hX (fnI Tryz.f87) rfl ?_
 repeat' (first
  | (refine Ax.go ?_; first | ((with_reducible apply callAlt (hcon)); case hl => (first | exact AllLe.refl _ | ((repeat' (first | exact trivial | apply Le.aggs | apply Le.tups | apply Le.fns | exact Le.refl _ | refine ⟨?_, ?_⟩)); done))) | (with_reducible (apply altM (ks := [0, 1, 2, 3, 4]) (m := 0); apply And.intro; apply Sc.of; apply (hcz))) | (with_reducible (apply altK (ks := [0, 1, 2, 3, 4]); apply And.intro; apply Sc.of; apply (c90z hX t l { s with si := 0 } h0s))) | (with_reducible (apply altK (ks := [0, 1, 2, 3, 4]); apply And.intro; apply Sc.of; apply (c56z hX t l { s with si := 0 } h0s (Side.mk h0.1)))) | apply Alt.one)
  | exact Cl.go
  | exact Ce.go
  | ((fail_if_success refine Stop.go ?_); (first | rw [hnx] | exact (hx1 ‹_›).elim | exact (hx2 ‹_›).elim | exact (hx3 ‹_›).elim | exact (hx4 ‹_›).elim | rw [beqvv (s.tr.length + 1)] | rw [beqvv (s.zs.length + 1)] | rw [beqvv (s.pc.length + 1)] | rw [beqvv s.tr.length] | rw [beqvv s.zs.length] | rw [beqvv s.pc.length] | rw [beqvv (2 * s.zs.length)] | (with_reducible first | apply And.intro | apply Cut.go | (refine impI ?_; intro _)) | (refine propI ?_; conv => whnf))))
 all_goals try exact nbZ
 all_goals try (exact Sc.of ⟨by omega, by show s.ps < 4; omega⟩)
 ·exact .of ⟨show (s.tr.length + (0 + 1)) * 80 <= 140737488355328 by omega, show s.tr.length + (0 + 1) <= 9223372036854775807 by omega⟩
 ·refine .mk [] [] _ rfl (.le (.refl _)) ?_ (by kernel_rfl)
  exact ⟨.le (.boxes ⟨.refl _, .refl _, .refl _, .refl _, .refl _, .refl _, .refl _, .refl _, .refl _, .refl _, .refl _, .refl _, .refl _, .refl _, .refl _, .refl _, .refl _, .refl _, .refl _, .refl _, .refl _, .refl _, .refl _, .refl _, .refl _, .ownV (by simp [edS]), .refl _, .refl _, trivial⟩), .le (.refl _), .le (tr_push (x := ⟨s.fe, i, s.ad, s.at_, s.st, mStp t l { s with si := 0 }, s.ex, mFare t l { s with si := 0 }⟩) rfl (fun j hj => by rcases (show j = 0 \/ j = 1 \/ j = 2 \/ j = 3 \/ j = 4 \/ j = 5 \/ j = 6 \/ j = 7 by omega) with rfl | rfl | rfl | rfl | rfl | rfl | rfl | rfl <;> rfl) rfl rfl), .le (.refl _), .le (.refl _), trivial⟩
theorem c87e (t : Trf) (l : Log) (s : Mc) (hs : Side (Hm t l s)) (i p : Int) (h0 : Side (s.ps ≠ 0 /\ p = 0 /\ s.ps ≠ 1 /\ s.ps ≠ 2 /\ goB s.ps p = true)) : Mut (Xc W0 Gt) 87 [.ptr 0 0, .int .i64 i, .int .i64 p] (mcT t l s) (.int .i64 0) (mcR t l { edS t l { s with si := 0 } i with ps := p }) := by
 have h1 := c87z hX t l s hs i p h0
 have h2 := Mut.stale (j := 0) (i := 20) (k := 1) (v0 := 2 * s.zs.length) h1 rfl rfl rfl (Nat.lt_succ_self _)
 have e : (mcZ t l { edS t l { s with si := 0 } i with ex := s.ex, ps := p }).set 0 (.box ((mcZC t l { edS t l { s with si := 0 } i with ex := s.ex, ps := p }).set 20 (.own 1 (2 * s.zs.length)))) = mcR t l { edS t l { s with si := 0 } i with ps := p } := by kernel_rfl
 rw [e] at h2
 have e2 : ((mcT t l s).set 1 (gh0 (2 * s.zs.length + 1))).set 0 (.box ((mcC t l s).set 20 (.slc 1 s.ex.length (fun i _ => .int .i64 (s.ex.getD i 0))))) = mcZ t l s := by kernel_rfl
 exact Mut.giveB (L := mcT t l s) (j := 0) (i := 20) (k := 1) (cells := mcC t l s) (e0 := 3) (es0 := 1) (F0 := fun i _ => .int .i64 (([] : List Int).getD i 0)) rfl rfl rfl (by decide) (by rw [e2]; exact h2)
set_option maxHeartbeats 400000 in
theorem c87be (t : Trf) (l : Log) (s : Mc) (hs : Side (Hm t l s)) (i p : Int) (h0 : Side (s.ps = 0 /\ goB s.ps p = true /\ mrE t l { s with si := 0 } ≠ 0)) : Mut (Xc W0 Gt) 87 [.ptr 0 0, .int .i64 i, .int .i64 p] (mcR t l s) (.int .i64 (mrE t l { s with si := 0 })) (mcR t l { s with si := 0 }) := by
 have hm := hs.get
 have nn := hm.nums
 obtain ⟨n1, n2, n3, n4, n5, n6, n7, n8, n9⟩ := nn
 have mk_ := hm.m
 have h0 := h0.get
 have hnx := nx_part mk_.ps
 have ps_ := mk_.ps
 have hcon := c135 hX (nxL s.ps) p (Side.mk nx_len)
 rw [nx_go ps_] at hcon
 have sm := ch_same t l s
 have hrn : rnB s = false := rn_f fun q => by rcases rn_iff.1 q with q | q <;> omega
 have hcg : chgB s = false := by unfold chgB; rw [hrn]; rfl
 have h0s : Side (Hm t l { s with si := 0 }) := Side.mk (si_ok hm)
 have ex0 := mk_.ex0 h0.1
 have hch := c88 hX t l s hs
 rw [chE_f hcg, chS_f hcg, mcO_r h0.1 ex0, mcO_r (s := { s with si := 0 }) h0.1 ex0] at hch
 have hru := c132 hX t l { s with si := 0 } h0s
 rw [mcO_r (s := { s with si := 0 }) h0.1 ex0] at hru
 have hno := c136 hX t l { s with si := 0 } h0s
 rw [mcO_r (s := { s with si := 0 }) h0.1 ex0] at hno
 have hx1 : (s.ps == 0) = false -> False := fun q => by rw [h0.1] at q; cases q
 have hx3 : ((0 : Int) != 0) = true -> False := fun q => by cases q
 have hx4 : (!goB s.ps p) = true -> False := fun q => by rw [h0.2.1] at q; cases q
 have zl := mk_.zs
 have xl := hm.g.ok.extras
 have hx2 : (mrE t l { s with si := 0 } != 0) = false -> False := fun q => h0.2.2 (bne_eq_false_iff_eq.1 q)
 refine mut_of' hX (fnI Tryz.f87) rfl ?_
 repeat' (first
  | (refine Ax.go ?_; first | ((with_reducible apply callAlt (hcon)); case hl => (first | exact AllLe.refl _ | ((repeat' (first | exact trivial | apply Le.aggs | apply Le.tups | apply Le.fns | exact Le.refl _ | refine ⟨?_, ?_⟩)); done))) | (with_reducible (apply altM (ks := [0, 1, 2, 3, 4]) (m := 0); apply And.intro; apply Sc.of; apply (hch))) | (with_reducible (apply altM (ks := [0, 1, 2, 3, 4]) (m := 0); apply And.intro; apply Sc.of; apply (hru))) | (with_reducible (apply altM (ks := [0, 1, 2, 3, 4]) (m := 0); apply And.intro; apply Sc.of; apply (hno))) | apply Alt.one)
  | exact Cl.go
  | exact Ce.go
  | ((fail_if_success refine Stop.go ?_); (first | rw [hnx] | exact (hx1 ‹_›).elim | exact (hx2 ‹_›).elim | exact (hx3 ‹_›).elim | exact (hx4 ‹_›).elim | rw [beqvv (s.tr.length + 1)] | rw [beqvv (s.zs.length + 1)] | rw [beqvv (s.pc.length + 1)] | rw [beqvv s.tr.length] | rw [beqvv s.zs.length] | rw [beqvv s.pc.length] | rw [beqvv (2 * s.zs.length)] | (with_reducible first | apply And.intro | apply Cut.go | (refine impI ?_; intro _)) | (refine propI ?_; conv => whnf))))
 all_goals try exact nbZ
 all_goals try (exact Sc.of ⟨by omega, by show s.ps < 4; omega⟩)
 exact .mk [] [] _ rfl (.le (.refl _)) (.ofEq (by kernel_rfl)) (by kernel_rfl)
set_option maxHeartbeats 400000 in
theorem c87bk (t : Trf) (l : Log) (s : Mc) (hs : Side (Hm t l s)) (i p : Int) (h0 : Side (s.ps = 0 /\ goB s.ps p = true /\ mrE t l { s with si := 0 } = 0)) : Mut (Xc W0 Gt) 87 [.ptr 0 0, .int .i64 i, .int .i64 p] (mcR t l s) (.int .i64 0) [.box ((mcC t l { bgS t l { s with si := 0 } i with ps := p }).set 20 (.own 5 1)), gh0 (2 * s.zs.length + 1), trO s.tr, zsO (s.zs ++ [s.zn]), pcO s.pc, .list 3 1 t.extras.length (fun _ _ => .int .i64 0) 1] := by
 have hm := hs.get
 have nn := hm.nums
 obtain ⟨n1, n2, n3, n4, n5, n6, n7, n8, n9⟩ := nn
 have mk_ := hm.m
 have h0 := h0.get
 have hnx := nx_part mk_.ps
 have ps_ := mk_.ps
 have hcon := c135 hX (nxL s.ps) p (Side.mk nx_len)
 rw [nx_go ps_] at hcon
 have sm := ch_same t l s
 have hrn : rnB s = false := rn_f fun q => by rcases rn_iff.1 q with q | q <;> omega
 have hcg : chgB s = false := by unfold chgB; rw [hrn]; rfl
 have h0s : Side (Hm t l { s with si := 0 }) := Side.mk (si_ok hm)
 have ex0 := mk_.ex0 h0.1
 have hch := c88 hX t l s hs
 rw [chE_f hcg, chS_f hcg, mcO_r h0.1 ex0, mcO_r (s := { s with si := 0 }) h0.1 ex0] at hch
 have hru := c132 hX t l { s with si := 0 } h0s
 rw [mcO_r (s := { s with si := 0 }) h0.1 ex0] at hru
 have hno := c136 hX t l { s with si := 0 } h0s
 rw [mcO_r (s := { s with si := 0 }) h0.1 ex0] at hno
 have hx1 : (s.ps == 0) = false -> False := fun q => by rw [h0.1] at q; cases q
 have hx3 : ((0 : Int) != 0) = true -> False := fun q => by cases q
 have hx4 : (!goB s.ps p) = true -> False := fun q => by rw [h0.2.1] at q; cases q
 have zl := mk_.zs
 have xl := hm.g.ok.extras
 have hx2 : (mrE t l { s with si := 0 } != 0) = true -> False := fun q => bne_iff_ne.1 q h0.2.2
 refine mut_of' hX (fnI Tryz.f87) rfl ?_
 repeat' (first
  | (refine Ax.go ?_; first | ((with_reducible apply callAlt (hcon)); case hl => (first | exact AllLe.refl _ | ((repeat' (first | exact trivial | apply Le.aggs | apply Le.tups | apply Le.fns | exact Le.refl _ | refine ⟨?_, ?_⟩)); done))) | (with_reducible (apply altM (ks := [0, 1, 2, 3, 4]) (m := 0); apply And.intro; apply Sc.of; apply (hch))) | (with_reducible (apply altM (ks := [0, 1, 2, 3, 4]) (m := 0); apply And.intro; apply Sc.of; apply (hru))) | (with_reducible (apply altM (ks := [0, 1, 2, 3, 4]) (m := 0); apply And.intro; apply Sc.of; apply (hno))) | apply Alt.one)
  | exact Cl.go
  | exact Ce.go
  | ((fail_if_success refine Stop.go ?_); (first | rw [hnx] | exact (hx1 ‹_›).elim | exact (hx2 ‹_›).elim | exact (hx3 ‹_›).elim | exact (hx4 ‹_›).elim | rw [beqvv (s.tr.length + 1)] | rw [beqvv (s.zs.length + 1)] | rw [beqvv (s.pc.length + 1)] | rw [beqvv s.tr.length] | rw [beqvv s.zs.length] | rw [beqvv s.pc.length] | rw [beqvv (2 * s.zs.length)] | (with_reducible first | apply And.intro | apply Cut.go | (refine impI ?_; intro _)) | (refine propI ?_; conv => whnf))))
 all_goals try exact nbZ
 all_goals try (exact Sc.of ⟨by omega, by show s.ps < 4; omega⟩)
 ·exact .of ⟨show (s.zs.length + (0 + 1)) * 8 <= 140737488355328 by omega, show s.zs.length + (0 + 1) <= 9223372036854775807 by omega⟩
 ·exact .of (mr_ok h0.2.2)
 ·refine Sc.of ⟨rfl, by omega, ?_, by omega⟩
  show (t.extras.length : Int).toNat * 8 <= 281474976710656
  omega
 ·refine .mk [5] [] _ rfl (.le (.refl _)) ?_ (by kernel_rfl)
  exact ⟨.le (.boxes ⟨.refl _, .refl _, .refl _, .refl _, .refl _, .refl _, .refl _, .refl _, .refl _, .refl _, .refl _, .refl _, .refl _, .refl _, .refl _, .refl _, .refl _, .refl _, .refl _, .refl _, .refl _, .refl _, .refl _, .refl _, .refl _, .refl _, .ownV (by simp [bgS]), .refl _, trivial⟩), .le (.refl _), .le (.refl _), .le (zs_push rfl rfl rfl), .le (.refl _), .le (.list fun i j hi hj => (by replace hj : j < 1 := hj; have e : j = 0 := (by omega); subst e; exact .refl _)), trivial⟩
theorem c87b (t : Trf) (l : Log) (s : Mc) (hs : Side (Hm t l s)) (i p : Int) (h0 : Side (s.ps = 0 /\ goB s.ps p = true /\ mrE t l { s with si := 0 } = 0)) : Mut (Xc W0 Gt) 87 [.ptr 0 0, .int .i64 i, .int .i64 p] (mcR t l s) (.int .i64 0) (mcT t l { bgS t l { s with si := 0 } i with ps := p }) := by
 have h1 := c87bk hX t l s hs i p h0
 have h2 := Mut.swap (A := [.box ((mcC t l { bgS t l { s with si := 0 } i with ps := p }).set 20 (.own 5 1)), gh0 (2 * s.zs.length + 1), trO s.tr, zsO (s.zs ++ [s.zn]), pcO s.pc]) (j := 0) (i := 20) (k := 1) (cells := (mcC t l { bgS t l { s with si := 0 } i with ps := p }).set 20 (.own 5 1)) h1 (Nat.le_refl 5) rfl rfl rfl (by decide) (by kernel_rfl)
  (fun q o h hq => by
   rcases q with _ | _ | _ | _ | _ | q
   ·exact absurd rfl hq
   ·cases h; exact ⟨_, _, _, _, _, rfl⟩
   ·cases h; exact ⟨_, _, _, _, _, rfl⟩
   ·cases h; exact ⟨_, _, _, _, _, rfl⟩
   ·cases h; exact ⟨_, _, _, _, _, rfl⟩
   ·cases h) rfl
 refine Mut.leO' h2 (.refl _) ?_
 exact ⟨.boxes ⟨.refl _, .refl _, .refl _, .refl _, .refl _, .refl _, .refl _, .refl _, .refl _, .refl _, .refl _, .refl _, .refl _, .refl _, .refl _, .refl _, .refl _, .refl _, .refl _, .refl _, .ownV (by simp [bgS]; omega), .refl _, .refl _, .refl _, .refl _, .refl _, .refl _, .refl _, trivial⟩, ex_new rfl (by simp [bgS]; omega) (fun _ => rfl), .refl _, .refl _, .refl _, trivial⟩
theorem c87 (t : Trf) (l : Log) (s : Mc) (hs : Side (Hm t l s)) (i p : Int) : Mut (Xc W0 Gt) 87 [.ptr 0 0, .int .i64 i, .int .i64 p] (mcO t l s) (.int .i64 (poE t l s i p)) (mcO t l (poS t l s i p)) := by
 have hm := hs.get
 have m := hm.m
 have sm := ch_same t l s
 cases q : goB s.ps p with
 | false => exact c87n hX t l s hs i p (Side.mk q)
 | true =>
  by_cases h0 : s.ps = 0
  ·have hrn : rnB s = false := rn_f fun q => by rcases rn_iff.1 q with q | q <;> omega
   have hcg : chgB s = false := by unfold chgB; rw [hrn]; rfl
   have ce := chE_f (t := t) (l := l) hcg
   have cs := chS_f (t := t) (l := l) hcg
   have x0 := m.ex0 h0
   by_cases r : mrE t l { s with si := 0 } = 0
   ·have w := po_bg (i := i) q ce h0 (by rw [cs]; exact r)
    have p0 : p ≠ 0 := by
     unfold goB at q
     rw [show (s.ps == 0) = true by simp [h0]] at q
     have := eq_of_beq (show (p == 1) = true from q); omega
    rw [w.1, w.2, cs, mcO_r h0 x0, mcO_t (s := { bgS t l { s with si := 0 } i with ps := p }) p0]
    exact c87b hX t l s hs i p (Side.mk ⟨h0, q, r⟩)
   ·have w := po_bgE (i := i) q ce h0 (by rw [cs]; exact r)
    rw [w.1, w.2, cs, mcO_r h0 x0, mcO_r (s := { s with si := 0 }) h0 x0]
    exact c87be hX t l s hs i p (Side.mk ⟨h0, q, r⟩)
  ·by_cases hp : p = 0
   ·have e12 := go_end q h0 hp
    have hrn : rnB s = false := rn_f fun q => by rcases rn_iff.1 q with q | q; exact e12.1 q; exact e12.2 q
    have hcg : chgB s = false := by unfold chgB; rw [hrn]; rfl
    have w := po_ed (i := i) q (chE_f (t := t) (l := l) hcg) h0 hp
    rw [w.1, w.2, chS_f hcg, mcO_t h0, mcO_r (s := { edS t l { s with si := 0 } i with ps := p }) hp rfl]
    exact c87e hX t l s hs i p (Side.mk ⟨h0, hp, e12.1, e12.2, q⟩)
   ·have hps : (poS t l s i p).ps ≠ 0 := by
     by_cases e : chE_ t l s = 0
     ·rw [(po_mv (i := i) q e h0 hp).2]; exact hp
     ·rw [(po_ch (i := i) q e).2, sm.1]; exact h0
    rw [mcO_t h0, mcO_t hps]
    exact c87m hX t l s hs i p (Side.mk ⟨h0, hp⟩)
end
open Go.Proofs
theorem evS_eq {t : Trf} {l : Log} {s : Mc} {i : Nat} : evS_ t l s i = evG t l s i (l.ev.getD i ev0) := by unfold evS_; rfl
theorem evG_0 {t : Trf} {l : Log} {s : Mc} {i : Int} {v : Ev} (h : v.k = 0) : evG t l s i v = { s with si := s.si + v.n, pu := s.pu + v.n } /\ evH t l s i v = 0 := by unfold evG evH; rw [h]; exact ⟨rfl, rfl⟩
theorem evG_1 {t : Trf} {l : Log} {s : Mc} {i : Int} {v : Ev} (h : v.k = 1) : evG t l s i v = tkS t l s v.n /\ evH t l s i v = tkE t l s v.n := by unfold evG evH; rw [h]; exact ⟨rfl, rfl⟩
theorem evG_2 {t : Trf} {l : Log} {s : Mc} {i : Int} {v : Ev} (h : v.k = 2) : evG t l s i v = poS t l s i v.n /\ evH t l s i v = poE t l s i v.n := by unfold evG evH; rw [h]; exact ⟨rfl, rfl⟩
theorem evG_3 {t : Trf} {l : Log} {s : Mc} {i : Int} {v : Ev} (h : v.k = 3) (hz : v.n < t.zones.length) : evG t l s i v = { chS t l s with zn := v.n } /\ evH t l s i v = chE_ t l s := by unfold evG evH; rw [h, decide_eq_true hz]; exact ⟨rfl, rfl⟩
theorem evG_3' {t : Trf} {l : Log} {s : Mc} {i : Int} {v : Ev} (h : v.k = 3) (hz : ¬ v.n < t.zones.length) : evG t l s i v = s /\ evH t l s i v = 6 := by unfold evG evH; rw [h, decide_eq_false hz]; exact ⟨rfl, rfl⟩
theorem evG_4 {t : Trf} {l : Log} {s : Mc} {i : Int} {v : Ev} (h : v.k = 4) : evG t l s i v = mxU t s v.n /\ evH t l s i v = mxE t s v.n := by unfold evG evH; rw [h]; exact ⟨rfl, rfl⟩
theorem evG_5 {t : Trf} {l : Log} {s : Mc} {i : Int} {v : Ev} (h0 : v.k ≠ 0) (h1 : v.k ≠ 1) (h2 : v.k ≠ 2) (h3 : v.k ≠ 3) (h4 : v.k ≠ 4) : evG t l s i v = s /\ evH t l s i v = 0 := by
 unfold evG evH
 rw [show (v.k == 0) = false by simp [h0], show (v.k == 1) = false by simp [h1], show (v.k == 2) = false by simp [h2], show (v.k == 3) = false by simp [h3], show (v.k == 4) = false by simp [h4]]; exact ⟨rfl, rfl⟩
theorem ev_mok {t : Trf} {l : Log} {s : Mc} {k : Nat} (g : Gd t l) (h : MOk t k s) (hk : k < l.ev.length) : MOk t (k + 1) (evS_ t l s k) := by
 have gh := gd_head g.al
 have e := ev_ok (gh.2.2.2.2 k hk)
 have hk2 : (k : Int) <= 199 := by have := gh.2.2.2.1; omega
 have h1 := h.tk; have h2 := h.si; have h3 := h.pu; have h4 := h.pa; have h5 := h.tr; have h6 := h.zs; have h7 := h.pc
 rw [evS_eq]
 generalize l.ev.getD k ev0 = v at *
 obtain ⟨e0, e1, e2, e3, e4, e5⟩ := e
 by_cases q0 : v.k = 0
 ·rw [(evG_0 q0).1]
  have w := e1 q0
  exact ⟨by show 0 <= s.tk /\ s.tk <= _; omega, by show 0 <= s.si + v.n /\ s.si + v.n <= s.pu + v.n; omega, by show s.pu + v.n <= _; omega, by show 0 <= s.pa /\ s.pa <= 1000000000 * (s.pu + v.n - (s.si + v.n)) + 100000000000 * s.tk; omega, h.ps, h.zn, h.st, h.exl, h.ex0, h.ex, by show (s.tr.length : Int) <= _; omega, by show (s.zs.length : Int) <= _; omega, by show (s.pc.length : Int) <= s.tk + _; omega⟩
 by_cases q1 : v.k = 1
 ·rw [(evG_1 q1).1]
  have w := e2 q1
  exact tk_ok g (by omega) (h.mono (by omega)) (by omega)
 by_cases q2 : v.k = 2
 ·rw [(evG_2 q2).1]
  exact po_ok g h (by omega)
 by_cases q3 : v.k = 3
 ·by_cases z : v.n < t.zones.length
  ·rw [(evG_3 q3 z).1]
   have c := ch_ok g h (by omega)
   exact ⟨c.tk, c.si, c.pu, c.pa, c.ps, ⟨e4, e5⟩, c.st, c.exl, c.ex0, c.ex, c.tr, c.zs, c.pc⟩
  ·rw [(evG_3' q3 z).1]; exact h.mono (by omega)
 by_cases q4 : v.k = 4
 ·rw [(evG_4 q4).1]; exact (mx_ok h e4).mono (by omega)
 rw [(evG_5 q0 q1 q2 q3 q4).1]; exact h.mono (by omega)
theorem mcN_ok {t : Trf} {l : Log} (g : Gd t l) : ∀ k : Nat, k <= l.ev.length -> MOk t k (mcN t l k)
 | 0, _ => mok0 t
 | k + 1, h => by
  have w := ev_mok g (mcN_ok g k (by omega)) (by omega)
  exact w
theorem mcN_hm {t : Trf} {l : Log} (g : Gd t l) {k : Nat} (h : k <= l.ev.length) : Hm t l (mcN t l k) := ⟨g, (mcN_ok g k h).mono (by have := (gd_head g.al).2.2.2.1; omega)⟩
open Go.Proofs Go.RowKit
theorem evF_eq {t : Trf} {l : Log} {s s2 : Mc} {i : Nat} {e : Int} (h : evG t l s i (l.ev.getD i ev0) = s2 /\ evH t l s i (l.ev.getD i ev0) = e) : evS_ t l s i = s2 /\ evF t l s i = firstS [e, bif decide (mFare t l s2 <= 1000000000) then 0 else 8] := by
 have h1 : evS_ t l s i = s2 := by rw [evS_eq]; exact h.1
 refine ⟨h1, ?_⟩
 unfold evF; rw [h1, h.2]; rfl
section
variable {W0 : World} (hX : (Xc W0 Gt).Good)
include hX
set_option maxHeartbeats 400000 in
theorem c52_0 (t : Trf) (l : Log) (s : Mc) (hs : Side (Hm t l s)) (i : Nat) (hk : Side (MOk t i s /\ i < l.ev.length)) (hv : Side ((l.ev.getD i ev0).k = 0)) : Mut (Xc W0 Gt) 52 [.ptr 0 0, .int .i64 i] (mcO t l s) (.int .i64 (evF t l s i)) (mcO t l (evS_ t l s i)) := by
 have hm := hs.get
 have nn := hm.nums
 obtain ⟨n1, n2, n3, n4, n5, n6, n7, n8, n9⟩ := nn
 have mk_ := hm.m
 have hv := hv.get
 have hk := hk.get
 have gh := gd_head hm.g.al
 have ee := ev_ok (gh.2.2.2.2 i hk.2)
 have el := gh.2.2.2.1
 have w := evF_eq (t := t) (l := l) (s := s) (i := i) (evG_0 hv)
 have h2 : Side (Hm t l { s with si := s.si + (l.ev.getD i ev0).n, pu := s.pu + (l.ev.getD i ev0).n }) := Side.mk (by rw [<- w.1]; exact ⟨hm.g, (ev_mok hm.g hk.1 hk.2).mono (by omega)⟩)
 have hx0 : ((l.ev.getD i ev0).k == 0) = false -> False := fun q => by rw [hv] at q; cases q
 refine mut_of' hX (fnI Tryz.f52) rfl ?_
 repeat' (first
  | (refine Ax.go ?_; with_reducible first | (apply altM (ks := [0, 1, 2, 3, 4]) (m := 0); apply And.intro; apply Sc.of; apply (c56 hX t l { s with si := s.si + (l.ev.getD i ev0).n, pu := s.pu + (l.ev.getD i ev0).n } h2)) | apply callAlt (c49 hX _ _) | apply callAlt (c48_2 hX _ _) | apply Alt.one)
  | ((with_reducible refine Ar.go ?_); first | exact ⟨le_slc2 rfl rfl, trivial⟩ | exact AllLe.refl _ | (repeat' (first | exact trivial | apply Le.aggs | apply Le.tups | apply Le.fns | exact Le.refl _ | refine ⟨?_, ?_⟩)))
  | exact Cl.go
  | exact Ce.go
  | ((fail_if_success refine Stop.go ?_); (first | exact (hx0 ‹_›).elim | (with_reducible first | apply And.intro | apply Cut.go | (refine impI ?_; intro _)) | (refine propI ?_; conv => whnf))))
 all_goals try exact nbZ
 all_goals try ((with_reducible refine (?_ : Sc _ _)); (try simp only [Int.toNat_natCast]); exact Sc.of ⟨by omega, by omega⟩)
 rw [w.1, w.2]
 exact .mk [] [] _ rfl (.le (.refl _)) (.ofEq (by kernel_rfl)) (by kernel_rfl)
set_option maxHeartbeats 400000 in
theorem c52_1 (t : Trf) (l : Log) (s : Mc) (hs : Side (Hm t l s)) (i : Nat) (hk : Side (MOk t i s /\ i < l.ev.length)) (hv : Side ((l.ev.getD i ev0).k = 1)) : Mut (Xc W0 Gt) 52 [.ptr 0 0, .int .i64 i] (mcO t l s) (.int .i64 (evF t l s i)) (mcO t l (evS_ t l s i)) := by
 have hm := hs.get
 have nn := hm.nums
 obtain ⟨n1, n2, n3, n4, n5, n6, n7, n8, n9⟩ := nn
 have mk_ := hm.m
 have hv := hv.get
 have hk := hk.get
 have gh := gd_head hm.g.al
 have ee := ev_ok (gh.2.2.2.2 i hk.2)
 have el := gh.2.2.2.1
 have w := evF_eq (t := t) (l := l) (s := s) (i := i) (evG_1 hv)
 have h2 : Side (Hm t l (tkS t l s (l.ev.getD i ev0).n)) := Side.mk (by rw [<- w.1]; exact ⟨hm.g, (ev_mok hm.g hk.1 hk.2).mono (by omega)⟩)
 have hx0 : ((l.ev.getD i ev0).k == 0) = true -> False := fun q => by rw [hv] at q; cases q
 have hx1 : ((l.ev.getD i ev0).k == 1) = false -> False := fun q => by rw [hv] at q; cases q
 have hn : Side (s.tk + (l.ev.getD i ev0).n <= 723600 /\ (l.ev.getD i ev0).n <= 3600) := Side.mk (by have a := ee.2.2.1 hv; have b := hk.1.tk; omega)
 refine mut_of' hX (fnI Tryz.f52) rfl ?_
 repeat' (first
  | (refine Ax.go ?_; with_reducible first | (apply altM (ks := [0, 1, 2, 3, 4]) (m := 0); apply And.intro; apply Sc.of; apply (c86 hX t l s hs (l.ev.getD i ev0).n hn)) | (apply altM (ks := [0, 1, 2, 3, 4]) (m := 0); apply And.intro; apply Sc.of; apply (c56 hX t l (tkS t l s (l.ev.getD i ev0).n) h2)) | apply callAlt (c49 hX _ _) | apply callAlt (c48_2 hX _ _) | apply Alt.one)
  | ((with_reducible refine Ar.go ?_); first | exact ⟨le_slc2 rfl rfl, trivial⟩ | exact AllLe.refl _ | (repeat' (first | exact trivial | apply Le.aggs | apply Le.tups | apply Le.fns | exact Le.refl _ | refine ⟨?_, ?_⟩)))
  | exact Cl.go
  | exact Ce.go
  | ((fail_if_success refine Stop.go ?_); (first | exact (hx0 ‹_›).elim | exact (hx1 ‹_›).elim | (with_reducible first | apply And.intro | apply Cut.go | (refine impI ?_; intro _)) | (refine propI ?_; conv => whnf))))
 all_goals try exact nbZ
 all_goals try ((with_reducible refine (?_ : Sc _ _)); (try simp only [Int.toNat_natCast]); exact Sc.of ⟨by omega, by omega⟩)
 rw [w.1, w.2]
 exact .mk [] [] _ rfl (.le (.refl _)) (.ofEq (by kernel_rfl)) (by kernel_rfl)
set_option maxHeartbeats 400000 in
theorem c52_2 (t : Trf) (l : Log) (s : Mc) (hs : Side (Hm t l s)) (i : Nat) (hk : Side (MOk t i s /\ i < l.ev.length)) (hv : Side ((l.ev.getD i ev0).k = 2)) : Mut (Xc W0 Gt) 52 [.ptr 0 0, .int .i64 i] (mcO t l s) (.int .i64 (evF t l s i)) (mcO t l (evS_ t l s i)) := by
 have hm := hs.get
 have nn := hm.nums
 obtain ⟨n1, n2, n3, n4, n5, n6, n7, n8, n9⟩ := nn
 have mk_ := hm.m
 have hv := hv.get
 have hk := hk.get
 have gh := gd_head hm.g.al
 have ee := ev_ok (gh.2.2.2.2 i hk.2)
 have el := gh.2.2.2.1
 have w := evF_eq (t := t) (l := l) (s := s) (i := i) (evG_2 hv)
 have h2 : Side (Hm t l (poS t l s i (l.ev.getD i ev0).n)) := Side.mk (by rw [<- w.1]; exact ⟨hm.g, (ev_mok hm.g hk.1 hk.2).mono (by omega)⟩)
 have hx0 : ((l.ev.getD i ev0).k == 0) = true -> False := fun q => by rw [hv] at q; cases q
 have hx1 : ((l.ev.getD i ev0).k == 1) = true -> False := fun q => by rw [hv] at q; cases q
 have hx2 : ((l.ev.getD i ev0).k == 2) = false -> False := fun q => by rw [hv] at q; cases q
 refine mut_of' hX (fnI Tryz.f52) rfl ?_
 repeat' (first
  | (refine Ax.go ?_; with_reducible first | (apply altM (ks := [0, 1, 2, 3, 4]) (m := 0); apply And.intro; apply Sc.of; apply (c87 hX t l s hs i (l.ev.getD i ev0).n)) | (apply altM (ks := [0, 1, 2, 3, 4]) (m := 0); apply And.intro; apply Sc.of; apply (c56 hX t l (poS t l s i (l.ev.getD i ev0).n) h2)) | apply callAlt (c49 hX _ _) | apply callAlt (c48_2 hX _ _) | apply Alt.one)
  | ((with_reducible refine Ar.go ?_); first | exact ⟨le_slc2 rfl rfl, trivial⟩ | exact AllLe.refl _ | (repeat' (first | exact trivial | apply Le.aggs | apply Le.tups | apply Le.fns | exact Le.refl _ | refine ⟨?_, ?_⟩)))
  | exact Cl.go
  | exact Ce.go
  | ((fail_if_success refine Stop.go ?_); (first | exact (hx0 ‹_›).elim | exact (hx1 ‹_›).elim | exact (hx2 ‹_›).elim | (with_reducible first | apply And.intro | apply Cut.go | (refine impI ?_; intro _)) | (refine propI ?_; conv => whnf))))
 all_goals try exact nbZ
 all_goals try ((with_reducible refine (?_ : Sc _ _)); (try simp only [Int.toNat_natCast]); exact Sc.of ⟨by omega, by omega⟩)
 rw [w.1, w.2]
 exact .mk [] [] _ rfl (.le (.refl _)) (.ofEq (by kernel_rfl)) (by kernel_rfl)
set_option maxHeartbeats 400000 in
theorem c52_3 (t : Trf) (l : Log) (s : Mc) (hs : Side (Hm t l s)) (i : Nat) (hk : Side (MOk t i s /\ i < l.ev.length)) (hv : Side ((l.ev.getD i ev0).k = 3 /\ (l.ev.getD i ev0).n < t.zones.length)) : Mut (Xc W0 Gt) 52 [.ptr 0 0, .int .i64 i] (mcO t l s) (.int .i64 (evF t l s i)) (mcO t l (evS_ t l s i)) := by
 have hm := hs.get
 have nn := hm.nums
 obtain ⟨n1, n2, n3, n4, n5, n6, n7, n8, n9⟩ := nn
 have mk_ := hm.m
 have hv := hv.get
 have hk := hk.get
 have gh := gd_head hm.g.al
 have ee := ev_ok (gh.2.2.2.2 i hk.2)
 have el := gh.2.2.2.1
 have w := evF_eq (t := t) (l := l) (s := s) (i := i) (evG_3 hv.1 hv.2)
 have h2 : Side (Hm t l { chS t l s with zn := (l.ev.getD i ev0).n }) := Side.mk (by rw [<- w.1]; exact ⟨hm.g, (ev_mok hm.g hk.1 hk.2).mono (by omega)⟩)
 have hx0 : ((l.ev.getD i ev0).k == 0) = true -> False := fun q => by rw [hv.1] at q; cases q
 have hx1 : ((l.ev.getD i ev0).k == 1) = true -> False := fun q => by rw [hv.1] at q; cases q
 have hx2 : ((l.ev.getD i ev0).k == 2) = true -> False := fun q => by rw [hv.1] at q; cases q
 have hx3 : ((l.ev.getD i ev0).k == 3) = false -> False := fun q => by rw [hv.1] at q; cases q
 have hx4 : ((bif decide ((l.ev.getD i ev0).n < (t.zones.length : Int)) then 0 else 6 : Int) == 0) = false -> False := fun q => by rw [decide_eq_true hv.2] at q; cases q
 refine mut_of' hX (fnI Tryz.f52) rfl ?_
 repeat' (first
  | (refine Ax.go ?_; with_reducible first | (apply altM (ks := [0, 1, 2, 3, 4]) (m := 0); apply And.intro; apply Sc.of; apply (c88 hX t l s hs)) | (apply altM (ks := [0, 1, 2, 3, 4]) (m := 0); apply And.intro; apply Sc.of; apply (c56 hX t l { chS t l s with zn := (l.ev.getD i ev0).n } h2)) | apply callAlt (c49 hX _ _) | apply callAlt (c48_2 hX _ _) | apply Alt.one)
  | ((with_reducible refine Ar.go ?_); first | exact ⟨le_slc2 rfl rfl, trivial⟩ | exact AllLe.refl _ | (repeat' (first | exact trivial | apply Le.aggs | apply Le.tups | apply Le.fns | exact Le.refl _ | refine ⟨?_, ?_⟩)))
  | exact Cl.go
  | exact Ce.go
  | ((fail_if_success refine Stop.go ?_); (first | exact (hx0 ‹_›).elim | exact (hx1 ‹_›).elim | exact (hx2 ‹_›).elim | exact (hx3 ‹_›).elim | exact (hx4 ‹_›).elim | (with_reducible first | apply And.intro | apply Cut.go | (refine impI ?_; intro _)) | (refine propI ?_; conv => whnf))))
 all_goals try exact nbZ
 all_goals try ((with_reducible refine (?_ : Sc _ _)); (try simp only [Int.toNat_natCast]); exact Sc.of ⟨by omega, by omega⟩)
 rw [w.1, w.2]
 exact .mk [] [] _ rfl (.le (.refl _)) (.ofEq (by kernel_rfl)) (by kernel_rfl)
set_option maxHeartbeats 400000 in
theorem c52_3n (t : Trf) (l : Log) (s : Mc) (hs : Side (Hm t l s)) (i : Nat) (hk : Side (MOk t i s /\ i < l.ev.length)) (hv : Side ((l.ev.getD i ev0).k = 3 /\ ¬ (l.ev.getD i ev0).n < t.zones.length)) : Mut (Xc W0 Gt) 52 [.ptr 0 0, .int .i64 i] (mcO t l s) (.int .i64 (evF t l s i)) (mcO t l (evS_ t l s i)) := by
 have hm := hs.get
 have nn := hm.nums
 obtain ⟨n1, n2, n3, n4, n5, n6, n7, n8, n9⟩ := nn
 have mk_ := hm.m
 have hv := hv.get
 have hk := hk.get
 have gh := gd_head hm.g.al
 have ee := ev_ok (gh.2.2.2.2 i hk.2)
 have el := gh.2.2.2.1
 have w := evF_eq (t := t) (l := l) (s := s) (i := i) (evG_3' hv.1 hv.2)
 have h2 : Side (Hm t l s) := Side.mk (by rw [<- w.1]; exact ⟨hm.g, (ev_mok hm.g hk.1 hk.2).mono (by omega)⟩)
 have hx0 : ((l.ev.getD i ev0).k == 0) = true -> False := fun q => by rw [hv.1] at q; cases q
 have hx1 : ((l.ev.getD i ev0).k == 1) = true -> False := fun q => by rw [hv.1] at q; cases q
 have hx2 : ((l.ev.getD i ev0).k == 2) = true -> False := fun q => by rw [hv.1] at q; cases q
 have hx3 : ((l.ev.getD i ev0).k == 3) = false -> False := fun q => by rw [hv.1] at q; cases q
 have hx4 : ((bif decide ((l.ev.getD i ev0).n < (t.zones.length : Int)) then 0 else 6 : Int) == 0) = true -> False := fun q => by rw [decide_eq_false hv.2] at q; cases q
 refine mut_of' hX (fnI Tryz.f52) rfl ?_
 repeat' (first
  | (refine Ax.go ?_; with_reducible first | (apply altM (ks := [0, 1, 2, 3, 4]) (m := 0); apply And.intro; apply Sc.of; apply (c56 hX t l s h2)) | apply callAlt (c49 hX _ _) | apply callAlt (c48_2 hX _ _) | apply Alt.one)
  | ((with_reducible refine Ar.go ?_); first | exact ⟨le_slc2 rfl rfl, trivial⟩ | exact AllLe.refl _ | (repeat' (first | exact trivial | apply Le.aggs | apply Le.tups | apply Le.fns | exact Le.refl _ | refine ⟨?_, ?_⟩)))
  | exact Cl.go
  | exact Ce.go
  | ((fail_if_success refine Stop.go ?_); (first | exact (hx0 ‹_›).elim | exact (hx1 ‹_›).elim | exact (hx2 ‹_›).elim | exact (hx3 ‹_›).elim | exact (hx4 ‹_›).elim | (with_reducible first | apply And.intro | apply Cut.go | (refine impI ?_; intro _)) | (refine propI ?_; conv => whnf))))
 all_goals try exact nbZ
 all_goals try ((with_reducible refine (?_ : Sc _ _)); (try simp only [Int.toNat_natCast]); exact Sc.of ⟨by omega, by omega⟩)
 rw [w.1, w.2]
 exact .mk [] [] _ rfl (.le (.intI (by simp only [Int.toNat_natCast]; rw [decide_eq_false hv.2]; rfl))) (.ofEq (by kernel_rfl)) (by kernel_rfl)
set_option maxHeartbeats 400000 in
theorem c52_4 (t : Trf) (l : Log) (s : Mc) (hs : Side (Hm t l s)) (i : Nat) (hk : Side (MOk t i s /\ i < l.ev.length)) (hv : Side ((l.ev.getD i ev0).k = 4)) : Mut (Xc W0 Gt) 52 [.ptr 0 0, .int .i64 i] (mcO t l s) (.int .i64 (evF t l s i)) (mcO t l (evS_ t l s i)) := by
 have hm := hs.get
 have nn := hm.nums
 obtain ⟨n1, n2, n3, n4, n5, n6, n7, n8, n9⟩ := nn
 have mk_ := hm.m
 have hv := hv.get
 have hk := hk.get
 have gh := gd_head hm.g.al
 have ee := ev_ok (gh.2.2.2.2 i hk.2)
 have el := gh.2.2.2.1
 have w := evF_eq (t := t) (l := l) (s := s) (i := i) (evG_4 hv)
 have h2 : Side (Hm t l (mxU t s (l.ev.getD i ev0).n)) := Side.mk (by rw [<- w.1]; exact ⟨hm.g, (ev_mok hm.g hk.1 hk.2).mono (by omega)⟩)
 have hx0 : ((l.ev.getD i ev0).k == 0) = true -> False := fun q => by rw [hv] at q; cases q
 have hx1 : ((l.ev.getD i ev0).k == 1) = true -> False := fun q => by rw [hv] at q; cases q
 have hx2 : ((l.ev.getD i ev0).k == 2) = true -> False := fun q => by rw [hv] at q; cases q
 have hx3 : ((l.ev.getD i ev0).k == 3) = true -> False := fun q => by rw [hv] at q; cases q
 have hx4 : ((l.ev.getD i ev0).k == 4) = false -> False := fun q => by rw [hv] at q; cases q
 have hn : Side (0 <= (l.ev.getD i ev0).n) := Side.mk ee.2.2.2.2.1
 refine mut_of' hX (fnI Tryz.f52) rfl ?_
 repeat' (first
  | (refine Ax.go ?_; with_reducible first | (apply altM (ks := [0, 1, 2, 3, 4]) (m := 0); apply And.intro; apply Sc.of; apply (c89 hX t l s hs (l.ev.getD i ev0).n hn)) | (apply altM (ks := [0, 1, 2, 3, 4]) (m := 0); apply And.intro; apply Sc.of; apply (c56 hX t l (mxU t s (l.ev.getD i ev0).n) h2)) | apply callAlt (c49 hX _ _) | apply callAlt (c48_2 hX _ _) | apply Alt.one)
  | ((with_reducible refine Ar.go ?_); first | exact ⟨le_slc2 rfl rfl, trivial⟩ | exact AllLe.refl _ | (repeat' (first | exact trivial | apply Le.aggs | apply Le.tups | apply Le.fns | exact Le.refl _ | refine ⟨?_, ?_⟩)))
  | exact Cl.go
  | exact Ce.go
  | ((fail_if_success refine Stop.go ?_); (first | exact (hx0 ‹_›).elim | exact (hx1 ‹_›).elim | exact (hx2 ‹_›).elim | exact (hx3 ‹_›).elim | exact (hx4 ‹_›).elim | (with_reducible first | apply And.intro | apply Cut.go | (refine impI ?_; intro _)) | (refine propI ?_; conv => whnf))))
 all_goals try exact nbZ
 all_goals try ((with_reducible refine (?_ : Sc _ _)); (try simp only [Int.toNat_natCast]); exact Sc.of ⟨by omega, by omega⟩)
 rw [w.1, w.2]
 exact .mk [] [] _ rfl (.le (.refl _)) (.ofEq (by kernel_rfl)) (by kernel_rfl)
set_option maxHeartbeats 400000 in
theorem c52_5 (t : Trf) (l : Log) (s : Mc) (hs : Side (Hm t l s)) (i : Nat) (hk : Side (MOk t i s /\ i < l.ev.length)) (hv : Side ((l.ev.getD i ev0).k ≠ 0 /\ (l.ev.getD i ev0).k ≠ 1 /\ (l.ev.getD i ev0).k ≠ 2 /\ (l.ev.getD i ev0).k ≠ 3 /\ (l.ev.getD i ev0).k ≠ 4)) : Mut (Xc W0 Gt) 52 [.ptr 0 0, .int .i64 i] (mcO t l s) (.int .i64 (evF t l s i)) (mcO t l (evS_ t l s i)) := by
 have hm := hs.get
 have nn := hm.nums
 obtain ⟨n1, n2, n3, n4, n5, n6, n7, n8, n9⟩ := nn
 have mk_ := hm.m
 have hv := hv.get
 have hk := hk.get
 have gh := gd_head hm.g.al
 have ee := ev_ok (gh.2.2.2.2 i hk.2)
 have el := gh.2.2.2.1
 have w := evF_eq (t := t) (l := l) (s := s) (i := i) (evG_5 hv.1 hv.2.1 hv.2.2.1 hv.2.2.2.1 hv.2.2.2.2)
 have h2 : Side (Hm t l s) := Side.mk (by rw [<- w.1]; exact ⟨hm.g, (ev_mok hm.g hk.1 hk.2).mono (by omega)⟩)
 have hx0 : ((l.ev.getD i ev0).k == 0) = true -> False := fun q => absurd (eq_of_beq q) (by omega)
 have hx1 : ((l.ev.getD i ev0).k == 1) = true -> False := fun q => absurd (eq_of_beq q) (by omega)
 have hx2 : ((l.ev.getD i ev0).k == 2) = true -> False := fun q => absurd (eq_of_beq q) (by omega)
 have hx3 : ((l.ev.getD i ev0).k == 3) = true -> False := fun q => absurd (eq_of_beq q) (by omega)
 have hx4 : ((l.ev.getD i ev0).k == 4) = true -> False := fun q => absurd (eq_of_beq q) (by omega)
 refine mut_of' hX (fnI Tryz.f52) rfl ?_
 repeat' (first
  | (refine Ax.go ?_; with_reducible first | (apply altM (ks := [0, 1, 2, 3, 4]) (m := 0); apply And.intro; apply Sc.of; apply (c56 hX t l s h2)) | apply callAlt (c49 hX _ _) | apply callAlt (c48_2 hX _ _) | apply Alt.one)
  | ((with_reducible refine Ar.go ?_); first | exact ⟨le_slc2 rfl rfl, trivial⟩ | exact AllLe.refl _ | (repeat' (first | exact trivial | apply Le.aggs | apply Le.tups | apply Le.fns | exact Le.refl _ | refine ⟨?_, ?_⟩)))
  | exact Cl.go
  | exact Ce.go
  | ((fail_if_success refine Stop.go ?_); (first | exact (hx0 ‹_›).elim | exact (hx1 ‹_›).elim | exact (hx2 ‹_›).elim | exact (hx3 ‹_›).elim | exact (hx4 ‹_›).elim | (with_reducible first | apply And.intro | apply Cut.go | (refine impI ?_; intro _)) | (refine propI ?_; conv => whnf))))
 all_goals try exact nbZ
 all_goals try ((with_reducible refine (?_ : Sc _ _)); (try simp only [Int.toNat_natCast]); exact Sc.of ⟨by omega, by omega⟩)
 rw [w.1, w.2]
 exact .mk [] [] _ rfl (.le (.refl _)) (.ofEq (by kernel_rfl)) (by kernel_rfl)
theorem c52 (t : Trf) (l : Log) (s : Mc) (hs : Side (Hm t l s)) (i : Nat) (hk : Side (MOk t i s /\ i < l.ev.length)) : Mut (Xc W0 Gt) 52 [.ptr 0 0, .int .i64 i] (mcO t l s) (.int .i64 (evF t l s i)) (mcO t l (evS_ t l s i)) := by
 by_cases h0 : (l.ev.getD i ev0).k = 0
 ·exact c52_0 hX t l s hs i hk (Side.mk h0)
 by_cases h1 : (l.ev.getD i ev0).k = 1
 ·exact c52_1 hX t l s hs i hk (Side.mk h1)
 by_cases h2 : (l.ev.getD i ev0).k = 2
 ·exact c52_2 hX t l s hs i hk (Side.mk h2)
 by_cases h3 : (l.ev.getD i ev0).k = 3
 ·by_cases z : (l.ev.getD i ev0).n < t.zones.length
  ·exact c52_3 hX t l s hs i hk (Side.mk ⟨h3, z⟩)
  ·exact c52_3n hX t l s hs i hk (Side.mk ⟨h3, z⟩)
 by_cases h4 : (l.ev.getD i ev0).k = 4
 ·exact c52_4 hX t l s hs i hk (Side.mk h4)
 exact c52_5 hX t l s hs i hk (Side.mk ⟨h0, h1, h2, h3, h4⟩)
end
end Go.Fx
