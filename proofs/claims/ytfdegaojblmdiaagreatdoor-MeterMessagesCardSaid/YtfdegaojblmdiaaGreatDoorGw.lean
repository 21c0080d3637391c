/-
  The meter's machine: changes, ticks, positions, events.
-/
import Derived.Test.YtfdegaojblmdiaaGreatDoorGv
import Derived.Test.YtfdegaojblmdiaaGreatDoorGf
import Derived.Test.YtfdegaojblmdiaaGreatDoorGr

set_option linter.all false

/-
  The meter's machine, plainly: what its steps leave of the sizes of its numbers.
-/
namespace Go.Fx
open Go.Proofs
theorem chS_f {t : Trf} {l : Log} {s : Mc} (h : chgB s = false) : chS t l s = { s with si := 0 } := by unfold chS; rw [h]; rfl
theorem chS_t {t : Trf} {l : Log} {s : Mc} (h : chgB s = true) (e : mrE t l s = 0) : chS t l s = { ntS t l s (mrN t l s) s.si 0 with si := 0 } := by unfold chS; rw [h, e]; rfl
theorem chS_e {t : Trf} {l : Log} {s : Mc} (h : chgB s = true) (e : mrE t l s ≠ 0) : chS t l s = s := by unfold chS; rw [h, decide_eq_false e]; rfl
theorem chE_f {t : Trf} {l : Log} {s : Mc} (h : chgB s = false) : chE_ t l s = 0 := by unfold chE_; rw [h]; rfl
theorem chE_t {t : Trf} {l : Log} {s : Mc} (h : chgB s = true) : chE_ t l s = mrE t l s := by unfold chE_; rw [h]; rfl
theorem chg_iff {s : Mc} : chgB s = true ↔ rnB s = true ∧ 0 < s.si := by
  unfold chgB
  cases rnB s <;> simp
theorem rn_iff {s : Mc} : rnB s = true ↔ s.ps = 1 ∨ s.ps = 2 := by
  unfold rnB
  by_cases h1 : s.ps = 1
  · simp [h1]
  · by_cases h2 : s.ps = 2
    · simp [h2]
    · simp [h1, h2]
theorem rdS_eq {t : Trf} {l : Log} {s : Mc} {n : Int} : rdS t l s n = { ntS t l s (bif rnB s then mrN t l s else 0) (bif rnB s then s.si else 0) (rdK t l s n) with si := 0, tk := s.tk + rdK t l s n } := by unfold rdS; rfl
theorem tm_0 {t : Trf} {l : Log} {s : Mc} {ru pu : Int} : tmB t l s ru pu 0 = false := by unfold tmB; rfl
theorem nta_0 {t : Trf} {l : Log} {s : Mc} {ru pu : Int} (h : rnB s = true) : ntA t l s ru pu 0 = s.pa + dstQ t ru pu := by
  unfold ntA; rw [h, tm_0]; show s.pa + dstQ t ru pu * max 1 0 = _; rw [max1 (by decide) (by decide), Int.mul_one]
theorem nta_f {t : Trf} {l : Log} {s : Mc} {ru pu tk : Int} (h : rnB s = false) : ntA t l s ru pu tk = s.pa := by unfold ntA; rw [h]; rfl
theorem rn_f {s : Mc} (h : ¬ rnB s = true) : rnB s = false := by cases q : rnB s <;> simp_all
theorem ch_ok {t : Trf} {l : Log} {s : Mc} {k : Int} (g : Gd t l) (h : MOk t k s) (hk : k ≤ 201) : MOk t (k + 1) (chS t l s) := by
  have hm : Hm t l s := ⟨g, h.mono hk⟩
  have h1 := h.tk; have h2 := h.si; have h3 := h.pu; have h4 := h.pa; have h5 := h.tr; have h6 := h.zs; have h7 := h.pc
  cases q : chgB s with
  | false =>
    rw [chS_f q]
    exact ⟨by show 0 ≤ s.tk ∧ s.tk ≤ _; omega, by show (0 : Int) ≤ 0 ∧ 0 ≤ s.pu; omega, by show s.pu ≤ _; omega, by show 0 ≤ s.pa ∧ s.pa ≤ 1000000000 * (s.pu - 0) + 100000000000 * s.tk; omega, h.ps, h.zn, h.st, h.exl, h.ex0, h.ex, by show (s.tr.length : Int) ≤ _; omega, by show (s.zs.length : Int) ≤ _; omega, by show (s.pc.length : Int) ≤ s.tk + _; omega⟩
  | true =>
    obtain ⟨hr, hsi⟩ := chg_iff.1 q
    by_cases e : mrE t l s = 0
    · have hR := mr_rule g.trf e
      have d := dst_bd (pu := s.si) hR h2.1
      rw [chS_t q e, nt_eq, nta_0 hr]
      exact ⟨by show 0 ≤ s.tk ∧ s.tk ≤ _; omega, by show (0 : Int) ≤ 0 ∧ 0 ≤ s.pu; omega, by show s.pu ≤ _; omega,
        by show 0 ≤ s.pa + dstQ t (mrN t l s) s.si ∧ s.pa + dstQ t (mrN t l s) s.si ≤ 1000000000 * (s.pu - 0) + 100000000000 * s.tk; omega, h.ps, h.zn, h.st, h.exl, h.ex0, h.ex, by show (s.tr.length : Int) ≤ _; omega, by show (s.zs.length : Int) ≤ _; omega,
        by show ((s.pc ++ [_]).length : Int) ≤ s.tk + _; simp only [List.length_append, List.length_cons, List.length_nil]; omega⟩
    · rw [chS_e q e]; exact h.mono (by omega)
/-- What a change leaves as it is. -/
theorem ch_same (t : Trf) (l : Log) (s : Mc) : (chS t l s).ps = s.ps ∧ (chS t l s).tk = s.tk ∧ (chS t l s).pu = s.pu ∧ (chS t l s).zn = s.zn ∧ (chS t l s).st = s.st ∧ (chS t l s).ex = s.ex ∧ (chS t l s).tr = s.tr ∧ (chS t l s).zs = s.zs ∧ (chS t l s).fe = s.fe ∧ (chS t l s).ad = s.ad ∧ (chS t l s).at_ = s.at_ := by
  cases q : chgB s with
  | false => rw [chS_f q]; exact ⟨rfl, rfl, rfl, rfl, rfl, rfl, rfl, rfl, rfl, rfl, rfl⟩
  | true =>
    by_cases e : mrE t l s = 0
    · rw [chS_t q e, nt_eq]; exact ⟨rfl, rfl, rfl, rfl, rfl, rfl, rfl, rfl, rfl, rfl, rfl⟩
    · rw [chS_e q e]; exact ⟨rfl, rfl, rfl, rfl, rfl, rfl, rfl, rfl, rfl, rfl, rfl⟩

theorem rdK_bd {t : Trf} {l : Log} {s : Mc} {n : Int} (hn : 0 < n) : 1 ≤ rdK t l s n ∧ rdK t l s n ≤ n ∧ (rnB s = true → 1 < rdK t l s n → ¬ 0 < s.si) := by
  unfold rdK
  cases q : rnB s with
  | false => exact ⟨by show 1 ≤ n; omega, by show n ≤ n; omega, fun h => (by cases h)⟩
  | true =>
    by_cases h : 0 < s.si
    · rw [decide_eq_true h]; exact ⟨by show (1 : Int) ≤ 1; omega, by show 1 ≤ n; omega, fun _ h => by replace h : (1 : Int) < 1 := h; omega⟩
    · rw [decide_eq_false h]
      have : 1 ≤ stdQ t l s := by unfold stdQ; exact std_ge _ _
      exact ⟨by show 1 ≤ min n _; omega, by show min n _ ≤ n; omega, fun _ _ => h⟩
theorem rd_ok {t : Trf} {l : Log} {s : Mc} {k n : Int} (g : Gd t l) (h : MOk t k s) (hk : k ≤ 201) (e : rdE t l s = 0) (hn : 0 < n) (hn2 : s.tk + n ≤ 3600 * k) : MOk t k (rdS t l s n) ∧ (rdS t l s n).tk = s.tk + rdK t l s n := by
  have hm : Hm t l s := ⟨g, h.mono hk⟩
  have h1 := h.tk; have h2 := h.si; have h3 := h.pu; have h4 := h.pa; have h5 := h.tr; have h6 := h.zs; have h7 := h.pc
  have b := rdK_bd (t := t) (l := l) (s := s) hn
  rw [rdS_eq, nt_eq]
  refine ⟨?_, rfl⟩
  have key : 0 ≤ ntA t l s (bif rnB s then mrN t l s else 0) (bif rnB s then s.si else 0) (rdK t l s n) ∧ ntA t l s (bif rnB s then mrN t l s else 0) (bif rnB s then s.si else 0) (rdK t l s n) ≤ 1000000000 * (s.pu - 0) + 100000000000 * (s.tk + rdK t l s n) := by
    cases q : rnB s with
    | false => rw [nta_f q]; omega
    | true =>
      have e : mrE t l s = 0 := by unfold rdE at e; rw [q] at e; exact e
      have hR := mr_rule g.trf e
      have d := dst_bd (pu := s.si) hR h2.1
      have c := scn_bd (l := l) hR hm.nums.1
      unfold ntA
      rw [q]
      show 0 ≤ s.pa + (bif tmB t l s (mrN t l s) s.si (rdK t l s n) then _ else _) * max 1 (rdK t l s n) ∧ s.pa + (bif tmB t l s (mrN t l s) s.si (rdK t l s n) then _ else _) * max 1 (rdK t l s n) ≤ _
      rw [show max 1 (rdK t l s n) = rdK t l s n by omega]
      cases tmB t l s (mrN t l s) s.si (rdK t l s n) with
      | true =>
        have w := mul_bd (A := 100000000000) (B := rdK t l s n) c.1 c.2 (show 0 ≤ rdK t l s n by omega) (Int.le_refl _)
        show 0 ≤ s.pa + scnQ t l (mrN t l s) * _ ∧ s.pa + scnQ t l (mrN t l s) * _ ≤ _
        omega
      | false =>
        show 0 ≤ s.pa + dstQ t (mrN t l s) s.si * _ ∧ s.pa + dstQ t (mrN t l s) s.si * _ ≤ _
        by_cases h8 : 0 < s.si
        · have h9 : rdK t l s n = 1 := by unfold rdK; rw [q, decide_eq_true h8]; rfl
          rw [h9, Int.mul_one]; omega
        · have h9 : s.si = 0 := by omega
          rw [h9, dst_0, Int.zero_mul]; omega
  exact ⟨by show 0 ≤ s.tk + rdK t l s n ∧ s.tk + rdK t l s n ≤ _; omega, by show (0 : Int) ≤ 0 ∧ 0 ≤ s.pu; omega, by show s.pu ≤ _; omega, key, h.ps, h.zn, h.st, h.exl, h.ex0, h.ex, h5, h6,
    by show ((s.pc ++ [_]).length : Int) ≤ s.tk + rdK t l s n + _; simp only [List.length_append, List.length_cons, List.length_nil]; omega⟩
theorem tkF_ok {t : Trf} {l : Log} {k : Int} (g : Gd t l) (hk : k ≤ 201) : ∀ (f : Nat) (s : Mc) (n : Int), MOk t k s → s.tk + n ≤ 3600 * k → MOk t k (tkF t l f s n).1
  | 0, s, n, h, _ => h
  | f + 1, s, n, h, hn => by
    unfold tkF
    by_cases q : 0 < n
    · rw [decide_eq_true q]
      by_cases e : rdE t l s = 0
      · have w := rd_ok g h hk e q hn
        have b := rdK_bd (t := t) (l := l) (s := s) q
        rw [e]
        by_cases c : 1000000000 < mFare t l (rdS t l s n)
        · rw [decide_eq_true c]; exact w.1
        · rw [decide_eq_false c]; exact tkF_ok g hk f _ _ w.1 (by rw [w.2]; omega)
      · rw [decide_eq_false e]; exact h
    · rw [decide_eq_false q]; exact h
theorem rdS_1 {t : Trf} {l : Log} {s : Mc} {n : Int} (hr : rnB s = true) (h : 0 < s.si) : rdK t l s n = 1 ∧ rdS t l s n = { ntS t l s (mrN t l s) s.si 1 with si := 0, tk := s.tk + 1 } := by
  have k : rdK t l s n = 1 := by unfold rdK; rw [hr, decide_eq_true h]; rfl
  rw [rdS_eq, k, hr]; exact ⟨rfl, rfl⟩
theorem rdS_2 {t : Trf} {l : Log} {s : Mc} {n : Int} (hr : rnB s = true) (h : ¬ 0 < s.si) : rdK t l s n = min n (stdQ t l s) ∧ rdS t l s n = { ntS t l s (mrN t l s) s.si (min n (stdQ t l s)) with si := 0, tk := s.tk + min n (stdQ t l s) } := by
  have k : rdK t l s n = min n (stdQ t l s) := by unfold rdK; rw [hr, decide_eq_false h]; rfl
  rw [rdS_eq, k, hr]; exact ⟨rfl, rfl⟩
theorem rdS_3 {t : Trf} {l : Log} {s : Mc} {n : Int} (hr : rnB s = false) : rdK t l s n = n ∧ rdS t l s n = { ntS t l s 0 0 n with si := 0, tk := s.tk + n } := by
  have k : rdK t l s n = n := by unfold rdK; rw [hr]; rfl
  rw [rdS_eq, k, hr]; exact ⟨rfl, rfl⟩
theorem rdE_t {t : Trf} {l : Log} {s : Mc} (hr : rnB s = true) : rdE t l s = mrE t l s := by unfold rdE; rw [hr]; rfl
theorem rdE_f {t : Trf} {l : Log} {s : Mc} (hr : rnB s = false) : rdE t l s = 0 := by unfold rdE; rw [hr]; rfl
theorem tk_ok {t : Trf} {l : Log} {k n : Int} {s : Mc} (g : Gd t l) (hk : k ≤ 201) (h : MOk t k s) (hn : s.tk + n ≤ 3600 * k) : MOk t k (tkS t l s n) := by unfold tkS; exact tkF_ok g hk _ s n h hn
end Go.Fx

/-
  The meter's machine: changes, ticks, supplements.
-/
namespace Go.Fx
open Go.Proofs Go.RowKit
section
variable {W0 : World} {G : Nat → Option AV} (hX : (Xc W0 G).Good)
include hX
end
end Go.Fx

/-
  The meter's machine, plainly: supplements, positions, events, logs.
-/
namespace Go.Fx
open Go.Proofs
theorem mx_bad {t : Trf} {s : Mc} {n e : Int} (h : mxH t s n = e) (h0 : e ≠ 0) : mxE t s n = e ∧ mxU t s n = s := by
  have w : mxE t s n = e := by unfold mxE; rw [h, decide_eq_false h0]; rfl
  exact ⟨w, by unfold mxU; rw [w, decide_eq_false h0]; rfl⟩
theorem mx_full {t : Trf} {s : Mc} {n : Int} (h : mxH t s n = 0) (c : 20 ≤ s.ex.getD n.toNat 0) : mxE t s n = 16 ∧ mxU t s n = s := by
  have w : mxE t s n = 16 := by unfold mxE; rw [h, decide_eq_true c]; rfl
  exact ⟨w, by unfold mxU; rw [w]; rfl⟩
theorem mx_add {t : Trf} {s : Mc} {n : Int} (h : mxH t s n = 0) (c : ¬ 20 ≤ s.ex.getD n.toNat 0) : mxE t s n = 0 ∧ mxU t s n = { s with ex := s.ex.set n.toNat (s.ex.getD n.toNat 0 + 1) } := by
  have w : mxE t s n = 0 := by unfold mxE; rw [h, decide_eq_false c]; rfl
  exact ⟨w, by unfold mxU; rw [w]; rfl⟩
theorem mxH_0 {t : Trf} {s : Mc} {n : Int} (h : mxH t s n = 0) : n < t.extras.length ∧ s.ps ≠ 0 := by
  unfold mxH at h
  have z := firstS_zero h
  have z0 := isOk_0 (b := decide (n < t.extras.length)) (e := 6) (z _ (by simp)) (by decide)
  have z1 := isOk_0 (b := s.ps != 0) (e := 22) (z _ (by simp)) (by decide)
  exact ⟨of_decide_eq_true z0, bne_iff_ne.1 z1⟩
theorem getD_set {l : List Int} {i j : Nat} {v : Int} : (l.set i v).getD j 0 = if i = j ∧ i < l.length then v else l.getD j 0 := by
  simp only [List.getD_eq_getElem?_getD, List.getElem?_set]
  by_cases h : i = j
  · subst h
    by_cases q : i < l.length
    · simp [q]
    · simp [q]
  · simp [h]
theorem mx_ok {t : Trf} {s : Mc} {k n : Int} (h : MOk t k s) (hn : 0 ≤ n) : MOk t k (mxU t s n) := by
  by_cases q : mxH t s n = 0
  · by_cases c : 20 ≤ s.ex.getD n.toNat 0
    · rw [(mx_full q c).2]; exact h
    · rw [(mx_add q c).2]
      refine ⟨h.tk, h.si, h.pu, h.pa, h.ps, h.zn, h.st, fun h0 => by show (s.ex.set _ _).length = _; rw [List.length_set]; exact h.exl h0, fun h0 => absurd h0 (mxH_0 q).2, fun j => ?_, h.tr, h.zs, h.pc⟩
      show 0 ≤ (s.ex.set _ _).getD j 0 ∧ (s.ex.set _ _).getD j 0 ≤ 20
      rw [getD_set]
      have a := h.ex j
      have b := h.ex n.toNat
      split <;> omega
  · rw [(mx_bad rfl q).2]; exact h
/-- Positions. -/
theorem go_bd {a b : Int} (h : goB a b = true) : 0 ≤ b ∧ b ≤ 3 := by
  unfold goB at h
  by_cases h0 : a = 0
  · rw [show (a == 0) = true by simp [h0]] at h
    have := eq_of_beq (show (b == 1) = true from h); omega
  · rw [show (a == 0) = false by simp [h0]] at h
    by_cases h1 : a = 1
    · rw [show (a == 1) = true by simp [h1]] at h
      by_cases c : b = 2
      · omega
      · rw [show (b == 2) = false by simp [c]] at h
        have := eq_of_beq (show (b == 3) = true from h); omega
    · rw [show (a == 1) = false by simp [h1]] at h
      by_cases h2 : a = 2
      · rw [show (a == 2) = true by simp [h2]] at h
        by_cases c : b = 1
        · omega
        · rw [show (b == 1) = false by simp [c]] at h
          have := eq_of_beq (show (b == 3) = true from h); omega
      · rw [show (a == 2) = false by simp [h2]] at h
        by_cases c : b = 1
        · omega
        · rw [show (b == 1) = false by simp [c]] at h
          have := eq_of_beq (show (b == 0) = true from h); omega
theorem po_no {t : Trf} {l : Log} {s : Mc} {i p : Int} (h : goB s.ps p = false) : poE t l s i p = 22 ∧ poS t l s i p = s := by
  unfold poE poS; rw [h]; exact ⟨rfl, rfl⟩
theorem po_ch {t : Trf} {l : Log} {s : Mc} {i p : Int} (h : goB s.ps p = true) (e : chE_ t l s ≠ 0) : poE t l s i p = chE_ t l s ∧ poS t l s i p = chS t l s := by
  unfold poE poS; rw [h, decide_eq_false e]; exact ⟨rfl, rfl⟩
theorem po_bgE {t : Trf} {l : Log} {s : Mc} {i p : Int} (h : goB s.ps p = true) (e : chE_ t l s = 0) (h0 : s.ps = 0) (r : mrE t l (chS t l s) ≠ 0) : poE t l s i p = mrE t l (chS t l s) ∧ poS t l s i p = chS t l s := by
  unfold poE poS; rw [h, e, decide_eq_false r, show (s.ps == 0) = true by simp [h0]]; exact ⟨rfl, rfl⟩
theorem po_bg {t : Trf} {l : Log} {s : Mc} {i p : Int} (h : goB s.ps p = true) (e : chE_ t l s = 0) (h0 : s.ps = 0) (r : mrE t l (chS t l s) = 0) : poE t l s i p = 0 ∧ poS t l s i p = { bgS t l (chS t l s) i with ps := p } := by
  unfold poE poS; rw [h, e, r, show (s.ps == 0) = true by simp [h0]]; exact ⟨rfl, rfl⟩
theorem po_ed {t : Trf} {l : Log} {s : Mc} {i p : Int} (h : goB s.ps p = true) (e : chE_ t l s = 0) (h0 : s.ps ≠ 0) (hp : p = 0) : poE t l s i p = 0 ∧ poS t l s i p = { edS t l (chS t l s) i with ps := p } := by
  unfold poE poS; rw [h, e, show (s.ps == 0) = false by simp [h0], show (p == 0) = true by simp [hp]]; exact ⟨rfl, rfl⟩
theorem po_mv {t : Trf} {l : Log} {s : Mc} {i p : Int} (h : goB s.ps p = true) (e : chE_ t l s = 0) (h0 : s.ps ≠ 0) (hp : p ≠ 0) : poE t l s i p = 0 ∧ poS t l s i p = { chS t l s with ps := p } := by
  unfold poE poS; rw [h, e, show (s.ps == 0) = false by simp [h0], show (p == 0) = false by simp [hp]]; exact ⟨rfl, rfl⟩
theorem rep_at0 (n j : Nat) : (List.replicate n (0 : Int)).getD j 0 = 0 := by
  rw [List.getD_eq_getElem?_getD]
  cases e : (List.replicate n (0 : Int))[j]? with
  | none => rfl
  | some v => exact List.eq_of_mem_replicate (List.mem_of_getElem? e)
theorem po_ok {t : Trf} {l : Log} {s : Mc} {k i p : Int} (g : Gd t l) (h : MOk t k s) (hk : k ≤ 200) : MOk t (k + 1) (poS t l s i p) := by
  have c := ch_ok g h (by omega)
  have sm := ch_same t l s
  cases q : goB s.ps p with
  | false => rw [(po_no (t := t) (l := l) (i := i) q).2]; exact h.mono (by omega)
  | true =>
    by_cases e : chE_ t l s = 0
    · have hp := go_bd q
      by_cases h0 : s.ps = 0
      · by_cases r : mrE t l (chS t l s) = 0
        · rw [(po_bg q e h0 r).2]
          have hR := mr_rule g.trf r
          have st := hR.st
          have p1 := go_bd q
          have pp : p ≠ 0 := by
            unfold goB at q
            rw [show (s.ps == 0) = true by simp [h0]] at q
            have := eq_of_beq (show (p == 1) = true from q); omega
          have b1 := c.tk; have b2 := c.si; have b3 := c.pu; have zs := h.zs
          refine ⟨c.tk, c.si, c.pu, ?_, hp, c.zn, st, fun _ => List.length_replicate, fun h => absurd h pp, fun j => by show 0 ≤ (List.replicate _ (0 : Int)).getD j 0 ∧ (List.replicate _ (0 : Int)).getD j 0 ≤ 20; rw [rep_at0]; omega, c.tr, ?_, c.pc⟩
          · show (0 : Int) ≤ 0 ∧ 0 ≤ 1000000000 * ((chS t l s).pu - (chS t l s).si) + 100000000000 * (chS t l s).tk
            omega
          · show (((chS t l s).zs ++ [_]).length : Int) ≤ k + 1
            rw [sm.2.2.2.2.2.2.2.1]; simp only [List.length_append, List.length_cons, List.length_nil]; omega
        · rw [(po_bgE (i := i) q e h0 r).2]; exact c
      · by_cases hz : p = 0
        · rw [(po_ed q e h0 hz).2]
          have tr := h.tr
          refine ⟨c.tk, c.si, c.pu, c.pa, hp, c.zn, c.st, fun h => absurd hz h, fun _ => rfl, fun j => by show 0 ≤ ([] : List Int).getD j 0 ∧ ([] : List Int).getD j 0 ≤ 20; simp, ?_, c.zs, c.pc⟩
          show (((chS t l s).tr ++ [_]).length : Int) ≤ k + 1
          rw [sm.2.2.2.2.2.2.1]; simp only [List.length_append, List.length_cons, List.length_nil]; omega
        · rw [(po_mv (i := i) q e h0 hz).2]
          exact ⟨c.tk, c.si, c.pu, c.pa, hp, c.zn, c.st, fun _ => c.exl (by rw [sm.1]; exact h0), fun h => absurd h hz, c.ex, c.tr, c.zs, c.pc⟩
    · rw [(po_ch (i := i) q e).2]; exact c
end Go.Fx

/-
  The meter's machine: supplements, positions.
-/
namespace Go.Fx
open Go.Proofs Go.RowKit

section
variable {W0 : World} {G : Nat → Option AV} (hX : (Xc W0 G).Good)
include hX
end
section
variable {W0 : World} (hX : (Xc W0 Gt).Good)
include hX
end
end Go.Fx

/-
  The meter's machine, plainly: events, logs.
-/
namespace Go.Fx
open Go.Proofs
theorem evS_eq {t : Trf} {l : Log} {s : Mc} {i : Nat} : evS_ t l s i = evG t l s i (l.ev.getD i ev0) := by unfold evS_; rfl
theorem evG_0 {t : Trf} {l : Log} {s : Mc} {i : Int} {v : Ev} (h : v.k = 0) : evG t l s i v = { s with si := s.si + v.n, pu := s.pu + v.n } ∧ evH t l s i v = 0 := by unfold evG evH; rw [h]; exact ⟨rfl, rfl⟩
theorem evG_1 {t : Trf} {l : Log} {s : Mc} {i : Int} {v : Ev} (h : v.k = 1) : evG t l s i v = tkS t l s v.n ∧ evH t l s i v = tkE t l s v.n := by unfold evG evH; rw [h]; exact ⟨rfl, rfl⟩
theorem evG_2 {t : Trf} {l : Log} {s : Mc} {i : Int} {v : Ev} (h : v.k = 2) : evG t l s i v = poS t l s i v.n ∧ evH t l s i v = poE t l s i v.n := by unfold evG evH; rw [h]; exact ⟨rfl, rfl⟩
theorem evG_3 {t : Trf} {l : Log} {s : Mc} {i : Int} {v : Ev} (h : v.k = 3) (hz : v.n < t.zones.length) : evG t l s i v = { chS t l s with zn := v.n } ∧ evH t l s i v = chE_ t l s := by unfold evG evH; rw [h, decide_eq_true hz]; exact ⟨rfl, rfl⟩
theorem evG_3' {t : Trf} {l : Log} {s : Mc} {i : Int} {v : Ev} (h : v.k = 3) (hz : ¬ v.n < t.zones.length) : evG t l s i v = s ∧ evH t l s i v = 6 := by unfold evG evH; rw [h, decide_eq_false hz]; exact ⟨rfl, rfl⟩
theorem evG_4 {t : Trf} {l : Log} {s : Mc} {i : Int} {v : Ev} (h : v.k = 4) : evG t l s i v = mxU t s v.n ∧ evH t l s i v = mxE t s v.n := by unfold evG evH; rw [h]; exact ⟨rfl, rfl⟩
theorem evG_5 {t : Trf} {l : Log} {s : Mc} {i : Int} {v : Ev} (h0 : v.k ≠ 0) (h1 : v.k ≠ 1) (h2 : v.k ≠ 2) (h3 : v.k ≠ 3) (h4 : v.k ≠ 4) : evG t l s i v = s ∧ evH t l s i v = 0 := by
  unfold evG evH
  rw [show (v.k == 0) = false by simp [h0], show (v.k == 1) = false by simp [h1], show (v.k == 2) = false by simp [h2], show (v.k == 3) = false by simp [h3], show (v.k == 4) = false by simp [h4]]; exact ⟨rfl, rfl⟩
theorem ev_mok {t : Trf} {l : Log} {s : Mc} {k : Nat} (g : Gd t l) (h : MOk t k s) (hk : k < l.ev.length) : MOk t (k + 1) (evS_ t l s k) := by
  have gh := gd_head g.al
  have e := ev_ok (gh.2.2.2.2 k hk)
  have hk2 : (k : Int) ≤ 199 := by have := gh.2.2.2.1; omega
  have h1 := h.tk; have h2 := h.si; have h3 := h.pu; have h4 := h.pa; have h5 := h.tr; have h6 := h.zs; have h7 := h.pc
  rw [evS_eq]
  generalize l.ev.getD k ev0 = v at *
  obtain ⟨e0, e1, e2, e3, e4, e5⟩ := e
  by_cases q0 : v.k = 0
  · rw [(evG_0 q0).1]
    have w := e1 q0
    exact ⟨by show 0 ≤ s.tk ∧ s.tk ≤ _; omega, by show 0 ≤ s.si + v.n ∧ s.si + v.n ≤ s.pu + v.n; omega, by show s.pu + v.n ≤ _; omega, by show 0 ≤ s.pa ∧ s.pa ≤ 1000000000 * (s.pu + v.n - (s.si + v.n)) + 100000000000 * s.tk; omega, h.ps, h.zn, h.st, h.exl, h.ex0, h.ex, by show (s.tr.length : Int) ≤ _; omega, by show (s.zs.length : Int) ≤ _; omega, by show (s.pc.length : Int) ≤ s.tk + _; omega⟩
  by_cases q1 : v.k = 1
  · rw [(evG_1 q1).1]
    have w := e2 q1
    exact tk_ok g (by omega) (h.mono (by omega)) (by omega)
  by_cases q2 : v.k = 2
  · rw [(evG_2 q2).1]
    exact po_ok g h (by omega)
  by_cases q3 : v.k = 3
  · by_cases z : v.n < t.zones.length
    · rw [(evG_3 q3 z).1]
      have c := ch_ok g h (by omega)
      exact ⟨c.tk, c.si, c.pu, c.pa, c.ps, ⟨e4, e5⟩, c.st, c.exl, c.ex0, c.ex, c.tr, c.zs, c.pc⟩
    · rw [(evG_3' q3 z).1]; exact h.mono (by omega)
  by_cases q4 : v.k = 4
  · rw [(evG_4 q4).1]; exact (mx_ok h e4).mono (by omega)
  rw [(evG_5 q0 q1 q2 q3 q4).1]; exact h.mono (by omega)
theorem mcN_ok {t : Trf} {l : Log} (g : Gd t l) : ∀ k : Nat, k ≤ l.ev.length → MOk t k (mcN t l k)
  | 0, _ => mok0 t
  | k + 1, h => by
    have w := ev_mok g (mcN_ok g k (by omega)) (by omega)
    exact w
end Go.Fx

/-
  The meter's machine: events.
-/
namespace Go.Fx
open Go.Proofs Go.RowKit

theorem evF_eq {t : Trf} {l : Log} {s s2 : Mc} {i : Nat} {e : Int} (h : evG t l s i (l.ev.getD i ev0) = s2 ∧ evH t l s i (l.ev.getD i ev0) = e) : evS_ t l s i = s2 ∧ evF t l s i = firstS [e, bif decide (mFare t l s2 ≤ 1000000000) then 0 else 8] := by
  have h1 : evS_ t l s i = s2 := by rw [evS_eq]; exact h.1
  refine ⟨h1, ?_⟩
  unfold evF; rw [h1, h.2]; rfl
section
variable {W0 : World} (hX : (Xc W0 Gt).Good)
include hX
end
end Go.Fx
