/-
 What a tariff's text says, in plain Lean.
-/
import Derived.Test.YtkinfbkpecjpnaaGreatDoorGi
import Derived.Test.YtkinfbkpecjpnaaGreatDoorHc
set_option linter.all false
/-
 The lines of a text; a byte in place of another one. Plain law.
-/
namespace Go.Fx
open Go.Proofs Go.RowKit
def rpB (a b : UInt8) (s : Tx) : Tx := s.map fun x => if x = a then b else x
theorem rpB_no {a b : UInt8} {s : Tx} (h : a ∉ s) : rpB a b s = s := by
 unfold rpB
 conv => rhs; rw [<- List.map_id s]
 refine List.map_congr_left fun x hx => ?_
 rw [if_neg (show ¬ x = a from fun e => h (by rw [<- e]; exact hx))]; rfl
theorem byte_split {c : UInt8} {s : Tx} {i : Nat} (h : Lib.indexByte s c = i) : s = s.take i ++ c :: s.drop (i + 1) /\ c ∉ s.take i /\ i < s.length := by
 obtain ⟨h1, h2⟩ := Lib.indexByte_some h
 have hi : i < s.length := (List.getElem?_eq_some_iff.1 h1).1
 refine ⟨?_, fun hm => ?_, hi⟩
 ·have e1 : s.drop i = c :: s.drop (i + 1) := by
   rw [List.drop_eq_getElem_cons hi]
   rw [List.getElem?_eq_getElem hi] at h1
   rw [Option.some.inj h1]
  rw [<- e1, List.take_append_drop]
 ·obtain ⟨k, hk⟩ := List.getElem?_of_mem hm
  rw [List.getElem?_take] at hk
  split at hk
  ·exact h2 k (by assumption) hk
  ·cases hk
theorem replaceK_rp {a b : UInt8} : ∀ (k : Nat) (s : Tx), s.count a = k -> Lib.replaceK [a] [b] k s = rpB a b s
 | 0, s, h => by
  rw [rpB_no (List.count_eq_zero.1 h)]; rfl
 | k + 1, s, h => by
  have hm : ∃ i : Nat, Lib.indexByte s a = i := by
   have hge := Lib.indexByte_ge s a
   by_cases q : Lib.indexByte s a = -1
   ·exfalso
    have : a ∈ s := List.count_pos_iff.1 (by omega)
    obtain ⟨j, hj⟩ := List.getElem?_of_mem this
    exact Lib.indexByte_none q j hj
   ·exact ⟨(Lib.indexByte s a).toNat, by omega⟩
  obtain ⟨i, hi⟩ := hm
  obtain ⟨e, h2, h3⟩ := byte_split hi
  rw [Lib.replaceK_hit [a] [b] k s i (by rw [Lib.index_one]; exact hi)]
  have hc : (s.drop (i + 1)).count a = k := by
   have := congrArg (List.count a) e
   rw [List.count_append, List.count_cons_self, List.count_eq_zero.2 h2] at this
   omega
  have ih := replaceK_rp (a := a) (b := b) k (s.drop (i + 1)) hc
  rw [show i + [a].length = i + 1 from rfl, ih]
  conv => rhs; rw [e]
  unfold rpB
  rw [List.map_append, List.map_cons, if_pos rfl]
  rw [show (s.take i).map (fun x => if x = a then b else x) = s.take i from rpB_no h2]
  simp
theorem replaceAll_rp {a b : UInt8} (h : a ≠ b) (s : Tx) : Lib.replaceAll s [a] [b] = rpB a b s := by
 unfold Lib.replaceAll Lib.replace
 rw [show ([a] == [b]) = false from by simpa using h]
 show Lib.replaceK [a] [b] (Lib.replaceNum s [a] (-1)) s = _
 unfold Lib.replaceNum
 rw [if_pos (.inl (by decide)), Lib.count_one]
 exact replaceK_rp _ _ rfl
def linT (s : Tx) : List Tx := if (cut 10 s).getLast? = some [] then (cut 10 s).dropLast else cut 10 s
theorem linT_miss {s : Tx} (h : Lib.indexByte s 10 = -1) (hs : s ≠ []) : linT s = [s] := by
 unfold linT; rw [cut_miss h, if_neg (by simpa using hs)]
theorem linT_hit {s : Tx} {i : Nat} (h : Lib.indexByte s 10 = i) : linT s = s.take i :: linT (s.drop (i + 1)) := by
 have e := (cut_hit h).2
 have hn := cut_ne 10 (s.drop (i + 1))
 unfold linT
 rw [e]
 cases q : cut 10 (s.drop (i + 1)) with
 | nil => exact absurd q hn
 | cons x r =>
  rw [List.getLast?_cons_cons]
  split
  ·rfl
  ·rfl
theorem trim_nl (s : Tx) (h : (10 : UInt8) ∉ s) : Lib.trimSuffix s [10] = s := by
 unfold Lib.trimSuffix
 split
 ·rename_i q
  exfalso
  have q : [10].isSuffixOf s = true := q
  rw [List.isSuffixOf_iff_suffix] at q
  exact h (q.subset (by simp))
 ·rfl
theorem trim_nl2 (s : Tx) : Lib.trimSuffix (s ++ [10]) [10] = s := by
 unfold Lib.trimSuffix
 rw [if_pos (show Lib.hasSuffix (s ++ [10]) [10] = true from List.isSuffixOf_iff_suffix.2 (List.suffix_append _ _))]
 simp
end Go.Fx
/-
 What the program reads out of a text, line by line.
-/
namespace Go.Fx
open Go.Proofs Go.RowKit
def oLen : Option Wd -> Nat
 | none => 0
 | some w => w.t.length
def oOne : Option Wd -> Nat
 | none => 0
 | some _ => 1
theorem wgo_mem : ∀ (s : Tx) (i : Nat) (o : Option Wd) (w : Wd), w ∈ wgo s i o -> w.t.length <= s.length + oLen o
 | [], _, none, w, h => by cases h
 | [], _, some x, w, h => by
  simp [wgo] at h; subst h; simp [oLen]
 | b :: s, i, none, w, h => by
  rw [wgo] at h
  split at h
  ·have := wgo_mem s _ _ w h; simp [oLen] at *; omega
  ·have := wgo_mem s _ _ w h; simp [oLen] at *; omega
 | b :: s, i, some x, w, h => by
  rw [wgo] at h
  split at h
  ·rcases List.mem_cons.1 h with h | h
   ·subst h; simp [oLen]
   ·have := wgo_mem s _ _ w h; simp [oLen] at *; omega
  ·have := wgo_mem s _ _ w h; simp [oLen] at *; omega
theorem wgo_len : ∀ (s : Tx) (i : Nat) (o : Option Wd), (wgo s i o).length <= s.length + oOne o
 | [], _, none => Nat.le_refl _
 | [], _, some x => Nat.le_refl _
 | b :: s, i, none => by
  rw [wgo]
  split
  ·have := wgo_len s (i + 1) none; simp [oOne] at *; omega
  ·have := wgo_len s (i + 1) (some ⟨[b], i + 1⟩); simp [oOne] at *; omega
 | b :: s, i, some x => by
  rw [wgo]
  split
  ·have := wgo_len s (i + 1) none; simp [oOne] at *; omega
  ·have := wgo_len s (i + 1) (some ⟨x.t ++ [b], x.c⟩); simp [oOne] at *; omega
theorem lnOf_ok {l : Tx} (h : l.length <= 600) : LnOk (lnOf l) :=
 ⟨by have := wgo_len l 0 none; simp [oOne] at this; show (wgo l 0 none).length <= 1000; omega, fun w hw => by have := wgo_mem l 0 none w hw; simp [oLen] at this; omega⟩
def dft0 : Dft := ⟨⟨bs0, 0, 0, [], [], [], [], []⟩, [], [], [], [], [], []⟩
def stepP (d : Dft) (n : Nat) (t : Tx) : Except (Int × Int) Dft :=
 if (lnOf t).ws = [] then .ok d
 else if (readP d (lnOf t) (n : Nat)).2.e ≠ 0 then .error ((readP d (lnOf t) (n : Nat)).2.c, (readP d (lnOf t) (n : Nat)).2.e)
 else .ok (readP d (lnOf t) (n : Nat)).1
def runP : List Tx -> Dft -> Nat -> Except (Nat × Int × Int) (Dft × Nat)
 | [], d, n => .ok (d, n)
 | t :: r, d, n => match stepP d (n + 1) t with
  | .error (c, e) => .error (n + 1, c, e)
  | .ok d' => runP r d' (n + 1)
end Go.Fx
/-
 The mark of a tariff that is not right lies in its lists.
-/
namespace Go.Fx
open Go.Proofs Go.RowKit
theorem scanN_lt {α : Type} {g : α -> Int} : ∀ {l : List α}, scanE g l ≠ 0 -> ∃ m : Nat, scanN g l = m /\ m < l.length
 | [], h => absurd rfl h
 | x :: r, h => by
  unfold scanE at h
  unfold scanN
  by_cases q : g x = 0
  ·rw [decide_eq_true q] at h ⊢
   have h : scanE g r ≠ 0 := h
   obtain ⟨m, h1, h2⟩ := scanN_lt h
   rw [decide_eq_false h]
   exact ⟨m + 1, by show scanN g r + 1 = _; rw [h1]; rfl, by simpa using h2⟩
  ·rw [decide_eq_false q]
   exact ⟨0, rfl, by simp⟩
def MarkIn (t : Trf) (L N : Int) : Prop := (L = 0 /\ N = 0) \/ ∃ p m : Nat, p < 5 /\ L = (p : Int) + 1 /\ N = (m : Int) /\ m < partN t p
theorem from_mark {t : Trf} : ∀ {k p : Nat}, p + k <= 5 -> fromE t p k ≠ 0 -> MarkIn t (fromL t p k) (fromN t p k)
 | 0, p, _, h => absurd rfl h
 | k + 1, p, hp, h => by
  unfold fromE at h
  unfold fromL fromN
  by_cases q : pE t p = 0
  ·rw [decide_eq_true q] at h ⊢
   exact from_mark (k := k) (p := p + 1) (by omega) h
  ·rw [decide_eq_false q]
   show MarkIn t (pL t p) (pN t p)
   unfold pE at q
   unfold pL pN
   by_cases z : partM p < partN t p
   ·rw [decide_eq_true z]; exact .inl ⟨rfl, rfl⟩
   ·rw [decide_eq_false z] at q ⊢
    obtain ⟨m, h1, h2⟩ := scanN_lt (show scanE (partE t p) (List.range (partN t p)) ≠ 0 from q)
    exact .inr ⟨p, m, by omega, rfl, h1, by simpa using h2⟩
theorem mark_ok {t : Trf} (h : trfE t ≠ 0) : MarkIn t (trfL t) (trfN t) := by
 unfold trfE at h
 unfold trfL trfN
 by_cases q : topE t = 0
 ·rw [decide_eq_true q] at h ⊢
  exact from_mark (by omega) h
 ·rw [decide_eq_false q]; exact .inl ⟨rfl, rfl⟩
end Go.Fx
/-
 What stays true of the draft of a tariff.
-/
namespace Go.Fx
open Go.Proofs Go.RowKit
structure DInv (d : Dft) (n : Nat) : Prop where
 z : d.t.zones.length <= n
 h : d.t.hol.length <= n
 r : d.t.rules.length <= n
 e : d.t.extras.length <= n
 f : d.t.fixed.length <= n
 l0 : d.l0.length <= n
 l1 : d.l1.length <= n
 l2 : d.l2.length <= n
 l3 : d.l3.length <= n
 l4 : d.l4.length <= n
 l5 : d.l5.length <= n
 q1 : d.l1.length = d.t.zones.length
 q2 : d.l2.length = d.t.hol.length
 q3 : d.l3.length = d.t.rules.length
 q4 : d.l4.length = d.t.extras.length
 q5 : d.l5.length = d.t.fixed.length
 nm : d.t.name.size <= 600
 zs : ∀ x, x ∈ d.t.zones -> x.size <= 600
 rs : ∀ x, x ∈ d.t.rules -> x.name.size <= 600 /\ x.zones.length <= 700 /\ x.days.length <= 700
 es : ∀ x, x ∈ d.t.extras -> x.name.size <= 600
theorem dft0_inv : DInv dft0 0 := by
 constructor <;> first | exact Nat.zero_le _ | rfl | (intro x hx; cases hx)
theorem DInv.mono {d : Dft} {n m : Nat} (h : DInv d n) (hm : n <= m) : DInv d m :=
 { h with z := Nat.le_trans h.z hm, h := Nat.le_trans h.h hm, r := Nat.le_trans h.r hm, e := Nat.le_trans h.e hm, f := Nat.le_trans h.f hm, l0 := Nat.le_trans h.l0 hm, l1 := Nat.le_trans h.l1 hm, l2 := Nat.le_trans h.l2 hm, l3 := Nat.le_trans h.l3 hm, l4 := Nat.le_trans h.l4 hm, l5 := Nat.le_trans h.l5 hm }
theorem runG_len (s : ByteArray) : ∀ n pos, (runG s n pos).length <= n
 | 0, _ => Nat.le_refl _
 | n + 1, pos => by
  rw [runG]; split
  ·have := runG_len s n (pos + (Utf8.decode s pos).2); simp; omega
  ·exact Nat.zero_le _
theorem dayL_len (s : ByteArray) : (dayL s).length <= s.size := by
 unfold dayL runR; rw [List.length_map]; exact runG_len s _ _
theorem mem_snoc {α : Type} {x y : α} {l : List α} (h : x ∈ l ++ [y]) : x ∈ l \/ x = y := by simpa using h
theorem nextS {l : Ln} (h : LnOk l) : (toS (nextW l)).size <= 600 := by rw [toS_size]; exact nextW_le h
theorem readP_inv {d : Dft} {l : Ln} {n : Nat} (x : Int) (h : DInv d n) (hl : LnOk l) : DInv (readP d l x).1 (n + 1) := by
 have m := h.mono (Nat.le_succ n)
 unfold readP
 split
 ·exact m
 split
 ·exact { m with l0 := by show (d.l0 ++ [x]).length <= n + 1; have := h.l0; simp; omega, nm := nextS (hl.next _) }
 split
 ·exact { m with z := by show (d.t.zones ++ [_]).length <= n + 1; have := h.z; simp; omega, l1 := by show (d.l1 ++ [x]).length <= n + 1; have := h.l1; simp; omega, q1 := by show (d.l1 ++ [x]).length = (d.t.zones ++ [_]).length; have := h.q1; simp; omega, zs := fun y hy => by rcases mem_snoc hy with hy | hy; exact h.zs y hy; rw [hy]; exact nextS (hl.next _) }
 split
 ·exact { m with h := by show (d.t.hol ++ [_]).length <= n + 1; have := h.h; simp; omega, l2 := by show (d.l2 ++ [x]).length <= n + 1; have := h.l2; simp; omega, q2 := by show (d.l2 ++ [x]).length = (d.t.hol ++ [_]).length; have := h.q2; simp; omega }
 split
 ·exact { m with r := by show (d.t.rules ++ [_]).length <= n + 1; have := h.r; simp; omega, l3 := by show (d.l3 ++ [x]).length <= n + 1; have := h.l3; simp; omega, q3 := by show (d.l3 ++ [x]).length = (d.t.rules ++ [_]).length; have := h.q3; simp; omega, rs := fun y hy => by rcases mem_snoc hy with hy | hy; exact h.rs y hy; rw [hy]; exact ⟨nextS (hl.next _), by show (zonL _ (cutS 44 _)).length <= 700; rw [zonL_len]; have a := cutS_len_le 44 (toS (nextW (nextL (fun t => isOk (dT t) 7) (nextL (fun t => isOk (dT t) 7) (nextL (fun t => isOk (nameB (toS t)) 4) (nextL (fun t => kndC (decide (0 < (d.l0.length : Int))) (toS t)) l)))))); have b := nextS (((hl.next (fun t => kndC (decide (0 < (d.l0.length : Int))) (toS t))).next (fun t => isOk (nameB (toS t)) 4)).next (fun t => isOk (dT t) 7) |>.next (fun t => isOk (dT t) 7)); omega, Nat.le_trans (dayL_len _) (Nat.le_trans (nextS (((((hl.next _).next _).next _).next _).next _)) (by decide))⟩ }
 split
 ·exact { m with e := by show (d.t.extras ++ [_]).length <= n + 1; have := h.e; simp; omega, l4 := by show (d.l4 ++ [x]).length <= n + 1; have := h.l4; simp; omega, q4 := by show (d.l4 ++ [x]).length = (d.t.extras ++ [_]).length; have := h.q4; simp; omega, es := fun y hy => by rcases mem_snoc hy with hy | hy; exact h.es y hy; rw [hy]; exact nextS (hl.next _) }
 ·exact { m with f := by show (d.t.fixed ++ [_]).length <= n + 1; have := h.f; simp; omega, l5 := by show (d.l5 ++ [x]).length <= n + 1; have := h.l5; simp; omega, q5 := by show (d.l5 ++ [x]).length = (d.t.fixed ++ [_]).length; have := h.q5; simp; omega }
end Go.Fx
/-
 What the program answers to the text of a tariff.
-/
namespace Go.Fx
open Go.Proofs Go.RowKit
def trf0 : Trf := ⟨bs0, 0, 0, [], [], [], [], []⟩
theorem z8 {f : Nat -> AV} (h : (f 0, f 1, f 2, f 3, f 4, f 5, f 6, f 7) = (.str bs0, .int .i64 0, .int .i64 0, .slc0, .slc0, .slc0, .slc0, .slc0)) : LeAll f (tbl (trfC trf0)) 8 := by
 simp only [Prod.mk.injEq] at h
 obtain ⟨h0, h1, h2, h3, h4, h5, h6, h7⟩ := h
 refine ⟨⟨⟨⟨⟨⟨⟨⟨trivial, Le.ofEq h0⟩, Le.ofEq h1⟩, Le.ofEq h2⟩, ?_⟩, ?_⟩, ?_⟩, ?_⟩, ?_⟩
 ·rw [h3]; exact Le.slc0 1 _
 ·rw [h4]; exact Le.slc0 1 _
 ·rw [h5]; exact Le.slc0 10 _
 ·rw [h6]; exact Le.slc0 2 _
 ·rw [h7]; exact Le.slc0 3 _
theorem trfH {H : List HObj} {f g : Nat -> AV} (h : LeAllH H f g 8 := by exact ⟨⟨⟨⟨⟨⟨⟨⟨trivial, .le (.refl _)⟩, .le (.refl _)⟩, .le (.refl _)⟩, .own rfl fun _ _ _ _ => .refl _⟩, .own rfl fun _ _ _ _ => .refl _⟩, .own rfl fun _ _ _ _ => .refl _⟩, .own rfl fun _ _ _ _ => .refl _⟩, .own rfl fun _ _ _ _ => .refl _⟩) : LeAllH H f g 8 := h
structure Out where
 t : Trf
 ln : Int
 c : Int
 e : Int
def liD (d : Dft) : Nat -> List Int
 | 0 => d.l0
 | 1 => d.l1
 | 2 => d.l2
 | 3 => d.l3
 | 4 => d.l4
 | _ => d.l5
def endP (d : Dft) (n : Nat) : Out :=
 if d.l0 = [] then ⟨trf0, (n : Int) + 1, 1, 6⟩
 else if trfE d.t ≠ 0 then ⟨trf0, (liD d (trfL d.t).toNat).getD (trfN d.t).toNat 0, 1, trfE d.t⟩
 else ⟨d.t, 0, 0, 0⟩
def fromP (l : List Tx) (d : Dft) (n : Nat) : Out := match runP l d n with
 | .error (n, c, e) => ⟨trf0, (n : Int), c, e⟩
 | .ok (d, n) => endP d n
def outP (s : ByteArray) : Out := if 60000 < s.size then ⟨trf0, 0, 0, 8⟩ else fromP (linT s.data.toList) dft0 0
theorem fromP_nil (d : Dft) (n : Nat) : fromP [] d n = endP d n := rfl
theorem fromP_bad {t : Tx} {r : List Tx} {d : Dft} {n : Nat} {c e : Int} (h : stepP d (n + 1) t = .error (c, e)) : fromP (t :: r) d n = ⟨trf0, ((n + 1 : Nat) : Int), c, e⟩ := by
 unfold fromP; rw [runP, h]
theorem fromP_ok {t : Tx} {r : List Tx} {d d' : Dft} {n : Nat} (h : stepP d (n + 1) t = .ok d') : fromP (t :: r) d n = fromP r d' (n + 1) := by
 unfold fromP; rw [runP, h]
theorem step_e {d : Dft} {n : Nat} {t : Tx} (h : (lnOf t).ws = []) : stepP d n t = .ok d := by unfold stepP; rw [if_pos h]
theorem step_bad {d : Dft} {n : Nat} {t : Tx} (h : (lnOf t).ws ≠ []) (h2 : (readP d (lnOf t) (n : Nat)).2.e ≠ 0) : stepP d n t = .error ((readP d (lnOf t) (n : Nat)).2.c, (readP d (lnOf t) (n : Nat)).2.e) := by unfold stepP; rw [if_neg h, if_pos h2]
theorem step_ok {d : Dft} {n : Nat} {t : Tx} (h : (lnOf t).ws ≠ []) (h2 : ¬ (readP d (lnOf t) (n : Nat)).2.e ≠ 0) : stepP d n t = .ok (readP d (lnOf t) (n : Nat)).1 := by unfold stepP; rw [if_neg h, if_neg h2]
def resP (x : Out) : AV := .tup 3 (tbl [trfA x.t, .agg 2 (tbl [.int .i64 x.ln, .int .i64 x.c]), .int .i64 x.e])
end Go.Fx
/-
 What a line of a tariff's text says, told word by word: plain law.
-/
namespace Go.Fx
open Go.Proofs Go.RowKit
def chain : List (Tx -> Int) -> Ln -> Ln
 | [], l => l
 | g :: gs, l => chain gs (nextL g l)
theorem failL_err {l : Ln} {e c : Int} (h : l.e ≠ 0) : failL l e c = l := failL_1 (by simpa using h)
theorem nextL_err {g : Tx -> Int} {l : Ln} (h : l.e ≠ 0) : (nextL g l).e = l.e /\ (nextL g l).c = l.c := by
 rcases l with ⟨_ | ⟨w, r⟩, en, e, c⟩
 ·show (failL ⟨[], en, e, c⟩ 6 _).e = e /\ (failL ⟨[], en, e, c⟩ 6 _).c = c
  rw [failL_err h]; exact ⟨rfl, rfl⟩
 ·cases q : (g w.t != 0) with
  | true => rw [nextL_1 q, failL_err (l := ⟨r, en, e, c⟩) h]; exact ⟨rfl, rfl⟩
  | false => rw [nextL_0 q]; exact ⟨rfl, rfl⟩
theorem chain_err : ∀ (gs : List (Tx -> Int)) {l : Ln}, l.e ≠ 0 -> (chain gs l).e = l.e /\ (chain gs l).c = l.c
 | [], _, _ => ⟨rfl, rfl⟩
 | g :: gs, l, h => by
  obtain ⟨h1, h2⟩ := nextL_err (g := g) h
  obtain ⟨k1, k2⟩ := chain_err gs (l := nextL g l) (by rw [h1]; exact h)
  exact ⟨k1.trans h1, k2.trans h2⟩
def scanW : List (Tx -> Int) -> List Wd -> Nat -> Option (Int × Int)
 | [], _, _ => none
 | _ :: _, [], en => some ((en : Nat), 6)
 | g :: gs, w :: r, en => if g w.t ≠ 0 then some ((w.c : Nat), g w.t) else scanW gs r en
theorem chain_some : ∀ (gs : List (Tx -> Int)) (ws : List Wd) (en : Nat) (c0 : Int) {c e : Int}, scanW gs ws en = some (c, e) -> e ≠ 0 /\ (chain gs ⟨ws, en, 0, c0⟩).e = e /\ (chain gs ⟨ws, en, 0, c0⟩).c = c
 | [], _, _, _, _, _, h => by cases h
 | g :: gs, [], en, c0, c, e, h => by
  cases h
  obtain ⟨k1, k2⟩ := chain_err gs (l := ⟨[], en, 6, (en : Nat)⟩) (show (6 : Int) ≠ 0 by decide)
  exact ⟨by decide, k1, k2⟩
 | g :: gs, w :: r, en, c0, c, e, h => by
  rw [scanW] at h
  by_cases q : g w.t ≠ 0
  ·rw [if_pos q] at h
   cases h
   show _ /\ (chain gs (nextL g ⟨w :: r, en, 0, c0⟩)).e = _ /\ (chain gs (nextL g ⟨w :: r, en, 0, c0⟩)).c = _
   rw [nextL_1 (g := g) (w := w) (by simpa using q), failL_0 (l := ⟨r, en, 0, c0⟩) rfl]
   obtain ⟨k1, k2⟩ := chain_err gs (l := ⟨r, en, g w.t, (w.c : Nat)⟩) q
   exact ⟨q, k1, k2⟩
  ·rw [if_neg q] at h
   show _ /\ (chain gs (nextL g ⟨w :: r, en, 0, c0⟩)).e = _ /\ (chain gs (nextL g ⟨w :: r, en, 0, c0⟩)).c = _
   rw [nextL_0 (g := g) (w := w) (by simpa using q)]
   exact chain_some gs r en c0 h
theorem chain_none : ∀ (gs : List (Tx -> Int)) (ws : List Wd) (en : Nat) (c0 : Int), scanW gs ws en = none -> gs.length <= ws.length /\ chain gs ⟨ws, en, 0, c0⟩ = ⟨ws.drop gs.length, en, 0, c0⟩
 | [], _, _, _, _ => ⟨Nat.zero_le _, rfl⟩
 | g :: gs, [], en, c0, h => by cases h
 | g :: gs, w :: r, en, c0, h => by
  rw [scanW] at h
  by_cases q : g w.t ≠ 0
  ·rw [if_pos q] at h; cases h
  ·rw [if_neg q] at h
   obtain ⟨k1, k2⟩ := chain_none gs r en c0 h
   refine ⟨by simpa using k1, ?_⟩
   show chain gs (nextL g ⟨w :: r, en, 0, c0⟩) = _
   rw [nextL_0 (g := g) (w := w) (by simpa using q)]
   exact k2
def lineE (gs : List (Tx -> Int)) (ws : List Wd) (en : Nat) : Option (Int × Int) := match scanW gs ws en with
 | some x => some x
 | none => match ws.drop gs.length with
  | [] => none
  | w :: _ => some ((w.c : Nat), 7)
theorem lineE_some {gs : List (Tx -> Int)} {ws : List Wd} {en : Nat} {c0 c e : Int} (h : lineE gs ws en = some (c, e)) : e ≠ 0 /\ (closeL (chain gs ⟨ws, en, 0, c0⟩)).e = e /\ (closeL (chain gs ⟨ws, en, 0, c0⟩)).c = c := by
 unfold lineE at h
 cases q : scanW gs ws en with
 | some x =>
  rw [q] at h
  cases h
  obtain ⟨h1, h2, h3⟩ := chain_some gs ws en c0 q
  generalize chain gs ⟨ws, en, 0, c0⟩ = l at *
  have hc : closeL l = l := by
   rcases l with ⟨_ | ⟨w, r⟩, en', e', c'⟩
   ·rfl
   ·exact failL_err (l := ⟨w :: r, en', e', c'⟩) (show e' ≠ 0 from fun z => h1 (h2.symm.trans z))
  rw [hc]; exact ⟨h1, h2, h3⟩
 | none =>
  rw [q] at h
  obtain ⟨h1, h2⟩ := chain_none gs ws en c0 q
  rw [h2]
  cases z : ws.drop gs.length with
  | nil => rw [z] at h; cases h
  | cons w r =>
   rw [z] at h
   cases h
   exact ⟨by decide, rfl, rfl⟩
theorem lineE_none {gs : List (Tx -> Int)} {ws : List Wd} {en : Nat} {c0 : Int} (h : lineE gs ws en = none) : scanW gs ws en = none /\ ws.length = gs.length /\ (closeL (chain gs ⟨ws, en, 0, c0⟩)).e = 0 := by
 unfold lineE at h
 cases q : scanW gs ws en with
 | some x => rw [q] at h; cases h
 | none =>
  rw [q] at h
  obtain ⟨h1, h2⟩ := chain_none gs ws en c0 q
  rw [h2]
  cases z : ws.drop gs.length with
  | nil =>
   have := congrArg List.length z
   rw [List.length_drop] at this
   exact ⟨rfl, by have : ws.length - gs.length = 0 := this; omega, rfl⟩
  | cons w r => rw [z] at h; cases h
@[irreducible] def kE (zs : List ByteArray) (k : Int) (s : ByteArray) : Int :=
 if k = 110 then isOk (nameB s) 4 else if k = 100 then isOk (dBy s) 7 else if k = 107 then isOk (decide (ixR s 0 < 0)) 7 else if k = 108 then zonC zs (cutS 44) s else zonC zs oneP s
structure Itm where
 ns : List ByteArray
 ds : List Int
 ls : List (List Int)
def itm0 : Itm := ⟨[], [], []⟩
def lsK (zs : List ByteArray) (k : Int) (s : ByteArray) : List Int := if k = 107 then dayL s else if k = 108 then zonL zs (cutS 44 s) else zonL zs (oneP s)
def addI (zs : List ByteArray) (k : Int) (x : Itm) (s : ByteArray) : Itm :=
 if k = 110 then { x with ns := x.ns ++ [s] } else if k = 100 then { x with ds := x.ds ++ [vT s.data.toList] } else { x with ls := x.ls ++ [lsK zs k s] }
def itmF (zs : List ByteArray) : List Int -> List Wd -> Itm -> Itm
 | k :: f, w :: r, x => itmF zs f r (addI zs k x (toS w.t))
 | _, _, x => x
def gsF (zs : List ByteArray) (f : List Int) : List (Tx -> Int) := f.map fun k t => kE zs k (toS t)
def formK (s : ByteArray) : List Int := if s = ({ data := #[116, 97, 114, 105, 102, 102] } : ByteArray) then [110, 100, 100] else if s = ({ data := #[122, 111, 110, 101] } : ByteArray) then [110] else if s = ({ data := #[104, 111, 108, 105, 100, 97, 121] } : ByteArray) then [100] else if s = ({ data := #[114, 117, 108, 101] } : ByteArray) then [110, 100, 100, 108, 107, 100, 100, 100, 100, 100] else if s = ({ data := #[101, 120, 116, 114, 97] } : ByteArray) then [110, 100] else [122, 122, 100]
def addD (d : Dft) (n : Int) (s : ByteArray) (x : Itm) : Dft :=
 if s = ({ data := #[116, 97, 114, 105, 102, 102] } : ByteArray) then { d with t := { d.t with name := x.ns.getD 0 bs0, unit := x.ds.getD 0 0, step := x.ds.getD 1 0 }, l0 := d.l0 ++ [n] }
 else if s = ({ data := #[122, 111, 110, 101] } : ByteArray) then (d.nt1 n).adZ (x.ns.getD 0 bs0)
 else if s = ({ data := #[104, 111, 108, 105, 100, 97, 121] } : ByteArray) then (d.nt2 n).adH (x.ds.getD 0 0)
 else if s = ({ data := #[114, 117, 108, 101] } : ByteArray) then (d.nt3 n).adR ⟨x.ns.getD 0 bs0, x.ds.getD 0 0, x.ds.getD 1 0, x.ls.getD 0 [], x.ls.getD 1 [], x.ds.getD 2 0, x.ds.getD 3 0, x.ds.getD 4 0, x.ds.getD 5 0, x.ds.getD 6 0⟩
 else if s = ({ data := #[101, 120, 116, 114, 97] } : ByteArray) then (d.nt4 n).adE ⟨x.ns.getD 0 bs0, x.ds.getD 0 0⟩
 else (d.nt5 n).adF ⟨(x.ls.getD 0 []).getD 0 0, (x.ls.getD 1 []).getD 0 0, x.ds.getD 0 0⟩
theorem kE_n (zs : List ByteArray) (s : ByteArray) : kE zs 110 s = isOk (nameB s) 4 := by unfold kE; rfl
theorem kE_d (zs : List ByteArray) (s : ByteArray) : kE zs 100 s = isOk (dBy s) 7 := by unfold kE; rfl
theorem kE_k (zs : List ByteArray) (s : ByteArray) : kE zs 107 s = isOk (decide (ixR s 0 < 0)) 7 := by unfold kE; rfl
theorem kE_l (zs : List ByteArray) (s : ByteArray) : kE zs 108 s = zonC zs (cutS 44) s := by unfold kE; rfl
theorem kE_z (zs : List ByteArray) (s : ByteArray) : kE zs 122 s = zonC zs oneP s := by unfold kE; rfl
theorem nextL_ok {g : Tx -> Int} {w : Wd} {r : List Wd} {en : Nat} {e c : Int} (h : g w.t = 0) : nextL g ⟨w :: r, en, e, c⟩ = ⟨r, en, e, c⟩ := nextL_0 (by rw [h]; rfl)
theorem scan_hd {g : Tx -> Int} {gs : List (Tx -> Int)} {w : Wd} {r : List Wd} {en : Nat} (h : scanW (g :: gs) (w :: r) en = none) : g w.t = 0 /\ scanW gs r en = none := by
 rw [scanW] at h
 by_cases q : g w.t ≠ 0
 ·rw [if_pos q] at h; cases h
 ·rw [if_neg q] at h; exact ⟨by simpa using q, h⟩
theorem r5_0 (L : Ln) : r5 L 5 0 = vT (nextW L) := rfl
theorem r5_1 (L : Ln) : r5 L 5 1 = vT (nextW (nextL (fun t => isOk (dT t) 7) L)) := rfl
theorem r5_2 (L : Ln) : r5 L 5 2 = vT (nextW (nextL (fun t => isOk (dT t) 7) (nextL (fun t => isOk (dT t) 7) L))) := rfl
theorem r5_3 (L : Ln) : r5 L 5 3 = vT (nextW (nextL (fun t => isOk (dT t) 7) (nextL (fun t => isOk (dT t) 7) (nextL (fun t => isOk (dT t) 7) L)))) := rfl
theorem r5_4 (L : Ln) : r5 L 5 4 = vT (nextW (nextL (fun t => isOk (dT t) 7) (nextL (fun t => isOk (dT t) 7) (nextL (fun t => isOk (dT t) 7) (nextL (fun t => isOk (dT t) 7) L))))) := rfl
attribute [local irreducible] nextL closeL vT zonL dayL kndC
section
variable {d : Dft} {w0 : Wd} {ws : List Wd} {en : Nat} {c0 n : Int}
theorem read_k (h : kndC (decide (0 < (d.l0.length : Int))) (toS w0.t) ≠ 0) : (readP d ⟨w0 :: ws, en, 0, c0⟩ n).2.e = 7 /\ (readP d ⟨w0 :: ws, en, 0, c0⟩ n).2.c = (w0.c : Nat) := by
 have h7 : kndC (decide (0 < (d.l0.length : Int))) (toS w0.t) = 7 := by
  unfold kndC isOk at *
  revert h
  cases (!decide (0 < (d.l0.length : Int))) <;> simp only [cond_true, cond_false]
  ·cases hasB kinds5 kinds5.length (toS w0.t) <;> intro h <;> first | rfl | exact absurd rfl h
  ·cases decide (toS w0.t = tarS) <;> intro h <;> first | rfl | exact absurd rfl h
 have e : nextL (fun t => kndC (decide (0 < (d.l0.length : Int))) (toS t)) ⟨w0 :: ws, en, 0, c0⟩ = ⟨ws, en, 7, (w0.c : Nat)⟩ := by
  rw [nextL_1 (w := w0) (by show (kndC _ _ != 0) = true; rw [h7]; rfl), failL_0 (l := ⟨ws, en, 0, c0⟩) rfl]
  show Ln.mk _ _ (kndC _ _) _ = _
  rw [h7]
 unfold readP
 rw [e, if_pos (show (7 : Int) ≠ 0 by decide)]
 exact ⟨rfl, rfl⟩
theorem rd_tar (h : kndC (decide (0 < (d.l0.length : Int))) (toS w0.t) = 0) (hk : toS w0.t = ({ data := #[116, 97, 114, 105, 102, 102] } : ByteArray)) : (readP d ⟨w0 :: ws, en, 0, c0⟩ n).2 = closeL (chain (gsF d.t.zones [110, 100, 100]) ⟨ws, en, 0, c0⟩) /\
  (scanW (gsF d.t.zones [110, 100, 100]) ws en = none -> ws.length = 3 -> (readP d ⟨w0 :: ws, en, 0, c0⟩ n).1 = addD d n ({ data := #[116, 97, 114, 105, 102, 102] } : ByteArray) (itmF d.t.zones [110, 100, 100] ws itm0)) := by
 have e : nextL (fun t => kndC (decide (0 < (d.l0.length : Int))) (toS t)) ⟨w0 :: ws, en, 0, c0⟩ = ⟨ws, en, 0, c0⟩ := nextL_ok h
 have g : gsF d.t.zones [110, 100, 100] = [(fun t => isOk (nameB (toS t)) 4), (fun t => isOk (dT t) 7), (fun t => isOk (dT t) 7)] := by
  unfold gsF
  simp only [List.map_cons, List.map_nil, kE_n, kE_d, kE_k, kE_l, kE_z]
  all_goals rfl
 have e0 : nextW ⟨w0 :: ws, en, 0, c0⟩ = w0.t := rfl
 unfold readP
 rw [e, e0, if_neg (fun q => q rfl)]
 rw [if_pos hk]
 refine ⟨by rw [g]; rfl, fun hs hl => ?_⟩
 rw [g] at hs
 obtain ⟨w1, w2, w3, rfl⟩ : ∃ w1 w2 w3, ws = [w1, w2, w3] := by
  match ws, hl with
  | [w1, w2, w3], _ => exact ⟨w1, w2, w3, rfl⟩
 obtain ⟨q1, hs⟩ := scan_hd hs
 obtain ⟨q2, hs⟩ := scan_hd hs
 obtain ⟨q3, hs⟩ := scan_hd hs
 unfold addD
 rw [if_pos rfl]
 rw [nextL_ok (g := (fun t => isOk (nameB (toS t)) 4)) q1]
 rw [nextL_ok (g := (fun t => isOk (dT t) 7)) q2]
 rfl
theorem rd_zon (h : kndC (decide (0 < (d.l0.length : Int))) (toS w0.t) = 0) (hk : toS w0.t = ({ data := #[122, 111, 110, 101] } : ByteArray)) : (readP d ⟨w0 :: ws, en, 0, c0⟩ n).2 = closeL (chain (gsF d.t.zones [110]) ⟨ws, en, 0, c0⟩) /\
  (scanW (gsF d.t.zones [110]) ws en = none -> ws.length = 1 -> (readP d ⟨w0 :: ws, en, 0, c0⟩ n).1 = addD d n ({ data := #[122, 111, 110, 101] } : ByteArray) (itmF d.t.zones [110] ws itm0)) := by
 have e : nextL (fun t => kndC (decide (0 < (d.l0.length : Int))) (toS t)) ⟨w0 :: ws, en, 0, c0⟩ = ⟨ws, en, 0, c0⟩ := nextL_ok h
 have g : gsF d.t.zones [110] = [(fun t => isOk (nameB (toS t)) 4)] := by
  unfold gsF
  simp only [List.map_cons, List.map_nil, kE_n, kE_d, kE_k, kE_l, kE_z]
  all_goals rfl
 have e0 : nextW ⟨w0 :: ws, en, 0, c0⟩ = w0.t := rfl
 unfold readP
 rw [e, e0, if_neg (fun q => q rfl)]
 rw [if_neg (fun q => absurd (q.symm.trans hk) (by decide))]
 rw [if_pos hk]
 refine ⟨by rw [g]; rfl, fun hs hl => ?_⟩
 rw [g] at hs
 obtain ⟨w1, rfl⟩ : ∃ w1, ws = [w1] := by
  match ws, hl with
  | [w1], _ => exact ⟨w1, rfl⟩
 obtain ⟨q1, hs⟩ := scan_hd hs
 unfold addD
 rw [if_neg (by decide)]
 rw [if_pos rfl]
 rfl
theorem rd_hol (h : kndC (decide (0 < (d.l0.length : Int))) (toS w0.t) = 0) (hk : toS w0.t = ({ data := #[104, 111, 108, 105, 100, 97, 121] } : ByteArray)) : (readP d ⟨w0 :: ws, en, 0, c0⟩ n).2 = closeL (chain (gsF d.t.zones [100]) ⟨ws, en, 0, c0⟩) /\
  (scanW (gsF d.t.zones [100]) ws en = none -> ws.length = 1 -> (readP d ⟨w0 :: ws, en, 0, c0⟩ n).1 = addD d n ({ data := #[104, 111, 108, 105, 100, 97, 121] } : ByteArray) (itmF d.t.zones [100] ws itm0)) := by
 have e : nextL (fun t => kndC (decide (0 < (d.l0.length : Int))) (toS t)) ⟨w0 :: ws, en, 0, c0⟩ = ⟨ws, en, 0, c0⟩ := nextL_ok h
 have g : gsF d.t.zones [100] = [(fun t => isOk (dT t) 7)] := by
  unfold gsF
  simp only [List.map_cons, List.map_nil, kE_n, kE_d, kE_k, kE_l, kE_z]
  all_goals rfl
 have e0 : nextW ⟨w0 :: ws, en, 0, c0⟩ = w0.t := rfl
 unfold readP
 rw [e, e0, if_neg (fun q => q rfl)]
 rw [if_neg (fun q => absurd (q.symm.trans hk) (by decide))]
 rw [if_neg (fun q => absurd (q.symm.trans hk) (by decide))]
 rw [if_pos hk]
 refine ⟨by rw [g]; rfl, fun hs hl => ?_⟩
 rw [g] at hs
 obtain ⟨w1, rfl⟩ : ∃ w1, ws = [w1] := by
  match ws, hl with
  | [w1], _ => exact ⟨w1, rfl⟩
 obtain ⟨q1, hs⟩ := scan_hd hs
 unfold addD
 rw [if_neg (by decide)]
 rw [if_neg (by decide)]
 rw [if_pos rfl]
 rfl
theorem rd_rul (h : kndC (decide (0 < (d.l0.length : Int))) (toS w0.t) = 0) (hk : toS w0.t = ({ data := #[114, 117, 108, 101] } : ByteArray)) : (readP d ⟨w0 :: ws, en, 0, c0⟩ n).2 = closeL (chain (gsF d.t.zones [110, 100, 100, 108, 107, 100, 100, 100, 100, 100]) ⟨ws, en, 0, c0⟩) /\
  (scanW (gsF d.t.zones [110, 100, 100, 108, 107, 100, 100, 100, 100, 100]) ws en = none -> ws.length = 10 -> (readP d ⟨w0 :: ws, en, 0, c0⟩ n).1 = addD d n ({ data := #[114, 117, 108, 101] } : ByteArray) (itmF d.t.zones [110, 100, 100, 108, 107, 100, 100, 100, 100, 100] ws itm0)) := by
 have e : nextL (fun t => kndC (decide (0 < (d.l0.length : Int))) (toS t)) ⟨w0 :: ws, en, 0, c0⟩ = ⟨ws, en, 0, c0⟩ := nextL_ok h
 have g : gsF d.t.zones [110, 100, 100, 108, 107, 100, 100, 100, 100, 100] = [(fun t => isOk (nameB (toS t)) 4), (fun t => isOk (dT t) 7), (fun t => isOk (dT t) 7), (fun t => zonC d.t.zones (cutS 44) (toS t)), dayC, (fun t => isOk (dT t) 7), (fun t => isOk (dT t) 7), (fun t => isOk (dT t) 7), (fun t => isOk (dT t) 7), (fun t => isOk (dT t) 7)] := by
  unfold gsF
  simp only [List.map_cons, List.map_nil, kE_n, kE_d, kE_k, kE_l, kE_z]
  all_goals rfl
 have e0 : nextW ⟨w0 :: ws, en, 0, c0⟩ = w0.t := rfl
 unfold readP
 rw [e, e0, if_neg (fun q => q rfl)]
 rw [if_neg (fun q => absurd (q.symm.trans hk) (by decide))]
 rw [if_neg (fun q => absurd (q.symm.trans hk) (by decide))]
 rw [if_neg (fun q => absurd (q.symm.trans hk) (by decide))]
 rw [if_pos hk]
 refine ⟨by rw [g]; rfl, fun hs hl => ?_⟩
 rw [g] at hs
 obtain ⟨w1, w2, w3, w4, w5, w6, w7, w8, w9, w10, rfl⟩ : ∃ w1 w2 w3 w4 w5 w6 w7 w8 w9 w10, ws = [w1, w2, w3, w4, w5, w6, w7, w8, w9, w10] := by
  match ws, hl with
  | [w1, w2, w3, w4, w5, w6, w7, w8, w9, w10], _ => exact ⟨w1, w2, w3, w4, w5, w6, w7, w8, w9, w10, rfl⟩
 obtain ⟨q1, hs⟩ := scan_hd hs
 obtain ⟨q2, hs⟩ := scan_hd hs
 obtain ⟨q3, hs⟩ := scan_hd hs
 obtain ⟨q4, hs⟩ := scan_hd hs
 obtain ⟨q5, hs⟩ := scan_hd hs
 obtain ⟨q6, hs⟩ := scan_hd hs
 obtain ⟨q7, hs⟩ := scan_hd hs
 obtain ⟨q8, hs⟩ := scan_hd hs
 obtain ⟨q9, hs⟩ := scan_hd hs
 obtain ⟨q10, hs⟩ := scan_hd hs
 unfold addD
 rw [if_neg (by decide)]
 rw [if_neg (by decide)]
 rw [if_neg (by decide)]
 rw [if_pos rfl]
 rw [r5_0, r5_1, r5_2, r5_3, r5_4]
 rw [nextL_ok (g := (fun t => isOk (nameB (toS t)) 4)) q1]
 rw [nextL_ok (g := (fun t => isOk (dT t) 7)) q2]
 rw [nextL_ok (g := (fun t => isOk (dT t) 7)) q3]
 rw [nextL_ok (g := (fun t => zonC d.t.zones (cutS 44) (toS t))) q4]
 rw [nextL_ok (g := dayC) q5]
 rw [nextL_ok (g := (fun t => isOk (dT t) 7)) q6]
 rw [nextL_ok (g := (fun t => isOk (dT t) 7)) q7]
 rw [nextL_ok (g := (fun t => isOk (dT t) 7)) q8]
 rw [nextL_ok (g := (fun t => isOk (dT t) 7)) q9]
 rfl
theorem rd_ext (h : kndC (decide (0 < (d.l0.length : Int))) (toS w0.t) = 0) (hk : toS w0.t = ({ data := #[101, 120, 116, 114, 97] } : ByteArray)) : (readP d ⟨w0 :: ws, en, 0, c0⟩ n).2 = closeL (chain (gsF d.t.zones [110, 100]) ⟨ws, en, 0, c0⟩) /\
  (scanW (gsF d.t.zones [110, 100]) ws en = none -> ws.length = 2 -> (readP d ⟨w0 :: ws, en, 0, c0⟩ n).1 = addD d n ({ data := #[101, 120, 116, 114, 97] } : ByteArray) (itmF d.t.zones [110, 100] ws itm0)) := by
 have e : nextL (fun t => kndC (decide (0 < (d.l0.length : Int))) (toS t)) ⟨w0 :: ws, en, 0, c0⟩ = ⟨ws, en, 0, c0⟩ := nextL_ok h
 have g : gsF d.t.zones [110, 100] = [(fun t => isOk (nameB (toS t)) 4), (fun t => isOk (dT t) 7)] := by
  unfold gsF
  simp only [List.map_cons, List.map_nil, kE_n, kE_d, kE_k, kE_l, kE_z]
  all_goals rfl
 have e0 : nextW ⟨w0 :: ws, en, 0, c0⟩ = w0.t := rfl
 unfold readP
 rw [e, e0, if_neg (fun q => q rfl)]
 rw [if_neg (fun q => absurd (q.symm.trans hk) (by decide))]
 rw [if_neg (fun q => absurd (q.symm.trans hk) (by decide))]
 rw [if_neg (fun q => absurd (q.symm.trans hk) (by decide))]
 rw [if_neg (fun q => absurd (q.symm.trans hk) (by decide))]
 rw [if_pos hk]
 refine ⟨by rw [g]; rfl, fun hs hl => ?_⟩
 rw [g] at hs
 obtain ⟨w1, w2, rfl⟩ : ∃ w1 w2, ws = [w1, w2] := by
  match ws, hl with
  | [w1, w2], _ => exact ⟨w1, w2, rfl⟩
 obtain ⟨q1, hs⟩ := scan_hd hs
 obtain ⟨q2, hs⟩ := scan_hd hs
 unfold addD
 rw [if_neg (by decide)]
 rw [if_neg (by decide)]
 rw [if_neg (by decide)]
 rw [if_neg (by decide)]
 rw [if_pos rfl]
 rw [nextL_ok (g := (fun t => isOk (nameB (toS t)) 4)) q1]
 rfl
theorem rd_fix (h : kndC (decide (0 < (d.l0.length : Int))) (toS w0.t) = 0) (hk : toS w0.t = ({ data := #[102, 105, 120, 101, 100] } : ByteArray)) : (readP d ⟨w0 :: ws, en, 0, c0⟩ n).2 = closeL (chain (gsF d.t.zones [122, 122, 100]) ⟨ws, en, 0, c0⟩) /\
  (scanW (gsF d.t.zones [122, 122, 100]) ws en = none -> ws.length = 3 -> (readP d ⟨w0 :: ws, en, 0, c0⟩ n).1 = addD d n ({ data := #[102, 105, 120, 101, 100] } : ByteArray) (itmF d.t.zones [122, 122, 100] ws itm0)) := by
 have e : nextL (fun t => kndC (decide (0 < (d.l0.length : Int))) (toS t)) ⟨w0 :: ws, en, 0, c0⟩ = ⟨ws, en, 0, c0⟩ := nextL_ok h
 have g : gsF d.t.zones [122, 122, 100] = [(fun t => zonC d.t.zones oneP (toS t)), (fun t => zonC d.t.zones oneP (toS t)), (fun t => isOk (dT t) 7)] := by
  unfold gsF
  simp only [List.map_cons, List.map_nil, kE_n, kE_d, kE_k, kE_l, kE_z]
  all_goals rfl
 have e0 : nextW ⟨w0 :: ws, en, 0, c0⟩ = w0.t := rfl
 unfold readP
 rw [e, e0, if_neg (fun q => q rfl)]
 rw [if_neg (fun q => absurd (q.symm.trans hk) (by decide))]
 rw [if_neg (fun q => absurd (q.symm.trans hk) (by decide))]
 rw [if_neg (fun q => absurd (q.symm.trans hk) (by decide))]
 rw [if_neg (fun q => absurd (q.symm.trans hk) (by decide))]
 rw [if_neg (fun q => absurd (q.symm.trans hk) (by decide))]
 refine ⟨by rw [g]; rfl, fun hs hl => ?_⟩
 rw [g] at hs
 obtain ⟨w1, w2, w3, rfl⟩ : ∃ w1 w2 w3, ws = [w1, w2, w3] := by
  match ws, hl with
  | [w1, w2, w3], _ => exact ⟨w1, w2, w3, rfl⟩
 obtain ⟨q1, hs⟩ := scan_hd hs
 obtain ⟨q2, hs⟩ := scan_hd hs
 obtain ⟨q3, hs⟩ := scan_hd hs
 unfold addD
 rw [if_neg (by decide)]
 rw [if_neg (by decide)]
 rw [if_neg (by decide)]
 rw [if_neg (by decide)]
 rw [if_neg (by decide)]
 rw [nextL_ok (g := (fun t => zonC d.t.zones oneP (toS t))) q1]
 rw [nextL_ok (g := (fun t => zonC d.t.zones oneP (toS t))) q2]
 rfl
end
end Go.Fx
