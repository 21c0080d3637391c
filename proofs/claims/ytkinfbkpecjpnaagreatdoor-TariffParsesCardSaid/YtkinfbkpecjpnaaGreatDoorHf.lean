/-
 The specification reads a tariff.
-/
import Derived.Test.YtkinfbkpecjpnaaGreatDoorHe
import Derived.Test.YtkinfbkpecjpnaaGreatDoorFe
set_option linter.all false
/-
 The reference reads a tariff.
-/
namespace Go.Fx
open Go.Proofs Go.RowKit
theorem lin_len (s : Tx) : (linT s).length <= s.length + 1 := by
 have := cut_len 10 s
 unfold linT; split
 ·rw [List.length_dropLast]; omega
 ·exact this
theorem lin_mem (s : Tx) (i : Nat) : ((linT s).getD i []).length <= s.length := by
 rcases Nat.lt_or_ge i (linT s).length with h | h
 ·rw [List.getD_eq_getElem?_getD, List.getElem?_eq_getElem h]
  have sub : ∀ x, x ∈ linT s -> x ∈ cut 10 s := fun x hx => by
   unfold linT at hx
   split at hx
   ·exact List.dropLast_subset _ hx
   ·exact hx
  have hm : (linT s)[i] ∈ cut 10 s := sub _ (List.getElem_mem h)
  exact (cut_mem 10 _ _ hm).1
 ·rw [List.getD_eq_getElem?_getD, List.getElem?_eq_none h]; exact Nat.zero_le _
theorem cond_k {n : Nat} {s : ByteArray} : (bif bif (n : Int) == 0 then !decide (s = { data := #[116, 97, 114, 105, 102, 102] }) else false then true else bif decide (0 < (n : Int)) then !hasB kinds5 kinds5.length s else false) = !decide (kndC (decide (0 < (n : Int))) s = 0) := by
 unfold kndC
 rcases Nat.eq_zero_or_pos n with h | h
 ·subst h
  show (bif (bif true then !decide (s = tarS) else false) then true else (bif false then _ else false)) = !decide (isOk (decide (s = tarS)) 7 = 0)
  cases decide (s = tarS) <;> rfl
 ·rw [show ((n : Int) == 0) = false from by rw [beq_eq_false_iff_ne]; omega, decide_eq_true (show 0 < (n : Int) by omega)]
  show (bif false then true else (bif true then !hasB kinds5 kinds5.length s else false)) = !decide (isOk (hasB kinds5 kinds5.length s) 7 = 0)
  cases hasB kinds5 kinds5.length s <;> rfl
theorem form_len (s : ByteArray) : (formK s).length <= 10 := by
 unfold formK
 repeat' split
 all_goals decide
theorem form_at (s : ByteArray) {k : Nat} (h : k < (formK s).length) : byteAt (formS s) k = (formK s).getD k 0 /\ ((formK s).getD k 0 = 110 \/ (formK s).getD k 0 = 100 \/ (formK s).getD k 0 = 107 \/ (formK s).getD k 0 = 108 \/ (formK s).getD k 0 = 122) := by
 have e := form_k s
 constructor
 ·have h2 : k < (formS s).data.toList.length := by rw [e, List.length_map] at h; exact h
  rw [byte_at h2, e, List.getD_eq_getElem?_getD, List.getElem?_map, List.getElem?_eq_getElem h2]
  rfl
 ·have h3 : ∀ x, x ∈ formK s -> x = 110 \/ x = 100 \/ x = 107 \/ x = 108 \/ x = 122 := by
   unfold formK
   repeat' split
   all_goals decide
  rw [List.getD_eq_getElem?_getD, List.getElem?_eq_getElem h]
  exact h3 _ (List.getElem_mem h)
theorem form_size (s : ByteArray) : (formS s).size = (formK s).length := by rw [form_k, List.length_map]; rfl
theorem en_last (w0 : Wd) (ws : List Wd) : (enW (w0 :: ws) : Int) = ((w0 :: ws).getD ((w0 :: ws).length - 1) wd0).c + (((w0 :: ws).getD ((w0 :: ws).length - 1) wd0).t.length : Nat) := by
 unfold enW
 rw [List.getLast?_eq_getElem?, List.getD_eq_getElem?_getD, List.getElem?_eq_getElem (show (w0 :: ws).length - 1 < (w0 :: ws).length by simp)]
 simp
theorem wgo_col : ∀ (s : Tx) (i : Nat) (o : Option Wd) (w : Wd), w ∈ wgo s i o -> w.c <= i + s.length \/ ∃ x, o = some x /\ w.c = x.c
 | [], _, none, w, h => by cases h
 | [], _, some x, w, h => by
  simp [wgo] at h; subst h; exact .inr ⟨_, rfl, rfl⟩
 | b :: s, i, none, w, h => by
  rw [wgo] at h
  split at h
  ·rcases wgo_col s _ _ w h with k | ⟨x, k, _⟩
   ·exact .inl (by simp; omega)
   ·cases k
  ·rcases wgo_col s _ _ w h with k | ⟨x, k, e⟩
   ·exact .inl (by simp; omega)
   ·cases k; exact .inl (by rw [e]; show i + 1 <= i + (s.length + 1); omega)
 | b :: s, i, some x, w, h => by
  rw [wgo] at h
  split at h
  ·rcases List.mem_cons.1 h with h | h
   ·subst h; exact .inr ⟨_, rfl, rfl⟩
   ·rcases wgo_col s _ _ w h with k | ⟨x, k, _⟩
    ·exact .inl (by simp; omega)
    ·cases k
  ·rcases wgo_col s _ _ w h with k | ⟨y, k, e⟩
   ·exact .inl (by simp; omega)
   ·cases k; exact .inr ⟨_, rfl, e⟩
theorem addI_len (zs : List ByteArray) (k : Int) (x : Itm) (s : ByteArray) : (addI zs k x s).ns.length <= x.ns.length + 1 /\ (addI zs k x s).ds.length <= x.ds.length + 1 /\ (addI zs k x s).ls.length <= x.ls.length + 1 := by
 unfold addI
 split
 ·exact ⟨by simp, by simp, by simp⟩
 ·split
  ·exact ⟨by simp, by simp, by simp⟩
  ·exact ⟨by simp, by simp, by simp⟩
theorem kinds6 {d : Dft} {w0 : Wd} (h : kndC (decide (0 < (d.l0.length : Int))) (toS w0.t) = 0) : toS w0.t = ({ data := #[116, 97, 114, 105, 102, 102] } : ByteArray) \/ toS w0.t = ({ data := #[122, 111, 110, 101] } : ByteArray) \/ toS w0.t = ({ data := #[104, 111, 108, 105, 100, 97, 121] } : ByteArray) \/ toS w0.t = ({ data := #[114, 117, 108, 101] } : ByteArray) \/ toS w0.t = ({ data := #[101, 120, 116, 114, 97] } : ByteArray) \/ toS w0.t = ({ data := #[102, 105, 120, 101, 100] } : ByteArray) := by
 have e : (nextL (fun t => kndC (decide (0 < (d.l0.length : Int))) (toS t)) ⟨[w0], 0, 0, 0⟩).e = 0 := by
  rw [nextL_ok (g := fun t => kndC (decide (0 < (d.l0.length : Int))) (toS t)) h]
 exact kind6 e
theorem formK_tar : formK ({ data := #[116, 97, 114, 105, 102, 102] } : ByteArray) = [110, 100, 100] := by unfold formK; rfl
theorem formK_zon : formK ({ data := #[122, 111, 110, 101] } : ByteArray) = [110] := by unfold formK; rfl
theorem formK_hol : formK ({ data := #[104, 111, 108, 105, 100, 97, 121] } : ByteArray) = [100] := by unfold formK; rfl
theorem formK_rul : formK ({ data := #[114, 117, 108, 101] } : ByteArray) = [110, 100, 100, 108, 107, 100, 100, 100, 100, 100] := by unfold formK; rfl
theorem formK_ext : formK ({ data := #[101, 120, 116, 114, 97] } : ByteArray) = [110, 100] := by unfold formK; rfl
theorem formK_fix : formK ({ data := #[102, 105, 120, 101, 100] } : ByteArray) = [122, 122, 100] := by unfold formK; rfl
theorem getD_le {α : Type} {P : α -> Nat} {l : List α} {x0 : α} {m : Nat} (h : ∀ x, x ∈ l -> P x <= m) (h0 : P x0 <= m) (j : Nat) : P (l.getD j x0) <= m := by
 rcases Nat.lt_or_ge j l.length with q | q
 ·rw [List.getD_eq_getElem?_getD, List.getElem?_eq_getElem q]; exact h _ (List.getElem_mem q)
 ·rw [List.getD_eq_getElem?_getD, List.getElem?_eq_none q]; exact h0
theorem itmF_nil (zs : List ByteArray) (ws : List Wd) (x : Itm) : itmF zs [] ws x = x := by cases ws <;> rfl
theorem DInv.tok {d : Dft} {n : Nat} (h : DInv d n) (hn : n <= 900) : TOk d.t :=
 ⟨Nat.le_trans h.nm (by decide), Nat.le_trans h.z (by omega), Nat.le_trans h.h (by omega), Nat.le_trans h.r (by omega), Nat.le_trans h.e (by omega), Nat.le_trans h.f (by omega), fun j => getD_le (P := fun x : ByteArray => x.size) (fun x hx => Nat.le_trans (h.zs x hx) (by decide)) (by decide) j, fun j => getD_le (P := fun x : Rul => x.name.size) (fun x hx => Nat.le_trans (h.rs x hx).1 (by decide)) (by decide) j, fun j => getD_le (P := fun x : Rul => x.zones.length) (fun x hx => Nat.le_trans (h.rs x hx).2.1 (by decide)) (by decide) j, fun j => getD_le (P := fun x : Rul => x.days.length) (fun x hx => Nat.le_trans (h.rs x hx).2.2 (by decide)) (by decide) j, fun j => getD_le (P := fun x : Ext => x.name.size) (fun x hx => Nat.le_trans (h.es x hx) (by decide)) (by decide) j⟩
section
variable {d : Dft} {w0 : Wd} {ws : List Wd} {en n : Nat} {l : Tx}
theorem rd_any {c0 n : Int} (h : kndC (decide (0 < (d.l0.length : Int))) (toS w0.t) = 0) : (readP d ⟨w0 :: ws, en, 0, c0⟩ n).2 = closeL (chain (gsF d.t.zones (formK (toS w0.t))) ⟨ws, en, 0, c0⟩) /\
  (scanW (gsF d.t.zones (formK (toS w0.t))) ws en = none -> ws.length = (formK (toS w0.t)).length -> (readP d ⟨w0 :: ws, en, 0, c0⟩ n).1 = addD d n (toS w0.t) (itmF d.t.zones (formK (toS w0.t)) ws itm0)) := by
 have e : (nextL (fun t => kndC (decide (0 < (d.l0.length : Int))) (toS t)) ⟨w0 :: ws, en, 0, c0⟩).e = 0 := by
  rw [nextL_ok (g := fun t => kndC (decide (0 < (d.l0.length : Int))) (toS t)) h]
 rcases kind6 e with k | k | k | k | k | k
 ·have k : toS w0.t = ({ data := #[116, 97, 114, 105, 102, 102] } : ByteArray) := k
  rw [k]; exact rd_tar h k
 ·have k : toS w0.t = ({ data := #[122, 111, 110, 101] } : ByteArray) := k
  rw [k]; exact rd_zon h k
 ·have k : toS w0.t = ({ data := #[104, 111, 108, 105, 100, 97, 121] } : ByteArray) := k
  rw [k]; exact rd_hol h k
 ·have k : toS w0.t = ({ data := #[114, 117, 108, 101] } : ByteArray) := k
  rw [k]; exact rd_rul h k
 ·have k : toS w0.t = ({ data := #[101, 120, 116, 114, 97] } : ByteArray) := k
  rw [k]; exact rd_ext h k
 ·have k : toS w0.t = ({ data := #[102, 105, 120, 101, 100] } : ByteArray) := k
  rw [k]; exact rd_fix h k
theorem step_kE (hw : wordsL l = w0 :: ws) (h : kndC (decide (0 < (d.l0.length : Int))) (toS w0.t) ≠ 0) : stepP d n l = .error ((w0.c : Nat), 7) := by
 have e : lnOf l = ⟨w0 :: ws, enW (w0 :: ws), 0, 0⟩ := by unfold lnOf; rw [hw]
 obtain ⟨h1, h2⟩ := read_k (d := d) (ws := ws) (en := enW (w0 :: ws)) (c0 := 0) (n := (n : Nat)) h
 rw [step_bad (by rw [e]; simp) (by rw [e, h1]; decide), e, h1, h2]
theorem step_lE (hw : wordsL l = w0 :: ws) (h : kndC (decide (0 < (d.l0.length : Int))) (toS w0.t) = 0) {c e : Int} (he : lineE (gsF d.t.zones (formK (toS w0.t))) ws (enW (w0 :: ws)) = some (c, e)) : stepP d n l = .error (c, e) := by
 have e0 : lnOf l = ⟨w0 :: ws, enW (w0 :: ws), 0, 0⟩ := by unfold lnOf; rw [hw]
 obtain ⟨h1, _⟩ := rd_any (ws := ws) (en := enW (w0 :: ws)) (c0 := 0) (n := (n : Nat)) h
 obtain ⟨k1, k2, k3⟩ := lineE_some (c0 := 0) he
 rw [step_bad (by rw [e0]; simp) (by rw [e0, h1, k2]; exact k1), e0, h1, k2, k3]
theorem step_l0 (hw : wordsL l = w0 :: ws) (h : kndC (decide (0 < (d.l0.length : Int))) (toS w0.t) = 0) (he : lineE (gsF d.t.zones (formK (toS w0.t))) ws (enW (w0 :: ws)) = none) : stepP d n l = .ok (addD d (n : Nat) (toS w0.t) (itmF d.t.zones (formK (toS w0.t)) ws itm0)) /\ addD d (n : Nat) (toS w0.t) (itmF d.t.zones (formK (toS w0.t)) ws itm0) = (readP d (lnOf l) (n : Nat)).1 := by
 have e0 : lnOf l = ⟨w0 :: ws, enW (w0 :: ws), 0, 0⟩ := by unfold lnOf; rw [hw]
 obtain ⟨h1, h2⟩ := rd_any (ws := ws) (en := enW (w0 :: ws)) (c0 := 0) (n := (n : Nat)) h
 obtain ⟨k1, k2, k3⟩ := lineE_none (c0 := 0) he
 have k4 := h2 k1 (by rw [k2]; unfold gsF; exact List.length_map _)
 refine ⟨?_, by rw [e0, k4]⟩
 rw [step_ok (by rw [e0]; simp) (by rw [e0, h1, k3]; exact fun q => q rfl), e0, k4]
end
theorem toS_nil {l : Tx} : toS l = { data := #[] } ↔ l = [] := ⟨fun h => by have := congrArg (fun s : ByteArray => s.data.toList) h; exact this, fun h => by rw [h]; rfl⟩
theorem last_nil {s : ByteArray} : (cutS 10 s).getD ((cutS 10 s).length - 1) bs0 = { data := #[] } ↔ (cut 10 s.data.toList).getLast? = some [] := by
 have e : cutS 10 s = (cut 10 s.data.toList).map toS := cutS_of rfl
 have hn := List.length_pos_iff.2 (cut_ne 10 s.data.toList)
 rw [e, List.length_map, toS_getD, toS_nil, List.getLast?_eq_getElem?, List.getD_eq_getElem?_getD, List.getElem?_eq_getElem (show (cut 10 s.data.toList).length - 1 < _ by omega)]
 simp
theorem lines_T {s : ByteArray} (h : (cutS 10 s).getD ((cutS 10 s).length - 1) bs0 = { data := #[] }) : (linT s.data.toList).length = (cutS 10 s).length - 1 /\ ∀ a, a < (linT s.data.toList).length -> (cutS 10 s).getD a bs0 = toS ((linT s.data.toList).getD a []) := by
 have e : cutS 10 s = (cut 10 s.data.toList).map toS := cutS_of rfl
 have hn := List.length_pos_iff.2 (cut_ne 10 s.data.toList)
 have e2 : linT s.data.toList = (cut 10 s.data.toList).dropLast := by unfold linT; rw [if_pos (last_nil.1 h)]
 rw [e2, e]
 refine ⟨by simp, fun a ha => ?_⟩
 rw [List.length_dropLast] at ha
 rw [toS_getD]
 congr 1
 rw [List.getD_eq_getElem?_getD, List.getD_eq_getElem?_getD, List.dropLast_eq_take, List.getElem?_take, if_pos ha]
theorem lines_F {s : ByteArray} (h : ¬ (cutS 10 s).getD ((cutS 10 s).length - 1) bs0 = { data := #[] }) : (linT s.data.toList).length = (cutS 10 s).length /\ ∀ a, a < (linT s.data.toList).length -> (cutS 10 s).getD a bs0 = toS ((linT s.data.toList).getD a []) := by
 have e : cutS 10 s = (cut 10 s.data.toList).map toS := cutS_of rfl
 have e2 : linT s.data.toList = cut 10 s.data.toList := by unfold linT; rw [if_neg (fun q => h (last_nil.2 q))]
 rw [e2, e]
 exact ⟨by simp, fun a ha => toS_getD _ _⟩
section
variable {W0 : World} {G : Nat -> Option AV} (hX : (Xc W0 G).Good) (hl : Laid W0)
include hX hl
theorem c45 (zs : List ByteArray) (v : Nat) (x : Itm) (s : ByteArray) (hz : Side (zs.length <= 900)) (hx : Side (ItmOk x)) (hs : Side (s.size <= 600)) (k : Int) (hk : Side (k = 110 \/ k = 100 \/ k = 107 \/ k = 108 \/ k = 122)) : Mut (Xc W0 G) 45 [.agg 8 (tbl [.any, .any, .any, .own 0 v, .any, .any, .any, .any]), itA x 1, .int .u8 k, .str s] (rqO zs v x) (.tup 2 (tbl [itA (rdX zs k x s) 1, .int .i64 (kE zs k s)])) (rqO zs v (rdX zs k x s)) := by
 rcases hk.get with rfl | rfl | rfl | rfl | rfl
 ·exact c45_n hX hl zs v x s hz hx hs
 ·exact c45_d hX hl zs v x s hz hx hs
 ·exact c45_k hX hl zs v x s hz hx hs
 ·exact c45_l hX hl zs v x s hz hx hs
 ·exact c45_z hX hl zs v x s hz hx hs
def rfO (d : Dft) : List HObj := [.box [.str bs0, .int .i64 0, .int .i64 0, .slc0, .slc0, .slc0, .slc0, .slc0], .box [.int .i64 0, .int .i64 0], .box [.str d.t.name, .int .i64 d.t.unit, .int .i64 d.t.step, .own 4 (d.t.zones.length + 1), .own 5 (d.t.hol.length + 1), .own 6 (d.t.rules.length + 1), .own 7 (d.t.extras.length + 1), .own 8 (d.t.fixed.length + 1)], .last 24 1 6 [.own 9 (d.l0.length + 1), .own 10 (d.l1.length + 1), .own 11 (d.l2.length + 1), .own 12 (d.l3.length + 1), .own 13 (d.l4.length + 1), .own 14 (d.l5.length + 1)] 1, .list 9 1 d.t.zones.length (fun a _ => .str (d.t.zones.getD a bs0)) (d.t.zones.length + 1), .list 3 1 d.t.hol.length (fun a _ => .int .i64 (d.t.hol.getD a 0)) (d.t.hol.length + 1), .list 113 10 d.t.rules.length (fun a j => tbl (rulC (d.t.rules.getD a rul0)) j) (d.t.rules.length + 1), .list 115 2 d.t.extras.length (fun a j => tbl (extC (d.t.extras.getD a ext0)) j) (d.t.extras.length + 1), .list 117 3 d.t.fixed.length (fun a j => tbl (fxdC (d.t.fixed.getD a fxd0)) j) (d.t.fixed.length + 1), .list 3 1 d.l0.length (fun a _ => .int .i64 (d.l0.getD a 0)) (d.l0.length + 1), .list 3 1 d.l1.length (fun a _ => .int .i64 (d.l1.getD a 0)) (d.l1.length + 1), .list 3 1 d.l2.length (fun a _ => .int .i64 (d.l2.getD a 0)) (d.l2.length + 1), .list 3 1 d.l3.length (fun a _ => .int .i64 (d.l3.getD a 0)) (d.l3.length + 1), .list 3 1 d.l4.length (fun a _ => .int .i64 (d.l4.getD a 0)) (d.l4.length + 1), .list 3 1 d.l5.length (fun a _ => .int .i64 (d.l5.getD a 0)) (d.l5.length + 1)]
omit hX hl in
theorem rfO_tar (d : Dft) (n : Int) (a : ByteArray) (b c : Int) : rfO { d with t := { d.t with name := a, unit := b, step := c }, l0 := d.l0 ++ [n] } = [.box [.str bs0, .int .i64 0, .int .i64 0, .slc0, .slc0, .slc0, .slc0, .slc0], .box [.int .i64 0, .int .i64 0], .box [.str a, .int .i64 b, .int .i64 c, .own 4 (d.t.zones.length + 1), .own 5 (d.t.hol.length + 1), .own 6 (d.t.rules.length + 1), .own 7 (d.t.extras.length + 1), .own 8 (d.t.fixed.length + 1)], .last 24 1 6 [.own 9 (d.l0.length + 1 + 1), .own 10 (d.l1.length + 1), .own 11 (d.l2.length + 1), .own 12 (d.l3.length + 1), .own 13 (d.l4.length + 1), .own 14 (d.l5.length + 1)] 1, .list 9 1 d.t.zones.length (fun a _ => .str (d.t.zones.getD a bs0)) (d.t.zones.length + 1), .list 3 1 d.t.hol.length (fun a _ => .int .i64 (d.t.hol.getD a 0)) (d.t.hol.length + 1), .list 113 10 d.t.rules.length (fun a j => tbl (rulC (d.t.rules.getD a rul0)) j) (d.t.rules.length + 1), .list 115 2 d.t.extras.length (fun a j => tbl (extC (d.t.extras.getD a ext0)) j) (d.t.extras.length + 1), .list 117 3 d.t.fixed.length (fun a j => tbl (fxdC (d.t.fixed.getD a fxd0)) j) (d.t.fixed.length + 1), .list 3 1 (d.l0.length + 1) (fun a _ => .int .i64 ((d.l0 ++ [n]).getD a 0)) (d.l0.length + 1 + 1), .list 3 1 d.l1.length (fun a _ => .int .i64 (d.l1.getD a 0)) (d.l1.length + 1), .list 3 1 d.l2.length (fun a _ => .int .i64 (d.l2.getD a 0)) (d.l2.length + 1), .list 3 1 d.l3.length (fun a _ => .int .i64 (d.l3.getD a 0)) (d.l3.length + 1), .list 3 1 d.l4.length (fun a _ => .int .i64 (d.l4.getD a 0)) (d.l4.length + 1), .list 3 1 d.l5.length (fun a _ => .int .i64 (d.l5.getD a 0)) (d.l5.length + 1)] := by
 have e1 : (d.l0 ++ [n]).length = d.l0.length + 1 := by simp
 unfold rfO
 dsimp only []
 rw [e1]
omit hX hl in
theorem rfO_zon (d : Dft) (n : Int) (y : ByteArray) : rfO ((d.nt1 n).adZ y) = [.box [.str bs0, .int .i64 0, .int .i64 0, .slc0, .slc0, .slc0, .slc0, .slc0], .box [.int .i64 0, .int .i64 0], .box [.str d.t.name, .int .i64 d.t.unit, .int .i64 d.t.step, .own 4 (d.t.zones.length + 1 + 1), .own 5 (d.t.hol.length + 1), .own 6 (d.t.rules.length + 1), .own 7 (d.t.extras.length + 1), .own 8 (d.t.fixed.length + 1)], .last 24 1 6 [.own 9 (d.l0.length + 1), .own 10 (d.l1.length + 1 + 1), .own 11 (d.l2.length + 1), .own 12 (d.l3.length + 1), .own 13 (d.l4.length + 1), .own 14 (d.l5.length + 1)] 1, .list 9 1 (d.t.zones.length + 1) (fun a _ => .str ((d.t.zones ++ [y]).getD a bs0)) (d.t.zones.length + 1 + 1), .list 3 1 d.t.hol.length (fun a _ => .int .i64 (d.t.hol.getD a 0)) (d.t.hol.length + 1), .list 113 10 d.t.rules.length (fun a j => tbl (rulC (d.t.rules.getD a rul0)) j) (d.t.rules.length + 1), .list 115 2 d.t.extras.length (fun a j => tbl (extC (d.t.extras.getD a ext0)) j) (d.t.extras.length + 1), .list 117 3 d.t.fixed.length (fun a j => tbl (fxdC (d.t.fixed.getD a fxd0)) j) (d.t.fixed.length + 1), .list 3 1 d.l0.length (fun a _ => .int .i64 (d.l0.getD a 0)) (d.l0.length + 1), .list 3 1 (d.l1.length + 1) (fun a _ => .int .i64 ((d.l1 ++ [n]).getD a 0)) (d.l1.length + 1 + 1), .list 3 1 d.l2.length (fun a _ => .int .i64 (d.l2.getD a 0)) (d.l2.length + 1), .list 3 1 d.l3.length (fun a _ => .int .i64 (d.l3.getD a 0)) (d.l3.length + 1), .list 3 1 d.l4.length (fun a _ => .int .i64 (d.l4.getD a 0)) (d.l4.length + 1), .list 3 1 d.l5.length (fun a _ => .int .i64 (d.l5.getD a 0)) (d.l5.length + 1)] := by
 have e1 : (d.l1 ++ [n]).length = d.l1.length + 1 := by simp
 have e2 : (d.t.zones ++ [y]).length = d.t.zones.length + 1 := by simp
 unfold rfO
 dsimp only [Dft.adZ, Dft.nt1]
 rw [e1, e2]
omit hX hl in
theorem rfO_hol (d : Dft) (n : Int) (y : Int) : rfO ((d.nt2 n).adH y) = [.box [.str bs0, .int .i64 0, .int .i64 0, .slc0, .slc0, .slc0, .slc0, .slc0], .box [.int .i64 0, .int .i64 0], .box [.str d.t.name, .int .i64 d.t.unit, .int .i64 d.t.step, .own 4 (d.t.zones.length + 1), .own 5 (d.t.hol.length + 1 + 1), .own 6 (d.t.rules.length + 1), .own 7 (d.t.extras.length + 1), .own 8 (d.t.fixed.length + 1)], .last 24 1 6 [.own 9 (d.l0.length + 1), .own 10 (d.l1.length + 1), .own 11 (d.l2.length + 1 + 1), .own 12 (d.l3.length + 1), .own 13 (d.l4.length + 1), .own 14 (d.l5.length + 1)] 1, .list 9 1 d.t.zones.length (fun a _ => .str (d.t.zones.getD a bs0)) (d.t.zones.length + 1), .list 3 1 (d.t.hol.length + 1) (fun a _ => .int .i64 ((d.t.hol ++ [y]).getD a 0)) (d.t.hol.length + 1 + 1), .list 113 10 d.t.rules.length (fun a j => tbl (rulC (d.t.rules.getD a rul0)) j) (d.t.rules.length + 1), .list 115 2 d.t.extras.length (fun a j => tbl (extC (d.t.extras.getD a ext0)) j) (d.t.extras.length + 1), .list 117 3 d.t.fixed.length (fun a j => tbl (fxdC (d.t.fixed.getD a fxd0)) j) (d.t.fixed.length + 1), .list 3 1 d.l0.length (fun a _ => .int .i64 (d.l0.getD a 0)) (d.l0.length + 1), .list 3 1 d.l1.length (fun a _ => .int .i64 (d.l1.getD a 0)) (d.l1.length + 1), .list 3 1 (d.l2.length + 1) (fun a _ => .int .i64 ((d.l2 ++ [n]).getD a 0)) (d.l2.length + 1 + 1), .list 3 1 d.l3.length (fun a _ => .int .i64 (d.l3.getD a 0)) (d.l3.length + 1), .list 3 1 d.l4.length (fun a _ => .int .i64 (d.l4.getD a 0)) (d.l4.length + 1), .list 3 1 d.l5.length (fun a _ => .int .i64 (d.l5.getD a 0)) (d.l5.length + 1)] := by
 have e1 : (d.l2 ++ [n]).length = d.l2.length + 1 := by simp
 have e2 : (d.t.hol ++ [y]).length = d.t.hol.length + 1 := by simp
 unfold rfO
 dsimp only [Dft.adH, Dft.nt2]
 rw [e1, e2]
omit hX hl in
theorem rfO_rul (d : Dft) (n : Int) (y : Rul) : rfO ((d.nt3 n).adR y) = [.box [.str bs0, .int .i64 0, .int .i64 0, .slc0, .slc0, .slc0, .slc0, .slc0], .box [.int .i64 0, .int .i64 0], .box [.str d.t.name, .int .i64 d.t.unit, .int .i64 d.t.step, .own 4 (d.t.zones.length + 1), .own 5 (d.t.hol.length + 1), .own 6 (d.t.rules.length + 1 + 1), .own 7 (d.t.extras.length + 1), .own 8 (d.t.fixed.length + 1)], .last 24 1 6 [.own 9 (d.l0.length + 1), .own 10 (d.l1.length + 1), .own 11 (d.l2.length + 1), .own 12 (d.l3.length + 1 + 1), .own 13 (d.l4.length + 1), .own 14 (d.l5.length + 1)] 1, .list 9 1 d.t.zones.length (fun a _ => .str (d.t.zones.getD a bs0)) (d.t.zones.length + 1), .list 3 1 d.t.hol.length (fun a _ => .int .i64 (d.t.hol.getD a 0)) (d.t.hol.length + 1), .list 113 10 (d.t.rules.length + 1) (fun a j => tbl (rulC ((d.t.rules ++ [y]).getD a rul0)) j) (d.t.rules.length + 1 + 1), .list 115 2 d.t.extras.length (fun a j => tbl (extC (d.t.extras.getD a ext0)) j) (d.t.extras.length + 1), .list 117 3 d.t.fixed.length (fun a j => tbl (fxdC (d.t.fixed.getD a fxd0)) j) (d.t.fixed.length + 1), .list 3 1 d.l0.length (fun a _ => .int .i64 (d.l0.getD a 0)) (d.l0.length + 1), .list 3 1 d.l1.length (fun a _ => .int .i64 (d.l1.getD a 0)) (d.l1.length + 1), .list 3 1 d.l2.length (fun a _ => .int .i64 (d.l2.getD a 0)) (d.l2.length + 1), .list 3 1 (d.l3.length + 1) (fun a _ => .int .i64 ((d.l3 ++ [n]).getD a 0)) (d.l3.length + 1 + 1), .list 3 1 d.l4.length (fun a _ => .int .i64 (d.l4.getD a 0)) (d.l4.length + 1), .list 3 1 d.l5.length (fun a _ => .int .i64 (d.l5.getD a 0)) (d.l5.length + 1)] := by
 have e1 : (d.l3 ++ [n]).length = d.l3.length + 1 := by simp
 have e2 : (d.t.rules ++ [y]).length = d.t.rules.length + 1 := by simp
 unfold rfO
 dsimp only [Dft.adR, Dft.nt3]
 rw [e1, e2]
omit hX hl in
theorem rfO_ext (d : Dft) (n : Int) (y : Ext) : rfO ((d.nt4 n).adE y) = [.box [.str bs0, .int .i64 0, .int .i64 0, .slc0, .slc0, .slc0, .slc0, .slc0], .box [.int .i64 0, .int .i64 0], .box [.str d.t.name, .int .i64 d.t.unit, .int .i64 d.t.step, .own 4 (d.t.zones.length + 1), .own 5 (d.t.hol.length + 1), .own 6 (d.t.rules.length + 1), .own 7 (d.t.extras.length + 1 + 1), .own 8 (d.t.fixed.length + 1)], .last 24 1 6 [.own 9 (d.l0.length + 1), .own 10 (d.l1.length + 1), .own 11 (d.l2.length + 1), .own 12 (d.l3.length + 1), .own 13 (d.l4.length + 1 + 1), .own 14 (d.l5.length + 1)] 1, .list 9 1 d.t.zones.length (fun a _ => .str (d.t.zones.getD a bs0)) (d.t.zones.length + 1), .list 3 1 d.t.hol.length (fun a _ => .int .i64 (d.t.hol.getD a 0)) (d.t.hol.length + 1), .list 113 10 d.t.rules.length (fun a j => tbl (rulC (d.t.rules.getD a rul0)) j) (d.t.rules.length + 1), .list 115 2 (d.t.extras.length + 1) (fun a j => tbl (extC ((d.t.extras ++ [y]).getD a ext0)) j) (d.t.extras.length + 1 + 1), .list 117 3 d.t.fixed.length (fun a j => tbl (fxdC (d.t.fixed.getD a fxd0)) j) (d.t.fixed.length + 1), .list 3 1 d.l0.length (fun a _ => .int .i64 (d.l0.getD a 0)) (d.l0.length + 1), .list 3 1 d.l1.length (fun a _ => .int .i64 (d.l1.getD a 0)) (d.l1.length + 1), .list 3 1 d.l2.length (fun a _ => .int .i64 (d.l2.getD a 0)) (d.l2.length + 1), .list 3 1 d.l3.length (fun a _ => .int .i64 (d.l3.getD a 0)) (d.l3.length + 1), .list 3 1 (d.l4.length + 1) (fun a _ => .int .i64 ((d.l4 ++ [n]).getD a 0)) (d.l4.length + 1 + 1), .list 3 1 d.l5.length (fun a _ => .int .i64 (d.l5.getD a 0)) (d.l5.length + 1)] := by
 have e1 : (d.l4 ++ [n]).length = d.l4.length + 1 := by simp
 have e2 : (d.t.extras ++ [y]).length = d.t.extras.length + 1 := by simp
 unfold rfO
 dsimp only [Dft.adE, Dft.nt4]
 rw [e1, e2]
omit hX hl in
theorem rfO_fix (d : Dft) (n : Int) (y : Fxd) : rfO ((d.nt5 n).adF y) = [.box [.str bs0, .int .i64 0, .int .i64 0, .slc0, .slc0, .slc0, .slc0, .slc0], .box [.int .i64 0, .int .i64 0], .box [.str d.t.name, .int .i64 d.t.unit, .int .i64 d.t.step, .own 4 (d.t.zones.length + 1), .own 5 (d.t.hol.length + 1), .own 6 (d.t.rules.length + 1), .own 7 (d.t.extras.length + 1), .own 8 (d.t.fixed.length + 1 + 1)], .last 24 1 6 [.own 9 (d.l0.length + 1), .own 10 (d.l1.length + 1), .own 11 (d.l2.length + 1), .own 12 (d.l3.length + 1), .own 13 (d.l4.length + 1), .own 14 (d.l5.length + 1 + 1)] 1, .list 9 1 d.t.zones.length (fun a _ => .str (d.t.zones.getD a bs0)) (d.t.zones.length + 1), .list 3 1 d.t.hol.length (fun a _ => .int .i64 (d.t.hol.getD a 0)) (d.t.hol.length + 1), .list 113 10 d.t.rules.length (fun a j => tbl (rulC (d.t.rules.getD a rul0)) j) (d.t.rules.length + 1), .list 115 2 d.t.extras.length (fun a j => tbl (extC (d.t.extras.getD a ext0)) j) (d.t.extras.length + 1), .list 117 3 (d.t.fixed.length + 1) (fun a j => tbl (fxdC ((d.t.fixed ++ [y]).getD a fxd0)) j) (d.t.fixed.length + 1 + 1), .list 3 1 d.l0.length (fun a _ => .int .i64 (d.l0.getD a 0)) (d.l0.length + 1), .list 3 1 d.l1.length (fun a _ => .int .i64 (d.l1.getD a 0)) (d.l1.length + 1), .list 3 1 d.l2.length (fun a _ => .int .i64 (d.l2.getD a 0)) (d.l2.length + 1), .list 3 1 d.l3.length (fun a _ => .int .i64 (d.l3.getD a 0)) (d.l3.length + 1), .list 3 1 d.l4.length (fun a _ => .int .i64 (d.l4.getD a 0)) (d.l4.length + 1), .list 3 1 (d.l5.length + 1) (fun a _ => .int .i64 ((d.l5 ++ [n]).getD a 0)) (d.l5.length + 1 + 1)] := by
 have e1 : (d.l5 ++ [n]).length = d.l5.length + 1 := by simp
 have e2 : (d.t.fixed ++ [y]).length = d.t.fixed.length + 1 := by simp
 unfold rfO
 dsimp only [Dft.adF, Dft.nt5]
 rw [e1, e2]
attribute [local irreducible] formS formK rdX kndC
theorem c14_8 (s : ByteArray) (hs : Side (60000 < s.size)) : Pure (Xc W0 G) 14 [.str s] (resP ⟨trf0, 0, 0, 8⟩) := by
 have hz : ¬ decide ((60000 : Int) < ((s.size : Nat) : Int)) = false := by have := hs.get; rw [decide_eq_true (by omega)]; decide
 refine mut_of' hX (fnI Tryz.f14) rfl ?_
 repeat' (first
  | (refine Ax.go ?_; first | (with_reducible apply Alt.one))
  | exact Cl.go
  | ((fail_if_success refine Stop.go ?_); first | (with_reducible first | apply And.intro | apply Cut.go | (refine impI ?_; intro _; try (first | exact ko hz))) | (refine propI ?_; conv => whnf)))
 all_goals try exact nbZ
 all_goals exact .mk [] [] _ rfl (.le (.tups ⟨⟨⟨trivial, .aggs (n := 8) (z8 rfl)⟩, .aggs (n := 2) ⟨⟨trivial, .refl _⟩, .refl _⟩⟩, .refl _⟩)) trivial rfl
set_option maxRecDepth 20000 in
set_option maxHeartbeats 30000000 in
theorem c14_p (s : ByteArray) (hs : Side (s.size <= 500)) : Pure (Xc W0 G) 14 [.str s] (resP (fromP (linT s.data.toList) dft0 0)) := by
 have hz : ¬ decide ((60000 : Int) < ((s.size : Nat) : Int)) = true := by have := hs.get; rw [decide_eq_false (by omega)]; decide
 have hs5 := hs.get
 have hsz := size_len s
 refine mut_of' hX (fnI Tryz.f14) rfl ?_
 repeat' (first
  | (refine Ax.go ?_; first | (with_reducible apply callAlt (c31 hX s 10 (Side.mk (by have := hs.get; omega)))) | (with_reducible apply Alt.one))
  | exact Cl.go
  | ((fail_if_success refine Stop.go ?_); (fail_if_success with_reducible refine (?_ : Cut _ _)); first | (with_reducible first | apply And.intro | (refine impI ?_; intro _; try (first | exact ko hz))) | (refine propI ?_; conv => whnf)))
 all_goals try exact nbZ
 refine Cut.go ?_
 repeat' (first
  | (refine Ax.go ?_; first | (with_reducible apply callAlt (c31 hX s 10 (Side.mk (by have := hs.get; omega)))) | (with_reducible apply Alt.one))
  | exact Cl.go
  | ((fail_if_success refine Stop.go ?_); (fail_if_success with_reducible refine (?_ : Cut _ _)); first | (with_reducible first | apply And.intro | (refine impI ?_; intro _; try (first | exact ko hz))) | (refine propI ?_; conv => whnf)))
 all_goals try exact nbZ
 have hL1 : (cutS 10 s).length = (cut 10 s.data.toList).length := cutS_len 10 s
 have hL2 := cut_len 10 s.data.toList
 have hL3 := List.length_pos_iff.2 (cut_ne 10 s.data.toList)
 have hL4 := lin_len s.data.toList
 obtain ⟨LL, hLL⟩ : ∃ LL, LL = linT s.data.toList := ⟨_, rfl⟩
 rw [<- hLL] at hL4 ⊢
 refine .cut ⟨Unit, fun _ => ([(2, .ptr 0 0), (3, .ptr 1 0), (5, (.slc 1 LL.length (fun a _ => .str (toS (LL.getD a [])))))], ([.box [.str bs0, .int .i64 0, .int .i64 0, .slc0, .slc0, .slc0, .slc0, .slc0], .box [.int .i64 0, .int .i64 0]] : List HObj)), fun _ => True, ?_, fun _ _ => ?_⟩
 ·skip
  repeat' (first
   | (refine Ax.go ?_; first | (with_reducible apply callAlt (c31 hX s 10 (Side.mk (by have := hs.get; omega)))) | (with_reducible apply Alt.one))
   | exact Cl.go
   | ((fail_if_success refine Stop.go ?_); first | (with_reducible first | apply And.intro | apply Cut.go | (refine impI ?_; intro _; try (first | exact ko hz))) | (refine propI ?_; conv => whnf)))
  all_goals try exact nbZ
  ·exact .of ⟨by show (-9223372036854775808 : Int) <= ((cutS 10 s).length : Nat) - 1; omega, by show (((cutS 10 s).length : Nat) : Int) - 1 <= 9223372036854775807; omega⟩
  ·exact .of ⟨by omega, by omega⟩
  ·exact .of ⟨by show (-9223372036854775808 : Int) <= ((cutS 10 s).length : Nat) - 1; omega, by show (((cutS 10 s).length : Nat) : Int) - 1 <= 9223372036854775807; omega⟩
  ·exact .of ⟨by omega, by omega, by omega⟩
  ·rename_i q
   obtain ⟨q1, q2⟩ := lines_T (s := s) (by have q := of_decide_eq_true q; rw [show (((cutS 10 s).length : Nat) : Int) - 1 = (((cutS 10 s).length - 1 : Nat) : Int) by omega] at q; exact q)
   rw [<- hLL] at q1 q2
   exact ⟨(), trivial, .le ⟨rfl, ⟨.refl _, .refl _, trivial⟩, ⟨.refl _, .refl _, .slcN (by rw [q1]; show ((((cutS 10 s).length : Nat) : Int) - 1).toNat - 0 = _; omega) (fun a j ha hj => by replace hj : j < 1 := hj; (obtain rfl : j = 0 := (by omega)); exact Le.ofEq (congrArg AV.str (show (cutS 10 s).getD (0 + a) bs0 = _ by rw [Nat.zero_add]; exact q2 a (by rw [q1]; replace ha : a < ((((cutS 10 s).length : Nat) : Int) - 1).toNat - 0 := ha; omega)))), trivial⟩⟩⟩
  ·rename_i q
   obtain ⟨q1, q2⟩ := lines_F (s := s) (by have q := of_decide_eq_false q; rw [show (((cutS 10 s).length : Nat) : Int) - 1 = (((cutS 10 s).length - 1 : Nat) : Int) by omega] at q; exact q)
   rw [<- hLL] at q1 q2
   exact ⟨(), trivial, .le ⟨rfl, ⟨.refl _, .refl _, trivial⟩, ⟨.refl _, .refl _, .slcN q1.symm (fun a j ha hj => by replace hj : j < 1 := hj; (obtain rfl : j = 0 := (by omega)); exact Le.ofEq (congrArg AV.str (q2 a (by rw [q1]; exact ha)))), trivial⟩⟩⟩
 ·skip
  repeat' (first
   | (refine Ax.go ?_; first | (with_reducible apply Alt.one))
   | exact Cl.go
   | ((fail_if_success refine Stop.go ?_); (fail_if_success with_reducible refine (?_ : Cut _ _)); first | (with_reducible first | apply And.intro | (refine impI ?_; intro _; try (first | exact ko hz))) | (refine propI ?_; conv => whnf)))
  all_goals try exact nbZ
  ·exact .of ⟨rfl, by decide, by decide, by decide⟩
  refine .cut ⟨Dft, fun d => ([(2, .ptr 0 0), (3, .ptr 1 0), (5, (.slc 1 LL.length (fun a _ => .str (toS (LL.getD a []))))), (6, .ptr 2 0), (7, .own 3 1), (8, .int .i64 ((LL.length : Nat) : Int))], ([.box [.str bs0, .int .i64 0, .int .i64 0, .slc0, .slc0, .slc0, .slc0, .slc0], .box [.int .i64 0, .int .i64 0], .box [.str d.t.name, .int .i64 d.t.unit, .int .i64 d.t.step, .own 4 (d.t.zones.length + 1), .own 5 (d.t.hol.length + 1), .own 6 (d.t.rules.length + 1), .own 7 (d.t.extras.length + 1), .own 8 (d.t.fixed.length + 1)], .last 24 1 6 [.own 9 (d.l0.length + 1), .own 10 (d.l1.length + 1), .own 11 (d.l2.length + 1), .own 12 (d.l3.length + 1), .own 13 (d.l4.length + 1), .own 14 (d.l5.length + 1)] 1, .list 9 1 d.t.zones.length (fun a _ => .str (d.t.zones.getD a bs0)) (d.t.zones.length + 1), .list 3 1 d.t.hol.length (fun a _ => .int .i64 (d.t.hol.getD a 0)) (d.t.hol.length + 1), .list 113 10 d.t.rules.length (fun a j => tbl (rulC (d.t.rules.getD a rul0)) j) (d.t.rules.length + 1), .list 115 2 d.t.extras.length (fun a j => tbl (extC (d.t.extras.getD a ext0)) j) (d.t.extras.length + 1), .list 117 3 d.t.fixed.length (fun a j => tbl (fxdC (d.t.fixed.getD a fxd0)) j) (d.t.fixed.length + 1), .list 3 1 d.l0.length (fun a _ => .int .i64 (d.l0.getD a 0)) (d.l0.length + 1), .list 3 1 d.l1.length (fun a _ => .int .i64 (d.l1.getD a 0)) (d.l1.length + 1), .list 3 1 d.l2.length (fun a _ => .int .i64 (d.l2.getD a 0)) (d.l2.length + 1), .list 3 1 d.l3.length (fun a _ => .int .i64 (d.l3.getD a 0)) (d.l3.length + 1), .list 3 1 d.l4.length (fun a _ => .int .i64 (d.l4.getD a 0)) (d.l4.length + 1), .list 3 1 d.l5.length (fun a _ => .int .i64 (d.l5.getD a 0)) (d.l5.length + 1)] : List HObj)), fun d => fromP LL dft0 0 = endP d LL.length /\ DInv d LL.length, ?_, fun d hd => ?_⟩
  ·skip
   repeat' (first
    | (refine Ax.go ?_; first | (with_reducible apply Alt.one))
    | exact Cl.go
    | ((fail_if_success refine Stop.go ?_); (fail_if_success with_reducible refine (?_ : Cut _ _)); first | (with_reducible first | apply And.intro | (refine impI ?_; intro _; try (first | exact ko hz))) | (refine propI ?_; conv => whnf)))
   all_goals try exact nbZ
   refine ⟨Nat × Dft, fun y => match y with | (i, d) => ([(2, .ptr 0 0), (3, .ptr 1 0), (5, (.slc 1 LL.length (fun a _ => .str (toS (LL.getD a []))))), (6, .ptr 2 0), (7, .own 3 1), (8, .int .i64 ((i : Nat) : Int))], ([.box [.str bs0, .int .i64 0, .int .i64 0, .slc0, .slc0, .slc0, .slc0, .slc0], .box [.int .i64 0, .int .i64 0], .box [.str d.t.name, .int .i64 d.t.unit, .int .i64 d.t.step, .own 4 (d.t.zones.length + 1), .own 5 (d.t.hol.length + 1), .own 6 (d.t.rules.length + 1), .own 7 (d.t.extras.length + 1), .own 8 (d.t.fixed.length + 1)], .last 24 1 6 [.own 9 (d.l0.length + 1), .own 10 (d.l1.length + 1), .own 11 (d.l2.length + 1), .own 12 (d.l3.length + 1), .own 13 (d.l4.length + 1), .own 14 (d.l5.length + 1)] 1, .list 9 1 d.t.zones.length (fun a _ => .str (d.t.zones.getD a bs0)) (d.t.zones.length + 1), .list 3 1 d.t.hol.length (fun a _ => .int .i64 (d.t.hol.getD a 0)) (d.t.hol.length + 1), .list 113 10 d.t.rules.length (fun a j => tbl (rulC (d.t.rules.getD a rul0)) j) (d.t.rules.length + 1), .list 115 2 d.t.extras.length (fun a j => tbl (extC (d.t.extras.getD a ext0)) j) (d.t.extras.length + 1), .list 117 3 d.t.fixed.length (fun a j => tbl (fxdC (d.t.fixed.getD a fxd0)) j) (d.t.fixed.length + 1), .list 3 1 d.l0.length (fun a _ => .int .i64 (d.l0.getD a 0)) (d.l0.length + 1), .list 3 1 d.l1.length (fun a _ => .int .i64 (d.l1.getD a 0)) (d.l1.length + 1), .list 3 1 d.l2.length (fun a _ => .int .i64 (d.l2.getD a 0)) (d.l2.length + 1), .list 3 1 d.l3.length (fun a _ => .int .i64 (d.l3.getD a 0)) (d.l3.length + 1), .list 3 1 d.l4.length (fun a _ => .int .i64 (d.l4.getD a 0)) (d.l4.length + 1), .list 3 1 d.l5.length (fun a _ => .int .i64 (d.l5.getD a 0)) (d.l5.length + 1)] : List HObj)), fun y => match y with | (i, d) => fromP (LL) dft0 0 = fromP (LL.drop i) d i /\ i <= LL.length /\ DInv d i, fun y => LL.length - y.1, ⟨(0, dft0), ⟨rfl, Nat.zero_le _, dft0_inv⟩, ?_⟩, fun y hy => ?_⟩
   ·refine .trans (e1 := [(2, .ptr 0 0), (3, .ptr 1 0), (5, (.slc 1 LL.length (fun a _ => .str (toS (LL.getD a []))))), (6, .ptr 2 0), (7, .own 3 1), (8, .int .i64 ((0 : Nat) : Int))]) (H1 := [.box [.str bs0, .int .i64 0, .int .i64 0, .slc0, .slc0, .slc0, .slc0, .slc0], .box [.int .i64 0, .int .i64 0], .box [.str bs0, .int .i64 0, .int .i64 0, .slc0, .slc0, .slc0, .slc0, .slc0], .last 24 1 6 [.slc0, .slc0, .slc0, .slc0, .slc0, .slc0] 1]) (.le ⟨rfl, ⟨.refl _, .refl _, .refl _, .full (by decide) rfl (fun i j y hi hj hy => ?_), trivial⟩, rfZ⟩) ?_
    ·replace hj : j < 1 := hj
     obtain rfl : j = 0 := by omega
     rcases (show i = 0 \/ i = 1 \/ i = 2 \/ i = 3 \/ i = 4 \/ i = 5 by omega) with rfl | rfl | rfl | rfl | rfl | rfl <;> (cases hy; exact .refl _)
    refine .bornE [.box [.str bs0, .int .i64 0, .int .i64 0, .slc0, .slc0, .slc0, .slc0, .slc0], .box [.int .i64 0, .int .i64 0], .box [.str bs0, .int .i64 0, .int .i64 0, .own 4 1, .slc0, .slc0, .slc0, .slc0], .last 24 1 6 [.slc0, .slc0, .slc0, .slc0, .slc0, .slc0] 1, .list 9 1 0 (fun a _ => .str (dft0.t.zones.getD a bs0)) 1] 2 3 9 1 (fun a _ => .str (dft0.t.zones.getD a bs0)) rfl rfl rfl ?_
    refine .bornE [.box [.str bs0, .int .i64 0, .int .i64 0, .slc0, .slc0, .slc0, .slc0, .slc0], .box [.int .i64 0, .int .i64 0], .box [.str bs0, .int .i64 0, .int .i64 0, .own 4 1, .own 5 1, .slc0, .slc0, .slc0], .last 24 1 6 [.slc0, .slc0, .slc0, .slc0, .slc0, .slc0] 1, .list 9 1 0 (fun a _ => .str (dft0.t.zones.getD a bs0)) 1, .list 3 1 0 (fun a _ => .int .i64 (dft0.t.hol.getD a 0)) 1] 2 4 3 1 (fun a _ => .int .i64 (dft0.t.hol.getD a 0)) rfl rfl rfl ?_
    refine .bornE [.box [.str bs0, .int .i64 0, .int .i64 0, .slc0, .slc0, .slc0, .slc0, .slc0], .box [.int .i64 0, .int .i64 0], .box [.str bs0, .int .i64 0, .int .i64 0, .own 4 1, .own 5 1, .own 6 1, .slc0, .slc0], .last 24 1 6 [.slc0, .slc0, .slc0, .slc0, .slc0, .slc0] 1, .list 9 1 0 (fun a _ => .str (dft0.t.zones.getD a bs0)) 1, .list 3 1 0 (fun a _ => .int .i64 (dft0.t.hol.getD a 0)) 1, .list 113 10 0 (fun a j => tbl (rulC (dft0.t.rules.getD a rul0)) j) 1] 2 5 113 10 (fun a j => tbl (rulC (dft0.t.rules.getD a rul0)) j) rfl rfl rfl ?_
    refine .bornE [.box [.str bs0, .int .i64 0, .int .i64 0, .slc0, .slc0, .slc0, .slc0, .slc0], .box [.int .i64 0, .int .i64 0], .box [.str bs0, .int .i64 0, .int .i64 0, .own 4 1, .own 5 1, .own 6 1, .own 7 1, .slc0], .last 24 1 6 [.slc0, .slc0, .slc0, .slc0, .slc0, .slc0] 1, .list 9 1 0 (fun a _ => .str (dft0.t.zones.getD a bs0)) 1, .list 3 1 0 (fun a _ => .int .i64 (dft0.t.hol.getD a 0)) 1, .list 113 10 0 (fun a j => tbl (rulC (dft0.t.rules.getD a rul0)) j) 1, .list 115 2 0 (fun a j => tbl (extC (dft0.t.extras.getD a ext0)) j) 1] 2 6 115 2 (fun a j => tbl (extC (dft0.t.extras.getD a ext0)) j) rfl rfl rfl ?_
    refine .bornE [.box [.str bs0, .int .i64 0, .int .i64 0, .slc0, .slc0, .slc0, .slc0, .slc0], .box [.int .i64 0, .int .i64 0], .box [.str bs0, .int .i64 0, .int .i64 0, .own 4 1, .own 5 1, .own 6 1, .own 7 1, .own 8 1], .last 24 1 6 [.slc0, .slc0, .slc0, .slc0, .slc0, .slc0] 1, .list 9 1 0 (fun a _ => .str (dft0.t.zones.getD a bs0)) 1, .list 3 1 0 (fun a _ => .int .i64 (dft0.t.hol.getD a 0)) 1, .list 113 10 0 (fun a j => tbl (rulC (dft0.t.rules.getD a rul0)) j) 1, .list 115 2 0 (fun a j => tbl (extC (dft0.t.extras.getD a ext0)) j) 1, .list 117 3 0 (fun a j => tbl (fxdC (dft0.t.fixed.getD a fxd0)) j) 1] 2 7 117 3 (fun a j => tbl (fxdC (dft0.t.fixed.getD a fxd0)) j) rfl rfl rfl ?_
    refine .bornM [.box [.str bs0, .int .i64 0, .int .i64 0, .slc0, .slc0, .slc0, .slc0, .slc0], .box [.int .i64 0, .int .i64 0], .box [.str bs0, .int .i64 0, .int .i64 0, .own 4 1, .own 5 1, .own 6 1, .own 7 1, .own 8 1], .last 24 1 6 [.own 9 1, .slc0, .slc0, .slc0, .slc0, .slc0] 1, .list 9 1 0 (fun a _ => .str (dft0.t.zones.getD a bs0)) 1, .list 3 1 0 (fun a _ => .int .i64 (dft0.t.hol.getD a 0)) 1, .list 113 10 0 (fun a j => tbl (rulC (dft0.t.rules.getD a rul0)) j) 1, .list 115 2 0 (fun a j => tbl (extC (dft0.t.extras.getD a ext0)) j) 1, .list 117 3 0 (fun a j => tbl (fxdC (dft0.t.fixed.getD a fxd0)) j) 1, .list 3 1 0 (fun a _ => .int .i64 (dft0.l0.getD a 0)) 1] 3 0 3 1 (fun a _ => .int .i64 (dft0.l0.getD a 0)) rfl rfl rfl ?_
    refine .bornM [.box [.str bs0, .int .i64 0, .int .i64 0, .slc0, .slc0, .slc0, .slc0, .slc0], .box [.int .i64 0, .int .i64 0], .box [.str bs0, .int .i64 0, .int .i64 0, .own 4 1, .own 5 1, .own 6 1, .own 7 1, .own 8 1], .last 24 1 6 [.own 9 1, .own 10 1, .slc0, .slc0, .slc0, .slc0] 1, .list 9 1 0 (fun a _ => .str (dft0.t.zones.getD a bs0)) 1, .list 3 1 0 (fun a _ => .int .i64 (dft0.t.hol.getD a 0)) 1, .list 113 10 0 (fun a j => tbl (rulC (dft0.t.rules.getD a rul0)) j) 1, .list 115 2 0 (fun a j => tbl (extC (dft0.t.extras.getD a ext0)) j) 1, .list 117 3 0 (fun a j => tbl (fxdC (dft0.t.fixed.getD a fxd0)) j) 1, .list 3 1 0 (fun a _ => .int .i64 (dft0.l0.getD a 0)) 1, .list 3 1 0 (fun a _ => .int .i64 (dft0.l1.getD a 0)) 1] 3 1 3 1 (fun a _ => .int .i64 (dft0.l1.getD a 0)) rfl rfl rfl ?_
    refine .bornM [.box [.str bs0, .int .i64 0, .int .i64 0, .slc0, .slc0, .slc0, .slc0, .slc0], .box [.int .i64 0, .int .i64 0], .box [.str bs0, .int .i64 0, .int .i64 0, .own 4 1, .own 5 1, .own 6 1, .own 7 1, .own 8 1], .last 24 1 6 [.own 9 1, .own 10 1, .own 11 1, .slc0, .slc0, .slc0] 1, .list 9 1 0 (fun a _ => .str (dft0.t.zones.getD a bs0)) 1, .list 3 1 0 (fun a _ => .int .i64 (dft0.t.hol.getD a 0)) 1, .list 113 10 0 (fun a j => tbl (rulC (dft0.t.rules.getD a rul0)) j) 1, .list 115 2 0 (fun a j => tbl (extC (dft0.t.extras.getD a ext0)) j) 1, .list 117 3 0 (fun a j => tbl (fxdC (dft0.t.fixed.getD a fxd0)) j) 1, .list 3 1 0 (fun a _ => .int .i64 (dft0.l0.getD a 0)) 1, .list 3 1 0 (fun a _ => .int .i64 (dft0.l1.getD a 0)) 1, .list 3 1 0 (fun a _ => .int .i64 (dft0.l2.getD a 0)) 1] 3 2 3 1 (fun a _ => .int .i64 (dft0.l2.getD a 0)) rfl rfl rfl ?_
    refine .bornM [.box [.str bs0, .int .i64 0, .int .i64 0, .slc0, .slc0, .slc0, .slc0, .slc0], .box [.int .i64 0, .int .i64 0], .box [.str bs0, .int .i64 0, .int .i64 0, .own 4 1, .own 5 1, .own 6 1, .own 7 1, .own 8 1], .last 24 1 6 [.own 9 1, .own 10 1, .own 11 1, .own 12 1, .slc0, .slc0] 1, .list 9 1 0 (fun a _ => .str (dft0.t.zones.getD a bs0)) 1, .list 3 1 0 (fun a _ => .int .i64 (dft0.t.hol.getD a 0)) 1, .list 113 10 0 (fun a j => tbl (rulC (dft0.t.rules.getD a rul0)) j) 1, .list 115 2 0 (fun a j => tbl (extC (dft0.t.extras.getD a ext0)) j) 1, .list 117 3 0 (fun a j => tbl (fxdC (dft0.t.fixed.getD a fxd0)) j) 1, .list 3 1 0 (fun a _ => .int .i64 (dft0.l0.getD a 0)) 1, .list 3 1 0 (fun a _ => .int .i64 (dft0.l1.getD a 0)) 1, .list 3 1 0 (fun a _ => .int .i64 (dft0.l2.getD a 0)) 1, .list 3 1 0 (fun a _ => .int .i64 (dft0.l3.getD a 0)) 1] 3 3 3 1 (fun a _ => .int .i64 (dft0.l3.getD a 0)) rfl rfl rfl ?_
    refine .bornM [.box [.str bs0, .int .i64 0, .int .i64 0, .slc0, .slc0, .slc0, .slc0, .slc0], .box [.int .i64 0, .int .i64 0], .box [.str bs0, .int .i64 0, .int .i64 0, .own 4 1, .own 5 1, .own 6 1, .own 7 1, .own 8 1], .last 24 1 6 [.own 9 1, .own 10 1, .own 11 1, .own 12 1, .own 13 1, .slc0] 1, .list 9 1 0 (fun a _ => .str (dft0.t.zones.getD a bs0)) 1, .list 3 1 0 (fun a _ => .int .i64 (dft0.t.hol.getD a 0)) 1, .list 113 10 0 (fun a j => tbl (rulC (dft0.t.rules.getD a rul0)) j) 1, .list 115 2 0 (fun a j => tbl (extC (dft0.t.extras.getD a ext0)) j) 1, .list 117 3 0 (fun a j => tbl (fxdC (dft0.t.fixed.getD a fxd0)) j) 1, .list 3 1 0 (fun a _ => .int .i64 (dft0.l0.getD a 0)) 1, .list 3 1 0 (fun a _ => .int .i64 (dft0.l1.getD a 0)) 1, .list 3 1 0 (fun a _ => .int .i64 (dft0.l2.getD a 0)) 1, .list 3 1 0 (fun a _ => .int .i64 (dft0.l3.getD a 0)) 1, .list 3 1 0 (fun a _ => .int .i64 (dft0.l4.getD a 0)) 1] 3 4 3 1 (fun a _ => .int .i64 (dft0.l4.getD a 0)) rfl rfl rfl ?_
    refine .bornM [.box [.str bs0, .int .i64 0, .int .i64 0, .slc0, .slc0, .slc0, .slc0, .slc0], .box [.int .i64 0, .int .i64 0], .box [.str bs0, .int .i64 0, .int .i64 0, .own 4 1, .own 5 1, .own 6 1, .own 7 1, .own 8 1], .last 24 1 6 [.own 9 1, .own 10 1, .own 11 1, .own 12 1, .own 13 1, .own 14 1] 1, .list 9 1 0 (fun a _ => .str (dft0.t.zones.getD a bs0)) 1, .list 3 1 0 (fun a _ => .int .i64 (dft0.t.hol.getD a 0)) 1, .list 113 10 0 (fun a j => tbl (rulC (dft0.t.rules.getD a rul0)) j) 1, .list 115 2 0 (fun a j => tbl (extC (dft0.t.extras.getD a ext0)) j) 1, .list 117 3 0 (fun a j => tbl (fxdC (dft0.t.fixed.getD a fxd0)) j) 1, .list 3 1 0 (fun a _ => .int .i64 (dft0.l0.getD a 0)) 1, .list 3 1 0 (fun a _ => .int .i64 (dft0.l1.getD a 0)) 1, .list 3 1 0 (fun a _ => .int .i64 (dft0.l2.getD a 0)) 1, .list 3 1 0 (fun a _ => .int .i64 (dft0.l3.getD a 0)) 1, .list 3 1 0 (fun a _ => .int .i64 (dft0.l4.getD a 0)) 1, .list 3 1 0 (fun a _ => .int .i64 (dft0.l5.getD a 0)) 1] 3 5 3 1 (fun a _ => .int .i64 (dft0.l5.getD a 0)) rfl rfl rfl ?_
    exact .le ⟨rfl, rfZ, rfZ⟩
   obtain ⟨i, d⟩ := y
   obtain ⟨h1, h2, h3⟩ : fromP (LL) dft0 0 = fromP (LL.drop i) d i /\ i <= LL.length /\ DInv d i := hy
   by_cases hi : i < LL.length
   ·have hz2 : ¬ decide (((i : Nat) : Int) < ((LL.length : Nat) : Int)) = false := by rw [decide_eq_true (by omega)]; decide
    have hd : LL.drop i = LL.getD i [] :: LL.drop (i + 1) := drop_at hi
    have hl6 : (LL.getD i []).length <= 500 := by rw [hLL]; exact Nat.le_trans (lin_mem _ _) (by omega)
    obtain ⟨l, hl0⟩ : ∃ l, l = LL.getD i [] := ⟨_, rfl⟩
    have hok := lnOf_ok (l := LL.getD i []) (by omega)
    have csp : Pure (Xc W0 G) 42 [.str (toS (LL.getD i []))] (wdS (wordsL l)) := by rw [hl0]; exact c42 hX (toS (LL.getD i [])) (Side.mk (by rw [toS_size]; omega))
    rw [<- hl0] at hd hl6 hok
    cases hw : wordsL l with
    | nil =>
     rw [hw] at csp
     repeat' (first
      | (refine Ax.go ?_; first | (with_reducible apply callAlt (csp)) | (with_reducible apply Alt.one))
      | exact Cl.go
      | ((fail_if_success refine Stop.go ?_); first | rw [beqvv (d.l0.length + 1)] | (with_reducible first | apply And.intro | apply Cut.go | (refine impI ?_; intro _; try (first | exact ko hz2 | (exfalso; rename_i hh; revert hh; decide)))) | (refine propI ?_; conv => whnf)))
     all_goals try exact nbZ
     ·exact .of ⟨by omega, by omega⟩
     ·exact .of ⟨by show (-9223372036854775808 : Int) <= ((i : Nat) : Int) + 1; omega, by show ((i : Nat) : Int) + 1 <= 9223372036854775807; omega⟩
     ·exact ⟨(i + 1, d), ⟨by rw [h1, hd]; exact fromP_ok (step_e hw), hi, h3.mono (Nat.le_succ i)⟩, by show LL.length - (i + 1) < LL.length - i; omega, .le ⟨rfl, rfZ, rfZ⟩⟩
    | cons w0 ws =>
     rw [hw] at csp
     have hz3 : ¬ ((((w0 :: ws).length : Nat) : Int) == 0) = true := fun h => by have h : ((ws.length + 1 : Nat) : Int) = 0 := eq_of_beq h; omega
     have hwn : ws.length <= 1000 := by have := hok.n; have e : (lnOf l).ws = w0 :: ws := hw; rw [e] at this; simp at this; omega
     have hwz : ∀ j, ((w0 :: ws).getD j wd0).t.length <= 600 := fun j => by
      rcases Nat.lt_or_ge j (w0 :: ws).length with h | h
      ·rw [List.getD_eq_getElem?_getD, List.getElem?_eq_getElem h]
       exact hok.t _ (by show _ ∈ wordsL l; rw [hw]; exact List.getElem_mem h)
      ·rw [List.getD_eq_getElem?_getD, List.getElem?_eq_none h]; exact Nat.zero_le _
     have hcl : ∀ j, ((w0 :: ws).getD j wd0).c <= 600 := fun j => by
      rcases Nat.lt_or_ge j (w0 :: ws).length with h | h
      ·rw [List.getD_eq_getElem?_getD, List.getElem?_eq_getElem h]
       rcases wgo_col l 0 none _ (by show _ ∈ wordsL l; rw [hw]; exact List.getElem_mem h) with k | ⟨x, k, _⟩
       ·show ((w0 :: ws)[j]).c <= 600; omega
       ·cases k
      ·rw [List.getD_eq_getElem?_getD, List.getElem?_eq_none h]; exact Nat.zero_le _
     by_cases hk : kndC (decide (0 < (d.l0.length : Int))) (toS w0.t) = 0
     ·have hz4 : ¬ (bif bif (d.l0.length : Int) == 0 then !decide (toS w0.t = { data := #[116, 97, 114, 105, 102, 102] }) else false then true else bif decide (0 < (d.l0.length : Int)) then !hasB kinds5 kinds5.length (toS w0.t) else false) = true := by rw [cond_k, decide_eq_true hk]; decide
      repeat' (first
       | (refine Ax.go ?_; first | (with_reducible apply callAlt (csp)) | (with_reducible apply callAlt (c43 hX kinds5 (toS w0.t) (Side.mk (by decide)))) | (with_reducible apply callAlt (c44 hX hl (toS w0.t))) | (with_reducible apply Alt.one))
       | ((with_reducible refine Ar.go ?_); first | exact ⟨.slcN rfl (fun i j hi hj => by replace hi : i < 5 := hi; replace hj : j < 1 := hj; (obtain rfl : j = 0 := (by omega)); rcases (show i = 0 \/ i = 1 \/ i = 2 \/ i = 3 \/ i = 4 by omega) with rfl | rfl | rfl | rfl | rfl <;> exact .refl _), .refl _, trivial⟩)
       | exact Cl.go
       | ((fail_if_success refine Stop.go ?_); (fail_if_success with_reducible refine (?_ : Cut _ _)); first | rw [beqvv (d.l0.length + 1)] | (with_reducible first | apply And.intro | (refine impI ?_; intro _; try (first | exact ko hz2 | exact ko hz3 | exact ko hz4))) | (refine propI ?_; conv => whnf)))
      all_goals try (with_reducible refine Cut.go ?_)
      repeat' (first
       | (refine Ax.go ?_; first | (with_reducible apply callAlt (csp)) | (with_reducible apply callAlt (c43 hX kinds5 (toS w0.t) (Side.mk (by decide)))) | (with_reducible apply callAlt (c44 hX hl (toS w0.t))) | (with_reducible apply Alt.one))
       | ((with_reducible refine Ar.go ?_); first | exact ⟨.slcN rfl (fun i j hi hj => by replace hi : i < 5 := hi; replace hj : j < 1 := hj; (obtain rfl : j = 0 := (by omega)); rcases (show i = 0 \/ i = 1 \/ i = 2 \/ i = 3 \/ i = 4 by omega) with rfl | rfl | rfl | rfl | rfl <;> exact .refl _), .refl _, trivial⟩)
       | exact Cl.go
       | ((fail_if_success refine Stop.go ?_); (fail_if_success with_reducible refine (?_ : Cut _ _)); first | rw [beqvv (d.l0.length + 1)] | (with_reducible first | apply And.intro | (refine impI ?_; intro _; try (first | exact ko hz2 | exact ko hz3 | exact ko hz4))) | (refine propI ?_; conv => whnf)))
      all_goals try (with_reducible refine Cut.go ?_)
      repeat' (first
       | (refine Ax.go ?_; first | (with_reducible apply callAlt (csp)) | (with_reducible apply callAlt (c43 hX kinds5 (toS w0.t) (Side.mk (by decide)))) | (with_reducible apply callAlt (c44 hX hl (toS w0.t))) | (with_reducible apply Alt.one))
       | ((with_reducible refine Ar.go ?_); first | exact ⟨.slcN rfl (fun i j hi hj => by replace hi : i < 5 := hi; replace hj : j < 1 := hj; (obtain rfl : j = 0 := (by omega)); rcases (show i = 0 \/ i = 1 \/ i = 2 \/ i = 3 \/ i = 4 by omega) with rfl | rfl | rfl | rfl | rfl <;> exact .refl _), .refl _, trivial⟩)
       | exact Cl.go
       | ((fail_if_success refine Stop.go ?_); (fail_if_success with_reducible refine (?_ : Cut _ _)); first | rw [beqvv (d.l0.length + 1)] | (with_reducible first | apply And.intro | (refine impI ?_; intro _; try (first | exact ko hz2 | exact ko hz3 | exact ko hz4))) | (refine propI ?_; conv => whnf)))
      all_goals try (with_reducible refine Cut.go ?_)
      repeat' (first
       | (refine Ax.go ?_; first | (with_reducible apply callAlt (csp)) | (with_reducible apply callAlt (c43 hX kinds5 (toS w0.t) (Side.mk (by decide)))) | (with_reducible apply callAlt (c44 hX hl (toS w0.t))) | (with_reducible apply Alt.one))
       | ((with_reducible refine Ar.go ?_); first | exact ⟨.slcN rfl (fun i j hi hj => by replace hi : i < 5 := hi; replace hj : j < 1 := hj; (obtain rfl : j = 0 := (by omega)); rcases (show i = 0 \/ i = 1 \/ i = 2 \/ i = 3 \/ i = 4 by omega) with rfl | rfl | rfl | rfl | rfl <;> exact .refl _), .refl _, trivial⟩)
       | exact Cl.go
       | ((fail_if_success refine Stop.go ?_); (fail_if_success with_reducible refine (?_ : Cut _ _)); first | rw [beqvv (d.l0.length + 1)] | (with_reducible first | apply And.intro | (refine impI ?_; intro _; try (first | exact ko hz2 | exact ko hz3 | exact ko hz4))) | (refine propI ?_; conv => whnf)))
      all_goals try (with_reducible refine Cut.go ?_)
      repeat' (first
       | (refine Ax.go ?_; first | (with_reducible apply callAlt (csp)) | (with_reducible apply callAlt (c43 hX kinds5 (toS w0.t) (Side.mk (by decide)))) | (with_reducible apply callAlt (c44 hX hl (toS w0.t))) | (with_reducible apply Alt.one))
       | ((with_reducible refine Ar.go ?_); first | exact ⟨.slcN rfl (fun i j hi hj => by replace hi : i < 5 := hi; replace hj : j < 1 := hj; (obtain rfl : j = 0 := (by omega)); rcases (show i = 0 \/ i = 1 \/ i = 2 \/ i = 3 \/ i = 4 by omega) with rfl | rfl | rfl | rfl | rfl <;> exact .refl _), .refl _, trivial⟩)
       | exact Cl.go
       | ((fail_if_success refine Stop.go ?_); (fail_if_success with_reducible refine (?_ : Cut _ _)); first | rw [beqvv (d.l0.length + 1)] | (with_reducible first | apply And.intro | (refine impI ?_; intro _; try (first | exact ko hz2 | exact ko hz3 | exact ko hz4))) | (refine propI ?_; conv => whnf)))
      all_goals try exact nbZ
      ·exact .of ⟨by omega, by omega⟩
      ·exact .of ⟨by decide, by show (0 : Int) < ((ws.length + 1 : Nat) : Int); omega⟩
      ·exact .of ⟨by decide, by decide⟩
      ·exact Sc.imp fun _ => ⟨by decide, by decide⟩
      refine .cut ⟨Itm, fun x => ([(2, .ptr 0 0), (3, .ptr 1 0), (5, (.slc 1 LL.length (fun a _ => .str (toS (LL.getD a []))))), (6, .ptr 2 0), (7, .own 3 1), (8, .int .i64 ((i : Nat) : Int)), (9, wdS (w0 :: ws)), (10, .str (toS w0.t)), (12, .str (formS (toS w0.t))), (13, .ptr 15 0)], ([.box [.str bs0, .int .i64 0, .int .i64 0, .slc0, .slc0, .slc0, .slc0, .slc0], .box [.int .i64 0, .int .i64 0], .box [.str d.t.name, .int .i64 d.t.unit, .int .i64 d.t.step, .own 4 (d.t.zones.length + 1), .own 5 (d.t.hol.length + 1), .own 6 (d.t.rules.length + 1), .own 7 (d.t.extras.length + 1), .own 8 (d.t.fixed.length + 1)], .last 24 1 6 [.own 9 (d.l0.length + 1), .own 10 (d.l1.length + 1), .own 11 (d.l2.length + 1), .own 12 (d.l3.length + 1), .own 13 (d.l4.length + 1), .own 14 (d.l5.length + 1)] 1, .list 9 1 d.t.zones.length (fun a _ => .str (d.t.zones.getD a bs0)) (d.t.zones.length + 1), .list 3 1 d.t.hol.length (fun a _ => .int .i64 (d.t.hol.getD a 0)) (d.t.hol.length + 1), .list 113 10 d.t.rules.length (fun a j => tbl (rulC (d.t.rules.getD a rul0)) j) (d.t.rules.length + 1), .list 115 2 d.t.extras.length (fun a j => tbl (extC (d.t.extras.getD a ext0)) j) (d.t.extras.length + 1), .list 117 3 d.t.fixed.length (fun a j => tbl (fxdC (d.t.fixed.getD a fxd0)) j) (d.t.fixed.length + 1), .list 3 1 d.l0.length (fun a _ => .int .i64 (d.l0.getD a 0)) (d.l0.length + 1), .list 3 1 d.l1.length (fun a _ => .int .i64 (d.l1.getD a 0)) (d.l1.length + 1), .list 3 1 d.l2.length (fun a _ => .int .i64 (d.l2.getD a 0)) (d.l2.length + 1), .list 3 1 d.l3.length (fun a _ => .int .i64 (d.l3.getD a 0)) (d.l3.length + 1), .list 3 1 d.l4.length (fun a _ => .int .i64 (d.l4.getD a 0)) (d.l4.length + 1), .list 3 1 d.l5.length (fun a _ => .int .i64 (d.l5.getD a 0)) (d.l5.length + 1), .box [.own 16 (x.ns.length + 1), .own 17 (x.ds.length + 1), .own 18 (x.ls.length + 1)], .list 9 1 x.ns.length (fun a _ => .str (x.ns.getD a bs0)) (x.ns.length + 1), .list 3 1 x.ds.length (fun a _ => .int .i64 (x.ds.getD a 0)) (x.ds.length + 1), .list 24 1 x.ls.length (fun a _ => iRow (x.ls.getD a [])) (x.ls.length + 1)] : List HObj)), fun x => scanW (gsF d.t.zones (formK (toS w0.t))) ws (enW (w0 :: ws)) = none /\ (formK (toS w0.t)).length <= ws.length /\ itmF d.t.zones (formK (toS w0.t)) ws itm0 = x, ?_, fun x hx => ?_⟩
      ·skip
       repeat' (first
        | (refine Ax.go ?_; first | (with_reducible apply Alt.one))
        | exact Cl.go
        | ((fail_if_success refine Stop.go ?_); (fail_if_success with_reducible refine (?_ : Cut _ _)); first | (with_reducible first | apply And.intro | (refine impI ?_; intro _)) | (refine propI ?_; conv => whnf)))
       all_goals try exact nbZ
       refine ⟨Nat × Itm, fun y => match y with | (k, x) => ([(2, .ptr 0 0), (3, .ptr 1 0), (5, (.slc 1 LL.length (fun a _ => .str (toS (LL.getD a []))))), (6, .ptr 2 0), (7, .own 3 1), (8, .int .i64 ((i : Nat) : Int)), (9, wdS (w0 :: ws)), (10, .str (toS w0.t)), (12, .str (formS (toS w0.t))), (13, .ptr 15 0), (14, .int .i64 ((k : Nat) : Int))], ([.box [.str bs0, .int .i64 0, .int .i64 0, .slc0, .slc0, .slc0, .slc0, .slc0], .box [.int .i64 0, .int .i64 0], .box [.str d.t.name, .int .i64 d.t.unit, .int .i64 d.t.step, .own 4 (d.t.zones.length + 1), .own 5 (d.t.hol.length + 1), .own 6 (d.t.rules.length + 1), .own 7 (d.t.extras.length + 1), .own 8 (d.t.fixed.length + 1)], .last 24 1 6 [.own 9 (d.l0.length + 1), .own 10 (d.l1.length + 1), .own 11 (d.l2.length + 1), .own 12 (d.l3.length + 1), .own 13 (d.l4.length + 1), .own 14 (d.l5.length + 1)] 1, .list 9 1 d.t.zones.length (fun a _ => .str (d.t.zones.getD a bs0)) (d.t.zones.length + 1), .list 3 1 d.t.hol.length (fun a _ => .int .i64 (d.t.hol.getD a 0)) (d.t.hol.length + 1), .list 113 10 d.t.rules.length (fun a j => tbl (rulC (d.t.rules.getD a rul0)) j) (d.t.rules.length + 1), .list 115 2 d.t.extras.length (fun a j => tbl (extC (d.t.extras.getD a ext0)) j) (d.t.extras.length + 1), .list 117 3 d.t.fixed.length (fun a j => tbl (fxdC (d.t.fixed.getD a fxd0)) j) (d.t.fixed.length + 1), .list 3 1 d.l0.length (fun a _ => .int .i64 (d.l0.getD a 0)) (d.l0.length + 1), .list 3 1 d.l1.length (fun a _ => .int .i64 (d.l1.getD a 0)) (d.l1.length + 1), .list 3 1 d.l2.length (fun a _ => .int .i64 (d.l2.getD a 0)) (d.l2.length + 1), .list 3 1 d.l3.length (fun a _ => .int .i64 (d.l3.getD a 0)) (d.l3.length + 1), .list 3 1 d.l4.length (fun a _ => .int .i64 (d.l4.getD a 0)) (d.l4.length + 1), .list 3 1 d.l5.length (fun a _ => .int .i64 (d.l5.getD a 0)) (d.l5.length + 1), .box [.own 16 (x.ns.length + 1), .own 17 (x.ds.length + 1), .own 18 (x.ls.length + 1)], .list 9 1 x.ns.length (fun a _ => .str (x.ns.getD a bs0)) (x.ns.length + 1), .list 3 1 x.ds.length (fun a _ => .int .i64 (x.ds.getD a 0)) (x.ds.length + 1), .list 24 1 x.ls.length (fun a _ => iRow (x.ls.getD a [])) (x.ls.length + 1)] : List HObj)), fun y => match y with | (k, x) => k <= (formK (toS w0.t)).length /\ k <= ws.length /\ scanW (gsF d.t.zones (formK (toS w0.t))) ws (enW (w0 :: ws)) = scanW (gsF d.t.zones ((formK (toS w0.t)).drop k)) (ws.drop k) (enW (w0 :: ws)) /\ itmF d.t.zones (formK (toS w0.t)) ws itm0 = itmF d.t.zones ((formK (toS w0.t)).drop k) (ws.drop k) x /\ x.ns.length <= k /\ x.ds.length <= k /\ x.ls.length <= k, fun y => (formK (toS w0.t)).length - y.1, ⟨(0, itm0), ⟨Nat.zero_le _, Nat.zero_le _, rfl, rfl, Nat.zero_le _, Nat.zero_le _, Nat.zero_le _⟩, ?_⟩, fun y hy => ?_⟩
       ·skip
        refine .bornE [.box [.str bs0, .int .i64 0, .int .i64 0, .slc0, .slc0, .slc0, .slc0, .slc0], .box [.int .i64 0, .int .i64 0], .box [.str d.t.name, .int .i64 d.t.unit, .int .i64 d.t.step, .own 4 (d.t.zones.length + 1), .own 5 (d.t.hol.length + 1), .own 6 (d.t.rules.length + 1), .own 7 (d.t.extras.length + 1), .own 8 (d.t.fixed.length + 1)], .last 24 1 6 [.own 9 (d.l0.length + 1), .own 10 (d.l1.length + 1), .own 11 (d.l2.length + 1), .own 12 (d.l3.length + 1), .own 13 (d.l4.length + 1), .own 14 (d.l5.length + 1)] 1, .list 9 1 d.t.zones.length (fun a _ => .str (d.t.zones.getD a bs0)) (d.t.zones.length + 1), .list 3 1 d.t.hol.length (fun a _ => .int .i64 (d.t.hol.getD a 0)) (d.t.hol.length + 1), .list 113 10 d.t.rules.length (fun a j => tbl (rulC (d.t.rules.getD a rul0)) j) (d.t.rules.length + 1), .list 115 2 d.t.extras.length (fun a j => tbl (extC (d.t.extras.getD a ext0)) j) (d.t.extras.length + 1), .list 117 3 d.t.fixed.length (fun a j => tbl (fxdC (d.t.fixed.getD a fxd0)) j) (d.t.fixed.length + 1), .list 3 1 d.l0.length (fun a _ => .int .i64 (d.l0.getD a 0)) (d.l0.length + 1), .list 3 1 d.l1.length (fun a _ => .int .i64 (d.l1.getD a 0)) (d.l1.length + 1), .list 3 1 d.l2.length (fun a _ => .int .i64 (d.l2.getD a 0)) (d.l2.length + 1), .list 3 1 d.l3.length (fun a _ => .int .i64 (d.l3.getD a 0)) (d.l3.length + 1), .list 3 1 d.l4.length (fun a _ => .int .i64 (d.l4.getD a 0)) (d.l4.length + 1), .list 3 1 d.l5.length (fun a _ => .int .i64 (d.l5.getD a 0)) (d.l5.length + 1), .box [.own 16 1, .slc0, .slc0], .list 9 1 0 (fun a _ => .str (itm0.ns.getD a bs0)) 1] 15 0 9 1 (fun a _ => .str (itm0.ns.getD a bs0)) rfl rfl rfl ?_
        refine .bornE [.box [.str bs0, .int .i64 0, .int .i64 0, .slc0, .slc0, .slc0, .slc0, .slc0], .box [.int .i64 0, .int .i64 0], .box [.str d.t.name, .int .i64 d.t.unit, .int .i64 d.t.step, .own 4 (d.t.zones.length + 1), .own 5 (d.t.hol.length + 1), .own 6 (d.t.rules.length + 1), .own 7 (d.t.extras.length + 1), .own 8 (d.t.fixed.length + 1)], .last 24 1 6 [.own 9 (d.l0.length + 1), .own 10 (d.l1.length + 1), .own 11 (d.l2.length + 1), .own 12 (d.l3.length + 1), .own 13 (d.l4.length + 1), .own 14 (d.l5.length + 1)] 1, .list 9 1 d.t.zones.length (fun a _ => .str (d.t.zones.getD a bs0)) (d.t.zones.length + 1), .list 3 1 d.t.hol.length (fun a _ => .int .i64 (d.t.hol.getD a 0)) (d.t.hol.length + 1), .list 113 10 d.t.rules.length (fun a j => tbl (rulC (d.t.rules.getD a rul0)) j) (d.t.rules.length + 1), .list 115 2 d.t.extras.length (fun a j => tbl (extC (d.t.extras.getD a ext0)) j) (d.t.extras.length + 1), .list 117 3 d.t.fixed.length (fun a j => tbl (fxdC (d.t.fixed.getD a fxd0)) j) (d.t.fixed.length + 1), .list 3 1 d.l0.length (fun a _ => .int .i64 (d.l0.getD a 0)) (d.l0.length + 1), .list 3 1 d.l1.length (fun a _ => .int .i64 (d.l1.getD a 0)) (d.l1.length + 1), .list 3 1 d.l2.length (fun a _ => .int .i64 (d.l2.getD a 0)) (d.l2.length + 1), .list 3 1 d.l3.length (fun a _ => .int .i64 (d.l3.getD a 0)) (d.l3.length + 1), .list 3 1 d.l4.length (fun a _ => .int .i64 (d.l4.getD a 0)) (d.l4.length + 1), .list 3 1 d.l5.length (fun a _ => .int .i64 (d.l5.getD a 0)) (d.l5.length + 1), .box [.own 16 1, .own 17 1, .slc0], .list 9 1 0 (fun a _ => .str (itm0.ns.getD a bs0)) 1, .list 3 1 0 (fun a _ => .int .i64 (itm0.ds.getD a 0)) 1] 15 1 3 1 (fun a _ => .int .i64 (itm0.ds.getD a 0)) rfl rfl rfl ?_
        refine .bornE [.box [.str bs0, .int .i64 0, .int .i64 0, .slc0, .slc0, .slc0, .slc0, .slc0], .box [.int .i64 0, .int .i64 0], .box [.str d.t.name, .int .i64 d.t.unit, .int .i64 d.t.step, .own 4 (d.t.zones.length + 1), .own 5 (d.t.hol.length + 1), .own 6 (d.t.rules.length + 1), .own 7 (d.t.extras.length + 1), .own 8 (d.t.fixed.length + 1)], .last 24 1 6 [.own 9 (d.l0.length + 1), .own 10 (d.l1.length + 1), .own 11 (d.l2.length + 1), .own 12 (d.l3.length + 1), .own 13 (d.l4.length + 1), .own 14 (d.l5.length + 1)] 1, .list 9 1 d.t.zones.length (fun a _ => .str (d.t.zones.getD a bs0)) (d.t.zones.length + 1), .list 3 1 d.t.hol.length (fun a _ => .int .i64 (d.t.hol.getD a 0)) (d.t.hol.length + 1), .list 113 10 d.t.rules.length (fun a j => tbl (rulC (d.t.rules.getD a rul0)) j) (d.t.rules.length + 1), .list 115 2 d.t.extras.length (fun a j => tbl (extC (d.t.extras.getD a ext0)) j) (d.t.extras.length + 1), .list 117 3 d.t.fixed.length (fun a j => tbl (fxdC (d.t.fixed.getD a fxd0)) j) (d.t.fixed.length + 1), .list 3 1 d.l0.length (fun a _ => .int .i64 (d.l0.getD a 0)) (d.l0.length + 1), .list 3 1 d.l1.length (fun a _ => .int .i64 (d.l1.getD a 0)) (d.l1.length + 1), .list 3 1 d.l2.length (fun a _ => .int .i64 (d.l2.getD a 0)) (d.l2.length + 1), .list 3 1 d.l3.length (fun a _ => .int .i64 (d.l3.getD a 0)) (d.l3.length + 1), .list 3 1 d.l4.length (fun a _ => .int .i64 (d.l4.getD a 0)) (d.l4.length + 1), .list 3 1 d.l5.length (fun a _ => .int .i64 (d.l5.getD a 0)) (d.l5.length + 1), .box [.own 16 1, .own 17 1, .own 18 1], .list 9 1 0 (fun a _ => .str (itm0.ns.getD a bs0)) 1, .list 3 1 0 (fun a _ => .int .i64 (itm0.ds.getD a 0)) 1, .list 24 1 0 (fun a _ => iRow (itm0.ls.getD a [])) 1] 15 2 24 1 (fun a _ => iRow (itm0.ls.getD a [])) rfl rfl rfl ?_
        exact .le ⟨rfl, rfZ, rfZ⟩
       obtain ⟨k, x⟩ := y
       obtain ⟨f1, f2, f3, f4, f5, f6, f7⟩ : k <= (formK (toS w0.t)).length /\ k <= ws.length /\ scanW (gsF d.t.zones (formK (toS w0.t))) ws (enW (w0 :: ws)) = scanW (gsF d.t.zones ((formK (toS w0.t)).drop k)) (ws.drop k) (enW (w0 :: ws)) /\ itmF d.t.zones (formK (toS w0.t)) ws itm0 = itmF d.t.zones ((formK (toS w0.t)).drop k) (ws.drop k) x /\ x.ns.length <= k /\ x.ds.length <= k /\ x.ls.length <= k := hy
       have f8 := form_len (toS w0.t)
       have f9 := form_size (toS w0.t)
       repeat' (first
        | (refine Ax.go ?_; first | (with_reducible (apply altM (ks := [4, 16, 17, 18]) (m := 0); apply And.intro; apply Sc.of; apply (c45 hX hl d.t.zones (d.t.zones.length + 1) x (toS ((w0 :: ws).getD (((k : Nat) : Int) + 1).toNat wd0).t) ?_ ?_ ?_ (byteAt (formS (toS w0.t)) ((k : Nat) : Int).toNat) ?_))) | (with_reducible apply Alt.one))
        | ((with_reducible refine An.go ?_); first | exact ⟨.aggs (n := 8) ⟨⟨⟨⟨⟨⟨⟨⟨trivial, .any _⟩, .any _⟩, .any _⟩, .refl _⟩, .any _⟩, .any _⟩, .any _⟩, .any _⟩, .aggs (n := 3) ⟨⟨⟨trivial, .refl _⟩, .refl _⟩, .refl _⟩, .refl _, .refl _, trivial⟩)
        | exact Cl.go
        | ((fail_if_success refine Stop.go ?_); first | (with_reducible first | apply And.intro | apply Cut.go | (refine impI ?_; intro _)) | (refine propI ?_; conv => whnf)))
       all_goals try exact nbZ
       ·exact .of ⟨by show (-9223372036854775808 : Int) <= ((k : Nat) : Int) + 1; omega, by show ((k : Nat) : Int) + 1 <= 9223372036854775807; omega⟩
       ·exact .of ⟨by show (-9223372036854775808 : Int) <= ((ws.length + 1 : Nat) : Int) - 1; omega, by show ((ws.length + 1 : Nat) : Int) - 1 <= 9223372036854775807; omega⟩
       ·exact .of ⟨by show (0 : Int) <= ((ws.length + 1 : Nat) : Int) - 1; omega, by show ((ws.length + 1 : Nat) : Int) - 1 < ((ws.length + 1 : Nat) : Int); omega⟩
       ·exact .of ⟨by show (-9223372036854775808 : Int) <= ((i : Nat) : Int) + 1; omega, by show ((i : Nat) : Int) + 1 <= 9223372036854775807; omega⟩
       ·have e3 : ((((w0 :: ws).length : Nat) : Int) - 1).toNat = ws.length := by show (((ws.length + 1 : Nat) : Int) - 1).toNat = _; omega
        have b1 := hcl ws.length
        have b2 := hwz ws.length
        refine .of ⟨?_, ?_⟩
        ·rw [e3, toS_size]; show (-9223372036854775808 : Int) <= _ + _; omega
        ·rw [e3, toS_size]; show (_ : Int) + _ <= 9223372036854775807; omega
       ·rename_i q q2
        have q := of_decide_eq_true q
        have q2 := of_decide_eq_true q2
        have q3 : ((ws.length + 1 : Nat) : Int) <= (k : Int) + 1 := q2
        have r1 : (formK (toS w0.t)).drop k = (formK (toS w0.t)).getD k 0 :: (formK (toS w0.t)).drop (k + 1) := drop_at (by omega)
        have r2 : ws.drop k = [] := List.drop_eq_nil_of_le (by omega)
        have r3 : scanW (gsF d.t.zones (formK (toS w0.t))) ws (enW (w0 :: ws)) = some (((enW (w0 :: ws) : Nat) : Int), 6) := by rw [f3, r1, r2]; rfl
        have r4 : lineE (gsF d.t.zones (formK (toS w0.t))) ws (enW (w0 :: ws)) = some (((enW (w0 :: ws) : Nat) : Int), 6) := by unfold lineE; rw [r3]
        have e3 : ((((w0 :: ws).length : Nat) : Int) - 1).toNat = (w0 :: ws).length - 1 := by show (((ws.length + 1 : Nat) : Int) - 1).toNat = ws.length + 1 - 1; omega
        have e4 : ((((w0 :: ws).getD ((((w0 :: ws).length : Nat) : Int) - 1).toNat wd0).c : Nat) : Int) + ((toS ((w0 :: ws).getD ((((w0 :: ws).length : Nat) : Int) - 1).toNat wd0).t).size : Nat) = ((enW (w0 :: ws) : Nat) : Int) := by rw [e3, en_last, toS_size]
        rw [h1, hd, fromP_bad (step_lE hw hk r4)]
        exact .mk [] [] _ rfl (.le (.tups ⟨⟨⟨trivial, .aggs (n := 8) (z8 rfl)⟩, .aggs (n := 2) ⟨⟨trivial, .refl _⟩, .intI e4⟩⟩, .refl _⟩)) trivial rfl
       ·rename_i q _; have q := of_decide_eq_true q; exact .of ⟨by omega, q⟩
       ·exact .of ⟨by show (-9223372036854775808 : Int) <= ((k : Nat) : Int) + 1; omega, by show ((k : Nat) : Int) + 1 <= 9223372036854775807; omega⟩
       ·rename_i q q2; have q2 := of_decide_eq_false q2; have q3 : ¬ ((ws.length + 1 : Nat) : Int) <= (k : Int) + 1 := q2; exact .of ⟨by omega, by show (k : Int) + 1 < ((ws.length + 1 : Nat) : Int); omega⟩
       ·exact Side.mk (by have := h3.z; omega)
       ·exact Side.mk ⟨by omega, by omega, by omega⟩
       ·exact Side.mk (by rw [toS_size]; exact hwz (k + 1))
       ·rename_i q _
        have q := of_decide_eq_true q
        obtain ⟨c1, c2⟩ := form_at (toS w0.t) (k := k) (by omega)
        exact Side.mk (by show byteAt (formS (toS w0.t)) k = 110 \/ byteAt (formS (toS w0.t)) k = 100 \/ byteAt (formS (toS w0.t)) k = 107 \/ byteAt (formS (toS w0.t)) k = 108 \/ byteAt (formS (toS w0.t)) k = 122; rw [c1]; exact c2)
       ·exact .of ⟨by show (-9223372036854775808 : Int) <= ((i : Nat) : Int) + 1; omega, by show ((i : Nat) : Int) + 1 <= 9223372036854775807; omega⟩
       ·exact .of ⟨by show (-9223372036854775808 : Int) <= ((k : Nat) : Int) + 1; omega, by show ((k : Nat) : Int) + 1 <= 9223372036854775807; omega⟩
       ·rename_i q q2 _; have q2 := of_decide_eq_false q2; have q3 : ¬ ((ws.length + 1 : Nat) : Int) <= (k : Int) + 1 := q2; exact .of ⟨by omega, by show (k : Int) + 1 < ((ws.length + 1 : Nat) : Int); omega⟩
       ·rename_i q q2 q4
        have q := of_decide_eq_true q
        have q2 := of_decide_eq_false q2
        have q3 : ¬ ((ws.length + 1 : Nat) : Int) <= (k : Int) + 1 := q2
        have r1 : (formK (toS w0.t)).drop k = byteAt (formS (toS w0.t)) k :: (formK (toS w0.t)).drop (k + 1) := by rw [(form_at (toS w0.t) (k := k) (by omega)).1]; exact drop_at (by omega)
        have r2 : ws.drop k = ws.getD k wd0 :: ws.drop (k + 1) := drop_at (by omega)
        have q5 : kE d.t.zones (byteAt (formS (toS w0.t)) k) (toS (ws.getD k wd0).t) ≠ 0 := by
         have q4 : (kE d.t.zones (byteAt (formS (toS w0.t)) k) (toS (ws.getD k wd0).t) != 0) = true := q4
         simpa using q4
        have r3 : scanW (gsF d.t.zones (formK (toS w0.t))) ws (enW (w0 :: ws)) = some ((((ws.getD k wd0).c : Nat) : Int), kE d.t.zones (byteAt (formS (toS w0.t)) k) (toS (ws.getD k wd0).t)) := by rw [f3, r1, r2]; exact if_pos q5
        have r4 : lineE (gsF d.t.zones (formK (toS w0.t))) ws (enW (w0 :: ws)) = some ((((ws.getD k wd0).c : Nat) : Int), kE d.t.zones (byteAt (formS (toS w0.t)) k) (toS (ws.getD k wd0).t)) := by unfold lineE; rw [r3]
        rw [h1, hd, fromP_bad (step_lE hw hk r4)]
        exact .mk [] [] _ rfl (.le (.tups ⟨⟨⟨trivial, .aggs (n := 8) (z8 rfl)⟩, .aggs (n := 2) ⟨⟨trivial, .refl _⟩, .refl _⟩⟩, .refl _⟩)) trivial rfl
       ·exact .of ⟨by show (-9223372036854775808 : Int) <= ((k : Nat) : Int) + 1; omega, by show ((k : Nat) : Int) + 1 <= 9223372036854775807; omega⟩
       ·rename_i q q2 q4
        have q := of_decide_eq_true q
        have q2 := of_decide_eq_false q2
        have q3 : ¬ ((ws.length + 1 : Nat) : Int) <= (k : Int) + 1 := q2
        have r1 : (formK (toS w0.t)).drop k = byteAt (formS (toS w0.t)) k :: (formK (toS w0.t)).drop (k + 1) := by rw [(form_at (toS w0.t) (k := k) (by omega)).1]; exact drop_at (by omega)
        have r2 : ws.drop k = ws.getD k wd0 :: ws.drop (k + 1) := drop_at (by omega)
        have q5 : kE d.t.zones (byteAt (formS (toS w0.t)) k) (toS (ws.getD k wd0).t) = 0 := by
         have q4 : (kE d.t.zones (byteAt (formS (toS w0.t)) k) (toS (ws.getD k wd0).t) != 0) = false := q4
         simpa using q4
        have a := addI_len d.t.zones (byteAt (formS (toS w0.t)) k) x (toS (ws.getD k wd0).t)
        exact ⟨(k + 1, rdX d.t.zones (byteAt (formS (toS w0.t)) k) x (toS (ws.getD k wd0).t)), ⟨by omega, by omega, by rw [f3, r1, r2]; exact if_neg (fun h => h q5), by rw [f4, r1, r2, rdX_0 q5]; rfl, by rw [rdX_0 q5]; omega, by rw [rdX_0 q5]; omega, by rw [rdX_0 q5]; omega⟩, by show (formK (toS w0.t)).length - (k + 1) < (formK (toS w0.t)).length - k; omega, .le ⟨rfl, rfZ, rfZ⟩⟩
       ·rename_i q
        have q := of_decide_eq_false q
        have r1 : (formK (toS w0.t)).drop k = [] := List.drop_eq_nil_of_le (by omega)
        exact ⟨x, ⟨by rw [f3, r1]; rfl, by omega, by rw [f4, r1, itmF_nil]⟩, .le ⟨rfl, rfZ, rfZ⟩⟩
      ·obtain ⟨g1, g2, g3⟩ : scanW (gsF d.t.zones (formK (toS w0.t))) ws (enW (w0 :: ws)) = none /\ (formK (toS w0.t)).length <= ws.length /\ itmF d.t.zones (formK (toS w0.t)) ws itm0 = x := hx
       have f8 := form_len (toS w0.t)
       have f9 := form_size (toS w0.t)
       by_cases hn : (formK (toS w0.t)).length < ws.length
       ·have hz5 : ¬ decide (((formS (toS w0.t)).size : Int) + 1 < (((w0 :: ws).length : Nat) : Int)) = false := by rw [decide_eq_true (show ((formS (toS w0.t)).size : Int) + 1 < (((w0 :: ws).length : Nat) : Int) from (show ((formS (toS w0.t)).size : Int) + 1 < ((ws.length + 1 : Nat) : Int) by omega))]; decide
        repeat' (first
         | (refine Ax.go ?_; first | (with_reducible apply Alt.one))
         | exact Cl.go
         | ((fail_if_success refine Stop.go ?_); (fail_if_success with_reducible refine (?_ : Cut _ _)); first | (with_reducible first | apply And.intro | (refine impI ?_; intro _; try (first | exact ko hz5))) | (refine propI ?_; conv => whnf)))
        all_goals try (with_reducible refine Cut.go ?_)
        repeat' (first
         | (refine Ax.go ?_; first | (with_reducible apply Alt.one))
         | exact Cl.go
         | ((fail_if_success refine Stop.go ?_); (fail_if_success with_reducible refine (?_ : Cut _ _)); first | (with_reducible first | apply And.intro | (refine impI ?_; intro _; try (first | exact ko hz5))) | (refine propI ?_; conv => whnf)))
        all_goals try exact nbZ
        ·exact .of ⟨by show (-9223372036854775808 : Int) <= ((formS (toS w0.t)).size : Int) + 1; omega, by show ((formS (toS w0.t)).size : Int) + 1 <= 9223372036854775807; omega⟩
        ·exact .of ⟨by show (-9223372036854775808 : Int) <= ((i : Nat) : Int) + 1; omega, by show ((i : Nat) : Int) + 1 <= 9223372036854775807; omega⟩
        ·exact .of ⟨by show (-9223372036854775808 : Int) <= ((formS (toS w0.t)).size : Int) + 1; omega, by show ((formS (toS w0.t)).size : Int) + 1 <= 9223372036854775807; omega⟩
        ·exact .of ⟨by omega, by show ((formS (toS w0.t)).size : Int) + 1 < ((ws.length + 1 : Nat) : Int); omega⟩
        ·have r2 : ws.drop (formK (toS w0.t)).length = ws.getD (formK (toS w0.t)).length wd0 :: ws.drop ((formK (toS w0.t)).length + 1) := drop_at hn
         have r4 : lineE (gsF d.t.zones (formK (toS w0.t))) ws (enW (w0 :: ws)) = some ((((ws.getD (formK (toS w0.t)).length wd0).c : Nat) : Int), 7) := by
          unfold lineE; rw [g1, show (gsF d.t.zones (formK (toS w0.t))).length = (formK (toS w0.t)).length from List.length_map _, r2]
         rw [h1, hd, fromP_bad (step_lE hw hk r4)]
         have e5 : (((formS (toS w0.t)).size : Int) + 1).toNat = (formK (toS w0.t)).length + 1 := by omega
         have e4 : ((((w0 :: ws).getD (((formS (toS w0.t)).size : Int) + 1).toNat wd0).c : Nat) : Int) = (((ws.getD (formK (toS w0.t)).length wd0).c : Nat) : Int) := by rw [e5]; rfl
         exact .mk [] [] _ rfl (.le (.tups ⟨⟨⟨trivial, .aggs (n := 8) (z8 rfl)⟩, .aggs (n := 2) ⟨⟨trivial, .refl _⟩, .intI e4⟩⟩, .refl _⟩)) trivial rfl
       ·have hl3 : ws.length = (formK (toS w0.t)).length := by omega
        have hz5 : ¬ decide (((formS (toS w0.t)).size : Int) + 1 < (((w0 :: ws).length : Nat) : Int)) = true := by rw [decide_eq_false (show ¬ ((formS (toS w0.t)).size : Int) + 1 < (((w0 :: ws).length : Nat) : Int) from (show ¬ ((formS (toS w0.t)).size : Int) + 1 < ((ws.length + 1 : Nat) : Int) by omega))]; decide
        have hle : lineE (gsF d.t.zones (formK (toS w0.t))) ws (enW (w0 :: ws)) = none := by
         unfold lineE; rw [g1, show (gsF d.t.zones (formK (toS w0.t))).length = (formK (toS w0.t)).length from List.length_map _, List.drop_eq_nil_of_le (Nat.le_of_eq hl3)]
        have u0 := h3.l0; have u1 := h3.l1; have u2 := h3.l2; have u3 := h3.l3; have u4 := h3.l4; have u5 := h3.l5; have u6 := h3.z; have u7 := h3.h; have u8 := h3.r; have u9 := h3.e; have u10 := h3.f
        obtain ⟨s1, s2⟩ := step_l0 (n := i + 1) hw hk hle
        have hnx : fromP LL dft0 0 = fromP (LL.drop (i + 1)) (addD d ((i + 1 : Nat) : Int) (toS w0.t) (itmF d.t.zones (formK (toS w0.t)) ws itm0)) (i + 1) := by rw [h1, hd]; exact fromP_ok s1
        have hiv : DInv (addD d ((i + 1 : Nat) : Int) (toS w0.t) (itmF d.t.zones (formK (toS w0.t)) ws itm0)) (i + 1) := by rw [s2]; exact readP_inv _ h3 hok
        rcases kinds6 hk with hK | hK | hK | hK | hK | hK
        ·have eF : (formK (toS w0.t)) = [110, 100, 100] := by rw [hK]; exact formK_tar
         rw [eF] at g3 hnx hiv hl3
         rw [g3, hK] at hnx hiv
         obtain ⟨w1, w2, w3, rfl⟩ : ∃ w1 w2 w3, ws = [w1, w2, w3] := by
          match ws, hl3 with
          | [w1, w2, w3], _ => exact ⟨w1, w2, w3, rfl⟩
         obtain rfl : x = ⟨[toS w1.t], [vT w2.t, vT w3.t], []⟩ := g3.symm
         have hD : addD d ((i + 1 : Nat) : Int) ({ data := #[116, 97, 114, 105, 102, 102] } : ByteArray) ⟨[toS w1.t], [vT w2.t, vT w3.t], []⟩ = { d with t := { d.t with name := toS w1.t, unit := vT w2.t, step := vT w3.t }, l0 := d.l0 ++ [((i + 1 : Nat) : Int)] } := by
          unfold addD
          rw [if_pos rfl]
          rfl
         have h_tar : ¬ decide (toS w0.t = ({ data := #[116, 97, 114, 105, 102, 102] } : ByteArray)) = false := fun h => (of_decide_eq_false h) hK
         repeat' (first
          | (refine Ax.go ?_; first | (with_reducible apply Alt.one))
          | exact Cl.go
          | ((fail_if_success refine Stop.go ?_); first | (with_reducible first | apply And.intro | apply Cut.go | (refine impI ?_; intro _; try (first | exact ko hz5 | exact ko h_tar))) | rw [beqvv (d.l0.length + 1)] | (refine propI ?_; conv => whnf)))
         all_goals try exact nbZ
         all_goals try (exact Sc.of ⟨show (d.l0.length + (0 + 1)) * 8 <= 140737488355328 by omega, show d.l0.length + (0 + 1) <= 9223372036854775807 by omega⟩)
         all_goals try (exact .of ⟨by show (-9223372036854775808 : Int) <= ((i : Nat) : Int) + 1; omega, by show ((i : Nat) : Int) + 1 <= 9223372036854775807; omega⟩)
         all_goals try (exact .of ⟨by show (-9223372036854775808 : Int) <= ((formS (toS w0.t)).size : Int) + 1; omega, by show ((formS (toS w0.t)).size : Int) + 1 <= 9223372036854775807; omega⟩)
         all_goals try ((with_reducible refine (?_ : Sc none (((_ : Int) <= _) /\ _))); exact Sc.of ⟨of_decide_eq_true rfl, of_decide_eq_true rfl⟩)
         rw [hD] at hnx hiv
         refine ⟨(i + 1, { d with t := { d.t with name := toS w1.t, unit := vT w2.t, step := vT w3.t }, l0 := d.l0 ++ [((i + 1 : Nat) : Int)] }), ⟨hnx, by omega, hiv⟩, by show LL.length - (i + 1) < LL.length - i; omega, ?_⟩
         show StTo _ _ _ [(2, .ptr 0 0), (3, .ptr 1 0), (5, (.slc 1 LL.length (fun a _ => .str (toS (LL.getD a []))))), (6, .ptr 2 0), (7, .own 3 1), (8, .int .i64 ((i + 1 : Nat) : Int))] (rfO ({ d with t := { d.t with name := toS w1.t, unit := vT w2.t, step := vT w3.t }, l0 := d.l0 ++ [((i + 1 : Nat) : Int)] }))
         rw [rfO_tar]
         exact .le ⟨rfl, ⟨.refl _, .refl _, .refl _, .refl _, .refl _, .refl _, .refl _, .refl _, .refl _, .list fun a j ha hj => by replace hj : j < 1 := hj; (obtain rfl : j = 0 := (by omega)); exact Le.ofEq (push_iw rfl ha), .refl _, .refl _, .refl _, .refl _, .refl _, trivial⟩, rfZ⟩
        ·have eF : (formK (toS w0.t)) = [110] := by rw [hK]; exact formK_zon
         rw [eF] at g3 hnx hiv hl3
         rw [g3, hK] at hnx hiv
         obtain ⟨w1, rfl⟩ : ∃ w1, ws = [w1] := by
          match ws, hl3 with
          | [w1], _ => exact ⟨w1, rfl⟩
         obtain rfl : x = ⟨[toS w1.t], [], []⟩ := g3.symm
         have hD : addD d ((i + 1 : Nat) : Int) ({ data := #[122, 111, 110, 101] } : ByteArray) ⟨[toS w1.t], [], []⟩ = (d.nt1 ((i + 1 : Nat) : Int)).adZ (toS w1.t) := by
          unfold addD
          rw [if_neg (by decide)]
          rw [if_pos rfl]
          rfl
         have h_tar : ¬ decide (toS w0.t = ({ data := #[116, 97, 114, 105, 102, 102] } : ByteArray)) = true := fun h => absurd ((of_decide_eq_true h).symm.trans hK) (by decide)
         have h_zon : ¬ decide (toS w0.t = ({ data := #[122, 111, 110, 101] } : ByteArray)) = false := fun h => (of_decide_eq_false h) hK
         repeat' (first
          | (refine Ax.go ?_; first | (with_reducible apply Alt.one))
          | exact Cl.go
          | ((fail_if_success refine Stop.go ?_); first | (with_reducible first | apply And.intro | apply Cut.go | (refine impI ?_; intro _; try (first | exact ko hz5 | exact ko h_tar | exact ko h_zon))) | rw [beqvv (d.l1.length + 1)] | rw [beqvv (d.t.zones.length + 1)] | (refine propI ?_; conv => whnf)))
         all_goals try exact nbZ
         all_goals try (exact Sc.of ⟨show (d.l1.length + (0 + 1)) * 8 <= 140737488355328 by omega, show d.l1.length + (0 + 1) <= 9223372036854775807 by omega⟩)
         all_goals try (exact Sc.of ⟨show (d.t.zones.length + (0 + 1)) * 16 <= 140737488355328 by omega, show d.t.zones.length + (0 + 1) <= 9223372036854775807 by omega⟩)
         all_goals try (exact .of ⟨by show (-9223372036854775808 : Int) <= ((i : Nat) : Int) + 1; omega, by show ((i : Nat) : Int) + 1 <= 9223372036854775807; omega⟩)
         all_goals try (exact .of ⟨by show (-9223372036854775808 : Int) <= ((formS (toS w0.t)).size : Int) + 1; omega, by show ((formS (toS w0.t)).size : Int) + 1 <= 9223372036854775807; omega⟩)
         all_goals try ((with_reducible refine (?_ : Sc none (((_ : Int) <= _) /\ _))); exact Sc.of ⟨of_decide_eq_true rfl, of_decide_eq_true rfl⟩)
         rw [hD] at hnx hiv
         refine ⟨(i + 1, (d.nt1 ((i + 1 : Nat) : Int)).adZ (toS w1.t)), ⟨hnx, by omega, hiv⟩, by show LL.length - (i + 1) < LL.length - i; omega, ?_⟩
         show StTo _ _ _ [(2, .ptr 0 0), (3, .ptr 1 0), (5, (.slc 1 LL.length (fun a _ => .str (toS (LL.getD a []))))), (6, .ptr 2 0), (7, .own 3 1), (8, .int .i64 ((i + 1 : Nat) : Int))] (rfO ((d.nt1 ((i + 1 : Nat) : Int)).adZ (toS w1.t)))
         rw [rfO_zon]
         exact .le ⟨rfl, ⟨.refl _, .refl _, .refl _, .refl _, .list fun a j ha hj => by replace hj : j < 1 := hj; (obtain rfl : j = 0 := (by omega)); exact Le.ofEq (push_sw rfl ha), .refl _, .refl _, .refl _, .refl _, .refl _, .list fun a j ha hj => by replace hj : j < 1 := hj; (obtain rfl : j = 0 := (by omega)); exact Le.ofEq (push_iw rfl ha), .refl _, .refl _, .refl _, .refl _, trivial⟩, rfZ⟩
        ·have eF : (formK (toS w0.t)) = [100] := by rw [hK]; exact formK_hol
         rw [eF] at g3 hnx hiv hl3
         rw [g3, hK] at hnx hiv
         obtain ⟨w1, rfl⟩ : ∃ w1, ws = [w1] := by
          match ws, hl3 with
          | [w1], _ => exact ⟨w1, rfl⟩
         obtain rfl : x = ⟨[], [vT w1.t], []⟩ := g3.symm
         have hD : addD d ((i + 1 : Nat) : Int) ({ data := #[104, 111, 108, 105, 100, 97, 121] } : ByteArray) ⟨[], [vT w1.t], []⟩ = (d.nt2 ((i + 1 : Nat) : Int)).adH (vT w1.t) := by
          unfold addD
          rw [if_neg (by decide)]
          rw [if_neg (by decide)]
          rw [if_pos rfl]
          rfl
         have h_tar : ¬ decide (toS w0.t = ({ data := #[116, 97, 114, 105, 102, 102] } : ByteArray)) = true := fun h => absurd ((of_decide_eq_true h).symm.trans hK) (by decide)
         have h_zon : ¬ decide (toS w0.t = ({ data := #[122, 111, 110, 101] } : ByteArray)) = true := fun h => absurd ((of_decide_eq_true h).symm.trans hK) (by decide)
         have h_hol : ¬ decide (toS w0.t = ({ data := #[104, 111, 108, 105, 100, 97, 121] } : ByteArray)) = false := fun h => (of_decide_eq_false h) hK
         repeat' (first
          | (refine Ax.go ?_; first | (with_reducible apply Alt.one))
          | exact Cl.go
          | ((fail_if_success refine Stop.go ?_); first | (with_reducible first | apply And.intro | apply Cut.go | (refine impI ?_; intro _; try (first | exact ko hz5 | exact ko h_tar | exact ko h_zon | exact ko h_hol))) | rw [beqvv (d.l2.length + 1)] | rw [beqvv (d.t.hol.length + 1)] | (refine propI ?_; conv => whnf)))
         all_goals try exact nbZ
         all_goals try (exact Sc.of ⟨show (d.l2.length + (0 + 1)) * 8 <= 140737488355328 by omega, show d.l2.length + (0 + 1) <= 9223372036854775807 by omega⟩)
         all_goals try (exact Sc.of ⟨show (d.t.hol.length + (0 + 1)) * 8 <= 140737488355328 by omega, show d.t.hol.length + (0 + 1) <= 9223372036854775807 by omega⟩)
         all_goals try (exact .of ⟨by show (-9223372036854775808 : Int) <= ((i : Nat) : Int) + 1; omega, by show ((i : Nat) : Int) + 1 <= 9223372036854775807; omega⟩)
         all_goals try (exact .of ⟨by show (-9223372036854775808 : Int) <= ((formS (toS w0.t)).size : Int) + 1; omega, by show ((formS (toS w0.t)).size : Int) + 1 <= 9223372036854775807; omega⟩)
         all_goals try ((with_reducible refine (?_ : Sc none (((_ : Int) <= _) /\ _))); exact Sc.of ⟨of_decide_eq_true rfl, of_decide_eq_true rfl⟩)
         rw [hD] at hnx hiv
         refine ⟨(i + 1, (d.nt2 ((i + 1 : Nat) : Int)).adH (vT w1.t)), ⟨hnx, by omega, hiv⟩, by show LL.length - (i + 1) < LL.length - i; omega, ?_⟩
         show StTo _ _ _ [(2, .ptr 0 0), (3, .ptr 1 0), (5, (.slc 1 LL.length (fun a _ => .str (toS (LL.getD a []))))), (6, .ptr 2 0), (7, .own 3 1), (8, .int .i64 ((i + 1 : Nat) : Int))] (rfO ((d.nt2 ((i + 1 : Nat) : Int)).adH (vT w1.t)))
         rw [rfO_hol]
         exact .le ⟨rfl, ⟨.refl _, .refl _, .refl _, .refl _, .refl _, .list fun a j ha hj => by replace hj : j < 1 := hj; (obtain rfl : j = 0 := (by omega)); exact Le.ofEq (push_iw rfl ha), .refl _, .refl _, .refl _, .refl _, .refl _, .list fun a j ha hj => by replace hj : j < 1 := hj; (obtain rfl : j = 0 := (by omega)); exact Le.ofEq (push_iw rfl ha), .refl _, .refl _, .refl _, trivial⟩, rfZ⟩
        ·have eF : (formK (toS w0.t)) = [110, 100, 100, 108, 107, 100, 100, 100, 100, 100] := by rw [hK]; exact formK_rul
         rw [eF] at g3 hnx hiv hl3
         rw [g3, hK] at hnx hiv
         obtain ⟨w1, w2, w3, w4, w5, w6, w7, w8, w9, w10, rfl⟩ : ∃ w1 w2 w3 w4 w5 w6 w7 w8 w9 w10, ws = [w1, w2, w3, w4, w5, w6, w7, w8, w9, w10] := by
          match ws, hl3 with
          | [w1, w2, w3, w4, w5, w6, w7, w8, w9, w10], _ => exact ⟨w1, w2, w3, w4, w5, w6, w7, w8, w9, w10, rfl⟩
         obtain rfl : x = ⟨[toS w1.t], [vT w2.t, vT w3.t, vT w6.t, vT w7.t, vT w8.t, vT w9.t, vT w10.t], [zonL d.t.zones (cutS 44 (toS w4.t)), dayL (toS w5.t)]⟩ := g3.symm
         have hD : addD d ((i + 1 : Nat) : Int) ({ data := #[114, 117, 108, 101] } : ByteArray) ⟨[toS w1.t], [vT w2.t, vT w3.t, vT w6.t, vT w7.t, vT w8.t, vT w9.t, vT w10.t], [zonL d.t.zones (cutS 44 (toS w4.t)), dayL (toS w5.t)]⟩ = (d.nt3 ((i + 1 : Nat) : Int)).adR ⟨toS w1.t, vT w2.t, vT w3.t, zonL d.t.zones (cutS 44 (toS w4.t)), dayL (toS w5.t), vT w6.t, vT w7.t, vT w8.t, vT w9.t, vT w10.t⟩ := by
          unfold addD
          rw [if_neg (by decide)]
          rw [if_neg (by decide)]
          rw [if_neg (by decide)]
          rw [if_pos rfl]
          rfl
         have h_tar : ¬ decide (toS w0.t = ({ data := #[116, 97, 114, 105, 102, 102] } : ByteArray)) = true := fun h => absurd ((of_decide_eq_true h).symm.trans hK) (by decide)
         have h_zon : ¬ decide (toS w0.t = ({ data := #[122, 111, 110, 101] } : ByteArray)) = true := fun h => absurd ((of_decide_eq_true h).symm.trans hK) (by decide)
         have h_hol : ¬ decide (toS w0.t = ({ data := #[104, 111, 108, 105, 100, 97, 121] } : ByteArray)) = true := fun h => absurd ((of_decide_eq_true h).symm.trans hK) (by decide)
         have h_rul : ¬ decide (toS w0.t = ({ data := #[114, 117, 108, 101] } : ByteArray)) = false := fun h => (of_decide_eq_false h) hK
         repeat' (first
          | (refine Ax.go ?_; first | (with_reducible apply Alt.one))
          | exact Cl.go
          | ((fail_if_success refine Stop.go ?_); first | (with_reducible first | apply And.intro | apply Cut.go | (refine impI ?_; intro _; try (first | exact ko hz5 | exact ko h_tar | exact ko h_zon | exact ko h_hol | exact ko h_rul))) | rw [beqvv (d.l3.length + 1)] | rw [beqvv (d.t.rules.length + 1)] | (refine propI ?_; conv => whnf)))
         all_goals try exact nbZ
         all_goals try (exact Sc.of ⟨show (d.l3.length + (0 + 1)) * 8 <= 140737488355328 by omega, show d.l3.length + (0 + 1) <= 9223372036854775807 by omega⟩)
         all_goals try (exact Sc.of ⟨show (d.t.rules.length + (0 + 1)) * 120 <= 140737488355328 by omega, show d.t.rules.length + (0 + 1) <= 9223372036854775807 by omega⟩)
         all_goals try (exact .of ⟨by show (-9223372036854775808 : Int) <= ((i : Nat) : Int) + 1; omega, by show ((i : Nat) : Int) + 1 <= 9223372036854775807; omega⟩)
         all_goals try (exact .of ⟨by show (-9223372036854775808 : Int) <= ((formS (toS w0.t)).size : Int) + 1; omega, by show ((formS (toS w0.t)).size : Int) + 1 <= 9223372036854775807; omega⟩)
         all_goals try ((with_reducible refine (?_ : Sc none (((_ : Int) <= _) /\ _))); exact Sc.of ⟨of_decide_eq_true rfl, of_decide_eq_true rfl⟩)
         rw [hD] at hnx hiv
         refine ⟨(i + 1, (d.nt3 ((i + 1 : Nat) : Int)).adR ⟨toS w1.t, vT w2.t, vT w3.t, zonL d.t.zones (cutS 44 (toS w4.t)), dayL (toS w5.t), vT w6.t, vT w7.t, vT w8.t, vT w9.t, vT w10.t⟩), ⟨hnx, by omega, hiv⟩, by show LL.length - (i + 1) < LL.length - i; omega, ?_⟩
         show StTo _ _ _ [(2, .ptr 0 0), (3, .ptr 1 0), (5, (.slc 1 LL.length (fun a _ => .str (toS (LL.getD a []))))), (6, .ptr 2 0), (7, .own 3 1), (8, .int .i64 ((i + 1 : Nat) : Int))] (rfO ((d.nt3 ((i + 1 : Nat) : Int)).adR ⟨toS w1.t, vT w2.t, vT w3.t, zonL d.t.zones (cutS 44 (toS w4.t)), dayL (toS w5.t), vT w6.t, vT w7.t, vT w8.t, vT w9.t, vT w10.t⟩))
         rw [rfO_rul]
         exact .le ⟨rfl, ⟨.refl _, .refl _, .refl _, .refl _, .refl _, .refl _, .list fun a j ha hj => push_rD (fun j hj => by rcases (show j = 0 \/ j = 1 \/ j = 2 \/ j = 3 \/ j = 4 \/ j = 5 \/ j = 6 \/ j = 7 \/ j = 8 \/ j = 9 by omega) with rfl | rfl | rfl | rfl | rfl | rfl | rfl | rfl | rfl | rfl <;> exact .refl _) hj ha, .refl _, .refl _, .refl _, .refl _, .refl _, .list fun a j ha hj => by replace hj : j < 1 := hj; (obtain rfl : j = 0 := (by omega)); exact Le.ofEq (push_iw rfl ha), .refl _, .refl _, trivial⟩, rfZ⟩
        ·have eF : (formK (toS w0.t)) = [110, 100] := by rw [hK]; exact formK_ext
         rw [eF] at g3 hnx hiv hl3
         rw [g3, hK] at hnx hiv
         obtain ⟨w1, w2, rfl⟩ : ∃ w1 w2, ws = [w1, w2] := by
          match ws, hl3 with
          | [w1, w2], _ => exact ⟨w1, w2, rfl⟩
         obtain rfl : x = ⟨[toS w1.t], [vT w2.t], []⟩ := g3.symm
         have hD : addD d ((i + 1 : Nat) : Int) ({ data := #[101, 120, 116, 114, 97] } : ByteArray) ⟨[toS w1.t], [vT w2.t], []⟩ = (d.nt4 ((i + 1 : Nat) : Int)).adE ⟨toS w1.t, vT w2.t⟩ := by
          unfold addD
          rw [if_neg (by decide)]
          rw [if_neg (by decide)]
          rw [if_neg (by decide)]
          rw [if_neg (by decide)]
          rw [if_pos rfl]
          rfl
         have h_tar : ¬ decide (toS w0.t = ({ data := #[116, 97, 114, 105, 102, 102] } : ByteArray)) = true := fun h => absurd ((of_decide_eq_true h).symm.trans hK) (by decide)
         have h_zon : ¬ decide (toS w0.t = ({ data := #[122, 111, 110, 101] } : ByteArray)) = true := fun h => absurd ((of_decide_eq_true h).symm.trans hK) (by decide)
         have h_hol : ¬ decide (toS w0.t = ({ data := #[104, 111, 108, 105, 100, 97, 121] } : ByteArray)) = true := fun h => absurd ((of_decide_eq_true h).symm.trans hK) (by decide)
         have h_rul : ¬ decide (toS w0.t = ({ data := #[114, 117, 108, 101] } : ByteArray)) = true := fun h => absurd ((of_decide_eq_true h).symm.trans hK) (by decide)
         have h_ext : ¬ decide (toS w0.t = ({ data := #[101, 120, 116, 114, 97] } : ByteArray)) = false := fun h => (of_decide_eq_false h) hK
         repeat' (first
          | (refine Ax.go ?_; first | (with_reducible apply Alt.one))
          | exact Cl.go
          | ((fail_if_success refine Stop.go ?_); first | (with_reducible first | apply And.intro | apply Cut.go | (refine impI ?_; intro _; try (first | exact ko hz5 | exact ko h_tar | exact ko h_zon | exact ko h_hol | exact ko h_rul | exact ko h_ext))) | rw [beqvv (d.l4.length + 1)] | rw [beqvv (d.t.extras.length + 1)] | (refine propI ?_; conv => whnf)))
         all_goals try exact nbZ
         all_goals try (exact Sc.of ⟨show (d.l4.length + (0 + 1)) * 8 <= 140737488355328 by omega, show d.l4.length + (0 + 1) <= 9223372036854775807 by omega⟩)
         all_goals try (exact Sc.of ⟨show (d.t.extras.length + (0 + 1)) * 24 <= 140737488355328 by omega, show d.t.extras.length + (0 + 1) <= 9223372036854775807 by omega⟩)
         all_goals try (exact .of ⟨by show (-9223372036854775808 : Int) <= ((i : Nat) : Int) + 1; omega, by show ((i : Nat) : Int) + 1 <= 9223372036854775807; omega⟩)
         all_goals try (exact .of ⟨by show (-9223372036854775808 : Int) <= ((formS (toS w0.t)).size : Int) + 1; omega, by show ((formS (toS w0.t)).size : Int) + 1 <= 9223372036854775807; omega⟩)
         all_goals try ((with_reducible refine (?_ : Sc none (((_ : Int) <= _) /\ _))); exact Sc.of ⟨of_decide_eq_true rfl, of_decide_eq_true rfl⟩)
         rw [hD] at hnx hiv
         refine ⟨(i + 1, (d.nt4 ((i + 1 : Nat) : Int)).adE ⟨toS w1.t, vT w2.t⟩), ⟨hnx, by omega, hiv⟩, by show LL.length - (i + 1) < LL.length - i; omega, ?_⟩
         show StTo _ _ _ [(2, .ptr 0 0), (3, .ptr 1 0), (5, (.slc 1 LL.length (fun a _ => .str (toS (LL.getD a []))))), (6, .ptr 2 0), (7, .own 3 1), (8, .int .i64 ((i + 1 : Nat) : Int))] (rfO ((d.nt4 ((i + 1 : Nat) : Int)).adE ⟨toS w1.t, vT w2.t⟩))
         rw [rfO_ext]
         exact .le ⟨rfl, ⟨.refl _, .refl _, .refl _, .refl _, .refl _, .refl _, .refl _, .list fun a j ha hj => push_eD (fun j hj => by rcases (show j = 0 \/ j = 1 by omega) with rfl | rfl <;> exact .refl _) hj ha, .refl _, .refl _, .refl _, .refl _, .refl _, .list fun a j ha hj => by replace hj : j < 1 := hj; (obtain rfl : j = 0 := (by omega)); exact Le.ofEq (push_iw rfl ha), .refl _, trivial⟩, rfZ⟩
        ·have eF : (formK (toS w0.t)) = [122, 122, 100] := by rw [hK]; exact formK_fix
         rw [eF] at g3 hnx hiv hl3
         rw [g3, hK] at hnx hiv
         obtain ⟨w1, w2, w3, rfl⟩ : ∃ w1 w2 w3, ws = [w1, w2, w3] := by
          match ws, hl3 with
          | [w1, w2, w3], _ => exact ⟨w1, w2, w3, rfl⟩
         obtain rfl : x = ⟨[], [vT w3.t], [zonL d.t.zones (oneP (toS w1.t)), zonL d.t.zones (oneP (toS w2.t))]⟩ := g3.symm
         have hD : addD d ((i + 1 : Nat) : Int) ({ data := #[102, 105, 120, 101, 100] } : ByteArray) ⟨[], [vT w3.t], [zonL d.t.zones (oneP (toS w1.t)), zonL d.t.zones (oneP (toS w2.t))]⟩ = (d.nt5 ((i + 1 : Nat) : Int)).adF ⟨(zonL d.t.zones (oneP (toS w1.t))).getD 0 0, (zonL d.t.zones (oneP (toS w2.t))).getD 0 0, vT w3.t⟩ := by
          unfold addD
          rw [if_neg (by decide)]
          rw [if_neg (by decide)]
          rw [if_neg (by decide)]
          rw [if_neg (by decide)]
          rw [if_neg (by decide)]
          rfl
         have h_tar : ¬ decide (toS w0.t = ({ data := #[116, 97, 114, 105, 102, 102] } : ByteArray)) = true := fun h => absurd ((of_decide_eq_true h).symm.trans hK) (by decide)
         have h_zon : ¬ decide (toS w0.t = ({ data := #[122, 111, 110, 101] } : ByteArray)) = true := fun h => absurd ((of_decide_eq_true h).symm.trans hK) (by decide)
         have h_hol : ¬ decide (toS w0.t = ({ data := #[104, 111, 108, 105, 100, 97, 121] } : ByteArray)) = true := fun h => absurd ((of_decide_eq_true h).symm.trans hK) (by decide)
         have h_rul : ¬ decide (toS w0.t = ({ data := #[114, 117, 108, 101] } : ByteArray)) = true := fun h => absurd ((of_decide_eq_true h).symm.trans hK) (by decide)
         have h_ext : ¬ decide (toS w0.t = ({ data := #[101, 120, 116, 114, 97] } : ByteArray)) = true := fun h => absurd ((of_decide_eq_true h).symm.trans hK) (by decide)
         repeat' (first
          | (refine Ax.go ?_; first | (with_reducible apply Alt.one))
          | exact Cl.go
          | ((fail_if_success refine Stop.go ?_); first | (with_reducible first | apply And.intro | apply Cut.go | (refine impI ?_; intro _; try (first | exact ko hz5 | exact ko h_tar | exact ko h_zon | exact ko h_hol | exact ko h_rul | exact ko h_ext))) | rw [beqvv (d.l5.length + 1)] | rw [beqvv (d.t.fixed.length + 1)] | (refine propI ?_; conv => whnf)))
         all_goals try exact nbZ
         all_goals try (exact Sc.of ⟨show (d.l5.length + (0 + 1)) * 8 <= 140737488355328 by omega, show d.l5.length + (0 + 1) <= 9223372036854775807 by omega⟩)
         all_goals try (exact Sc.of ⟨show (d.t.fixed.length + (0 + 1)) * 24 <= 140737488355328 by omega, show d.t.fixed.length + (0 + 1) <= 9223372036854775807 by omega⟩)
         all_goals try (exact .of ⟨by show (-9223372036854775808 : Int) <= ((i : Nat) : Int) + 1; omega, by show ((i : Nat) : Int) + 1 <= 9223372036854775807; omega⟩)
         all_goals try (exact .of ⟨by show (-9223372036854775808 : Int) <= ((formS (toS w0.t)).size : Int) + 1; omega, by show ((formS (toS w0.t)).size : Int) + 1 <= 9223372036854775807; omega⟩)
         all_goals try ((with_reducible refine (?_ : Sc none (((_ : Int) <= _) /\ _))); exact Sc.of ⟨of_decide_eq_true rfl, of_decide_eq_true rfl⟩)
         rw [hD] at hnx hiv
         refine ⟨(i + 1, (d.nt5 ((i + 1 : Nat) : Int)).adF ⟨(zonL d.t.zones (oneP (toS w1.t))).getD 0 0, (zonL d.t.zones (oneP (toS w2.t))).getD 0 0, vT w3.t⟩), ⟨hnx, by omega, hiv⟩, by show LL.length - (i + 1) < LL.length - i; omega, ?_⟩
         show StTo _ _ _ [(2, .ptr 0 0), (3, .ptr 1 0), (5, (.slc 1 LL.length (fun a _ => .str (toS (LL.getD a []))))), (6, .ptr 2 0), (7, .own 3 1), (8, .int .i64 ((i + 1 : Nat) : Int))] (rfO ((d.nt5 ((i + 1 : Nat) : Int)).adF ⟨(zonL d.t.zones (oneP (toS w1.t))).getD 0 0, (zonL d.t.zones (oneP (toS w2.t))).getD 0 0, vT w3.t⟩))
         rw [rfO_fix]
         exact .le ⟨rfl, ⟨.refl _, .refl _, .refl _, .refl _, .refl _, .refl _, .refl _, .refl _, .list fun a j ha hj => push_fD (fun j hj => by rcases (show j = 0 \/ j = 1 \/ j = 2 by omega) with rfl | rfl | rfl <;> exact .refl _) hj ha, .refl _, .refl _, .refl _, .refl _, .refl _, .list fun a j ha hj => by replace hj : j < 1 := hj; (obtain rfl : j = 0 := (by omega)); exact Le.ofEq (push_iw rfl ha), trivial⟩, rfZ⟩
     ·have hz4 : ¬ (bif bif (d.l0.length : Int) == 0 then !decide (toS w0.t = { data := #[116, 97, 114, 105, 102, 102] }) else false then true else bif decide (0 < (d.l0.length : Int)) then !hasB kinds5 kinds5.length (toS w0.t) else false) = false := by rw [cond_k, decide_eq_false hk]; decide
      repeat' (first
       | (refine Ax.go ?_; first | (with_reducible apply callAlt (csp)) | (with_reducible apply callAlt (c43 hX kinds5 (toS w0.t) (Side.mk (by decide)))) | (with_reducible apply callAlt (c44 hX hl (toS w0.t))) | (with_reducible apply Alt.one))
       | ((with_reducible refine Ar.go ?_); first | exact ⟨.slcN rfl (fun i j hi hj => by replace hi : i < 5 := hi; replace hj : j < 1 := hj; (obtain rfl : j = 0 := (by omega)); rcases (show i = 0 \/ i = 1 \/ i = 2 \/ i = 3 \/ i = 4 by omega) with rfl | rfl | rfl | rfl | rfl <;> exact .refl _), .refl _, trivial⟩)
       | exact Cl.go
       | ((fail_if_success refine Stop.go ?_); first | rw [beqvv (d.l0.length + 1)] | (with_reducible first | apply And.intro | apply Cut.go | (refine impI ?_; intro _; try (first | exact ko hz2 | exact ko hz3 | exact ko hz4))) | (refine propI ?_; conv => whnf)))
      all_goals try exact nbZ
      ·exact .of ⟨by omega, by omega⟩
      ·exact .of ⟨by decide, by show (0 : Int) < ((ws.length + 1 : Nat) : Int); omega⟩
      ·exact .of ⟨by decide, by decide⟩
      ·exact Sc.imp fun _ => ⟨by decide, by decide⟩
      ·exact .of ⟨by show (-9223372036854775808 : Int) <= ((i : Nat) : Int) + 1; omega, by show ((i : Nat) : Int) + 1 <= 9223372036854775807; omega⟩
      ·exact .of ⟨by decide, by show (0 : Int) < ((ws.length + 1 : Nat) : Int); omega⟩
      ·rw [h1, hd, fromP_bad (step_kE hw hk)]
       exact .mk [] [] _ rfl (.le (.tups ⟨⟨⟨trivial, .aggs (n := 8) (z8 rfl)⟩, .aggs (n := 2) ⟨⟨trivial, .refl _⟩, .refl _⟩⟩, .refl _⟩)) trivial rfl
   ·have hz2 : ¬ decide (((i : Nat) : Int) < ((LL.length : Nat) : Int)) = true := by rw [decide_eq_false (by omega)]; decide
    obtain rfl : i = LL.length := by omega
    repeat' (first
     | (refine Ax.go ?_; first | (with_reducible apply Alt.one))
     | exact Cl.go
     | ((fail_if_success refine Stop.go ?_); first | (with_reducible first | apply And.intro | apply Cut.go | (refine impI ?_; intro _; try (first | exact ko hz2))) | (refine propI ?_; conv => whnf)))
    all_goals try exact nbZ
    exact ⟨d, ⟨by rw [h1, List.drop_length]; rfl, h3⟩, .le ⟨rfl, rfZ, rfZ⟩⟩
  ·obtain ⟨hE, hI⟩ := hd
   have tok : Side (TOk d.t) := Side.mk (hI.tok (by omega))
   have cck0 := c46 hX d.t tok
   by_cases h0 : d.l0 = []
   ·have hz6 : ¬ ((d.l0.length : Int) == 0) = false := by rw [h0]; decide
    repeat' (first
     | (refine Ax.go ?_; first | (with_reducible apply Alt.one))
     | exact Cl.go
     | ((fail_if_success refine Stop.go ?_); first | (with_reducible first | apply And.intro | apply Cut.go | (refine impI ?_; intro _; try (first | exact ko hz6))) | rw [beqvv (d.l0.length + 1)] | (refine propI ?_; conv => whnf)))
    all_goals try exact nbZ
    ·exact .of ⟨by decide, by decide⟩
    ·exact .of ⟨by show (-9223372036854775808 : Int) <= (LL.length : Int) + 1; omega, by show (LL.length : Int) + 1 <= 9223372036854775807; omega⟩
    ·rw [hE, show endP d LL.length = ⟨trf0, (LL.length : Int) + 1, 1, 6⟩ from if_pos h0]
     exact .mk [] [] _ rfl (.le (.tups ⟨⟨⟨trivial, .aggs (n := 8) (z8 rfl)⟩, .aggs (n := 2) ⟨⟨trivial, .refl _⟩, .refl _⟩⟩, .refl _⟩)) trivial rfl
   ·have hz6 : ¬ ((d.l0.length : Int) == 0) = true := fun h => h0 (List.eq_nil_of_length_eq_zero (by have h : (d.l0.length : Int) = 0 := eq_of_beq h; omega))
    by_cases e0 : trfE d.t = 0
    ·have cck : Pure (Xc W0 G) 46 [trfA d.t] (.tup 2 (tbl [.agg 2 (tbl [.int .i64 (trfL d.t), .int .i64 (trfN d.t)]), .int .i64 0])) := by have c := cck0; unfold trfR at c; rw [e0] at c; exact c
     repeat' (first
      | (refine Ax.go ?_; first | ((with_reducible apply callAltH cck); (case hl => exact ⟨.aggs (n := 8) trfH, trivial⟩); (case hr => rfl)) | (with_reducible apply Alt.one))
      | exact Cl.go
      | ((fail_if_success refine Stop.go ?_); first | (with_reducible first | apply And.intro | apply Cut.go | (refine impI ?_; intro _; try (first | exact ko hz6 | (exfalso; rename_i hh; revert hh; decide)))) | rw [beqvv (d.l0.length + 1)] | (refine propI ?_; conv => whnf)))
     all_goals try exact nbZ
     ·exact .of ⟨by decide, by decide⟩
     ·rw [hE, show endP d LL.length = ⟨d.t, 0, 0, 0⟩ from by unfold endP; rw [if_neg h0, if_neg (fun h => h e0)]]
      exact .mk [] [4, 5, 6, 7, 8] _ rfl (.tups ⟨⟨⟨trivial, .aggs (n := 8) trfH⟩, .le (.aggs (n := 2) ⟨⟨trivial, .refl _⟩, .refl _⟩)⟩, .le (.refl _)⟩) trivial rfl
    ·have hz7 : ¬ (trfE d.t != 0) = false := fun h => e0 (by simpa using h)
     rcases mark_ok e0 with ⟨hL, hN⟩ | ⟨p, m, hp, hL, hN, hmm⟩
     ·skip
      have hL : trfL d.t = 0 := hL
      have hN : trfN d.t = 0 := hN
      have cck : Pure (Xc W0 G) 46 [trfA d.t] (.tup 2 (tbl [.agg 2 (tbl [.int .i64 0, .int .i64 0]), .int .i64 (trfE d.t)])) := by have c := cck0; unfold trfR at c; rw [hL, hN] at c; exact c
      repeat' (first
       | (refine Ax.go ?_; first | ((with_reducible apply callAltH cck); (case hl => exact ⟨.aggs (n := 8) trfH, trivial⟩); (case hr => rfl)) | (with_reducible apply Alt.one))
       | exact Cl.go
       | ((fail_if_success refine Stop.go ?_); first | (with_reducible first | apply And.intro | apply Cut.go | (refine impI ?_; intro _; try (first | exact ko hz6 | exact ko hz7))) | rw [beqvv (d.l0.length + 1)] | (refine propI ?_; conv => whnf)))
      all_goals try exact nbZ
      all_goals try ((with_reducible refine (?_ : Sc none (((_ : Int) <= _) /\ _))); exact Sc.of ⟨of_decide_eq_true rfl, of_decide_eq_true rfl⟩)
      all_goals try (have q := List.length_pos_iff.2 h0; first | exact Sc.of ⟨by omega, by omega⟩ | exact Sc.of (show 0 < d.l0.length by omega))
      rw [hE, show endP d LL.length = ⟨trf0, d.l0.getD 0 0, 1, trfE d.t⟩ from by unfold endP; rw [if_neg h0, if_pos e0, hL, hN]; rfl]
      exact .mk [] [] _ rfl (.le (.tups ⟨⟨⟨trivial, .aggs (n := 8) (z8 rfl)⟩, .aggs (n := 2) ⟨⟨trivial, .refl _⟩, .refl _⟩⟩, .refl _⟩)) trivial rfl
     ·rcases (show p = 0 \/ p = 1 \/ p = 2 \/ p = 3 \/ p = 4 by omega) with rfl | rfl | rfl | rfl | rfl
      ·skip
       have hL : trfL d.t = 1 := hL
       have hN : trfN d.t = ((m : Nat) : Int) := hN
       have cck : Pure (Xc W0 G) 46 [trfA d.t] (.tup 2 (tbl [.agg 2 (tbl [.int .i64 1, .int .i64 ((m : Nat) : Int)]), .int .i64 (trfE d.t)])) := by have c := cck0; unfold trfR at c; rw [hL, hN] at c; exact c
       repeat' (first
        | (refine Ax.go ?_; first | ((with_reducible apply callAltH cck); (case hl => exact ⟨.aggs (n := 8) trfH, trivial⟩); (case hr => rfl)) | (with_reducible apply Alt.one))
        | exact Cl.go
        | ((fail_if_success refine Stop.go ?_); first | (with_reducible first | apply And.intro | apply Cut.go | (refine impI ?_; intro _; try (first | exact ko hz6 | exact ko hz7))) | rw [beqvv (d.l0.length + 1)] | rw [beqvv (d.l1.length + 1)] | (refine propI ?_; conv => whnf)))
       all_goals try exact nbZ
       all_goals try ((with_reducible refine (?_ : Sc none (((_ : Int) <= _) /\ _))); exact Sc.of ⟨of_decide_eq_true rfl, of_decide_eq_true rfl⟩)
       all_goals try (have q := hI.q1; have hmm : m < d.t.zones.length := hmm; first | exact Sc.of ⟨by omega, by omega⟩ | exact Sc.of (show m < d.l1.length by omega))
       rw [hE, show endP d LL.length = ⟨trf0, d.l1.getD m 0, 1, trfE d.t⟩ from by unfold endP; rw [if_neg h0, if_pos e0, hL, hN]; rfl]
       exact .mk [] [] _ rfl (.le (.tups ⟨⟨⟨trivial, .aggs (n := 8) (z8 rfl)⟩, .aggs (n := 2) ⟨⟨trivial, .refl _⟩, .refl _⟩⟩, .refl _⟩)) trivial rfl
      ·skip
       have hL : trfL d.t = 2 := hL
       have hN : trfN d.t = ((m : Nat) : Int) := hN
       have cck : Pure (Xc W0 G) 46 [trfA d.t] (.tup 2 (tbl [.agg 2 (tbl [.int .i64 2, .int .i64 ((m : Nat) : Int)]), .int .i64 (trfE d.t)])) := by have c := cck0; unfold trfR at c; rw [hL, hN] at c; exact c
       repeat' (first
        | (refine Ax.go ?_; first | ((with_reducible apply callAltH cck); (case hl => exact ⟨.aggs (n := 8) trfH, trivial⟩); (case hr => rfl)) | (with_reducible apply Alt.one))
        | exact Cl.go
        | ((fail_if_success refine Stop.go ?_); first | (with_reducible first | apply And.intro | apply Cut.go | (refine impI ?_; intro _; try (first | exact ko hz6 | exact ko hz7))) | rw [beqvv (d.l0.length + 1)] | rw [beqvv (d.l2.length + 1)] | (refine propI ?_; conv => whnf)))
       all_goals try exact nbZ
       all_goals try ((with_reducible refine (?_ : Sc none (((_ : Int) <= _) /\ _))); exact Sc.of ⟨of_decide_eq_true rfl, of_decide_eq_true rfl⟩)
       all_goals try (have q := hI.q2; have hmm : m < d.t.hol.length := hmm; first | exact Sc.of ⟨by omega, by omega⟩ | exact Sc.of (show m < d.l2.length by omega))
       rw [hE, show endP d LL.length = ⟨trf0, d.l2.getD m 0, 1, trfE d.t⟩ from by unfold endP; rw [if_neg h0, if_pos e0, hL, hN]; rfl]
       exact .mk [] [] _ rfl (.le (.tups ⟨⟨⟨trivial, .aggs (n := 8) (z8 rfl)⟩, .aggs (n := 2) ⟨⟨trivial, .refl _⟩, .refl _⟩⟩, .refl _⟩)) trivial rfl
      ·skip
       have hL : trfL d.t = 3 := hL
       have hN : trfN d.t = ((m : Nat) : Int) := hN
       have cck : Pure (Xc W0 G) 46 [trfA d.t] (.tup 2 (tbl [.agg 2 (tbl [.int .i64 3, .int .i64 ((m : Nat) : Int)]), .int .i64 (trfE d.t)])) := by have c := cck0; unfold trfR at c; rw [hL, hN] at c; exact c
       repeat' (first
        | (refine Ax.go ?_; first | ((with_reducible apply callAltH cck); (case hl => exact ⟨.aggs (n := 8) trfH, trivial⟩); (case hr => rfl)) | (with_reducible apply Alt.one))
        | exact Cl.go
        | ((fail_if_success refine Stop.go ?_); first | (with_reducible first | apply And.intro | apply Cut.go | (refine impI ?_; intro _; try (first | exact ko hz6 | exact ko hz7))) | rw [beqvv (d.l0.length + 1)] | rw [beqvv (d.l3.length + 1)] | (refine propI ?_; conv => whnf)))
       all_goals try exact nbZ
       all_goals try ((with_reducible refine (?_ : Sc none (((_ : Int) <= _) /\ _))); exact Sc.of ⟨of_decide_eq_true rfl, of_decide_eq_true rfl⟩)
       all_goals try (have q := hI.q3; have hmm : m < d.t.rules.length := hmm; first | exact Sc.of ⟨by omega, by omega⟩ | exact Sc.of (show m < d.l3.length by omega))
       rw [hE, show endP d LL.length = ⟨trf0, d.l3.getD m 0, 1, trfE d.t⟩ from by unfold endP; rw [if_neg h0, if_pos e0, hL, hN]; rfl]
       exact .mk [] [] _ rfl (.le (.tups ⟨⟨⟨trivial, .aggs (n := 8) (z8 rfl)⟩, .aggs (n := 2) ⟨⟨trivial, .refl _⟩, .refl _⟩⟩, .refl _⟩)) trivial rfl
      ·skip
       have hL : trfL d.t = 4 := hL
       have hN : trfN d.t = ((m : Nat) : Int) := hN
       have cck : Pure (Xc W0 G) 46 [trfA d.t] (.tup 2 (tbl [.agg 2 (tbl [.int .i64 4, .int .i64 ((m : Nat) : Int)]), .int .i64 (trfE d.t)])) := by have c := cck0; unfold trfR at c; rw [hL, hN] at c; exact c
       repeat' (first
        | (refine Ax.go ?_; first | ((with_reducible apply callAltH cck); (case hl => exact ⟨.aggs (n := 8) trfH, trivial⟩); (case hr => rfl)) | (with_reducible apply Alt.one))
        | exact Cl.go
        | ((fail_if_success refine Stop.go ?_); first | (with_reducible first | apply And.intro | apply Cut.go | (refine impI ?_; intro _; try (first | exact ko hz6 | exact ko hz7))) | rw [beqvv (d.l0.length + 1)] | rw [beqvv (d.l4.length + 1)] | (refine propI ?_; conv => whnf)))
       all_goals try exact nbZ
       all_goals try ((with_reducible refine (?_ : Sc none (((_ : Int) <= _) /\ _))); exact Sc.of ⟨of_decide_eq_true rfl, of_decide_eq_true rfl⟩)
       all_goals try (have q := hI.q4; have hmm : m < d.t.extras.length := hmm; first | exact Sc.of ⟨by omega, by omega⟩ | exact Sc.of (show m < d.l4.length by omega))
       rw [hE, show endP d LL.length = ⟨trf0, d.l4.getD m 0, 1, trfE d.t⟩ from by unfold endP; rw [if_neg h0, if_pos e0, hL, hN]; rfl]
       exact .mk [] [] _ rfl (.le (.tups ⟨⟨⟨trivial, .aggs (n := 8) (z8 rfl)⟩, .aggs (n := 2) ⟨⟨trivial, .refl _⟩, .refl _⟩⟩, .refl _⟩)) trivial rfl
      ·skip
       have hL : trfL d.t = 5 := hL
       have hN : trfN d.t = ((m : Nat) : Int) := hN
       have cck : Pure (Xc W0 G) 46 [trfA d.t] (.tup 2 (tbl [.agg 2 (tbl [.int .i64 5, .int .i64 ((m : Nat) : Int)]), .int .i64 (trfE d.t)])) := by have c := cck0; unfold trfR at c; rw [hL, hN] at c; exact c
       repeat' (first
        | (refine Ax.go ?_; first | ((with_reducible apply callAltH cck); (case hl => exact ⟨.aggs (n := 8) trfH, trivial⟩); (case hr => rfl)) | (with_reducible apply Alt.one))
        | exact Cl.go
        | ((fail_if_success refine Stop.go ?_); first | (with_reducible first | apply And.intro | apply Cut.go | (refine impI ?_; intro _; try (first | exact ko hz6 | exact ko hz7))) | rw [beqvv (d.l0.length + 1)] | rw [beqvv (d.l5.length + 1)] | (refine propI ?_; conv => whnf)))
       all_goals try exact nbZ
       all_goals try ((with_reducible refine (?_ : Sc none (((_ : Int) <= _) /\ _))); exact Sc.of ⟨of_decide_eq_true rfl, of_decide_eq_true rfl⟩)
       all_goals try (have q := hI.q5; have hmm : m < d.t.fixed.length := hmm; first | exact Sc.of ⟨by omega, by omega⟩ | exact Sc.of (show m < d.l5.length by omega))
       rw [hE, show endP d LL.length = ⟨trf0, d.l5.getD m 0, 1, trfE d.t⟩ from by unfold endP; rw [if_neg h0, if_pos e0, hL, hN]; rfl]
       exact .mk [] [] _ rfl (.le (.tups ⟨⟨⟨trivial, .aggs (n := 8) (z8 rfl)⟩, .aggs (n := 2) ⟨⟨trivial, .refl _⟩, .refl _⟩⟩, .refl _⟩)) trivial rfl
end
end Go.Fx
