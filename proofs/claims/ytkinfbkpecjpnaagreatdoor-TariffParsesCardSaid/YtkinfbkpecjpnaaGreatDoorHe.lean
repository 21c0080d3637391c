/-
 The specification reads a word.
-/
import Derived.Test.YtkinfbkpecjpnaaGreatDoorHd
import Derived.Test.YtkinfbkpecjpnaaGreatDoorGy
import Derived.Test.YtkinfbkpecjpnaaGreatDoorGp
import Derived.Laws.RangeString
import Derived.Laws.RangeAny
set_option linter.all false
/-
 The reference's tariffs: what a word is read as; names, numbers.
-/
namespace Go.Fx
open Go.Proofs Go.RowKit
def formS (s : ByteArray) : ByteArray := if s = ({ data := #[116, 97, 114, 105, 102, 102] } : ByteArray) then ({ data := #[110, 100, 100] } : ByteArray) else if s = ({ data := #[122, 111, 110, 101] } : ByteArray) then ({ data := #[110] } : ByteArray) else if s = ({ data := #[104, 111, 108, 105, 100, 97, 121] } : ByteArray) then ({ data := #[100] } : ByteArray) else if s = ({ data := #[114, 117, 108, 101] } : ByteArray) then ({ data := #[110, 100, 100, 108, 107, 100, 100, 100, 100, 100] } : ByteArray) else if s = ({ data := #[101, 120, 116, 114, 97] } : ByteArray) then ({ data := #[110, 100] } : ByteArray) else ({ data := #[122, 122, 100] } : ByteArray)
theorem form_k (s : ByteArray) : formK s = (formS s).data.toList.map fun b => (b.toNat : Int) := by
 unfold formK formS
 repeat' split
 all_goals rfl
structure ItmOk (x : Itm) : Prop where
 n : x.ns.length <= 100
 d : x.ds.length <= 100
 l : x.ls.length <= 100
def rdX (zs : List ByteArray) (k : Int) (x : Itm) (s : ByteArray) : Itm := if kE zs k s = 0 then addI zs k x s else x
theorem rdX_0 {zs : List ByteArray} {k : Int} {x : Itm} {s : ByteArray} (h : kE zs k s = 0) : rdX zs k x s = addI zs k x s := if_pos h
theorem rdX_1 {zs : List ByteArray} {k : Int} {x : Itm} {s : ByteArray} (h : kE zs k s ≠ 0) : rdX zs k x s = x := if_neg h
def itA (x : Itm) (k : Nat) : AV := .agg 3 (tbl [.own k (x.ns.length + 1), .own (k + 1) (x.ds.length + 1), .own (k + 2) (x.ls.length + 1)])
def itO (x : Itm) : List HObj := [.list 9 1 x.ns.length (fun a _ => .str (x.ns.getD a bs0)) (x.ns.length + 1), .list 3 1 x.ds.length (fun a _ => .int .i64 (x.ds.getD a 0)) (x.ds.length + 1), .list 24 1 x.ls.length (fun a _ => iRow (x.ls.getD a [])) (x.ls.length + 1)]
def rqO (zs : List ByteArray) (v : Nat) (x : Itm) : List HObj := .list 9 1 zs.length (fun a _ => .str (zs.getD a bs0)) v :: itO x
theorem rqO_n (zs : List ByteArray) (v : Nat) (x : Itm) (s : ByteArray) : rqO zs v { x with ns := x.ns ++ [s] } = [.list 9 1 zs.length (fun a _ => .str (zs.getD a bs0)) v, .list 9 1 (x.ns.length + 1) (fun a _ => .str ((x.ns ++ [s]).getD a bs0)) (x.ns.length + 1 + 1), .list 3 1 x.ds.length (fun a _ => .int .i64 (x.ds.getD a 0)) (x.ds.length + 1), .list 24 1 x.ls.length (fun a _ => iRow (x.ls.getD a [])) (x.ls.length + 1)] := by
 have e : (x.ns ++ [s]).length = x.ns.length + 1 := by simp
 unfold rqO itO; dsimp only; rw [e]
theorem itA_n (x : Itm) (s : ByteArray) (k : Nat) : itA { x with ns := x.ns ++ [s] } k = .agg 3 (tbl [.own k (x.ns.length + 1 + 1), .own (k + 1) (x.ds.length + 1), .own (k + 2) (x.ls.length + 1)]) := by
 have e : (x.ns ++ [s]).length = x.ns.length + 1 := by simp
 unfold itA; dsimp only; rw [e]
theorem rqO_d (zs : List ByteArray) (v : Nat) (x : Itm) (s : Int) : rqO zs v { x with ds := x.ds ++ [s] } = [.list 9 1 zs.length (fun a _ => .str (zs.getD a bs0)) v, .list 9 1 x.ns.length (fun a _ => .str (x.ns.getD a bs0)) (x.ns.length + 1), .list 3 1 (x.ds.length + 1) (fun a _ => .int .i64 ((x.ds ++ [s]).getD a 0)) (x.ds.length + 1 + 1), .list 24 1 x.ls.length (fun a _ => iRow (x.ls.getD a [])) (x.ls.length + 1)] := by
 have e : (x.ds ++ [s]).length = x.ds.length + 1 := by simp
 unfold rqO itO; dsimp only; rw [e]
theorem itA_d (x : Itm) (s : Int) (k : Nat) : itA { x with ds := x.ds ++ [s] } k = .agg 3 (tbl [.own k (x.ns.length + 1), .own (k + 1) (x.ds.length + 1 + 1), .own (k + 2) (x.ls.length + 1)]) := by
 have e : (x.ds ++ [s]).length = x.ds.length + 1 := by simp
 unfold itA; dsimp only; rw [e]
theorem rqO_l (zs : List ByteArray) (v : Nat) (x : Itm) (s : List Int) : rqO zs v { x with ls := x.ls ++ [s] } = [.list 9 1 zs.length (fun a _ => .str (zs.getD a bs0)) v, .list 9 1 x.ns.length (fun a _ => .str (x.ns.getD a bs0)) (x.ns.length + 1), .list 3 1 x.ds.length (fun a _ => .int .i64 (x.ds.getD a 0)) (x.ds.length + 1), .list 24 1 (x.ls.length + 1) (fun a _ => iRow ((x.ls ++ [s]).getD a [])) (x.ls.length + 1 + 1)] := by
 have e : (x.ls ++ [s]).length = x.ls.length + 1 := by simp
 unfold rqO itO; dsimp only; rw [e]
theorem itA_l (x : Itm) (s : List Int) (k : Nat) : itA { x with ls := x.ls ++ [s] } k = .agg 3 (tbl [.own k (x.ns.length + 1), .own (k + 1) (x.ds.length + 1), .own (k + 2) (x.ls.length + 1 + 1)]) := by
 have e : (x.ls ++ [s]).length = x.ls.length + 1 := by simp
 unfold itA; dsimp only; rw [e]
theorem push_sw {Q : List ByteArray} {x : ByteArray} {a : Nat} {g : Nat -> Nat -> AV} (hg : g 0 0 = .str x) (ha : a < Q.length + 1) : joinF Q.length (fun a _ => AV.str (Q.getD a bs0)) g a 0 = AV.str ((Q ++ [x]).getD a bs0) := by
 unfold joinF
 by_cases h : a < Q.length
 ·rw [if_pos h]; simp only [List.getD_eq_getElem?_getD, List.getElem?_append_left h]
 ·obtain rfl : a = Q.length := by omega
  rw [if_neg h, Nat.sub_self, hg]
  simp [List.getD_eq_getElem?_getD]
theorem push_lw {Q : List (List Int)} {x : List Int} {a : Nat} {g : Nat -> Nat -> AV} (hg : Le (g 0 0) (iRow x)) (ha : a < Q.length + 1) : Le (joinF Q.length (fun a _ => iRow (Q.getD a [])) g a 0) (iRow ((Q ++ [x]).getD a [])) := by
 unfold joinF
 by_cases h : a < Q.length
 ·rw [if_pos h]; simp only [List.getD_eq_getElem?_getD, List.getElem?_append_left h]; exact .refl _
 ·obtain rfl : a = Q.length := by omega
  rw [if_neg h, Nat.sub_self]
  simpa [List.getD_eq_getElem?_getD] using hg
theorem findI_sym {zs : List ByteArray} {s : ByteArray} : findI (fun i => decide (zs.getD i bs0 = s)) zs.length = findI (fun i => decide (s = zs.getD i bs0)) zs.length := by
 congr 1
 funext i
 exact decide_eq_decide.2 eq_comm
theorem nB_pos {s : ByteArray} (h : nB s = true) : 0 < s.data.toList.length := by
 obtain ⟨h1, _⟩ := num_some (num_is (show numB s.data.toList = true from h))
 rcases q : s.data.toList with _ | ⟨b, r⟩
 ·rw [q] at h1; exact absurd rfl h1
 ·simp
theorem neg_at {s : ByteArray} (h : 0 < s.data.toList.length) : (byteAt s 0 == 45) = negT s.data.toList := by
 rw [byte_at h, show (((s.data.toList[0].toNat : Int)) == 45) = decide (s.data.toList[0] = 45) from byte_beq (b := 45)]
 unfold negT
 rw [List.head?_eq_getElem?, List.getElem?_eq_getElem h]
 generalize s.data.toList[0] = b
 by_cases e : b = 45
 ·simp [e]
 ·simp [e]
theorem dB_two {s : ByteArray} (h : nB s = true) : dBy s = !(byteAt s 0 == 45) := by
 rw [neg_at (nB_pos h)]
 show (numB s.data.toList && !negT s.data.toList) = _
 rw [show numB s.data.toList = true from h]; rfl
theorem dB_none {s : ByteArray} (h : nB s = false) : dBy s = false := by
 show (numB s.data.toList && !negT s.data.toList) = _
 rw [show numB s.data.toList = false from h]; rfl
section
variable {W0 : World} {G : Nat -> Option AV} (hX : (Xc W0 G).Good) (hl : Laid W0)
include hX hl
theorem c44 (s : ByteArray) : Pure (Xc W0 G) 44 [.str s] (.str (formS s)) := by
 refine mut_of' hX (fnI Tryz.f44) rfl ?_
 repeat' (first
  | (refine Ax.go ?_; first | (with_reducible apply Alt.one))
  | exact Cl.go
  | ((fail_if_success refine Stop.go ?_); first | (with_reducible first | apply And.intro | apply Cut.go | (refine impI ?_; intro _)) | (refine propI ?_; conv => whnf)))
 all_goals try exact nbZ
 ·rename_i h0; rw [show formS s = ({ data := #[110, 100, 100] } : ByteArray) from by unfold formS; rw [if_pos (of_decide_eq_true h0)]]; exact .mk [] [] _ rfl (.le (.refl _)) trivial rfl
 ·rename_i h0 h1; rw [show formS s = ({ data := #[110] } : ByteArray) from by unfold formS; rw [if_neg (of_decide_eq_false h0), if_pos (of_decide_eq_true h1)]]; exact .mk [] [] _ rfl (.le (.refl _)) trivial rfl
 ·rename_i h0 h1 h2; rw [show formS s = ({ data := #[100] } : ByteArray) from by unfold formS; rw [if_neg (of_decide_eq_false h0), if_neg (of_decide_eq_false h1), if_pos (of_decide_eq_true h2)]]; exact .mk [] [] _ rfl (.le (.refl _)) trivial rfl
 ·rename_i h0 h1 h2 h3; rw [show formS s = ({ data := #[110, 100, 100, 108, 107, 100, 100, 100, 100, 100] } : ByteArray) from by unfold formS; rw [if_neg (of_decide_eq_false h0), if_neg (of_decide_eq_false h1), if_neg (of_decide_eq_false h2), if_pos (of_decide_eq_true h3)]]; exact .mk [] [] _ rfl (.le (.refl _)) trivial rfl
 ·rename_i h0 h1 h2 h3 h4; rw [show formS s = ({ data := #[110, 100] } : ByteArray) from by unfold formS; rw [if_neg (of_decide_eq_false h0), if_neg (of_decide_eq_false h1), if_neg (of_decide_eq_false h2), if_neg (of_decide_eq_false h3), if_pos (of_decide_eq_true h4)]]; exact .mk [] [] _ rfl (.le (.refl _)) trivial rfl
 ·rename_i h0 h1 h2 h3 h4; rw [show formS s = ({ data := #[122, 122, 100] } : ByteArray) from by unfold formS; rw [if_neg (of_decide_eq_false h0), if_neg (of_decide_eq_false h1), if_neg (of_decide_eq_false h2), if_neg (of_decide_eq_false h3), if_neg (of_decide_eq_false h4)]]; exact .mk [] [] _ rfl (.le (.refl _)) trivial rfl
theorem c102 (zs : List ByteArray) (s : ByteArray) (hs : Side (zs.length <= 1000)) : Pure (Xc W0 G) 102 [.agg 8 (tbl [.any, .any, .any, sRow zs, .any, .any, .any, .any]), .str s] (.int .i64 (findI (fun i => decide (s = zs.getD i bs0)) zs.length)) := by
 rw [<- findI_sym]
 have hs := hs.get
 refine mut_of' hX (fnI Tryz.f102) rfl ?_
 repeat' (first
  | (refine Ax.go ?_; first | (with_reducible apply Alt.one))
  | exact Cl.go
  | ((fail_if_success refine Stop.go ?_); first | (with_reducible first | apply And.intro | apply Cut.go | (refine impI ?_; intro _)) | (refine propI ?_; conv => whnf)))
 all_goals try exact nbZ
 refine ⟨Nat, fun i => ([(1, .str s), (2, .ptr 0 0), (5, .int .i64 (i : Nat))], [.box [.any, .any, .any, sRow zs, .any, .any, .any, .any]]), fun i => i <= zs.length /\ ∀ j : Nat, j < i -> (fun i => decide (zs.getD i bs0 = s)) j = false, fun i => zs.length - i, ⟨0, ⟨Nat.zero_le _, fun _ h => by omega⟩, .le ⟨rfl, ⟨.refl _, trivial⟩, rfZ⟩⟩, fun i ⟨hi, h0⟩ => ?_⟩
 repeat' (first
  | (refine Ax.go ?_; first | (with_reducible apply Alt.one))
  | exact Cl.go
  | ((fail_if_success refine Stop.go ?_); first | (with_reducible first | apply And.intro | apply Cut.go | (refine impI ?_; intro _)) | (refine propI ?_; conv => whnf)))
 all_goals first
  | exact .of (Nat.le_of_ble_eq_true rfl)
  | (rename_i h; have h := of_decide_eq_true h; exact .of ⟨by omega, by omega⟩)
  | (rename_i h; have h := of_decide_eq_false h; exact .mk [] [] _ rfl (.le (.intI ((findI_none (fun j hj => h0 j (by omega))).symm))) trivial rfl)
  | (rename_i h1 h; have h1 := of_decide_eq_true h1
     simp only [Int.toNat_natCast] at h
     first
      | exact .of ⟨by omega, by omega⟩
      | exact ⟨i + 1, ⟨by omega, all_lt h0 h⟩, by show zs.length - (i + 1) < zs.length - i; omega, .le ⟨rfl, ⟨.refl _, trivial⟩, rfZ⟩⟩
      | (exact .mk [] [] _ rfl (.le (.intI ((findI_hit (by omega) h0 h).symm))) trivial rfl))
theorem c45_n (zs : List ByteArray) (v : Nat) (x : Itm) (s : ByteArray) (hz : Side (zs.length <= 900)) (hx : Side (ItmOk x)) (hs : Side (s.size <= 600)) : Mut (Xc W0 G) 45 [.agg 8 (tbl [.any, .any, .any, .own 0 v, .any, .any, .any, .any]), itA x 1, .int .u8 110, .str s] (rqO zs v x) (.tup 2 (tbl [itA (rdX zs 110 x s) 1, .int .i64 (kE zs 110 s)])) (rqO zs v (rdX zs 110 x s)) := by
 refine mut_of' hX (fnI Tryz.f45) rfl ?_
 repeat' (first
  | (refine Ax.go ?_; first | (with_reducible apply callAlt (c101 hX s (Side.mk (by have := hs.get; omega)))) | (with_reducible apply Alt.one))
  | exact Cl.go
  | ((fail_if_success refine Stop.go ?_); first | rw [beqvv (x.ns.length + 1)] | (with_reducible first | apply And.intro | apply Cut.go | (refine impI ?_; intro _; try (first | (exfalso; rename_i hh; revert hh; decide)))) | (refine propI ?_; conv => whnf)))
 all_goals try exact nbZ
 all_goals try (exact Sc.of ⟨by decide, by decide⟩)
 all_goals try (have h6 := hx.get.n; exact Sc.of ⟨show (x.ns.length + (0 + 1)) * 16 <= 140737488355328 by omega, show x.ns.length + (0 + 1) <= 9223372036854775807 by omega⟩)
 ·rename_i q
  have q : nameB s = false := by revert q; cases nameB s <;> decide
  have e1 : kE zs 110 s = 4 := by rw [kE_n, q]; rfl
  rw [rdX_1 (by rw [e1]; decide), e1]
  exact .mk [] [] _ rfl (.le (.tups ⟨⟨trivial, .aggs (n := 3) ⟨⟨⟨trivial, .refl _⟩, .refl _⟩, .refl _⟩⟩, .refl _⟩)) ⟨.le (.refl _), .le (.refl _), .le (.refl _), .le (.refl _), trivial⟩ rfl
 ·rename_i q
  have q : nameB s = true := by revert q; cases nameB s <;> decide
  have e1 : kE zs 110 s = 0 := by rw [kE_n, q]; rfl
  rw [rdX_0 e1, e1, show addI zs 110 x s = { x with ns := x.ns ++ [s] } from rfl, itA_n, rqO_n]
  exact .mk [] [] _ rfl (.le (.tups ⟨⟨trivial, .aggs (n := 3) ⟨⟨⟨trivial, .refl _⟩, .refl _⟩, .refl _⟩⟩, .refl _⟩)) ⟨.le (.refl _), .le (.list fun a j ha hj => by replace hj : j < 1 := hj; (obtain rfl : j = 0 := (by omega)); exact Le.ofEq (push_sw rfl ha)), .le (.refl _), .le (.refl _), trivial⟩ rfl
theorem c45_d (zs : List ByteArray) (v : Nat) (x : Itm) (s : ByteArray) (hz : Side (zs.length <= 900)) (hx : Side (ItmOk x)) (hs : Side (s.size <= 600)) : Mut (Xc W0 G) 45 [.agg 8 (tbl [.any, .any, .any, .own 0 v, .any, .any, .any, .any]), itA x 1, .int .u8 100, .str s] (rqO zs v x) (.tup 2 (tbl [itA (rdX zs 100 x s) 1, .int .i64 (kE zs 100 s)])) (rqO zs v (rdX zs 100 x s)) := by
 refine mut_of' hX (fnI Tryz.f45) rfl ?_
 repeat' (first
  | (refine Ax.go ?_; first | (with_reducible apply callAlt (c32 hX s (Side.mk (by have := hs.get; omega)))) | (with_reducible apply Alt.one))
  | exact Cl.go
  | ((fail_if_success refine Stop.go ?_); first | rw [beqvv (x.ds.length + 1)] | (with_reducible first | apply And.intro | apply Cut.go | (refine impI ?_; intro _; try (first | (exfalso; rename_i hh; revert hh; decide)))) | (refine propI ?_; conv => whnf)))
 all_goals try exact nbZ
 all_goals try (exact Sc.of ⟨by decide, by decide⟩)
 all_goals try (have h6 := hx.get.d; exact Sc.of ⟨show (x.ds.length + (0 + 1)) * 8 <= 140737488355328 by omega, show x.ds.length + (0 + 1) <= 9223372036854775807 by omega⟩)
 all_goals try ((with_reducible refine (?_ : Sc (some _) _)); refine Sc.imp fun w => ?_; have w : nB s = true := by revert w; cases nB s <;> decide
                have := nB_pos w; have := size_len s; exact ⟨by decide, by omega⟩)
 ·rename_i q
  have d : dBy s = false := by
   cases w : nB s with
   | false => exact dB_none w
   | true => rw [dB_two w]; rw [w] at q; revert q; generalize hb : (byteAt s 0 == 45) = b; intro q; revert q; show (bif !true then true else byteAt s 0 == 45) = true -> _; rw [hb]; cases b <;> decide
  have e1 : kE zs 100 s = 7 := by rw [kE_d, d]; rfl
  rw [rdX_1 (by rw [e1]; decide), e1]
  exact .mk [] [] _ rfl (.le (.tups ⟨⟨trivial, .aggs (n := 3) ⟨⟨⟨trivial, .refl _⟩, .refl _⟩, .refl _⟩⟩, .refl _⟩)) ⟨.le (.refl _), .le (.refl _), .le (.refl _), .le (.refl _), trivial⟩ rfl
 ·rename_i q
  have w : nB s = true := by revert q; cases nB s <;> intro q; exact absurd (show true = false from q) (by decide); rfl
  have d : dBy s = true := by
   rw [dB_two w]; rw [w] at q; revert q; show (bif !true then true else byteAt s 0 == 45) = false -> _; generalize (byteAt s 0 == 45) = b; cases b <;> decide
  have e1 : kE zs 100 s = 0 := by rw [kE_d, d]; rfl
  have e2 : nV s = vT s.data.toList := (vT_eq (show dT s.data.toList = true from d)).symm
  rw [rdX_0 e1, e1, show addI zs 100 x s = { x with ds := x.ds ++ [vT s.data.toList] } from rfl, itA_d, rqO_d, <- e2]
  exact .mk [] [] _ rfl (.le (.tups ⟨⟨trivial, .aggs (n := 3) ⟨⟨⟨trivial, .refl _⟩, .refl _⟩, .refl _⟩⟩, .refl _⟩)) ⟨.le (.refl _), .le (.refl _), .le (.list fun a j ha hj => by replace hj : j < 1 := hj; (obtain rfl : j = 0 := (by omega)); exact Le.ofEq (push_iw rfl ha)), .le (.refl _), trivial⟩ rfl
end
end Go.Fx
/-
 The reference's tariffs: kinds of days.
-/
namespace Go.Fx
open Go.Proofs Go.RowKit
def dgB (s : ByteArray) (j : Nat) : Bool := bif decide (48 <= byteAt s j) then decide (byteAt s j <= 55) else false
theorem byte_of {s : ByteArray} {j : Nat} (h : j < s.size) : byteAt s j = ((s[j]'h).toNat : Int) := by
 unfold byteAt
 have h' : j < s.data.size := h
 rw [Array.getElem?_eq_getElem h']; rfl
theorem dayI_at {s : ByteArray} {pos : Nat} (h : pos < s.size) : dayI ((Utf8.decode s pos).1 : Nat) = dgB s pos := by
 have e := byte_of h
 by_cases ha : (s[pos]'h).toNat < 128
 ·rw [Go.decode_ascii s pos h ha]; unfold dayI dgB; rw [e]
 ·have k := (Go.decode_high s pos h (by omega)).1
  have a : dayI ((Utf8.decode s pos).1 : Nat) = false := by unfold dayI; rw [show decide ((((Utf8.decode s pos).1 : Nat) : Int) <= 55) = false from decide_eq_false (by omega)]; cases decide (48 <= (((Utf8.decode s pos).1 : Nat) : Int)) <;> rfl
  have b : dgB s pos = false := by unfold dgB; rw [e, show decide ((((s[pos]'h).toNat : Nat) : Int) <= 55) = false from decide_eq_false (by omega)]; cases decide (48 <= (((s[pos]'h).toNat : Nat) : Int)) <;> rfl
  rw [a, b]
theorem dec_dg {s : ByteArray} {pos : Nat} (h : pos < s.size) (hd : dgB s pos = true) : Utf8.decode s pos = ((byteAt s pos).toNat, 1) := by
 have e := byte_of h
 have ha : (s[pos]'h).toNat < 128 := by
  unfold dgB at hd
  by_cases q : byteAt s pos <= 55
  ·omega
  ·rw [decide_eq_false q] at hd; cases hd2 : decide (48 <= byteAt s pos) <;> rw [hd2] at hd <;> cases hd
 rw [Go.decode_ascii s pos h ha, e]; rfl
theorem run_dg {s : ByteArray} : ∀ {i : Nat}, i <= s.size -> (∀ j, j < i -> dgB s j = true) -> runR s 0 = (List.range i).map (fun q => (byteAt s q).toNat) ++ runR s i
 | 0, _, _ => rfl
 | i + 1, hi, h => by
  rw [run_dg (i := i) (by omega) (fun j hj => h j (by omega)), runR_1 (show i < s.size by omega), dec_dg (show i < s.size by omega) (h i (by omega)), List.range_succ, List.map_append]
  simp
theorem ix_bad {s : ByteArray} {i : Nat} (hi : i < s.size) (h : ∀ j, j < i -> dgB s j = true) (hb : dgB s i = false) : decide (ixR s 0 < 0) = false := by
 rw [ixR_day s s.size 0 (by omega), run_dg (Nat.le_of_lt hi) h, runR_1 hi, List.all_append, List.all_cons, dayI_at hi, hb]
 simp
theorem ix_all {s : ByteArray} (h : ∀ j, j < s.size -> dgB s j = true) : decide (ixR s 0 < 0) = true := by
 rw [ixR_day s s.size 0 (by omega), run_dg (Nat.le_refl _) h, runR_0 (by omega), List.append_nil, List.all_eq_true]
 intro d hd
 obtain ⟨q, hq, rfl⟩ := List.mem_map.1 hd
 have hq := List.mem_range.1 hq
 have k := h q hq
 have e := byte_of hq
 unfold dgB at k
 unfold dayI
 rw [show (((byteAt s q).toNat : Nat) : Int) = byteAt s q by omega]
 exact k
theorem dayL_dg {s : ByteArray} (h : ∀ j, j < s.size -> dgB s j = true) : dayL s = (List.range s.size).map fun q => byteAt s q - 48 := by
 unfold dayL
 rw [run_dg (Nat.le_refl _) h, runR_0 (by omega), List.append_nil, List.map_map]
 refine List.map_congr_left fun q hq => ?_
 have e := byte_of (List.mem_range.1 hq)
 show (((byteAt s q).toNat : Nat) : Int) - 48 = _
 omega
theorem dg_F {s : ByteArray} {i : Nat} (h : (bif decide (byteAt s i < 48) then true else decide (55 < byteAt s i)) = false) : dgB s i = true := by
 unfold dgB
 by_cases a : byteAt s i < 48
 ·rw [decide_eq_true a] at h; cases h
 ·rw [decide_eq_false a] at h
  have b := of_decide_eq_false (show decide (55 < byteAt s i) = false from h)
  rw [decide_eq_true (show 48 <= byteAt s i by omega), decide_eq_true (show byteAt s i <= 55 by omega)]; rfl
theorem dg_T {s : ByteArray} {i : Nat} (h : (bif decide (byteAt s i < 48) then true else decide (55 < byteAt s i)) = true) : dgB s i = false := by
 unfold dgB
 by_cases a : byteAt s i < 48
 ·rw [decide_eq_false (show ¬ 48 <= byteAt s i by omega)]; rfl
 ·rw [decide_eq_false a] at h
  have b := of_decide_eq_true (show decide (55 < byteAt s i) = true from h)
  rw [decide_eq_true (show 48 <= byteAt s i by omega), decide_eq_false (show ¬ byteAt s i <= 55 by omega)]; rfl
theorem dg_rng {s : ByteArray} {i : Nat} (h : dgB s i = true) : 48 <= byteAt s i /\ byteAt s i <= 55 := by
 unfold dgB at h
 by_cases a : 48 <= byteAt s i
 ·rw [decide_eq_true a] at h; exact ⟨a, of_decide_eq_true (show decide (byteAt s i <= 55) = true from h)⟩
 ·rw [decide_eq_false a] at h; cases h
section
variable {W0 : World} {G : Nat -> Option AV} (hX : (Xc W0 G).Good) (hl : Laid W0)
include hX hl
theorem c45_k (zs : List ByteArray) (v : Nat) (x : Itm) (s : ByteArray) (hz : Side (zs.length <= 900)) (hx : Side (ItmOk x)) (hs : Side (s.size <= 600)) : Mut (Xc W0 G) 45 [.agg 8 (tbl [.any, .any, .any, .own 0 v, .any, .any, .any, .any]), itA x 1, .int .u8 107, .str s] (rqO zs v x) (.tup 2 (tbl [itA (rdX zs 107 x s) 1, .int .i64 (kE zs 107 s)])) (rqO zs v (rdX zs 107 x s)) := by
 have hs6 := hs.get
 refine mut_of' hX (fnI Tryz.f45) rfl ?_
 repeat' (first
  | (refine Ax.go ?_; first | (with_reducible apply Alt.one))
  | exact Cl.go
  | ((fail_if_success refine Stop.go ?_); (fail_if_success with_reducible refine (?_ : Cut _ _)); first | (with_reducible first | apply And.intro | (refine impI ?_; intro _; try (first | (exfalso; rename_i hh; revert hh; decide)))) | (refine propI ?_; conv => whnf)))
 all_goals try exact nbZ
 refine Cut.go ?_
 repeat' (first
  | (refine Ax.go ?_; first | (with_reducible apply Alt.one))
  | exact Cl.go
  | ((fail_if_success refine Stop.go ?_); (fail_if_success with_reducible refine (?_ : Cut _ _)); first | (with_reducible first | apply And.intro | (refine impI ?_; intro _; try (first | (exfalso; rename_i hh; revert hh; decide)))) | (refine propI ?_; conv => whnf)))
 all_goals try exact nbZ
 refine .cut ⟨Unit, fun _ => ([(5, .ptr 5 0), (8, .ptr 6 0), (12, iRow (dayL s))], rqO zs v x ++ [.box [.any, .any, .any, .own 0 v, .any, .any, .any, .any], .box [.own 1 (x.ns.length + 1), .own 2 (x.ds.length + 1), .own 3 (x.ls.length + 1)], .box [.slc0, .slc0, .slc0]]), fun _ => kE zs 107 s = 0, ?_, fun _ e1 => ?_⟩
 ·skip
  repeat' (first
   | (refine Ax.go ?_; first | (with_reducible apply Alt.one))
   | exact Cl.go
   | ((fail_if_success refine Stop.go ?_); (fail_if_success with_reducible refine (?_ : Cut _ _)); first | (with_reducible first | apply And.intro | (refine impI ?_; intro _; try (first | (exfalso; rename_i hh; revert hh; decide)))) | (refine propI ?_; conv => whnf)))
  all_goals try exact nbZ
  refine ⟨Nat, fun i => match i with | 0 => ([(3, .str s), (5, .ptr 5 0), (8, .ptr 6 0), (12, .slc0), (13, .int .i64 ((0 : Nat) : Int))], rqO zs v x ++ [.box [.any, .any, .any, .own 0 v, .any, .any, .any, .any], .box [.own 1 (x.ns.length + 1), .own 2 (x.ds.length + 1), .own 3 (x.ls.length + 1)], .box [.slc0, .slc0, .slc0]]) | i + 1 => ([(3, .str s), (5, .ptr 5 0), (8, .ptr 6 0), (12, .own 7 (i + 1)), (13, .int .i64 ((i + 1 : Nat) : Int))], rqO zs v x ++ [.box [.any, .any, .any, .own 0 v, .any, .any, .any, .any], .box [.own 1 (x.ns.length + 1), .own 2 (x.ds.length + 1), .own 3 (x.ls.length + 1)], .box [.slc0, .slc0, .slc0], .list 3 1 (i + 1) (fun a _ => .int .i64 (byteAt s a - 48)) (i + 1)]), fun i => i <= s.size /\ ∀ j, j < i -> dgB s j = true, fun i => s.size - i, ⟨0, ⟨Nat.zero_le _, fun _ h => by omega⟩, .le ⟨rfl, rfZ, rfZ⟩⟩, fun i hi => ?_⟩
  rcases i with _ | i
  ·obtain ⟨h1, h2⟩ : 0 <= s.size /\ ∀ j, j < 0 -> dgB s j = true := hi
   repeat' (first
    | (refine Ax.go ?_; first | (with_reducible apply Alt.one))
    | exact Cl.go
    | ((fail_if_success refine Stop.go ?_); first | (with_reducible first | apply And.intro | apply Cut.go | (refine impI ?_; intro _)) | (refine propI ?_; conv => whnf)))
   all_goals try exact nbZ
   ·rename_i q; have q := of_decide_eq_true q; exact .of ⟨by omega, by omega⟩
   ·rename_i q; have q := of_decide_eq_true q; exact Sc.imp fun _ => ⟨by omega, by omega⟩
   ·rename_i q q2; have q := of_decide_eq_true q
    have b := dg_T (s := s) (i := 0) q2
    have e1 : kE zs 107 s = 7 := by rw [kE_k, ix_bad (by omega) h2 b]; rfl
    rw [rdX_1 (by rw [e1]; decide), e1]
    exact .mk [] [] _ rfl (.le (.tups ⟨⟨trivial, .aggs (n := 3) ⟨⟨⟨trivial, .refl _⟩, .refl _⟩, .refl _⟩⟩, .refl _⟩)) ⟨.le (.refl _), .le (.refl _), .le (.refl _), .le (.refl _), trivial⟩ rfl
   ·rename_i q _; have q := of_decide_eq_true q; exact .of ⟨by omega, by omega⟩
   ·rename_i q q2; have b := dg_rng (dg_F (s := s) (i := 0) q2); exact .of ⟨by show (0 : Int) <= byteAt s 0 - 48; omega, by show byteAt s 0 - 48 <= 255; omega⟩
   ·rename_i q q2; have b := dg_rng (dg_F (s := s) (i := 0) q2); exact .of ⟨by show (-9223372036854775808 : Int) <= byteAt s 0 - 48; omega, by show byteAt s 0 - 48 <= 9223372036854775807; omega⟩
   ·exact Sc.of ⟨show (0 + 1) * 8 <= 140737488355328 by omega, show 0 + 1 <= 9223372036854775807 by omega⟩
   ·exact .of ⟨by show (-9223372036854775808 : Int) <= ((0 : Nat) : Int) + 1; omega, by show ((0 : Nat) : Int) + 1 <= 9223372036854775807; omega⟩
   ·rename_i q q2; have q := of_decide_eq_true q
    have b := dg_F (s := s) (i := 0) q2
    exact ⟨0 + 1, ⟨by show 0 + 1 <= s.size; omega, all_lt h2 b⟩, by show s.size - (0 + 1) < s.size - 0; omega, .le ⟨rfl, ⟨.refl _, .refl _, .refl _, .refl _, .refl _, .refl _, .refl _, .list (fun a j ha hj => by replace hj : j < 1 := hj; (obtain rfl : j = 0 := (by omega)); (replace ha : a < 1 := ha); (obtain rfl : a = 0 := (by omega)); exact .refl _), trivial⟩, rfZ⟩⟩
   ·rename_i q; have q := of_decide_eq_false q
    have a : ∀ j, j < s.size -> dgB s j = true := fun j hj => h2 j (by omega)
    have e2 := dayL_dg a
    refine ⟨(), by rw [kE_k, ix_all a]; rfl, ?_⟩
    have e3 : dayL s = [] := by rw [e2, show s.size = 0 by omega]; rfl
    show StTo _ _ _ [(5, .ptr 5 0), (8, .ptr 6 0), (12, iRow (dayL s))] (rqO zs v x ++ [.box [.any, .any, .any, .own 0 v, .any, .any, .any, .any], .box [.own 1 (x.ns.length + 1), .own 2 (x.ds.length + 1), .own 3 (x.ls.length + 1)], .box [.slc0, .slc0, .slc0]])
    rw [e3]
    exact .le ⟨rfl, rfZ, ⟨.refl _, .refl _, Le.slc0 1 _, trivial⟩⟩
  ·obtain ⟨h1, h2⟩ : i + 1 <= s.size /\ ∀ j, j < i + 1 -> dgB s j = true := hi
   repeat' (first
    | (refine Ax.go ?_; first | (with_reducible apply Alt.one))
    | exact Cl.go
    | ((fail_if_success refine Stop.go ?_); first | rw [beqvv (i + 1)] | (with_reducible first | apply And.intro | apply Cut.go | (refine impI ?_; intro _)) | (refine propI ?_; conv => whnf)))
   all_goals try exact nbZ
   ·rename_i q; have q := of_decide_eq_true q; exact .of ⟨by omega, by omega⟩
   ·rename_i q; have q := of_decide_eq_true q; exact Sc.imp fun _ => ⟨by omega, by omega⟩
   ·rename_i q q2; have q := of_decide_eq_true q
    have b := dg_T (s := s) (i := (i + 1)) q2
    have e1 : kE zs 107 s = 7 := by rw [kE_k, ix_bad (by omega) h2 b]; rfl
    rw [rdX_1 (by rw [e1]; decide), e1]
    exact .mk [] [] _ rfl (.le (.tups ⟨⟨trivial, .aggs (n := 3) ⟨⟨⟨trivial, .refl _⟩, .refl _⟩, .refl _⟩⟩, .refl _⟩)) ⟨.le (.refl _), .le (.refl _), .le (.refl _), .le (.refl _), trivial⟩ rfl
   ·rename_i q _; have q := of_decide_eq_true q; exact .of ⟨by omega, by omega⟩
   ·rename_i q q2; have b := dg_rng (dg_F (s := s) (i := (i + 1)) q2); exact .of ⟨by show (0 : Int) <= byteAt s (i + 1) - 48; omega, by show byteAt s (i + 1) - 48 <= 255; omega⟩
   ·rename_i q q2; have b := dg_rng (dg_F (s := s) (i := (i + 1)) q2); exact .of ⟨by show (-9223372036854775808 : Int) <= byteAt s (i + 1) - 48; omega, by show byteAt s (i + 1) - 48 <= 9223372036854775807; omega⟩
   ·exact Sc.of ⟨show (i + 1 + (0 + 1)) * 8 <= 140737488355328 by omega, show i + 1 + (0 + 1) <= 9223372036854775807 by omega⟩
   ·exact .of ⟨by show (-9223372036854775808 : Int) <= (((i + 1) : Nat) : Int) + 1; omega, by show (((i + 1) : Nat) : Int) + 1 <= 9223372036854775807; omega⟩
   ·rename_i q q2; have q := of_decide_eq_true q
    have b := dg_F (s := s) (i := (i + 1)) q2
    exact ⟨(i + 1) + 1, ⟨by show (i + 1) + 1 <= s.size; omega, all_lt h2 b⟩, by show s.size - ((i + 1) + 1) < s.size - (i + 1); omega, .le ⟨rfl, ⟨.refl _, .refl _, .refl _, .refl _, .refl _, .refl _, .refl _, .list (fun a j ha hj => by replace hj : j < 1 := hj; (obtain rfl : j = 0 := (by omega)); exact Le.ofEq (push_f (f := fun a => byteAt s a - 48) rfl ha)), trivial⟩, rfZ⟩⟩
   ·rename_i q; have q := of_decide_eq_false q
    have a : ∀ j, j < s.size -> dgB s j = true := fun j hj => h2 j (by omega)
    have e2 := dayL_dg a
    refine ⟨(), by rw [kE_k, ix_all a]; rfl, ?_⟩
    have e3 : (dayL s).length = i + 1 := by rw [e2]; simp; omega
    have e4 : ∀ a, a < i + 1 -> byteAt s a - 48 = (dayL s).getD a 0 := fun a ha => by rw [e2]; simp [List.getD_eq_getElem?_getD, show a < s.size by omega]
    refine .fr [4, 5, 6] [7] rfl ⟨.le (.refl _), .le (.refl _), .le (.refl _), .le (.refl _), .le (.refl _), .le (.refl _), .le (.refl _), trivial⟩ ⟨.le (.refl _), .le (.refl _), ?_, trivial⟩
    show LeH _ (.own 7 (i + 1)) (.slc 1 (dayL s).length _)
    rw [e3]
    exact .own rfl fun a j ha hj => Le.intI (e4 a ha)
 ·skip
  repeat' (first
   | (refine Ax.go ?_; first | (with_reducible apply Alt.one))
   | exact Cl.go
   | ((fail_if_success refine Stop.go ?_); (fail_if_success with_reducible refine (?_ : Cut _ _)); first | rw [beqvv (x.ls.length + 1)] | (with_reducible first | apply And.intro | (refine impI ?_; intro _; try (first | (exfalso; rename_i hh; revert hh; decide)))) | (refine propI ?_; conv => whnf)))
  all_goals try exact nbZ
  ·have h6 := hx.get.l; exact Sc.of ⟨show (x.ls.length + (0 + 1)) * 24 <= 140737488355328 by omega, show x.ls.length + (0 + 1) <= 9223372036854775807 by omega⟩
  ·rw [rdX_0 e1, e1, show addI zs 107 x s = { x with ls := x.ls ++ [dayL s] } from rfl, itA_l, rqO_l]
   exact .mk [] [] _ rfl (.le (.tups ⟨⟨trivial, .aggs (n := 3) ⟨⟨⟨trivial, .refl _⟩, .refl _⟩, .refl _⟩⟩, .refl _⟩)) ⟨.le (.refl _), .le (.refl _), .le (.refl _), .le (.list fun a j ha hj => by replace hj : j < 1 := hj; (obtain rfl : j = 0 := (by omega)); exact push_lw (.refl _) ha), trivial⟩ rfl
end
end Go.Fx
/-
 The reference's tariffs: zones.
-/
namespace Go.Fx
open Go.Proofs Go.RowKit
theorem zonC_4 {zs : List ByteArray} {P : ByteArray -> List ByteArray} {s : ByteArray} (h : decide (0 <= wrI (P s)) = true) : zonC zs P s = 4 := by unfold zonC; rw [h]; rfl
theorem zonC_6 {zs : List ByteArray} {P : ByteArray -> List ByteArray} {s : ByteArray} (h : decide (0 <= wrI (P s)) = false) (h2 : decide (0 <= miI zs (P s)) = true) : zonC zs P s = 6 := by unfold zonC; rw [h, h2]; rfl
theorem zonC_0 {zs : List ByteArray} {P : ByteArray -> List ByteArray} {s : ByteArray} (h : decide (0 <= wrI (P s)) = false) (h2 : decide (0 <= miI zs (P s)) = false) : zonC zs P s = 0 := by unfold zonC; rw [h, h2]; rfl
theorem wrI_hit {l : List ByteArray} {i : Nat} (hi : i < l.length) (h : nameB (l.getD i bs0) = false) : decide (0 <= wrI l) = true := by
 unfold wrI; rw [findI_ge]; exact any_hit (p := fun i => !nameB (l.getD i bs0)) hi (by show (!nameB (l.getD i bs0)) = true; rw [h]; rfl)
theorem wrI_none {l : List ByteArray} (h : ∀ j, j < l.length -> nameB (l.getD j bs0) = true) : decide (0 <= wrI l) = false := by
 unfold wrI; rw [findI_ge]; exact any_none (p := fun i => !nameB (l.getD i bs0)) fun j hj => by show (!nameB (l.getD j bs0)) = false; rw [h j hj]; rfl
theorem miI_hit {zs l : List ByteArray} {i : Nat} (hi : i < l.length) (h : hasB zs zs.length (l.getD i bs0) = false) : decide (0 <= miI zs l) = true := by
 unfold miI; rw [findI_ge]; exact any_hit (p := fun i => !hasB zs zs.length (l.getD i bs0)) hi (by show (!hasB zs zs.length (l.getD i bs0)) = true; rw [h]; rfl)
theorem miI_none {zs l : List ByteArray} (h : ∀ j, j < l.length -> hasB zs zs.length (l.getD j bs0) = true) : decide (0 <= miI zs l) = false := by
 unfold miI; rw [findI_ge]; exact any_none (p := fun i => !hasB zs zs.length (l.getD i bs0)) fun j hj => by show (!hasB zs zs.length (l.getD j bs0)) = false; rw [h j hj]; rfl
theorem zon_at {zs l : List ByteArray} {i : Nat} (hi : i < l.length) : findI (fun q => decide (l.getD i bs0 = zs.getD q bs0)) zs.length = (zonL zs l).getD i 0 := by
 unfold zonL; simp [List.getD_eq_getElem?_getD, hi]
theorem zon_neg {zs : List ByteArray} {z : ByteArray} (h : decide (findI (fun q => decide (z = zs.getD q bs0)) zs.length < 0) = true) : hasB zs zs.length z = false := by
 rw [<- has_find]; exact decide_eq_false (by have := of_decide_eq_true h; omega)
theorem zon_pos {zs : List ByteArray} {z : ByteArray} (h : decide (findI (fun q => decide (z = zs.getD q bs0)) zs.length < 0) = false) : hasB zs zs.length z = true := by
 rw [<- has_find]; exact decide_eq_true (by have := of_decide_eq_false h; omega)
section
variable {W0 : World} {G : Nat -> Option AV} (hX : (Xc W0 G).Good) (hl : Laid W0)
include hX hl
theorem c45_z (zs : List ByteArray) (v : Nat) (x : Itm) (s : ByteArray) (hz : Side (zs.length <= 900)) (hx : Side (ItmOk x)) (hs : Side (s.size <= 600)) : Mut (Xc W0 G) 45 [.agg 8 (tbl [.any, .any, .any, .own 0 v, .any, .any, .any, .any]), itA x 1, .int .u8 122, .str s] (rqO zs v x) (.tup 2 (tbl [itA (rdX zs 122 x s) 1, .int .i64 (kE zs 122 s)])) (rqO zs v (rdX zs 122 x s)) := by
 have hs6 := hs.get
 have hpl := (one_len s (by omega)).1
 refine mut_of' hX (fnI Tryz.f45) rfl ?_
 repeat' (first
  | (refine Ax.go ?_; first | (with_reducible apply Alt.one))
  | exact Cl.go
  | ((fail_if_success refine Stop.go ?_); (fail_if_success with_reducible refine (?_ : Cut _ _)); first | (with_reducible first | apply And.intro | (refine impI ?_; intro _; try (first | (exfalso; rename_i hh; revert hh; decide)))) | (refine propI ?_; conv => whnf)))
 all_goals try exact nbZ
 refine Cut.go ?_
 repeat' (first
  | (refine Ax.go ?_; first | (with_reducible apply callAlt (c31 hX s 44 (Side.mk (by have := hs.get; omega)))) | (with_reducible apply Alt.one))
  | exact Cl.go
  | ((fail_if_success refine Stop.go ?_); (fail_if_success with_reducible refine (?_ : Cut _ _)); first | (with_reducible first | apply And.intro | (refine impI ?_; intro _; try (first | (exfalso; rename_i hh; revert hh; decide)))) | (refine propI ?_; conv => whnf)))
 all_goals try exact nbZ
 refine Cut.go ?_
 repeat' (first
  | (refine Ax.go ?_; first | (with_reducible apply callAlt (c31 hX s 44 (Side.mk (by have := hs.get; omega)))) | (with_reducible apply Alt.one))
  | exact Cl.go
  | ((fail_if_success refine Stop.go ?_); (fail_if_success with_reducible refine (?_ : Cut _ _)); first | (with_reducible first | apply And.intro | (refine impI ?_; intro _; try (first | (exfalso; rename_i hh; revert hh; decide)))) | (refine propI ?_; conv => whnf)))
 all_goals try exact nbZ
 refine .cut ⟨Unit, fun _ => ([(4, .ptr 4 0), (5, .ptr 5 0), (8, .ptr 6 0), (14, sRow (oneP s))], rqO zs v x ++ ([.box [.any, .any, .any, .own 0 v, .any, .any, .any, .any], .box [.own 1 (x.ns.length + 1), .own 2 (x.ds.length + 1), .own 3 (x.ls.length + 1)], .box [.slc0, .slc0, .slc0]] : List HObj)), fun _ => decide (0 <= wrI (oneP s)) = false, ?_, fun _ e1 => ?_⟩
 ·skip
  repeat' (first
   | (refine Ax.go ?_; first | (with_reducible apply Alt.one))
   | exact Cl.go
   | ((fail_if_success refine Stop.go ?_); (fail_if_success with_reducible refine (?_ : Cut _ _)); first | (with_reducible first | apply And.intro | (refine impI ?_; intro _; try (first | (exfalso; rename_i hh; revert hh; decide)))) | (refine propI ?_; conv => whnf)))
  all_goals try exact nbZ
  refine ⟨Nat, fun i => ([(4, .ptr 4 0), (5, .ptr 5 0), (8, .ptr 6 0), (14, sRow (oneP s)), (15, .int .i64 (i : Nat))], rqO zs v x ++ ([.box [.any, .any, .any, .own 0 v, .any, .any, .any, .any], .box [.own 1 (x.ns.length + 1), .own 2 (x.ds.length + 1), .own 3 (x.ls.length + 1)], .box [.slc0, .slc0, .slc0]] : List HObj)), fun i => i <= (oneP s).length /\ ∀ j, j < i -> nameB ((oneP s).getD j bs0) = true, fun i => (oneP s).length - i, ⟨0, ⟨Nat.zero_le _, fun _ h => by omega⟩, .le ⟨rfl, rfZ, ⟨.refl _, .refl _, .refl _, .slcN rfl (fun i j hi hj => by replace hi : i < 1 := hi; replace hj : j < 1 := hj; (obtain rfl : i = 0 := (by omega)); (obtain rfl : j = 0 := (by omega)); exact .refl _), .refl _, trivial⟩⟩⟩, fun i hi => ?_⟩
  obtain ⟨h1, h2⟩ := hi
  repeat' (first
   | (refine Ax.go ?_; first | (with_reducible apply callAlt (c101 hX ((oneP s).getD i bs0) ?_)) | (with_reducible apply Alt.one))
   | exact Cl.go
   | ((fail_if_success refine Stop.go ?_); first | (with_reducible first | apply And.intro | apply Cut.go | (refine impI ?_; intro _)) | (refine propI ?_; conv => whnf)))
  all_goals try exact nbZ
  ·rename_i q; have q := of_decide_eq_true q; exact .of ⟨by omega, by omega⟩
  ·rename_i q q2; have q := of_decide_eq_true q
   have w : nameB ((oneP s).getD i bs0) = false := by revert q2; cases nameB ((oneP s).getD i bs0) <;> decide
   have e0 : kE zs 122 s = 4 := by rw [kE_z, zonC_4 (wrI_hit (show i < (oneP s).length by omega) w)]
   rw [rdX_1 (by rw [e0]; decide), e0]
   exact .mk [] [] _ rfl (.le (.tups ⟨⟨trivial, .aggs (n := 3) ⟨⟨⟨trivial, .refl _⟩, .refl _⟩, .refl _⟩⟩, .refl _⟩)) ⟨.le (.refl _), .le (.refl _), .le (.refl _), .le (.refl _), trivial⟩ rfl
  ·exact .of ⟨by show (-9223372036854775808 : Int) <= ((i : Nat) : Int) + 1; omega, by show ((i : Nat) : Int) + 1 <= 9223372036854775807; omega⟩
  ·rename_i q q2; have q := of_decide_eq_true q
   have w : nameB ((oneP s).getD i bs0) = true := by revert q2; cases nameB ((oneP s).getD i bs0) <;> decide
   exact ⟨i + 1, ⟨by show i + 1 <= (oneP s).length; omega, all_lt h2 w⟩, by show (oneP s).length - (i + 1) < (oneP s).length - i; omega, .le ⟨rfl, rfZ, rfZ⟩⟩
  ·exact Side.mk ((one_len s (by omega)).2 i)
  ·rename_i q; have q := of_decide_eq_false q
   exact ⟨(), wrI_none fun j hj => h2 j (by omega), .le ⟨rfl, rfZ, rfZ⟩⟩
 ·skip
  repeat' (first
   | (refine Ax.go ?_; first | (with_reducible apply Alt.one))
   | exact Cl.go
   | ((fail_if_success refine Stop.go ?_); (fail_if_success with_reducible refine (?_ : Cut _ _)); first | (with_reducible first | apply And.intro | (refine impI ?_; intro _; try (first | (exfalso; rename_i hh; revert hh; decide)))) | (refine propI ?_; conv => whnf)))
  all_goals try exact nbZ
  refine .cut ⟨Unit, fun _ => ([(5, .ptr 5 0), (8, .ptr 6 0), (16, iRow (zonL zs (oneP s)))], rqO zs v x ++ [.box [.any, .any, .any, .own 0 v, .any, .any, .any, .any], .box [.own 1 (x.ns.length + 1), .own 2 (x.ds.length + 1), .own 3 (x.ls.length + 1)], .box [.slc0, .slc0, .slc0]]), fun _ => kE zs 122 s = 0, ?_, fun _ e2 => ?_⟩
  ·skip
   repeat' (first
    | (refine Ax.go ?_; first | (with_reducible apply Alt.one))
    | exact Cl.go
    | ((fail_if_success refine Stop.go ?_); (fail_if_success with_reducible refine (?_ : Cut _ _)); first | (with_reducible first | apply And.intro | (refine impI ?_; intro _; try (first | (exfalso; rename_i hh; revert hh; decide)))) | (refine propI ?_; conv => whnf)))
   all_goals try exact nbZ
   refine ⟨Nat, fun i => match i with | 0 => ([(4, .ptr 4 0), (5, .ptr 5 0), (8, .ptr 6 0), (14, sRow (oneP s)), (16, .slc0), (17, .int .i64 ((0 : Nat) : Int))], rqO zs v x ++ [.box [.any, .any, .any, .own 0 v, .any, .any, .any, .any], .box [.own 1 (x.ns.length + 1), .own 2 (x.ds.length + 1), .own 3 (x.ls.length + 1)], .box [.slc0, .slc0, .slc0]]) | i + 1 => ([(4, .ptr 4 0), (5, .ptr 5 0), (8, .ptr 6 0), (14, sRow (oneP s)), (16, .own 7 (i + 1)), (17, .int .i64 ((i + 1 : Nat) : Int))], rqO zs v x ++ [.box [.any, .any, .any, .own 0 v, .any, .any, .any, .any], .box [.own 1 (x.ns.length + 1), .own 2 (x.ds.length + 1), .own 3 (x.ls.length + 1)], .box [.slc0, .slc0, .slc0], .list 3 1 (i + 1) (fun a _ => .int .i64 ((zonL zs (oneP s)).getD a 0)) (i + 1)]), fun i => i <= (oneP s).length /\ ∀ j, j < i -> hasB zs zs.length ((oneP s).getD j bs0) = true, fun i => (oneP s).length - i, ⟨0, ⟨Nat.zero_le _, fun _ h => by omega⟩, .le ⟨rfl, rfZ, rfZ⟩⟩, fun i hi => ?_⟩
   rcases i with _ | i
   ·obtain ⟨h1, h2⟩ : 0 <= (oneP s).length /\ ∀ j, j < 0 -> hasB zs zs.length ((oneP s).getD j bs0) = true := hi
    repeat' (first
     | (refine Ax.go ?_; first | ((with_reducible apply callAltH (c102 hX hl zs ((oneP s).getD 0 bs0) (Side.mk (by have := hz.get; omega)))); (case hl => exact ⟨.aggs (n := 8) ⟨⟨⟨⟨⟨⟨⟨⟨trivial, .le (.any _)⟩, .le (.any _)⟩, .le (.any _)⟩, .own rfl fun _ _ _ _ => .refl _⟩, .le (.any _)⟩, .le (.any _)⟩, .le (.any _)⟩, .le (.any _)⟩, .le (.refl _), trivial⟩); (case hr => rfl)) | (with_reducible apply Alt.one))
     | exact Cl.go
     | ((fail_if_success refine Stop.go ?_); first | (with_reducible first | apply And.intro | apply Cut.go | (refine impI ?_; intro _)) | (refine propI ?_; conv => whnf)))
    all_goals try exact nbZ
    ·rename_i q; have q := of_decide_eq_true q; exact .of ⟨by omega, by omega⟩
    ·rename_i q q2; have q := of_decide_eq_true q
     have w := zon_neg q2
     have e0 : kE zs 122 s = 6 := by rw [kE_z, zonC_6 e1 (miI_hit (show 0 < (oneP s).length by omega) w)]
     rw [rdX_1 (by rw [e0]; decide), e0]
     exact .mk [] [] _ rfl (.le (.tups ⟨⟨trivial, .aggs (n := 3) ⟨⟨⟨trivial, .refl _⟩, .refl _⟩, .refl _⟩⟩, .refl _⟩)) ⟨.le (.refl _), .le (.refl _), .le (.refl _), .le (.refl _), trivial⟩ rfl
    ·exact Sc.of ⟨show (0 + 1) * 8 <= 140737488355328 by omega, show 0 + 1 <= 9223372036854775807 by omega⟩
    ·exact .of ⟨by show (-9223372036854775808 : Int) <= ((0 : Nat) : Int) + 1; omega, by show ((0 : Nat) : Int) + 1 <= 9223372036854775807; omega⟩
    ·rename_i q q2; have q := of_decide_eq_true q
     have w := zon_pos q2
     exact ⟨0 + 1, ⟨by show 0 + 1 <= (oneP s).length; omega, all_lt h2 w⟩, by show (oneP s).length - (0 + 1) < (oneP s).length - 0; omega, .le ⟨rfl, ⟨.refl _, .refl _, .refl _, .refl _, .refl _, .refl _, .refl _, .list (fun a j ha hj => by replace hj : j < 1 := hj; (obtain rfl : j = 0 := (by omega)); (replace ha : a < 1 := ha); (obtain rfl : a = 0 := (by omega)); exact Le.intI (zon_at (by omega))), trivial⟩, rfZ⟩⟩
    ·rename_i q; have q := of_decide_eq_false q
     have a : ∀ j, j < (oneP s).length -> hasB zs zs.length ((oneP s).getD j bs0) = true := fun j hj => h2 j (by omega)
     refine ⟨(), by rw [kE_z, zonC_0 e1 (miI_none a)], ?_⟩
     have e3 : (zonL zs (oneP s)).length = 0 := by rw [zonL_len]; omega
     show StTo _ _ _ [(5, .ptr 5 0), (8, .ptr 6 0), (16, .slc 1 (zonL zs (oneP s)).length _)] _
     rw [e3]
     exact .le ⟨rfl, rfZ, ⟨.refl _, .refl _, Le.slc0 1 _, trivial⟩⟩
   ·obtain ⟨h1, h2⟩ : i + 1 <= (oneP s).length /\ ∀ j, j < i + 1 -> hasB zs zs.length ((oneP s).getD j bs0) = true := hi
    repeat' (first
     | (refine Ax.go ?_; first | ((with_reducible apply callAltH (c102 hX hl zs ((oneP s).getD (i + 1) bs0) (Side.mk (by have := hz.get; omega)))); (case hl => exact ⟨.aggs (n := 8) ⟨⟨⟨⟨⟨⟨⟨⟨trivial, .le (.any _)⟩, .le (.any _)⟩, .le (.any _)⟩, .own rfl fun _ _ _ _ => .refl _⟩, .le (.any _)⟩, .le (.any _)⟩, .le (.any _)⟩, .le (.any _)⟩, .le (.refl _), trivial⟩); (case hr => rfl)) | (with_reducible apply Alt.one))
     | exact Cl.go
     | ((fail_if_success refine Stop.go ?_); first | rw [beqvv (i + 1)] | (with_reducible first | apply And.intro | apply Cut.go | (refine impI ?_; intro _)) | (refine propI ?_; conv => whnf)))
    all_goals try exact nbZ
    ·rename_i q; have q := of_decide_eq_true q; exact .of ⟨by omega, by omega⟩
    ·rename_i q q2; have q := of_decide_eq_true q
     have w := zon_neg q2
     have e0 : kE zs 122 s = 6 := by rw [kE_z, zonC_6 e1 (miI_hit (show (i + 1) < (oneP s).length by omega) w)]
     rw [rdX_1 (by rw [e0]; decide), e0]
     exact .mk [] [] _ rfl (.le (.tups ⟨⟨trivial, .aggs (n := 3) ⟨⟨⟨trivial, .refl _⟩, .refl _⟩, .refl _⟩⟩, .refl _⟩)) ⟨.le (.refl _), .le (.refl _), .le (.refl _), .le (.refl _), trivial⟩ rfl
    ·exact Sc.of ⟨show (i + 1 + (0 + 1)) * 8 <= 140737488355328 by omega, show i + 1 + (0 + 1) <= 9223372036854775807 by omega⟩
    ·exact .of ⟨by show (-9223372036854775808 : Int) <= (((i + 1) : Nat) : Int) + 1; omega, by show (((i + 1) : Nat) : Int) + 1 <= 9223372036854775807; omega⟩
    ·rename_i q q2; have q := of_decide_eq_true q
     have w := zon_pos q2
     exact ⟨(i + 1) + 1, ⟨by show (i + 1) + 1 <= (oneP s).length; omega, all_lt h2 w⟩, by show (oneP s).length - ((i + 1) + 1) < (oneP s).length - (i + 1); omega, .le ⟨rfl, ⟨.refl _, .refl _, .refl _, .refl _, .refl _, .refl _, .refl _, .list (fun a j ha hj => by replace hj : j < 1 := hj; (obtain rfl : j = 0 := (by omega)); exact Le.ofEq (push_f (f := fun a => (zonL zs (oneP s)).getD a 0) (congrArg (AV.int .i64) (zon_at (show (i + 1) < (oneP s).length by omega))) ha)), trivial⟩, rfZ⟩⟩
    ·rename_i q; have q := of_decide_eq_false q
     have a : ∀ j, j < (oneP s).length -> hasB zs zs.length ((oneP s).getD j bs0) = true := fun j hj => h2 j (by omega)
     refine ⟨(), by rw [kE_z, zonC_0 e1 (miI_none a)], ?_⟩
     have e3 : (zonL zs (oneP s)).length = i + 1 := by rw [zonL_len]; omega
     refine .fr [4, 5, 6] [7] rfl ⟨.le (.refl _), .le (.refl _), .le (.refl _), .le (.refl _), .le (.refl _), .le (.refl _), .le (.refl _), trivial⟩ ⟨.le (.refl _), .le (.refl _), ?_, trivial⟩
     show LeH _ (.own 7 (i + 1)) (.slc 1 (zonL zs (oneP s)).length _)
     rw [e3]
     exact .own rfl fun a j ha hj => .refl _
  ·skip
   repeat' (first
    | (refine Ax.go ?_; first | (with_reducible apply Alt.one))
    | exact Cl.go
    | ((fail_if_success refine Stop.go ?_); (fail_if_success with_reducible refine (?_ : Cut _ _)); first | rw [beqvv (x.ls.length + 1)] | (with_reducible first | apply And.intro | (refine impI ?_; intro _; try (first | (exfalso; rename_i hh; revert hh; decide)))) | (refine propI ?_; conv => whnf)))
   all_goals try exact nbZ
   ·have h6 := hx.get.l; exact Sc.of ⟨show (x.ls.length + (0 + 1)) * 24 <= 140737488355328 by omega, show x.ls.length + (0 + 1) <= 9223372036854775807 by omega⟩
   ·rw [rdX_0 e2, e2, show addI zs 122 x s = { x with ls := x.ls ++ [zonL zs (oneP s)] } from rfl, itA_l, rqO_l]
    exact .mk [] [] _ rfl (.le (.tups ⟨⟨trivial, .aggs (n := 3) ⟨⟨⟨trivial, .refl _⟩, .refl _⟩, .refl _⟩⟩, .refl _⟩)) ⟨.le (.refl _), .le (.refl _), .le (.refl _), .le (.list fun a j ha hj => by replace hj : j < 1 := hj; (obtain rfl : j = 0 := (by omega)); exact push_lw (.refl _) ha), trivial⟩ rfl
theorem c45_l (zs : List ByteArray) (v : Nat) (x : Itm) (s : ByteArray) (hz : Side (zs.length <= 900)) (hx : Side (ItmOk x)) (hs : Side (s.size <= 600)) : Mut (Xc W0 G) 45 [.agg 8 (tbl [.any, .any, .any, .own 0 v, .any, .any, .any, .any]), itA x 1, .int .u8 108, .str s] (rqO zs v x) (.tup 2 (tbl [itA (rdX zs 108 x s) 1, .int .i64 (kE zs 108 s)])) (rqO zs v (rdX zs 108 x s)) := by
 have hs6 := hs.get
 have hpl := (many_len s (by omega)).1
 refine mut_of' hX (fnI Tryz.f45) rfl ?_
 repeat' (first
  | (refine Ax.go ?_; first | (with_reducible apply Alt.one))
  | exact Cl.go
  | ((fail_if_success refine Stop.go ?_); (fail_if_success with_reducible refine (?_ : Cut _ _)); first | (with_reducible first | apply And.intro | (refine impI ?_; intro _; try (first | (exfalso; rename_i hh; revert hh; decide)))) | (refine propI ?_; conv => whnf)))
 all_goals try exact nbZ
 refine Cut.go ?_
 repeat' (first
  | (refine Ax.go ?_; first | (with_reducible apply callAlt (c31 hX s 44 (Side.mk (by have := hs.get; omega)))) | (with_reducible apply Alt.one))
  | exact Cl.go
  | ((fail_if_success refine Stop.go ?_); (fail_if_success with_reducible refine (?_ : Cut _ _)); first | (with_reducible first | apply And.intro | (refine impI ?_; intro _; try (first | (exfalso; rename_i hh; revert hh; decide)))) | (refine propI ?_; conv => whnf)))
 all_goals try exact nbZ
 refine Cut.go ?_
 repeat' (first
  | (refine Ax.go ?_; first | (with_reducible apply callAlt (c31 hX s 44 (Side.mk (by have := hs.get; omega)))) | (with_reducible apply Alt.one))
  | exact Cl.go
  | ((fail_if_success refine Stop.go ?_); (fail_if_success with_reducible refine (?_ : Cut _ _)); first | (with_reducible first | apply And.intro | (refine impI ?_; intro _; try (first | (exfalso; rename_i hh; revert hh; decide)))) | (refine propI ?_; conv => whnf)))
 all_goals try exact nbZ
 refine .cut ⟨Unit, fun _ => ([(4, .ptr 4 0), (5, .ptr 5 0), (8, .ptr 6 0), (14, sRow ((cutS 44) s))], rqO zs v x ++ ([.box [.any, .any, .any, .own 0 v, .any, .any, .any, .any], .box [.own 1 (x.ns.length + 1), .own 2 (x.ds.length + 1), .own 3 (x.ls.length + 1)], .box [.slc0, .slc0, .slc0]] : List HObj)), fun _ => decide (0 <= wrI ((cutS 44) s)) = false, ?_, fun _ e1 => ?_⟩
 ·skip
  repeat' (first
   | (refine Ax.go ?_; first | (with_reducible apply Alt.one))
   | exact Cl.go
   | ((fail_if_success refine Stop.go ?_); (fail_if_success with_reducible refine (?_ : Cut _ _)); first | (with_reducible first | apply And.intro | (refine impI ?_; intro _; try (first | (exfalso; rename_i hh; revert hh; decide)))) | (refine propI ?_; conv => whnf)))
  all_goals try exact nbZ
  refine ⟨Nat, fun i => ([(4, .ptr 4 0), (5, .ptr 5 0), (8, .ptr 6 0), (14, sRow ((cutS 44) s)), (15, .int .i64 (i : Nat))], rqO zs v x ++ ([.box [.any, .any, .any, .own 0 v, .any, .any, .any, .any], .box [.own 1 (x.ns.length + 1), .own 2 (x.ds.length + 1), .own 3 (x.ls.length + 1)], .box [.slc0, .slc0, .slc0]] : List HObj)), fun i => i <= ((cutS 44) s).length /\ ∀ j, j < i -> nameB (((cutS 44) s).getD j bs0) = true, fun i => ((cutS 44) s).length - i, ⟨0, ⟨Nat.zero_le _, fun _ h => by omega⟩, .le ⟨rfl, rfZ, rfZ⟩⟩, fun i hi => ?_⟩
  obtain ⟨h1, h2⟩ := hi
  repeat' (first
   | (refine Ax.go ?_; first | (with_reducible apply callAlt (c101 hX (((cutS 44) s).getD i bs0) ?_)) | (with_reducible apply Alt.one))
   | exact Cl.go
   | ((fail_if_success refine Stop.go ?_); first | (with_reducible first | apply And.intro | apply Cut.go | (refine impI ?_; intro _)) | (refine propI ?_; conv => whnf)))
  all_goals try exact nbZ
  ·rename_i q; have q := of_decide_eq_true q; exact .of ⟨by omega, by omega⟩
  ·rename_i q q2; have q := of_decide_eq_true q
   have w : nameB (((cutS 44) s).getD i bs0) = false := by revert q2; cases nameB (((cutS 44) s).getD i bs0) <;> decide
   have e0 : kE zs 108 s = 4 := by rw [kE_l, zonC_4 (wrI_hit (show i < ((cutS 44) s).length by omega) w)]
   rw [rdX_1 (by rw [e0]; decide), e0]
   exact .mk [] [] _ rfl (.le (.tups ⟨⟨trivial, .aggs (n := 3) ⟨⟨⟨trivial, .refl _⟩, .refl _⟩, .refl _⟩⟩, .refl _⟩)) ⟨.le (.refl _), .le (.refl _), .le (.refl _), .le (.refl _), trivial⟩ rfl
  ·exact .of ⟨by show (-9223372036854775808 : Int) <= ((i : Nat) : Int) + 1; omega, by show ((i : Nat) : Int) + 1 <= 9223372036854775807; omega⟩
  ·rename_i q q2; have q := of_decide_eq_true q
   have w : nameB (((cutS 44) s).getD i bs0) = true := by revert q2; cases nameB (((cutS 44) s).getD i bs0) <;> decide
   exact ⟨i + 1, ⟨by show i + 1 <= ((cutS 44) s).length; omega, all_lt h2 w⟩, by show ((cutS 44) s).length - (i + 1) < ((cutS 44) s).length - i; omega, .le ⟨rfl, rfZ, rfZ⟩⟩
  ·exact Side.mk ((many_len s (by omega)).2 i)
  ·rename_i q; have q := of_decide_eq_false q
   exact ⟨(), wrI_none fun j hj => h2 j (by omega), .le ⟨rfl, rfZ, rfZ⟩⟩
 ·skip
  repeat' (first
   | (refine Ax.go ?_; first | (with_reducible apply Alt.one))
   | exact Cl.go
   | ((fail_if_success refine Stop.go ?_); (fail_if_success with_reducible refine (?_ : Cut _ _)); first | (with_reducible first | apply And.intro | (refine impI ?_; intro _; try (first | (exfalso; rename_i hh; revert hh; decide)))) | (refine propI ?_; conv => whnf)))
  all_goals try exact nbZ
  refine .cut ⟨Unit, fun _ => ([(5, .ptr 5 0), (8, .ptr 6 0), (16, iRow (zonL zs ((cutS 44) s)))], rqO zs v x ++ [.box [.any, .any, .any, .own 0 v, .any, .any, .any, .any], .box [.own 1 (x.ns.length + 1), .own 2 (x.ds.length + 1), .own 3 (x.ls.length + 1)], .box [.slc0, .slc0, .slc0]]), fun _ => kE zs 108 s = 0, ?_, fun _ e2 => ?_⟩
  ·skip
   repeat' (first
    | (refine Ax.go ?_; first | (with_reducible apply Alt.one))
    | exact Cl.go
    | ((fail_if_success refine Stop.go ?_); (fail_if_success with_reducible refine (?_ : Cut _ _)); first | (with_reducible first | apply And.intro | (refine impI ?_; intro _; try (first | (exfalso; rename_i hh; revert hh; decide)))) | (refine propI ?_; conv => whnf)))
   all_goals try exact nbZ
   refine ⟨Nat, fun i => match i with | 0 => ([(4, .ptr 4 0), (5, .ptr 5 0), (8, .ptr 6 0), (14, sRow ((cutS 44) s)), (16, .slc0), (17, .int .i64 ((0 : Nat) : Int))], rqO zs v x ++ [.box [.any, .any, .any, .own 0 v, .any, .any, .any, .any], .box [.own 1 (x.ns.length + 1), .own 2 (x.ds.length + 1), .own 3 (x.ls.length + 1)], .box [.slc0, .slc0, .slc0]]) | i + 1 => ([(4, .ptr 4 0), (5, .ptr 5 0), (8, .ptr 6 0), (14, sRow ((cutS 44) s)), (16, .own 7 (i + 1)), (17, .int .i64 ((i + 1 : Nat) : Int))], rqO zs v x ++ [.box [.any, .any, .any, .own 0 v, .any, .any, .any, .any], .box [.own 1 (x.ns.length + 1), .own 2 (x.ds.length + 1), .own 3 (x.ls.length + 1)], .box [.slc0, .slc0, .slc0], .list 3 1 (i + 1) (fun a _ => .int .i64 ((zonL zs ((cutS 44) s)).getD a 0)) (i + 1)]), fun i => i <= ((cutS 44) s).length /\ ∀ j, j < i -> hasB zs zs.length (((cutS 44) s).getD j bs0) = true, fun i => ((cutS 44) s).length - i, ⟨0, ⟨Nat.zero_le _, fun _ h => by omega⟩, .le ⟨rfl, rfZ, rfZ⟩⟩, fun i hi => ?_⟩
   rcases i with _ | i
   ·obtain ⟨h1, h2⟩ : 0 <= ((cutS 44) s).length /\ ∀ j, j < 0 -> hasB zs zs.length (((cutS 44) s).getD j bs0) = true := hi
    repeat' (first
     | (refine Ax.go ?_; first | ((with_reducible apply callAltH (c102 hX hl zs (((cutS 44) s).getD 0 bs0) (Side.mk (by have := hz.get; omega)))); (case hl => exact ⟨.aggs (n := 8) ⟨⟨⟨⟨⟨⟨⟨⟨trivial, .le (.any _)⟩, .le (.any _)⟩, .le (.any _)⟩, .own rfl fun _ _ _ _ => .refl _⟩, .le (.any _)⟩, .le (.any _)⟩, .le (.any _)⟩, .le (.any _)⟩, .le (.refl _), trivial⟩); (case hr => rfl)) | (with_reducible apply Alt.one))
     | exact Cl.go
     | ((fail_if_success refine Stop.go ?_); first | (with_reducible first | apply And.intro | apply Cut.go | (refine impI ?_; intro _)) | (refine propI ?_; conv => whnf)))
    all_goals try exact nbZ
    ·rename_i q; have q := of_decide_eq_true q; exact .of ⟨by omega, by omega⟩
    ·rename_i q q2; have q := of_decide_eq_true q
     have w := zon_neg q2
     have e0 : kE zs 108 s = 6 := by rw [kE_l, zonC_6 e1 (miI_hit (show 0 < ((cutS 44) s).length by omega) w)]
     rw [rdX_1 (by rw [e0]; decide), e0]
     exact .mk [] [] _ rfl (.le (.tups ⟨⟨trivial, .aggs (n := 3) ⟨⟨⟨trivial, .refl _⟩, .refl _⟩, .refl _⟩⟩, .refl _⟩)) ⟨.le (.refl _), .le (.refl _), .le (.refl _), .le (.refl _), trivial⟩ rfl
    ·exact Sc.of ⟨show (0 + 1) * 8 <= 140737488355328 by omega, show 0 + 1 <= 9223372036854775807 by omega⟩
    ·exact .of ⟨by show (-9223372036854775808 : Int) <= ((0 : Nat) : Int) + 1; omega, by show ((0 : Nat) : Int) + 1 <= 9223372036854775807; omega⟩
    ·rename_i q q2; have q := of_decide_eq_true q
     have w := zon_pos q2
     exact ⟨0 + 1, ⟨by show 0 + 1 <= ((cutS 44) s).length; omega, all_lt h2 w⟩, by show ((cutS 44) s).length - (0 + 1) < ((cutS 44) s).length - 0; omega, .le ⟨rfl, ⟨.refl _, .refl _, .refl _, .refl _, .refl _, .refl _, .refl _, .list (fun a j ha hj => by replace hj : j < 1 := hj; (obtain rfl : j = 0 := (by omega)); (replace ha : a < 1 := ha); (obtain rfl : a = 0 := (by omega)); exact Le.intI (zon_at (by omega))), trivial⟩, rfZ⟩⟩
    ·rename_i q; have q := of_decide_eq_false q
     have a : ∀ j, j < ((cutS 44) s).length -> hasB zs zs.length (((cutS 44) s).getD j bs0) = true := fun j hj => h2 j (by omega)
     refine ⟨(), by rw [kE_l, zonC_0 e1 (miI_none a)], ?_⟩
     have e3 : (zonL zs ((cutS 44) s)).length = 0 := by rw [zonL_len]; omega
     show StTo _ _ _ [(5, .ptr 5 0), (8, .ptr 6 0), (16, .slc 1 (zonL zs ((cutS 44) s)).length _)] _
     rw [e3]
     exact .le ⟨rfl, rfZ, ⟨.refl _, .refl _, Le.slc0 1 _, trivial⟩⟩
   ·obtain ⟨h1, h2⟩ : i + 1 <= ((cutS 44) s).length /\ ∀ j, j < i + 1 -> hasB zs zs.length (((cutS 44) s).getD j bs0) = true := hi
    repeat' (first
     | (refine Ax.go ?_; first | ((with_reducible apply callAltH (c102 hX hl zs (((cutS 44) s).getD (i + 1) bs0) (Side.mk (by have := hz.get; omega)))); (case hl => exact ⟨.aggs (n := 8) ⟨⟨⟨⟨⟨⟨⟨⟨trivial, .le (.any _)⟩, .le (.any _)⟩, .le (.any _)⟩, .own rfl fun _ _ _ _ => .refl _⟩, .le (.any _)⟩, .le (.any _)⟩, .le (.any _)⟩, .le (.any _)⟩, .le (.refl _), trivial⟩); (case hr => rfl)) | (with_reducible apply Alt.one))
     | exact Cl.go
     | ((fail_if_success refine Stop.go ?_); first | rw [beqvv (i + 1)] | (with_reducible first | apply And.intro | apply Cut.go | (refine impI ?_; intro _)) | (refine propI ?_; conv => whnf)))
    all_goals try exact nbZ
    ·rename_i q; have q := of_decide_eq_true q; exact .of ⟨by omega, by omega⟩
    ·rename_i q q2; have q := of_decide_eq_true q
     have w := zon_neg q2
     have e0 : kE zs 108 s = 6 := by rw [kE_l, zonC_6 e1 (miI_hit (show (i + 1) < ((cutS 44) s).length by omega) w)]
     rw [rdX_1 (by rw [e0]; decide), e0]
     exact .mk [] [] _ rfl (.le (.tups ⟨⟨trivial, .aggs (n := 3) ⟨⟨⟨trivial, .refl _⟩, .refl _⟩, .refl _⟩⟩, .refl _⟩)) ⟨.le (.refl _), .le (.refl _), .le (.refl _), .le (.refl _), trivial⟩ rfl
    ·exact Sc.of ⟨show (i + 1 + (0 + 1)) * 8 <= 140737488355328 by omega, show i + 1 + (0 + 1) <= 9223372036854775807 by omega⟩
    ·exact .of ⟨by show (-9223372036854775808 : Int) <= (((i + 1) : Nat) : Int) + 1; omega, by show (((i + 1) : Nat) : Int) + 1 <= 9223372036854775807; omega⟩
    ·rename_i q q2; have q := of_decide_eq_true q
     have w := zon_pos q2
     exact ⟨(i + 1) + 1, ⟨by show (i + 1) + 1 <= ((cutS 44) s).length; omega, all_lt h2 w⟩, by show ((cutS 44) s).length - ((i + 1) + 1) < ((cutS 44) s).length - (i + 1); omega, .le ⟨rfl, ⟨.refl _, .refl _, .refl _, .refl _, .refl _, .refl _, .refl _, .list (fun a j ha hj => by replace hj : j < 1 := hj; (obtain rfl : j = 0 := (by omega)); exact Le.ofEq (push_f (f := fun a => (zonL zs ((cutS 44) s)).getD a 0) (congrArg (AV.int .i64) (zon_at (show (i + 1) < ((cutS 44) s).length by omega))) ha)), trivial⟩, rfZ⟩⟩
    ·rename_i q; have q := of_decide_eq_false q
     have a : ∀ j, j < ((cutS 44) s).length -> hasB zs zs.length (((cutS 44) s).getD j bs0) = true := fun j hj => h2 j (by omega)
     refine ⟨(), by rw [kE_l, zonC_0 e1 (miI_none a)], ?_⟩
     have e3 : (zonL zs ((cutS 44) s)).length = i + 1 := by rw [zonL_len]; omega
     refine .fr [4, 5, 6] [7] rfl ⟨.le (.refl _), .le (.refl _), .le (.refl _), .le (.refl _), .le (.refl _), .le (.refl _), .le (.refl _), trivial⟩ ⟨.le (.refl _), .le (.refl _), ?_, trivial⟩
     show LeH _ (.own 7 (i + 1)) (.slc 1 (zonL zs ((cutS 44) s)).length _)
     rw [e3]
     exact .own rfl fun a j ha hj => .refl _
  ·skip
   repeat' (first
    | (refine Ax.go ?_; first | (with_reducible apply Alt.one))
    | exact Cl.go
    | ((fail_if_success refine Stop.go ?_); (fail_if_success with_reducible refine (?_ : Cut _ _)); first | rw [beqvv (x.ls.length + 1)] | (with_reducible first | apply And.intro | (refine impI ?_; intro _; try (first | (exfalso; rename_i hh; revert hh; decide)))) | (refine propI ?_; conv => whnf)))
   all_goals try exact nbZ
   ·have h6 := hx.get.l; exact Sc.of ⟨show (x.ls.length + (0 + 1)) * 24 <= 140737488355328 by omega, show x.ls.length + (0 + 1) <= 9223372036854775807 by omega⟩
   ·rw [rdX_0 e2, e2, show addI zs 108 x s = { x with ls := x.ls ++ [zonL zs ((cutS 44) s)] } from rfl, itA_l, rqO_l]
    exact .mk [] [] _ rfl (.le (.tups ⟨⟨trivial, .aggs (n := 3) ⟨⟨⟨trivial, .refl _⟩, .refl _⟩, .refl _⟩⟩, .refl _⟩)) ⟨.le (.refl _), .le (.refl _), .le (.refl _), .le (.list fun a j ha hj => by replace hj : j < 1 := hj; (obtain rfl : j = 0 := (by omega)); exact push_lw (.refl _) ha), trivial⟩ rfl
end
end Go.Fx
