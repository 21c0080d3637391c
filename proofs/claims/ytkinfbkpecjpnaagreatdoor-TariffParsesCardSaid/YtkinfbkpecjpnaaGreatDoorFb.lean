/-
 The symbolic reader, part 2: owned lists, calls, footprints.
-/
import Derived.Test.YtkinfbkpecjpnaaGreatDoorFa
import Derived.Laws.Append
import Derived.Lib.ConvBytes
import Derived.Lib.OthersKept
import Derived.Laws.Small
import Derived.Lib.LazyBuf
import Derived.Laws.StructEq
import Derived.ChangeKeysEq
import Derived.WideLaws
set_option linter.all false
/-
 Slices that the call owns: made, appended to, their elements written.
-/
namespace Go.Fx
open Go.RowKit
theorem fill_list {c : Cfg} (hok : c.Ok) {k : Nat} (hk : c.H[k]? = some .hole) {w' : World} {v : Value} {e es n : Nat} {f : Nat -> Nat -> AV} {xs : List Value}
  (h1 : w'.os = c.w.os) (h2 : w'.tape = c.w.tape) (h3 : w'.output = c.w.output) (hsize : c.w.heap.size <= w'.heap.size) (hblock : ∀ b, b < c.w.heap.size -> w'.heap[b]? = c.w.heap[b]?)
  (hv : ∀ b, vblk v = some b -> c.w.heap.size <= b /\ b < w'.heap.size) (hown : OwnsL w' e es v n xs) (hone : ∀ x ∈ xs, x.oneCell' = true)
  (hf : ∀ i j, i < n -> j < es -> ∃ x, xs[i * es + j]? = some x /\ Reads c.g c.I c.w (f i j) 0 x) :
  Tr c ⟨upd c.g k ⟨(c.g k).b, v, 1⟩, c.I, w', c.H.set k (.list e es n f 1)⟩ := by
 have h0 : (c.g k).ver = 0 := hok.obj k _ hk
 refine Tr.alter hok hk h1 h2 h3 hsize (fun b hb _ => hblock b hb) (fun _ => rfl) (by omega) (fun e => by simp at e; omega) (fun b hb => .inl (hv b (by simpa [blk, upd_same] using hb))) ?_
 refine ⟨by rw [upd_same], by omega, xs, by rw [upd_same]; exact hown, hone, fun i j hi hj => ?_⟩
 obtain ⟨x, x1, x2⟩ := hf i j hi hj
 exact ⟨x, x1, Reads.mono' (M := 0) (fun q hq => absurd hq (by omega)) (fun b o hI => ⟨hI, cell_of_block (hblock b (hok.imm b o hI))⟩) _ 0 0 x (by omega) (by omega) x2⟩
theorem turn_list {c : Cfg} (hok : c.Ok) {k : Nat} {e es n n' ver ver' : Nat} {f f' : Nat -> Nat -> AV} (hk : c.H[k]? = some (.list e es n f ver)) {w' : World} {v : Value} {xs : List Value}
  (h1 : w'.os = c.w.os) (h2 : w'.tape = c.w.tape) (h3 : w'.output = c.w.output) (hsize : c.w.heap.size <= w'.heap.size)
  (hblock : ∀ b, b < c.w.heap.size -> vblk (c.g k).v ≠ some b -> w'.heap[b]? = c.w.heap[b]?) (hver : ver <= ver') (hsame : ver' = ver -> v = (c.g k).v)
  (hv : ∀ b, vblk v = some b -> (c.w.heap.size <= b /\ b < w'.heap.size) \/ vblk (c.g k).v = some b) (hown : OwnsL w' e es v n' xs) (hone : ∀ x ∈ xs, x.oneCell' = true)
  (hf : ∀ i j, i < n' -> j < es -> ∃ x, xs[i * es + j]? = some x /\ Reads c.g c.I c.w (f' i j) 0 x) :
  Tr c ⟨upd c.g k ⟨(c.g k).b, v, ver'⟩, c.I, w', c.H.set k (.list e es n' f' ver')⟩ := by
 have h0 : (c.g k).ver = ver := (hok.obj k _ hk).1
 have hp0 : 0 < ver := (hok.obj k _ hk).2.1
 refine Tr.alter hok hk h1 h2 h3 hsize (fun b hb hne => hblock b hb hne) (fun _ => rfl) (by simp; omega) (fun e => hsame (by simpa [h0] using e)) (fun b hb => hv b (by simpa [blk, upd_same] using hb)) ?_
 refine ⟨by rw [upd_same], by omega, xs, by rw [upd_same]; exact hown, hone, fun i j hi hj => ?_⟩
 obtain ⟨x, x1, x2⟩ := hf i j hi hj
 exact ⟨x, x1, Reads.mono' (M := 0) (fun q hq => absurd hq (by omega)) (fun b o hI => ⟨hI, cell_of_block (hblock b (hok.imm b o hI) fun e => hok.immApart b o k _ hI hk e)⟩) _ 0 0 x (by omega) (by omega) x2⟩
def Elems (c : Cfg) (es n : Nat) (f : Nat -> Nat -> AV) (v : Value) : Prop :=
 ∃ (ad : Option Addr) (cap : Nat) (xs : List Value), v = .slice ad n cap /\ xs.length = n * es /\ (∀ x ∈ xs, x.oneCell' = true) /\
  (∀ b, ad = some b -> ∀ (j : Nat) x, xs[j]? = some x -> c.w.cell? (b.add j) = some x) /\ (0 < n -> ad ≠ none) /\
  ∀ i j, i < n -> j < es -> ∃ x, xs[i * es + j]? = some x /\ Reads c.g c.I c.w (f i j) 0 x
theorem elems_slc {c : Cfg} {es n : Nat} {f : Nat -> Nat -> AV} {v : Value} (h : c.Reads (.slc es n f) v) : Elems c es n f v := by
 obtain ⟨ad, cap, rfl, _, h⟩ := h
 rcases Nat.eq_zero_or_pos n with rfl | hn
 ·exact ⟨ad, cap, [], rfl, by simp, by simp, fun b _ j x hj => by simp at hj, fun h => by omega, fun i j hi => by omega⟩
 ·obtain ⟨b, o, had, h'⟩ := h hn
  have hex : ∀ q, ∃ x, q < n * es -> c.w.cell? ⟨b, o + q, none⟩ = some x /\ x.oneCell' = true /\ Reads c.g c.I c.w (f (q / es) (q % es)) 0 x := fun q => by
   by_cases hq : q < n * es
   ·have hes : 0 < es := by rcases Nat.eq_zero_or_pos es with e | e; (rw [e] at hq; omega); exact e
    obtain ⟨_, x, x1, x2, x3⟩ := h' (q / es) (q % es) ((Nat.div_lt_iff_lt_mul hes).2 hq) (Nat.mod_lt _ hes)
    rw [Nat.div_add_mod'] at x1
    exact ⟨x, fun _ => ⟨x1, x2, x3⟩⟩
   ·exact ⟨.nilFunc, fun h => absurd h hq⟩
  let g := fun q => Classical.choose (hex q)
  have hg : ∀ q, q < n * es -> c.w.cell? ⟨b, o + q, none⟩ = some (g q) /\ (g q).oneCell' = true /\ Reads c.g c.I c.w (f (q / es) (q % es)) 0 (g q) := fun q => Classical.choose_spec (hex q)
  refine ⟨_, cap, (List.range (n * es)).map g, rfl, by simp, ?_, ?_, fun _ => by simp [had], ?_⟩
  ·intro x hx
   simp only [List.mem_map, List.mem_range] at hx
   obtain ⟨q, hq, rfl⟩ := hx
   exact (hg q hq).2.1
  ·intro b' hb' j x hj
   rw [had] at hb'
   cases hb'
   have hlt : j < n * es := by have := (List.getElem?_eq_some_iff.1 hj).1; simpa using this
   simp [hlt] at hj
   subst hj
   rw [Addr.add_lit]
   exact (hg j hlt).1
  ·intro i j hi hj
   have hlt : i * es + j < n * es := by
    have : (i + 1) * es <= n * es := Nat.mul_le_mul_right _ (by omega)
    rw [Nat.add_mul] at this; omega
   refine ⟨g (i * es + j), by simp [hlt], ?_⟩
   have := (hg _ hlt).2.2
   rw [show (i * es + j) / es = i by rw [Nat.mul_comm, Nat.mul_add_div (by omega), Nat.div_eq_of_lt hj, Nat.add_zero], Nat.mul_comm i es, Nat.mul_add_mod, Nat.mod_eq_of_lt hj] at this
   rw [Nat.mul_comm]
   exact this
theorem elems_slc0 {c : Cfg} {es : Nat} {f : Nat -> Nat -> AV} {v : Value} (h : c.Reads .slc0 v) : Elems c es 0 f v := by
 obtain ⟨ad, rfl⟩ := h
 exact ⟨ad, 0, [], rfl, by simp, by simp, fun b _ j x hj => by simp at hj, fun h => by omega, fun i j hi => by omega⟩
theorem elems_val0 {c : Cfg} {es : Nat} {a : Option Addr} {cap : Nat} {f : Nat -> Nat -> AV} {v : Value} (h : c.Reads (.val (.slice a 0 cap)) v) : Elems c es 0 f v := by
 have h : v = .slice a 0 cap := h
 subst h
 exact ⟨a, cap, [], rfl, by simp, by simp, fun b _ j x hj => by simp at hj, fun h => by omega, fun i j hi => by omega⟩
theorem elems_own {c : Cfg} (hok : c.Ok) {k ver e es n : Nat} {f : Nat -> Nat -> AV} (hk : c.H[k]? = some (.list e es n f ver)) {v : Value} (h : c.Reads (.own k ver) v) : Elems c es n f v := by
 obtain ⟨xs, h1, h2, h3, ⟨ad, cap, h4, h5, h6⟩, h7, h8⟩ := own_slice hok hk
 rw [own_now hok hk h, h4]
 refine ⟨ad, cap, xs, rfl, h2, h3, fun b hb j x hj => ?_, fun hn => ?_, h7⟩
 ·have hn : 0 < n := by
   rcases Nat.eq_zero_or_pos n with rfl | hn
   ·rw [Nat.zero_mul] at h2; rw [List.eq_nil_of_length_eq_zero h2] at hj; simp at hj
   ·exact hn
  obtain ⟨b', rfl, hv⟩ := h6 hn
  cases hb
  rw [Addr.add_lit, Nat.zero_add]
  exact h8 b' hv j x hj
 ·obtain ⟨b', rfl, _⟩ := h6 hn
  simp
theorem run_firstCells' {P : Program} {c : Cfg} {es n : Nat} {f : Nat -> Nat -> AV} {ad : Option Addr} {cap : Nat} {xs : List Value} {w : World} (hl : xs.length = n * es)
  (hc : ∀ b, ad = some b -> ∀ (j : Nat) x, xs[j]? = some x -> w.cell? (b.add j) = some x) (hn : 0 < n -> ad ≠ none) (hes : n * es = 0 \/ 0 < n) :
  (Builtin.firstCells es n (.slice ad n cap)).run P w = .ok xs.toArray w := by
 cases ad with
 | none =>
  have h0 : n = 0 := by rcases Nat.eq_zero_or_pos n with h | h; exact h; exact absurd rfl (hn h)
  subst h0
  have : xs = [] := List.eq_nil_of_length_eq_zero (by simpa using hl)
  subst this
  simp [Builtin.firstCells]
 | some b => exact run_firstCells_some (P := P) w es n b n cap xs hl (hc b rfl)
def joinF (n : Nat) (f g : Nat -> Nat -> AV) : Nat -> Nat -> AV := fun i j => if i < n then f i j else g (i - n) j
section
variable {X : Ctx} {o : Oper} {ρ : Operand -> AV}
theorem run_storeCells_mk (P : Program) (g o : Nat) (t : TypeId) (mk : Nat × Nat) : ∀ (vs : List Value) (i : Nat) (cur : Array Value) (w : World), w.heap[g]? = some (.cells cur t mk) -> (mk = (0, 0) \/ cur.size <= mk.1) -> o + i + vs.length <= cur.size -> (∀ v ∈ vs, v.oneCell' = true) ->
  (storeCells ⟨g, o, none⟩ vs i).run P w = .ok () (w.setRow g (cur.toList.take (o + i) ++ vs ++ cur.toList.drop (o + i + vs.length)).toArray)
 | [], i, cur, w, hg, _, _, _ => by
  simp only [storeCells, List.append_nil, List.length_nil, Nat.add_zero, List.take_append_drop, Array.toArray_toList]
  rw [setRow_self w g cur t mk hg]
  rfl
 | v :: rest, i, cur, w, hg, fz, hl, h1 => by
  have hi : o + i < cur.size := by simp at hl; omega
  have hadd : (⟨g, o, none⟩ : Addr).add i = ⟨g, o + i, none⟩ := by unfold Addr.add; split <;> simp_all
  have hcell : w.cell? ⟨g, o + i, none⟩ = some cur[o + i] := by simp [World.cell?, hg, hi]
  have hfro : w.frozen? ⟨g, o + i, none⟩ = false := by
   rcases fz with rfl | fz
   ·simp [World.frozen?, hg]
   ·simp [World.frozen?, hg]; omega
  have hst : (store ((⟨g, o, none⟩ : Addr).add i) v).run P w = .ok () (w.setRow g (cur.setIfInBounds (o + i) v)) := by
   rw [hadd, run_store P w _ v _ (h1 v (by simp)), hcell]
   simp [hfro, setCell_eq_setRow w g (o + i) cur t mk v hg]
  have ih := run_storeCells_mk P g o t mk rest (i + 1) (cur.setIfInBounds (o + i) v) (w.setRow g (cur.setIfInBounds (o + i) v)) (setRow_heap w g cur _ t _ hg) (by simpa using fz) (by simp at hl ⊢; omega) (fun x hx => h1 x (by simp [hx]))
  simp only [storeCells, Sem.run_bind, hst, Result.andThen_ok, ih, setRow_setRow]
  congr 3
  have e := list_seg_step cur.toList (o + i) v rest (by simp at hl ⊢; omega)
  simpa [Array.toList_setIfInBounds, Nat.add_assoc] using e
theorem run_append' (hX : X.Good) {t u e : TypeId} {ti ei : TI} {c : Cfg} {x y : Value} {cl : Call} {n m : Nat} {f : Nat -> Nat -> AV} {ty : TypeId}
  (hti : X.T t = some ti) (hte : ti.elemOf = some e) (hei : X.T e = some ei) (hu : u = t) (hsz : 0 < ei.size)
  {xs : List Value} (hown : OwnsL c.w e ei.size x n xs) (hone : ∀ v ∈ xs, v.oneCell' = true) (hy : Elems c ei.size m f y) (hbytes : (n + m) * ei.bytes <= 140737488355328) (h63 : n + m <= maxLen) :
  ∃ v w' ys, (Builtin.append_ #[t, u] ty #[x, y]).run X.P c.w = .ok v w' /\ OwnsL w' e ei.size v (n + m) (xs ++ ys) /\ ys.length = m * ei.size /\ (∀ v ∈ ys, v.oneCell' = true) /\
   (∀ i j, i < m -> j < ei.size -> ∃ x, ys[i * ei.size + j]? = some x /\ Reads c.g c.I c.w (f i j) 0 x) /\
   w'.os = c.w.os /\ w'.tape = c.w.tape /\ w'.output = c.w.output /\ c.w.heap.size <= w'.heap.size /\ (∀ b, b < c.w.heap.size -> vblk x ≠ some b -> w'.heap[b]? = c.w.heap[b]?) /\
   (∀ b, vblk v = some b -> (c.w.heap.size <= b /\ b < w'.heap.size) \/ vblk x = some b) := by
 subst hu
 obtain ⟨ad, cap, ys, rfl, hyl, hyo, hyc, hyn, hyr⟩ := hy
 have ht := hX.types u ti hti
 have hE := hX.types e ei hei
 have hund := elemOf_spec ht hte
 obtain ⟨info, z, i1, i2, i3, i4, i5⟩ := hE.info
 have hzs : z.cells.size = ei.size := by rw [<- hE.zsize, <- i5]; simp
 have hfc : (Builtin.firstCells ei.size m (.slice ad m cap)).run X.P c.w = .ok ys.toArray c.w :=
  run_firstCells' (P := X.P) (c := c) (f := f) hyl hyc hyn (by rcases Nat.eq_zero_or_pos m with h | h; (left; rw [h]; simp); exact .inr h)
 have hnm : n + m <= 9223372036854775807 := by simp only [maxLen] at h63; omega
 -- a new row
 have grow : ∀ (base : Option Addr) (old : Nat), x = .slice base n old -> old < n + m -> 0 < m -> (base = none -> n = 0 /\ old = 0) -> (∀ b, base = some b -> ∀ (j : Nat) v, xs[j]? = some v -> c.w.cell? (b.add j) = some v) -> xs.length = n * ei.size ->
   ∃ v w', (Builtin.append_ #[u, u] ty #[x, .slice ad m cap]).run X.P c.w = .ok v w' /\ OwnsL w' e ei.size v (n + m) (xs ++ ys) /\
   w'.os = c.w.os /\ w'.tape = c.w.tape /\ w'.output = c.w.output /\ c.w.heap.size <= w'.heap.size /\ (∀ b, b < c.w.heap.size -> vblk x ≠ some b -> w'.heap[b]? = c.w.heap[b]?) /\
   (∀ b, vblk v = some b -> (c.w.heap.size <= b /\ b < w'.heap.size) \/ vblk x = some b) := by
  intro base old hx ho hm0 hbase hxc hxl
  have hge := grownCap_ge c.w (n + m) old e
  have hcm : grownCap c.w (n + m) old e <= maxLen := grownCap_le_maxLen c.w (n + m) old e h63
  have hfit := growslice_fits (bytes := ei.bytes) ho hbytes
  refine ⟨.slice (some ⟨c.w.heap.size, 0, none⟩) (n + m) (grownCap c.w (n + m) old e), c.w.drew.alloc (.cells (xs.toArray ++ ys.toArray ++ Builtin.zeroCells z.cells (grownCap c.w (n + m) old e - (n + m))) e), ?_, ?_, rfl, rfl, rfl, by simp, fun b hb _ => heap_alloc_old c.w.drew _ b hb, fun b hb => .inl ?_⟩
  ·subst hx
   have hm : 0 < m := hm0
   obtain ⟨a2, rfl⟩ : ∃ a2, ad = some a2 := by cases ad with | none => exact absurd rfl (hyn hm) | some a2 => exact ⟨a2, rfl⟩
   cases base with
   | none =>
    obtain ⟨rfl, rfl⟩ := hbase rfl
    have hx0 : xs = [] := List.eq_nil_of_length_eq_zero (by simpa using hxl)
    subst hx0
    have := run_append_nil (P := X.P) c.w u ty e info z hund i1 i4 a2 m cap ys (by rw [i2]; exact hyl) (hyc a2 rfl) (by omega) (by omega) (by have hb := hbytes; rw [i3]; simp only [Nat.zero_add] at hb; omega)
    simpa using this
   | some a1 =>
    exact run_append_grow (P := X.P) c.w u ty e info z hund i1 i4 a1 n old xs (by rw [i2]; exact hxl) (hxc a1 rfl) a2 m cap ys (by rw [i2]; exact hyl) (hyc a2 rfl) (by omega) (by omega) (by rw [i3]; exact hfit)
  ·refine .inr ⟨c.w.heap.size, _, _, rfl, by omega, ⟨(0, 0), heap_alloc_new c.w.drew _, .inl rfl⟩, hge, hcm, ?_, ?_⟩
   ·simp only [Array.size_append, List.size_toArray, size_zeroCells, hzs, hxl, hyl, <- Nat.add_mul]
    congr 1
    omega
   ·have hlen : (xs ++ ys).length = (n + m) * ei.size := by rw [List.length_append, hxl, hyl, Nat.add_mul]
    simp only [Array.toList_append, List.append_assoc]
    rw [<- List.append_assoc, <- hlen]
    exact List.take_left
  ·have : 0 < grownCap c.w (n + m) old e := by omega
   obtain ⟨q, hq⟩ : ∃ q, grownCap c.w (n + m) old e = q + 1 := ⟨grownCap c.w (n + m) old e - 1, by omega⟩
   rw [hq] at hb
   simp only [vblk, Option.some.injEq] at hb
   subst hb
   exact ⟨Nat.le_refl _, by simp⟩
 rcases hown with ⟨rfl, rfl, base, rfl⟩ | ⟨b, old, cur, rfl, hc0, hh, hno, hcm, hcs, hxs⟩
 ·rcases Nat.eq_zero_or_pos m with rfl | hm
  ·have hys : ys = [] := List.eq_nil_of_length_eq_zero (by simpa using hyl)
   subst hys
   refine ⟨.slice base 0 0, c.w, [], ?_, .inl ⟨rfl, rfl, base, rfl⟩, by simp, by simp, fun i j hi => by omega, rfl, rfl, rfl, Nat.le_refl _, fun _ _ _ => rfl, fun b hb => by simp [vblk] at hb⟩
   cases base with
   | none => simp [Builtin.append_, run_underlying hund, hE.run_sizeOf, Builtin.lenOf, hfc]
   | some a => simp [Builtin.append_, run_underlying hund, hE.run_sizeOf, Builtin.lenOf, hfc, storeCells]
  ·obtain ⟨v, w', k1, k2, k3⟩ := grow base 0 rfl (by omega) hm (fun _ => ⟨rfl, rfl⟩) (fun b _ j v hj => by simp at hj) (by simp)
   exact ⟨v, w', ys, k1, k2, hyl, hyo, hyr, k3⟩
 ·have hxl : xs.length = n * ei.size := by
   rw [<- hxs, List.length_take, Array.length_toList, hcs]
   exact Nat.min_eq_left (Nat.mul_le_mul_right _ hno)
  have hxc : ∀ (j : Nat) v, xs[j]? = some v -> c.w.cell? ((⟨b, 0, none⟩ : Addr).add j) = some v := fun j v hj => by
   obtain ⟨mk, hh, _⟩ := hh
   rw [Addr.add_lit, Nat.zero_add, cell_of_row c.w _ _ cur e _ hh]
   rw [<- hxs, List.getElem?_take] at hj
   split at hj
   ·simpa using hj
   ·cases hj
  by_cases hroom : n + m <= old
  ·obtain ⟨mk, hh, fz⟩ := hh
   have hst := run_storeCells_mk X.P b (n * ei.size) e mk ys 0 cur c.w hh fz (by rw [hcs, hyl, Nat.add_zero, <- Nat.add_mul]; exact Nat.mul_le_mul_right _ hroom) hyo
   simp only [Nat.add_zero] at hst
   have hst0 : (List.take (n * ei.size) cur.toList ++ ys ++ List.drop (n * ei.size + ys.length) cur.toList).toArray.size = cur.size := by
    simp only [List.size_toArray, List.length_append, List.length_take, List.length_drop, Array.length_toList]
    have : (n + m) * ei.size <= old * ei.size := Nat.mul_le_mul_right _ hroom
    rw [Nat.add_mul] at this
    rw [hcs, hyl]
    omega
   obtain ⟨old1, rfl⟩ : ∃ q, old = q + 1 := ⟨old - 1, by omega⟩
   refine ⟨.slice (some ⟨b, 0, none⟩) (n + m) (old1 + 1), c.w.setRow b (List.take (n * ei.size) cur.toList ++ ys ++ List.drop (n * ei.size + ys.length) cur.toList).toArray, ys, ?_, .inr ⟨b, old1 + 1, (List.take (n * ei.size) cur.toList ++ ys ++ List.drop (n * ei.size + ys.length) cur.toList).toArray, rfl, hc0, ⟨mk, setRow_heap c.w b cur _ e _ hh, by rw [hst0]; exact fz⟩, hroom, hcm, ?_, ?_⟩, hyl, hyo, hyr, rfl, rfl, rfl, by simp, fun k _ hk => setRow_other' (fun e => hk (by simp [vblk, e])), fun k hk => .inr (by simpa [vblk] using hk)⟩
   ·have hst' : (storeCells ⟨b, n * ei.size, none⟩ ys).run X.P c.w = .ok () (c.w.setRow b (List.take (n * ei.size) cur.toList ++ ys ++ List.drop (n * ei.size + ys.length) cur.toList).toArray) := hst
    simp [Builtin.append_, run_underlying hund, hE.run_sizeOf, Builtin.lenOf, hroom, hfc, Addr.add_lit]
    rw [show List.take (n * ei.size) cur.toList ++ (ys ++ List.drop (n * ei.size + ys.length) cur.toList) = List.take (n * ei.size) cur.toList ++ ys ++ List.drop (n * ei.size + ys.length) cur.toList by simp, hst']
    rfl
   ·simp only [List.size_toArray, List.length_append, List.length_take, List.length_drop, Array.length_toList]
    have : (n + m) * ei.size <= (old1 + 1) * ei.size := Nat.mul_le_mul_right _ hroom
    rw [Nat.add_mul] at this
    rw [hcs, hyl]
    omega
   ·have hlen : (xs ++ ys).length = (n + m) * ei.size := by rw [List.length_append, hxl, hyl, Nat.add_mul]
    rw [hxs, <- hlen]
    exact List.take_left
  ·obtain ⟨v, w', k1, k2, k3⟩ := grow (some ⟨b, 0, none⟩) old rfl (by omega) (by omega) (fun h => by cases h) (fun b' hb' => by cases hb'; exact hxc) hxl
   exact ⟨v, w', ys, k1, k2, hyl, hyo, hyr, k3⟩
end
end Go.Fx
/-
 The operations on slices that the call owns.
-/
namespace Go.Fx
open Go.RowKit
section
variable {X : Ctx} {o : Oper} {ρ : Operand -> AV}
def readAV (H : List HObj) (es : Nat) : AV -> Option (Nat × (Nat -> Nat -> AV))
 | .slc es' n f => bif Nat.beq es es' then some (n, f) else none
 | .slc0 => some (0, fun _ _ => .any)
 | .own k ver => match H[k]? with | some (.list _ es' n f ver') => bif Nat.beq es es' && Nat.beq ver ver' then some (n, f) else none | _ => none
 | .val (.slice _ 0 _) => some (0, fun _ _ => .any)
 | _ => none
def ownOf (H : List HObj) : AV -> List (Nat × HObj)
 | .own k _ => match H[k]? with | some o => [(k, o)] | none => []
 | _ => []
theorem readAV_elems {c : Cfg} (hok : c.Ok) {H : List HObj} {es n : Nat} {f : Nat -> Nat -> AV} {av : AV} {v : Value} (h : readAV H es av = some (n, f)) (hn : ∀ x ∈ ownOf H av, c.H[x.1]? = some x.2) (hr : c.Reads av v) : Elems c es n f v := by
 unfold readAV at h
 split at h
 ·rename_i es' n' f'
  cases hb : Nat.beq es es' with
  | false => rw [hb] at h; cases h
  | true =>
   rw [hb] at h
   cases h
   obtain rfl := Nat.eq_of_beq_eq_true hb
   exact elems_slc hr
 ·cases h
  exact elems_slc0 hr
 ·rename_i k ver
  split at h
  ·rename_i e es' n' f' ver' hk
   cases hb : (Nat.beq es es' && Nat.beq ver ver') with
   | false => rw [hb] at h; cases h
   | true =>
    rw [hb] at h
    cases h
    simp only [Bool.and_eq_true] at hb
    obtain rfl := Nat.eq_of_beq_eq_true hb.1
    obtain rfl := Nat.eq_of_beq_eq_true hb.2
    have := hn (k, _) (by simp only [ownOf, hk]; exact List.mem_singleton.2 rfl)
    exact elems_own hok this hr
  ·cases h
 ·cases h
  exact elems_val0 hr
 ·cases h
theorem joined {c : Cfg} {es n m : Nat} {f g : Nat -> Nat -> AV} {xs ys : List Value} (hx : xs.length = n * es) (hf : ∀ i j, i < n -> j < es -> ∃ x, xs[i * es + j]? = some x /\ Reads c.g c.I c.w (f i j) 0 x)
  (hg : ∀ i j, i < m -> j < es -> ∃ x, ys[i * es + j]? = some x /\ Reads c.g c.I c.w (g i j) 0 x) :
  ∀ i j, i < n + m -> j < es -> ∃ x, (xs ++ ys)[i * es + j]? = some x /\ Reads c.g c.I c.w (joinF n f g i j) 0 x := by
 intro i j hi hj
 unfold joinF
 by_cases h : i < n
 ·rw [if_pos h]
  obtain ⟨x, x1, x2⟩ := hf i j h hj
  refine ⟨x, ?_, x2⟩
  rw [List.getElem?_append_left, x1]
  rw [hx]
  have : (i + 1) * es <= n * es := Nat.mul_le_mul_right _ (by omega)
  rw [Nat.add_mul] at this
  omega
 ·rw [if_neg h]
  obtain ⟨x, x1, x2⟩ := hg (i - n) j (by omega) hj
  refine ⟨x, ?_, x2⟩
  have hle : n * es <= i * es := Nat.mul_le_mul_right _ (by omega)
  rw [List.getElem?_append_right (by omega), hx, <- x1, Nat.sub_mul]
  congr 1
  omega
theorem step_append_new (hX : X.Good) {H : List HObj} {t e : TypeId} {ti ei : TI} {x y : Operand} {cl : Call} {k m : Nat} {f : Nat -> Nat -> AV} (ho : o.op = .call cl) (hcl : cl.callee = .builtin .append) (hargs : cl.args = #[x, y]) (htys : cl.argTypes = #[t, t])
  (hti : X.T t = some ti) (hte : ti.elemOf = some e) (hei : X.T e = some ei) (hsz : 0 < ei.size) (hx : ρ x = .slc0) (hy : readAV H ei.size (ρ y) = some (m, f)) (hm : m * ei.bytes <= 140737488355328) (hm' : m <= 9223372036854775807) :
  StepOK X o ρ ((k, .hole) :: ownOf H (ρ y)) (.own k 1) [(k, .list e ei.size m f 1)] := .value fun c a hok hb hn hr => by
 have hk : c.H[k]? = some .hole := hn (k, .hole) (List.mem_cons_self ..)
 have r1 := hr x (by simp [ho, Op.operands, Call.operands, hcl, hargs])
 have r2 := hr y (by simp [ho, Op.operands, Call.operands, hcl, hargs])
 rw [hx] at r1
 obtain ⟨ad, r1⟩ := r1
 have hE := readAV_elems hok hy (fun q hq => hn q (List.mem_cons_of_mem _ hq)) r2
 obtain ⟨v, w', ys, q1, q2, q3, q4, q5, q6, q7, q8, q9, q10, q11⟩ := run_append' (X := X) hX (c := c) (x := a.eval x) (y := a.eval y) (cl := cl) (n := 0) (m := m) (f := f) (ty := o.type) hti hte hei rfl hsz (xs := [])
  (.inl ⟨rfl, rfl, ad, r1⟩) (by simp) hE (by simpa using hm) (by simp only [maxLen]; omega)
 simp only [List.nil_append, Nat.zero_add] at q2
 have hv0 : vblk (a.eval x) = none := by rw [r1]; simp [vblk]
 refine ⟨v, _, ?_, fill_list hok hk q6 q7 q8 q9 (fun b hb => q10 b hb (by rw [hv0]; simp)) (fun b hb => ?_) q2 q4 q5, rfl, ?_⟩
 ·simp [execOp, ho, resolve, hcl, hargs, htys, invoke, builtin, q1]
 ·rcases q11 b hb with h | h
  ·exact h
  ·rw [hv0] at h; cases h
 ·refine ⟨by simpa using (List.getElem?_eq_some_iff.1 hk).1, by simp [upd_same], ?_, fun _ => by simp [upd_same]⟩
  rcases q2 with ⟨_, _, ad, rfl⟩ | ⟨_, _, _, rfl, _⟩ <;> rfl
theorem step_append_own (hX : X.Good) {H : List HObj} {t e : TypeId} {ti ei : TI} {x y : Operand} {cl : Call} {k ver n m : Nat} {g f : Nat -> Nat -> AV} (ho : o.op = .call cl) (hcl : cl.callee = .builtin .append) (hargs : cl.args = #[x, y]) (htys : cl.argTypes = #[t, t])
  (hti : X.T t = some ti) (hte : ti.elemOf = some e) (hei : X.T e = some ei) (hsz : 0 < ei.size) (hx : ρ x = .own k ver) (hy : readAV H ei.size (ρ y) = some (m, f)) (hm : (n + m) * ei.bytes <= 140737488355328) (hm' : n + m <= 9223372036854775807) :
  StepOK X o ρ ((k, .list e ei.size n g ver) :: ownOf H (ρ y)) (.own k (ver + 1)) [(k, .list e ei.size (n + m) (joinF n g f) (ver + 1))] := .value fun c a hok hb hn hr => by
 have hk : c.H[k]? = some (.list e ei.size n g ver) := hn (k, .list e ei.size n g ver) (List.mem_cons_self ..)
 have r1 := hr x (by simp [ho, Op.operands, Call.operands, hcl, hargs])
 have r2 := hr y (by simp [ho, Op.operands, Call.operands, hcl, hargs])
 rw [hx] at r1
 have r1 := own_now hok hk r1
 have hE := readAV_elems hok hy (fun q hq => hn q (List.mem_cons_of_mem _ hq)) r2
 obtain ⟨xs, o1, o2, o3, o4, o5, o6⟩ := own_slice hok hk
 obtain ⟨v, w', ys, q1, q2, q3, q4, q5, q6, q7, q8, q9, q10, q11⟩ := run_append' (X := X) hX (c := c) (x := a.eval x) (y := a.eval y) (cl := cl) (n := n) (m := m) (f := f) (ty := o.type) hti hte hei rfl hsz (xs := xs)
  (by rw [r1]; exact o1) o3 hE hm (by simp only [maxLen]; omega)
 refine ⟨v, _, ?_, turn_list hok hk q6 q7 q8 q9 (fun b hb hne => q10 b hb (by rw [r1]; exact hne)) (by omega) (fun e => by omega) (fun b hb => ?_) q2 ?_ (joined o2 o5 q5), rfl, ?_⟩
 ·simp [execOp, ho, resolve, hcl, hargs, htys, invoke, builtin, q1]
 ·rcases q11 b hb with h | h
  ·exact .inl h
  ·rw [r1] at h; exact .inr h
 ·intro z hz
  rcases List.mem_append.1 hz with h | h
  ·exact o3 z h
  ·exact q4 z h
 ·refine ⟨by simpa using (List.getElem?_eq_some_iff.1 hk).1, by simp [upd_same], ?_, fun _ => by simp [upd_same]⟩
  rcases q2 with ⟨_, _, ad, rfl⟩ | ⟨_, _, _, rfl, _⟩ <;> rfl
theorem step_buildSlice_own (hX : X.Good) {t e : TypeId} {i ei : TI} {len k : Nat} {parts : Array (Nat × Operand)} {out : List AV} (ho : o.op = .buildSlice t len parts) (hi : X.T t = some i) (hk' : i.elemOf = some e) (he : X.T e = some ei)
  (hlen : len * ei.size <= 16777216) (hpos : 0 < len) (hm : len <= 9223372036854775807) (hout : overlay (fun q => some (q * ei.size, ei.size)) (zeros ei len) (parts.toList.map fun p => (p.1, ρ p.2)) = some out) (hsz : out.length = len * ei.size) (hfree : (out.all (·.free)) = true) :
  StepOK X o ρ [(k, .hole)] (.own k 1) [(k, .list e ei.size len (fun p j => out.getD (p * ei.size + j) .any) 1)] := .value fun c a hok hb hn hr => by
 have hk : c.H[k]? = some .hole := hn (k, .hole) (List.mem_cons_self ..)
 obtain ⟨cs, h1, h2, h3⟩ := run_buildSlice' (c := c) (a := a) hX ho hi hk' he hr hlen hout
 have hcs : cs.size = len * ei.size := by rw [<- hsz, <- h2]; simp
 have hown : OwnsL (c.w.alloc (.cells cs e)) e ei.size (.slice (some ⟨c.w.heap.size, 0, none⟩) len len) len cs.toList :=
  .inr ⟨c.w.heap.size, len, cs, rfl, hpos, ⟨(0, 0), heap_alloc_new _ _, .inl rfl⟩, Nat.le_refl _, by simp only [maxLen]; omega, hcs, by rw [<- hcs]; exact List.take_of_length_le (by simp)⟩
 obtain ⟨len1, hlen1⟩ : ∃ q, len = q + 1 := ⟨len - 1, by omega⟩
 refine ⟨_, _, h1, fill_list (w' := c.w.alloc (.cells cs e)) hok hk rfl rfl rfl (by simp) (fun b hb => alloc_old hb) (fun b hb => ?_) hown ?_ ?_, rfl, ?_⟩
 ·rw [hlen1] at hb
  simp only [vblk, Option.some.injEq] at hb
  subst hb
  exact ⟨Nat.le_refl _, by simp⟩
 ·intro x hx
  obtain ⟨j, hj⟩ := List.getElem?_of_mem hx
  have hlt : j < out.length := by rw [<- h2]; exact (List.getElem?_eq_some_iff.1 hj).1
  obtain ⟨y, y1, y2, _⟩ := h3 j out[j] (by simp [hlt])
  rw [hj] at y1
  exact (Option.some.inj y1) ▸ y2
 ·intro p j hp hj
  have hlt : p * ei.size + j < out.length := by
   rw [hsz]
   have : (p + 1) * ei.size <= len * ei.size := Nat.mul_le_mul_right _ (by omega)
   rw [Nat.add_mul] at this
   omega
  obtain ⟨x, x1, x2, x3⟩ := h3 (p * ei.size + j) out[p * ei.size + j] (by simp [hlt])
  refine ⟨x, x1, ?_⟩
  show Reads c.g _ _ (out.getD (p * ei.size + j) .any) 0 x
  rw [List.getD_eq_getElem?_getD, List.getElem?_eq_getElem hlt, Option.getD_some]
  have hf : (out[p * ei.size + j]).free = true := List.all_eq_true.1 hfree _ (List.getElem_mem hlt)
  exact AV.free_reads (g' := c.g) _ _ 0 x hf x3
 ·exact ⟨by simpa using (List.getElem?_eq_some_iff.1 hk).1, by simp [upd_same], rfl, fun _ => by simp [upd_same]⟩
theorem step_makeSlice (hX : X.Good) {t e : TypeId} {i ei : TI} {x y : Operand} {k : Nat} {kx : IntKind} {n : Int} (ho : o.op = .makeSlice t x y) (hi : X.T t = some i) (hk' : i.elemOf = some e) (he : X.T e = some ei) (hx : ρ x = .int kx n) (hy : ρ y = .int kx n)
  (h0 : 0 <= n) (hb' : n.toNat * ei.bytes <= 281474976710656) (hm : n <= 9223372036854775807) (hzf : ((ei.zero.map ofVal).all (·.free)) = true) (hpz : 0 < ei.size) :
  StepOK X o ρ [(k, .hole)] (.own k 1) [(k, .list e ei.size n.toNat (fun _ j => (ei.zero.map ofVal).getD j .any) 1)] := .value fun c a hok hb hn hr => by
 have hk : c.H[k]? = some .hole := hn (k, .hole) (List.mem_cons_self ..)
 have r1 := hr x (by simp [ho, Op.operands])
 have r2 := hr y (by simp [ho, Op.operands])
 rw [hx] at r1; rw [hy] at r2
 have r1 : a.eval x = .int kx n := r1
 have r2 : a.eval y = .int kx n := r2
 have ht := hX.types t i hi
 have hte := hX.types e ei he
 have hu := elemOf_spec ht hk'
 obtain ⟨info, z, i1, i2, i3, i4, i5⟩ := hte.info
 obtain ⟨N, rfl⟩ := Int.eq_ofNat_of_zero_le h0
 simp only [Int.toNat_natCast] at hb' ⊢
 have hw : IntKind.i64.wrap (N : Int) = N := inK.wrap (k := .i64) ⟨by omega, by omega⟩
 have hbig : ¬ ((ei.bytes : Int) * (N : Int) > 2 ^ 48) := by
  rw [Int.mul_comm, <- Int.natCast_mul]
  have : (2 : Int) ^ 48 = ((281474976710656 : Nat) : Int) := by decide
  rw [this]
  omega
 let cs : Array Value := (Array.range (N * ei.size)).map (z.cells[· % z.cells.size]!)
 have hzs : z.cells.size = ei.size := by rw [<- hte.zsize, <- i5]; simp
 have hcs : cs.size = N * ei.size := by simp [cs]
 have hrow := zeros_row hte (g := c.g) (I := c.I) (w := c.w) (m := c.H.length) i5 N
 have h1 : (execOp a.eval o).run X.P c.w = .ok (.value (.slice (some ⟨c.w.heap.size, 0, none⟩) N N)) (c.w.alloc (.cells cs e)) := by
  by_cases hz : N * ei.size = 0
  ·have hcs0 : cs = #[] := Array.eq_empty_of_size_eq_zero (by rw [hcs, hz])
   rw [hcs0]
   have hN : ¬ ((N : Int) < 0) := by omega
   simp [execOp, ho, Instr.makeSlice, run_underlying hu, r1, r2, asInt, asIntOf, typeInfo, i1, i3, hw, hte.run_sizeOf, hz, newRow]
   rw [if_neg (by simpa using hbig)]
   simp [Array.range]
  ·have hN : ¬ ((N : Int) < 0) := by omega
   simp [execOp, ho, Instr.makeSlice, run_underlying hu, r1, r2, asInt, asIntOf, typeInfo, i1, i3, hw, hte.run_sizeOf, hz, newRow, zeroValue, i4]
   rw [if_neg (by simpa using hbig)]
 have hone : ∀ v ∈ cs.toList, v.oneCell' = true := by
  intro v hv
  obtain ⟨j, hj⟩ := List.getElem?_of_mem hv
  have hlt : j < (zeros ei N).length := by rw [<- hrow.1]; exact (List.getElem?_eq_some_iff.1 hj).1
  obtain ⟨y, y1, y2, _⟩ := hrow.2 j (zeros ei N)[j] (by simp [hlt])
  rw [show ((Array.range (N * ei.size)).map (z.cells[· % z.cells.size]!)).toList[j]? = cs.toList[j]? from rfl, hj] at y1
  exact (Option.some.inj y1) ▸ y2
 have hread : ∀ p j, p < N -> j < ei.size -> ∃ x, cs.toList[p * ei.size + j]? = some x /\ Reads c.g c.I c.w ((ei.zero.map ofVal).getD j .any) 0 x := by
  intro p j hp hj
  have hlt : p * ei.size + j < N * ei.zero.length := by
   rw [hte.zsize]
   have : (p + 1) * ei.size <= N * ei.size := Nat.mul_le_mul_right _ (by omega)
   rw [Nat.add_mul] at this
   omega
  have hz := getElem?_zeros ei N _ hlt
  have hmod : (p * ei.size + j) % ei.zero.length = j := by rw [hte.zsize, Nat.mul_comm, Nat.mul_add_mod, Nat.mod_eq_of_lt hj]
  rw [hmod] at hz
  have hjl : j < (ei.zero.map ofVal).length := by simp [hte.zsize, hj]
  obtain ⟨y, y1, y2, y3⟩ := hrow.2 (p * ei.size + j) ((ei.zero.map ofVal)[j]) (by rw [hz, List.getElem?_eq_getElem hjl])
  refine ⟨y, y1, ?_⟩
  rw [List.getD_eq_getElem?_getD, List.getElem?_eq_getElem hjl, Option.getD_some]
  have hf : ((ei.zero.map ofVal)[j]).free = true := List.all_eq_true.1 hzf _ (List.getElem_mem hjl)
  exact AV.free_reads (g' := c.g) _ _ 0 y hf y3
 have hown : OwnsL (c.w.alloc (.cells cs e)) e ei.size (.slice (some ⟨c.w.heap.size, 0, none⟩) N N) N cs.toList := by
  rcases Nat.eq_zero_or_pos N with rfl | hN
  ·exact .inl ⟨rfl, List.eq_nil_of_length_eq_zero (by simpa using hcs), _, rfl⟩
  ·exact .inr ⟨c.w.heap.size, N, cs, rfl, hN, ⟨(0, 0), heap_alloc_new _ _, .inl rfl⟩, Nat.le_refl _, by simp only [maxLen]; omega, hcs, by rw [<- hcs]; exact List.take_of_length_le (by simp)⟩
 refine ⟨_, _, h1, fill_list (w' := c.w.alloc (.cells cs e)) hok hk rfl rfl rfl (by simp) (fun b hb => alloc_old hb) (fun b hb => ?_) hown hone hread, rfl, ?_⟩
 ·rcases Nat.eq_zero_or_pos N with rfl | hN
  ·simp [vblk] at hb
  ·obtain ⟨q, rfl⟩ : ∃ q, N = q + 1 := ⟨N - 1, by omega⟩
   simp only [vblk, Option.some.injEq] at hb
   subst hb
   exact ⟨Nat.le_refl _, by simp⟩
 ·exact ⟨by simpa using (List.getElem?_eq_some_iff.1 hk).1, by simp [upd_same], rfl, fun _ => by simp [upd_same]⟩
theorem step_indexAddr_own (hX : X.Good) {t e e' : TypeId} {i ei : TI} {x y : Operand} {es len q ver : Nat} {f : Nat -> Nat -> AV} {k : IntKind} {n : Int} (ho : o.op = .indexAddr t x y) (hx : ρ x = .own q ver) (hy : ρ y = .int k n)
  (hi : X.T t = some i) (ha : i.elemOf = some e) (he : X.T e = some ei) (hes : ei.size = es) (h0 : 0 <= n) (h1 : n < len) :
  StepOK X o ρ [(q, .list e' es len f ver)] (.lptr q ver es n.toNat 0) [] := .plain fun c a hok _ hH hr => by
 subst hes
 have hk : c.H[q]? = some (.list e' ei.size len f ver) := hH (q, .list e' ei.size len f ver) (List.mem_cons_self ..)
 have r1 := hr x (by simp [ho, Op.operands])
 have r2 := hr y (by simp [ho, Op.operands])
 rw [hx] at r1; rw [hy] at r2
 have r2 : a.eval y = .int k n := r2
 have r1' := own_now hok hk r1
 obtain ⟨xs, o1, o2, o3, ⟨ad, cap, o4, o5, o6⟩, o7, o8⟩ := own_slice hok hk
 obtain ⟨b, rfl, hb⟩ := o6 (by omega)
 have hu := elemOf_spec (hX.types t i hi) ha
 have ht := hX.types e ei he
 refine ⟨.pointer (some ⟨b, n.toNat * ei.size, none⟩), ?_, r1.1, r1.2.1, rfl, fun _ => ⟨b, hb, rfl⟩⟩
 simp [execOp, ho, r1', o4, r2, Instr.indexAt, asIntOf, run_underlying hu, h0, h1, ht.run_sizeOf, Addr.add_lit]
theorem step_fieldAddr_l (hX : X.Good) {s : TypeId} {i fi : TI} {x : Operand} {n off q ver es p off0 : Nat} {ft : TypeId} {ob : HObj} (ho : o.op = .fieldAddr s x n) (hx : ρ x = .lptr q ver es p off0) (hi : X.T s = some i)
  (hf : i.fieldAt n = some (off, ft)) (hfi : X.T ft = some fi) (hz : 0 < fi.size) (hver : ∃ e len f, ob = .list e es len f ver) : StepOK X o ρ [(q, ob)] (.lptr q ver es p (off0 + off)) [] := .plain fun c a hok _ hH hr => by
 obtain ⟨e, len, f, rfl⟩ := hver
 have hk : c.H[q]? = some (.list e es len f ver) := hH (q, .list e es len f ver) (List.mem_cons_self ..)
 have h1 := hr x (by simp [ho, Op.operands])
 rw [hx] at h1
 obtain ⟨l1, l2, l3, l4⟩ := h1
 obtain ⟨b, hb, h1⟩ := l4 (hok.obj q _ hk).1
 exact ⟨.pointer (some ⟨b, p * es + off0 + off, none⟩), by simp [execOp, ho, h1, run_fieldAt hX hi hf hfi hz], l1, l2, rfl, fun _ => ⟨b, hb, by rw [Nat.add_assoc]⟩⟩
theorem step_load_l (hX : X.Good) {t : TypeId} {i : TI} {x : Operand} {q ver es p off len : Nat} {e : TypeId} {f : Nat -> Nat -> AV} (ho : o.op = .load t x) (hx : ρ x = .lptr q ver es p off) (hi : X.T t = some i)
  (hp : p < len) (hn : off + i.size <= es) : StepOK X o ρ [(q, .list e es len f ver)] (partAV i (f p) off) [] := .plain fun c a hok _ hH hr => by
 have hk : c.H[q]? = some (.list e es len f ver) := hH (q, .list e es len f ver) (List.mem_cons_self ..)
 have h1 := hr x (by simp [ho, Op.operands])
 rw [hx] at h1
 obtain ⟨l1, l2, l3, l4⟩ := h1
 obtain ⟨b, hb, h1⟩ := l4 (hok.obj q _ hk).1
 obtain ⟨xs, o1, o2, o3, o4, o5, o6⟩ := own_slice hok hk
 have ht := hX.types t i hi
 have hle : p * es + es <= len * es := by
  have : (p + 1) * es <= len * es := Nat.mul_le_mul_right _ (by omega)
  rwa [Nat.add_mul, Nat.one_mul] at this
 let ys := (xs.drop (p * es + off)).take i.size
 have hys : ys.length = i.size := by simp [ys]; omega
 have hget : ∀ (j : Nat), j < i.size -> ys[j]? = xs[p * es + (off + j)]? := fun j hj => by
  simp only [ys, List.getElem?_take, List.getElem?_drop, hj, if_true]
  congr 1
  omega
 have hc : ∀ (j : Nat) v, ys[j]? = some v -> c.w.cell? ⟨b, p * es + off + j, none⟩ = some v := fun j v hj => by
  have hlt : j < i.size := by rw [<- hys]; exact (List.getElem?_eq_some_iff.1 hj).1
  rw [hget j hlt] at hj
  rw [Nat.add_assoc]
  exact o6 b hb _ v hj
 refine ⟨i.value ys, by simp [execOp, ho, h1, Instr.loadAt, Instr.sureAddr, ht.run_loadVar hys hc], partAV_reads ht.one hys fun j hj => ?_⟩
 obtain ⟨y, y1, y2⟩ := o5 p (off + j) hp (by omega)
 exact ⟨y, by rw [hget j hj, y1], o3 y (List.mem_of_getElem? y1), Reads.zero y2⟩
def putF (p off : Nat) (l : List AV) (f : Nat -> Nat -> AV) : Nat -> Nat -> AV := fun i j => if i = p /\ off <= j /\ j < off + l.length then l.getD (j - off) .any else f i j
theorem step_store_l (hX : X.Good) {t : TypeId} {i : TI} {y x : Operand} {q ver es p off len : Nat} {e : TypeId} {f : Nat -> Nat -> AV} {l : List AV} (ho : o.op = .store t x y) (hx : ρ x = .lptr q ver es p off) (hi : X.T t = some i)
  (hp : p < len) (hn : off + i.size <= es) (hl : (ρ y).cells = some l) (hs : l.length = i.size) (hfree : (l.all (·.free)) = true) :
  StepOK X o ρ [(q, .list e es len f ver)] .any [(q, .list e es len (putF p off l f) ver)] := .skip fun c a hok _ hH hr => by
 have hk : c.H[q]? = some (.list e es len f ver) := hH (q, .list e es len f ver) (List.mem_cons_self ..)
 have h1 := hr x (by simp [ho, Op.operands])
 have h2 := hr y (by simp [ho, Op.operands])
 rw [hx] at h1
 obtain ⟨l1, l2, l3, l4⟩ := h1
 obtain ⟨b, hb, h1⟩ := l4 (hok.obj q _ hk).1
 obtain ⟨k1, k2⟩ := AV.cells_reads h2 hl
 obtain ⟨hver, _, xs, h3, h4, h5⟩ := hok.obj q _ hk
 have ht := hX.types t i hi
 have hle : p * es + es <= len * es := by
  have : (p + 1) * es <= len * es := Nat.mul_le_mul_right _ (by omega)
  rwa [Nat.add_mul, Nat.one_mul] at this
 rcases h3 with ⟨rfl, _, _⟩ | ⟨b', cap, cur, hv, hc, hh, hno, hcm, hcs, hxs⟩
 ·omega
 rw [hv] at hb
 obtain ⟨cap1, rfl⟩ : ∃ c1, cap = c1 + 1 := ⟨cap - 1, by omega⟩
 simp only [vblk, Option.some.injEq] at hb
 subst hb
 let news := (a.eval y).cells.toList
 have hnl : news.length = i.size := by simp [news, k1, hs]
 have hone : ∀ v ∈ news, v.oneCell' = true := by
  intro v hv
  obtain ⟨j, hj⟩ := List.getElem?_of_mem hv
  have hjl : j < l.length := by rw [hs, <- hnl]; exact (List.getElem?_eq_some_iff.1 hj).1
  obtain ⟨y, y1, y2, _⟩ := k2 j l[j] (by simp [hjl])
  have : news[j]? = some y := by simpa [news] using y1
  rw [hj] at this
  exact (Option.some.inj this) ▸ y2
 have hcap : len * es <= (cap1 + 1) * es := Nat.mul_le_mul_right _ hno
 let cs' := (cur.toList.take (p * es + off + 0) ++ news ++ cur.toList.drop (p * es + off + 0 + news.length)).toArray
 obtain ⟨mk, hh, fz⟩ := hh
 have hst := run_storeCells_mk X.P b' (p * es + off) e mk news 0 cur c.w hh fz (by rw [hnl, hcs]; omega) hone
 have hcs' : cs'.size = cur.size := by simp only [cs', List.size_toArray, List.length_append, List.length_take, List.length_drop, Array.length_toList]; omega
 have hget : ∀ j, cs'.toList[j]? = if p * es + off <= j /\ j < p * es + off + news.length then news[j - (p * es + off)]? else cur.toList[j]? := by
  intro j
  simp only [cs', Nat.add_zero, List.append_assoc]
  by_cases h1 : j < p * es + off
  ·rw [if_neg (by omega), List.getElem?_append_left (by simp; omega), List.getElem?_take_of_lt h1]
  ·rw [List.getElem?_append_right (by simp; omega)]
   have e1 : j - (cur.toList.take (p * es + off)).length = j - (p * es + off) := by simp; omega
   rw [e1]
   by_cases h2 : j < p * es + off + news.length
   ·rw [if_pos (by omega), List.getElem?_append_left (by omega)]
   ·rw [if_neg (by omega), List.getElem?_append_right (by omega), List.getElem?_drop]
    congr 1
    omega
 have hxl : xs.length = len * es := by
  rw [<- hxs, List.length_take, Array.length_toList, hcs]
  exact Nat.min_eq_left hcap
 refine ⟨⟨upd c.g q ⟨(c.g q).b, (c.g q).v, ver⟩, c.I, c.w.setRow b' cs', c.H.set q (.list e es len (putF p off l f) ver)⟩, ?_, ?_, rfl⟩
 ·simp [execOp, ho, h1, Instr.storeAt, Instr.sureAddr, storeVar, ht.run_sizeOf, k1, hs]
  simp only [Nat.add_zero, news] at hst
  rw [hst]
  simp [cs', news]
 ·refine turn_list hok hk rfl rfl rfl (by simp) (fun k _ hk => setRow_other' (fun e => hk (by rw [hv]; simp [vblk, e]))) (Nat.le_refl _) (fun _ => rfl) (fun _ hb => .inr hb)
   (.inr ⟨b', cap1 + 1, cs', hv, hc, ⟨mk, setRow_heap c.w b' cur _ e _ hh, by rw [hcs']; exact fz⟩, hno, hcm, by rw [hcs', hcs], rfl⟩) (fun z hz => ?_) (fun i' j hi' hj => ?_)
  ·obtain ⟨j, hj⟩ := List.getElem?_of_mem (List.mem_of_mem_take hz)
   rw [hget] at hj
   split at hj
   ·exact hone z (List.mem_of_getElem? hj)
   ·have hz' := hz
    obtain ⟨j', hj'⟩ := List.getElem?_of_mem hz'
    rw [List.getElem?_take] at hj'
    split at hj'
    ·rename_i hlt
     rw [hget] at hj'
     split at hj'
     ·exact hone z (List.mem_of_getElem? hj')
     ·refine h4 z (List.mem_of_getElem? (i := j') ?_)
      rw [<- hxs, List.getElem?_take, if_pos hlt]
      exact hj'
    ·cases hj'
  ·have hlt : i' * es + j < len * es := by
    have : (i' + 1) * es <= len * es := Nat.mul_le_mul_right _ (by omega)
    rw [Nat.add_mul] at this
    omega
   rw [List.getElem?_take, if_pos hlt, hget]
   unfold putF
   by_cases hin : i' = p /\ off <= j /\ j < off + l.length
   ·rw [if_pos hin]
    obtain ⟨rfl, hin1, hin2⟩ := hin
    rw [if_pos (by omega)]
    have hjl : j - off < l.length := by omega
    obtain ⟨z, z1, z2, z3⟩ := k2 (j - off) l[j - off] (by simp [hjl])
    refine ⟨z, ?_, ?_⟩
    ·rw [show i' * es + j - (i' * es + off) = j - off by omega]
     simpa [news] using z1
    ·rw [List.getD_eq_getElem?_getD, List.getElem?_eq_getElem hjl, Option.getD_some]
     exact AV.free_reads (g' := c.g) _ _ 0 z (List.all_eq_true.1 hfree _ (List.getElem_mem hjl)) z3
   ·rw [if_neg hin]
    obtain ⟨z, z1, z2⟩ := h5 i' j hi' hj
    refine ⟨z, ?_, z2⟩
    have hne : ¬ (p * es + off <= i' * es + j /\ i' * es + j < p * es + off + news.length) := by
     rintro ⟨n1, n2⟩
     apply hin
     have hsz : off + i.size <= es := hn
     have : i' = p := by
      rcases Nat.lt_trichotomy i' p with h | h | h
      ·have : (i' + 1) * es <= p * es := Nat.mul_le_mul_right _ (by omega)
       rw [Nat.add_mul] at this; omega
      ·exact h
      ·have : (p + 1) * es <= i' * es := Nat.mul_le_mul_right _ (by omega)
       rw [Nat.add_mul] at this; omega
     subst this
     exact ⟨rfl, by omega, by omega⟩
    rw [if_neg hne]
    rw [<- hxs, List.getElem?_take, if_pos hlt] at z1
    exact z1
end
end Go.Fx
/-
 Lists whose last element alone is told, which may hold places of the call's own blocks.
-/
namespace Go.Fx
open Go.RowKit
theorem ownsL_slice {w : World} {e es n : Nat} {v : Value} {xs : List Value} (h2 : OwnsL w e es v n xs) :
  xs.length = n * es /\ (∃ ad cap, v = .slice ad n cap /\ n <= cap /\ (0 < n -> ∃ b, ad = some ⟨b, 0, none⟩ /\ vblk v = some b)) /\
   (∀ b, vblk v = some b -> ∀ (j : Nat) x, xs[j]? = some x -> w.cell? ⟨b, j, none⟩ = some x) := by
 refine ⟨?_, ?_, ?_⟩
 ·rcases h2 with ⟨rfl, rfl, _⟩ | ⟨b, cap, cur, hv, hc, hh, hn, hcm, hcs, hxs⟩
  ·simp
  ·rw [<- hxs, List.length_take, Array.length_toList, hcs]
   exact Nat.min_eq_left (Nat.mul_le_mul_right _ hn)
 ·rcases h2 with ⟨rfl, rfl, a, hv⟩ | ⟨b, cap, cur, hv, hc, hh, hn, _⟩
  ·exact ⟨a, 0, hv, Nat.le_refl _, fun h => by omega⟩
  ·refine ⟨_, cap, hv, hn, fun _ => ⟨b, rfl, ?_⟩⟩
   rw [hv]
   obtain ⟨c1, rfl⟩ : ∃ c1, cap = c1 + 1 := ⟨cap - 1, by omega⟩
   rfl
 ·intro b hb j x hj
  rcases h2 with ⟨rfl, rfl, a, hv⟩ | ⟨b', cap, cur, hv, hc, hh, hn, hcm, hcs, hxs⟩
  ·simp at hj
  ·rw [hv] at hb
   obtain ⟨c1, rfl⟩ : ∃ c1, cap = c1 + 1 := ⟨cap - 1, by omega⟩
   simp only [vblk, Option.some.injEq] at hb
   subst hb
   obtain ⟨mk, hh, _⟩ := hh
   rw [cell_of_row w _ _ cur e _ hh]
   rw [<- hxs, List.getElem?_take] at hj
   split at hj
   ·simpa using hj
   ·cases hj
theorem last_now {c : Cfg} (hok : c.Ok) {k ver e es n : Nat} {cells : List AV} (hk : c.H[k]? = some (.last e es n cells ver)) {v : Value} (h : c.Reads (.own k ver) v) : v = (c.g k).v :=
 h.2.2.2 (hok.obj k _ hk).1
section
variable {X : Ctx} {o : Oper} {ρ : Operand -> AV}
theorem step_buildSlice_last (hX : X.Good) {t e : TypeId} {i ei : TI} {k : Nat} {parts : Array (Nat × Operand)} {out : List AV} (ho : o.op = .buildSlice t 1 parts) (hi : X.T t = some i) (hk' : i.elemOf = some e) (he : X.T e = some ei)
  (hlen : 1 * ei.size <= 16777216) (hout : overlay (fun q => some (q * ei.size, ei.size)) (zeros ei 1) (parts.toList.map fun p => (p.1, ρ p.2)) = some out) (hsz : out.length = 1 * ei.size) :
  StepOK X o ρ [(k, .hole)] (.own k 1) [(k, .last e ei.size 1 out 1)] := .value fun c a hok hb hn hr => by
 have hk : c.H[k]? = some .hole := hn (k, .hole) (List.mem_cons_self ..)
 have h0 : (c.g k).ver = 0 := hok.obj k _ hk
 obtain ⟨cs, h1, h2, h3⟩ := run_buildSlice' (c := c) (a := a) hX ho hi hk' he hr hlen hout
 have hcs : cs.size = 1 * ei.size := by rw [<- hsz, <- h2]; simp
 have hown : OwnsL (c.w.alloc (.cells cs e)) e ei.size (.slice (some ⟨c.w.heap.size, 0, none⟩) 1 1) 1 cs.toList :=
  .inr ⟨c.w.heap.size, 1, cs, rfl, by omega, ⟨(0, 0), heap_alloc_new _ _, .inl rfl⟩, Nat.le_refl _, by simp only [maxLen]; omega, hcs, by rw [<- hcs]; exact List.take_of_length_le (by simp)⟩
 refine ⟨_, ⟨upd c.g k ⟨(c.g k).b, .slice (some ⟨c.w.heap.size, 0, none⟩) 1 1, 1⟩, c.I, c.w.alloc (.cells cs e), c.H.set k (.last e ei.size 1 out 1)⟩, h1, ?_, rfl, ?_⟩
 ·refine Tr.alter hok hk rfl rfl rfl (by simp) (fun b hb _ => alloc_old hb) (fun _ => rfl) (by omega) (fun e => by simp at e; omega) (fun b hb => .inl ?_) ?_
  ·have hb : vblk (upd c.g k ⟨(c.g k).b, .slice (some ⟨c.w.heap.size, 0, none⟩) 1 1, 1⟩ k).v = some b := hb
   rw [upd_same] at hb
   simp only [vblk, Option.some.injEq] at hb
   subst hb
   exact ⟨Nat.le_refl _, by simp⟩
  ·refine ⟨by rw [upd_same], by omega, cs.toList, by rw [upd_same]; exact hown, ?_, by omega, by omega, fun j av hj => ?_⟩
   ·intro x hx
    obtain ⟨j, hj⟩ := List.getElem?_of_mem hx
    have hlt : j < out.length := by rw [<- h2]; exact (List.getElem?_eq_some_iff.1 hj).1
    obtain ⟨y, y1, y2, _⟩ := h3 j out[j] (by simp [hlt])
    rw [hj] at y1
    exact (Option.some.inj y1) ▸ y2
   ·obtain ⟨y, y1, _, y3⟩ := h3 j av hj
    refine ⟨y, by rw [show 1 * ei.size - out.length + j = j by omega]; exact y1, ?_⟩
    refine Reads.mono' (M := c.H.length) (fun q hq => ?_) (fun b o hI => ⟨hI, cell_of_block (alloc_old (hok.imm b o hI))⟩) av _ _ y (Nat.le_refl _) (Nat.le_refl _) y3
    by_cases e : q = k
    ·subst e; rw [upd_same]; exact ⟨fun h => by omega, by show (c.g q).ver <= 1; omega, fun h => by have h : 1 = (c.g q).ver := h; omega⟩
    ·rw [upd_other e]; exact ⟨fun _ => rfl, Nat.le_refl _, fun _ => rfl⟩
 ·exact ⟨by simpa using (List.getElem?_eq_some_iff.1 hk).1, by simp [upd_same], rfl, fun _ => by simp [upd_same]⟩
theorem step_indexAddr_last (hX : X.Good) {t e e' : TypeId} {i ei : TI} {x y : Operand} {es len q ver : Nat} {cells : List AV} {k : IntKind} {n : Int} (ho : o.op = .indexAddr t x y) (hx : ρ x = .own q ver) (hy : ρ y = .int k n)
  (hi : X.T t = some i) (ha : i.elemOf = some e) (he : X.T e = some ei) (hes : ei.size = es) (h0 : 0 <= n) (h1 : n < len) :
  StepOK X o ρ [(q, .last e' es len cells ver)] (.lptr q ver es n.toNat 0) [] := .plain fun c a hok _ hH hr => by
 subst hes
 have hk : c.H[q]? = some (.last e' ei.size len cells ver) := hH (q, .last e' ei.size len cells ver) (List.mem_cons_self ..)
 have r1 := hr x (by simp [ho, Op.operands])
 have r2 := hr y (by simp [ho, Op.operands])
 rw [hx] at r1; rw [hy] at r2
 have r2 : a.eval y = .int k n := r2
 have r1' := last_now hok hk r1
 obtain ⟨_, _, xs, o1, o3, _⟩ := hok.obj q _ hk
 obtain ⟨o2, ⟨ad, cap, o4, o5, o6⟩, o8⟩ := ownsL_slice o1
 obtain ⟨b, rfl, hb⟩ := o6 (by omega)
 have hu := elemOf_spec (hX.types t i hi) ha
 have ht := hX.types e ei he
 refine ⟨.pointer (some ⟨b, n.toNat * ei.size, none⟩), ?_, r1.1, r1.2.1, rfl, fun _ => ⟨b, hb, rfl⟩⟩
 simp [execOp, ho, r1', o4, r2, Instr.indexAt, asIntOf, run_underlying hu, h0, h1, ht.run_sizeOf, Addr.add_lit]
theorem step_load_last (hX : X.Good) {t : TypeId} {i : TI} {x : Operand} {q ver es p off len : Nat} {e : TypeId} {cells : List AV} (ho : o.op = .load t x) (hx : ρ x = .lptr q ver es p off) (hi : X.T t = some i)
  (hp : p + 1 = len) (hn : off + i.size <= es) (hcl : cells.length = es) : StepOK X o ρ [(q, .last e es len cells ver)] (partAV i (fun j => cells.getD j .any) off) [] := .plain fun c a hok _ hH hr => by
 have hk : c.H[q]? = some (.last e es len cells ver) := hH (q, .last e es len cells ver) (List.mem_cons_self ..)
 have h1 := hr x (by simp [ho, Op.operands])
 rw [hx] at h1
 obtain ⟨l1, l2, l3, l4⟩ := h1
 obtain ⟨b, hb, h1⟩ := l4 (hok.obj q _ hk).1
 obtain ⟨_, _, xs, o1, o3, o7, ol, o5⟩ := hok.obj q _ hk
 obtain ⟨o2, o4, o6⟩ := ownsL_slice o1
 have ht := hX.types t i hi
 have hle : p * es + es <= len * es := by
  have : (p + 1) * es <= len * es := Nat.mul_le_mul_right _ (by omega)
  rwa [Nat.add_mul, Nat.one_mul] at this
 let ys := (xs.drop (p * es + off)).take i.size
 have hys : ys.length = i.size := by simp [ys]; omega
 have hget : ∀ (j : Nat), j < i.size -> ys[j]? = xs[p * es + (off + j)]? := fun j hj => by
  simp only [ys, List.getElem?_take, List.getElem?_drop, hj, if_true]
  congr 1
  omega
 have hc : ∀ (j : Nat) v, ys[j]? = some v -> c.w.cell? ⟨b, p * es + off + j, none⟩ = some v := fun j v hj => by
  have hlt : j < i.size := by rw [<- hys]; exact (List.getElem?_eq_some_iff.1 hj).1
  rw [hget j hlt] at hj
  rw [Nat.add_assoc]
  exact o6 b hb _ v hj
 refine ⟨i.value ys, by simp [execOp, ho, h1, Instr.loadAt, Instr.sureAddr, ht.run_loadVar hys hc], partAV_reads ht.one hys fun j hj => ?_⟩
 have hlt : off + j < cells.length := by omega
 obtain ⟨y, y1, y2⟩ := o5 (off + j) cells[off + j] (by simp [hlt])
 have hle2 : p * es + es = len * es := by rw [<- hp, Nat.succ_mul]
 rw [show len * es - cells.length + (off + j) = p * es + (off + j) by omega] at y1
 refine ⟨y, by rw [hget j hj, y1], o3 y (List.mem_of_getElem? y1), ?_⟩
 rw [List.getD_eq_getElem?_getD, List.getElem?_eq_getElem hlt, Option.getD_some]
 exact y2
theorem step_append_last (hX : X.Good) {t e e2 : TypeId} {ti ei : TI} {x y : Operand} {cl : Call} {k k2 ver ver2 n m : Nat} {c1 c2 : List AV} (ho : o.op = .call cl) (hcl : cl.callee = .builtin .append) (hargs : cl.args = #[x, y]) (htys : cl.argTypes = #[t, t])
  (hti : X.T t = some ti) (hte : ti.elemOf = some e) (hei : X.T e = some ei) (hsz : 0 < ei.size) (hx : ρ x = .own k ver) (hy : ρ y = .own k2 ver2) (hm : (n + m) * ei.bytes <= 140737488355328) (hm' : n + m <= 9223372036854775807) (hc2 : c2.length = ei.size) :
  StepOK X o ρ [(k, .last e ei.size n c1 ver), (k2, .last e2 ei.size m c2 ver2)] (.own k (ver + 1)) [(k, .last e ei.size (n + m) c2 (ver + 1))] := .value fun c a hok hb hn hr => by
 have hk : c.H[k]? = some (.last e ei.size n c1 ver) := hn (k, .last e ei.size n c1 ver) (List.mem_cons_self ..)
 have hk2 : c.H[k2]? = some (.last e2 ei.size m c2 ver2) := hn (k2, .last e2 ei.size m c2 ver2) (List.mem_cons_of_mem _ (List.mem_cons_self ..))
 have r1 := hr x (by simp [ho, Op.operands, Call.operands, hcl, hargs])
 have r2 := hr y (by simp [ho, Op.operands, Call.operands, hcl, hargs])
 rw [hx] at r1; rw [hy] at r2
 have r1 := last_now hok hk r1
 have r2 := last_now hok hk2 r2
 obtain ⟨v1, vp, xs, o1, o3, on, ol, o5⟩ := hok.obj k _ hk
 obtain ⟨o2, _, o6⟩ := ownsL_slice o1
 obtain ⟨_, _, zs, p1, p3, pn, pl, p5⟩ := hok.obj k2 _ hk2
 obtain ⟨p2, ⟨ad, cap, p4, _, p4'⟩, p6⟩ := ownsL_slice p1
 have hE : Elems c ei.size m (fun i j => .val (zs.getD (i * ei.size + j) .nilFunc)) (a.eval y) := by
  rw [r2, p4]
  refine ⟨ad, cap, zs, rfl, p2, p3, fun b hb j x hj => ?_, fun h => ?_, fun i j hi hj => ?_⟩
  ·obtain ⟨b', rfl, hv⟩ := p4' pn
   cases hb
   rw [Addr.add_lit, Nat.zero_add]
   exact p6 b' hv j x hj
  ·obtain ⟨b', rfl, _⟩ := p4' pn
   simp
  ·have hlt : i * ei.size + j < zs.length := by
    rw [p2]
    have : (i + 1) * ei.size <= m * ei.size := Nat.mul_le_mul_right _ (by omega)
    rw [Nat.add_mul] at this; omega
   exact ⟨zs[i * ei.size + j], by simp [hlt], by show _ = _; simp [hlt]⟩
 obtain ⟨v, w', ys, q1, q2, q3, q4, q5, q6, q7, q8, q9, q10, q11⟩ := run_append' (X := X) hX (c := c) (x := a.eval x) (y := a.eval y) (cl := cl) (n := n) (m := m) (ty := o.type) hti hte hei rfl hsz (xs := xs)
  (by rw [r1]; exact o1) o3 hE hm (by simp only [maxLen]; omega)
 refine ⟨v, ⟨upd c.g k ⟨(c.g k).b, v, ver + 1⟩, c.I, w', c.H.set k (.last e ei.size (n + m) c2 (ver + 1))⟩, ?_, ?_, rfl, ?_⟩
 ·simp [execOp, ho, resolve, hcl, hargs, htys, invoke, builtin, q1]
 ·refine Tr.alter hok hk q6 q7 q8 q9 (fun b hb hne => q10 b hb (by rw [r1]; exact hne)) (fun _ => rfl) (by show (c.g k).ver <= ver + 1; omega) (fun e => by have e : ver + 1 = (c.g k).ver := e; omega) (fun b hb => ?_) ?_
  ·have hb : vblk (upd c.g k ⟨(c.g k).b, v, ver + 1⟩ k).v = some b := hb
   rw [upd_same] at hb
   rcases q11 b hb with h | h
   ·exact .inl h
   ·rw [r1] at h; exact .inr h
  ·refine ⟨by rw [upd_same], by omega, xs ++ ys, by rw [upd_same]; exact q2, ?_, by omega, by rw [hc2, Nat.add_mul]; have : ei.size <= m * ei.size := Nat.le_mul_of_pos_left _ pn; omega, fun j av hj => ?_⟩
   ·intro z hz
    rcases List.mem_append.1 hz with h | h
    ·exact o3 z h
    ·exact q4 z h
   ·have hjl : j < ei.size := by rw [<- hc2]; exact (List.getElem?_eq_some_iff.1 hj).1
    obtain ⟨y, y1, y2⟩ := p5 j av hj
    have hmm : m * ei.size = (m - 1) * ei.size + ei.size := by
     obtain ⟨m', rfl⟩ : ∃ m', m = m' + 1 := ⟨m - 1, by omega⟩
     rw [Nat.add_sub_cancel, Nat.succ_mul]
    rw [show m * ei.size - c2.length + j = (m - 1) * ei.size + j by omega] at y1
    obtain ⟨u, u1, u2⟩ := q5 (m - 1) j (by omega) hjl
    have u2 : u = zs.getD ((m - 1) * ei.size + j) .nilFunc := u2
    rw [List.getD_eq_getElem?_getD, y1, Option.getD_some] at u2
    subst u2
    refine ⟨u, ?_, ?_⟩
    ·have e1 : (n + m) * ei.size - c2.length + j = n * ei.size + ((m - 1) * ei.size + j) := by rw [Nat.add_mul]; omega
     rw [e1, List.getElem?_append_right (by rw [o2]; omega), o2, show n * ei.size + ((m - 1) * ei.size + j) - n * ei.size = (m - 1) * ei.size + j by omega]
     exact u1
    ·refine Reads.mono' (M := c.H.length) (fun q hq => ?_) (fun b o hI => ⟨hI, cell_of_block (q10 b (hok.imm b o hI) fun e => hok.immApart b o k _ hI hk (by show vblk (c.g k).v = some b; rw [<- r1]; exact e))⟩) av _ _ u (Nat.le_refl _) (Nat.le_refl _) y2
     by_cases e : q = k
     ·subst e; rw [upd_same]; exact ⟨fun _ => rfl, by show (c.g q).ver <= ver + 1; omega, fun h => by have h : ver + 1 = (c.g q).ver := h; omega⟩
     ·rw [upd_other e]; exact ⟨fun _ => rfl, Nat.le_refl _, fun _ => rfl⟩
 ·refine ⟨by simpa using (List.getElem?_eq_some_iff.1 hk).1, by simp [upd_same], ?_, fun _ => by simp [upd_same]⟩
  rcases q2 with ⟨_, _, ad, rfl⟩ | ⟨_, _, _, rfl, _⟩ <;> rfl
theorem step_load_full (hX : X.Good) {t : TypeId} {i : TI} {x : Operand} {q ver es p off len : Nat} {e : TypeId} {cells : List AV} (ho : o.op = .load t x) (hx : ρ x = .lptr q ver es p off) (hi : X.T t = some i)
  (hp : p < len) (hn : off + i.size <= es) (hcl : cells.length = len * es) : StepOK X o ρ [(q, .last e es len cells ver)] (partAV i (fun j => cells.getD j .any) (p * es + off)) [] := .plain fun c a hok _ hH hr => by
 have hk : c.H[q]? = some (.last e es len cells ver) := hH (q, .last e es len cells ver) (List.mem_cons_self ..)
 have h1 := hr x (by simp [ho, Op.operands])
 rw [hx] at h1
 obtain ⟨l1, l2, l3, l4⟩ := h1
 obtain ⟨b, hb, h1⟩ := l4 (hok.obj q _ hk).1
 obtain ⟨_, _, xs, o1, o3, o7, ol, o5⟩ := hok.obj q _ hk
 obtain ⟨o2, o4, o6⟩ := ownsL_slice o1
 have ht := hX.types t i hi
 have hle : p * es + es <= len * es := by
  have : (p + 1) * es <= len * es := Nat.mul_le_mul_right _ (by omega)
  rwa [Nat.add_mul, Nat.one_mul] at this
 let ys := (xs.drop (p * es + off)).take i.size
 have hys : ys.length = i.size := by simp [ys]; omega
 have hget : ∀ (j : Nat), j < i.size -> ys[j]? = xs[p * es + off + j]? := fun j hj => by
  simp only [ys, List.getElem?_take, List.getElem?_drop, hj, if_true]
 have hc : ∀ (j : Nat) v, ys[j]? = some v -> c.w.cell? ⟨b, p * es + off + j, none⟩ = some v := fun j v hj => by
  have hlt : j < i.size := by rw [<- hys]; exact (List.getElem?_eq_some_iff.1 hj).1
  rw [hget j hlt] at hj
  exact o6 b hb _ v hj
 refine ⟨i.value ys, by simp [execOp, ho, h1, Instr.loadAt, Instr.sureAddr, ht.run_loadVar hys hc], partAV_reads ht.one hys fun j hj => ?_⟩
 have hlt : p * es + off + j < cells.length := by omega
 obtain ⟨y, y1, y2⟩ := o5 (p * es + off + j) cells[p * es + off + j] (by simp [hlt])
 rw [show len * es - cells.length + (p * es + off + j) = p * es + off + j by omega] at y1
 refine ⟨y, by rw [hget j hj, y1], o3 y (List.mem_of_getElem? y1), ?_⟩
 rw [List.getD_eq_getElem?_getD, List.getElem?_eq_getElem hlt, Option.getD_some]
 exact y2
theorem step_store_full (hX : X.Good) {t : TypeId} {i : TI} {y x : Operand} {q ver es p off len : Nat} {e : TypeId} {cells l : List AV} (ho : o.op = .store t x y) (hx : ρ x = .lptr q ver es p off) (hi : X.T t = some i)
  (hp : p < len) (hn : off + i.size <= es) (hl : (ρ y).cells = some l) (hs : l.length = i.size) (hcl : cells.length = len * es) :
  StepOK X o ρ [(q, .last e es len cells ver)] .any [(q, .last e es len (setCells cells (p * es + off) l) ver)] := .skip fun c a hok _ hH hr => by
 have hk : c.H[q]? = some (.last e es len cells ver) := hH (q, .last e es len cells ver) (List.mem_cons_self ..)
 have h1 := hr x (by simp [ho, Op.operands])
 have h2 := hr y (by simp [ho, Op.operands])
 rw [hx] at h1
 obtain ⟨l1, l2, l3, l4⟩ := h1
 obtain ⟨b, hb, h1⟩ := l4 (hok.obj q _ hk).1
 obtain ⟨k1, k2⟩ := AV.cells_reads h2 hl
 obtain ⟨hver, hvp, xs, h3, h4, hln, hll, h5⟩ := hok.obj q _ hk
 have ht := hX.types t i hi
 have hle : p * es + es <= len * es := by
  have : (p + 1) * es <= len * es := Nat.mul_le_mul_right _ (by omega)
  rwa [Nat.add_mul, Nat.one_mul] at this
 rcases h3 with ⟨rfl, _, _⟩ | ⟨b', cap, cur, hv, hc, hh, hno, hcm, hcs, hxs⟩
 ·omega
 rw [hv] at hb
 obtain ⟨cap1, rfl⟩ : ∃ c1, cap = c1 + 1 := ⟨cap - 1, by omega⟩
 simp only [vblk, Option.some.injEq] at hb
 subst hb
 let news := (a.eval y).cells.toList
 have hnl : news.length = i.size := by simp [news, k1, hs]
 have hone : ∀ v ∈ news, v.oneCell' = true := by
  intro v hv
  obtain ⟨j, hj⟩ := List.getElem?_of_mem hv
  have hjl : j < l.length := by rw [hs, <- hnl]; exact (List.getElem?_eq_some_iff.1 hj).1
  obtain ⟨y, y1, y2, _⟩ := k2 j l[j] (by simp [hjl])
  have : news[j]? = some y := by simpa [news] using y1
  rw [hj] at this
  exact (Option.some.inj this) ▸ y2
 have hcap : len * es <= (cap1 + 1) * es := Nat.mul_le_mul_right _ hno
 let cs' := (cur.toList.take (p * es + off + 0) ++ news ++ cur.toList.drop (p * es + off + 0 + news.length)).toArray
 obtain ⟨mk, hh, fz⟩ := hh
 have hst := run_storeCells_mk X.P b' (p * es + off) e mk news 0 cur c.w hh fz (by rw [hnl, hcs]; omega) hone
 have hcs' : cs'.size = cur.size := by simp only [cs', List.size_toArray, List.length_append, List.length_take, List.length_drop, Array.length_toList]; omega
 have hget : ∀ j, cs'.toList[j]? = if p * es + off <= j /\ j < p * es + off + news.length then news[j - (p * es + off)]? else cur.toList[j]? := by
  intro j
  simp only [cs', Nat.add_zero, List.append_assoc]
  by_cases h1 : j < p * es + off
  ·rw [if_neg (by omega), List.getElem?_append_left (by simp; omega), List.getElem?_take_of_lt h1]
  ·rw [List.getElem?_append_right (by simp; omega)]
   have e1 : j - (cur.toList.take (p * es + off)).length = j - (p * es + off) := by simp; omega
   rw [e1]
   by_cases h2 : j < p * es + off + news.length
   ·rw [if_pos (by omega), List.getElem?_append_left (by omega)]
   ·rw [if_neg (by omega), List.getElem?_append_right (by omega), List.getElem?_drop]
    congr 1
    omega
 have hxl : xs.length = len * es := by
  rw [<- hxs, List.length_take, Array.length_toList, hcs]
  exact Nat.min_eq_left hcap
 have hxo : ∀ b, c.I b' b -> False := fun p' hI => hok.immApart b' p' q _ hI hk (by show vblk (c.g q).v = some b'; rw [hv]; rfl)
 refine ⟨⟨upd c.g q ⟨(c.g q).b, (c.g q).v, ver⟩, c.I, c.w.setRow b' cs', c.H.set q (.last e es len (setCells cells (p * es + off) l) ver)⟩, ?_, ?_, rfl⟩
 ·simp [execOp, ho, h1, Instr.storeAt, Instr.sureAddr, storeVar, ht.run_sizeOf, k1, hs]
  simp only [Nat.add_zero, news] at hst
  rw [hst]
  simp [cs', news]
 ·have hblock : ∀ bb, bb < c.w.heap.size -> vblk (c.g q).v ≠ some bb -> (c.w.setRow b' cs').heap[bb]? = c.w.heap[bb]? := fun k _ hk => setRow_other' (fun e => hk (by rw [hv]; simp [vblk, e]))
  refine Tr.alter hok hk rfl rfl rfl (by simp) (fun b hb hne => hblock b hb hne) (fun _ => rfl) (by show (c.g q).ver <= ver; omega) (fun e => rfl) (fun b hb => ?_) ?_
  ·have hb : vblk (upd c.g q ⟨(c.g q).b, (c.g q).v, ver⟩ q).v = some b := hb
   rw [upd_same] at hb
   exact .inr hb
  ·refine ⟨by rw [upd_same], hvp, cs'.toList.take (len * es), by rw [upd_same]; exact .inr ⟨b', cap1 + 1, cs', hv, hc, ⟨mk, setRow_heap c.w b' cur _ e _ hh, by rw [hcs']; exact fz⟩, hno, hcm, by rw [hcs', hcs], rfl⟩, fun z hz => ?_, hln, by rw [length_setCells]; exact hll, fun j av hj => ?_⟩
   ·obtain ⟨j', hj'⟩ := List.getElem?_of_mem hz
    rw [List.getElem?_take] at hj'
    split at hj'
    ·rename_i hlt
     rw [hget] at hj'
     split at hj'
     ·exact hone z (List.mem_of_getElem? hj')
     ·refine h4 z (List.mem_of_getElem? (i := j') ?_)
      rw [<- hxs, List.getElem?_take, if_pos hlt]
      exact hj'
    ·cases hj'
   ·have hjl : j < len * es := by
     have := (List.getElem?_eq_some_iff.1 hj).1
     rw [length_setCells, hcl] at this
     exact this
    rw [length_setCells, show len * es - cells.length + j = j by omega, List.getElem?_take, if_pos hjl, hget]
    rw [getElem?_setCells _ _ _ _ (by rw [hs, hcl]; omega)] at hj
    have hrd : ∀ {av : AV} {m : Nat} {u : Value}, Reads c.g c.I c.w av c.H.length u -> Reads (upd c.g q ⟨(c.g q).b, (c.g q).v, ver⟩) c.I (c.w.setRow b' cs') av c.H.length u := fun {av m u} h =>
     Reads.mono' (M := c.H.length) (fun k _ => by
      by_cases e : k = q
      ·subst e; rw [upd_same]; exact ⟨fun _ => rfl, by show (c.g k).ver <= ver; omega, fun _ => rfl⟩
      ·rw [upd_other e]; exact ⟨fun _ => rfl, Nat.le_refl _, fun _ => rfl⟩) (fun b o hI => ⟨hI, cell_of_block (hblock b (hok.imm b o hI) fun e => hok.immApart b o q _ hI hk e)⟩) av _ _ u (Nat.le_refl _) (Nat.le_refl _) h
    by_cases hin : p * es + off <= j /\ j < p * es + off + l.length
    ·rw [if_pos hin] at hj
     rw [if_pos (by rw [hnl, <- hs]; exact hin)]
     obtain ⟨y, y1, y2, y3⟩ := k2 (j - (p * es + off)) av hj
     exact ⟨y, by simpa [news] using y1, hrd (m := 0) y3⟩
    ·rw [if_neg hin] at hj
     rw [if_neg (by rw [hnl, <- hs]; exact hin)]
     obtain ⟨x, x1, x2⟩ := h5 j av hj
     rw [show len * es - cells.length + j = j by omega] at x1
     refine ⟨x, ?_, hrd (m := 0) x2⟩
     rw [<- hxs, List.getElem?_take, if_pos hjl] at x1
     exact x1
theorem step_convert_bytes_own (hX : X.Good) {s t e : TypeId} {x : Operand} {bs : ByteArray} {i si ei : TI} {k : Nat} (ho : o.op = .convert s t x) (hx : ρ x = .str bs) (hi : X.T t = some i) (hel : i.elemOf = some e) (he : X.T e = some ei) (hk' : ei.kind = .int .u8) (hsi : X.T s = some si) (hm : bs.size <= 9223372036854775807) :
  StepOK X o ρ [(k, .hole)] (.own k 1) [(k, .list e 1 bs.size (fun i _ => .int .u8 (byteAt bs i)) 1)] := .value fun c a hok hb hn hr' => by
 have hk : c.H[k]? = some .hole := hn (k, .hole) (List.mem_cons_self ..)
 have h1 := hr' x (by simp [ho, Op.operands])
 rw [hx] at h1
 have h1 : a.eval x = .string bs := h1
 obtain ⟨d', hd', _⟩ := (hX.types s si hsi).desc
 obtain ⟨d, hd, hf⟩ := (hX.types e ei he).desc
 rw [hk'] at hf
 obtain rfl : d = _ := hf
 have hu := elemOf_spec (hX.types t i hi) hel
 have hrun := Lib.run_convert_string_bytes (P := X.P) c.w s t e bs hd' hu hd
 have hex : (execOp a.eval o).run X.P c.w = .ok (.value (.slice (some ⟨c.w.heap.size, 0, none⟩) bs.size (grownCap c.w bs.size 0 e))) (Lib.bytesWorld c.w e bs) := by simp [execOp, ho, h1, hrun]
 have hge := grownCap_ge c.w bs.size 0 e
 have hcm : grownCap c.w bs.size 0 e <= maxLen := grownCap_le_maxLen c.w bs.size 0 e (by simp only [maxLen]; omega)
 have hcs : (Lib.bytesCells c.w e bs).size = grownCap c.w bs.size 0 e := by
  simp only [Lib.bytesCells, Array.size_append, Array.size_map, Array.size_replicate]
  have : bs.data.size = bs.size := rfl
  omega
 let xs : List Value := bs.data.toList.map fun b => Value.int .u8 b.toNat
 have hxs : xs.length = bs.size := by simp [xs]
 have hown : OwnsL (Lib.bytesWorld c.w e bs) e 1 (.slice (some ⟨c.w.heap.size, 0, none⟩) bs.size (grownCap c.w bs.size 0 e)) bs.size xs := by
  rcases Nat.eq_zero_or_pos (grownCap c.w bs.size 0 e) with h0 | h0
  ·have hz : bs.size = 0 := by omega
   refine .inl ⟨hz, List.eq_nil_of_length_eq_zero (by rw [hxs]; exact hz), _, by rw [hz] at h0 ⊢; rw [h0]⟩
  ·refine .inr ⟨c.w.heap.size, _, Lib.bytesCells c.w e bs, rfl, h0, ⟨_, Lib.bytesWorld_at_new c.w e bs, .inr (Nat.le_refl _)⟩, hge, hcm, by rw [hcs, Nat.mul_one], ?_⟩
   rw [Nat.mul_one, <- hxs]
   simp only [Lib.bytesCells, Array.toList_append, Array.toList_map]
   exact List.take_left
 refine ⟨_, _, hex, fill_list (w' := Lib.bytesWorld c.w e bs) hok hk rfl rfl rfl (by rw [Lib.bytesWorld_size]; omega) (fun b hb => Lib.bytesWorld_at_old c.w e bs b hb) (fun b hb => ?_) hown ?_ ?_, rfl, ?_⟩
 ·have hb : vblk (.slice (some ⟨c.w.heap.size, 0, none⟩) bs.size (grownCap c.w bs.size 0 e)) = some b := hb
  cases hq : grownCap c.w bs.size 0 e with
  | zero => rw [hq] at hb; cases hb
  | succ q =>
   rw [hq] at hb
   simp only [vblk, Option.some.injEq] at hb
   subst hb
   exact ⟨Nat.le_refl _, by rw [Lib.bytesWorld_size]; omega⟩
 ·intro y hy
  obtain ⟨b, _, rfl⟩ := List.mem_map.1 hy
  rfl
 ·intro p j hp hj
  obtain rfl : j = 0 := by omega
  have hlt : p < xs.length := by rw [hxs]; exact hp
  refine ⟨xs[p], by rw [Nat.mul_one, Nat.add_zero]; exact List.getElem?_eq_getElem hlt, ?_⟩
  have hp2 : p < bs.data.size := hp
  simp only [xs, List.getElem_map]
  show _ = Value.int .u8 (byteAt bs p)
  unfold byteAt
  rw [Array.getElem?_eq_getElem hp2]
  simp
 ·exact ⟨by simpa using (List.getElem?_eq_some_iff.1 hk).1, by simp [upd_same], rfl, fun _ => by simp [upd_same]⟩
end
end Go.Fx
/-
 What two values have in common; conversions.
-/
namespace Go.Fx
open Go.RowKit
def eqFieldsAV (X : Ctx) (eq : TypeId -> AV -> AV -> Option Bool) (f g : Nat -> AV) (n : Nat) : List (Nat × TypeId) -> Option Bool
 | [] => some true
 | (off, t) :: fs =>
  match X.T t with
  | none => none
  | some i =>
   bif Nat.ble (off + i.size) n then
    match eq t (partAV i f off) (partAV i g off), eqFieldsAV X eq f g n fs with
    | some x, some y => some (x && y)
    | _, _ => none
   else none
def eqItemsAV (eq : AV -> AV -> Option Bool) (i : TI) (f g : Nat -> AV) (n : Nat) : List Nat -> Option Bool
 | [] => some true
 | j :: js =>
  bif Nat.ble (j * i.size + i.size) n then
   match eq (partAV i f (j * i.size)) (partAV i g (j * i.size)), eqItemsAV eq i f g n js with
   | some x, some y => some (x && y)
   | _, _ => none
  else none
def eqAV (X : Ctx) : Nat -> TypeId -> AV -> AV -> Option Bool
 | 0, _, _, _ => none
 | d + 1, t, a, b =>
  match X.T t with
  | none => none
  | some i =>
   match i.kind, a, b with
   | .int _, .int k n, .int k' m => bif decide (k = k') then some (n == m) else none
   | .string, .str p, .str q => some (decide (p = q))
   | .struct fs, .agg n f, .agg m g => bif i.cmp && Nat.beq n i.size && Nat.beq m i.size then eqFieldsAV X (eqAV X d) f g n fs else none
   | .array k e, .agg n f, .agg m g =>
    match X.T e with
    | none => none
    | some ei => bif i.cmp && Nat.beq n i.size && Nat.beq m i.size then eqItemsAV (eqAV X d e) ei f g n (List.range k) else none
   | _, _, _ => none
theorem cells_part {c : Cfg} {n off : Nat} {f : Nat -> AV} {cs : Array Value} {i : TI} {P : Program} {t : TypeId} (ht : TIok P t i) (hn : off + i.size <= n) (hs : cs.size = n)
  (h : ∀ j, j < n -> ∃ x, cs[j]? = some x /\ x.oneCell' = true /\ c.Reads (f j) x) (w : World) :
  ∃ v, (part t cs off).run P w = .ok v w /\ c.Reads (partAV i f off) v := by
 let xs := (cs.toList.drop off).take i.size
 have hxs : xs.length = i.size := by simp [xs]; omega
 have hc : ∀ (j : Nat) v, xs[j]? = some v -> cs[off + j]? = some v := fun j v hj => by
  simp only [xs, List.getElem?_take, List.getElem?_drop] at hj
  split at hj
  ·simpa using hj
  ·cases hj
 refine ⟨i.value xs, ht.run_part w hxs hc, partAV_reads ht.one hxs fun j hj => ?_⟩
 obtain ⟨y, y1, y2, y3⟩ := h (off + j) (by omega)
 exact ⟨y, by simp only [xs, List.getElem?_take, List.getElem?_drop, hj, if_true]; simpa using y1, y2, y3⟩
theorem eqAV_sound {X : Ctx} (hX : X.Good) {c : Cfg} : ∀ (d D : Nat) (t : TypeId) (a b : AV) (r : Bool) (x y : Value) (w : World), d <= D -> eqAV X d t a b = some r -> c.Reads a x -> c.Reads b y -> (Op.equalIn D t x y).run X.P w = .ok r w := by
 intro d
 induction d with
 | zero => intro D t a b r x y w _ h; cases h
 | succ d ih =>
  intro D t a b r x y w hD h hx hy
  obtain ⟨D, rfl⟩ : ∃ q, D = q + 1 := ⟨D - 1, by omega⟩
  simp only [eqAV] at h
  cases hT : X.T t with
  | none => rw [hT] at h; cases h
  | some i =>
   rw [hT] at h
   have ht := hX.types t i hT
   obtain ⟨dd, hd, hf⟩ := ht.desc
   simp only at h
   split at h
   ·rename_i k0 k n k' m hk
    cases hkk : decide (k = k') with
    | false => rw [hkk] at h; cases h
    | true =>
     rw [hkk] at h
     cases h
     obtain rfl : k = k' := by simpa using hkk
     obtain rfl : x = .int k n := hx
     obtain rfl : y = .int k m := hy
     rw [hk] at hf
     exact run_equalIn_int w D t k k0 n m (by rw [hd, show dd = _ from hf])
   ·rename_i p q hk
    cases h
    obtain rfl : x = .string p := hx
    obtain rfl : y = .string q := hy
    rw [hk] at hf
    rw [run_equalIn_string w D t p q (by rw [hd, show dd = _ from hf]), beq_toList]
   ·rename_i fs n f m g hk
    cases hc : (i.cmp && Nat.beq n i.size && Nat.beq m i.size) with
    | false => rw [hc] at h; cases h
    | true =>
     rw [hc] at h
     simp only [cond_true] at h
     simp only [Bool.and_eq_true, Nat.beq_eq] at hc
     obtain ⟨⟨hc1, hc2⟩, hc3⟩ := hc
     obtain ⟨p1, p2, p3⟩ := ht.plain hc1
     rw [hk] at hf
     obtain ⟨F, rfl, hF⟩ := hf
     obtain ⟨cs, rfl, s1, s2⟩ := hx
     obtain ⟨ds, rfl, e1, e2⟩ := hy
     have hfo : X.P.fieldsOf t = F := by simp [Program.fieldsOf, hd]
     rw [run_equalIn_struct w D t cs ds (by rw [hfo, hd]) p1, hfo]
     have p3 := p3 F hd
     clear hd hfo
     rw [<- hF] at h
     generalize F.toList = L at h p3
     clear hF
     induction L generalizing r with
     | nil => simp only [List.map_nil, eqFieldsAV, Option.some.injEq] at h; subst h; rfl
     | cons fd L ihL =>
      simp only [List.map_cons, eqFieldsAV] at h
      cases hTf : X.T fd.type with
      | none => rw [hTf] at h; cases h
      | some fi =>
       rw [hTf] at h
       simp only at h
       cases hb : Nat.ble (fd.offset + fi.size) n with
       | false => rw [hb] at h; cases h
       | true =>
        rw [hb] at h
        simp only [cond_true] at h
        rw [Nat.ble_eq] at hb
        split at h
        ·rename_i r1 r2 hr1 hr2
         cases h
         have htf := hX.types _ fi hTf
         obtain ⟨v, v1, v2⟩ := cells_part (c := c) htf hb s1 s2 w
         obtain ⟨u, u1, u2⟩ := cells_part (c := c) (off := fd.offset) (n := m) (f := g) htf (by omega) e1 e2 w
         have hne : fd.name ≠ "_" := p3 fd (List.mem_cons_self ..)
         have e3 := ih D fd.type _ _ r1 v u w (by omega) hr1 v2 u2
         have e4 := ihL r2 hr2 (fun f' hf' => p3 f' (List.mem_cons_of_mem _ hf'))
         simp only [Op.eqFields, if_pos hne, Sem.run_bind, v1, Result.andThen_ok, u1, e3]
         cases r1
         ·simp
         ·simp only [Bool.not_true, Bool.false_eq_true, if_false, Bool.true_and]
          exact e4
        ·cases h
   ·rename_i k e n f m g hk
    cases hTe : X.T e with
    | none => rw [hTe] at h; cases h
    | some ei =>
     rw [hTe] at h
     simp only at h
     cases hc : (i.cmp && Nat.beq n i.size && Nat.beq m i.size) with
     | false => rw [hc] at h; cases h
     | true =>
      rw [hc] at h
      simp only [cond_true] at h
      simp only [Bool.and_eq_true, Nat.beq_eq] at hc
      obtain ⟨⟨hc1, hc2⟩, hc3⟩ := hc
      rw [hk] at hf
      obtain rfl : dd = .array k e := hf
      obtain ⟨cs, rfl, s1, s2⟩ := hx
      obtain ⟨ds, rfl, e1, e2⟩ := hy
      have hte := hX.types e ei hTe
      obtain ⟨info, z, i1, i2, _⟩ := hte.info
      have hce : X.P.cellsOf e = ei.size := by simp [Program.cellsOf, i1, i2]
      rw [run_equalIn_array w D cs ds hd i1, hce]
      clear hd
      generalize List.range k = L at h
      induction L generalizing r with
      | nil => simp only [eqItemsAV, Option.some.injEq] at h; subst h; rfl
      | cons j L ihL =>
       simp only [eqItemsAV] at h
       cases hb : Nat.ble (j * ei.size + ei.size) n with
       | false => rw [hb] at h; cases h
       | true =>
        rw [hb] at h
        simp only [cond_true] at h
        rw [Nat.ble_eq] at hb
        split at h
        ·rename_i r1 r2 hr1 hr2
         cases h
         obtain ⟨v, v1, v2⟩ := cells_part (c := c) hte hb s1 s2 w
         obtain ⟨u, u1, u2⟩ := cells_part (c := c) (off := j * ei.size) (n := m) (f := g) hte (by omega) e1 e2 w
         have e3 := ih D e _ _ r1 v u w (by omega) hr1 v2 u2
         have e4 := ihL r2 hr2
         simp only [Op.eqItems, Sem.run_bind, v1, Result.andThen_ok, u1, e3]
         cases r1
         ·simp
         ·simp only [Bool.not_true, Bool.false_eq_true, if_false, Bool.true_and]
          exact e4
        ·cases h
   ·cases h
section
variable {X : Ctx} {o : Oper} {ρ : Operand -> AV}
theorem step_eq_agg (hX : X.Good) {t u : TypeId} {x y : Operand} {n m : Nat} {f g : Nat -> AV} {r : Bool} {i : TI} (ho : o.op = .binOp .eql t x y u) (hx : ρ x = .agg n f) (hy : ρ y = .agg m g) (hi : X.T t = some i) (hc : i.cmp = true)
  (h : eqAV X 8 t (.agg n f) (.agg m g) = some r) : StepOK X o ρ [] (.bool r) [] := .plain fun c a _ _ _ hr => by
 have h1 := hr x (by simp [ho, Op.operands])
 have h2 := hr y (by simp [ho, Op.operands])
 rw [hx] at h1; rw [hy] at h2
 have he := eqAV_sound hX (c := c) 8 10000 t _ _ r _ _ c.w (by omega) h h1 h2
 obtain ⟨cs, h1, _⟩ := h1
 obtain ⟨ds, h2, _⟩ := h2
 rw [h1, h2] at he
 exact ⟨_, by simp only [execOp, ho, h1, h2, Sem.run_bind, run_eqGuard_agg c.w _ _ _ _ _ _ ((hX.types t i hi).plain hc).2.1, run_eql_struct, Result.andThen_ok, he]; rfl, rfl⟩
theorem step_ne_agg (hX : X.Good) {t u : TypeId} {x y : Operand} {n m : Nat} {f g : Nat -> AV} {r : Bool} {i : TI} (ho : o.op = .binOp .neq t x y u) (hx : ρ x = .agg n f) (hy : ρ y = .agg m g) (hi : X.T t = some i) (hc : i.cmp = true)
  (h : eqAV X 8 t (.agg n f) (.agg m g) = some r) : StepOK X o ρ [] (.bool (!r)) [] := .plain fun c a _ _ _ hr => by
 have h1 := hr x (by simp [ho, Op.operands])
 have h2 := hr y (by simp [ho, Op.operands])
 rw [hx] at h1; rw [hy] at h2
 have he := eqAV_sound hX (c := c) 8 10000 t _ _ r _ _ c.w (by omega) h h1 h2
 obtain ⟨cs, h1, _⟩ := h1
 obtain ⟨ds, h2, _⟩ := h2
 rw [h1, h2] at he
 exact ⟨_, by simp only [execOp, ho, h1, h2, Sem.run_bind, run_eqGuard_agg c.w _ _ _ _ _ _ ((hX.types t i hi).plain hc).2.1, run_neq_struct, Result.andThen_ok, he]; rfl, rfl⟩
theorem step_eq_nil {t u : TypeId} {x : Operand} (ho : o.op = .binOp .eql t x (.const .nilIface) u) (hu : X.P.underlying t = some (.interface (X.P.methodsAt t))) (hx : ρ x = .val .nilIface) :
  StepOK X o ρ [] (.bool true) [] := .plain fun c a _ _ _ hr => by
 have h1 := hr x (by simp [ho, Op.operands])
 rw [hx] at h1
 have h1 : a.eval x = .nilIface := h1
 have h2 : a.eval (.const .nilIface) = .nilIface := rfl
 refine ⟨.bool true, ?_, rfl⟩
 have e1 : (eqGuard .eql t x (.const .nilIface) .nilIface .nilIface).run X.P c.w = .ok () c.w := by simp [eqGuard]
 simp only [execOp, ho, h1, h2, Sem.run_bind, e1, Result.andThen_ok, run_eql_nil_nil c.w t hu, Sem.run_pure]
theorem step_eq_ifc {t u : TypeId} {x : Operand} (ho : o.op = .binOp .eql t x (.const .nilIface) u) (hu : X.P.underlying t = some (.interface (X.P.methodsAt t))) (hx : ρ x = .ifc) :
  StepOK X o ρ [] (.bool false) [] := .plain fun c a _ _ _ hr => by
 have h1 := hr x (by simp [ho, Op.operands])
 rw [hx] at h1
 obtain ⟨ty, v, h1⟩ := h1
 have h2 : a.eval (.const .nilIface) = .nilIface := rfl
 refine ⟨.bool false, ?_, rfl⟩
 have e1 : (eqGuard .eql t x (.const .nilIface) (.iface ty v) .nilIface).run X.P c.w = .ok () c.w := by simp [eqGuard]
 simp only [execOp, ho, h1, h2, Sem.run_bind, e1, Result.andThen_ok, run_eql_held_nil c.w t ty v hu, Sem.run_pure]
theorem step_ne_nil {t u : TypeId} {x : Operand} (ho : o.op = .binOp .neq t x (.const .nilIface) u) (hu : X.P.underlying t = some (.interface (X.P.methodsAt t))) (hx : ρ x = .val .nilIface) :
  StepOK X o ρ [] (.bool false) [] := .plain fun c a _ _ _ hr => by
 have h1 := hr x (by simp [ho, Op.operands])
 rw [hx] at h1
 have h1 : a.eval x = .nilIface := h1
 have h2 : a.eval (.const .nilIface) = .nilIface := rfl
 refine ⟨.bool false, ?_, rfl⟩
 have e1 : (eqGuard .neq t x (.const .nilIface) .nilIface .nilIface).run X.P c.w = .ok () c.w := by simp [eqGuard]
 simp only [execOp, ho, h1, h2, Sem.run_bind, e1, Result.andThen_ok, run_neq_nil_nil c.w t hu, Sem.run_pure]
theorem step_ne_ifc {t u : TypeId} {x : Operand} (ho : o.op = .binOp .neq t x (.const .nilIface) u) (hu : X.P.underlying t = some (.interface (X.P.methodsAt t))) (hx : ρ x = .ifc) :
  StepOK X o ρ [] (.bool true) [] := .plain fun c a _ _ _ hr => by
 have h1 := hr x (by simp [ho, Op.operands])
 rw [hx] at h1
 obtain ⟨ty, v, h1⟩ := h1
 have h2 : a.eval (.const .nilIface) = .nilIface := rfl
 refine ⟨.bool true, ?_, rfl⟩
 have e1 : (eqGuard .neq t x (.const .nilIface) (.iface ty v) .nilIface).run X.P c.w = .ok () c.w := by simp [eqGuard]
 simp only [execOp, ho, h1, h2, Sem.run_bind, e1, Result.andThen_ok, run_neq_held_nil c.w t ty v hu, Sem.run_pure]
theorem step_eq_bool {t u : TypeId} {x y : Operand} {p q : Bool} (ho : o.op = .binOp .eql t x y u) (hu : X.P.underlying t = some .bool) (hx : ρ x = .bool p) (hy : ρ y = .bool q) :
  StepOK X o ρ [] (.bool (p == q)) [] := .plain fun c a _ _ _ hr => by
 have h1 := hr x (by simp [ho, Op.operands])
 have h2 := hr y (by simp [ho, Op.operands])
 rw [hx] at h1; rw [hy] at h2
 have h1 : a.eval x = .bool p := h1
 have h2 : a.eval y = .bool q := h2
 refine ⟨_, ?_, rfl⟩
 have e1 : (eqGuard .eql t x y (.bool p) (.bool q)).run X.P c.w = .ok () c.w := by simp [eqGuard]
 simp only [execOp, ho, h1, h2, Sem.run_bind, e1, Result.andThen_ok, run_eql_bool c.w t p q hu, Sem.run_pure]
theorem step_ne_bool {t u : TypeId} {x y : Operand} {p q : Bool} (ho : o.op = .binOp .neq t x y u) (hu : X.P.underlying t = some .bool) (hx : ρ x = .bool p) (hy : ρ y = .bool q) :
  StepOK X o ρ [] (.bool (!(p == q))) [] := .plain fun c a _ _ _ hr => by
 have h1 := hr x (by simp [ho, Op.operands])
 have h2 := hr y (by simp [ho, Op.operands])
 rw [hx] at h1; rw [hy] at h2
 have h1 : a.eval x = .bool p := h1
 have h2 : a.eval y = .bool q := h2
 refine ⟨_, ?_, rfl⟩
 have e1 : (eqGuard .neq t x y (.bool p) (.bool q)).run X.P c.w = .ok () c.w := by simp [eqGuard]
 simp only [execOp, ho, h1, h2, Sem.run_bind, e1, Result.andThen_ok, run_neq_bool c.w t p q hu, Sem.run_pure]
theorem step_slice_arr (hX : X.Good) {t e : TypeId} {n k : Nat} {i ei : TI} {x : Operand} {cells : List AV} (ho : o.op = .slice t x none none none) (hx : ρ x = .ptr k 0) (hi : X.T t = some i) (ha : i.arrayOf = some (n, e)) (he : X.T e = some ei) (hn0 : 0 < n)
  (hl : cells.length = n * ei.size) (hf : (cells.all (·.free)) = true) : StepOK X o ρ [(k, .box cells)] (.slc ei.size n (fun i j => cells.getD (i * ei.size + j) .any)) [(k, .dead)] := .value fun c a hok hb hn hr => by
 have hk : c.H[k]? = some (.box cells) := hn _ (List.mem_singleton.2 rfl)
 have h1 := hr x (by simp [ho, Op.operands])
 rw [hx] at h1
 obtain ⟨_, _, h1⟩ := h1
 obtain ⟨hp, cs, T, q1, q2, q3⟩ := hok.obj k _ hk
 have hu := arrayOf_spec (hX.types t i hi) ha
 have ht := hX.types e ei he
 refine ⟨.slice (some ⟨(c.g k).b, 0, none⟩) n n, _, ?_, Tr.freeze hok hk, rfl, some ⟨(c.g k).b, 0, none⟩, n, rfl, Nat.le_refl _, fun _ => ⟨(c.g k).b, 0, rfl, fun p j hp' hj => ⟨.inr rfl, ?_⟩⟩⟩
 ·simp only [execOp, ho, Sem.run_bind, Instr.sliceAt, run_underlying hu, Result.andThen_ok, h1, Option.map_none]
  simp [Instr.sureAddr, Instr.sliceBounds, ht.run_sizeOf]
  exact fun _ => by simp [Addr.add_lit]
 ·have hlt : p * ei.size + j < cells.length := by
   rw [hl]
   have : (p + 1) * ei.size <= n * ei.size := Nat.mul_le_mul_right _ hp'
   rw [Nat.add_mul] at this; omega
  obtain ⟨x, x1, x2, x3⟩ := q3 (p * ei.size + j) cells[p * ei.size + j] (List.getElem?_eq_getElem hlt)
  refine ⟨x, ?_, x2, ?_⟩
  ·simp only [World.cell?, Nat.zero_add, q1]
   rw [x1]; rfl
  ·show Reads c.g (fun b p => c.I b p \/ blk c.g k (HObj.box cells) = some b) c.w (cells.getD (p * ei.size + j) .any) 0 x
   rw [show cells.getD (p * ei.size + j) .any = cells[p * ei.size + j] by simp [List.getD_eq_getElem?_getD, List.getElem?_eq_getElem hlt]]
   have hfr := List.all_eq_true.1 hf _ (List.getElem_mem hlt)
   exact AV.free_reads (g' := c.g) _ _ _ _ hfr (Reads.mono' (M := c.H.length) (fun q _ => ⟨fun _ => rfl, Nat.le_refl _, fun _ => rfl⟩) (fun b o h => ⟨.inl h, rfl⟩) _ _ _ _ (Nat.le_refl _) (Nat.le_refl _) x3)
theorem fill_iter {c : Cfg} (hok : c.Ok) {k : Nat} (hk : c.H[k]? = some .hole) (h0 : (c.g k).ver = 0) (s : ByteArray) :
  Tr c ⟨upd c.g k ⟨c.w.heap.size, .nilFunc, 1⟩, c.I, c.w.alloc (.stringIter s 0), c.H.set k (.iter s 0)⟩ := by
 refine Tr.alter hok hk rfl rfl rfl (by simp) (fun b hb _ => alloc_old hb) (fun hp => by omega) (by omega) (fun e => by simp at e; omega) (fun b hb => ?_) ?_
 ·simp only [blk, upd_same, Option.some.injEq] at hb
  subst hb
  exact .inl ⟨Nat.le_refl _, by simp⟩
 ·refine ⟨by rw [upd_same]; simp, ?_⟩
  rw [upd_same]; exact heap_alloc_new _ _
theorem step_range {t : TypeId} {x : Operand} {s : ByteArray} {k : Nat} (ho : o.op = .range t x) (hu : X.P.underlying t = some .string) (hx : ρ x = .str s) :
  StepOK X o ρ [(k, .hole)] (.ptr k 0) [(k, .iter s 0)] := .value fun c a hok hb hn hr => by
 have hk : c.H[k]? = some .hole := hn _ (List.mem_singleton.2 rfl)
 have h1 := hr x (by simp [ho, Op.operands])
 rw [hx] at h1
 have h1 : a.eval x = .string s := h1
 refine ⟨.pointer (some ⟨c.w.heap.size, 0, none⟩), _, ?_, fill_iter hok hk (hok.obj k _ hk) s, rfl, ?_⟩
 ·simp [execOp, ho, h1, Instr.range, underlying, hu, newObj, Sem.run]
 ·exact ⟨by simpa using (List.getElem?_eq_some_iff.1 hk).1, by simp [upd_same], by simp [upd_same]⟩
theorem turn_iter {c : Cfg} (hok : c.Ok) {k : Nat} {s : ByteArray} {pos : Nat} (hk : c.H[k]? = some (.iter s pos)) (pos' : Nat) :
  Tr c ⟨upd c.g k (c.g k), c.I, c.w.iterAt (c.g k).b s pos', c.H.set k (.iter s pos')⟩ := by
 obtain ⟨h0, h1⟩ := hok.obj k _ hk
 refine Tr.alter hok hk rfl rfl rfl (by simp [World.iterAt]) (fun b hb hne => Lib.iterAt_other _ _ _ _ _ (fun e => hne (by simp [blk, e]))) (fun _ => rfl) (Nat.le_refl _) (fun _ => rfl) (fun b hb => .inr ?_) ?_
 ·simpa [blk, upd_same] using hb
 ·refine ⟨by rw [upd_same]; exact h0, ?_⟩
  rw [upd_same]; exact Lib.iterAt_heap _ _ _ _ _ h1
theorem step_next {x : Operand} {s : ByteArray} {pos k : Nat} (ho : o.op = .next x true) (hx : ρ x = .ptr k 0) (hp : pos < s.size) :
  StepOK X o ρ [(k, .iter s pos)] (.tup 3 (fun j => [AV.bool true, .int .i64 pos, .int .i32 ((Utf8.decode s pos).1 : Nat)].getD j .any)) [(k, .iter s (pos + (Utf8.decode s pos).2))] := .value fun c a hok hb hn hr => by
 have hk : c.H[k]? = some (.iter s pos) := hn _ (List.mem_singleton.2 rfl)
 have h1 := hr x (by simp [ho, Op.operands])
 rw [hx] at h1
 obtain ⟨_, _, h1⟩ := h1
 have h2 := (hok.obj k _ hk).2
 refine ⟨_, _, ?_, turn_iter hok hk (pos + (Utf8.decode s pos).2), rfl, #[.bool true, .int .i64 pos, .int .i32 (Utf8.decode s pos).1], rfl, rfl, fun j hj => ?_⟩
 ·simp only [execOp, ho, h1, Sem.run_bind, Lib.run_next_any_at c.w _ s pos o.type h2 hp, Result.andThen_ok]; rfl
 ·match j, hj with
  | 0, _ => exact ⟨_, rfl, rfl⟩
  | 1, _ => exact ⟨_, rfl, rfl⟩
  | 2, _ => exact ⟨_, rfl, rfl⟩
theorem step_next_end {x : Operand} {s : ByteArray} {pos k : Nat} (ho : o.op = .next x true) (hx : ρ x = .ptr k 0) (hp : ¬ pos < s.size) :
  StepOK X o ρ [(k, .iter s pos)] (.tup 1 (fun j => [AV.bool false].getD j .any)) [] := .plain fun c a hok _ hn hr => by
 have hk : c.H[k]? = some (.iter s pos) := hn _ (List.mem_singleton.2 rfl)
 have h1 := hr x (by simp [ho, Op.operands])
 rw [hx] at h1
 obtain ⟨_, _, h1⟩ := h1
 have h2 := (hok.obj k _ hk).2
 refine ⟨.tuple #[.bool false], ?_, #[.bool false], rfl, rfl, fun j hj => ?_⟩
 ·simp only [execOp, ho, h1, Sem.run_bind, Lib.run_next_end_at c.w _ s pos o.type h2 hp, Result.andThen_ok]; rfl
 ·match j, hj with
  | 0, _ => exact ⟨_, rfl, rfl⟩
theorem step_convert_int (hX : X.Good) {s t : TypeId} {x : Operand} {k k' : IntKind} {n : Int} {i si : TI} (ho : o.op = .convert s t x) (hx : ρ x = .int k n) (hi : X.T t = some i) (hk : i.kind = .int k') (hsi : X.T s = some si) (hr : inK k' n) :
  StepOK X o ρ [] (.int k' n) [] := .plain fun c a _ _ _ hr' => by
 have h1 := hr' x (by simp [ho, Op.operands])
 rw [hx] at h1
 have h1 : a.eval x = .int k n := h1
 obtain ⟨d, hd, hf⟩ := (hX.types t i hi).desc
 obtain ⟨d', hd', _⟩ := (hX.types s si hsi).desc
 rw [hk] at hf
 obtain rfl : d = _ := hf
 refine ⟨.int k' n, ?_, rfl⟩
 cases d' <;> simp [execOp, ho, h1, convert, run_underlying hd, run_underlying hd', Conv.intToInt, hr.wrap]
theorem step_convert_bytes (hX : X.Good) {s t e : TypeId} {x : Operand} {bs : ByteArray} {i si ei : TI} (ho : o.op = .convert s t x) (hx : ρ x = .str bs) (hi : X.T t = some i) (hel : i.elemOf = some e) (he : X.T e = some ei) (hk : ei.kind = .int .u8) (hsi : X.T s = some si) :
  StepOK X o ρ [] (.slc 1 bs.size (fun i _ => .int .u8 (byteAt bs i))) [] := .value fun c a hok _ _ hr' => by
 have h1 := hr' x (by simp [ho, Op.operands])
 rw [hx] at h1
 have h1 : a.eval x = .string bs := h1
 obtain ⟨d', hd', _⟩ := (hX.types s si hsi).desc
 obtain ⟨d, hd, hf⟩ := (hX.types e ei he).desc
 rw [hk] at hf
 obtain rfl : d = _ := hf
 have hu := elemOf_spec (hX.types t i hi) hel
 have hrun := Lib.run_convert_string_bytes (P := X.P) c.w s t e bs hd' hu hd
 have hnew := Lib.bytesWorld_at_new c.w e bs
 have ht := Tr.imm (I' := fun b o => c.I b o \/ b = c.w.heap.size) hok (w' := Lib.bytesWorld c.w e bs) rfl rfl rfl (by rw [Lib.bytesWorld_size]; omega) (fun b hb => Lib.bytesWorld_at_old c.w e bs b hb) (fun b o h => .inl h)
  (fun b o h => h.imp id fun h => by subst h; rw [Lib.bytesWorld_size]; omega)
 have hex : (execOp a.eval o).run X.P c.w = .ok (.value (.slice (some ⟨c.w.heap.size, 0, none⟩) bs.size (grownCap c.w bs.size 0 e))) (Lib.bytesWorld c.w e bs) := by simp [execOp, ho, h1, hrun]
 refine ⟨_, _, hex, ht, rfl, some ⟨c.w.heap.size, 0, none⟩, grownCap c.w bs.size 0 e, rfl, grownCap_ge _ _ _ _, fun hn => ⟨c.w.heap.size, 0, rfl, fun p j hp hj => ⟨.inr rfl, .int .u8 (bs.data.toList.getD p 0).toNat, ?_, rfl, ?_⟩⟩⟩
 ·obtain rfl : j = 0 := by omega
  simp only [Nat.zero_add, Nat.mul_one, Nat.add_zero]
  exact Lib.bytesWorld_cell c.w e bs p hp
 ·show _ = Value.int .u8 (byteAt bs p)
  simp [byteAt, List.getD]
def isU8 : AV -> Bool
 | .int .u8 _ => true
 | _ => false
def numU8 : AV -> Int
 | .int _ n => n
 | _ => 0
theorem isU8_eq {a : AV} (h : isU8 a = true) : a = .int .u8 (numU8 a) := by
 unfold isU8 at h
 split at h
 ·rfl
 ·cases h
def strOf (n : Nat) (f : Nat -> Nat -> AV) : ByteArray := ⟨((List.range n).map fun i => UInt8.ofNat (numU8 (f i 0)).toNat).toArray⟩
theorem push_all : ∀ (l : List Int) (s : ByteArray), l.foldl (fun r n => r.push (UInt8.ofNat n.toNat)) s = ⟨⟨s.data.toList ++ l.map fun n => UInt8.ofNat n.toNat⟩⟩
 | [], s => by simp
 | n :: l, s => by
  rw [List.foldl_cons, push_all l]
  simp [ByteArray.push]
theorem strOf_eq (n : Nat) (f : Nat -> Nat -> AV) : ((List.range n).map fun i => numU8 (f i 0)).foldl (fun r n => r.push (UInt8.ofNat n.toNat)) ByteArray.empty = strOf n f := by
 rw [push_all]
 unfold strOf
 congr 1
 simp
theorem run_strOf {P : Program} {w : World} {src dst e : TypeId} {a : Option Addr} {n cap : Nat} {f : Nat -> Nat -> AV} (hs : P.underlying src = some (.slice e)) (he : P.underlying e = some (.int .u8)) (hd : P.underlying dst = some .string)
  (h : 0 < n -> ∃ b o, a = some ⟨b, o, none⟩ /\ ∀ i, i < n -> w.cell? ⟨b, o + i, none⟩ = some (.int .u8 (numU8 (f i 0)))) :
  (convert src dst (.slice a n cap)).run P w = .ok (.string (strOf n f)) w := by
 rw [run_convert_bytes_string w src dst e a n cap hs he hd]
 rcases Nat.eq_zero_or_pos n with rfl | hn
 ·cases a with
  | none => simp [Conv.bytesToString, strOf]; rfl
  | some a =>
   rw [run_bytesToString w a 0 cap [] (by simp [loadCells, loadCellsFrom])]
   rfl
 ·obtain ⟨b, o, ha, h4⟩ := h hn
  subst ha
  rw [run_bytesToString w ⟨b, o, none⟩ n cap ((List.range n).map fun i => numU8 (f i 0)) (by
   have := run_loadCells (P := P) w ⟨b, o, none⟩ n (fun i => .int .u8 (numU8 (f i 0))) (fun j hj => by rw [Addr.add_lit]; exact h4 j hj)
   rw [this, List.map_map]
   rfl)]
  rw [strOf_eq]
theorem step_convert_str (hX : X.Good) {s t e : TypeId} {x : Operand} {n : Nat} {f : Nat -> Nat -> AV} {i si ei : TI} (ho : o.op = .convert s t x) (hx : ρ x = .slc 1 n f) (hsi : X.T s = some si) (hel : si.elemOf = some e) (he : X.T e = some ei) (hk : ei.kind = .int .u8) (hi : X.T t = some i) (hst : i.isString = true)
  (hall : ((List.range n).all fun i => isU8 (f i 0)) = true) : StepOK X o ρ [] (.str (strOf n f)) [] := .plain fun c a _ _ _ hr => by
 have h1 := hr x (by simp [ho, Op.operands])
 rw [hx] at h1
 obtain ⟨ad, cap, h1, _, h3⟩ := h1
 obtain ⟨d, hd, hf⟩ := (hX.types e ei he).desc
 rw [hk] at hf
 obtain rfl : d = _ := hf
 have hu := elemOf_spec (hX.types s si hsi) hel
 have hus := isString_spec (hX.types t i hi) hst
 refine ⟨.string (strOf n f), ?_, rfl⟩
 have hrun := run_strOf (P := X.P) (w := c.w) (src := s) (dst := t) (cap := cap) (f := f) (n := n) (a := ad) hu hd hus fun hn => by
  obtain ⟨b, q, rfl, h4⟩ := h3 hn
  refine ⟨b, q, rfl, fun j hj => ?_⟩
  obtain ⟨_, v, h5, _, h6⟩ := h4 j 0 hj Nat.one_pos
  have h7 := isU8_eq (List.all_eq_true.1 hall j (List.mem_range.2 hj))
  rw [h7] at h6
  rw [show q + (j * 1 + 0) = q + j by omega] at h5
  rw [h5, show v = _ from h6]
 simp [execOp, ho, h1, hrun]
theorem step_convert_str_own (hX : X.Good) {s t e e' : TypeId} {x : Operand} {q ver n : Nat} {f : Nat -> Nat -> AV} {i si ei : TI} (ho : o.op = .convert s t x) (hx : ρ x = .own q ver) (hsi : X.T s = some si) (hel : si.elemOf = some e) (he : X.T e = some ei) (hk : ei.kind = .int .u8) (hi : X.T t = some i) (hst : i.isString = true)
  (hall : ((List.range n).all fun i => isU8 (f i 0)) = true) : StepOK X o ρ [(q, .list e' 1 n f ver)] (.str (strOf n f)) [] := .plain fun c a hok _ hH hr => by
 have h1 := hr x (by simp [ho, Op.operands])
 rw [hx] at h1
 have hkq : c.H[q]? = some (.list e' 1 n f ver) := hH _ (List.mem_singleton.2 rfl)
 obtain ⟨xs, _, hlen, _, ⟨ad, cap, h4, _, h6⟩, hxs, hcell⟩ := own_slice hok hkq
 have h1 : a.eval x = _ := own_now hok hkq h1
 rw [h4] at h1
 obtain ⟨d, hd, hf⟩ := (hX.types e ei he).desc
 rw [hk] at hf
 obtain rfl : d = _ := hf
 have hu := elemOf_spec (hX.types s si hsi) hel
 have hus := isString_spec (hX.types t i hi) hst
 refine ⟨.string (strOf n f), ?_, rfl⟩
 have hrun := run_strOf (P := X.P) (w := c.w) (src := s) (dst := t) (cap := cap) (f := f) (n := n) (a := ad) hu hd hus fun hn => by
  obtain ⟨b, rfl, hb⟩ := h6 hn
  refine ⟨b, 0, rfl, fun j hj => ?_⟩
  obtain ⟨v, h5, h6⟩ := hxs j 0 hj Nat.one_pos
  have h7 := isU8_eq (List.all_eq_true.1 hall j (List.mem_range.2 hj))
  rw [h7] at h6
  rw [show j * 1 + 0 = j by omega] at h5
  rw [show 0 + j = j by omega, hcell b hb j v h5, show v = _ from h6]
 simp [execOp, ho, h1, hrun]
theorem step_eq_nilS_slc (hX : X.Good) {t u e : TypeId} {i : TI} {x : Operand} {es n : Nat} {f : Nat -> Nat -> AV} (ho : o.op = .binOp .eql t x (.const (.slice none 0 0)) u) (hi : X.T t = some i) (hel : i.elemOf = some e) (hx : ρ x = .slc es n f) (hn : 0 < n) :
  StepOK X o ρ [] (.bool false) [] := .plain fun c a _ _ _ hr => by
 have h1 := hr x (by simp [ho, Op.operands])
 rw [hx] at h1
 obtain ⟨ad, cap, h1, _, h3⟩ := h1
 obtain ⟨b, q, rfl, _⟩ := h3 hn
 have h2 : a.eval (.const (.slice none 0 0)) = .slice none 0 0 := rfl
 have hu := elemOf_spec (hX.types t i hi) hel
 refine ⟨.bool false, ?_, rfl⟩
 have e1 : (eqGuard .eql t x (.const (.slice none 0 0)) (.slice (some ⟨b, q, none⟩) n cap) (.slice none 0 0)).run X.P c.w = .ok () c.w := by simp [eqGuard]
 simp only [execOp, ho, h1, h2, Sem.run_bind, e1, Result.andThen_ok, run_eql_slice_nil c.w t e _ _ _ hu, Sem.run_pure]
 rfl
theorem step_eq_nilS_val (hX : X.Good) {t u e : TypeId} {i : TI} {x : Operand} {ad : Option Addr} {n cap : Nat} (ho : o.op = .binOp .eql t x (.const (.slice none 0 0)) u) (hi : X.T t = some i) (hel : i.elemOf = some e) (hx : ρ x = .val (.slice ad n cap)) :
  StepOK X o ρ [] (.bool ad.isNone) [] := .plain fun c a _ _ _ hr => by
 have h1 := hr x (by simp [ho, Op.operands])
 rw [hx] at h1
 have h1 : a.eval x = .slice ad n cap := h1
 have h2 : a.eval (.const (.slice none 0 0)) = .slice none 0 0 := rfl
 have hu := elemOf_spec (hX.types t i hi) hel
 refine ⟨.bool ad.isNone, ?_, rfl⟩
 have e1 : (eqGuard .eql t x (.const (.slice none 0 0)) (.slice ad n cap) (.slice none 0 0)).run X.P c.w = .ok () c.w := by simp [eqGuard]
 simp only [execOp, ho, h1, h2, Sem.run_bind, e1, Result.andThen_ok, run_eql_slice_nil c.w t e _ _ _ hu, Sem.run_pure]
theorem step_eq_nilS_own (hX : X.Good) {t u e e' : TypeId} {i : TI} {x : Operand} {q ver es n : Nat} {f : Nat -> Nat -> AV} (ho : o.op = .binOp .eql t x (.const (.slice none 0 0)) u) (hi : X.T t = some i) (hel : i.elemOf = some e) (hx : ρ x = .own q ver) (hn : 0 < n) :
  StepOK X o ρ [(q, .list e' es n f ver)] (.bool false) [] := .plain fun c a hok _ hH hr => by
 have h1 := hr x (by simp [ho, Op.operands])
 rw [hx] at h1
 have hk : c.H[q]? = some (.list e' es n f ver) := hH _ (List.mem_singleton.2 rfl)
 obtain ⟨xs, _, _, _, ⟨ad, cap, h4, _, h6⟩, _, _⟩ := own_slice hok hk
 have h1 : a.eval x = _ := own_now hok hk h1
 rw [h4] at h1
 obtain ⟨b, rfl, _⟩ := h6 hn
 have h2 : a.eval (.const (.slice none 0 0)) = .slice none 0 0 := rfl
 have hu := elemOf_spec (hX.types t i hi) hel
 refine ⟨.bool false, ?_, rfl⟩
 have e1 : (eqGuard .eql t x (.const (.slice none 0 0)) (.slice (some ⟨b, 0, none⟩) n cap) (.slice none 0 0)).run X.P c.w = .ok () c.w := by simp [eqGuard]
 simp only [execOp, ho, h1, h2, Sem.run_bind, e1, Result.andThen_ok, run_eql_slice_nil c.w t e _ _ _ hu, Sem.run_pure]
 rfl
end
end Go.Fx
/-
 Calls: what an argument is taken for; functions that turn blocks of the caller's.
-/
namespace Go.Fx
open Go.RowKit
inductive Le : AV -> AV -> Prop where
 | refl (a : AV) : Le a a
 | any (a : AV) : Le a .any
 | slc0 (es : Nat) (f : Nat -> Nat -> AV) : Le .slc0 (.slc es 0 f)
 | agg {n : Nat} {f g : Nat -> AV} (h : ∀ j, j < n -> Le (f j) (g j)) : Le (.agg n f) (.agg n g)
 | tup {n : Nat} {f g : Nat -> AV} (h : ∀ j, j < n -> Le (f j) (g j)) : Le (.tup n f) (.tup n g)
 | slc {es n : Nat} {f g : Nat -> Nat -> AV} (h : ∀ i j, i < n -> j < es -> Le (f i j) (g i j)) : Le (.slc es n f) (.slc es n g)
 | nilf (es : Nat) (f g : Nat -> Nat -> AV) : Le (.slc es 0 f) (.slc es 0 g)
 | fn {F : FuncId} {n : Nat} {f g : Nat -> AV} (h : ∀ j, j < n -> Le (f j) (g j)) : Le (.fn F n f) (.fn F n g)
theorem Le.reads {a b : AV} (h : Le a b) {g : Nat -> GO} {I : Nat -> Nat -> Prop} {w : World} : ∀ {m : Nat} {v : Value}, Reads g I w a m v -> Reads g I w b m v := by
 induction h with
 | refl a => intro m v h; exact h
 | any a => intro m v h; trivial
 | slc0 es f => intro m v ⟨ad, h⟩; exact ⟨ad, 0, h, Nat.le_refl _, fun h => by omega⟩
 | agg _ ih => intro m v ⟨cs, h1, h2, h3⟩; exact ⟨cs, h1, h2, fun j hj => let ⟨x, x1, x2, x3⟩ := h3 j hj; ⟨x, x1, x2, ih j hj x3⟩⟩
 | tup _ ih => intro m v ⟨cs, h1, h2, h3⟩; exact ⟨cs, h1, h2, fun j hj => let ⟨x, x1, x3⟩ := h3 j hj; ⟨x, x1, ih j hj x3⟩⟩
 | slc _ ih =>
  intro m v ⟨ad, cap, h1, h2, h3⟩
  refine ⟨ad, cap, h1, h2, fun hn => ?_⟩
  obtain ⟨b, o, h4, h5⟩ := h3 hn
  exact ⟨b, o, h4, fun i j hi hj => let ⟨x1, x, x2, x3, x4⟩ := h5 i j hi hj; ⟨x1, x, x2, x3, ih i j hi hj x4⟩⟩
 | nilf es f g => intro m v ⟨ad, cap, h1, h2, _⟩; exact ⟨ad, cap, h1, h2, fun h => by omega⟩
 | fn _ ih => intro m v ⟨cs, h1, h2, h3⟩; exact ⟨cs, h1, h2, fun j hj => let ⟨x, x1, x3⟩ := h3 j hj; ⟨x, x1, ih j hj x3⟩⟩
def LeAll (f g : Nat -> AV) : Nat -> Prop
 | 0 => True
 | n + 1 => LeAll f g n /\ Le (f n) (g n)
theorem LeAll.out {f g : Nat -> AV} : ∀ {n : Nat}, LeAll f g n -> ∀ j, j < n -> Le (f j) (g j)
 | 0, _, j, hj => by omega
 | n + 1, ⟨h1, h2⟩, j, hj => by
  rcases Nat.lt_or_ge j n with h | h
  ·exact h1.out j h
  ·obtain rfl : j = n := by omega
   exact h2
theorem Le.aggs {n : Nat} {f g : Nat -> AV} (h : LeAll f g n) : Le (.agg n f) (.agg n g) := .agg h.out
theorem Le.tups {n : Nat} {f g : Nat -> AV} (h : LeAll f g n) : Le (.tup n f) (.tup n g) := .tup h.out
inductive LeH (H : List HObj) : AV -> AV -> Prop where
 | le {a b : AV} (h : Le a b) : LeH H a b
 | own {k ver e es n : Nat} {f g : Nat -> Nat -> AV} (hk : H[k]? = some (.list e es n f ver)) (h : ∀ i j, i < n -> j < es -> Le (f i j) (g i j)) : LeH H (.own k ver) (.slc es n g)
 | agg {n : Nat} {f g : Nat -> AV} (h : ∀ j, j < n -> LeH H (f j) (g j)) : LeH H (.agg n f) (.agg n g)
 | tup {n : Nat} {f g : Nat -> AV} (h : ∀ j, j < n -> LeH H (f j) (g j)) : LeH H (.tup n f) (.tup n g)
def LeAllH (H : List HObj) (f g : Nat -> AV) : Nat -> Prop
 | 0 => True
 | n + 1 => LeAllH H f g n /\ LeH H (f n) (g n)
theorem LeAllH.out {H : List HObj} {f g : Nat -> AV} : ∀ {n : Nat}, LeAllH H f g n -> ∀ j, j < n -> LeH H (f j) (g j)
 | 0, _, j, hj => by omega
 | n + 1, ⟨h1, h2⟩, j, hj => by
  rcases Nat.lt_or_ge j n with h | h
  ·exact h1.out j h
  ·obtain rfl : j = n := by omega
   exact h2
theorem LeH.aggs {H : List HObj} {n : Nat} {f g : Nat -> AV} (h : LeAllH H f g n) : LeH H (.agg n f) (.agg n g) := .agg h.out
theorem LeH.tups {H : List HObj} {n : Nat} {f g : Nat -> AV} (h : LeAllH H f g n) : LeH H (.tup n f) (.tup n g) := .tup h.out
theorem own_slc {c : Cfg} (hok : c.Ok) {I' : Nat -> Nat -> Prop} (hI : ∀ b o, c.I b o -> I' b o) {k ver e es n : Nat} {f : Nat -> Nat -> AV} (hI' : ∀ b, vblk (c.g k).v = some b -> ∀ o, I' b o) (hk : c.H[k]? = some (.list e es n f ver)) {v : Value} {m : Nat} (h : c.Reads (.own k ver) v) :
  Reads c.g I' c.w (.slc es n f) m v := by
 obtain ⟨xs, h1, h2, h3, ⟨ad, cap, h4, h5, h6⟩, h7, h8⟩ := own_slice hok hk
 rw [own_now hok hk h, h4]
 refine ⟨ad, cap, rfl, h5, fun hn => ?_⟩
 obtain ⟨b, hb, hv⟩ := h6 hn
 refine ⟨b, 0, hb, fun i j hi hj => ⟨hI' b hv _, ?_⟩⟩
 obtain ⟨x, x1, x2⟩ := h7 i j hi hj
 rw [Nat.zero_add]
 exact ⟨x, h8 b hv _ x x1, h3 x (List.mem_of_getElem? x1), Reads.mono' (M := 0) (fun k hk => absurd hk (by omega)) (fun b o h => ⟨hI b o h, rfl⟩) _ 0 0 x (by omega) (by omega) x2⟩
theorem LeH.reads {c : Cfg} (hok : c.Ok) {H : List HObj} (hH : ∀ (k e es n : Nat) (f : Nat -> Nat -> AV) (ver : Nat), H[k]? = some (HObj.list e es n f ver) -> c.H[k]? = some (HObj.list e es n f ver)) {I' : Nat -> Nat -> Prop} (hI : ∀ b o, c.I b o -> I' b o) (hI' : ∀ (k e es n : Nat) (f : Nat -> Nat -> AV) (ver b : Nat), H[k]? = some (HObj.list e es n f ver) -> vblk (c.g k).v = some b -> ∀ o, I' b o) {a b : AV} (h : LeH H a b) :
  ∀ {v : Value}, c.Reads a v -> Reads c.g I' c.w b c.H.length v := by
 have mono : ∀ {av : AV} {m : Nat} {v : Value}, m <= c.H.length -> Reads c.g c.I c.w av m v -> Reads c.g I' c.w av m v := fun {av m v} hm h => Reads.mono' (M := c.H.length) (fun k _ => ⟨fun _ => rfl, Nat.le_refl _, fun _ => rfl⟩) (fun b o h => ⟨hI b o h, rfl⟩) av m m v hm (Nat.le_refl _) h
 induction h with
 | le h => intro v hr; exact mono (Nat.le_refl _) (h.reads hr)
 | own hk h =>
  intro v hr
  exact (Le.slc h).reads (own_slc hok hI (fun b hb => hI' _ _ _ _ _ _ b hk hb) (hH _ _ _ _ _ _ hk) hr)
 | agg _ ih => intro v ⟨cs, h1, h2, h3⟩; exact ⟨cs, h1, h2, fun j hj => let ⟨x, x1, x2, x3⟩ := h3 j hj; ⟨x, x1, x2, ih j hj x3⟩⟩
 | tup _ ih => intro v ⟨cs, h1, h2, h3⟩; exact ⟨cs, h1, h2, fun j hj => let ⟨x, x1, x3⟩ := h3 j hj; ⟨x, x1, ih j hj x3⟩⟩
def AllLe : List AV -> List AV -> Prop
 | [], [] => True
 | a :: as, b :: bs => Le a b /\ AllLe as bs
 | _, _ => False
def AllLeH (H : List HObj) : List AV -> List AV -> Prop
 | [], [] => True
 | a :: as, b :: bs => LeH H a b /\ AllLeH H as bs
 | _, _ => False
theorem AllLe.len : ∀ {as bs : List AV}, AllLe as bs -> bs.length = as.length
 | [], [], _ => rfl
 | _ :: _, _ :: _, ⟨_, h⟩ => by simp [h.len]
theorem AllLe.at : ∀ {as bs : List AV}, AllLe as bs -> ∀ (j : Nat) a b, as[j]? = some a -> bs[j]? = some b -> Le a b
 | [], [], _, j, a, b, h, _ => by simp at h
 | _ :: _, _ :: _, ⟨h0, h⟩, 0, a, b, h1, h2 => by simp at h1 h2; subst h1 h2; exact h0
 | _ :: _, _ :: _, ⟨h0, h⟩, j + 1, a, b, h1, h2 => h.at j a b (by simpa using h1) (by simpa using h2)
theorem AllLeH.len {H : List HObj} : ∀ {as bs : List AV}, AllLeH H as bs -> bs.length = as.length
 | [], [], _ => rfl
 | _ :: _, _ :: _, ⟨_, h⟩ => by simp [h.len]
theorem AllLeH.at {H : List HObj} : ∀ {as bs : List AV}, AllLeH H as bs -> ∀ (j : Nat) a b, as[j]? = some a -> bs[j]? = some b -> LeH H a b
 | [], [], _, j, a, b, h, _ => by simp at h
 | _ :: _, _ :: _, ⟨h0, h⟩, 0, a, b, h1, h2 => by simp at h1 h2; subst h1 h2; exact h0
 | _ :: _, _ :: _, ⟨h0, h⟩, j + 1, a, b, h1, h2 => h.at j a b (by simpa using h1) (by simpa using h2)
theorem all_free {as : List AV} (h : (as.all (·.free)) = true) {j : Nat} {a : AV} (hj : as[j]? = some a) : a.free = true := List.all_eq_true.1 h a (List.mem_of_getElem? hj)
def ren (r : Nat -> Nat) : AV -> AV
 | .ptr k off => .ptr (r k) off
 | .lptr k ver es i off => .lptr (r k) ver es i off
 | .own k ver => .own (r k) ver
 | .yld k => .yld (r k)
 | .agg n f => .agg n (fun j => ren r (f j))
 | .tup n f => .tup n (fun j => ren r (f j))
 | .fn f n caps => .fn f n (fun j => ren r (caps j))
 | a => a
def renO (r : Nat -> Nat) : HObj -> HObj
 | .box cells => .box (cells.map (ren r))
 | .lrec st pend N e ps assign body => .lrec st pend N (e.map fun x => (x.1, ren r x.2)) ps assign body
 | .last e es n cells ver => .last e es n (cells.map (ren r)) ver
 | o => o
theorem look_ren (r : Nat -> Nat) (t : Nat) : ∀ (e : Env), look (e.map fun x => (x.1, ren r x.2)) t = ren r (look e t)
 | [] => rfl
 | (s, v) :: e => by
  simp only [List.map_cons, look]
  cases Nat.beq s t with
  | true => rfl
  | false => exact look_ren r t e
theorem look_under {n : Nat} : ∀ {r : Env}, (r.all fun x => x.2.under n) = true -> ∀ t, (look r t).under n = true
 | [], _, t => rfl
 | (s, v) :: r, h, t => by
  simp only [List.all_cons, Bool.and_eq_true] at h
  simp only [look]
  cases Nat.beq s t with
  | true => exact h.1
  | false => exact look_under h.2 t
theorem ren_reads {g g' : Nat -> GO} {I : Nat -> Nat -> Prop} {w : World} {r : Nat -> Nat} {m m' : Nat} (hr : ∀ k, k < m -> r k < m' /\ g' (r k) = g k) :
  ∀ (av : AV) (v : Value), Reads g I w av m v -> Reads g' I w (ren r av) m' v := by
 intro av
 induction av with
 | ptr k off => intro v ⟨h1, h2, h3⟩; obtain ⟨r1, r2⟩ := hr k h1; exact ⟨r1, by rw [r2]; exact h2, by rw [r2]; exact h3⟩
 | lptr k ver es i off => intro v ⟨h1, h2, h3, h4⟩; obtain ⟨r1, r2⟩ := hr k h1; exact ⟨r1, by rw [r2]; exact h2, h3, by rw [r2]; exact h4⟩
 | own k ver => intro v ⟨h1, h2, h3, h4⟩; obtain ⟨r1, r2⟩ := hr k h1; exact ⟨r1, by rw [r2]; exact h2, h3, by rw [r2]; exact h4⟩
 | agg n f ih => intro v ⟨cs, h1, h2, h3⟩; exact ⟨cs, h1, h2, fun j hj => let ⟨x, x1, x2, x3⟩ := h3 j hj; ⟨x, x1, x2, ih j x x3⟩⟩
 | tup n f ih => intro v ⟨cs, h1, h2, h3⟩; exact ⟨cs, h1, h2, fun j hj => let ⟨x, x1, x3⟩ := h3 j hj; ⟨x, x1, ih j x x3⟩⟩
 | fn f n caps ih => intro v ⟨cs, h1, h2, h3⟩; exact ⟨cs, h1, h2, fun j hj => let ⟨x, x1, x3⟩ := h3 j hj; ⟨x, x1, ih j x x3⟩⟩
 | int k n => intro v h; exact h
 | bool b => intro v h; exact h
 | str s => intro v h; exact h
 | ip n f off ih => intro v h; exact Reads.mono' (M := 0) (fun k hk => absurd hk (by omega)) (fun b o h => ⟨h, rfl⟩) (.ip n f off) 0 m' v (by omega) (by omega) h
 | slc es n f ih => intro v h; exact Reads.mono' (M := 0) (fun k hk => absurd hk (by omega)) (fun b o h => ⟨h, rfl⟩) (.slc es n f) 0 m' v (by omega) (by omega) h
 | slc0 => intro v h; exact h
 | ifc => intro v h; exact h
 | val x => intro v h; exact h
 | any => intro v h; trivial
 | yld k => intro v ⟨h1, h2, h3⟩; obtain ⟨r1, r2⟩ := hr k h1; exact ⟨r1, by rw [r2]; exact h2, by rw [r2]; exact h3⟩
theorem reads_ren {g g' : Nat -> GO} {I : Nat -> Nat -> Prop} {w : World} {r : Nat -> Nat} {m m' : Nat} (hr : ∀ k, k < m -> g' (r k) = g k) :
  ∀ (av : AV) (v : Value), av.under m = true -> Reads g' I w (ren r av) m' v -> Reads g I w av m v := by
 intro av
 induction av with
 | ptr k off => intro v hu ⟨h1, h2, h3⟩; have hk : k < m := (by have := hu; simp [AV.under, Nat.blt] at this; omega); rw [hr k hk] at h2 h3; exact ⟨hk, h2, h3⟩
 | lptr k ver es i off => intro v hu ⟨h1, h2, h3, h4⟩; have hk : k < m := (by have := hu; simp [AV.under, Nat.blt] at this; omega); rw [hr k hk] at h2 h4; exact ⟨hk, h2, h3, h4⟩
 | own k ver => intro v hu ⟨h1, h2, h3, h4⟩; have hk : k < m := (by have := hu; simp [AV.under, Nat.blt] at this; omega); rw [hr k hk] at h2 h4; exact ⟨hk, h2, h3, h4⟩
 | agg n f ih =>
  intro v hu ⟨cs, h1, h2, h3⟩
  simp only [AV.under, List.all_eq_true, List.mem_range] at hu
  exact ⟨cs, h1, h2, fun j hj => let ⟨x, x1, x2, x3⟩ := h3 j hj; ⟨x, x1, x2, ih j x (hu j hj) x3⟩⟩
 | tup n f ih =>
  intro v hu ⟨cs, h1, h2, h3⟩
  simp only [AV.under, List.all_eq_true, List.mem_range] at hu
  exact ⟨cs, h1, h2, fun j hj => let ⟨x, x1, x3⟩ := h3 j hj; ⟨x, x1, ih j x (hu j hj) x3⟩⟩
 | fn f n caps ih =>
  intro v hu ⟨cs, h1, h2, h3⟩
  simp only [AV.under, List.all_eq_true, List.mem_range] at hu
  exact ⟨cs, h1, h2, fun j hj => let ⟨x, x1, x3⟩ := h3 j hj; ⟨x, x1, ih j x (hu j hj) x3⟩⟩
 | int k n => intro v _ h; exact h
 | bool b => intro v _ h; exact h
 | str s => intro v _ h; exact h
 | ip n f off ih => intro v _ h; exact Reads.mono' (M := 0) (fun k hk => absurd hk (by omega)) (fun b o h => ⟨h, rfl⟩) (.ip n f off) 0 m v (by omega) (by omega) h
 | slc es n f ih => intro v _ h; exact Reads.mono' (M := 0) (fun k hk => absurd hk (by omega)) (fun b o h => ⟨h, rfl⟩) (.slc es n f) 0 m v (by omega) (by omega) h
 | slc0 => intro v _ h; exact h
 | ifc => intro v _ h; exact h
 | val x => intro v _ h; exact h
 | any => intro v _ h; trivial
 | yld k => intro v hu ⟨h1, h2, h3⟩; have hk : k < m := (by have := hu; simp [AV.under, Nat.blt] at this; omega); rw [hr k hk] at h2 h3; exact ⟨hk, h2, h3⟩
theorem blk_renO (g g' : Nat -> GO) (r : Nat -> Nat) (k : Nat) (o : HObj) (h : g' (r k) = g k) : blk g' (r k) (renO r o) = blk g k o := by cases o <;> simp [renO, blk, h]
theorem holds_ren {g g' : Nat -> GO} {I : Nat -> Nat -> Prop} {w : World} {r : Nat -> Nat} {m m' : Nat} (hr : ∀ k, k < m -> r k < m' /\ g' (r k) = g k) {k : Nat} (hk : k < m) {o : HObj} (h : Holds g I w m k o) : Holds g' I w m' (r k) (renO r o) := by
 have hg := (hr k hk).2
 cases o with
 | box cells =>
  obtain ⟨h0, cs, T, h1, h2, h3⟩ := h
  refine ⟨by rw [hg]; exact h0, cs, T, by rw [hg]; exact h1, by simpa using h2, fun j av hj => ?_⟩
  simp only [List.getElem?_map, Option.map_eq_some_iff] at hj
  obtain ⟨a, ha, rfl⟩ := hj
  obtain ⟨x, x1, x2, x3⟩ := h3 j a ha
  exact ⟨x, x1, x2, ren_reads hr a x x3⟩
 | list e es n f ver =>
  obtain ⟨h1, h0, xs, h2, h3, h4⟩ := h
  exact ⟨by rw [hg]; exact h1, h0, xs, by rw [hg]; exact h2, h3, fun i j hi hj => let ⟨x, x1, x2⟩ := h4 i j hi hj; ⟨x, x1, Reads.zero x2⟩⟩
 | dead => trivial
 | hole => show (g' (r k)).ver = 0; rw [hg]; exact h
 | lrec st pend N e ps assign body =>
  obtain ⟨h0, hc, fn, tmps, D, h1, h2, h3⟩ := h
  show Holds g' I w m' (r k) (.lrec st pend N (e.map fun x => (x.1, ren r x.2)) ps assign body)
  exact ⟨by rw [hg]; exact h0, hc, fn, tmps, D, by rw [hg]; exact h1, h2, fun t => by rw [look_ren]; exact ren_reads hr _ _ (h3 t)⟩
 | iter s pos =>
  obtain ⟨h0, h1⟩ := h
  exact ⟨by rw [hg]; exact h0, by rw [hg]; exact h1⟩
 | last e es n cells ver =>
  obtain ⟨h1, h0, xs, h2, h3, hn, hl, h4⟩ := h
  refine ⟨by rw [hg]; exact h1, h0, xs, by rw [hg]; exact h2, h3, hn, by simpa using hl, fun j av hj => ?_⟩
  simp only [List.getElem?_map, Option.map_eq_some_iff] at hj
  obtain ⟨a, ha, rfl⟩ := hj
  obtain ⟨x, x1, x2⟩ := h4 j a ha
  exact ⟨x, by rw [List.length_map]; exact x1, ren_reads hr a x x2⟩
def HObj.under (n : Nat) : HObj -> Bool
 | .box cells => cells.all (·.under n)
 | .lrec _ _ _ e _ _ _ => e.all (fun x => x.2.under n)
 | .last _ _ _ cells _ => cells.all (·.under n)
 | _ => true
def HObj.live : HObj -> Bool
 | .box _ | .list .. | .lrec .. | .last .. => true
 | _ => false
theorem ren_holds {g g' : Nat -> GO} {I : Nat -> Nat -> Prop} {w : World} {r : Nat -> Nat} {m m' : Nat} (hr : ∀ k, k < m -> g' (r k) = g k) {k : Nat} (hk : k < m) {o : HObj} (hu : o.under m = true) (h : Holds g' I w m' (r k) (renO r o)) : Holds g I w m k o := by
 have hg := hr k hk
 cases o with
 | box cells =>
  obtain ⟨h0, cs, T, h1, h2, h3⟩ := h
  rw [hg] at h0 h1
  refine ⟨h0, cs, T, h1, by simpa using h2, fun j av hj => ?_⟩
  obtain ⟨x, x1, x2, x3⟩ := h3 j (ren r av) (by simp [hj])
  exact ⟨x, x1, x2, reads_ren hr av x (List.all_eq_true.1 hu av (List.mem_of_getElem? hj)) x3⟩
 | list e es n f ver =>
  obtain ⟨h1, h0, xs, h2, h3, h4⟩ := h
  rw [hg] at h1 h2
  exact ⟨h1, h0, xs, h2, h3, fun i j hi hj => let ⟨x, x1, x2⟩ := h4 i j hi hj; ⟨x, x1, Reads.zero x2⟩⟩
 | dead => trivial
 | hole => have h : (g' (r k)).ver = 0 := h; rw [hg] at h; exact h
 | lrec st pend N e ps assign body =>
  have h : Holds g' I w m' (r k) (.lrec st pend N (e.map fun x => (x.1, ren r x.2)) ps assign body) := h
  obtain ⟨h0, hc, fn, tmps, D, h1, h2, h3⟩ := h
  rw [hg] at h0 h1
  exact ⟨h0, hc, fn, tmps, D, h1, h2, fun t => reads_ren hr _ _ (look_under hu t) (by have := h3 t; rwa [look_ren] at this)⟩
 | iter s pos =>
  obtain ⟨h0, h1⟩ := h
  rw [hg] at h0 h1
  exact ⟨h0, h1⟩
 | last e es n cells ver =>
  obtain ⟨h1, h0, xs, h2, h3, hn, hl, h4⟩ := h
  rw [hg] at h1 h2
  refine ⟨h1, h0, xs, h2, h3, hn, by simpa using hl, fun j av hj => ?_⟩
  obtain ⟨x, x1, x2⟩ := h4 j (ren r av) (by simp [hj])
  exact ⟨x, by rw [List.length_map] at x1; exact x1, reads_ren hr av x (List.all_eq_true.1 hu av (List.mem_of_getElem? hj)) x2⟩
end Go.Fx
/-
 A call that turns blocks of the caller's.
-/
namespace Go.Fx
open Go.RowKit
def numOf (all : List Nat) (j : Nat) : Nat := all.getD j 0
theorem numOf_get {all : List Nat} {j : Nat} (h : j < all.length) : all[j]? = some (numOf all j) := by
 simp [numOf, h]
theorem numOf_inj {all : List Nat} (hd : all.Nodup) {i j : Nat} (hi : i < all.length) (hj : j < all.length) (h : numOf all i = numOf all j) : i = j := by
 have h1 := numOf_get hi
 have h2 := numOf_get hj
 rw [h] at h1
 exact (List.getElem?_inj hi hd).1 (h1.trans h2.symm)
theorem setAll_length : ∀ (l : List (Nat × HObj)) (H : List HObj), (setAll H l).length = H.length
 | [], H => rfl
 | (k, o) :: l, H => by simp [setAll, setAll_length l]
theorem setAll_other : ∀ (l : List (Nat × HObj)) (H : List HObj) (k : Nat), (∀ x ∈ l, x.1 ≠ k) -> (setAll H l)[k]? = H[k]?
 | [], H, k, _ => rfl
 | (q, o) :: l, H, k, h => by
  simp only [setAll]
  rw [setAll_other l _ k (fun x hx => h x (List.mem_cons_of_mem _ hx)), List.getElem?_set_ne (h (q, o) (List.mem_cons_self ..))]
theorem setAll_zip : ∀ (all : List Nat) (os : List HObj) (H : List HObj), all.length = os.length -> all.Nodup -> (∀ k ∈ all, k < H.length) -> ∀ (j : Nat) k o, all[j]? = some k -> os[j]? = some o -> (setAll H (all.zip os))[k]? = some o
 | [], [], H, _, _, _, j, k, o, h, _ => by simp at h
 | [], _ :: _, _, h, _, _, _, _, _, _, _ => by simp at h
 | _ :: _, [], _, h, _, _, _, _, _, _, _ => by simp at h
 | a :: all, b :: os, H, hl, hd, hlt, j, k, o, hj, ho => by
  simp only [List.zip_cons_cons, setAll]
  rw [List.nodup_cons] at hd
  cases j with
  | zero =>
   simp at hj ho
   subst hj ho
   rw [setAll_other _ _ _ (fun x hx => ?_)]
   ·exact List.getElem?_set_self (hlt a (List.mem_cons_self ..))
   ·intro e
    have := (List.of_mem_zip hx).1
    rw [e] at this
    exact hd.1 this
  | succ j =>
   exact setAll_zip all os _ (by simpa using hl) hd.2 (fun k hk => by simpa using hlt k (List.mem_cons_of_mem _ hk)) j k o (by simpa using hj) (by simpa using ho)
section
variable {X : Ctx} {o : Oper} {ρ : Operand -> AV}
def AllRen (r : Nat -> Nat) : List AV -> List AV -> Prop
 | [], [] => True
 | a :: as, b :: bs => Le a (ren r b) /\ AllRen r as bs
 | _, _ => False
theorem AllRen.len {r : Nat -> Nat} : ∀ {as bs : List AV}, AllRen r as bs -> bs.length = as.length
 | [], [], _ => rfl
 | _ :: _, _ :: _, ⟨_, h⟩ => by simp [h.len]
theorem AllRen.at {r : Nat -> Nat} : ∀ {as bs : List AV}, AllRen r as bs -> ∀ (j : Nat) a b, as[j]? = some a -> bs[j]? = some b -> Le a (ren r b)
 | [], [], _, j, a, b, h, _ => by simp at h
 | _ :: _, _ :: _, ⟨h0, h⟩, 0, a, b, h1, h2 => by simp at h1 h2; subst h1 h2; exact h0
 | _ :: _, _ :: _, ⟨h0, h⟩, j + 1, a, b, h1, h2 => h.at j a b (by simpa using h1) (by simpa using h2)
theorem step_mut {cl : Call} {f : FuncId} {n : Nat} {caps : Nat -> AV} {F : Operand} {as : List AV} {ks news : List Nat} {Ls L' : List HObj} {r : AV} (ho : o.op = .call cl) (hcl : cl.callee = .value F) (hF : ρ F = .fn f n caps)
  (hargs : AllRen (numOf (ks ++ news)) (callArgs ρ cl.args n caps) as) (hau : (as.all (·.under ks.length)) = true)
  (hd : (ks ++ news).Nodup) (hLs : Ls.length = ks.length) (hL' : L'.length = (ks ++ news).length) (hu : (Ls.all (·.under ks.length)) = true) (hlive : ((L'.drop ks.length).all (·.live)) = true)
  (hcall : Mut X f as Ls r L') :
  StepOK X o ρ (ks.zip (Ls.map (renO (numOf (ks ++ news)))) ++ news.map fun k => (k, .hole)) (ren (numOf (ks ++ news)) r) ((ks ++ news).zip (L'.map (renO (numOf (ks ++ news))))) := by
 intro c a K Q hok hb hn hr hk
 obtain ⟨cargs, h1, h2, h3⟩ := run_call (c := c) (a := a) (P := X.P) hcl hF hcall.1 o.type (by simpa [ho, Op.operands] using hr) c.w
 intro ρ'
 refine wpIn_enter ρ' (by unfold execOp; simp only [ho]; exact h1) ?_
 generalize hall : ks ++ news = all at *
 have hallL : all.length = ks.length + news.length := by rw [<- hall]; simp
 let q := numOf all
 let cc : Cfg := ⟨fun j => c.g (q j), c.I, c.w, Ls⟩
 have hqk : ∀ j, j < ks.length -> ks[j]? = some (q j) := fun j hj => by
  have := numOf_get (all := all) (j := j) (by omega)
  rw [<- hall, List.getElem?_append_left hj] at this
  rw [this, hall]
 -- the lent blocks, and the places
 have hlent : ∀ j ob, Ls[j]? = some ob -> c.H[q j]? = some (renO q ob) := fun j ob hj => by
  have hlt : j < ks.length := by rw [<- hLs]; exact (List.getElem?_eq_some_iff.1 hj).1
  exact hn (q j, renO q ob) (List.mem_append_left _ (List.mem_of_getElem? (i := j) (by
   rw [List.getElem?_zip_eq_some]
   exact ⟨hqk j hlt, by simp [hj, q]⟩)))
 have hnew : ∀ j, ks.length <= j -> j < all.length -> c.H[q j]? = some .hole := fun j h1 h2 => by
  have hm : q j ∈ news := by
   have := numOf_get (all := all) h2
   rw [<- hall, List.getElem?_append_right h1] at this
   rw [hall] at this
   exact List.mem_of_getElem? this
  exact hn (q j, .hole) (List.mem_append_right _ (List.mem_map.2 ⟨q j, hm, rfl⟩))
 have hqlt : ∀ j, j < all.length -> q j < c.H.length := fun j hj => by
  rcases Nat.lt_or_ge j ks.length with h | h
  ·exact (List.getElem?_eq_some_iff.1 (hlent j _ (List.getElem?_eq_getElem (by omega)))).1
  ·exact (List.getElem?_eq_some_iff.1 (hnew j h hj)).1
 have hqinj : ∀ i j, i < all.length -> j < all.length -> q i = q j -> i = j := fun i j hi hj h => numOf_inj hd hi hj h
 have hccown : ∀ b, cc.Owns b -> ∃ j ob, Ls[j]? = some ob /\ blk c.g (q j) (renO q ob) = some b := by
  rintro b ⟨j, ob, hj, hb⟩
  exact ⟨j, ob, hj, by rw [blk_renO (fun j => c.g (q j)) c.g q j ob rfl]; exact hb⟩
 have hccok : cc.Ok := by
  refine ⟨fun j ob hj => ?_, fun i j oi oj b hi hj hne hbi hbj => ?_, fun j ob b hj hbj => ?_, hok.imm, fun b p j ob h hj hbj => ?_⟩
  ·have hlt : j < Ls.length := (List.getElem?_eq_some_iff.1 hj).1
   exact ren_holds (g := fun j => c.g (q j)) (g' := c.g) (r := q) (m := Ls.length) (fun k _ => rfl) hlt (by rw [hLs]; exact List.all_eq_true.1 hu ob (List.mem_of_getElem? hj)) (hok.obj (q j) _ (hlent j ob hj))
  ·have hi1 : i < Ls.length := (List.getElem?_eq_some_iff.1 hi).1
   have hj1 : j < Ls.length := (List.getElem?_eq_some_iff.1 hj).1
   refine hok.apart (q i) (q j) _ _ b (hlent i oi hi) (hlent j oj hj) (fun h => hne (hqinj i j (by omega) (by omega) h)) ?_ ?_
   ·rw [blk_renO (fun j => c.g (q j)) c.g q i oi rfl]; exact hbi
   ·rw [blk_renO (fun j => c.g (q j)) c.g q j oj rfl]; exact hbj
  ·exact hok.old (q j) _ b (hlent j ob hj) (by rw [blk_renO (fun j => c.g (q j)) c.g q j ob rfl]; exact hbj)
  ·exact hok.immApart b p (q j) _ h (hlent j ob hj) (by rw [blk_renO (fun j => c.g (q j)) c.g q j ob rfl]; exact hbj)
 have hown : ∀ b, cc.Owns b -> c.Owns b := fun b hb' => by
  obtain ⟨j, ob, hj, hbj⟩ := hccown b hb'
  exact ⟨q j, _, hlent j ob hj, hbj⟩
 have hccb : Base X cc := ⟨hb.below, hb.imm, fun b h => hb.own b (hown b h)⟩
 refine (hcall.2 cc cargs hccok hccb rfl (by rw [h2, hargs.len]) fun j av hj => ?_).mono ?_
 ·have hlt : j < (callArgs ρ cl.args n caps).length := by rw [<- hargs.len]; exact (List.getElem?_eq_some_iff.1 hj).1
  obtain ⟨v, k1, k2⟩ := h3 j _ (List.getElem?_eq_getElem hlt)
  have k3 := (hargs.at j _ av (List.getElem?_eq_getElem hlt) hj).reads k2
  refine ⟨v, k1, ?_⟩
  exact reads_ren (g := fun j => c.g (q j)) (g' := c.g) (r := q) (m := Ls.length) (fun k _ => rfl) av v (by rw [hLs]; exact List.all_eq_true.1 hau av (List.mem_of_getElem? hj)) k3
 ·rintro e w' ⟨v, cc', rfl, rfl, htr, hH', hread⟩
  -- the caller's places behind the call
  have hwh : ∀ k, (∃ j, j < all.length /\ q j = k) \/ ∀ j, j < all.length -> q j ≠ k := fun k => by
   by_cases h : ∃ j, j < all.length /\ q j = k
   ·exact .inl h
   ·exact .inr fun j hj e => h ⟨j, hj, e⟩
  let g' : Nat -> GO := fun k => if h : ∃ j, j < all.length /\ q j = k then cc'.g (Classical.choose h) else c.g k
  have hg1 : ∀ j, j < all.length -> g' (q j) = cc'.g j := fun j hj => by
   have hex : ∃ i, i < all.length /\ q i = q j := ⟨j, hj, rfl⟩
   have hs := Classical.choose_spec hex
   have : Classical.choose hex = j := hqinj _ _ hs.1 hj hs.2
   simp only [g', dif_pos hex, this]
  have hg2 : ∀ k, (∀ j, j < all.length -> q j ≠ k) -> g' k = c.g k := fun k hk => by
   have : ¬ ∃ j, j < all.length /\ q j = k := fun ⟨j, hj, e⟩ => hk j hj e
   simp only [g', dif_neg this]
  have hlen' : cc'.H.length = all.length := by rw [hH', hL']
  let W := all.zip (L'.map (renO q))
  let c' : Cfg := ⟨g', cc'.I, cc'.w, setAll c.H W⟩
  have hWlen : (setAll c.H W).length = c.H.length := setAll_length _ _
  have hin : ∀ j ob, cc'.H[j]? = some ob -> (setAll c.H W)[q j]? = some (renO q ob) := fun j ob hj => by
   have hlt : j < all.length := by rw [<- hlen']; exact (List.getElem?_eq_some_iff.1 hj).1
   refine setAll_zip all (L'.map (renO q)) c.H (by simp [hL']) hd (fun k hk => ?_) j (q j) (renO q ob) (numOf_get hlt) (by rw [hH'] at hj; simp [hj])
   obtain ⟨i, hi⟩ := List.getElem?_of_mem hk
   have hi' : i < all.length := (List.getElem?_eq_some_iff.1 hi).1
   have := numOf_get (all := all) hi'
   rw [hi] at this
   rw [Option.some.inj this]
   exact hqlt i hi'
  have hout : ∀ k, (∀ j, j < all.length -> q j ≠ k) -> (setAll c.H W)[k]? = c.H[k]? := fun k hk => setAll_other _ _ _ fun x hx e => by
   have := (List.of_mem_zip hx).1
   obtain ⟨i, hi⟩ := List.getElem?_of_mem this
   have hi' : i < all.length := (List.getElem?_eq_some_iff.1 hi).1
   have h2 := numOf_get (all := all) hi'
   rw [hi] at h2
   exact hk i hi' ((Option.some.inj h2).symm.trans e)
  have look : ∀ k ob, (setAll c.H W)[k]? = some ob -> (∃ j ob', j < all.length /\ q j = k /\ cc'.H[j]? = some ob' /\ ob = renO q ob') \/ ((∀ j, j < all.length -> q j ≠ k) /\ c.H[k]? = some ob) := fun k ob h => by
   rcases hwh k with ⟨j, hj, rfl⟩ | hno
   ·have hj' : cc'.H[j]? = some (cc'.H[j]'(by omega)) := List.getElem?_eq_getElem (by omega)
    rw [hin j _ hj'] at h
    exact .inl ⟨j, _, hj, rfl, hj', (Option.some.inj h).symm⟩
   ·exact .inr ⟨hno, by rw [<- hout k hno]; exact h⟩
  have hblkin : ∀ j ob', j < all.length -> blk g' (q j) (renO q ob') = blk cc'.g j ob' := fun j ob' hj => blk_renO cc'.g g' q j ob' (hg1 j hj)
  have hblkout : ∀ k ob, (∀ j, j < all.length -> q j ≠ k) -> blk g' k ob = blk c.g k ob := fun k ob hk => blk_congr (hg2 k hk)
  have hccsz : cc'.w.heap.size ≥ c.w.heap.size := htr.size
  -- a block of another object is none of the callee's
  have hforeign : ∀ k ob b, (∀ j, j < all.length -> q j ≠ k) -> c.H[k]? = some ob -> blk c.g k ob = some b -> ¬ cc.Owns b := fun k ob b hk hko hkb ho => by
   obtain ⟨j, ob', hj, hbj⟩ := hccown b ho
   have hlt : j < Ls.length := (List.getElem?_eq_some_iff.1 hj).1
   exact hok.apart k (q j) ob _ b hko (hlent j ob' hj) (fun e => hk j (by omega) e.symm) hkb hbj
  have hcell : ∀ b p, c.I b p -> cc'.I b p /\ cc'.w.cell? ⟨b, p, none⟩ = c.w.cell? ⟨b, p, none⟩ := htr.keep
  have hplaces : ∀ k, k < c.H.length -> (0 < (c.g k).ver -> (g' k).b = (c.g k).b) /\ (c.g k).ver <= (g' k).ver /\ ((g' k).ver = (c.g k).ver -> (g' k).v = (c.g k).v) := fun k hk => by
   rcases hwh k with ⟨j, hj, rfl⟩ | hno
   ·rw [hg1 j hj]
    rcases Nat.lt_or_ge j ks.length with h | h
    ·exact htr.places j (show j < Ls.length by omega)
    ·have h0 : (c.g (q j)).ver = 0 := hok.obj (q j) _ (hnew j h hj)
     have hj' : cc'.H[j]? = some (cc'.H[j]'(by omega)) := List.getElem?_eq_getElem (by omega)
     have hob := htr.ok.obj j _ hj'
     have hlv : (cc'.H[j]'(by omega)).live = true := by
      have hm : (cc'.H[j]'(by omega)) ∈ L'.drop ks.length := by
       refine List.mem_of_getElem? (i := j - ks.length) ?_
       rw [List.getElem?_drop, <- hH', show ks.length + (j - ks.length) = j by omega]
       exact hj'
      exact List.all_eq_true.1 hlive _ hm
     have hpos : 0 < (cc'.g j).ver := by
      generalize cc'.H[j]'(by omega) = ob at hob hlv
      cases ob with
      | box cells => exact hob.1
      | list e es n' f' ver => have h1 := hob.1; have h2 := hob.2.1; omega
      | dead => cases hlv
      | hole => cases hlv
      | lrec => exact hob.1
      | iter => cases hlv
      | last e es n' cells' ver => have h1 := hob.1; have h2 := hob.2.1; omega
     exact ⟨fun hp => by omega, by omega, fun e => by omega⟩
   ·rw [hg2 k hno]; exact ⟨fun _ => rfl, Nat.le_refl _, fun _ => rfl⟩
  have hholds : ∀ k ob, (setAll c.H W)[k]? = some ob -> Holds g' cc'.I cc'.w (setAll c.H W).length k ob := fun k ob h => by
   rw [hWlen]
   rcases look k ob h with ⟨j, ob', hj, rfl, hj', rfl⟩ | ⟨hno, h'⟩
   ·exact holds_ren (g := cc'.g) (g' := g') (m := cc'.H.length) (fun i hi => ⟨hqlt i (by omega), hg1 i (by omega)⟩) (by omega) (htr.ok.obj j _ hj')
   ·exact Holds.mono hplaces hcell (Nat.le_refl _) (hg2 k hno) (fun b hbk => htr.block b (hok.old k ob b h' hbk) (hforeign k ob b hno h' hbk)) (hok.obj k ob h')
  have htr' : Tr c c' := by
   refine ⟨⟨hholds, fun i j oi oj b hi hj hne hbi hbj => ?_, fun k ob b hk hbk => ?_, htr.ok.imm, fun b p k ob hI hk hbk => ?_⟩, Nat.le_of_eq hWlen.symm, hplaces, hcell, fun b p hI => ?_, fun b hbo => ?_, htr.os, htr.tape, htr.output, htr.size, fun b hlt hno => htr.block b hlt fun h => hno (hown b h)⟩
   ·rcases look i oi hi with ⟨i', oi', hi1, rfl, hi2, rfl⟩ | ⟨hni, hi2⟩
    ·rw [hblkin i' oi' hi1] at hbi
     rcases look j oj hj with ⟨j', oj', hj1, rfl, hj2, rfl⟩ | ⟨hnj, hj2⟩
     ·rw [hblkin j' oj' hj1] at hbj
      exact htr.ok.apart i' j' oi' oj' b hi2 hj2 (fun e => hne (by rw [e])) hbi hbj
     ·rw [hblkout j oj hnj] at hbj
      rcases htr.own b ⟨i', oi', hi2, hbi⟩ with h | h
      ·have := hok.old j oj b hj2 hbj
       have h : c.w.heap.size <= b := h
       omega
      ·exact hforeign j oj b hnj hj2 hbj h
    ·rw [hblkout i oi hni] at hbi
     rcases look j oj hj with ⟨j', oj', hj1, rfl, hj2, rfl⟩ | ⟨hnj, hj2⟩
     ·rw [hblkin j' oj' hj1] at hbj
      rcases htr.own b ⟨j', oj', hj2, hbj⟩ with h | h
      ·have := hok.old i oi b hi2 hbi
       have h : c.w.heap.size <= b := h
       omega
      ·exact hforeign i oi b hni hi2 hbi h
     ·rw [hblkout j oj hnj] at hbj
      exact hok.apart i j oi oj b hi2 hj2 hne hbi hbj
   ·show b < cc'.w.heap.size
    rcases look k ob hk with ⟨j, ob', hj1, rfl, hj2, rfl⟩ | ⟨hno, hk2⟩
    ·rw [hblkin j ob' hj1] at hbk
     exact htr.ok.old j ob' b hj2 hbk
    ·rw [hblkout k ob hno] at hbk
     have := hok.old k ob b hk2 hbk
     omega
   ·rcases look k ob hk with ⟨j, ob', hj1, rfl, hj2, rfl⟩ | ⟨hno, hk2⟩
    ·rw [hblkin j ob' hj1] at hbk
     exact htr.ok.immApart b p j ob' hI hj2 hbk
    ·rw [hblkout k ob hno] at hbk
     rcases htr.new b p hI with h | h | h
     ·exact hok.immApart b p k ob h hk2 hbk
     ·have := hok.old k ob b hk2 hbk
      have h : c.w.heap.size <= b := h
      omega
     ·exact hforeign k ob b hno hk2 hbk h
   ·rcases htr.new b p hI with h | h | h
    ·exact .inl h
    ·exact .inr (.inl h)
    ·exact .inr (.inr (hown b h))
   ·obtain ⟨k, ob, hk, hbk⟩ := hbo
    rcases look k ob hk with ⟨j, ob', hj1, rfl, hj2, rfl⟩ | ⟨hno, hk2⟩
    ·rw [hblkin j ob' hj1] at hbk
     rcases htr.own b ⟨j, ob', hj2, hbk⟩ with h | h
     ·exact .inl h
     ·exact .inr (hown b h)
    ·rw [hblkout k ob hno] at hbk
     exact .inr ⟨k, ob, hk2, hbk⟩
  exact hk c' v htr' rfl (ren_reads (g := cc'.g) (g' := g') (m := cc'.H.length) (m' := (setAll c.H W).length) (fun k hk => ⟨by rw [hWlen]; exact hqlt k (by omega), hg1 k (by omega)⟩) r v hread)
end
end Go.Fx
/-
 An operation in a region: what it reads and writes of the owned blocks, cell by cell; the reading of an operation as a program.
-/
namespace Go.Fx
open Go.RowKit
structure Rg where
 k : Nat
 lo : Nat
 hi : Option Nat
inductive W where
 | set (k : Nat) (o : HObj)
 | cells (k off : Nat) (l : List AV)
 | elem (k p off : Nat) (l : List AV)
def W.put (H : List HObj) : W -> List HObj
 | .set k o => H.set k o
 | .cells k off l => match H[k]? with | some (.box cs) => H.set k (.box (setCells cs off l)) | _ => H
 | .elem k p off l => match H[k]? with | some (.list e es n f ver) => H.set k (.list e es n (putF p off l f) ver) | _ => H
def putAll (H : List HObj) : List W -> List HObj
 | [] => H
 | w :: ws => putAll (w.put H) ws
def Same1 (H H' : List HObj) (k j : Nat) : Prop :=
 match H[k]?, H'[k]? with
 | some (.box a), some (.box b) => a.length = b.length /\ a[j]? = b[j]?
 | some (.list e es n f v), some (.list e' es' n' f' v') => e = e' /\ es = es' /\ n = n' /\ v = v' /\ ∀ i, f i j = f' i j
 | x, y => x = y
def Rg.has (r : Rg) (j : Nat) : Prop := r.lo <= j /\ match r.hi with | none => True | some h => j < h
def Agree (H H' : List HObj) (r : Rg) : Prop := (∃ j, Same1 H H' r.k j) /\ ∀ j, r.has j -> Same1 H H' r.k j
theorem Same1.refl (H : List HObj) (k j : Nat) : Same1 H H k j := by
 unfold Same1
 split <;> first | exact ⟨rfl, rfl⟩ | skip
 ·rename_i h1 h2
  rw [h1] at h2
  cases h2
  exact ⟨rfl, rfl⟩
 ·rename_i h1 h2
  rw [h1] at h2
  cases h2
  exact ⟨rfl, rfl, rfl, rfl, fun _ => rfl⟩
 ·rfl
theorem Same1.whole {H H' : List HObj} {k : Nat} (h : ∀ j, Same1 H H' k j) : H[k]? = H'[k]? := by
 have h0 := h 0
 unfold Same1 at h0
 split at h0
 ·rename_i a b h1 h2
  rw [h1, h2]
  congr 2
  apply List.ext_getElem?
  intro j
  have hj := h j
  simp only [Same1, h1, h2] at hj
  exact hj.2
 ·rename_i e es n f v e' es' n' f' v' h1 h2
  obtain ⟨rfl, rfl, rfl, rfl, _⟩ := h0
  rw [h1, h2]
  have hf : f = f' := by
   funext i j
   have hj := h j
   simp only [Same1, h1, h2] at hj
   exact hj.2.2.2.2 i
  rw [hf]
 ·exact h0
theorem Agree.whole {H H' : List HObj} {k : Nat} (h : Agree H H' ⟨k, 0, none⟩) : H[k]? = H'[k]? := Same1.whole fun j => h.2 j ⟨Nat.zero_le _, trivial⟩
def GHolds (g : Option (Nat × Bool)) (a : Act) : Prop := match g with | none => True | some (t, b) => a.eval (.tmp t) = .bool b
def StepE (X : Ctx) (o : Oper) (R : Option (Nat × Bool) -> Operand -> AV) (g : Option (Nat × Bool)) (H : List HObj) (rs : List Rg) (av : AV) (ws : List W) : Prop :=
 ∀ (c : Cfg) (a : Act) (K : Act -> World -> Prop) (Q : Exit -> Act -> World -> Prop), c.Ok -> Base X c -> (∀ r ∈ rs, Agree H c.H r) -> GHolds g a -> (∀ g, GHolds g a -> ∀ x ∈ o.op.operands.toList, c.Reads (R g x) (a.eval x)) ->
  (∀ c' v, Tr c c' -> c'.H = putAll c.H ws -> c'.Reads av v -> K (a.put o.dst v) c'.w) -> ∀ ρ, o.wpIn (FR ρ) 0 X.P a c.w K Q
theorem putAll_sets : ∀ (l : List (Nat × HObj)) (H : List HObj), putAll H (l.map fun x => .set x.1 x.2) = setAll H l
 | [], H => rfl
 | (k, o) :: l, H => by simp [putAll, setAll, W.put, putAll_sets l]
theorem StepOK.stepE {X : Ctx} {o : Oper} {R : Option (Nat × Bool) -> Operand -> AV} {g : Option (Nat × Bool)} {H : List HObj} {need write : List (Nat × HObj)} {av : AV} (h : StepOK X o (R g) need av write) (hn : ∀ x ∈ need, H[x.1]? = some x.2) :
  StepE X o R g H (need.map fun x => ⟨x.1, 0, none⟩) av (write.map fun x => .set x.1 x.2) := by
 intro c a K Q hok hb hag hg hr hk
 refine h c a K Q hok hb (fun x hx => ?_) (hr g hg) fun c' v ht hH hv => hk c' v ht (by rw [putAll_sets]; exact hH) hv
 rw [<- Agree.whole (hag ⟨x.1, 0, none⟩ (List.mem_map.2 ⟨x, hx, rfl⟩))]
 exact hn x hx
theorem agree_box {H H' : List HObj} {k lo : Nat} {hi : Option Nat} {cells : List AV} (h : Agree H H' ⟨k, lo, hi⟩) (hk : H[k]? = some (.box cells)) :
  ∃ cells', H'[k]? = some (.box cells') /\ cells.length = cells'.length /\ ∀ j, Rg.has ⟨k, lo, hi⟩ j -> cells[j]? = cells'[j]? := by
 obtain ⟨⟨j0, h0⟩, h⟩ := h
 simp only [Same1, hk] at h0
 split at h0
 ·rename_i a b h1 h2
  cases h1
  refine ⟨b, h2, h0.1, fun j hj => ?_⟩
  have := h j hj
  simp only [Same1, hk, h2] at this
  exact this.2
 ·rename_i h1 h2; cases h1
 ·rename_i h1 h2
  cases hx : H'[k]? with
  | none => rw [hx] at h0; cases h0
  | some o' => rw [hx] at h0; cases h0; exact absurd hx (by intro e'; exact h1 _ _ rfl e')
theorem agree_list {H H' : List HObj} {k lo : Nat} {hi : Option Nat} {e es n ver : Nat} {f : Nat -> Nat -> AV} (h : Agree H H' ⟨k, lo, hi⟩) (hk : H[k]? = some (.list e es n f ver)) :
  ∃ f', H'[k]? = some (.list e es n f' ver) /\ ∀ i j, Rg.has ⟨k, lo, hi⟩ j -> f i j = f' i j := by
 obtain ⟨⟨j0, h0⟩, h⟩ := h
 simp only [Same1, hk] at h0
 split at h0
 ·rename_i h1 h2; cases h1
 ·rename_i e1 es1 n1 f1 v1 e2 es2 n2 f2 v2 h1 h2
  cases h1
  obtain ⟨rfl, rfl, rfl, rfl, _⟩ := h0
  refine ⟨f2, h2, fun i j hj => ?_⟩
  have := h j hj
  simp only [Same1, hk, h2] at this
  exact this.2.2.2.2 i
 ·rename_i h1 h2
  exact absurd h0.symm (by intro e'; exact h2 _ _ _ _ _ _ _ _ _ _ rfl e')
theorem partAV_congr {i : TI} (h1 : i.isAgg = false -> i.size = 1) {f g : Nat -> AV} {off : Nat} (h : ∀ j, j < i.size -> f (off + j) = g (off + j)) : Le (partAV i f off) (partAV i g off) := by
 unfold partAV
 cases ha : i.isAgg with
 | true => exact .agg fun j hj => by rw [h j hj]; exact .refl _
 | false =>
  have := h 0 (by rw [h1 ha]; omega)
  simp only [Nat.add_zero] at this
  simp only [Bool.false_eq_true, if_false]
  rw [this]
  exact .refl _
section
variable {X : Ctx} {o : Oper} {R : Option (Nat × Bool) -> Operand -> AV} {g : Option (Nat × Bool)} {H : List HObj}
theorem stepE_load_box (hX : X.Good) {t : TypeId} {i : TI} {x : Operand} {k off : Nat} {cells : List AV} (ho : o.op = .load t x) (hx : R g x = .ptr k off) (hi : X.T t = some i)
  (hk : H[k]? = some (.box cells)) (hn : off + i.size <= cells.length) : StepE X o R g H [⟨k, off, some (off + i.size)⟩] (partAV i (fun j => cells.getD j .any) off) [] := by
 intro c a K Q hok hb hag hg hr hK
 obtain ⟨cells', h1, h2, h3⟩ := agree_box (hag _ (List.mem_singleton.2 rfl)) hk
 refine step_load_box hX ho hx hi (cells := cells') (by omega) c a K Q hok hb (fun x hx => by rw [List.mem_singleton.1 hx]; exact h1) (hr g hg) fun c' v ht hH hv => hK c' v ht hH ?_
 refine (partAV_congr (hX.types t i hi).one fun j hj => ?_).reads hv
 rw [List.getD_eq_getElem?_getD, List.getD_eq_getElem?_getD, h3 (off + j) ⟨by show off <= off + j; omega, by show off + j < off + i.size; omega⟩]
theorem stepE_store_box (hX : X.Good) {t : TypeId} {i : TI} {p x : Operand} {k off : Nat} {cells l : List AV} (ho : o.op = .store t p x) (hp : R g p = .ptr k off) (hi : X.T t = some i)
  (hk : H[k]? = some (.box cells)) (hl : (R g x).cells = some l) (hs : l.length = i.size) (hn : off + i.size <= cells.length) : StepE X o R g H [⟨k, 0, some 0⟩] .any [.cells k off l] := by
 intro c a K Q hok hb hag hg hr hK
 obtain ⟨cells', h1, h2, _⟩ := agree_box (hag _ (List.mem_singleton.2 rfl)) hk
 refine step_store_box hX ho hp hi (cells := cells') hl hs (by omega) c a K Q hok hb (fun x hx => by rw [List.mem_singleton.1 hx]; exact h1) (hr g hg) fun c' v ht hH hv => hK c' v ht ?_ hv
 rw [hH]
 simp only [putAll, setAll, W.put, h1]
theorem stepE_load_l (hX : X.Good) {t : TypeId} {i : TI} {x : Operand} {q ver es p off len : Nat} {e : TypeId} {f : Nat -> Nat -> AV} (ho : o.op = .load t x) (hx : R g x = .lptr q ver es p off) (hi : X.T t = some i)
  (hk : H[q]? = some (.list e es len f ver)) (hp : p < len) (hn : off + i.size <= es) : StepE X o R g H [⟨q, off, some (off + i.size)⟩] (partAV i (f p) off) [] := by
 intro c a K Q hok hb hag hg hr hK
 obtain ⟨f', h1, h2⟩ := agree_list (hag _ (List.mem_singleton.2 rfl)) hk
 refine step_load_l hX ho hx hi (f := f') hp hn c a K Q hok hb (fun x hx => by rw [List.mem_singleton.1 hx]; exact h1) (hr g hg) fun c' v ht hH hv => hK c' v ht hH ?_
 exact (partAV_congr (hX.types t i hi).one fun j hj => (h2 p (off + j) ⟨by show off <= off + j; omega, by show off + j < off + i.size; omega⟩).symm).reads hv
theorem stepE_store_l (hX : X.Good) {t : TypeId} {i : TI} {y x : Operand} {q ver es p off len : Nat} {e : TypeId} {f : Nat -> Nat -> AV} {l : List AV} (ho : o.op = .store t x y) (hx : R g x = .lptr q ver es p off) (hi : X.T t = some i)
  (hk : H[q]? = some (.list e es len f ver)) (hp : p < len) (hn : off + i.size <= es) (hl : (R g y).cells = some l) (hs : l.length = i.size) (hfree : (l.all (·.free)) = true) :
  StepE X o R g H [⟨q, off, some (off + i.size)⟩] .any [.elem q p off l] := by
 intro c a K Q hok hb hag hg hr hK
 obtain ⟨f', h1, h2⟩ := agree_list (hag _ (List.mem_singleton.2 rfl)) hk
 refine step_store_l hX ho hx hi (f := f') hp hn hl hs hfree c a K Q hok hb (fun x hx => by rw [List.mem_singleton.1 hx]; exact h1) (hr g hg) fun c' v ht hH hv => hK c' v ht ?_ hv
 rw [hH]
 simp only [putAll, setAll, W.put, h1]
theorem stepE_indexAddr_own (hX : X.Good) {t e e' : TypeId} {i ei : TI} {x y : Operand} {es len q ver : Nat} {f : Nat -> Nat -> AV} {k : IntKind} {n : Int} (ho : o.op = .indexAddr t x y) (hx : R g x = .own q ver) (hy : R g y = .int k n)
  (hk : H[q]? = some (.list e' es len f ver)) (hi : X.T t = some i) (ha : i.elemOf = some e) (he : X.T e = some ei) (hes : ei.size = es) (h0 : 0 <= n) (h1 : n < len) : StepE X o R g H [⟨q, 0, some 0⟩] (.lptr q ver es n.toNat 0) [] := by
 intro c a K Q hok hb hag hg hr hK
 obtain ⟨f', h2, _⟩ := agree_list (hag _ (List.mem_singleton.2 rfl)) hk
 exact step_indexAddr_own hX ho hx hy (f := f') hi ha he hes h0 h1 c a K Q hok hb (fun x hx => by rw [List.mem_singleton.1 hx]; exact h2) (hr g hg) hK
theorem stepE_pick {t : Nat} {y z : Operand} {b p q : Bool} (ho : o.op = .pick (.tmp t) y z) (hx : R g (.tmp t) = .bool b) (hy : R (some (t, true)) y = .bool p) (hz : R (some (t, false)) z = .bool q) :
  StepE X o R g H [] (.bool (bif b then p else q)) [] := by
 intro c a K Q hok hb hag hg hr hK
 have h1 := hr g hg (.tmp t) (by simp [ho, Op.operands])
 rw [hx] at h1
 have h1 : a.eval (.tmp t) = .bool b := h1
 intro ρ
 cases b with
 | true =>
  have h2 := hr (some (t, true)) h1 y (by simp [ho, Op.operands])
  rw [hy] at h2
  have h2 : a.eval y = .bool p := h2
  have : (execOp a.eval o).run X.P c.w = .ok (.value (.bool p)) c.w := by simp [execOp, ho, h1, asBool, h2]
  exact wpIn_value ρ this (hK c _ (.refl hok) rfl rfl)
 | false =>
  have h2 := hr (some (t, false)) h1 z (by simp [ho, Op.operands])
  rw [hz] at h2
  have h2 : a.eval z = .bool q := h2
  have : (execOp a.eval o).run X.P c.w = .ok (.value (.bool q)) c.w := by simp [execOp, ho, h1, asBool, h2]
  exact wpIn_value ρ this (hK c _ (.refl hok) rfl rfl)
end
end Go.Fx
/-
 A region's operations in any order that keeps what must come behind what: the state of the owned blocks, cell by cell.
-/
namespace Go.Fx
open Go.RowKit
inductive Mode where
 | exec
 | skip
 | cond (t : Nat) (want : Bool)
structure Item where
 o : Oper
 mode : Mode
 gd : Prop
 av : AV
 rs : List Rg
 ws : List W
 m : Nat
def dstIs : Option Nat -> Nat -> Bool
 | some d, t => Nat.beq d t
 | none, _ => false
def sameB : Bool -> Bool -> Bool
 | true, b => b
 | false, b => !b
theorem sameB_eq {a b : Bool} : sameB a b = true ↔ a = b := by cases a <;> cases b <;> simp [sameB]
def sameG : Option (Nat × Bool) -> Nat -> Bool -> Bool
 | some (s', w'), s, w => Nat.beq s' s && sameB w' w
 | none, _, _ => false
def lookI (g : Option (Nat × Bool)) : List Item -> (Nat -> AV) -> Nat -> AV
 | [], base, t => base t
 | it :: its, base, t => bif dstIs it.o.dst t then (match it.mode with | .exec => it.av | .skip => .any | .cond s w => bif sameG g s w then it.av else .any) else lookI g its base t
def rdO (X : Ctx) (look : Nat -> AV) : Operand -> AV
 | .tmp t => look t
 | .const v => ofVal v
 | .global g => (X.G g).getD .any
 | .func f => .fn f 0 (fun _ => .any)
theorem dstIs_eq {d : Option Nat} {t : Nat} : dstIs d t = true ↔ d = some t := by
 cases d with
 | none => simp [dstIs]
 | some d => simp [dstIs]
def W.k : W -> Nat
 | .set k _ => k
 | .cells k _ _ => k
 | .elem k _ _ _ => k
def W.hits : W -> Nat -> Nat -> Prop
 | .set k' _, k, _ => k' = k
 | .cells k' off l, k, j => k' = k /\ off <= j /\ j < off + l.length
 | .elem k' _ off l, k, j => k' = k /\ off <= j /\ j < off + l.length
def overlap (lo : Nat) (hi : Option Nat) (a b : Nat) : Bool := (match hi with | none => true | some h => Nat.blt a h) && Nat.blt lo b
def confRW (r : Rg) : W -> Bool
 | .set k _ => Nat.beq r.k k
 | .cells k off l => Nat.beq r.k k && overlap r.lo r.hi off (off + l.length)
 | .elem k _ off l => Nat.beq r.k k && overlap r.lo r.hi off (off + l.length)
def confWW : W -> W -> Bool
 | .set k _, w => Nat.beq k w.k
 | w, .set k _ => Nat.beq w.k k
 | .cells k off l, .cells k' off' l' => Nat.beq k k' && overlap off (some (off + l.length)) off' (off' + l'.length)
 | .elem k _ off l, .elem k' _ off' l' => Nat.beq k k' && overlap off (some (off + l.length)) off' (off' + l'.length)
 | .cells k _ _, .elem k' _ _ _ => Nat.beq k k'
 | .elem k _ _ _, .cells k' _ _ => Nat.beq k k'
def confI (x y : Item) : Bool := (x.ws.any fun w => y.ws.any fun w' => confWW w w') || (x.ws.any fun w => y.rs.any fun r => confRW r w) || (y.ws.any fun w => x.rs.any fun r => confRW r w)
theorem confRW_of {r : Rg} {w : W} {j : Nat} (h : r.has j) (hw : w.hits r.k j) : confRW r w = true := by
 obtain ⟨h1, h2⟩ := h
 have key : ∀ off len, off <= j -> j < off + len -> overlap r.lo r.hi off (off + len) = true := by
  intro off len h3 h4
  unfold overlap
  simp only [Bool.and_eq_true]
  refine ⟨?_, by rw [Nat.blt_eq]; omega⟩
  split
  ·rfl
  ·rename_i hh e; rw [e] at h2; rw [Nat.blt_eq]; exact Nat.lt_of_le_of_lt h3 h2
 cases w with
 | set k o => simp only [W.hits] at hw; subst hw; simp [confRW]
 | cells k off l => obtain ⟨rfl, h3, h4⟩ := hw; simp [confRW, key off l.length h3 h4]
 | elem k p off l => obtain ⟨rfl, h3, h4⟩ := hw; simp [confRW, key off l.length h3 h4]
theorem confWW_of {x y : W} {k j : Nat} (h : x.hits k j) (hw : y.hits k j) : confWW x y = true := by
 have key : ∀ o1 l1 o2 l2, o1 <= j -> j < o1 + l1 -> o2 <= j -> j < o2 + l2 -> overlap o1 (some (o1 + l1)) o2 (o2 + l2) = true := by
  intro o1 l1 o2 l2 _ _ _ _
  simp only [overlap, Bool.and_eq_true, Nat.blt_eq]
  omega
 cases x <;> cases y <;> simp only [W.hits] at h hw <;> simp only [confWW, W.k, Nat.beq_eq, Bool.and_eq_true]
 ·omega
 ·omega
 ·omega
 ·omega
 ·exact ⟨by omega, key _ _ _ _ h.2.1 h.2.2 hw.2.1 hw.2.2⟩
 ·omega
 ·omega
 ·omega
 ·exact ⟨by omega, key _ _ _ _ h.2.1 h.2.2 hw.2.1 hw.2.2⟩
theorem Same1.congr {H H' G G' : List HObj} {k j : Nat} (h : Same1 H H' k j) (h1 : G[k]? = H[k]?) (h2 : G'[k]? = H'[k]?) : Same1 G G' k j := by
 unfold Same1 at *
 rw [h1, h2]
 exact h
theorem setCells_ext {a b l : List AV} {off : Nat} (hl : a.length = b.length) {j : Nat} (h : a[j]? = b[j]?) : (setCells a off l)[j]? = (setCells b off l)[j]? := by
 induction l generalizing a b off with
 | nil => exact h
 | cons x l ih =>
  simp only [setCells, spineK_eq]
  refine ih (by simpa using hl) ?_
  by_cases e : off = j
  ·subst e
   simp only [List.getElem?_set, if_true]
   rw [hl]
  ·rw [List.getElem?_set_ne e, List.getElem?_set_ne e]; exact h
theorem setCells_keep {a l : List AV} {off j : Nat} (h : j < off \/ off + l.length <= j) : (setCells a off l)[j]? = a[j]? := by
 induction l generalizing a off with
 | nil => rfl
 | cons x l ih =>
  simp only [setCells, spineK_eq, List.length_cons] at h ⊢
  rw [ih (by omega), List.getElem?_set_ne (by omega)]
theorem W.put_len (w : W) (H : List HObj) : (w.put H).length = H.length := by
 cases w with
 | set k o => simp [W.put]
 | cells k off l => simp only [W.put]; split <;> simp
 | elem k p off l => simp only [W.put]; split <;> simp
theorem W.put_other {w : W} {H : List HObj} {k : Nat} (h : w.k ≠ k) : (w.put H)[k]? = H[k]? := by
 cases w with
 | set k' o => exact List.getElem?_set_ne h
 | cells k' off l => simp only [W.put]; split <;> first | exact List.getElem?_set_ne h | rfl
 | elem k' p off l => simp only [W.put]; split <;> first | exact List.getElem?_set_ne h | rfl
theorem W.put_same {w : W} {H G : List HObj} {k j : Nat} (hl : H.length = G.length) (h : Same1 H G k j) : Same1 (w.put H) (w.put G) k j := by
 by_cases e : w.k = k
 case neg => exact h.congr (W.put_other e) (W.put_other e)
 subst e
 cases w with
 | set k o =>
  simp only [W.put, W.k]
  refine (Same1.refl (H.set k o) k j).congr rfl ?_
  simp only [List.getElem?_set, if_true, hl]
 | cells k off l =>
  simp only [W.k] at *
  unfold Same1 at h
  simp only [W.put]
  split at h
  ·rename_i a b h1 h2
   rw [h1, h2]
   have hk1 : k < H.length := (List.getElem?_eq_some_iff.1 h1).1
   have hk2 : k < G.length := (List.getElem?_eq_some_iff.1 h2).1
   simp only [Same1, List.getElem?_set_self hk1, List.getElem?_set_self hk2]
   exact ⟨by rw [length_setCells, length_setCells]; exact h.1, setCells_ext h.1 h.2⟩
  ·rename_i h1 h2
   rw [h1, h2]
   simp only [Same1, h1, h2]
   exact h
  ·rw [h]
   have : Same1 H G k j := by
    have := Same1.refl G k j
    exact this.congr h rfl
   split
   ·rename_i cs hc
    have hk2 : k < G.length := (List.getElem?_eq_some_iff.1 hc).1
    refine (Same1.refl (G.set k (.box (setCells cs off l))) k j).congr ?_ rfl
    rw [List.getElem?_set_self (by omega), List.getElem?_set_self hk2]
   ·exact this
 | elem k p off l =>
  simp only [W.k] at *
  unfold Same1 at h
  simp only [W.put]
  split at h
  ·rename_i a b h1 h2
   rw [h1, h2]
   simp only [Same1, h1, h2]
   exact h
  ·rename_i e es n f v e' es' n' f' v' h1 h2
   obtain ⟨rfl, rfl, rfl, rfl, hf⟩ := h
   rw [h1, h2]
   have hk1 : k < H.length := (List.getElem?_eq_some_iff.1 h1).1
   have hk2 : k < G.length := (List.getElem?_eq_some_iff.1 h2).1
   simp only [Same1, List.getElem?_set_self hk1, List.getElem?_set_self hk2]
   refine ⟨trivial, trivial, trivial, trivial, fun i => ?_⟩
   simp only [putF, hf]
  ·rw [h]
   have : Same1 H G k j := by
    have := Same1.refl G k j
    exact this.congr h rfl
   split
   ·rename_i e es n f ver hc
    have hk2 : k < G.length := (List.getElem?_eq_some_iff.1 hc).1
    refine (Same1.refl (G.set k (.list e es n (putF p off l f) ver)) k j).congr ?_ rfl
    rw [List.getElem?_set_self (by omega), List.getElem?_set_self hk2]
   ·exact this
theorem W.put_keep {w : W} {H : List HObj} {k j : Nat} (h : ¬ w.hits k j) : Same1 (w.put H) H k j := by
 by_cases e : w.k = k
 case neg => exact (Same1.refl H k j).congr (W.put_other e) rfl
 subst e
 cases w with
 | set k o => exact absurd rfl h
 | cells k off l =>
  simp only [W.k, W.hits, true_and] at *
  simp only [W.put]
  split
  ·rename_i cs hc
   have hk : k < H.length := (List.getElem?_eq_some_iff.1 hc).1
   simp only [Same1, List.getElem?_set_self hk, hc]
   exact ⟨length_setCells _ _ _, setCells_keep (by omega)⟩
  ·exact Same1.refl H k j
 | elem k p off l =>
  simp only [W.k, W.hits, true_and] at *
  simp only [W.put]
  split
  ·rename_i e es n f ver hc
   have hk : k < H.length := (List.getElem?_eq_some_iff.1 hc).1
   simp only [Same1, List.getElem?_set_self hk, hc]
   refine ⟨trivial, trivial, trivial, trivial, fun i => ?_⟩
   unfold putF
   rw [if_neg (by omega)]
  ·exact Same1.refl H k j
theorem Same1.trans {A B C : List HObj} {k j : Nat} (h : Same1 A B k j) (h' : Same1 B C k j) : Same1 A C k j := by
 unfold Same1 at *
 split at h
 ·rename_i a b h1 h2
  rw [h2] at h'
  rw [h1]
  split at h'
  ·rename_i a' b' h3 h4
   cases h3
   rw [h4]
   exact ⟨h.1.trans h'.1, h.2.trans h'.2⟩
  ·rename_i h3 _; cases h3
  ·rename_i h3 h4
   rw [<- h']
   exact h
 ·rename_i e es n f v e' es' n' f' v' h1 h2
  rw [h2] at h'
  rw [h1]
  split at h'
  ·rename_i h3 _; cases h3
  ·rename_i h3 h4
   cases h3
   rw [h4]
   obtain ⟨rfl, rfl, rfl, rfl, p⟩ := h
   obtain ⟨rfl, rfl, rfl, rfl, q⟩ := h'
   exact ⟨rfl, rfl, rfl, rfl, fun i => (p i).trans (q i)⟩
  ·rename_i h3 h4
   rw [<- h']
   exact h
 ·rw [h]; exact h'
theorem putAll_len : ∀ (l : List W) (H : List HObj), (putAll H l).length = H.length
 | [], H => rfl
 | w :: l, H => by simp only [putAll]; rw [putAll_len l, w.put_len]
theorem putAll_same : ∀ (l : List W) {H G : List HObj} {k j : Nat}, H.length = G.length -> Same1 H G k j -> Same1 (putAll H l) (putAll G l) k j
 | [], _, _, _, _, _, h => h
 | w :: l, H, G, k, j, hl, h => putAll_same l (by rw [w.put_len, w.put_len]; exact hl) (W.put_same hl h)
theorem putAll_keep : ∀ (l : List W) {H : List HObj} {k j : Nat}, (∀ w ∈ l, ¬ w.hits k j) -> Same1 (putAll H l) H k j
 | [], H, k, j, _ => Same1.refl H k j
 | w :: l, H, k, j, h => (putAll_keep l fun x hx => h x (List.mem_cons_of_mem _ hx)).trans (W.put_keep (h w (List.mem_cons_self ..)))
end Go.Fx
