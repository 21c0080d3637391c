/-
  Contracts of the library's functions: sorting and compacting.
-/
import Derived.Shelf.Small.Bits
import Derived.Shelf.Strconv.Itoa0
import Derived.Shelf.Sort.Plain
import Derived.Shelf.Slices.Turned
import Derived.Ground.Names2Prog
import Derived.Shelf.Slices.CompactI
import Derived.Shelf.Slices.SearchI
import Derived.Shelf.Slices.Cells
import Derived.Shelf.Slices.In.SortNone
import Derived.Shelf.Slices.Empties
import Derived.Test.YtgegfljeglphlaaProg
import Derived.Test.YtgegfljeglphlaaFp

set_option linter.all false

/-
  DERIVED: THE SHELF's CONTRACTS AT THIS DUMP, IN PLAIN WORDS (tools/lay-plain.mjs out of 'TryShelf.lean', which tools/lay-shelf.mjs wrote): THE SAME DECLARATIONS UNDER THE SAME NAMES: 'import', 'namespace', 'open', 'def', 'theorem' AND NOTHING ELSE: no command of the shelf's: FOR A HAND-IN. Each laying: the table of numbers ('.._ren') and one theorem, a field a fact of the dump's own or the kernel's comparison; each contract: ONE APPLICATION.
-/
namespace Go.Proofs
open Go.Shelf
def Try.lays189_ren : Go.Shelf.Ren := ⟨fun | 189 => 64 | 125 => 75 | 257 => 74 | 128 => 88 | 129 => 89 | 294 => 79 | 295 => 80 | 296 => 81 | 297 => 82 | 298 => 83 | 299 => 84 | 216 => 85 | 300 => 86 | 301 => 87 | 328 => 91 | 329 => 92 | 330 => 93 | 331 => 94 | 332 => 95 | 215 => 96 | 343 => 97 | n => n, fun | 28 => 23 | 3 => 3 | 46 => 135 | 0 => 0 | 51 => 150 | 53 => 152 | 4 => 4 | 183 => 143 | 182 => 142 | 131 => 139 | 5 => 5 | 9 => 9 | 218 => 153 | 222 => 157 | 228 => 159 | 229 => 160 | n => n, fun | n => n⟩
theorem Try.lays189 : Go.Proofs.Lays.n189 Try.prog Try.lays189_ren := {
  mixed := by kernel_rfl
  f125 := Try.func75.trans (congrArg some (by kernel_rfl))
  f128 := Try.func88.trans (congrArg some (by kernel_rfl))
  f129 := Try.func89.trans (congrArg some (by kernel_rfl))
  f189 := Try.func64.trans (congrArg some (by kernel_rfl))
  f215 := Try.func96.trans (congrArg some (by kernel_rfl))
  f216 := Try.func85.trans (congrArg some (by kernel_rfl))
  f257 := Try.func74.trans (congrArg some (by kernel_rfl))
  f294 := Try.func79.trans (congrArg some (by kernel_rfl))
  f295 := Try.func80.trans (congrArg some (by kernel_rfl))
  f296 := Try.func81.trans (congrArg some (by kernel_rfl))
  f297 := Try.func82.trans (congrArg some (by kernel_rfl))
  f298 := Try.func83.trans (congrArg some (by kernel_rfl))
  f299 := Try.func84.trans (congrArg some (by kernel_rfl))
  f300 := Try.func86.trans (congrArg some (by kernel_rfl))
  f301 := Try.func87.trans (congrArg some (by kernel_rfl))
  f328 := Try.func91.trans (congrArg some (by kernel_rfl))
  f329 := Try.func92.trans (congrArg some (by kernel_rfl))
  f330 := Try.func93.trans (congrArg some (by kernel_rfl))
  f331 := Try.func94.trans (congrArg some (by kernel_rfl))
  f332 := Try.func95.trans (congrArg some (by kernel_rfl))
  f343 := Try.func97.trans (congrArg some (by kernel_rfl))
  t0 := Try.underlying0
  a0 := Try.isAgg0
  z0 := Try.sizeOf0
  v0 := Try.zeroValue0
  t3 := Try.underlying3
  a3 := Try.isAgg3
  z3 := Try.sizeOf3
  v3 := Try.zeroValue3
  t4 := Try.underlying4
  a4 := Try.isAgg4
  z4 := Try.sizeOf4
  v4 := Try.zeroValue4
  t5 := Try.underlying5
  a5 := Try.isAgg5
  z5 := Try.sizeOf5
  v5 := Try.zeroValue5
  t9 := Try.underlying9
  a9 := Try.isAgg9
  z9 := Try.sizeOf9
  v9 := Try.zeroValue9
  t28 := Try.underlying23
  a28 := Try.isAgg23
  z28 := Try.sizeOf23
  v28 := Try.zeroValue23
  t46 := Try.underlying135
  a46 := Try.isAgg135
  z46 := Try.sizeOf135
  v46 := Try.zeroValue135
  t51 := Try.underlying150
  a51 := Try.isAgg150
  z51 := Try.sizeOf150
  v51 := Try.zeroValue150
  t53 := Try.underlying152
  a53 := Try.isAgg152
  z53 := Try.sizeOf152
  v53 := Try.zeroValue152
  t131 := Try.underlying139
  a131 := Try.isAgg139
  z131 := Try.sizeOf139
  v131 := Try.zeroValue139
  t182 := Try.underlying142
  a182 := Try.isAgg142
  z182 := Try.sizeOf142
  v182 := Try.zeroValue142
  t183 := Try.underlying143
  a183 := Try.isAgg143
  z183 := Try.sizeOf143
  v183 := Try.zeroValue143
  t218 := Try.underlying153
  a218 := Try.isAgg153
  z218 := Try.sizeOf153
  v218 := Try.zeroValue153
  t222 := Try.underlying157
  a222 := Try.isAgg157
  z222 := Try.sizeOf157
  v222 := Try.zeroValue157
  t228 := Try.underlying159
  a228 := Try.isAgg159
  z228 := Try.sizeOf159
  v228 := Try.zeroValue159
  t229 := Try.underlying160
  a229 := Try.isAgg160
  z229 := Try.sizeOf160
  v229 := Try.zeroValue160 }
open Go.Sort Go.RowKit in
theorem Try.slices_Sort_int (blk off cap : Nat) (zs : List Int) (w : World) (hH : Holds (Value.int .i64) w blk off zs.toArray) (hblk : blk < w.heap.size) (hsz : zs.length < 4611686018427387904) :
    Calls Try.prog 64 #[.slice (some ⟨blk, off, none⟩) zs.length cap] w fun e w' =>
      e = .returned (.tuple #[]) ∧ ∃ n os, w' = grow (putRow (Value.int .i64) (Sort.ahead w n) blk off (zs.mergeSort fun x y => decide (x ≤ y)).toArray) os := Any.slices_Sort_int Try.lays189 blk off cap zs w hH hblk hsz
def Try.laysNm220_ren : Go.Shelf.Ren := ⟨fun | 20 => 65 | n => n, fun | 22 => 23 | 3 => 3 | 4 => 4 | 0 => 0 | n => n, fun | n => n⟩
theorem Try.laysNm220 : Go.Proofs.Lays2.n20 Try.prog Try.laysNm220_ren := {
  mixed := by kernel_rfl
  f20 := Try.func65.trans (congrArg some (by kernel_rfl))
  t0 := Try.underlying0
  a0 := Try.isAgg0
  z0 := Try.sizeOf0
  v0 := Try.zeroValue0
  t3 := Try.underlying3
  a3 := Try.isAgg3
  z3 := Try.sizeOf3
  v3 := Try.zeroValue3
  t4 := Try.underlying4
  a4 := Try.isAgg4
  z4 := Try.sizeOf4
  v4 := Try.zeroValue4
  t22 := Try.underlying23
  a22 := Try.isAgg23
  z22 := Try.sizeOf23
  v22 := Try.zeroValue23
  i3 := by kernel_rfl }
open Go.RowKit Go.Lib Go.Sort in
/-- slices.Compact at []int: "Compact replaces consecutive runs of equal elements with a single copy. This is like the uniq command found on Unix. Compact modifies the contents of the slice s and returns the modified slice, which may have a smaller length. Compact zeroes the elements between the new length and the original length. The result preserves the nilness of s.": IT RETURNS THE SLICE CUT TO 'Lib.compact zs'; ITS CELLS HOLD 'Lib.compact zs', THEN ZERO VALUES up to the old length; all else is as it was, but for the count of draws. IN THE WORDS OF slices.Sort's CONTRACT ('Holds', 'putRow'): so the everyday 'slices.Sort(xs); xs = slices.Compact(xs)' goes from the one contract to the other. It asks 'zs.length ≤ cap' (every slice's: the reslicing 's[:k]' looks at it). Length 0, nil: '.._empty'. (LAID: no walk: one application.) -/
theorem Try.slices_Compact_int (blk off cap : Nat) (zs : List Int) (w : World) (hH : Holds (Value.int .i64) w blk off zs.toArray) (hsz : zs.length ≤ 9223372036854775807) (hcap : zs.length ≤ cap) :
    Calls Try.prog 65 #[.slice (some ⟨blk, off, none⟩) zs.length cap] w fun e w' => e = .returned (.slice (some ⟨blk, off, none⟩) (Lib.compact zs).length cap) ∧ ∃ q, w' = putRow (Value.int .i64) (Sort.ahead w q) blk off (Lib.compact zs ++ List.replicate (zs.length - (Lib.compact zs).length) 0).toArray := Any.slices_Compact_int Try.laysNm220 blk off cap zs w hH hsz hcap
end Go.Proofs

/-
  Calls of the library's functions by their contracts.
-/
namespace Go.Fx
open Go.Proofs Go.RowKit

/-- What the library's functions need of the first world. -/
theorem cell_lt {W : World} {a : Addr} {v : Value} (h : W.cell? a = some v) : a.block < W.heap.size := by
  unfold World.cell? at h
  split at h
  · rename_i hh; exact (Array.getElem?_eq_some_iff.1 hh).1
  · cases h

section
variable {X : Ctx}

end

theorem enters_lib {f : FuncId} (h : (match Try.prog.funcs[f]? with | some fn => !(fn.name == "runtime.NumGoroutine") && fn.body.isSome | none => false) = true) : Enters Try.prog f := by
  split at h
  · rename_i fn hf
    simp only [Bool.and_eq_true, Bool.not_eq_true'] at h
    exact ⟨fn, hf, h.1, h.2⟩
  · cases h
end Go.Fx

/-
  Numbers sorted in place, and made compact: the library's contracts told of owned lists.
-/
namespace Go.Fx
open Go.Proofs Go.RowKit

def sortI (l : List Int) : List Int := l.mergeSort fun x y => decide (x ≤ y)
def compI (l : List Int) : List Int := Lib.compact l
section
variable {X : Ctx}

theorem frozen_no {w : World} {b o : Nat} {cur : Array Value} {e : TypeId} (h : w.heap[b]? = some (.cells cur e (0, 0))) (ho : o < cur.size) : w.frozen? ⟨b, o, none⟩ = false := by
  simp [World.frozen?, h]

/-- An owned list of numbers, as a row of cells. -/
theorem own_row {c : Cfg} {e : TypeId} {l : List Int} {ver : Nat} (hok : c.Ok) (hH : c.H = [.list e 1 l.length (fun i _ => .int .i64 (l.getD i 0)) ver]) (hl : l ≠ []) :
    (c.g 0).ver = ver ∧ ∃ b cap cur, (c.g 0).v = .slice (some ⟨b, 0, none⟩) l.length cap ∧ c.w.heap[b]? = some (.cells cur e (0, 0)) ∧ l.length ≤ cap ∧ cap ≤ maxLen ∧ cur.size = cap ∧ 0 < ver ∧ Go.Sort.Holds (Value.int .i64) c.w b 0 l.toArray := by
  have h := hok.obj 0 _ (by rw [hH]; rfl)
  obtain ⟨hv, hp, xs, ho, _, hx⟩ := h
  refine ⟨hv, ?_⟩
  have hl0 : l.length ≠ 0 := fun h => hl (List.eq_nil_of_length_eq_zero h)
  rcases ho with ⟨h0, _⟩ | ⟨b, cap, cur, h1, h2, h3, h4, h5, h6, h7⟩
  · exact absurd h0 hl0
  · refine ⟨b, cap, cur, h1, h3, h4, h5, by omega, hp, fun j hj => ?_⟩
    have hj' : j < l.length := by simpa using hj
    obtain ⟨x, k1, k2⟩ := hx j 0 hj' Nat.one_pos
    have k2 : x = .int .i64 (l.getD j 0) := k2
    have e1 : cur[j]? = some x := by
      rw [← h7] at k1
      rw [List.getElem?_take_of_lt (by omega)] at k1
      simpa using k1
    have hjc : j < cur.size := (Array.getElem?_eq_some_iff.1 e1).1
    refine ⟨?_, frozen_no h3 (by omega)⟩
    simp only [World.cell?, h3, Nat.zero_add]
    rw [e1, k2]
    simp [List.getD_eq_getElem?_getD, hj']

theorem row_after {w w' : World} {b : Nat} {cur : Array Value} {e : TypeId} {l' : List Int} {n : Nat} {os : Array Obj} (hb : w.heap[b]? = some (.cells cur e (0, 0))) (hsz : l'.length ≤ cur.size)
    (hw : w' = Go.Sort.grow (Go.Sort.putRow (Value.int .i64) (Go.Sort.ahead w n) b 0 l'.toArray) os) :
    ∃ cur', w'.heap[b]? = some (.cells cur' e (0, 0)) ∧ cur'.size = cur.size ∧ (∀ j, j < l'.length → cur'[j]? = some (.int .i64 (l'.getD j 0))) ∧
      w'.os = w.os ∧ w'.tape = w.tape ∧ w'.output = w.output ∧ w.heap.size ≤ w'.heap.size ∧ ∀ k, k < w.heap.size → b ≠ k → w'.heap[k]? = w.heap[k]? := by
  subst hw
  have hlt := (Array.getElem?_eq_some_iff.1 hb).1
  have hg : ∀ k, k < w.heap.size → (Go.Sort.grow (Go.Sort.putRow (Value.int .i64) (Go.Sort.ahead w n) b 0 l'.toArray) os).heap[k]? = (w.heap.modify b (Go.Sort.onCells (Go.Sort.putCells (Value.int .i64) 0 l'.toArray)))[k]? := fun k hk => by
    simp only [Go.Sort.grow, Go.Sort.putRow, Go.Sort.mapBlock, Go.Sort.ahead]
    rw [Array.getElem?_append_left (by simpa using hk)]
  refine ⟨Go.Sort.putCells (Value.int .i64) 0 l'.toArray cur, ?_, by simp [Go.Sort.putCells], fun j hj => ?_, rfl, rfl, rfl, ?_, fun k hk hne => ?_⟩
  · rw [hg b hlt, Array.getElem?_modify, if_pos rfl, hb]; rfl
  · simp only [Go.Sort.putCells, Array.getElem?_mapIdx]
    rw [Array.getElem?_eq_getElem (show j < cur.size by omega), Option.map_some, if_pos ⟨Nat.zero_le _, by simpa using hj⟩]
    simp [List.getD_eq_getElem?_getD, hj]
  · simp [Go.Sort.grow, Go.Sort.putRow, Go.Sort.mapBlock, Go.Sort.ahead]
  · rw [hg k hk, Array.getElem?_modify, if_neg hne]

theorem row_turned {c : Cfg} {e : TypeId} {l l' : List Int} {ver b cap n : Nat} {cur : Array Value} {os : Array Obj} {w' : World} (hok : c.Ok) (hH : c.H = [.list e 1 l.length (fun i _ => .int .i64 (l.getD i 0)) ver]) (hl : l ≠ []) (hl' : l'.length = l.length)
    (hver : (c.g 0).ver = ver) (hv : (c.g 0).v = .slice (some ⟨b, 0, none⟩) l.length cap) (hb : c.w.heap[b]? = some (.cells cur e (0, 0))) (h4 : l.length ≤ cap) (h5 : cap ≤ maxLen) (h6 : cur.size = cap) (hp : 0 < ver)
    (hw : w' = Go.Sort.grow (Go.Sort.putRow (Value.int .i64) (Go.Sort.ahead c.w n) b 0 l'.toArray) os) :
    Tr c ⟨c.g, c.I, w', [.list e 1 l'.length (fun i _ => .int .i64 (l'.getD i 0)) ver]⟩ := by
  obtain ⟨cur', k1, k2, k3, k4, k5, k6, k7, k8⟩ := row_after (l' := l') hb (by omega) hw
  have hl0 : l.length ≠ 0 := fun h => hl (List.eq_nil_of_length_eq_zero h)
  have hbk : ∀ (m : Nat) (f : Nat → Nat → AV) v, blk c.g 0 (.list e 1 m f v) = some b := fun m f v => by
    show vblk (c.g 0).v = some b
    rw [hv]
    obtain ⟨c1, rfl⟩ : ∃ c1, cap = c1 + 1 := ⟨cap - 1, by omega⟩
    rfl
  have hupd : upd c.g 0 (c.g 0) = c.g := by funext i; by_cases h : i = 0 <;> simp [upd, h]
  have t := Tr.alter (w' := w') (x := c.g 0) (o' := .list e 1 l'.length (fun i _ => .int .i64 (l'.getD i 0)) ver) hok (show c.H[0]? = some (.list e 1 l.length (fun i _ => .int .i64 (l.getD i 0)) ver) by rw [hH]; rfl) k4 k5 k6 k7
    (fun k hk hne => k8 k hk fun h => hne (by rw [hbk, h])) (fun _ => rfl) (Nat.le_refl _) (fun _ => rfl)
    (fun k hk => .inr (by rw [hupd, hbk] at hk; rw [hbk]; exact hk)) (by
      rw [hupd]
      refine ⟨hver, hp, l'.map (Value.int .i64), .inr ⟨b, cap, cur', by rw [hv, hl'], by omega, k1, by omega, h5, by omega, ?_⟩, fun x hx => ?_, fun i j hi hj => ?_⟩
      · apply List.ext_getElem?
        intro i
        rw [List.getElem?_map]
        rcases Nat.lt_or_ge i l'.length with hi | hi
        · rw [List.getElem?_take_of_lt (by omega), Array.getElem?_toList, k3 i hi]
          simp [List.getD_eq_getElem?_getD, hi]
        · rw [List.getElem?_take_eq_none (by omega), List.getElem?_eq_none hi]; rfl
      · obtain ⟨y, _, rfl⟩ := List.mem_map.1 hx; rfl
      · refine ⟨.int .i64 (l'.getD i 0), ?_, rfl⟩
        obtain rfl : j = 0 := by omega
        simp [List.getD_eq_getElem?_getD, hi])
  rw [hupd] at t
  rw [hH] at t
  exact t

theorem mut_sort {f : FuncId} {e : TypeId} {l : List Int} {ver : Nat} {g : Nat → AV} (hent : Enters X.P f) (hl : l ≠ []) (hsz : l.length ≤ 1000)
    (h : ∀ (b cap : Nat) (w : World), Go.Sort.Holds (Value.int .i64) w b 0 l.toArray → b < w.heap.size → Calls X.P f #[.slice (some ⟨b, 0, none⟩) l.length cap] w fun e w' =>
      e = .returned (.tuple #[]) ∧ ∃ n os, w' = Go.Sort.grow (Go.Sort.putRow (Value.int .i64) (Go.Sort.ahead w n) b 0 (sortI l).toArray) os) :
    Mut X f [.own 0 ver] [.list e 1 l.length (fun i _ => .int .i64 (l.getD i 0)) ver] (.tup 0 g) [.list e 1 (sortI l).length (fun i _ => .int .i64 ((sortI l).getD i 0)) ver] := by
  refine ⟨hent, fun c cargs hok hb hL hcs hargs => ?_⟩
  obtain ⟨hver, b, cap, cur, hv, hbk, h4, h5, h6, hp, hh⟩ := own_row hok hL hl
  obtain ⟨v, a1, a2⟩ := hargs 0 _ rfl
  have a3 : v = (c.g 0).v := a2.2.2.2 hver
  have ea : cargs = #[.slice (some ⟨b, 0, none⟩) l.length cap] := by
    apply Array.ext (by simpa using hcs)
    intro j h1 h2
    obtain rfl : j = 0 := by simp at h2; omega
    rw [Array.getElem?_eq_getElem h1] at a1
    cases a1
    simpa [hv] using a3
  subst ea
  refine (h b cap c.w hh (Array.getElem?_eq_some_iff.1 hbk).1).mono fun x w' ⟨hx, n, os, hw⟩ => ?_
  have hlen : (sortI l).length = l.length := by simp [sortI, List.length_mergeSort]
  exact ⟨.tuple #[], _, hx, rfl, row_turned hok hL hl hlen hver hv hbk h4 h5 h6 hp hw, rfl, #[], rfl, rfl, fun j hj => absurd hj (Nat.not_lt_zero _)⟩

theorem comp_len (l : List Int) : (compI l).length ≤ l.length := by
  unfold compI Lib.compact Lib.compactUpTo
  rw [List.length_map]
  exact Nat.le_trans (List.length_filter_le _ _) (by simp)

theorem mut_comp {f : FuncId} {e : TypeId} {l : List Int} {ver : Nat} (hent : Enters X.P f) (hl : l ≠ []) (hsz : l.length ≤ 1000)
    (h : ∀ (b cap : Nat) (w : World), Go.Sort.Holds (Value.int .i64) w b 0 l.toArray → l.length ≤ cap → Calls X.P f #[.slice (some ⟨b, 0, none⟩) l.length cap] w fun e w' =>
      e = .returned (.slice (some ⟨b, 0, none⟩) (Lib.compact l).length cap) ∧ ∃ q, w' = Go.Sort.putRow (Value.int .i64) (Go.Sort.ahead w q) b 0 (Lib.compact l ++ List.replicate (l.length - (Lib.compact l).length) 0).toArray) :
    Mut X f [.own 0 ver] [.list e 1 l.length (fun i _ => .int .i64 (l.getD i 0)) ver] (.slc 1 (compI l).length (fun i _ => .int .i64 ((compI l).getD i 0))) [.dead] := by
  refine ⟨hent, fun c cargs hok hb hL hcs hargs => ?_⟩
  obtain ⟨hver, b, cap, cur, hv, hbk, h4, h5, h6, hp, hh⟩ := own_row hok hL hl
  obtain ⟨v, a1, a2⟩ := hargs 0 _ rfl
  have a3 : v = (c.g 0).v := a2.2.2.2 hver
  have ea : cargs = #[.slice (some ⟨b, 0, none⟩) l.length cap] := by
    apply Array.ext (by simpa using hcs)
    intro j h1 h2
    obtain rfl : j = 0 := by simp at h2; omega
    rw [Array.getElem?_eq_getElem h1] at a1
    cases a1
    simpa [hv] using a3
  subst ea
  refine (h b cap c.w hh h4).mono fun x w' ⟨hx, n, hw⟩ => ?_
  have hcl := comp_len l
  have hcl' : (Lib.compact l).length ≤ l.length := hcl
  have hlen : (compI l ++ List.replicate (l.length - (compI l).length) 0).length = l.length := by simp; omega
  have hw2 : w' = Go.Sort.grow (Go.Sort.putRow (Value.int .i64) (Go.Sort.ahead c.w n) b 0 (compI l ++ List.replicate (l.length - (compI l).length) 0).toArray) #[] := by rw [hw, Go.Sort.grow_empty]; rfl
  have t1 := row_turned hok hL hl hlen hver hv hbk h4 h5 h6 hp hw2
  have t2 := Tr.freeze t1.ok (k := 0) rfl
  obtain ⟨cur', k1, k2, k3, _⟩ := row_after (l' := compI l ++ List.replicate (l.length - (compI l).length) 0) hbk (by omega) hw2
  refine ⟨_, _, hx, rfl, t1.trans t2, rfl, some ⟨b, 0, none⟩, cap, rfl, by show (Lib.compact l).length ≤ cap; omega, fun _ => ⟨b, 0, rfl, fun i j hi hj => ?_⟩⟩
  obtain rfl : j = 0 := by omega
  have hl0 : l.length ≠ 0 := fun h => hl (List.eq_nil_of_length_eq_zero h)
  refine ⟨.inr ?_, .int .i64 ((compI l).getD i 0), ?_, rfl, rfl⟩
  · show vblk (c.g 0).v = some b
    rw [hv]
    obtain ⟨c1, rfl⟩ : ∃ c1, cap = c1 + 1 := ⟨cap - 1, by omega⟩
    rfl
  · show World.cell? w' _ = _
    simp only [World.cell?, Nat.zero_add, Nat.mul_one, Nat.add_zero, k1]
    rw [k3 i (by simp; omega)]
    congr 2
    simp only [List.getD_eq_getElem?_getD]
    rw [List.getElem?_append_left hi]
    rfl
end
end Go.Fx
