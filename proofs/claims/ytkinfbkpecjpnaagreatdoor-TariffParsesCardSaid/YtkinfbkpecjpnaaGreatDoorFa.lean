/-
 The symbolic reader, part 1: values without addresses, owned blocks, plain operations.
-/
import Derived.Orders
import Derived.Laws.AppendOwn
import Derived.Below
import Derived.Laws.Tables
import Derived.Laws.Cells
import Derived.Laws.Entries
import Derived.CallsIn
import Derived.OrdersIn
import Derived.RangeFuncRecord
import Derived.Laws.Strings
set_option linter.all false
/-
 A symbolic reading of Go values and memory: what a value says, whatever the addresses. AV: a value told without addresses; a Cfg: ghost places, a set of cells that nobody writes any more, the world, and the blocks that the call owns.
-/
namespace Go.Fx
def depOf (o : Oper) (ms : List Nat) (j : Nat) : Nat :=
 o.after.toList.foldr (fun e m => bif Region.binds .any e then m ||| ((1 <<< e.on) ||| (bif Nat.blt e.on j then ms.getD e.on 0 else 0)) else m) 0
def masksGo : List Oper -> Nat -> List Nat -> List Nat
 | [], _, ms => ms
 | o :: os, j, ms => masksGo os (j + 1) (ms ++ [depOf o ms j])
def masks (ops : Array Oper) : List Nat := masksGo ops.toList 0 []
def lower (ops : Array Oper) : Bool := (List.range ops.size).all fun j => match ops[j]? with | some o => o.after.toList.all fun e => !(Region.binds .any e) || Nat.blt e.on j | none => true
def pairs (f : Nat -> Nat -> Bool) (n : Nat) : Bool := (List.range n).all fun j => (List.range j).all fun i => f i j
def confT (ops : Array Oper) (i j : Nat) : Bool :=
 match ops[i]?, ops[j]? with
 | some x, some y => (match x.dst with | some d => (y.looksAt ops).contains d | none => false) || (match y.dst with | some d => (x.looksAt ops).contains d | none => false)
 | _, _ => false
def orderOK (ops : Array Oper) : Bool :=
 let ms := masks ops
 lower ops && pairs (fun i j => !(confT ops i j) || (ms.getD j 0).testBit i) ops.size
def nodupB : List Nat -> Bool
 | [] => true
 | x :: xs => !(xs.contains x) && nodupB xs
def regOK (N : Nat) (ops : Array Oper) (draw : Bool) : Bool :=
 nodupB (ops.toList.filterMap (·.dst)) && (ops.toList.filterMap (·.dst)).all (Nat.blt · N) && (!draw || orderOK ops)
def codeOK (N : Nat) : Code -> Bool
 | .skip | .exit _ | .ret => true
 | .region _ ops draw => regOK N ops draw
 | .seq a b => codeOK N a && codeOK N b
 | .cond _ x y => codeOK N x && codeOK N y
 | .block _ b => codeOK N b
 | .loop b => codeOK N b
 | .rangeFunc _ ps asg b => codeOK N asg && codeOK N b && ps.toList.all (Nat.blt · N)
 | _ => false
inductive AV where
 | int (k : IntKind) (n : Int)
 | bool (b : Bool)
 | str (s : ByteArray)
 | agg (n : Nat) (f : Nat -> AV)
 | tup (n : Nat) (f : Nat -> AV)
 | ptr (k off : Nat)
 | lptr (k ver es i off : Nat)
 | ip (n : Nat) (f : Nat -> AV) (off : Nat)
 | slc (es n : Nat) (f : Nat -> Nat -> AV)
 | slc0
 | own (k ver : Nat)
 | fn (f : FuncId) (n : Nat) (caps : Nat -> AV)
 | ifc
 | val (v : Value)
 | any
 | yld (k : Nat)
 deriving Inhabited
abbrev Env := List (Nat × AV)
def look : Env -> Nat -> AV
 | [], _ => .any
 | (s, v) :: e, t => bif Nat.beq s t then v else look e t
structure GO where
 b : Nat
 v : Value
 ver : Nat
inductive HObj where
 | box (cells : List AV)
 | list (e es n : Nat) (f : Nat -> Nat -> AV) (ver : Nat)
 | dead
 | hole
 | lrec (st : LoopState) (pend : Option Code) (N : Nat) (e : Env) (ps : Array Tmp) (assign body : Code)
 | iter (s : ByteArray) (pos : Nat)
 | last (e es n : Nat) (cells : List AV) (ver : Nat)
 deriving Inhabited
def vblk : Value -> Option Nat
 | .slice (some a) _ (_ + 1) => some a.block
 | _ => none
def RowAt (w : World) (b : Nat) (cur : Array Value) (e : TypeId) : Prop := ∃ mk, w.heap[b]? = some (.cells cur e mk) /\ (mk = (0, 0) \/ cur.size <= mk.1)
def OwnsL (w : World) (e es : Nat) (v : Value) (n : Nat) (xs : List Value) : Prop :=
 (n = 0 /\ xs = [] /\ ∃ a, v = .slice a 0 0) \/
 (∃ b cap cur, v = .slice (some ⟨b, 0, none⟩) n cap /\ 0 < cap /\ RowAt w b cur e /\ n <= cap /\ cap <= maxLen /\ cur.size = cap * es /\
  cur.toList.take (n * es) = xs)
structure Cfg where
 g : Nat -> GO
 I : Nat -> Nat -> Prop
 w : World
 H : List HObj
def Reads (g : Nat -> GO) (I : Nat -> Nat -> Prop) (w : World) : AV -> Nat -> Value -> Prop
 | .int k n, _, c => c = .int k n
 | .bool b, _, c => c = .bool b
 | .str s, _, c => c = .string s
 | .agg n f, m, c => ∃ cs : Array Value, c = .agg cs /\ cs.size = n /\ ∀ j, j < n -> ∃ x, cs[j]? = some x /\ x.oneCell' = true /\ Reads g I w (f j) m x
 | .tup n f, m, c => ∃ cs : Array Value, c = .tuple cs /\ cs.size = n /\ ∀ j, j < n -> ∃ x, cs[j]? = some x /\ Reads g I w (f j) m x
 | .ptr k off, m, c => k < m /\ 0 < (g k).ver /\ c = .pointer (some ⟨(g k).b, off, none⟩)
 | .lptr k ver es i off, m, c => k < m /\ ver <= (g k).ver /\ c.oneCell' = true /\ ((g k).ver = ver -> ∃ b, vblk (g k).v = some b /\ c = .pointer (some ⟨b, i * es + off, none⟩))
 | .ip n f off, _, c => ∃ b o, c = .pointer (some ⟨b, o + off, none⟩) /\ ∀ j, j < n -> I b (o + j) /\ ∃ x, w.cell? ⟨b, o + j, none⟩ = some x /\ x.oneCell' = true /\ Reads g I w (f j) 0 x
 | .slc es n f, _, c => ∃ a cap, c = .slice a n cap /\ n <= cap /\ (0 < n -> ∃ b o, a = some ⟨b, o, none⟩ /\
   ∀ i j, i < n -> j < es -> I b (o + (i * es + j)) /\ ∃ x, w.cell? ⟨b, o + (i * es + j), none⟩ = some x /\ x.oneCell' = true /\ Reads g I w (f i j) 0 x)
 | .slc0, _, c => ∃ a, c = .slice a 0 0
 | .own k ver, m, c => k < m /\ ver <= (g k).ver /\ c.oneCell' = true /\ ((g k).ver = ver -> c = (g k).v)
 | .ifc, _, c => ∃ t v, c = .iface t v
 | .fn f n caps, m, c => ∃ cs : Array Value, c = .func (.func f) #[] cs /\ cs.size = n /\ ∀ j, j < n -> ∃ x, cs[j]? = some x /\ Reads g I w (caps j) m x
 | .val v, _, c => c = v
 | .any, _, _ => True
 | .yld k, m, c => k < m /\ 0 < (g k).ver /\ c = .func (.yield (g k).b) #[] #[]
def blk (g : Nat -> GO) (k : Nat) : HObj -> Option Nat
 | .box _ => some (g k).b
 | .list .. => vblk (g k).v
 | .dead => none
 | .hole => none
 | .lrec .. => some (g k).b
 | .iter .. => some (g k).b
 | .last .. => vblk (g k).v
def Holds (g : Nat -> GO) (I : Nat -> Nat -> Prop) (w : World) (m k : Nat) : HObj -> Prop
 | .box cells => 0 < (g k).ver /\ ∃ cs T, w.heap[(g k).b]? = some (.cells cs T (0, 0)) /\ cs.size = cells.length /\
   ∀ (j : Nat) av, cells[j]? = some av -> ∃ x, cs[j]? = some x /\ x.oneCell' = true /\ Reads g I w av m x
 | .list e es n f ver => (g k).ver = ver /\ 0 < ver /\ ∃ xs, OwnsL w e es (g k).v n xs /\ (∀ x ∈ xs, x.oneCell' = true) /\
   ∀ i j, i < n -> j < es -> ∃ x, xs[i * es + j]? = some x /\ Reads g I w (f i j) 0 x
 | .dead => True
 | .hole => (g k).ver = 0
 | .lrec st pend N e ps assign body => 0 < (g k).ver /\ (codeOK N assign && codeOK N body && ps.toList.all (Nat.blt · N)) = true /\ ∃ fn tmps D, w.heap[(g k).b]? = some (.loop { state := st, pending := pend, fn, tmps, params := ps, assign, body, defers := D }) /\ tmps.size = N /\
   ∀ t, Reads g I w (look e t) m (tmps.getD t undef)
 | .iter s pos => 0 < (g k).ver /\ w.heap[(g k).b]? = some (.stringIter s pos)
 | .last e es n cells ver => (g k).ver = ver /\ 0 < ver /\ ∃ xs, OwnsL w e es (g k).v n xs /\ (∀ x ∈ xs, x.oneCell' = true) /\ 0 < n /\ cells.length <= n * es /\
   ∀ (j : Nat) av, cells[j]? = some av -> ∃ x, xs[n * es - cells.length + j]? = some x /\ Reads g I w av m x
structure Cfg.Ok (c : Cfg) : Prop where
 obj : ∀ k o, c.H[k]? = some o -> Holds c.g c.I c.w c.H.length k o
 apart : ∀ i j oi oj b, c.H[i]? = some oi -> c.H[j]? = some oj -> i ≠ j -> blk c.g i oi = some b -> blk c.g j oj ≠ some b
 old : ∀ k o b, c.H[k]? = some o -> blk c.g k o = some b -> b < c.w.heap.size
 imm : ∀ b o, c.I b o -> b < c.w.heap.size
 immApart : ∀ b o k ob, c.I b o -> c.H[k]? = some ob -> blk c.g k ob ≠ some b
def Cfg.Owns (c : Cfg) (b : Nat) : Prop := ∃ k o, c.H[k]? = some o /\ blk c.g k o = some b
structure Tr (c c' : Cfg) : Prop where
 ok : c'.Ok
 len : c.H.length <= c'.H.length
 places : ∀ k, k < c.H.length -> (0 < (c.g k).ver -> (c'.g k).b = (c.g k).b) /\ (c.g k).ver <= (c'.g k).ver /\ ((c'.g k).ver = (c.g k).ver -> (c'.g k).v = (c.g k).v)
 keep : ∀ b o, c.I b o -> c'.I b o /\ c'.w.cell? ⟨b, o, none⟩ = c.w.cell? ⟨b, o, none⟩
 new : ∀ b o, c'.I b o -> c.I b o \/ c.w.heap.size <= b \/ c.Owns b
 own : ∀ b, c'.Owns b -> c.w.heap.size <= b \/ c.Owns b
 os : c'.w.os = c.w.os
 tape : c'.w.tape = c.w.tape
 output : c'.w.output = c.w.output
 size : c.w.heap.size <= c'.w.heap.size
 block : ∀ b, b < c.w.heap.size -> ¬ c.Owns b -> c'.w.heap[b]? = c.w.heap[b]?
theorem Reads.mono' {g g' : Nat -> GO} {I I' : Nat -> Nat -> Prop} {w w' : World} {M : Nat}
  (hg : ∀ k, k < M -> (0 < (g k).ver -> (g' k).b = (g k).b) /\ (g k).ver <= (g' k).ver /\ ((g' k).ver = (g k).ver -> (g' k).v = (g k).v))
  (hI : ∀ b o, I b o -> I' b o /\ w'.cell? ⟨b, o, none⟩ = w.cell? ⟨b, o, none⟩) :
  ∀ (av : AV) (m m' : Nat) (c : Value), m <= M -> m <= m' -> Reads g I w av m c -> Reads g' I' w' av m' c := by
 intro av
 induction av with
 | int k n => intro m m' c _ _ h; exact h
 | bool b => intro m m' c _ _ h; exact h
 | str s => intro m m' c _ _ h; exact h
 | agg n f ih =>
  intro m m' c hm hmm h
  obtain ⟨cs, rfl, hs, h⟩ := h
  exact ⟨cs, rfl, hs, fun j hj => let ⟨x, h1, h2, h3⟩ := h j hj; ⟨x, h1, h2, ih j m m' x hm hmm h3⟩⟩
 | tup n f ih =>
  intro m m' c hm hmm h
  obtain ⟨cs, rfl, hs, h⟩ := h
  exact ⟨cs, rfl, hs, fun j hj => let ⟨x, h1, h3⟩ := h j hj; ⟨x, h1, ih j m m' x hm hmm h3⟩⟩
 | ptr k off =>
  intro m m' c hm hmm h
  obtain ⟨hk, hp, rfl⟩ := h
  exact ⟨by omega, by have := (hg k (by omega)).2.1; omega, by rw [(hg k (by omega)).1 hp]⟩
 | lptr k ver es i off =>
  intro m m' c hm hmm h
  obtain ⟨hk, hv, ho, h⟩ := h
  obtain ⟨h1, h2, h3⟩ := hg k (by omega)
  refine ⟨by omega, by omega, ho, fun e => ?_⟩
  have e1 : (g k).ver = ver := by omega
  rw [h3 (by omega)]
  exact h e1
 | ip n f off ih =>
  intro m m' c hm hmm h
  obtain ⟨b, o, rfl, h⟩ := h
  refine ⟨b, o, rfl, fun j hj => ?_⟩
  obtain ⟨h1, x, h2, h3, h4⟩ := h j hj
  obtain ⟨k1, k2⟩ := hI b (o + j) h1
  exact ⟨k1, x, by rw [k2, h2], h3, ih j 0 0 x (by omega) (by omega) h4⟩
 | slc es n f ih =>
  intro m m' c hm hmm h
  obtain ⟨a, cap, rfl, hc, h⟩ := h
  refine ⟨a, cap, rfl, hc, fun h0 => ?_⟩
  obtain ⟨b, o, ha, hc'⟩ := h h0
  refine ⟨b, o, ha, fun i j hi hj => ?_⟩
  obtain ⟨h1, x, h2, h3, h4⟩ := hc' i j hi hj
  obtain ⟨k1, k2⟩ := hI b (o + (i * es + j)) h1
  exact ⟨k1, x, by rw [k2, h2], h3, ih i j 0 0 x (by omega) (by omega) h4⟩
 | slc0 => intro m m' c _ _ h; exact h
 | own k ver =>
  intro m m' c hm hmm h
  obtain ⟨hk, hv, ho, h⟩ := h
  obtain ⟨h1, h2, h3⟩ := hg k (by omega)
  refine ⟨by omega, by omega, ho, fun e => ?_⟩
  have e1 : (g k).ver = ver := by omega
  rw [h3 (by omega)]
  exact h e1
 | fn f n caps ih =>
  intro m m' c hm hmm h
  obtain ⟨cs, rfl, hs, h⟩ := h
  exact ⟨cs, rfl, hs, fun j hj => let ⟨x, h1, h3⟩ := h j hj; ⟨x, h1, ih j m m' x hm hmm h3⟩⟩
 | ifc => intro m m' c _ _ h; exact h
 | val v => intro m m' c _ _ h; exact h
 | any => intro m m' c _ _ h; exact h
 | yld k =>
  intro m m' c hm hmm h
  obtain ⟨hk, hp, rfl⟩ := h
  exact ⟨by omega, by have := (hg k (by omega)).2.1; omega, by rw [(hg k (by omega)).1 hp]⟩
abbrev Cfg.Reads (c : Cfg) (av : AV) (v : Value) : Prop := Fx.Reads c.g c.I c.w av c.H.length v
theorem Tr.reads {c c' : Cfg} (h : Tr c c') {av : AV} {v : Value} (hr : c.Reads av v) : c'.Reads av v :=
 Reads.mono' (M := c.H.length) h.places h.keep av _ _ v (Nat.le_refl _) h.len hr
theorem Tr.refl {c : Cfg} (h : c.Ok) : Tr c c := {
 ok := h
 len := Nat.le_refl _
 places := fun k _ => ⟨fun _ => rfl, Nat.le_refl _, fun _ => rfl⟩
 keep := fun b o h => ⟨h, rfl⟩
 new := fun b o h => .inl h
 own := fun b h => .inr h
 os := rfl
 tape := rfl
 output := rfl
 size := Nat.le_refl _
 block := fun _ _ _ => rfl }
theorem Tr.trans {a b c : Cfg} (h : Tr a b) (k : Tr b c) : Tr a c := {
 ok := k.ok
 len := Nat.le_trans h.len k.len
 places := fun i hi => by
  obtain ⟨h1, h2, h3⟩ := h.places i hi
  obtain ⟨k1, k2, k3⟩ := k.places i (Nat.lt_of_lt_of_le hi h.len)
  exact ⟨fun hp => (k1 (by omega)).trans (h1 hp), by omega, fun e => (k3 (by omega)).trans (h3 (by omega))⟩
 keep := fun x o hx => by
  obtain ⟨h1, h2⟩ := h.keep x o hx
  obtain ⟨k1, k2⟩ := k.keep x o h1
  exact ⟨k1, k2.trans h2⟩
 new := fun x o hx => by
  have hs := h.size
  rcases k.new x o hx with h1 | h1 | h1
  ·exact h.new x o h1
  ·exact .inr (.inl (by omega))
  ·rcases h.own x h1 with h2 | h2
   ·exact .inr (.inl h2)
   ·exact .inr (.inr h2)
 own := fun x hx => by
  have hs := h.size
  rcases k.own x hx with h1 | h1
  ·exact .inl (by omega)
  ·exact h.own x h1
 os := k.os.trans h.os
 tape := k.tape.trans h.tape
 output := k.output.trans h.output
 size := Nat.le_trans h.size k.size
 block := fun x hx hn => by
  have hs := h.size
  rw [k.block x (by omega) ?_, h.block x hx hn]
  intro ho
  rcases h.own x ho with h2 | h2
  ·omega
  ·exact hn h2 }
theorem Holds.mono {g g' : Nat -> GO} {I I' : Nat -> Nat -> Prop} {w w' : World} {m m' k : Nat} {o : HObj}
  (hg : ∀ k, k < m -> (0 < (g k).ver -> (g' k).b = (g k).b) /\ (g k).ver <= (g' k).ver /\ ((g' k).ver = (g k).ver -> (g' k).v = (g k).v))
  (hI : ∀ b o, I b o -> I' b o /\ w'.cell? ⟨b, o, none⟩ = w.cell? ⟨b, o, none⟩) (hm : m <= m')
  (hk : g' k = g k) (hb : ∀ b, blk g k o = some b -> w'.heap[b]? = w.heap[b]?) (h : Holds g I w m k o) : Holds g' I' w' m' k o := by
 cases o with
 | box cells =>
  obtain ⟨h0, cs, T, h1, h2, h3⟩ := h
  refine ⟨by rw [hk]; exact h0, cs, T, ?_, h2, fun j av hj => ?_⟩
  ·rw [hk, hb (g k).b rfl]; exact h1
  ·obtain ⟨x, k1, k2, k3⟩ := h3 j av hj
   exact ⟨x, k1, k2, Reads.mono' (M := m) hg hI av m m' x (Nat.le_refl _) hm k3⟩
 | list e es n f ver =>
  obtain ⟨h1, h0, xs, h2, h3, h4⟩ := h
  refine ⟨by rw [hk]; exact h1, h0, xs, ?_, h3, fun i j hi hj => ?_⟩
  ·rw [hk]
   rcases h2 with h2 | ⟨b, cap, cur, hv, hc, hh, rest⟩
   ·exact .inl h2
   ·obtain ⟨mk, hh, fz⟩ := hh
    refine .inr ⟨b, cap, cur, hv, hc, ⟨mk, ?_, fz⟩, rest⟩
    rw [hb b ?_]
    ·exact hh
    ·show vblk (g k).v = some b
     rw [hv]
     obtain ⟨c1, rfl⟩ : ∃ c1, cap = c1 + 1 := ⟨cap - 1, by omega⟩
     rfl
  ·obtain ⟨x, k1, k2⟩ := h4 i j hi hj
   exact ⟨x, k1, Reads.mono' (M := m) hg hI _ 0 0 x (by omega) (by omega) k2⟩
 | dead => trivial
 | hole => show (g' k).ver = 0; rw [hk]; exact h
 | lrec st pend N e ps assign body =>
  obtain ⟨h0, hc, fn, tmps, D, h1, h2, h3⟩ := h
  refine ⟨by rw [hk]; exact h0, hc, fn, tmps, D, ?_, h2, fun t => Reads.mono' (M := m) hg hI _ m m' _ (Nat.le_refl _) hm (h3 t)⟩
  rw [hk, hb (g k).b rfl]; exact h1
 | iter s pos =>
  obtain ⟨h0, h1⟩ := h
  exact ⟨by rw [hk]; exact h0, by rw [hk, hb (g k).b rfl]; exact h1⟩
 | last e es n cells ver =>
  obtain ⟨h1, h0, xs, h2, h3, hn, hl, h4⟩ := h
  refine ⟨by rw [hk]; exact h1, h0, xs, ?_, h3, hn, hl, fun j av hj => ?_⟩
  ·rw [hk]
   rcases h2 with h2 | ⟨b, cap, cur, hv, hc, hh, rest⟩
   ·exact .inl h2
   ·obtain ⟨mk, hh, fz⟩ := hh
    refine .inr ⟨b, cap, cur, hv, hc, ⟨mk, ?_, fz⟩, rest⟩
    rw [hb b ?_]
    ·exact hh
    ·show vblk (g k).v = some b
     rw [hv]
     obtain ⟨c1, rfl⟩ : ∃ c1, cap = c1 + 1 := ⟨cap - 1, by omega⟩
     rfl
  ·obtain ⟨x, k1, k2⟩ := h4 j av hj
   exact ⟨x, k1, Reads.mono' (M := m) hg hI av m m' x (Nat.le_refl _) hm k2⟩
end Go.Fx
/-
 How a configuration turns: a new block, an owned block written, a block given up for good.
-/
namespace Go.Fx
def upd (g : Nat -> GO) (k : Nat) (x : GO) : Nat -> GO := fun i => if i = k then x else g i
theorem upd_same (g : Nat -> GO) (k : Nat) (x : GO) : upd g k x k = x := by simp [upd]
theorem upd_other {g : Nat -> GO} {k i : Nat} {x : GO} (h : i ≠ k) : upd g k x i = g i := by simp [upd, h]
theorem blk_congr {g g' : Nat -> GO} {k : Nat} {o : HObj} (h : g' k = g k) : blk g' k o = blk g k o := by cases o <;> simp [blk, h]
theorem cell_of_block {w w' : World} {b o : Nat} (h : w'.heap[b]? = w.heap[b]?) : w'.cell? ⟨b, o, none⟩ = w.cell? ⟨b, o, none⟩ := by simp [World.cell?, h]
theorem Tr.same {c : Cfg} (hok : c.Ok) {w' : World} (hh : w'.heap = c.w.heap) (h1 : w'.os = c.w.os) (h2 : w'.tape = c.w.tape) (h3 : w'.output = c.w.output) :
  Tr c { c with w := w' } := {
 ok := by
  have hcell : ∀ b o, w'.cell? ⟨b, o, none⟩ = c.w.cell? ⟨b, o, none⟩ := fun b o => by simp [World.cell?, hh]
  refine ⟨fun k o hk => ?_, hok.apart, fun k o b h h' => by simpa [hh] using hok.old k o b h h', fun b o h => by simpa [hh] using hok.imm b o h, hok.immApart⟩
  exact Holds.mono (fun k _ => ⟨fun _ => rfl, Nat.le_refl _, fun _ => rfl⟩) (fun b o h => ⟨h, hcell b o⟩) (Nat.le_refl _) rfl (fun b _ => by simp [hh]) (hok.obj k o hk)
 len := Nat.le_refl _
 places := fun k _ => ⟨fun _ => rfl, Nat.le_refl _, fun _ => rfl⟩
 keep := fun b o h => ⟨h, by simp [World.cell?, hh]⟩
 new := fun b o h => .inl h
 own := fun b h => .inr h
 os := h1
 tape := h2
 output := h3
 size := by simp [hh]
 block := fun b _ _ => by simp [hh] }
theorem Tr.add {c : Cfg} (hok : c.Ok) {w' : World} {x : GO} {o' : HObj} (h1 : w'.os = c.w.os) (h2 : w'.tape = c.w.tape) (h3 : w'.output = c.w.output)
  (hsize : c.w.heap.size <= w'.heap.size) (hblock : ∀ b, b < c.w.heap.size -> w'.heap[b]? = c.w.heap[b]?)
  (hnew : ∀ b, blk (upd c.g c.H.length x) c.H.length o' = some b -> c.w.heap.size <= b /\ b < w'.heap.size)
  (hh : Holds (upd c.g c.H.length x) c.I w' (c.H.length + 1) c.H.length o') :
  Tr c ⟨upd c.g c.H.length x, c.I, w', c.H ++ [o']⟩ := by
 have hg : ∀ k, k < c.H.length -> upd c.g c.H.length x k = c.g k := fun k hk => upd_other (by omega)
 have hpl : ∀ k, k < c.H.length -> (0 < (c.g k).ver -> (upd c.g c.H.length x k).b = (c.g k).b) /\ (c.g k).ver <= (upd c.g c.H.length x k).ver /\ ((upd c.g c.H.length x k).ver = (c.g k).ver -> (upd c.g c.H.length x k).v = (c.g k).v) :=
  fun k hk => by rw [hg k hk]; exact ⟨fun _ => rfl, Nat.le_refl _, fun _ => rfl⟩
 have hcell : ∀ b o, c.I b o -> w'.cell? ⟨b, o, none⟩ = c.w.cell? ⟨b, o, none⟩ := fun b o h => cell_of_block (hblock b (hok.imm b o h))
 have look : ∀ k o, (c.H ++ [o'])[k]? = some o -> (k < c.H.length /\ c.H[k]? = some o) \/ (k = c.H.length /\ o = o') := by
  intro k o h
  rcases Nat.lt_or_ge k c.H.length with hk | hk
  ·exact .inl ⟨hk, by rw [List.getElem?_append_left hk] at h; exact h⟩
  ·rw [List.getElem?_append_right hk] at h
   have : k - c.H.length = 0 := by
    rcases Nat.eq_zero_or_pos (k - c.H.length) with e | e
    ·exact e
    ·rw [List.getElem?_eq_none (by simp; omega)] at h; cases h
   rw [this] at h
   simp at h
   exact .inr ⟨by omega, h.symm⟩
 have hold : ∀ k o b, k < c.H.length -> blk (upd c.g c.H.length x) k o = some b -> blk c.g k o = some b := fun k o b hk h => by rwa [blk_congr (hg k hk)] at h
 refine ⟨⟨?_, ?_, ?_, ?_, ?_⟩, by simp, hpl, fun b o h => ⟨h, hcell b o h⟩, fun b o h => .inl h, ?_, h1, h2, h3, hsize, fun b hb _ => hblock b hb⟩
 ·intro k o h
  rw [show (c.H ++ [o']).length = c.H.length + 1 by simp]
  rcases look k o h with ⟨hk, h'⟩ | ⟨rfl, rfl⟩
  ·exact Holds.mono hpl (fun b o h => ⟨h, hcell b o h⟩) (by omega) (hg k hk) (fun b hb => hblock b (hok.old k o b h' hb)) (hok.obj k o h')
  ·exact hh
 ·intro i j oi oj b hi hj hne hb hb'
  rcases look i oi hi with ⟨hi1, hi2⟩ | ⟨rfl, rfl⟩
  ·rcases look j oj hj with ⟨hj1, hj2⟩ | ⟨rfl, rfl⟩
   ·exact hok.apart i j oi oj b hi2 hj2 hne (hold i oi b hi1 hb) (hold j oj b hj1 hb')
   ·have := hok.old i oi b hi2 (hold i oi b hi1 hb); have := (hnew b hb').1; omega
  ·rcases look j oj hj with ⟨hj1, hj2⟩ | ⟨rfl, rfl⟩
   ·have := hok.old j oj b hj2 (hold j oj b hj1 hb'); have := (hnew b hb).1; omega
   ·exact hne rfl
 ·intro k o b h hb
  show b < w'.heap.size
  rcases look k o h with ⟨hk, h'⟩ | ⟨rfl, rfl⟩
  ·have := hok.old k o b h' (hold k o b hk hb); omega
  ·exact (hnew b hb).2
 ·intro b o h
  have := hok.imm b o h
  show b < w'.heap.size
  omega
 ·intro b o k ob h hk hb
  rcases look k ob hk with ⟨hk1, h'⟩ | ⟨rfl, rfl⟩
  ·exact hok.immApart b o k ob h h' (hold k ob b hk1 hb)
  ·have := hok.imm b o h; have := (hnew b hb).1; omega
 ·rintro b ⟨k, o, h, hb⟩
  rcases look k o h with ⟨hk, h'⟩ | ⟨rfl, rfl⟩
  ·exact .inr ⟨k, o, h', hold k o b hk hb⟩
  ·exact .inl (hnew b hb).1
theorem Tr.alter {c : Cfg} (hok : c.Ok) {w' : World} {k : Nat} {x : GO} {o o' : HObj} (hk : c.H[k]? = some o) (h1 : w'.os = c.w.os) (h2 : w'.tape = c.w.tape) (h3 : w'.output = c.w.output)
  (hsize : c.w.heap.size <= w'.heap.size) (hblock : ∀ b, b < c.w.heap.size -> blk c.g k o ≠ some b -> w'.heap[b]? = c.w.heap[b]?)
  (hxb : 0 < (c.g k).ver -> x.b = (c.g k).b) (hver : (c.g k).ver <= x.ver) (hsame : x.ver = (c.g k).ver -> x.v = (c.g k).v)
  (hnew : ∀ b, blk (upd c.g k x) k o' = some b -> (c.w.heap.size <= b /\ b < w'.heap.size) \/ blk c.g k o = some b)
  (hh : Holds (upd c.g k x) c.I w' c.H.length k o') :
  Tr c ⟨upd c.g k x, c.I, w', c.H.set k o'⟩ := by
 have hklt : k < c.H.length := (List.getElem?_eq_some_iff.1 hk).1
 have hg : ∀ i, i ≠ k -> upd c.g k x i = c.g i := fun i hi => upd_other hi
 have hpl : ∀ i, i < c.H.length -> (0 < (c.g i).ver -> (upd c.g k x i).b = (c.g i).b) /\ (c.g i).ver <= (upd c.g k x i).ver /\ ((upd c.g k x i).ver = (c.g i).ver -> (upd c.g k x i).v = (c.g i).v) := by
  intro i hi
  by_cases e : i = k
  ·subst e; rw [upd_same]; exact ⟨hxb, hver, hsame⟩
  ·rw [hg i e]; exact ⟨fun _ => rfl, Nat.le_refl _, fun _ => rfl⟩
 have hcell : ∀ b o, c.I b o -> w'.cell? ⟨b, o, none⟩ = c.w.cell? ⟨b, o, none⟩ := fun b o h => cell_of_block (hblock b (hok.imm b o h) (hok.immApart b o k _ h hk))
 have look : ∀ i oi, (c.H.set k o')[i]? = some oi -> (i ≠ k /\ c.H[i]? = some oi) \/ (i = k /\ oi = o') := by
  intro i oi h
  by_cases e : i = k
  ·subst e
   rw [List.getElem?_set_self hklt] at h
   exact .inr ⟨rfl, (Option.some.inj h).symm⟩
  ·rw [List.getElem?_set_ne (fun h => e h.symm)] at h
   exact .inl ⟨e, h⟩
 have hold : ∀ i oi b, i ≠ k -> blk (upd c.g k x) i oi = some b -> blk c.g i oi = some b := fun i oi b hi h => by rwa [blk_congr (hg i hi)] at h
 refine ⟨⟨?_, ?_, ?_, ?_, ?_⟩, by simp, hpl, fun b o h => ⟨h, hcell b o h⟩, fun b o h => .inl h, ?_, h1, h2, h3, hsize, fun b hb hn => hblock b hb fun e => hn ⟨k, o, hk, e⟩⟩
 ·intro i oi h
  rw [show (c.H.set k o').length = c.H.length by simp]
  rcases look i oi h with ⟨hi, h'⟩ | ⟨rfl, rfl⟩
  ·refine Holds.mono hpl (fun b o h => ⟨h, hcell b o h⟩) (Nat.le_refl _) (hg i hi) (fun b hb => hblock b (hok.old i oi b h' hb) fun e => ?_) (hok.obj i oi h')
   exact hok.apart i k oi o b h' hk hi hb e
  ·exact hh
 ·intro i j oi oj b hi hj hne hb hb'
  rcases look i oi hi with ⟨hi1, hi2⟩ | ⟨rfl, rfl⟩
  ·rcases look j oj hj with ⟨hj1, hj2⟩ | ⟨rfl, rfl⟩
   ·exact hok.apart i j oi oj b hi2 hj2 hne (hold i oi b hi1 hb) (hold j oj b hj1 hb')
   ·have k1 := hok.old i oi b hi2 (hold i oi b hi1 hb)
    rcases hnew b hb' with k2 | k2
    ·omega
    ·exact hok.apart i j oi o b hi2 hk hi1 (hold i oi b hi1 hb) k2
  ·rcases look j oj hj with ⟨hj1, hj2⟩ | ⟨rfl, rfl⟩
   ·have k1 := hok.old j oj b hj2 (hold j oj b hj1 hb')
    rcases hnew b hb with k2 | k2
    ·omega
    ·exact hok.apart j i oj o b hj2 hk hj1 (hold j oj b hj1 hb') k2
   ·exact hne rfl
 ·intro i oi b h hb
  show b < w'.heap.size
  rcases look i oi h with ⟨hi, h'⟩ | ⟨rfl, rfl⟩
  ·have := hok.old i oi b h' (hold i oi b hi hb); omega
  ·rcases hnew b hb with k2 | k2
   ·exact k2.2
   ·have := hok.old i o b hk k2; omega
 ·intro b o h
  have := hok.imm b o h
  show b < w'.heap.size
  omega
 ·intro b o i oi h hi hb
  rcases look i oi hi with ⟨hi1, h'⟩ | ⟨rfl, rfl⟩
  ·exact hok.immApart b o i oi h h' (hold i oi b hi1 hb)
  ·rcases hnew b hb with k2 | k2
   ·have := hok.imm b o h; omega
   ·exact hok.immApart b o i _ h hk k2
 ·rintro b ⟨i, oi, h, hb⟩
  rcases look i oi h with ⟨hi, h'⟩ | ⟨rfl, rfl⟩
  ·exact .inr ⟨i, oi, h', hold i oi b hi hb⟩
  ·rcases hnew b hb with k2 | k2
   ·exact .inl k2.1
   ·exact .inr ⟨i, o, hk, k2⟩
theorem Tr.freeze {c : Cfg} (hok : c.Ok) {k : Nat} {o : HObj} (hk : c.H[k]? = some o) :
  Tr c ⟨c.g, fun b p => c.I b p \/ blk c.g k o = some b, c.w, c.H.set k .dead⟩ := by
 have hklt : k < c.H.length := (List.getElem?_eq_some_iff.1 hk).1
 have look : ∀ i oi, (c.H.set k HObj.dead)[i]? = some oi -> (i ≠ k /\ c.H[i]? = some oi) \/ (i = k /\ oi = .dead) := by
  intro i oi h
  by_cases e : i = k
  ·subst e
   rw [List.getElem?_set_self hklt] at h
   exact .inr ⟨rfl, (Option.some.inj h).symm⟩
  ·rw [List.getElem?_set_ne (fun h => e h.symm)] at h
   exact .inl ⟨e, h⟩
 have hpl : ∀ i, i < c.H.length -> (0 < (c.g i).ver -> (c.g i).b = (c.g i).b) /\ (c.g i).ver <= (c.g i).ver /\ ((c.g i).ver = (c.g i).ver -> (c.g i).v = (c.g i).v) := fun _ _ => ⟨fun _ => rfl, Nat.le_refl _, fun _ => rfl⟩
 refine ⟨⟨?_, ?_, ?_, ?_, ?_⟩, by simp, hpl, fun b o h => ⟨.inl h, rfl⟩, ?_, ?_, rfl, rfl, rfl, Nat.le_refl _, fun _ _ _ => rfl⟩
 ·intro i oi h
  rw [show (c.H.set k HObj.dead).length = c.H.length by simp]
  rcases look i oi h with ⟨hi, h'⟩ | ⟨rfl, rfl⟩
  ·exact Holds.mono hpl (fun b o h => ⟨.inl h, rfl⟩) (Nat.le_refl _) rfl (fun _ _ => rfl) (hok.obj i oi h')
  ·trivial
 ·intro i j oi oj b hi hj hne hb hb'
  rcases look i oi hi with ⟨hi1, hi2⟩ | ⟨rfl, rfl⟩
  ·rcases look j oj hj with ⟨hj1, hj2⟩ | ⟨rfl, rfl⟩
   ·exact hok.apart i j oi oj b hi2 hj2 hne hb hb'
   ·cases hb'
  ·cases hb
 ·intro i oi b h hb
  rcases look i oi h with ⟨hi, h'⟩ | ⟨rfl, rfl⟩
  ·exact hok.old i oi b h' hb
  ·cases hb
 ·rintro b p (h | h)
  ·exact hok.imm b p h
  ·exact hok.old k o b hk h
 ·intro b p i oi h hi hb
  rcases look i oi hi with ⟨hi1, h'⟩ | ⟨rfl, rfl⟩
  ·rcases h with h | h
   ·exact hok.immApart b p i oi h h' hb
   ·exact hok.apart k i o oi b hk h' (fun e => hi1 e.symm) h hb
  ·cases hb
 ·rintro b p (h | h)
  ·exact .inl h
  ·exact .inr (.inr ⟨k, o, hk, h⟩)
 ·rintro b ⟨i, oi, h, hb⟩
  rcases look i oi h with ⟨hi, h'⟩ | ⟨rfl, rfl⟩
  ·exact .inr ⟨i, oi, h', hb⟩
  ·cases hb
theorem Tr.drop {c0 c : Cfg} (h : Tr c0 c) {n : Nat} (hn : c0.H.length <= n) (hlen : n <= c.H.length)
  (hh : ∀ k o, k < n -> c.H[k]? = some o -> Holds c.g c.I c.w n k o) : Tr c0 { c with H := c.H.take n } := by
 have look : ∀ k o, (c.H.take n)[k]? = some o -> k < n /\ c.H[k]? = some o := by
  intro k o hk
  rw [List.getElem?_take] at hk
  split at hk
  ·exact ⟨by assumption, hk⟩
  ·cases hk
 have hl : (c.H.take n).length = n := by simp; omega
 refine ⟨⟨?_, ?_, ?_, ?_, ?_⟩, by rw [hl]; exact hn, h.places, h.keep, h.new, ?_, h.os, h.tape, h.output, h.size, h.block⟩
 ·intro k o hk
  obtain ⟨h1, h2⟩ := look k o hk
  show Holds c.g c.I c.w (c.H.take n).length k o
  rw [hl]
  exact hh k o h1 h2
 ·intro i j oi oj b hi hj
  exact h.ok.apart i j oi oj b (look i oi hi).2 (look j oj hj).2
 ·intro k o b hk
  exact h.ok.old k o b (look k o hk).2
 ·exact h.ok.imm
 ·intro b o k ob h' hk
  exact h.ok.immApart b o k ob h' (look k ob hk).2
 ·rintro b ⟨k, o, hk, hb⟩
  exact h.own b ⟨k, o, (look k o hk).2, hb⟩
end Go.Fx
/-
 What the symbolic reading needs to know of the program's types; loading and storing of whole values.
-/
namespace Go.Fx
inductive TK where
 | struct (fs : List (Nat × TypeId))
 | array (len : Nat) (elem : TypeId)
 | slice (elem : TypeId)
 | string
 | int (k : IntKind)
 | bool
 | ifc
 | other
 deriving Inhabited
structure TI where
 kind : TK
 size : Nat
 bytes : Nat
 zero : List Value
 cmp : Bool
 deriving Inhabited
def TI.isAgg (i : TI) : Bool := match i.kind with | .struct _ | .array _ _ => true | _ => false
def TK.fits : TK -> TypeDesc -> Prop
 | .struct fs, d => ∃ F : Array Field, d = .struct F /\ F.toList.map (fun f => (f.offset, f.type)) = fs
 | .array n e, d => d = .array n e
 | .slice e, d => d = .slice e
 | .string, d => d = .string
 | .int k, d => d = .int k
 | .bool, d => d = .bool
 | .ifc, d => ∃ ms, d = .interface ms
 | .other, d => (∀ F, d ≠ .struct F) /\ (∀ n e, d ≠ .array n e)
structure TIok (P : Program) (t : TypeId) (i : TI) : Prop where
 info : ∃ info z, P.info? t = some info /\ info.size = i.size /\ info.bytes = i.bytes /\ info.zero = some z /\ z.cells.toList = i.zero
 desc : ∃ d, P.underlying t = some d /\ i.kind.fits d
 one : i.isAgg = false -> i.size = 1
 zsize : i.zero.length = i.size
 zone : ∀ v ∈ i.zero, v.oneCell' = true
 plain : i.cmp = true -> P.stoodInHeld t = false /\ P.eqGuardType P.depth t = false /\ ∀ F, P.underlying t = some (.struct F) -> ∀ f ∈ F.toList, f.name ≠ "_"
section
variable {P : Program} {t : TypeId} {i : TI}
theorem TIok.run_isAgg (h : TIok P t i) (w : World) : (isAgg t).run P w = .ok i.isAgg w := by
 obtain ⟨d, hd, hf⟩ := h.desc
 unfold isAgg
 simp only [Sem.run_bind, run_underlying hd, Result.andThen_ok]
 unfold TI.isAgg
 cases hk : i.kind <;> rw [hk] at hf <;> simp only [TK.fits] at hf
 case struct fs => obtain ⟨F, rfl, _⟩ := hf; rfl
 case array n e => subst hf; rfl
 case slice e => subst hf; rfl
 case string => subst hf; rfl
 case int k => subst hf; rfl
 case bool => subst hf; rfl
 case ifc => obtain ⟨ms, rfl⟩ := hf; rfl
 case other =>
  obtain ⟨h1, h2⟩ := hf
  cases d <;> first | rfl | exact absurd rfl (h1 _) | exact absurd rfl (h2 _ _)
theorem TIok.run_sizeOf (h : TIok P t i) (w : World) : (sizeOf t).run P w = .ok i.size w := by
 obtain ⟨info, z, h1, h2, _⟩ := h.info
 simp [sizeOf, typeInfo, h1, h2]
theorem TIok.run_zeroValue (h : TIok P t i) (w : World) : ∃ z, (zeroValue t).run P w = .ok z w /\ z.cells.toList = i.zero := by
 obtain ⟨info, z, h1, h2, h3, h4, h5⟩ := h.info
 exact ⟨z, by simp [zeroValue, typeInfo, h1, h4], h5⟩
def TI.value (i : TI) (cs : List Value) : Value := if i.isAgg then .agg cs.toArray else cs.headD undef
theorem TIok.run_loadVar (h : TIok P t i) {w : World} {b o : Nat} {cs : List Value} (hl : cs.length = i.size)
  (hc : ∀ j v, cs[j]? = some v -> w.cell? ⟨b, o + j, none⟩ = some v) : (loadVar t ⟨b, o, none⟩).run P w = .ok (i.value cs) w := by
 unfold loadVar
 simp only [Sem.run_bind, h.run_isAgg, Result.andThen_ok]
 cases ha : i.isAgg with
 | true =>
  have := run_loadCells_list (P := P) (w := w) ⟨b, o, none⟩ cs (fun j v hj => by rw [Addr.add_lit]; exact hc j v hj)
  rw [hl] at this
  simp [h.run_sizeOf, this, TI.value, ha]
 | false =>
  have h1 := h.one ha
  match cs, hl with
  | [v], _ =>
   have := hc 0 v rfl
   simp only [Nat.add_zero] at this
   simp [TI.value, ha, this]
  | [], hl => simp at hl; omega
  | _ :: _ :: _, hl => simp at hl; omega
theorem TIok.run_part (h : TIok P t i) (w : World) {cs : Array Value} {off : Nat} {xs : List Value} (hl : xs.length = i.size)
  (hc : ∀ j v, xs[j]? = some v -> cs[off + j]? = some v) : (part t cs off).run P w = .ok (i.value xs) w := by
 unfold part
 simp only [Sem.run_bind, h.run_isAgg, Result.andThen_ok]
 cases ha : i.isAgg with
 | true =>
  simp only [h.run_sizeOf, TI.value, ha, if_true, Sem.run_bind, Sem.run_pure, Result.andThen_ok]
  congr 2
  apply Array.toList_inj.1
  rw [Array.toList_extract]
  apply List.ext_getElem?
  intro j
  simp only [List.getElem?_take, List.getElem?_drop, List.extract]
  by_cases hj : j < xs.length
  ·rw [if_pos (by omega), Array.getElem?_toList, hc j xs[j] (by simp [hj])]
   simp [hj]
  ·rw [if_neg (by omega)]
   simp [List.getElem?_eq_none (Nat.le_of_not_lt hj)]
 | false =>
  have h1 := h.one ha
  match xs, hl with
  | [v], _ =>
   have := hc 0 v rfl
   simp only [Nat.add_zero] at this
   simp [TI.value, ha, this]
  | [], hl => simp at hl; omega
  | _ :: _ :: _, hl => simp at hl; omega
end
def partAV (i : TI) (get : Nat -> AV) (off : Nat) : AV := if i.isAgg then .agg i.size (fun j => get (off + j)) else get off
theorem partAV_reads {g : Nat -> GO} {I : Nat -> Nat -> Prop} {w : World} {m : Nat} {i : TI} (h1 : i.isAgg = false -> i.size = 1) {get : Nat -> AV} {off : Nat} {xs : List Value} (hl : xs.length = i.size)
  (h : ∀ j, j < i.size -> ∃ x, xs[j]? = some x /\ x.oneCell' = true /\ Reads g I w (get (off + j)) m x) : Reads g I w (partAV i get off) m (i.value xs) := by
 unfold partAV TI.value
 cases ha : i.isAgg with
 | true =>
  simp only [if_true]
  exact ⟨xs.toArray, rfl, by simpa using hl, fun j hj => by simpa using h j hj⟩
 | false =>
  have h1 := h1 ha
  match xs, hl with
  | [v], _ =>
   obtain ⟨x, hx, _, hr⟩ := h 0 (by omega)
   simp at hx
   subst hx
   simpa using hr
  | [], hl => simp at hl; omega
  | _ :: _ :: _, hl => simp at hl; omega
def AV.free : AV -> Bool
 | .agg n f => (List.range n).all fun j => (f j).free
 | .tup n f => (List.range n).all fun j => (f j).free
 | .fn _ n f => (List.range n).all fun j => (f j).free
 | .ptr _ _ | .lptr .. | .own _ _ | .yld _ => false
 | _ => true
theorem AV.free_reads {g g' : Nat -> GO} {I : Nat -> Nat -> Prop} {w : World} : ∀ (av : AV) (m m' : Nat) (c : Value), av.free = true -> Reads g I w av m c -> Reads g I w av m' c := by
 intro av
 induction av with
 | agg n f ih =>
  intro m m' c hf ⟨cs, h1, h2, h⟩
  simp only [AV.free, List.all_eq_true, List.mem_range] at hf
  exact ⟨cs, h1, h2, fun j hj => let ⟨x, k1, k2, k3⟩ := h j hj; ⟨x, k1, k2, ih j m m' x (hf j hj) k3⟩⟩
 | tup n f ih =>
  intro m m' c hf ⟨cs, h1, h2, h⟩
  simp only [AV.free, List.all_eq_true, List.mem_range] at hf
  exact ⟨cs, h1, h2, fun j hj => let ⟨x, k1, k3⟩ := h j hj; ⟨x, k1, ih j m m' x (hf j hj) k3⟩⟩
 | fn f n caps ih =>
  intro m m' c hf ⟨cs, h1, h2, h⟩
  simp only [AV.free, List.all_eq_true, List.mem_range] at hf
  exact ⟨cs, h1, h2, fun j hj => let ⟨x, k1, k3⟩ := h j hj; ⟨x, k1, ih j m m' x (hf j hj) k3⟩⟩
 | ptr k off => intro m m' c hf; cases hf
 | lptr k ver es i off => intro m m' c hf; cases hf
 | own k ver => intro m m' c hf; cases hf
 | yld k => intro m m' c hf; cases hf
 | int k n => intro m m' c _ h; exact h
 | bool b => intro m m' c _ h; exact h
 | str s => intro m m' c _ h; exact h
 | ip n f off ih => intro m m' c _ h; exact h
 | slc es n f ih => intro m m' c _ h; exact h
 | slc0 => intro m m' c _ h; exact h
 | ifc => intro m m' c _ h; exact h
 | val v => intro m m' c _ h; exact h
 | any => intro m m' c _ h; exact h
def AV.under (n : Nat) : AV -> Bool
 | .agg k f => (List.range k).all fun j => (f j).under n
 | .tup k f => (List.range k).all fun j => (f j).under n
 | .fn _ k f => (List.range k).all fun j => (f j).under n
 | .ptr k _ | .lptr k _ _ _ _ | .own k _ | .yld k => Nat.blt k n
 | _ => true
theorem AV.under_reads {g : Nat -> GO} {I : Nat -> Nat -> Prop} {w : World} {n : Nat} : ∀ (av : AV) (m : Nat) (c : Value), av.under n = true -> Reads g I w av m c -> Reads g I w av n c := by
 intro av
 induction av with
 | agg k f ih =>
  intro m c hf ⟨cs, h1, h2, h⟩
  simp only [AV.under, List.all_eq_true, List.mem_range] at hf
  exact ⟨cs, h1, h2, fun j hj => let ⟨x, k1, k2, k3⟩ := h j hj; ⟨x, k1, k2, ih j m x (hf j hj) k3⟩⟩
 | tup k f ih =>
  intro m c hf ⟨cs, h1, h2, h⟩
  simp only [AV.under, List.all_eq_true, List.mem_range] at hf
  exact ⟨cs, h1, h2, fun j hj => let ⟨x, k1, k3⟩ := h j hj; ⟨x, k1, ih j m x (hf j hj) k3⟩⟩
 | fn f k caps ih =>
  intro m c hf ⟨cs, h1, h2, h⟩
  simp only [AV.under, List.all_eq_true, List.mem_range] at hf
  exact ⟨cs, h1, h2, fun j hj => let ⟨x, k1, k3⟩ := h j hj; ⟨x, k1, ih j m x (hf j hj) k3⟩⟩
 | ptr k off => intro m c hf ⟨_, h⟩; exact ⟨by have := hf; simp [AV.under, Nat.blt] at this; omega, h⟩
 | lptr k ver es i off => intro m c hf ⟨_, h⟩; exact ⟨by have := hf; simp [AV.under, Nat.blt] at this; omega, h⟩
 | own k ver => intro m c hf ⟨_, h⟩; exact ⟨by have := hf; simp [AV.under, Nat.blt] at this; omega, h⟩
 | yld k => intro m c hf ⟨_, h⟩; exact ⟨by have := hf; simp [AV.under, Nat.blt] at this; omega, h⟩
 | int k n => intro m c _ h; exact h
 | bool b => intro m c _ h; exact h
 | str s => intro m c _ h; exact h
 | ip n f off ih => intro m c _ h; exact h
 | slc es n f ih => intro m c _ h; exact h
 | slc0 => intro m c _ h; exact h
 | ifc => intro m c _ h; exact h
 | val v => intro m c _ h; exact h
 | any => intro m c _ h; exact h
def AV.cells : AV -> Option (List AV)
 | .agg n f => some ((List.range n).map f)
 | .tup _ _ | .any | .yld _ => none
 | .val v => bif v.oneCell' then some [.val v] else none
 | a => some [a]
theorem cells_one {v : Value} (h : v.oneCell' = true) : v.cells = #[v] := by cases v <;> first | rfl | cases h
theorem AV.cells_reads {g : Nat -> GO} {I : Nat -> Nat -> Prop} {w : World} {m : Nat} {av : AV} {v : Value} {l : List AV} (h : Reads g I w av m v) (hl : av.cells = some l) :
  v.cells.size = l.length /\ ∀ (j : Nat) a, l[j]? = some a -> ∃ x, v.cells[j]? = some x /\ x.oneCell' = true /\ Reads g I w a m x := by
 have one : v.oneCell' = true -> l = [av] -> v.cells.size = l.length /\ ∀ (j : Nat) a, l[j]? = some a -> ∃ x, v.cells[j]? = some x /\ x.oneCell' = true /\ Reads g I w a m x := by
  rintro h1 rfl
  rw [cells_one h1]
  refine ⟨rfl, fun j a hj => ?_⟩
  cases j with
  | zero => simp at hj; subst hj; exact ⟨v, rfl, h1, h⟩
  | succ j => simp at hj
 cases av with
 | agg n f =>
  simp only [AV.cells, Option.some.injEq] at hl
  subst hl
  obtain ⟨cs, rfl, hs, h⟩ := h
  refine ⟨by simp [Value.cells, hs], fun j a hj => ?_⟩
  simp only [List.getElem?_map, List.getElem?_range', Option.map_eq_some_iff] at hj
  obtain ⟨q, hq, rfl⟩ := hj
  rw [List.getElem?_eq_some_iff] at hq
  obtain ⟨hq1, hq2⟩ := hq
  simp at hq1 hq2
  subst hq2
  exact h j hq1
 | tup n f => cases hl
 | any => cases hl
 | yld k => cases hl
 | val x =>
  simp only [AV.cells] at hl
  cases hx : x.oneCell' with
  | true =>
   rw [hx] at hl
   obtain rfl : v = x := h
   exact one hx (Option.some.inj hl).symm
  | false => rw [hx] at hl; cases hl
 | int k n => exact one (by obtain rfl : v = _ := h; rfl) (Option.some.inj hl).symm
 | bool b => exact one (by obtain rfl : v = _ := h; rfl) (Option.some.inj hl).symm
 | str s => exact one (by obtain rfl : v = _ := h; rfl) (Option.some.inj hl).symm
 | ptr k off => exact one (by obtain ⟨_, _, rfl⟩ := h; rfl) (Option.some.inj hl).symm
 | lptr k ver es i off => exact one h.2.2.1 (Option.some.inj hl).symm
 | ip n f off => exact one (by obtain ⟨_, _, rfl, _⟩ := h; rfl) (Option.some.inj hl).symm
 | slc es n f => exact one (by obtain ⟨_, _, rfl, _⟩ := h; rfl) (Option.some.inj hl).symm
 | slc0 => exact one (by obtain ⟨_, rfl⟩ := h; rfl) (Option.some.inj hl).symm
 | own k ver => exact one h.2.2.1 (Option.some.inj hl).symm
 | fn f n caps => exact one (by obtain ⟨_, rfl, _⟩ := h; rfl) (Option.some.inj hl).symm
 | ifc => exact one (by obtain ⟨_, _, rfl⟩ := h; rfl) (Option.some.inj hl).symm
def ofVal : Value -> AV
 | .int k n => .int k n
 | .bool b => .bool b
 | .string s => .str s
 | .slice _ 0 0 => .slc0
 | v => .val v
theorem ofVal_reads {g : Nat -> GO} {I : Nat -> Nat -> Prop} {w : World} {m : Nat} (v : Value) : Reads g I w (ofVal v) m v := by
 unfold ofVal
 split <;> first | rfl | exact ⟨_, rfl⟩
end Go.Fx
/-
 One operation, read symbolically: what it asks, what it gives, which owned blocks it turns.
-/
namespace Go.Fx
open Go.RowKit
instance : Inhabited GO := ⟨⟨0, .nilFunc, 0⟩⟩
structure Ctx where
 P : Program
 T : TypeId -> Option TI
 W0 : World
 G : Nat -> Option AV
structure Ctx.Good (X : Ctx) : Prop where
 types : ∀ t i, X.T t = some i -> TIok X.P t i
 globals : ∀ g av, X.G g = some av -> Reads (fun _ => default) (fun b _ => b < X.W0.heap.size) X.W0 av 0 (.pointer (some ⟨g, 0, none⟩))
 mixed : X.P.follows .mixedOrders = true
structure Base (X : Ctx) (c : Cfg) : Prop where
 below : Below X.W0.heap.size X.W0 c.w
 imm : ∀ b o, b < X.W0.heap.size -> c.I b o
 own : ∀ b, c.Owns b -> X.W0.heap.size <= b
theorem Base.tr {X : Ctx} {c c' : Cfg} (h : Base X c) (k : Tr c c') : Base X c' := {
 below := h.below.trans ⟨k.os, k.tape, k.output, k.size, fun b hb => k.block b (by have := h.below.size; omega) fun ho => by have := h.own b ho; omega⟩
 imm := fun b o hb => (k.keep b o (h.imm b o hb)).1
 own := fun b hb => by
  have := h.below.size
  rcases k.own b hb with h1 | h1
  ·omega
  ·exact h.own b h1 }
def Enters (P : Program) (f : FuncId) : Prop := ∃ fn, P.funcs[f]? = some fn /\ (fn.name == "runtime.NumGoroutine") = false /\ fn.body.isSome = true
def Mut (X : Ctx) (f : FuncId) (args : List AV) (L : List HObj) (r : AV) (L' : List HObj) : Prop :=
 Enters X.P f /\ ∀ (c : Cfg) (cargs : Array Value), c.Ok -> Base X c -> c.H = L -> cargs.size = args.length -> (∀ (j : Nat) av, args[j]? = some av -> ∃ v, cargs[j]? = some v /\ c.Reads av v) ->
  Calls X.P f cargs c.w fun e w' => ∃ v c', e = .returned v /\ c'.w = w' /\ Tr c c' /\ c'.H = L' /\ c'.Reads r v
abbrev Pure (X : Ctx) (f : FuncId) (args : List AV) (r : AV) : Prop := Mut X f args [] r []
def setAll (H : List HObj) : List (Nat × HObj) -> List HObj
 | [] => H
 | (k, o) :: rest => setAll (H.set k o) rest
@[reducible] def FR (ρ : Option Nat) : Fence := { Fence.wide with round := ρ }
theorem run_defer {P : Program} {a : Act} {o : Oper} {c : Call} (ho : o.op = .defer c) {w w' : World} {x : Next} (h : (execOp a.eval o).run P w = .ok x w') : ∃ d, x = .defer d := by
 unfold execOp at h
 rw [ho] at h
 simp only [Sem.run_bind] at h
 cases hr : (resolve a.eval c o.type).run P w with
 | halt e w1 => rw [hr] at h; cases h
 | ok d w1 => rw [hr] at h; cases h; exact ⟨_, rfl⟩
theorem semAt_run {P : Program} {a : Act} {o : Oper} {w w' : World} {x : Next} (ρ : Option Nat) (hx : ∀ d, x ≠ .defer d) (h : (execOp a.eval o).run P w = .ok x w') : (o.semAt ρ a.eval).run P w = .ok x w' := by
 unfold Oper.semAt
 split
 ·rename_i ho
  obtain ⟨d, hd⟩ := run_defer ho h
  exact absurd hd (hx d)
 ·exact h
theorem wpIn_value {P : Program} {o : Oper} {a : Act} {K : Act -> World -> Prop} {Q : Exit -> Act -> World -> Prop} {w w' : World} {v : Value} (ρ : Option Nat) (h : (execOp a.eval o).run P w = .ok (.value v) w') (hk : K (a.put o.dst v) w') : o.wpIn (FR ρ) 0 P a w K Q :=
 ⟨fun _ _ => trivial, by rw [semAt_run (FR ρ).round (by simp) h]; exact hk⟩
theorem wpIn_skipped {P : Program} {o : Oper} {a : Act} {K : Act -> World -> Prop} {Q : Exit -> Act -> World -> Prop} {w w' : World} (ρ : Option Nat) (h : (execOp a.eval o).run P w = .ok .skip w') (hk : K (a.put o.dst undef) w') : o.wpIn (FR ρ) 0 P a w K Q :=
 ⟨fun _ _ => trivial, by rw [semAt_run (FR ρ).round (by simp) h]; exact hk⟩
theorem wpIn_enter {P : Program} {o : Oper} {a : Act} {K : Act -> World -> Prop} {Q : Exit -> Act -> World -> Prop} {w w' : World} {f : FuncId} {args : Array Value} (ρ : Option Nat) (h : (execOp a.eval o).run P w = .ok (.enter f args) w')
  (hk : Calls P f args w' fun | .returned v, w'' => K (a.put o.dst v) w'' | .panicked chain, w'' => Q (.panic chain) a w'' | .outgrown, _ => LetsOut Q) : o.wpIn (FR ρ) 0 P a w K Q :=
 ⟨fun _ _ => trivial, by
  rw [semAt_run (FR ρ).round (by simp) h]
  rw [Oper.uponIn_enter]
  exact ⟨fun hd => by simp [FR, Fence.wide] at hd, (callsIn_wide (n := 0 - 1)).2 hk⟩⟩
def StepOK (X : Ctx) (o : Oper) (ρ : Operand -> AV) (need : List (Nat × HObj)) (av : AV) (write : List (Nat × HObj)) : Prop :=
 ∀ (c : Cfg) (a : Act) (K : Act -> World -> Prop) (Q : Exit -> Act -> World -> Prop), c.Ok -> Base X c -> (∀ x ∈ need, c.H[x.1]? = some x.2) -> (∀ x ∈ o.op.operands.toList, c.Reads (ρ x) (a.eval x)) ->
  (∀ c' v, Tr c c' -> c'.H = setAll c.H write -> c'.Reads av v -> K (a.put o.dst v) c'.w) -> ∀ ρ, o.wpIn (FR ρ) 0 X.P a c.w K Q
theorem StepOK.value {X : Ctx} {o : Oper} {ρ : Operand -> AV} {need write : List (Nat × HObj)} {av : AV}
  (h : ∀ (c : Cfg) (a : Act), c.Ok -> Base X c -> (∀ x ∈ need, c.H[x.1]? = some x.2) -> (∀ x ∈ o.op.operands.toList, c.Reads (ρ x) (a.eval x)) ->
   ∃ v c', (execOp a.eval o).run X.P c.w = .ok (.value v) c'.w /\ Tr c c' /\ c'.H = setAll c.H write /\ c'.Reads av v) : StepOK X o ρ need av write := by
 intro c a K Q hok hb hH hr hk
 obtain ⟨v, c', h1, h2, h3, h4⟩ := h c a hok hb hH hr
 exact fun ρ => wpIn_value ρ h1 (hk c' v h2 h3 h4)
theorem StepOK.skip {X : Ctx} {o : Oper} {ρ : Operand -> AV} {need write : List (Nat × HObj)}
  (h : ∀ (c : Cfg) (a : Act), c.Ok -> Base X c -> (∀ x ∈ need, c.H[x.1]? = some x.2) -> (∀ x ∈ o.op.operands.toList, c.Reads (ρ x) (a.eval x)) ->
   ∃ c', (execOp a.eval o).run X.P c.w = .ok .skip c'.w /\ Tr c c' /\ c'.H = setAll c.H write) : StepOK X o ρ need .any write := by
 intro c a K Q hok hb hH hr hk
 obtain ⟨c', h1, h2, h3⟩ := h c a hok hb hH hr
 exact fun ρ => wpIn_skipped ρ h1 (hk c' undef h2 h3 trivial)
theorem StepOK.plain {X : Ctx} {o : Oper} {ρ : Operand -> AV} {need : List (Nat × HObj)} {av : AV}
  (h : ∀ (c : Cfg) (a : Act), c.Ok -> Base X c -> (∀ x ∈ need, c.H[x.1]? = some x.2) -> (∀ x ∈ o.op.operands.toList, c.Reads (ρ x) (a.eval x)) ->
   ∃ v, (execOp a.eval o).run X.P c.w = .ok (.value v) c.w /\ c.Reads av v) : StepOK X o ρ need av [] :=
 .value fun c a hok hb hH hr => let ⟨v, h1, h2⟩ := h c a hok hb hH hr; ⟨v, c, h1, .refl hok, rfl, h2⟩
section
variable {X : Ctx} {o : Oper} {ρ : Operand -> AV}
theorem step_move {x : Operand} (ho : o.op = .move x) : StepOK X o ρ [] (ρ x) [] := .plain fun c a _ _ _ hr =>
 ⟨a.eval x, by simp [execOp, ho], hr x (by simp [ho, Op.operands])⟩
theorem step_assign {x : Operand} (ho : o.op = .assign x) : StepOK X o ρ [] (ρ x) [] := .plain fun c a _ _ _ hr =>
 ⟨a.eval x, by simp [execOp, ho], hr x (by simp [ho, Op.operands])⟩
theorem step_nilCheck {x : Operand} (ho : o.op = .nilCheck x) (hx : (match ρ x with | .ptr _ _ | .lptr .. | .ip .. => true | _ => false) = true) (hl : ∀ k v e i f, ρ x ≠ .lptr k v e i f) :
  StepOK X o ρ [] (ρ x) [] := .plain fun c a _ _ _ hr => by
 have h1 := hr x (by simp [ho, Op.operands])
 refine ⟨a.eval x, ?_, h1⟩
 cases hρ : ρ x <;> rw [hρ] at hx h1 <;> first | (cases hx; done) | skip
 ·obtain ⟨_, h1⟩ := h1; simp [execOp, ho, h1]
 ·exact absurd hρ (hl _ _ _ _ _)
 ·obtain ⟨_, _, h1, _⟩ := h1; simp [execOp, ho, h1]
def inK : IntKind -> Int -> Prop
 | .i64, n => -9223372036854775808 <= n /\ n <= 9223372036854775807
 | .u8, n => 0 <= n /\ n <= 255
 | .i32, n => -2147483648 <= n /\ n <= 2147483647
 | k, n => k.wrap n = n
theorem inK.wrap {k : IntKind} {n : Int} (h : inK k n) : k.wrap n = n := by
 cases k <;> simp only [inK] at h <;> first
  | exact h
  | (simp only [IntKind.wrap, IntKind.bits, IntKind.signed]; simp; omega)
def arith : BinOp -> Int -> Int -> Option Int
 | .add, x, y => some (x + y)
 | .sub, x, y => some (x - y)
 | .mul, x, y => some (x * y)
 | _, _, _ => none
def compare : BinOp -> Int -> Int -> Option Bool
 | .eql, x, y => some (x == y)
 | .neq, x, y => some (x != y)
 | .lss, x, y => some (decide (x < y))
 | .leq, x, y => some (decide (x <= y))
 | .gtr, x, y => some (decide (y < x))
 | .geq, x, y => some (decide (y <= x))
 | _, _, _ => none
theorem run_eqGuard_int {P : Program} {w : World} {op : BinOp} {t : TypeId} {x y : Operand} {k j : IntKind} {a b : Int} : (eqGuard op t x y (.int k a) (.int j b)).run P w = .ok () w := by
 unfold eqGuard; cases op <;> simp
theorem run_eqGuard_str {P : Program} {w : World} {op : BinOp} {t : TypeId} {x y : Operand} {a b : ByteArray} : (eqGuard op t x y (.string a) (.string b)).run P w = .ok () w := by
 unfold eqGuard; cases op <;> simp
theorem step_arith {op : BinOp} {t u : TypeId} {x y : Operand} {k : IntKind} {n m r : Int} (ho : o.op = .binOp op t x y u) (hx : ρ x = .int k n) (hy : ρ y = .int k m)
  (hop : arith op n m = some r) (hk : inK k r) : StepOK X o ρ [] (.int k r) [] := .plain fun c a _ _ _ hr => by
 have h1 := hr x (by simp [ho, Op.operands])
 have h2 := hr y (by simp [ho, Op.operands])
 rw [hx] at h1; rw [hy] at h2
 have h1 : a.eval x = .int k n := h1
 have h2 : a.eval y = .int k m := h2
 refine ⟨.int k r, ?_, rfl⟩
 cases op <;> simp only [arith, Option.some.injEq] at hop <;> first | (cases hop; done) | skip
 all_goals subst hop; simp [execOp, ho, h1, h2, run_eqGuard_int, binOp, Op.intArith, hk.wrap]
theorem step_cmp {op : BinOp} {t u : TypeId} {x y : Operand} {k : IntKind} {n m : Int} {r : Bool} (ho : o.op = .binOp op t x y u) (hx : ρ x = .int k n) (hy : ρ y = .int k m)
  (hop : compare op n m = some r) : StepOK X o ρ [] (.bool r) [] := .plain fun c a _ _ _ hr => by
 have h1 := hr x (by simp [ho, Op.operands])
 have h2 := hr y (by simp [ho, Op.operands])
 rw [hx] at h1; rw [hy] at h2
 have h1 : a.eval x = .int k n := h1
 have h2 : a.eval y = .int k m := h2
 refine ⟨.bool r, ?_, rfl⟩
 cases op <;> simp only [compare, Option.some.injEq] at hop <;> first | (cases hop; done) | skip
 all_goals subst hop; simp [execOp, ho, h1, h2, run_eqGuard_int, binOp, Op.intCmp]
theorem step_quo {t u : TypeId} {x y : Operand} {k : IntKind} {n m : Int} (ho : o.op = .binOp .quo t x y u) (hx : ρ x = .int k n) (hy : ρ y = .int k m)
  (hm : m ≠ 0) (hk : inK k (n.tdiv m)) : StepOK X o ρ [] (.int k (n.tdiv m)) [] := .plain fun c a _ _ _ hr => by
 have h1 := hr x (by simp [ho, Op.operands])
 have h2 := hr y (by simp [ho, Op.operands])
 rw [hx] at h1; rw [hy] at h2
 have h1 : a.eval x = .int k n := h1
 have h2 : a.eval y = .int k m := h2
 exact ⟨_, by simp [execOp, ho, h1, h2, run_eqGuard_int, binOp, Op.intDiv, hm, hk.wrap], rfl⟩
theorem step_rem {t u : TypeId} {x y : Operand} {k : IntKind} {n m : Int} (ho : o.op = .binOp .rem t x y u) (hx : ρ x = .int k n) (hy : ρ y = .int k m)
  (hm : m ≠ 0) : StepOK X o ρ [] (.int k (n.tmod m)) [] := .plain fun c a _ _ _ hr => by
 have h1 := hr x (by simp [ho, Op.operands])
 have h2 := hr y (by simp [ho, Op.operands])
 rw [hx] at h1; rw [hy] at h2
 have h1 : a.eval x = .int k n := h1
 have h2 : a.eval y = .int k m := h2
 exact ⟨_, by simp [execOp, ho, h1, h2, run_eqGuard_int, binOp, Op.intDiv, hm], rfl⟩
theorem step_shr {t u : TypeId} {x y : Operand} {k : IntKind} {n m : Int} (ho : o.op = .binOp .shr t x y u) (hx : ρ x = .int k n) (hy : ρ y = .int k m)
  (hm : 0 <= m /\ m.toNat <= k.bits) : StepOK X o ρ [] (.int k (n.fdiv (2 ^ m.toNat))) [] := .plain fun c a _ _ _ hr => by
 have h1 := hr x (by simp [ho, Op.operands])
 have h2 := hr y (by simp [ho, Op.operands])
 rw [hx] at h1; rw [hy] at h2
 have h1 : a.eval x = .int k n := h1
 have h2 : a.eval y = .int k m := h2
 exact ⟨_, by simp [execOp, ho, h1, h2, run_eqGuard_int, binOp, Op.shift, show ¬ m < 0 by omega, Nat.min_eq_left hm.2], rfl⟩
theorem step_not {t : TypeId} {x : Operand} {b : Bool} (ho : o.op = .unOp .not t x) (hx : ρ x = .bool b) : StepOK X o ρ [] (.bool (!b)) [] := .plain fun c a _ _ _ hr => by
 have h1 := hr x (by simp [ho, Op.operands])
 rw [hx] at h1
 have h1 : a.eval x = .bool b := h1
 exact ⟨_, by simp [execOp, ho, h1, Op.unary], rfl⟩
theorem step_neg {t : TypeId} {x : Operand} {k : IntKind} {n : Int} (ho : o.op = .unOp .neg t x) (hx : ρ x = .int k n) (hk : inK k (-n)) : StepOK X o ρ [] (.int k (-n)) [] := .plain fun c a _ _ _ hr => by
 have h1 := hr x (by simp [ho, Op.operands])
 rw [hx] at h1
 have h1 : a.eval x = .int k n := h1
 have h0 : (0 : Int) - n = -n := by omega
 exact ⟨_, by simp [execOp, ho, h1, Op.unary, Op.intArith, h0, hk.wrap], rfl⟩
theorem step_extract {t : Operand} {i n : Nat} {f : Nat -> AV} (ho : o.op = .extract t i) (hx : ρ t = .tup n f) (hi : i < n) : StepOK X o ρ [] (f i) [] := .plain fun c a _ _ _ hr => by
 have h1 := hr t (by simp [ho, Op.operands])
 rw [hx] at h1
 obtain ⟨cs, h1, h2, h3⟩ := h1
 obtain ⟨x, h4, h5⟩ := h3 i hi
 exact ⟨x, by simp [execOp, ho, h1, Instr.extract, h4], h5⟩
theorem step_makeFunc {fn : FuncId} {caps : Array Operand} (ho : o.op = .makeFunc (.func fn) #[] caps) :
  StepOK X o ρ [] (.fn fn caps.size (fun j => ((caps.toList.map ρ)[j]?).getD .any)) [] := .plain fun c a _ _ _ hr => by
 refine ⟨.func (.func fn) #[] (caps.map a.eval), by simp [execOp, ho, Instr.makeFunc], _, rfl, by simp, fun j hj => ?_⟩
 have hm : caps[j] ∈ o.op.operands.toList := by simp [ho, Op.operands]
 refine ⟨a.eval caps[j], by simp [hj], ?_⟩
 have := hr caps[j] hm
 simpa [hj] using this
end
end Go.Fx
/-
 Operations on memory, read symbolically: new boxes, loads and stores, addresses of fields and of elements.
-/
namespace Go.Fx
open Go.RowKit
theorem alloc_old {w : World} {o : Obj} {b : Nat} (h : b < w.heap.size) : (w.alloc o).heap[b]? = w.heap[b]? := heap_alloc_old w o b h
theorem fill_box {c : Cfg} (hok : c.Ok) {k : Nat} (hk : c.H[k]? = some .hole) (h0 : (c.g k).ver = 0) (cs : Array Value) (T : TypeId) (l : List AV) (hl : cs.size = l.length)
  (h : ∀ (j : Nat) a, l[j]? = some a -> ∃ x, cs[j]? = some x /\ x.oneCell' = true /\ c.Reads a x) :
  Tr c ⟨upd c.g k ⟨c.w.heap.size, .nilFunc, 1⟩, c.I, c.w.alloc (.cells cs T), c.H.set k (.box l)⟩ := by
 refine Tr.alter hok hk rfl rfl rfl (by simp) (fun b hb _ => alloc_old hb) (fun hp => by omega) (by omega) (fun e => by simp at e; omega) (fun b hb => ?_) ?_
 ·simp only [blk, upd_same, Option.some.injEq] at hb
  subst hb
  exact .inl ⟨Nat.le_refl _, by simp⟩
 ·refine ⟨by rw [upd_same]; simp, cs, T, ?_, hl, fun j a hj => ?_⟩
  ·rw [upd_same]; exact heap_alloc_new _ _
  ·obtain ⟨x, h1, h2, h3⟩ := h j a hj
   refine ⟨x, h1, h2, Reads.mono' (M := c.H.length) (fun q hq => ?_) (fun b o hI => ⟨hI, ?_⟩) a _ _ x (Nat.le_refl _) (Nat.le_refl _) h3⟩
   ·by_cases e : q = k
    ·subst e; rw [upd_same]; exact ⟨fun hp => by omega, by simp [h0], fun e => by simp at e; omega⟩
    ·rw [upd_other e]; exact ⟨fun _ => rfl, Nat.le_refl _, fun _ => rfl⟩
   ·exact cell_of_block (alloc_old (hok.imm b o hI))
section
variable {X : Ctx} {o : Oper} {ρ : Operand -> AV}
theorem step_alloc (hX : X.Good) {t : TypeId} {i : TI} {k : Nat} (ho : o.op = .alloc t) (hi : X.T t = some i) :
  StepOK X o ρ [(k, .hole)] (.ptr k 0) [(k, .box (i.zero.map ofVal))] := .value fun c a hok hb hn hr => by
 have hk : c.H[k]? = some .hole := hn _ (List.mem_singleton.2 rfl)
 have ht := hX.types t i hi
 obtain ⟨z, hz, hzc⟩ := ht.run_zeroValue c.w
 have hsz : z.cells.size = i.zero.length := by rw [<- hzc]; simp
 refine ⟨.pointer (some ⟨c.w.heap.size, 0, none⟩), _, ?_, fill_box hok hk (hok.obj k _ hk) z.cells t (i.zero.map ofVal) (by simp [hsz]) fun j b hj => ?_, rfl, ?_⟩
 ·simp [execOp, ho, Instr.alloc, hz, newVar, newRow]
 ·simp only [List.getElem?_map, Option.map_eq_some_iff] at hj
  obtain ⟨v, hv, rfl⟩ := hj
  refine ⟨v, ?_, ht.zone v (List.mem_of_getElem? hv), ofVal_reads v⟩
  rw [<- hzc] at hv
  simpa using hv
 ·exact ⟨by simpa using (List.getElem?_eq_some_iff.1 hk).1, by simp [upd_same], by simp [upd_same]⟩
theorem step_box {t : TypeId} {x : Operand} {l : List AV} {k : Nat} (ho : o.op = .box t x) (hl : (ρ x).cells = some l) :
  StepOK X o ρ [(k, .hole)] (.ptr k 0) [(k, .box l)] := .value fun c a hok hb hn hr => by
 have hk : c.H[k]? = some .hole := hn _ (List.mem_singleton.2 rfl)
 have h1 := hr x (by simp [ho, Op.operands])
 obtain ⟨k1, k2⟩ := AV.cells_reads h1 hl
 refine ⟨.pointer (some ⟨c.w.heap.size, 0, none⟩), _, ?_, fill_box hok hk (hok.obj k _ hk) (a.eval x).cells t l k1 k2, rfl, ?_⟩
 ·simp [execOp, ho, Instr.box, newVar, newRow]
 ·exact ⟨by simpa using (List.getElem?_eq_some_iff.1 hk).1, by simp [upd_same], by simp [upd_same]⟩
theorem box_cells {c : Cfg} (hok : c.Ok) {k : Nat} {cells : List AV} (hk : c.H[k]? = some (.box cells)) {off n : Nat} (hn : off + n <= cells.length) :
  ∃ xs : List Value, xs.length = n /\ (∀ (j : Nat) v, xs[j]? = some v -> c.w.cell? ⟨(c.g k).b, off + j, none⟩ = some v) /\
   ∀ j, j < n -> ∃ x, xs[j]? = some x /\ x.oneCell' = true /\ c.Reads (cells.getD (off + j) .any) x := by
 obtain ⟨_, cs, T, h1, h2, h3⟩ := hok.obj k _ hk
 refine ⟨(cs.toList.drop off).take n, by simp; omega, fun j v hj => ?_, fun j hj => ?_⟩
 ·simp only [List.getElem?_take, List.getElem?_drop] at hj
  split at hj
  ·rw [cell_of_row c.w _ _ cs T _ h1]; simpa using hj
  ·cases hj
 ·obtain ⟨x, k1, k2, k3⟩ := h3 (off + j) (cells[off + j]'(by omega)) (by simp)
  refine ⟨x, ?_, k2, ?_⟩
  ·simp only [List.getElem?_take, List.getElem?_drop, hj, if_true]
   simpa using k1
  ·rw [List.getD_eq_getElem?_getD, List.getElem?_eq_getElem (by omega)]; exact k3
theorem step_load_box (hX : X.Good) {t : TypeId} {i : TI} {x : Operand} {k off : Nat} {cells : List AV} (ho : o.op = .load t x) (hx : ρ x = .ptr k off) (hi : X.T t = some i)
  (hn : off + i.size <= cells.length) :
  StepOK X o ρ [(k, .box cells)] (partAV i (fun j => cells.getD j .any) off) [] := .plain fun c a hok _ hH hr => by
 have hk : c.H[k]? = some (.box cells) := hH _ (List.mem_singleton.2 rfl)
 have ht := hX.types t i hi
 have h1 := hr x (by simp [ho, Op.operands])
 rw [hx] at h1
 obtain ⟨hlt, hpos, h1⟩ := h1
 obtain ⟨xs, k1, k2, k3⟩ := box_cells hok hk hn
 exact ⟨i.value xs, by simp [execOp, ho, h1, Instr.loadAt, Instr.sureAddr, ht.run_loadVar k1 k2], partAV_reads ht.one k1 k3⟩
theorem step_load_ip (hX : X.Good) {t : TypeId} {i : TI} {x : Operand} {n off : Nat} {f : Nat -> AV} (ho : o.op = .load t x) (hx : ρ x = .ip n f off) (hi : X.T t = some i)
  (hn : off + i.size <= n) : StepOK X o ρ [] (partAV i f off) [] := .plain fun c a hok _ hH hr => by
 have ht := hX.types t i hi
 have h1 := hr x (by simp [ho, Op.operands])
 rw [hx] at h1
 obtain ⟨b, p, h1, h2⟩ := h1
 have hex : ∀ j, ∃ x, j < n -> c.w.cell? ⟨b, p + j, none⟩ = some x /\ x.oneCell' = true /\ c.Reads (f j) x := fun j => by
  by_cases hj : j < n
  ·obtain ⟨_, x, k1, k2, k3⟩ := h2 j hj
   exact ⟨x, fun _ => ⟨k1, k2, Reads.mono' (M := 0) (fun k hk => absurd hk (by omega)) (fun b o h => ⟨h, rfl⟩) (f j) 0 _ x (by omega) (by omega) k3⟩⟩
  ·exact ⟨.nilFunc, fun h => absurd h hj⟩
 let q := fun j => Classical.choose (hex j)
 have hq : ∀ j, j < n -> c.w.cell? ⟨b, p + j, none⟩ = some (q j) /\ (q j).oneCell' = true /\ c.Reads (f j) (q j) := fun j => Classical.choose_spec (hex j)
 let xs := (List.range i.size).map fun j => q (off + j)
 have hxs : xs.length = i.size := by simp [xs]
 have hget : ∀ (j : Nat), j < i.size -> xs[j]? = some (q (off + j)) := fun j hj => by simp [xs, hj]
 have k2 : ∀ (j : Nat) v, xs[j]? = some v -> c.w.cell? ⟨b, (p + off) + j, none⟩ = some v := fun j v hj => by
  have hlt : j < i.size := by rw [<- hxs]; exact (List.getElem?_eq_some_iff.1 hj).1
  rw [hget j hlt] at hj
  obtain rfl := Option.some.inj hj
  rw [Nat.add_assoc]
  exact (hq (off + j) (by omega)).1
 refine ⟨i.value xs, by simp [execOp, ho, h1, Instr.loadAt, Instr.sureAddr, ht.run_loadVar hxs k2], partAV_reads ht.one hxs fun j hj => ⟨_, hget j hj, (hq (off + j) (by omega)).2⟩⟩
def spineK {B A : Type} : List B -> (List B -> A) -> A
 | [], K => K []
 | a :: l, K => spineK l fun l => K (a :: l)
theorem spineK_eq {B A : Type} : ∀ (l : List B) (K : List B -> A), spineK l K = K l
 | [], _ => rfl
 | a :: l, K => by simp only [spineK, spineK_eq l]
def setCells (cells : List AV) (off : Nat) : List AV -> List AV
 | [] => cells
 | a :: l => spineK (cells.set off a) fun cells => setCells cells (off + 1) l
theorem length_setCells : ∀ (l cells : List AV) (off : Nat), (setCells cells off l).length = cells.length
 | [], cells, off => rfl
 | a :: l, cells, off => by simp [setCells, spineK_eq, length_setCells l]
theorem getElem?_setCells : ∀ (l cells : List AV) (off j : Nat), off + l.length <= cells.length ->
  (setCells cells off l)[j]? = if off <= j /\ j < off + l.length then l[j - off]? else cells[j]?
 | [], cells, off, j, _ => by simp only [setCells, List.length_nil]; rw [if_neg (by omega)]
 | a :: l, cells, off, j, h => by
  simp only [setCells, spineK_eq]
  simp only [List.length_cons] at h ⊢
  rw [getElem?_setCells l _ _ j (by simp; omega)]
  by_cases h1 : off + 1 <= j /\ j < off + 1 + l.length
  ·rw [if_pos h1, if_pos (by omega)]
   obtain ⟨q, hq⟩ : ∃ q, j - off = q + 1 := ⟨j - off - 1, by omega⟩
   rw [hq, List.getElem?_cons_succ]
   congr 1
   omega
  ·rw [if_neg h1]
   by_cases h2 : j = off
   ·subst h2
    rw [if_pos (by omega), List.getElem?_set_self (by omega)]
    simp
   ·rw [if_neg (by omega), List.getElem?_set_ne (by omega)]
theorem setRow_other' {w : World} {g k : Nat} {cs : Array Value} (h : k ≠ g) : (w.setRow g cs).heap[k]? = w.heap[k]? := setRow_other w g k cs (by first | exact h | exact fun e => h e.symm)
theorem step_store_box (hX : X.Good) {t : TypeId} {i : TI} {p x : Operand} {k off : Nat} {cells l : List AV} (ho : o.op = .store t p x) (hp : ρ p = .ptr k off) (hi : X.T t = some i)
  (hl : (ρ x).cells = some l) (hs : l.length = i.size) (hn : off + i.size <= cells.length) :
  StepOK X o ρ [(k, .box cells)] .any [(k, .box (setCells cells off l))] := .skip fun c a hok _ hH hr => by
 have hk : c.H[k]? = some (.box cells) := hH _ (List.mem_singleton.2 rfl)
 have ht := hX.types t i hi
 have h1 := hr p (by simp [ho, Op.operands])
 rw [hp] at h1
 obtain ⟨hlt, hpos, h1⟩ := h1
 have h2 := hr x (by simp [ho, Op.operands])
 obtain ⟨k1, k2⟩ := AV.cells_reads h2 hl
 obtain ⟨_, cs, T, b1, b2, b3⟩ := hok.obj k _ hk
 let news := (a.eval x).cells.toList
 have hnl : news.length = i.size := by simp [news, k1, hs]
 have hone : ∀ v ∈ news, v.oneCell' = true := by
  intro v hv
  obtain ⟨j, hj⟩ := List.getElem?_of_mem hv
  have hjl : j < l.length := by rw [hs, <- hnl]; exact (List.getElem?_eq_some_iff.1 hj).1
  obtain ⟨y, y1, y2, _⟩ := k2 j l[j] (by simp [hjl])
  have : news[j]? = some y := by simpa [news] using y1
  rw [hj] at this
  exact (Option.some.inj this) ▸ y2
 let cs' := (cs.toList.take (off + 0) ++ news ++ cs.toList.drop (off + 0 + news.length)).toArray
 have hst := run_storeCells_at X.P (c.g k).b off T news 0 cs c.w b1 (by rw [hnl]; omega) hone
 have hcs' : cs'.size = cs.size := by simp only [cs', List.size_toArray, List.length_append, List.length_take, List.length_drop, Array.length_toList]; omega
 refine ⟨⟨upd c.g k (c.g k), c.I, c.w.setRow (c.g k).b cs', c.H.set k (.box (setCells cells off l))⟩, ?_, ?_, rfl⟩
 ·have : ¬ ((a.eval x).cells.size ≠ i.size) := by rw [k1, hs]; simp
  simp [execOp, ho, h1, Instr.storeAt, Instr.sureAddr, storeVar, ht.run_sizeOf, k1, hs]
  simp only [Nat.add_zero, news] at hst
  rw [hst]
  simp [cs', news]
 ·refine Tr.alter hok hk rfl rfl rfl (by simp) (fun b _ hb => setRow_other' (fun e => hb (by simp [blk, e]))) (fun _ => rfl) (Nat.le_refl _) (fun _ => rfl) (fun b hb => .inr (by simpa [blk, upd_same] using hb)) ?_
  refine ⟨by rw [upd_same]; exact hpos, cs', T, by rw [upd_same]; exact setRow_heap c.w _ cs _ T _ b1, by rw [hcs', b2, length_setCells], fun j av hj => ?_⟩
  rw [getElem?_setCells l cells off j (by omega)] at hj
  have mono : ∀ av x, c.Reads av x -> Reads (upd c.g k (c.g k)) c.I (c.w.setRow (c.g k).b cs') av c.H.length x := fun av x hrd => by
   refine Reads.mono' (M := c.H.length) (fun q _ => ?_) (fun b o hI => ⟨hI, ?_⟩) av _ _ x (Nat.le_refl _) (Nat.le_refl _) hrd
   ·by_cases e : q = k
    ·subst e; rw [upd_same]; exact ⟨fun _ => rfl, Nat.le_refl _, fun _ => rfl⟩
    ·rw [upd_other e]; exact ⟨fun _ => rfl, Nat.le_refl _, fun _ => rfl⟩
   ·exact cell_of_block (setRow_other' fun e => hok.immApart b o k _ hI hk (by simp [blk, e]))
  have hget : ∀ j, cs'[j]? = if off <= j /\ j < off + news.length then news[j - off]? else cs.toList[j]? := by
   intro j
   simp only [cs', List.getElem?_toArray, Nat.add_zero, List.append_assoc]
   by_cases h1 : j < off
   ·rw [if_neg (by omega), List.getElem?_append_left (by simp; omega), List.getElem?_take_of_lt h1]
   ·rw [List.getElem?_append_right (by simp; omega)]
    have e1 : j - (cs.toList.take off).length = j - off := by simp; omega
    rw [e1]
    by_cases h2 : j < off + news.length
    ·rw [if_pos (by omega), List.getElem?_append_left (by omega)]
    ·rw [if_neg (by omega), List.getElem?_append_right (by omega), List.getElem?_drop]
     congr 1
     omega
  by_cases hin : off <= j /\ j < off + l.length
  ·rw [if_pos hin] at hj
   obtain ⟨y, y1, y2, y3⟩ := k2 (j - off) av hj
   exact ⟨y, by rw [hget, if_pos (by omega)]; simpa [news] using y1, y2, mono av y y3⟩
  ·rw [if_neg hin] at hj
   obtain ⟨y, y1, y2, y3⟩ := b3 j av hj
   exact ⟨y, by rw [hget, if_neg (by omega)]; simpa using y1, y2, mono av y y3⟩
def TI.fieldAt (i : TI) (n : Nat) : Option (Nat × TypeId) := match i.kind with | .struct fs => fs[n]? | _ => none
theorem fieldAt_spec {t : TypeId} {i : TI} {n off : Nat} {ft : TypeId} (ht : TIok X.P t i) (h : i.fieldAt n = some (off, ft)) :
  ∃ F f, X.P.underlying t = some (.struct F) /\ F[n]? = some f /\ f.offset = off /\ f.type = ft := by
 obtain ⟨d, hd, hf⟩ := ht.desc
 unfold TI.fieldAt at h
 cases hk : i.kind <;> rw [hk] at h hf <;> first | (cases h; done) | skip
 obtain ⟨F, rfl, hF⟩ := hf
 rw [<- hF] at h
 simp only [List.getElem?_map, Option.map_eq_some_iff, Prod.mk.injEq] at h
 obtain ⟨f, h1, h2, h3⟩ := h
 exact ⟨F, f, hd, by simpa using h1, h2, h3⟩
theorem run_fieldAt (hX : X.Good) {s : TypeId} {i fi : TI} {n off : Nat} {ft : TypeId} (hi : X.T s = some i) (hf : i.fieldAt n = some (off, ft)) (hfi : X.T ft = some fi) (hz : 0 < fi.size) (b p : Nat) (w : World) :
  (Instr.fieldAt s (.pointer (some ⟨b, p, none⟩)) n).run X.P w = .ok (.pointer (some ⟨b, p + off, none⟩)) w := by
 obtain ⟨F, f, h1, h2, h3, h4⟩ := fieldAt_spec (hX.types s i hi) hf
 subst h3; subst h4
 have hsz := (hX.types f.type fi hfi).run_sizeOf
 simp only [Instr.fieldAt, Sem.run_bind, run_underlying h1, Result.andThen_ok, h2, Instr.sureAddr, Sem.run_pure, fieldPlace, hsz, Addr.add_lit]
 rw [if_neg (by omega)]
 simp
theorem step_fieldAddr_box (hX : X.Good) {s : TypeId} {i fi : TI} {x : Operand} {n off k p : Nat} {ft : TypeId} (ho : o.op = .fieldAddr s x n) (hx : ρ x = .ptr k p) (hi : X.T s = some i)
  (hf : i.fieldAt n = some (off, ft)) (hfi : X.T ft = some fi) (hz : 0 < fi.size) : StepOK X o ρ [] (.ptr k (p + off)) [] := .plain fun c a hok _ hH hr => by
 have h1 := hr x (by simp [ho, Op.operands])
 rw [hx] at h1
 obtain ⟨hlt, hpos, h1⟩ := h1
 exact ⟨_, by simp [execOp, ho, h1, run_fieldAt hX hi hf hfi hz], hlt, hpos, rfl⟩
theorem step_fieldAddr_ip (hX : X.Good) {s : TypeId} {i fi : TI} {x : Operand} {n off m p : Nat} {f : Nat -> AV} {ft : TypeId} (ho : o.op = .fieldAddr s x n) (hx : ρ x = .ip m f p) (hi : X.T s = some i)
  (hf : i.fieldAt n = some (off, ft)) (hfi : X.T ft = some fi) (hz : 0 < fi.size) : StepOK X o ρ [] (.ip m f (p + off)) [] := .plain fun c a hok _ hH hr => by
 have h1 := hr x (by simp [ho, Op.operands])
 rw [hx] at h1
 obtain ⟨b, q, h1, h2⟩ := h1
 refine ⟨_, by simp only [execOp, ho, h1, Sem.run_bind, run_fieldAt hX hi hf hfi hz]; rfl, b, q, by rw [Nat.add_assoc], h2⟩
theorem step_field (hX : X.Good) {s : TypeId} {i fi : TI} {x : Operand} {n off m : Nat} {f : Nat -> AV} {ft : TypeId} (ho : o.op = .field s x n) (hx : ρ x = .agg m f) (hi : X.T s = some i)
  (hf : i.fieldAt n = some (off, ft)) (hfi : X.T ft = some fi) (hn : off + fi.size <= m) : StepOK X o ρ [] (partAV fi f off) [] := .plain fun c a hok _ hH hr => by
 have h1 := hr x (by simp [ho, Op.operands])
 rw [hx] at h1
 obtain ⟨cs, h1, h2, h3⟩ := h1
 obtain ⟨F, fd, k1, k2, k3, k4⟩ := fieldAt_spec (hX.types s i hi) hf
 subst k3; subst k4
 have ht := hX.types _ fi hfi
 let xs := (cs.toList.drop fd.offset).take fi.size
 have hxs : xs.length = fi.size := by simp [xs]; omega
 have hc : ∀ (j : Nat) v, xs[j]? = some v -> cs[fd.offset + j]? = some v := fun j v hj => by
  simp only [xs, List.getElem?_take, List.getElem?_drop] at hj
  split at hj
  ·simpa using hj
  ·cases hj
 refine ⟨fi.value xs, by simp [execOp, ho, h1, Instr.field, run_underlying k1, k2, asAgg, ht.run_part _ hxs hc], partAV_reads ht.one hxs fun j hj => ?_⟩
 obtain ⟨y, y1, y2, y3⟩ := h3 (fd.offset + j) (by omega)
 exact ⟨y, by simp only [xs, List.getElem?_take, List.getElem?_drop, hj, if_true]; simpa using y1, y2, y3⟩
end
end Go.Fx
/-
 Operations on slices, arrays and strings, read symbolically; calls of functions that touch no owned block.
-/
namespace Go.Fx
open Go.RowKit
theorem Tr.imm {c : Cfg} (hok : c.Ok) {w' : World} {I' : Nat -> Nat -> Prop} (h1 : w'.os = c.w.os) (h2 : w'.tape = c.w.tape) (h3 : w'.output = c.w.output)
  (hsize : c.w.heap.size <= w'.heap.size) (hblock : ∀ b, b < c.w.heap.size -> w'.heap[b]? = c.w.heap[b]?)
  (hI : ∀ b o, c.I b o -> I' b o) (hnew : ∀ b o, I' b o -> c.I b o \/ (c.w.heap.size <= b /\ b < w'.heap.size)) : Tr c ⟨c.g, I', w', c.H⟩ := by
 have hcell : ∀ b o, c.I b o -> I' b o /\ w'.cell? ⟨b, o, none⟩ = c.w.cell? ⟨b, o, none⟩ := fun b o h => ⟨hI b o h, cell_of_block (hblock b (hok.imm b o h))⟩
 have hpl : ∀ i, i < c.H.length -> (0 < (c.g i).ver -> (c.g i).b = (c.g i).b) /\ (c.g i).ver <= (c.g i).ver /\ ((c.g i).ver = (c.g i).ver -> (c.g i).v = (c.g i).v) := fun _ _ => ⟨fun _ => rfl, Nat.le_refl _, fun _ => rfl⟩
 refine ⟨⟨?_, hok.apart, ?_, ?_, ?_⟩, Nat.le_refl _, hpl, hcell, ?_, fun b h => .inr h, h1, h2, h3, hsize, fun b hb _ => hblock b hb⟩
 ·exact fun k o hk => Holds.mono hpl hcell (Nat.le_refl _) rfl (fun b hb => hblock b (hok.old k o b hk hb)) (hok.obj k o hk)
 ·intro k o b hk hb
  have := hok.old k o b hk hb
  show b < w'.heap.size
  omega
 ·intro b o h
  show b < w'.heap.size
  rcases hnew b o h with h | h
  ·have := hok.imm b o h; omega
  ·exact h.2
 ·intro b o k ob h hk hb
  rcases hnew b o h with h | h
  ·exact hok.immApart b o k ob h hk hb
  ·have := hok.old k ob b hk hb; omega
 ·intro b o h
  rcases hnew b o h with h | h
  ·exact .inl h
  ·exact .inr (.inl h.1)
theorem Reads.zero {g g' : Nat -> GO} {I : Nat -> Nat -> Prop} {w : World} {av : AV} {m : Nat} {v : Value} (h : Reads g I w av 0 v) : Reads g' I w av m v :=
 Reads.mono' (M := 0) (fun k hk => absurd hk (by omega)) (fun b o h => ⟨h, rfl⟩) av 0 m v (by omega) (by omega) h
section
variable {X : Ctx} {o : Oper} {ρ : Operand -> AV}
theorem run_enter {P : Program} {f : FuncId} (h : Enters P f) (args : Array Value) (w : World) : (callFunc f args).run P w = .ok (.enter f args) w := by
 obtain ⟨fn, h1, h2, h3⟩ := h
 have h4 : fn.body.isNone = false := by cases hb : fn.body <;> simp [hb] at h3 ⊢
 unfold callFunc
 simp only [Sem.run_bind, run_program, Result.andThen_ok, h1, h2, h4, Bool.false_eq_true, if_false, Sem.run_pure]
def callArgs (ρ : Operand -> AV) (args : Array Operand) (n : Nat) (caps : Nat -> AV) : List AV := args.toList.map ρ ++ (List.range n).map caps
theorem run_call {c : Cfg} {a : Act} {P : Program} {cl : Call} {f : FuncId} {n : Nat} {caps : Nat -> AV} {F : Operand} (hcl : cl.callee = .value F) (hF : ρ F = .fn f n caps) (hent : Enters P f) (ty : TypeId)
  (hr : ∀ x ∈ cl.operands.toList, c.Reads (ρ x) (a.eval x)) (w : World) :
  ∃ cargs : Array Value, (do let d <- resolve a.eval cl ty; invoke d.target d.args).run P w = .ok (.enter f cargs) w /\ cargs.size = (callArgs ρ cl.args n caps).length /\
   ∀ (j : Nat) av, (callArgs ρ cl.args n caps)[j]? = some av -> ∃ v, cargs[j]? = some v /\ c.Reads av v := by
 have h1 := hr F (by simp [Call.operands, hcl])
 rw [hF] at h1
 obtain ⟨cs, h1, h2, h3⟩ := h1
 refine ⟨cl.args.map a.eval ++ cs, ?_, by simp [callArgs, h2], fun j av hj => ?_⟩
 ·simp [resolve, hcl, h1, Deferred.ofValue, invoke, run_enter hent]
 ·simp only [callArgs] at hj
  by_cases hlt : j < cl.args.size
  ·rw [List.getElem?_append_left (by simpa using hlt)] at hj
   simp only [List.getElem?_map, Option.map_eq_some_iff] at hj
   obtain ⟨x, hx, rfl⟩ := hj
   have hm : x ∈ cl.operands.toList := by
    have := List.mem_of_getElem? hx
    simp only [Call.operands, Array.toList_append, List.mem_append]
    exact .inr this
   refine ⟨a.eval x, ?_, hr x hm⟩
   rw [Array.getElem?_append_left (by simpa using hlt)]
   simp only [Array.getElem?_map]
   rw [show cl.args[j]? = some x by simpa using hx]
   rfl
  ·rw [List.getElem?_append_right (by simpa using Nat.le_of_not_lt hlt)] at hj
   simp only [List.length_map, Array.length_toList, List.getElem?_map, Option.map_eq_some_iff] at hj
   obtain ⟨q, hq, rfl⟩ := hj
   rw [List.getElem?_eq_some_iff] at hq
   obtain ⟨hq1, hq2⟩ := hq
   simp at hq1 hq2
   subst hq2
   obtain ⟨x, k1, k2⟩ := h3 (j - cl.args.size) hq1
   exact ⟨x, by rw [Array.getElem?_append_right (by simpa using Nat.le_of_not_lt hlt)]; simpa using k1, k2⟩
theorem step_pure {cl : Call} {f : FuncId} {n : Nat} {caps : Nat -> AV} {F : Operand} {as : List AV} {r : AV} (ho : o.op = .call cl) (hcl : cl.callee = .value F) (hF : ρ F = .fn f n caps)
  (hlen : as.length = (callArgs ρ cl.args n caps).length)
  (has : ∀ (c : Cfg), c.Ok -> Base X c -> ∀ (j : Nat) av av', (callArgs ρ cl.args n caps)[j]? = some av -> as[j]? = some av' -> ∀ v, c.Reads av v -> Reads c.g c.I c.w av' 0 v)
  (hcall : Pure X f as r) : StepOK X o ρ [] r [] := by
 intro c a K Q hok hb hH hr hk
 obtain ⟨cargs, h1, h2, h3⟩ := run_call (c := c) (a := a) (P := X.P) hcl hF hcall.1 o.type (by simpa [ho, Op.operands] using hr) c.w
 intro ρ'
 refine wpIn_enter ρ' (by unfold execOp; simp only [ho]; exact h1) ?_
 let cc : Cfg := ⟨c.g, c.I, c.w, []⟩
 have hccok : cc.Ok := ⟨fun k o h => by simp [cc] at h, fun i j oi oj b h => by simp [cc] at h, fun k o b h => by simp [cc] at h, hok.imm, fun b o k ob _ h => by simp [cc] at h⟩
 have hccb : Base X cc := ⟨hb.below, hb.imm, fun b ⟨k, o, h, _⟩ => by simp [cc] at h⟩
 have hown : ∀ b, ¬ cc.Owns b := fun b ⟨k, o, h, _⟩ => by simp [cc] at h
 refine (hcall.2 cc cargs hccok hccb rfl (by omega) fun j av hj => ?_).mono ?_
 ·have hlt : j < (callArgs ρ cl.args n caps).length := by rw [<- hlen]; exact (List.getElem?_eq_some_iff.1 hj).1
  obtain ⟨v, k1, k2⟩ := h3 j _ (List.getElem?_eq_getElem hlt)
  exact ⟨v, k1, has c hok hb j _ av (List.getElem?_eq_getElem hlt) hj v k2⟩
 ·rintro e w' ⟨v, cc', rfl, rfl, htr, hH', hread⟩
  have t := Tr.imm (c := c) hok (w' := cc'.w) (I' := cc'.I) htr.os htr.tape htr.output htr.size (fun b hb => htr.block b hb (hown b)) (fun b o h => (htr.keep b o h).1) (fun b o h => by
   rcases htr.new b o h with h1 | h1 | h1
   ·exact .inl h1
   ·exact .inr ⟨h1, htr.ok.imm b o h⟩
   ·exact absurd h1 (hown b))
  refine hk ⟨c.g, cc'.I, cc'.w, c.H⟩ v t rfl ?_
  have : Reads cc'.g cc'.I cc'.w r cc'.H.length v := hread
  rw [hH'] at this
  exact Reads.zero this
def AV.flat : AV -> Bool
 | .agg n f => (List.range n).all fun j => (f j).flat
 | .tup n f => (List.range n).all fun j => (f j).flat
 | .int _ _ | .bool _ | .str _ | .slc0 | .ifc | .val _ | .any => true
 | _ => false
theorem AV.flat_reads {g g' : Nat -> GO} {I I' : Nat -> Nat -> Prop} {w w' : World} : ∀ (av : AV) (m m' : Nat) (c : Value), av.flat = true -> Reads g I w av m c -> Reads g' I' w' av m' c := by
 intro av
 induction av with
 | agg n f ih =>
  intro m m' c hf ⟨cs, h1, h2, h⟩
  simp only [AV.flat, List.all_eq_true, List.mem_range] at hf
  exact ⟨cs, h1, h2, fun j hj => let ⟨x, k1, k2, k3⟩ := h j hj; ⟨x, k1, k2, ih j m m' x (hf j hj) k3⟩⟩
 | tup n f ih =>
  intro m m' c hf ⟨cs, h1, h2, h⟩
  simp only [AV.flat, List.all_eq_true, List.mem_range] at hf
  exact ⟨cs, h1, h2, fun j hj => let ⟨x, k1, k3⟩ := h j hj; ⟨x, k1, ih j m m' x (hf j hj) k3⟩⟩
 | int k n => intro m m' c _ h; exact h
 | bool b => intro m m' c _ h; exact h
 | str s => intro m m' c _ h; exact h
 | slc0 => intro m m' c _ h; exact h
 | ifc => intro m m' c _ h; exact h
 | val v => intro m m' c _ h; exact h
 | any => intro m m' c _ h; exact h
 | yld k => intro m m' c hf; cases hf
 | ptr k off => intro m m' c hf; cases hf
 | lptr k ver es i off => intro m m' c hf; cases hf
 | own k ver => intro m m' c hf; cases hf
 | ip n f off ih => intro m m' c hf; cases hf
 | slc es n f ih => intro m m' c hf; cases hf
 | fn f n caps ih => intro m m' c hf; cases hf
def Cfg.all (c : Cfg) : Nat -> Nat -> Prop := fun b o => c.I b o \/ c.Owns b
theorem step_lend {need : List (Nat × HObj)} {cl : Call} {f : FuncId} {n : Nat} {caps : Nat -> AV} {F : Operand} {as : List AV} {r : AV} (ho : o.op = .call cl) (hcl : cl.callee = .value F) (hF : ρ F = .fn f n caps)
  (hlen : as.length = (callArgs ρ cl.args n caps).length) (hflat : r.flat = true)
  (has : ∀ (c : Cfg), c.Ok -> Base X c -> (∀ x ∈ need, c.H[x.1]? = some x.2) -> ∀ (j : Nat) av av', (callArgs ρ cl.args n caps)[j]? = some av -> as[j]? = some av' -> ∀ v, c.Reads av v -> Reads c.g c.all c.w av' 0 v)
  (hcall : Pure X f as r) : StepOK X o ρ need r [] := by
 intro c a K Q hok hb hH hr hk
 obtain ⟨cargs, h1, h2, h3⟩ := run_call (c := c) (a := a) (P := X.P) hcl hF hcall.1 o.type (by simpa [ho, Op.operands] using hr) c.w
 intro ρ'
 refine wpIn_enter ρ' (by unfold execOp; simp only [ho]; exact h1) ?_
 let cc : Cfg := ⟨c.g, c.all, c.w, []⟩
 have hccok : cc.Ok := ⟨fun k o h => by simp [cc] at h, fun i j oi oj b h => by simp [cc] at h, fun k o b h => by simp [cc] at h, fun b o h => by
  rcases h with h | ⟨k, ob, h, h'⟩
  ·exact hok.imm b o h
  ·exact hok.old k ob b h h', fun b o k ob _ h => by simp [cc] at h⟩
 have hccb : Base X cc := ⟨hb.below, fun b o h => .inl (hb.imm b o h), fun b ⟨k, o, h, _⟩ => by simp [cc] at h⟩
 have hown : ∀ b, ¬ cc.Owns b := fun b ⟨k, o, h, _⟩ => by simp [cc] at h
 refine (hcall.2 cc cargs hccok hccb rfl (by omega) fun j av hj => ?_).mono ?_
 ·have hlt : j < (callArgs ρ cl.args n caps).length := by rw [<- hlen]; exact (List.getElem?_eq_some_iff.1 hj).1
  obtain ⟨v, k1, k2⟩ := h3 j _ (List.getElem?_eq_getElem hlt)
  exact ⟨v, k1, has c hok hb hH j _ av (List.getElem?_eq_getElem hlt) hj v k2⟩
 ·rintro e w' ⟨v, cc', rfl, rfl, htr, hH', hread⟩
  have t := Tr.imm (c := c) hok (w' := cc'.w) (I' := c.I) htr.os htr.tape htr.output htr.size (fun b hb => htr.block b hb (hown b)) (fun b o h => h) (fun b o h => .inl h)
  exact hk ⟨c.g, c.I, cc'.w, c.H⟩ v t rfl (AV.flat_reads r _ _ v hflat hread)
end
end Go.Fx
/-
 Elements, lengths, parts of slices and strings; the built-ins; structs and arrays put together.
-/
namespace Go.Fx
open Go.RowKit
def byteAt (s : ByteArray) (i : Nat) : Int := ((s.data[i]?.getD 0).toNat : Int)
def TI.elemOf (i : TI) : Option TypeId := match i.kind with | .slice e => some e | _ => none
def TI.arrayOf (i : TI) : Option (Nat × TypeId) := match i.kind with | .array n e => some (n, e) | _ => none
def TI.isString (i : TI) : Bool := match i.kind with | .string => true | _ => false
section
variable {X : Ctx} {o : Oper} {ρ : Operand -> AV}
theorem elemOf_spec {P : Program} {t e : TypeId} {i : TI} (ht : TIok P t i) (h : i.elemOf = some e) : P.underlying t = some (.slice e) := by
 obtain ⟨d, hd, hf⟩ := ht.desc
 unfold TI.elemOf at h
 cases hk : i.kind <;> rw [hk] at h hf <;> first | (cases h; done) | skip
 cases h; rw [hd, show d = _ from hf]
theorem arrayOf_spec {P : Program} {t e : TypeId} {n : Nat} {i : TI} (ht : TIok P t i) (h : i.arrayOf = some (n, e)) : P.underlying t = some (.array n e) := by
 obtain ⟨d, hd, hf⟩ := ht.desc
 unfold TI.arrayOf at h
 cases hk : i.kind <;> rw [hk] at h hf <;> first | (cases h; done) | skip
 cases h; rw [hd, show d = _ from hf]
theorem isString_spec {P : Program} {t : TypeId} {i : TI} (ht : TIok P t i) (h : i.isString = true) : P.underlying t = some .string := by
 obtain ⟨d, hd, hf⟩ := ht.desc
 unfold TI.isString at h
 cases hk : i.kind <;> rw [hk] at h hf <;> first | (cases h; done) | skip
 rw [hd, show d = _ from hf]
theorem step_index (hX : X.Good) {t e : TypeId} {i ei : TI} {x y : Operand} {len m : Nat} {f : Nat -> AV} {k : IntKind} {n : Int} (ho : o.op = .index t x y) (hx : ρ x = .agg m f) (hy : ρ y = .int k n)
  (hi : X.T t = some i) (ha : i.arrayOf = some (len, e)) (he : X.T e = some ei) (hm : len * ei.size <= m) (h0 : 0 <= n) (h1 : n < len) :
  StepOK X o ρ [] (partAV ei f (n.toNat * ei.size)) [] := .plain fun c a hok _ hH hr => by
 have r1 := hr x (by simp [ho, Op.operands])
 have r2 := hr y (by simp [ho, Op.operands])
 rw [hx] at r1; rw [hy] at r2
 have r2 : a.eval y = .int k n := r2
 obtain ⟨cs, r1, q2, q3⟩ := r1
 have hu := arrayOf_spec (hX.types t i hi) ha
 have ht := hX.types e ei he
 have hle : n.toNat * ei.size + ei.size <= m := by
  have : (n.toNat + 1) * ei.size <= len * ei.size := Nat.mul_le_mul_right _ (by omega)
  rw [Nat.add_mul] at this
  omega
 let xs := (cs.toList.drop (n.toNat * ei.size)).take ei.size
 have hxs : xs.length = ei.size := by simp [xs]; omega
 have hc : ∀ (j : Nat) v, xs[j]? = some v -> cs[n.toNat * ei.size + j]? = some v := fun j v hj => by
  simp only [xs, List.getElem?_take, List.getElem?_drop] at hj
  split at hj
  ·simpa using hj
  ·cases hj
 refine ⟨ei.value xs, by simp [execOp, ho, r1, r2, Instr.index, asIntOf, run_underlying hu, h0, h1, ht.run_sizeOf, ht.run_part _ hxs hc], partAV_reads ht.one hxs fun j hj => ?_⟩
 obtain ⟨y, y1, y2, y3⟩ := q3 (n.toNat * ei.size + j) (by omega)
 exact ⟨y, by simp only [xs, List.getElem?_take, List.getElem?_drop, hj, if_true]; simpa using y1, y2, y3⟩
theorem step_index_str (hX : X.Good) {t : TypeId} {i : TI} {x y : Operand} {s : ByteArray} {k : IntKind} {n : Int} (ho : o.op = .index t x y) (hx : ρ x = .str s) (hy : ρ y = .int k n)
  (hi : X.T t = some i) (ha : i.isString = true) (h0 : 0 <= n) (h1 : n < s.size) : StepOK X o ρ [] (.int .u8 (byteAt s n.toNat)) [] := .plain fun c a hok _ hH hr => by
 have r1 := hr x (by simp [ho, Op.operands])
 have r2 := hr y (by simp [ho, Op.operands])
 rw [hx] at r1; rw [hy] at r2
 have r1 : a.eval x = .string s := r1
 have r2 : a.eval y = .int k n := r2
 have hu := isString_spec (hX.types t i hi) ha
 have hlt : n.toNat < s.size := by omega
 have hb : s[n.toNat]? = some (s[n.toNat]'hlt) := by simp [hlt]
 have hv : byteAt s n.toNat = ((s[n.toNat]'hlt).toNat : Int) := by
  unfold byteAt
  have : n.toNat < s.data.size := hlt
  rw [Array.getElem?_eq_getElem this]
  rfl
 refine ⟨.int .u8 (byteAt s n.toNat), ?_, rfl⟩
 simp [execOp, ho, r1, r2, Instr.index, asIntOf, run_underlying hu, h0, hb, hv]
theorem step_indexAddr_slc (hX : X.Good) {t e : TypeId} {i ei : TI} {x y : Operand} {es len : Nat} {f : Nat -> Nat -> AV} {k : IntKind} {n : Int} (ho : o.op = .indexAddr t x y) (hx : ρ x = .slc es len f) (hy : ρ y = .int k n)
  (hi : X.T t = some i) (ha : i.elemOf = some e) (he : X.T e = some ei) (hes : ei.size = es) (h0 : 0 <= n) (h1 : n < len) :
  StepOK X o ρ [] (.ip es (f n.toNat) 0) [] := .plain fun c a hok _ hH hr => by
 subst hes
 have r1 := hr x (by simp [ho, Op.operands])
 have r2 := hr y (by simp [ho, Op.operands])
 rw [hx] at r1; rw [hy] at r2
 have r2 : a.eval y = .int k n := r2
 obtain ⟨ad, cap, r1, q2, q3⟩ := r1
 obtain ⟨b, p, rfl, q4⟩ := q3 (by omega)
 have hu := elemOf_spec (hX.types t i hi) ha
 have ht := hX.types e ei he
 refine ⟨.pointer (some ⟨b, p + n.toNat * ei.size, none⟩), ?_, b, p + n.toNat * ei.size, rfl, fun j hj => ?_⟩
 ·simp [execOp, ho, r1, r2, Instr.indexAt, asIntOf, run_underlying hu, h0, h1, ht.run_sizeOf, Addr.add_lit]
 ·obtain ⟨z1, z2, z3, z4, z5⟩ := q4 n.toNat j (by omega) hj
  rw [Nat.add_assoc]
  exact ⟨z1, z2, z3, z4, Reads.zero z5⟩
theorem step_indexAddr_box (hX : X.Good) {t e : TypeId} {i ei : TI} {x y : Operand} {q off len : Nat} {k : IntKind} {n : Int} (ho : o.op = .indexAddr t x y) (hx : ρ x = .ptr q off) (hy : ρ y = .int k n)
  (hi : X.T t = some i) (ha : i.arrayOf = some (len, e)) (he : X.T e = some ei) (h0 : 0 <= n) (h1 : n < len) :
  StepOK X o ρ [] (.ptr q (off + n.toNat * ei.size)) [] := .plain fun c a hok _ hH hr => by
 have r1 := hr x (by simp [ho, Op.operands])
 have r2 := hr y (by simp [ho, Op.operands])
 rw [hx] at r1; rw [hy] at r2
 have r2 : a.eval y = .int k n := r2
 obtain ⟨hq, hpos, r1⟩ := r1
 have hu := arrayOf_spec (hX.types t i hi) ha
 have ht := hX.types e ei he
 refine ⟨.pointer (some ⟨(c.g q).b, off + n.toNat * ei.size, none⟩), ?_, hq, hpos, rfl⟩
 simp [execOp, ho, r1, r2, Instr.indexAt, asIntOf, run_underlying hu, Instr.sureAddr, h0, h1, ht.run_sizeOf, Addr.add_lit]
theorem step_indexAddr_ip (hX : X.Good) {t e : TypeId} {i ei : TI} {x y : Operand} {m off len : Nat} {f : Nat -> AV} {k : IntKind} {n : Int} (ho : o.op = .indexAddr t x y) (hx : ρ x = .ip m f off) (hy : ρ y = .int k n)
  (hi : X.T t = some i) (ha : i.arrayOf = some (len, e)) (he : X.T e = some ei) (hm : off + len * ei.size <= m) (h0 : 0 <= n) (h1 : n < len) :
  StepOK X o ρ [] (.ip ei.size (fun j => f (off + (n.toNat * ei.size + j))) 0) [] := .plain fun c a hok _ hH hr => by
 have r1 := hr x (by simp [ho, Op.operands])
 have r2 := hr y (by simp [ho, Op.operands])
 rw [hx] at r1; rw [hy] at r2
 have r2 : a.eval y = .int k n := r2
 obtain ⟨b, p, r1, q2⟩ := r1
 have hu := arrayOf_spec (hX.types t i hi) ha
 have ht := hX.types e ei he
 have hle : n.toNat * ei.size + ei.size <= len * ei.size := by
  have : (n.toNat + 1) * ei.size <= len * ei.size := Nat.mul_le_mul_right _ (by omega)
  rwa [Nat.add_mul, Nat.one_mul] at this
 refine ⟨.pointer (some ⟨b, p + off + n.toNat * ei.size, none⟩), ?_, b, p + off + n.toNat * ei.size, rfl, fun j hj => ?_⟩
 ·simp [execOp, ho, r1, r2, Instr.indexAt, asIntOf, run_underlying hu, Instr.sureAddr, h0, h1, ht.run_sizeOf, Addr.add_lit]
 ·have := q2 (off + (n.toNat * ei.size + j)) (by omega)
  rw [show p + off + n.toNat * ei.size + j = p + (off + (n.toNat * ei.size + j)) by omega]
  exact this
def lenAV (H : List HObj) : AV -> Option Nat
 | .str s => some s.size
 | .slc _ n _ => some n
 | .slc0 => some 0
 | .own k ver => match H[k]? with | some (.list _ _ n _ ver') => bif Nat.beq ver ver' then some n else none | _ => none
 | _ => none
theorem own_slice {c : Cfg} (hok : c.Ok) {k ver e es n : Nat} {f : Nat -> Nat -> AV} (hk : c.H[k]? = some (.list e es n f ver)) :
  ∃ xs, OwnsL c.w e es (c.g k).v n xs /\ xs.length = n * es /\ (∀ x ∈ xs, x.oneCell' = true) /\ (∃ ad cap, (c.g k).v = .slice ad n cap /\ n <= cap /\ (0 < n -> ∃ b, ad = some ⟨b, 0, none⟩ /\ vblk (c.g k).v = some b)) /\
   (∀ i j, i < n -> j < es -> ∃ x, xs[i * es + j]? = some x /\ Reads c.g c.I c.w (f i j) 0 x) /\
   (∀ b, vblk (c.g k).v = some b -> ∀ (j : Nat) x, xs[j]? = some x -> c.w.cell? ⟨b, j, none⟩ = some x) := by
 obtain ⟨h1, _, xs, h2, h3, h4⟩ := hok.obj k _ hk
 refine ⟨xs, h2, ?_, h3, ?_, h4, ?_⟩
 ·rcases h2 with ⟨rfl, rfl, _⟩ | ⟨b, cap, cur, hv, hc, hh, hn, hcm, hcs, hxs⟩
  ·simp
  ·rw [<- hxs, List.length_take, Array.length_toList, hcs]
   exact Nat.min_eq_left (Nat.mul_le_mul_right _ hn)
 ·rcases h2 with ⟨rfl, rfl, a, hv⟩ | ⟨b, cap, cur, hv, hc, hh, hn, _⟩
  ·exact ⟨a, 0, hv, Nat.le_refl _, fun h => by omega⟩
  ·refine ⟨_, cap, hv, hn, fun _ => ⟨b, rfl, ?_⟩⟩
   rw [hv]
   obtain ⟨c1, rfl⟩ : ∃ c1, cap = c1 + 1 := ⟨cap - 1, by omega⟩
   rfl
 ·intro b hb j x hj
  rcases h2 with ⟨rfl, rfl, a, hv⟩ | ⟨b', cap, cur, hv, hc, hh, hn, hcm, hcs, hxs⟩
  ·simp at hj
  ·rw [hv] at hb
   obtain ⟨c1, rfl⟩ : ∃ c1, cap = c1 + 1 := ⟨cap - 1, by omega⟩
   simp only [vblk, Option.some.injEq] at hb
   subst hb
   obtain ⟨mk, hh, _⟩ := hh
   rw [cell_of_row c.w _ _ cur e _ hh]
   rw [<- hxs, List.getElem?_take] at hj
   split at hj
   ·simpa using hj
   ·cases hj
theorem own_now {c : Cfg} (hok : c.Ok) {k ver e es n : Nat} {f : Nat -> Nat -> AV} (hk : c.H[k]? = some (.list e es n f ver)) {v : Value} (h : c.Reads (.own k ver) v) : v = (c.g k).v :=
 h.2.2.2 (hok.obj k _ hk).1
theorem step_len (hX : X.Good) {H : List HObj} {need : List (Nat × HObj)} {t : TypeId} {i : TI} {x : Operand} {cl : Call} {n : Nat} (ho : o.op = .call cl) (hcl : cl.callee = .builtin .len) (hargs : cl.args = #[x]) (htys : cl.argTypes = #[t])
  (hi : X.T t = some i) (hki : (i.isString || i.elemOf.isSome) = true) (hx : lenAV H (ρ x) = some n) (hstr : i.isString = true -> ∃ s, ρ x = .str s) (hsl : i.isString = false -> ∀ s, ρ x ≠ .str s)
  (hneed : ∀ k ver, ρ x = .own k ver -> ∃ o, H[k]? = some o /\ (k, o) ∈ need) : StepOK X o ρ need (.int .i64 n) [] := .plain fun c a hok _ hH hr => by
 have r1 := hr x (by simp [ho, Op.operands, Call.operands, hcl, hargs])
 refine ⟨.int .i64 n, ?_, rfl⟩
 have ht := hX.types t i hi
 cases hs : i.isString with
 | true =>
  obtain ⟨s, hs'⟩ := hstr hs
  rw [hs'] at r1 hx
  have r1 : a.eval x = .string s := r1
  simp only [lenAV, Option.some.injEq] at hx
  subst hx
  simp [execOp, ho, resolve, hcl, hargs, htys, invoke, builtin, r1, Builtin.len_, run_underlying (isString_spec ht hs), goInt]
 | false =>
  simp only [hs, Bool.false_or, Option.isSome_iff_exists] at hki
  obtain ⟨e, he⟩ := hki
  have hu := elemOf_spec ht he
  have hv : ∃ ad cap, a.eval x = .slice ad n cap := by
   cases hρ : ρ x <;> rw [hρ] at hx r1 <;> simp only [lenAV] at hx <;> first | (cases hx; done) | skip
   ·exact absurd hρ (hsl hs _)
   ·obtain ⟨ad, cap, r1, _⟩ := r1
    cases hx
    exact ⟨ad, cap, r1⟩
   ·obtain ⟨ad, r1⟩ := r1
    cases hx
    exact ⟨ad, 0, r1⟩
   ·rename_i k ver
    obtain ⟨ob, hob1, hob2⟩ := hneed k ver hρ
    split at hx
    ·rename_i e es n' f ver' hk
     rw [hob1] at hk
     cases hk
     have hk := hH _ hob2
     have hbeq : Nat.beq ver ver' = true := by
      cases hb : Nat.beq ver ver' with
      | true => rfl
      | false => rw [hb] at hx; cases hx
     rw [hbeq] at hx
     cases hx
     obtain rfl := Nat.eq_of_beq_eq_true hbeq
     simp only at hk
     obtain ⟨_, _, _, _, ⟨ad, cap, hv, _⟩, _⟩ := own_slice hok hk
     exact ⟨ad, cap, by rw [own_now hok hk r1, hv]⟩
    ·cases hx
  obtain ⟨ad, cap, hv⟩ := hv
  simp [execOp, ho, resolve, hcl, hargs, htys, invoke, builtin, hv, Builtin.len_, run_underlying hu, goInt]
theorem step_min {x y : Operand} {cl : Call} {k : IntKind} {n m : Int} (ho : o.op = .call cl) (hcl : cl.callee = .builtin .min) (hargs : cl.args = #[x, y]) (hx : ρ x = .int k n) (hy : ρ y = .int k m) :
  StepOK X o ρ [] (.int k (min n m)) [] := .plain fun c a hok _ hH hr => by
 have r1 := hr x (by simp [ho, Op.operands, Call.operands, hcl, hargs])
 have r2 := hr y (by simp [ho, Op.operands, Call.operands, hcl, hargs])
 rw [hx] at r1; rw [hy] at r2
 have r1 : a.eval x = .int k n := r1
 have r2 : a.eval y = .int k m := r2
 refine ⟨_, ?_, rfl⟩
 simp [execOp, ho, resolve, hcl, hargs, invoke, builtin, r1, r2, Builtin.min_, Builtin.min2]
 split <;> omega
theorem step_max {x y : Operand} {cl : Call} {k : IntKind} {n m : Int} (ho : o.op = .call cl) (hcl : cl.callee = .builtin .max) (hargs : cl.args = #[x, y]) (hx : ρ x = .int k n) (hy : ρ y = .int k m) :
  StepOK X o ρ [] (.int k (max n m)) [] := .plain fun c a hok _ hH hr => by
 have r1 := hr x (by simp [ho, Op.operands, Call.operands, hcl, hargs])
 have r2 := hr y (by simp [ho, Op.operands, Call.operands, hcl, hargs])
 rw [hx] at r1; rw [hy] at r2
 have r1 : a.eval x = .int k n := r1
 have r2 : a.eval y = .int k m := r2
 refine ⟨_, ?_, rfl⟩
 simp [execOp, ho, resolve, hcl, hargs, invoke, builtin, r1, r2, Builtin.max_, Builtin.max2]
 split <;> omega
def boundAV (ρ : Operand -> AV) (d : Int) : Option Operand -> Option Int
 | none => some d
 | some x => match ρ x with | .int _ n => some n | _ => none
theorem run_bound {c : Cfg} {a : Act} {P : Program} {w : World} {x : Operand} {k : IntKind} {n : Int} {y : Nat} {code : BoundsCode} (hx : a.eval x = .int k n) (h0 : 0 <= n) (h1 : n <= y) :
  (Instr.sliceBound (a.eval x) y code).run P w = .ok n.toNat w := by
 simp [Instr.sliceBound, hx, asIntOf, h0, h1]
theorem step_slice_slc (hX : X.Good) {t e : TypeId} {i ei : TI} {x : Operand} {lo hi : Option Operand} {es len : Nat} {f : Nat -> Nat -> AV} {l h : Int} (ho : o.op = .slice t x lo hi none) (hx : ρ x = .slc es len f)
  (hi' : X.T t = some i) (ha : i.elemOf = some e) (he : X.T e = some ei) (hes : ei.size = es) (hlo : boundAV ρ 0 lo = some l) (hhi : boundAV ρ len hi = some h) (h0 : 0 <= l) (h1 : l <= h) (h2 : h <= len) :
  StepOK X o ρ [] (.slc es (h.toNat - l.toNat) (fun q j => f (l.toNat + q) j)) [] := .plain fun c a hok _ hH hr => by
 subst hes
 have r1 := hr x (by simp [ho, Op.operands])
 rw [hx] at r1
 obtain ⟨ad, cap, r1, q2, q3⟩ := r1
 have hu := elemOf_spec (hX.types t i hi') ha
 have ht := hX.types e ei he
 have hl' : ∀ code, (match lo.map a.eval with | some v => Instr.sliceBound v h.toNat code | none => (pure 0 : Sem Nat)).run X.P c.w = .ok l.toNat c.w := by
  intro code
  cases lo with
  | none => cases hlo; rfl
  | some y =>
   have r3 := hr y (by simp [ho, Op.operands])
   simp only [boundAV] at hlo
   split at hlo
   ·rename_i k n hρ
    cases hlo
    rw [hρ] at r3
    have r3 : a.eval y = .int k _ := r3
    exact run_bound (c := c) r3 h0 (by omega)
   ·cases hlo
 have hh' : ∀ code, (match hi.map a.eval with | some v => Instr.sliceBound v cap code | none => (pure len : Sem Nat)).run X.P c.w = .ok h.toNat c.w := by
  intro code
  cases hi with
  | none => cases hhi; simp
  | some y =>
   have r3 := hr y (by simp [ho, Op.operands])
   simp only [boundAV] at hhi
   split at hhi
   ·rename_i k n hρ
    cases hhi
    rw [hρ] at r3
    have r3 : a.eval y = .int k _ := r3
    exact run_bound (c := c) r3 (by omega) (by omega)
   ·cases hhi
 have hb : (Instr.sliceBounds true len cap (lo.map a.eval) (hi.map a.eval) none).run X.P c.w = .ok (l.toNat, h.toNat, cap) c.w := by
  have e1 := hl' .sliceB
  have e2 := hh' .sliceAcap
  unfold Instr.sliceBounds
  cases hhm : hi.map a.eval <;> cases hlm : lo.map a.eval <;> rw [hhm] at e2 <;> rw [hlm] at e1 <;> simp at e1 e2 <;> simp [e1, e2]
 refine ⟨.slice (if cap = l.toNat then ad else ad.map (·.add (l.toNat * ei.size))) (h.toNat - l.toNat) (cap - l.toNat), ?_, _, _, rfl, by omega, fun hpos => ?_⟩
 ·simp only [execOp, ho, Sem.run_bind, Instr.sliceAt, run_underlying hu, Result.andThen_ok, Instr.slice, r1, Option.map_none]
  simp [hb, ht.run_sizeOf]
 ·obtain ⟨b, p, rfl, q4⟩ := q3 (by omega)
  rw [if_neg (by omega)]
  refine ⟨b, p + l.toNat * ei.size, by simp [Addr.add_lit], fun q j hq hj => ?_⟩
  have := q4 (l.toNat + q) j (by omega) hj
  rw [show p + l.toNat * ei.size + (q * ei.size + j) = p + ((l.toNat + q) * ei.size + j) by rw [Nat.add_mul]; omega]
  exact this
theorem step_slice_str (hX : X.Good) {t : TypeId} {i : TI} {x : Operand} {lo hi : Option Operand} {s : ByteArray} {l h : Int} (ho : o.op = .slice t x lo hi none) (hx : ρ x = .str s)
  (hi' : X.T t = some i) (ha : i.isString = true) (hlo : boundAV ρ 0 lo = some l) (hhi : boundAV ρ s.size hi = some h) (h0 : 0 <= l) (h1 : l <= h) (h2 : h <= s.size) :
  StepOK X o ρ [] (.str (s.extract l.toNat h.toNat)) [] := .plain fun c a hok _ hH hr => by
 have r1 := hr x (by simp [ho, Op.operands])
 rw [hx] at r1
 have r1 : a.eval x = .string s := r1
 have hu := isString_spec (hX.types t i hi') ha
 have hl' : ∀ code, (match lo.map a.eval with | some v => Instr.sliceBound v h.toNat code | none => (pure 0 : Sem Nat)).run X.P c.w = .ok l.toNat c.w := by
  intro code
  cases lo with
  | none => cases hlo; rfl
  | some y =>
   have r3 := hr y (by simp [ho, Op.operands])
   simp only [boundAV] at hlo
   split at hlo
   ·rename_i k n hρ
    cases hlo
    rw [hρ] at r3
    have r3 : a.eval y = .int k _ := r3
    exact run_bound (c := c) r3 h0 (by omega)
   ·cases hlo
 have hh' : ∀ code, (match hi.map a.eval with | some v => Instr.sliceBound v s.size code | none => (pure s.size : Sem Nat)).run X.P c.w = .ok h.toNat c.w := by
  intro code
  cases hi with
  | none => cases hhi; simp
  | some y =>
   have r3 := hr y (by simp [ho, Op.operands])
   simp only [boundAV] at hhi
   split at hhi
   ·rename_i k n hρ
    cases hhi
    rw [hρ] at r3
    have r3 : a.eval y = .int k _ := r3
    exact run_bound (c := c) r3 (by omega) (by omega)
   ·cases hhi
 have hb : (Instr.sliceBounds false s.size s.size (lo.map a.eval) (hi.map a.eval) none).run X.P c.w = .ok (l.toNat, h.toNat, s.size) c.w := by
  have e1 := hl' .sliceB
  have e2 := hh' .sliceAlen
  unfold Instr.sliceBounds
  cases hhm : hi.map a.eval <;> cases hlm : lo.map a.eval <;> rw [hhm] at e2 <;> rw [hlm] at e1 <;> simp at e1 e2 <;> simp [e1, e2]
 refine ⟨.string (s.extract l.toNat h.toNat), ?_, rfl⟩
 simp only [execOp, ho, Sem.run_bind, Instr.sliceAt, run_underlying hu, Result.andThen_ok, Instr.slice, r1, Option.map_none]
 simp [hb]
theorem beq_toList (a b : ByteArray) : (a.toList == b.toList) = decide (a = b) := by
 rw [Bool.eq_iff_iff]
 simp only [beq_iff_eq, decide_eq_true_eq]
 constructor
 ·intro h
  rw [ByteArray.toList_eq, ByteArray.toList_eq] at h
  cases a; cases b
  simp only [ByteArray.mk.injEq]
  exact Array.toList_inj.1 h
 ·rintro rfl; rfl
theorem step_concat {t u : TypeId} {x y : Operand} {p q : ByteArray} (ho : o.op = .binOp .add t x y u) (hx : ρ x = .str p) (hy : ρ y = .str q) (hlen : p.size + q.size <= 9223372036854775807) :
  StepOK X o ρ [] (.str (p ++ q)) [] := .plain fun c a _ _ _ hr => by
 have h1 := hr x (by simp [ho, Op.operands])
 have h2 := hr y (by simp [ho, Op.operands])
 rw [hx] at h1; rw [hy] at h2
 have h1 : a.eval x = .string p := h1
 have h2 : a.eval y = .string q := h2
 refine ⟨_, ?_, rfl⟩
 have hm : ¬ (((p.size + q.size : Nat) : Int) > IntKind.i64.max) := by
  simp only [IntKind.max, IntKind.bits, IntKind.signed]; simp; omega
 simp only [execOp, ho, h1, h2, Sem.run_bind, run_eqGuard_str, binOp, Op.stringOp, Result.andThen_ok]
 rw [if_neg hm]
 rfl
theorem step_eq_str {t u : TypeId} {x y : Operand} {p q : ByteArray} (ho : o.op = .binOp .eql t x y u) (hx : ρ x = .str p) (hy : ρ y = .str q) :
  StepOK X o ρ [] (.bool (decide (p = q))) [] := .plain fun c a _ _ _ hr => by
 have h1 := hr x (by simp [ho, Op.operands])
 have h2 := hr y (by simp [ho, Op.operands])
 rw [hx] at h1; rw [hy] at h2
 have h1 : a.eval x = .string p := h1
 have h2 : a.eval y = .string q := h2
 refine ⟨_, ?_, rfl⟩
 simp only [execOp, ho, h1, h2, Sem.run_bind, run_eqGuard_str, binOp, Op.stringOp, Result.andThen_ok, beq_toList]
 rfl
theorem step_ne_str {t u : TypeId} {x y : Operand} {p q : ByteArray} (ho : o.op = .binOp .neq t x y u) (hx : ρ x = .str p) (hy : ρ y = .str q) :
  StepOK X o ρ [] (.bool (!decide (p = q))) [] := .plain fun c a _ _ _ hr => by
 have h1 := hr x (by simp [ho, Op.operands])
 have h2 := hr y (by simp [ho, Op.operands])
 rw [hx] at h1; rw [hy] at h2
 have h1 : a.eval x = .string p := h1
 have h2 : a.eval y = .string q := h2
 refine ⟨_, ?_, rfl⟩
 simp only [execOp, ho, h1, h2, Sem.run_bind, run_eqGuard_str, binOp, Op.stringOp, Result.andThen_ok, beq_toList]
 rfl
end
end Go.Fx
/-
 Structs, arrays and slices put together.
-/
namespace Go.Fx
open Go.RowKit
def Row (g : Nat -> GO) (I : Nat -> Nat -> Prop) (w : World) (m : Nat) (cs : List Value) (l : List AV) : Prop :=
 cs.length = l.length /\ ∀ (j : Nat) a, l[j]? = some a -> ∃ x, cs[j]? = some x /\ x.oneCell' = true /\ Reads g I w a m x
theorem AV.row {g : Nat -> GO} {I : Nat -> Nat -> Prop} {w : World} {m : Nat} {av : AV} {v : Value} {l : List AV} (h : Reads g I w av m v) (hl : av.cells = some l) : Row g I w m v.cells.toList l := by
 obtain ⟨h1, h2⟩ := AV.cells_reads h hl
 exact ⟨by simpa using h1, fun j a hj => by simpa using h2 j a hj⟩
def putAt (off : Nat) : List (Value × Nat) -> Array Value -> Array Value
 | [], cs => cs
 | (c, j) :: rest, cs => putAt off rest (cs.setIfInBounds (off + j) c)
theorem foldl_put (off : Nat) : ∀ (l : List (Value × Nat)) (cs : Array Value), l.foldl (fun cs x => cs.setIfInBounds (off + x.2) x.1) cs = putAt off l cs
 | [], _ => rfl
 | (c, j) :: rest, cs => by simp [putAt, foldl_put off rest]
theorem put_row {g : Nat -> GO} {I : Nat -> Nat -> Prop} {w : World} {m : Nat} (off : Nat) : ∀ (vs : List Value) (as : List AV) (q : Nat) (cs : Array Value) (l : List AV),
  Row g I w m vs as -> Row g I w m cs.toList l -> off + q + as.length <= l.length -> Row g I w m (putAt off (vs.zipIdx q) cs).toList (setCells l (off + q) as)
 | [], [], q, cs, l, _, h, _ => h
 | [], _ :: _, _, _, _, h, _, _ => by simp [Row] at h
 | _ :: _, [], _, _, _, h, _, _ => by simp [Row] at h
 | v :: vs, a :: as, q, cs, l, hr, h, hl => by
  simp only [List.length_cons] at hl
  have hr' : Row g I w m vs as := ⟨by simpa using hr.1, fun j a' hj => by simpa using hr.2 (j + 1) a' (by simpa using hj)⟩
  obtain ⟨x, hx, hx1, hx2⟩ := hr.2 0 a rfl
  simp at hx
  subst hx
  simp only [List.zipIdx_cons, putAt, setCells, spineK_eq]
  have := put_row off vs as (q + 1) (cs.setIfInBounds (off + q) v) (l.set (off + q) a) hr' ?_ (by simp; omega)
  ·rw [show off + (q + 1) = off + q + 1 by omega] at this
   exact this
  ·refine ⟨by simpa using h.1, fun j b hj => ?_⟩
   have hlen : cs.size = l.length := by simpa using h.1
   by_cases e : j = off + q
   ·subst e
    rw [List.getElem?_set_self (by omega)] at hj
    cases hj
    refine ⟨v, ?_, hx1, hx2⟩
    rw [Array.toList_setIfInBounds, List.getElem?_set_self]
    have := h.1
    omega
   ·rw [List.getElem?_set_ne (fun h => e h.symm)] at hj
    obtain ⟨y, y1, y2, y3⟩ := h.2 j b hj
    refine ⟨y, ?_, y2, y3⟩
    simp only [Array.toList_setIfInBounds]
    rw [List.getElem?_set_ne (fun h => e h.symm)]
    exact y1
def overlay (place : Nat -> Option (Nat × Nat)) : List AV -> List (Nat × AV) -> Option (List AV)
 | cells, [] => some cells
 | cells, (i, a) :: rest =>
  match place i, a.cells with
  | some (off, size), some l => spineK l fun l => bif Nat.beq l.length size && Nat.ble (off + l.length) cells.length then (spineK (setCells cells off l) fun cells => overlay place cells rest) else none
  | _, _ => none
theorem fill_row {g : Nat -> GO} {I : Nat -> Nat -> Prop} {w : World} {m : Nat} (place : Nat -> Option (Nat × Nat)) : ∀ (ps : List (Nat × AV)) (vs : List (Nat × Value)) (cs : Array Value) (l out : List AV),
  ps.length = vs.length -> (∀ (j i : Nat) a, ps[j]? = some (i, a) -> ∃ v, vs[j]? = some (i, v) /\ Reads g I w a m v) -> Row g I w m cs.toList l -> overlay place l ps = some out ->
  ∃ cs', Instr.fill place cs vs = some cs' /\ Row g I w m cs'.toList out
 | [], [], cs, l, out, _, _, h, ho => by
  simp only [overlay, Option.some.injEq] at ho
  subst ho
  exact ⟨cs, rfl, h⟩
 | [], _ :: _, _, _, _, h, _, _, _ => by simp at h
 | _ :: _, [], _, _, _, h, _, _, _ => by simp at h
 | (i, a) :: ps, (i', v) :: vs, cs, l, out, hlen, hps, h, ho => by
  obtain ⟨v', hv', hr⟩ := hps 0 i a rfl
  simp only [List.getElem?_cons_zero, Option.some.injEq, Prod.mk.injEq] at hv'
  obtain ⟨rfl, rfl⟩ := hv'
  simp only [overlay, spineK_eq] at ho
  split at ho
  ·rename_i off size la hp hc
   cases hb : (Nat.beq la.length size && Nat.ble (off + la.length) l.length) with
   | false => rw [hb] at ho; cases ho
   | true =>
    rw [hb] at ho
    simp only [cond_true] at ho
    simp only [Bool.and_eq_true, Nat.beq_eq, Nat.ble_eq] at hb
    obtain ⟨hb1, hb2⟩ := hb
    have hrow := AV.row hr hc
    have hvs : v.cells.size = la.length := by simpa using hrow.1
    have hcl : cs.size = l.length := by simpa using h.1
    have h2 := put_row (g := g) (I := I) (w := w) (m := m) off v.cells.toList la 0 cs l hrow h (by omega)
    obtain ⟨cs', f1, f2⟩ := fill_row place ps vs (putAt off (v.cells.toList.zipIdx 0) cs) (setCells l off la) out (by simpa using hlen) (fun j i a hj => by simpa using hps (j + 1) i a (by simpa using hj)) h2 ho
    refine ⟨cs', ?_, f2⟩
    simp only [Instr.fill, hp]
    have hcond : ¬ ((decide (v.cells.size ≠ size) || decide (off + v.cells.size > cs.size)) = true) := by simp; omega
    rw [if_neg hcond, <- f1, <- foldl_put, <- Array.toList_zipIdx, Array.foldl_toList]
  ·cases ho
section
variable {X : Ctx} {o : Oper} {ρ : Operand -> AV}
def placesOf (X : Ctx) : List (Nat × TypeId) -> List (Nat × Nat)
 | [] => []
 | (off, t) :: rest => (off, ((X.T t).map (·.size)).getD 0) :: placesOf X rest
def sized (X : Ctx) : List (Nat × TypeId) -> Bool
 | [] => true
 | (_, t) :: rest => (X.T t).isSome && sized X rest
theorem run_places (hX : X.Good) (w : World) : ∀ (fs : List Field), sized X (fs.map fun f => (f.offset, f.type)) = true ->
  (fs.mapM fun f => (do pure (f.offset, <- sizeOf f.type) : Sem (Nat × Nat))).run X.P w = .ok (placesOf X (fs.map fun f => (f.offset, f.type))) w
 | [], _ => by simp [placesOf]
 | f :: fs, h => by
  simp only [List.map_cons, sized, Bool.and_eq_true, Option.isSome_iff_exists] at h
  obtain ⟨⟨i, hi⟩, h⟩ := h
  have := run_places hX w fs h
  simp only [List.mapM_cons, Sem.run_bind, (hX.types _ i hi).run_sizeOf, Result.andThen_ok, Sem.run_pure, this, placesOf, hi, List.map_cons, Option.map_some, Option.getD_some]
theorem step_build_struct (hX : X.Good) {t : TypeId} {i : TI} {parts : Array (Nat × Operand)} {fs : List (Nat × TypeId)} {out : List AV} (ho : o.op = .build t parts) (hi : X.T t = some i) (hk : i.kind = .struct fs) (hz : sized X fs = true)
  (hout : overlay (fun n => (placesOf X fs)[n]?) (i.zero.map ofVal) (parts.toList.map fun p => (p.1, ρ p.2)) = some out) :
  StepOK X o ρ [] (.agg out.length (fun j => out.getD j .any)) [] := .plain fun c a hok _ hH hr => by
 have ht := hX.types t i hi
 obtain ⟨d, hd, hf⟩ := ht.desc
 rw [hk] at hf
 obtain ⟨F, rfl, hF⟩ := hf
 obtain ⟨z, z1, z2⟩ := ht.run_zeroValue c.w
 have hpl := run_places hX c.w F.toList (by rw [hF]; exact hz)
 rw [hF] at hpl
 have hrow : Row c.g c.I c.w c.H.length z.cells.toList (i.zero.map ofVal) := by
  refine ⟨by simp [<- z2], fun j av hj => ?_⟩
  simp only [List.getElem?_map, Option.map_eq_some_iff] at hj
  obtain ⟨v, hv, rfl⟩ := hj
  exact ⟨v, by rw [z2]; exact hv, ht.zone v (List.mem_of_getElem? hv), ofVal_reads v⟩
 obtain ⟨cs', f1, f2⟩ := fill_row (fun n => (placesOf X fs)[n]?) (parts.toList.map fun p => (p.1, ρ p.2)) (parts.toList.map fun p => (p.1, a.eval p.2)) z.cells (i.zero.map ofVal) out (by simp) (fun j n av hj => by
  simp only [List.getElem?_map, Option.map_eq_some_iff, Prod.mk.injEq] at hj
  obtain ⟨p, hp, rfl, rfl⟩ := hj
  refine ⟨a.eval p.2, by simp [hp], hr _ ?_⟩
  simp only [ho, Op.operands, List.toList_toArray, List.mem_map]
  exact ⟨p, List.mem_of_getElem? hp, rfl⟩) hrow hout
 refine ⟨.agg cs', ?_, cs', rfl, by simpa using f2.1, fun j hj => ?_⟩
 ·have hm : (F.mapM fun f => (do pure (f.offset, <- sizeOf f.type) : Sem (Nat × Nat))).run X.P c.w = .ok (placesOf X fs).toArray c.w := by
   rw [Array.mapM_eq_mapM_toList]
   simp only [Sem.run_map, hpl, Result.andThen_ok]
  have hfill : Instr.fill (fun n => (placesOf X fs).toArray[n]?) z.cells ((parts.map fun x => (x.1, a.eval x.2)).toList) = some cs' := by
   rw [<- f1]; simp
  simp only [execOp, ho, Instr.build, Sem.run_bind, z1, Result.andThen_ok, run_underlying hd, hm]
  rw [hfill]
  simp
 ·obtain ⟨x, x1, x2, x3⟩ := f2.2 j out[j] (by simp [hj])
  exact ⟨x, by simpa using x1, x2, by simpa [hj] using x3⟩
theorem step_build_array (hX : X.Good) {t e : TypeId} {i ei : TI} {n : Nat} {parts : Array (Nat × Operand)} {out : List AV} (ho : o.op = .build t parts) (hi : X.T t = some i) (hk : i.kind = .array n e) (he : X.T e = some ei)
  (hout : overlay (fun q => some (q * ei.size, ei.size)) (i.zero.map ofVal) (parts.toList.map fun p => (p.1, ρ p.2)) = some out) :
  StepOK X o ρ [] (.agg out.length (fun j => out.getD j .any)) [] := .plain fun c a hok _ hH hr => by
 have ht := hX.types t i hi
 obtain ⟨d, hd, hf⟩ := ht.desc
 rw [hk] at hf
 obtain rfl : d = _ := hf
 obtain ⟨z, z1, z2⟩ := ht.run_zeroValue c.w
 have hrow : Row c.g c.I c.w c.H.length z.cells.toList (i.zero.map ofVal) := by
  refine ⟨by simp [<- z2], fun j av hj => ?_⟩
  simp only [List.getElem?_map, Option.map_eq_some_iff] at hj
  obtain ⟨v, hv, rfl⟩ := hj
  exact ⟨v, by rw [z2]; exact hv, ht.zone v (List.mem_of_getElem? hv), ofVal_reads v⟩
 obtain ⟨cs', f1, f2⟩ := fill_row (fun q => some (q * ei.size, ei.size)) (parts.toList.map fun p => (p.1, ρ p.2)) (parts.toList.map fun p => (p.1, a.eval p.2)) z.cells (i.zero.map ofVal) out (by simp) (fun j n av hj => by
  simp only [List.getElem?_map, Option.map_eq_some_iff, Prod.mk.injEq] at hj
  obtain ⟨p, hp, rfl, rfl⟩ := hj
  refine ⟨a.eval p.2, by simp [hp], hr _ ?_⟩
  simp only [ho, Op.operands, List.toList_toArray, List.mem_map]
  exact ⟨p, List.mem_of_getElem? hp, rfl⟩) hrow hout
 refine ⟨.agg cs', ?_, cs', rfl, by simpa using f2.1, fun j hj => ?_⟩
 ·have hfill : Instr.fill (fun q => some (q * ei.size, ei.size)) z.cells ((parts.map fun x => (x.1, a.eval x.2)).toList) = some cs' := by
   rw [<- f1]; simp
  simp only [execOp, ho, Instr.build, Sem.run_bind, z1, Result.andThen_ok, run_underlying hd, (hX.types e ei he).run_sizeOf]
  rw [hfill]
  simp
 ·obtain ⟨x, x1, x2, x3⟩ := f2.2 j out[j] (by simp [hj])
  exact ⟨x, by simpa using x1, x2, by simpa [hj] using x3⟩
def zeros (i : TI) : Nat -> List AV
 | 0 => []
 | n + 1 => i.zero.map ofVal ++ zeros i n
theorem length_zeros (i : TI) : ∀ n, (zeros i n).length = n * i.zero.length
 | 0 => by simp [zeros]
 | n + 1 => by simp [zeros, length_zeros i n, Nat.add_mul, Nat.add_comm]
theorem getElem?_zeros (i : TI) : ∀ (n j : Nat), j < n * i.zero.length -> (zeros i n)[j]? = (i.zero.map ofVal)[j % i.zero.length]?
 | 0, j, h => by simp at h
 | n + 1, j, h => by
  simp only [zeros]
  by_cases h1 : j < i.zero.length
  ·rw [List.getElem?_append_left (by simpa using h1), Nat.mod_eq_of_lt h1]
  ·have h2 : j - i.zero.length < n * i.zero.length := by rw [Nat.add_mul, Nat.one_mul] at h; omega
   rw [List.getElem?_append_right (by simpa using Nat.le_of_not_lt h1), List.length_map, getElem?_zeros i n _ h2]
   congr 1
   exact (Nat.mod_eq_sub_mod (Nat.le_of_not_lt h1)).symm
theorem zeros_row {P : Program} {e : TypeId} {ei : TI} (ht : TIok P e ei) {g : Nat -> GO} {I : Nat -> Nat -> Prop} {w : World} {m : Nat} {z : Value} (hz : z.cells.toList = ei.zero) (n : Nat) :
  Row g I w m ((Array.range (n * ei.size)).map (z.cells[· % z.cells.size]!)).toList (zeros ei n) := by
 have hsz : z.cells.size = ei.size := by rw [<- ht.zsize, <- hz]; simp
 refine ⟨by simp [length_zeros, ht.zsize], fun j a hj => ?_⟩
 have hlt : j < n * ei.zero.length := by rw [<- length_zeros]; exact (List.getElem?_eq_some_iff.1 hj).1
 rw [getElem?_zeros ei n j hlt] at hj
 simp only [List.getElem?_map, Option.map_eq_some_iff] at hj
 obtain ⟨v, hv, rfl⟩ := hj
 refine ⟨v, ?_, ht.zone v (List.mem_of_getElem? hv), ofVal_reads v⟩
 rw [ht.zsize] at hlt hv
 have hq : j % ei.size < z.cells.size := by
  rw [hsz]
  refine Nat.mod_lt _ ?_
  rcases Nat.eq_zero_or_pos ei.size with e0 | e0
  ·rw [e0] at hlt; omega
  ·exact e0
 simp only [Array.toList_map, Array.toList_range, List.getElem?_map, List.getElem?_range', hsz]
 rw [List.getElem?_range hlt]
 simp only [Option.map_some, Option.some.injEq]
 rw [<- hz] at hv
 rw [getElem!_pos z.cells _ (by rw [hsz] at hq ⊢; exact hq)]
 simpa [hq] using hv
theorem add_row {c : Cfg} (hok : c.Ok) (cs : Array Value) (e : TypeId) :
  Tr c ⟨c.g, fun b o => c.I b o \/ b = c.w.heap.size, c.w.alloc (.cells cs e), c.H⟩ :=
 Tr.imm hok rfl rfl rfl (by simp) (fun b hb => alloc_old hb) (fun b o h => .inl h) (fun b o h => by
  rcases h with h | h
  ·exact .inl h
  ·subst h; exact .inr ⟨Nat.le_refl _, by simp⟩)
theorem run_buildSlice' (hX : X.Good) {t e : TypeId} {i ei : TI} {len : Nat} {parts : Array (Nat × Operand)} {out : List AV} {c : Cfg} {a : Act} (ho : o.op = .buildSlice t len parts) (hi : X.T t = some i) (hk : i.elemOf = some e) (he : X.T e = some ei)
  (hr : ∀ x ∈ o.op.operands.toList, c.Reads (ρ x) (a.eval x)) (hlen : len * ei.size <= 16777216)
  (hout : overlay (fun q => some (q * ei.size, ei.size)) (zeros ei len) (parts.toList.map fun p => (p.1, ρ p.2)) = some out) :
  ∃ cs : Array Value, (execOp a.eval o).run X.P c.w = .ok (.value (.slice (some ⟨c.w.heap.size, 0, none⟩) len len)) (c.w.alloc (.cells cs e)) /\ Row c.g c.I c.w c.H.length cs.toList out := by
 have ht := hX.types t i hi
 have hte := hX.types e ei he
 have hu := elemOf_spec ht hk
 obtain ⟨z, z1, z2⟩ := hte.run_zeroValue c.w
 have args : ∀ (j n : Nat) (av : AV), (parts.toList.map fun p => (p.1, ρ p.2))[j]? = some (n, av) -> ∃ v, (parts.toList.map fun p => (p.1, a.eval p.2))[j]? = some (n, v) /\ Reads c.g c.I c.w av c.H.length v := fun j n av hj => by
  simp only [List.getElem?_map, Option.map_eq_some_iff, Prod.mk.injEq] at hj
  obtain ⟨p, hp, rfl, rfl⟩ := hj
  refine ⟨a.eval p.2, by simp [hp], hr _ ?_⟩
  simp only [ho, Op.operands, List.toList_toArray, List.mem_map]
  exact ⟨p, List.mem_of_getElem? hp, rfl⟩
 by_cases h0 : len * ei.size = 0
 ·have hzr : zeros ei len = [] := List.eq_nil_of_length_eq_zero (by rw [length_zeros, hte.zsize, h0])
  rw [hzr] at hout
  obtain ⟨cs', f1, f2⟩ := fill_row (g := c.g) (I := c.I) (w := c.w) (m := c.H.length) _ _ _ #[] [] out (by simp) args ⟨by simp, fun j a hj => by simp at hj⟩ hout
  refine ⟨cs', ?_, f2⟩
  have hfill : Instr.fill (fun q => some (q * ei.size, ei.size)) ((Array.range (len * ei.size)).map ((#[] : Array Value)[· % 0]!)) ((parts.map fun x => (x.1, a.eval x.2)).toList) = some cs' := by
   rw [<- f1, h0, show Array.range 0 = #[] from rfl]
   simp
  have hbig : ¬ (len * ei.size > 2 ^ 24) := by omega
  simp only [execOp, ho, Instr.buildSlice, Sem.run_bind, run_underlying hu, Result.andThen_ok, hte.run_sizeOf, Sem.run_pure, if_neg hbig, if_pos h0]
  simp only [List.size_toArray, List.length_nil, hfill]
  simp [newRow]
 ·obtain ⟨cs', f1, f2⟩ := fill_row (g := c.g) (I := c.I) (w := c.w) (m := c.H.length) _ _ _ _ (zeros ei len) out (by simp) args (zeros_row hte z2 len) hout
  refine ⟨cs', ?_, f2⟩
  have hfill : Instr.fill (fun q => some (q * ei.size, ei.size)) ((Array.range (len * ei.size)).map (z.cells[· % z.cells.size]!)) ((parts.map fun x => (x.1, a.eval x.2)).toList) = some cs' := by rw [<- f1]; simp
  have hbig : ¬ (len * ei.size > 2 ^ 24) := by omega
  simp only [execOp, ho, Instr.buildSlice, Sem.run_bind, run_underlying hu, Result.andThen_ok, hte.run_sizeOf, Sem.run_pure, if_neg hbig, if_neg h0, z1]
  simp only [hfill]
  simp [newRow]
theorem step_buildSlice (hX : X.Good) {t e : TypeId} {i ei : TI} {len : Nat} {parts : Array (Nat × Operand)} {out : List AV} (ho : o.op = .buildSlice t len parts) (hi : X.T t = some i) (hk : i.elemOf = some e) (he : X.T e = some ei)
  (hlen : len * ei.size <= 16777216) (hout : overlay (fun q => some (q * ei.size, ei.size)) (zeros ei len) (parts.toList.map fun p => (p.1, ρ p.2)) = some out) (hsz : out.length = len * ei.size) (hfree : (out.all (·.free)) = true) :
  StepOK X o ρ [] (.slc ei.size len (fun p j => out.getD (p * ei.size + j) .any)) [] := .value fun c a hok _ hH hr => by
 obtain ⟨cs, h1, h2, h3⟩ := run_buildSlice' (c := c) (a := a) hX ho hi hk he hr hlen hout
 refine ⟨_, _, h1, add_row hok cs e, rfl, _, _, rfl, Nat.le_refl _, fun _ => ⟨c.w.heap.size, 0, rfl, fun p j hp hj => ⟨.inr rfl, ?_⟩⟩⟩
 have hlt : p * ei.size + j < out.length := by
  rw [hsz]
  have : (p + 1) * ei.size <= len * ei.size := Nat.mul_le_mul_right _ (by omega)
  rw [Nat.add_mul] at this
  omega
 obtain ⟨x, x1, x2, x3⟩ := h3 (p * ei.size + j) out[p * ei.size + j] (by simp [hlt])
 refine ⟨x, ?_, x2, ?_⟩
 ·simp only [Nat.zero_add]
  rw [World.cell?_alloc_new]
  simpa using x1
 ·show Reads c.g _ _ (out.getD (p * ei.size + j) .any) 0 x
  rw [List.getD_eq_getElem?_getD, List.getElem?_eq_getElem hlt, Option.getD_some]
  have hf : (out[p * ei.size + j]).free = true := List.all_eq_true.1 hfree _ (List.getElem_mem hlt)
  refine Reads.mono' (M := 0) (fun k hk => absurd hk (by omega)) (fun b o hI => ⟨.inl hI, ?_⟩) _ 0 0 x (by omega) (by omega) (AV.free_reads (g' := c.g) _ _ 0 x hf x3)
  exact cell_of_block (alloc_old (hok.imm b o hI))
theorem step_buildSlice0 (hX : X.Good) {t e : TypeId} {i ei : TI} {parts : Array (Nat × Operand)} (ho : o.op = .buildSlice t 0 parts) (hi : X.T t = some i) (hk : i.elemOf = some e) (he : X.T e = some ei) (hp : parts = #[]) :
  StepOK X o ρ [] .slc0 [] := .value fun c a hok _ hH hr => by
 obtain ⟨cs, h1, _⟩ := run_buildSlice' (out := zeros ei 0) (c := c) (a := a) hX ho hi hk he hr (by omega) (by rw [hp]; rfl)
 exact ⟨_, _, h1, add_row hok cs e, rfl, _, rfl⟩
end
end Go.Fx
