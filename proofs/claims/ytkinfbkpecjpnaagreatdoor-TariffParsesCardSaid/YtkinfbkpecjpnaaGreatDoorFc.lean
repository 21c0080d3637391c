/-
 The symbolic reader, part 3: regions in any order, operations.
-/
import Derived.Test.YtkinfbkpecjpnaaGreatDoorFb
set_option linter.all false
/-
 A region's operations in any order that keeps what must come behind what: one operation more.
-/
namespace Go.Fx
open Go.RowKit
def Conf (ops : Array Oper) (x y : Item) : Prop :=
 (∃ d, x.o.dst = some d /\ d ∈ y.o.looksAt ops) \/ (∃ d, y.o.dst = some d /\ d ∈ x.o.looksAt ops) \/ confI x y = true
def rdI (X : Ctx) (its : List Item) (base : Nat -> AV) (j : Nat) (g : Option (Nat × Bool)) (x : Operand) : AV := rdO X (lookI g (its.take j).reverse base) x
def ItemOK (X : Ctx) (its : List Item) (base : Nat -> AV) (j : Nat) (H : List HObj) (it : Item) : Prop :=
 match it.mode with
 | .exec => StepE X it.o (rdI X its base j) none H it.rs it.av it.ws /\
   (it.o.guard = none \/ ∃ i w y, it.o.guard = some (i, w) /\ i < j /\ its[i]? = some y /\ y.o.dst ≠ none /\ (match y.mode with | .exec => y.av = .bool w | _ => False))
 | .skip => it.ws = [] /\ ∃ i w y, it.o.guard = some (i, w) /\ i < j /\ its[i]? = some y /\ (match y.mode with | .exec => y.av = .bool (!w) | .skip => True | _ => False)
 | .cond t w => it.ws = [] /\ ∃ i y p, it.o.guard = some (i, w) /\ i < j /\ its[i]? = some y /\ y.o.dst = some t /\ y.av = .bool p /\
   (match y.mode with | .exec => p = w -> it.gd | .cond _ _ => y.gd -> p = w -> it.gd | .skip => False) /\ (it.gd -> StepE X it.o (rdI X its base j) (some (t, w)) H it.rs it.av [])
def Done (x : Item) (c : Cfg) (a : Act) (d : Nat) : Prop :=
 match x.mode with
 | .exec => c.Reads x.av (a.eval (.tmp d))
 | .skip => a.eval (.tmp d) = undef
 | .cond t w => (a.eval (.tmp t) = .bool w /\ x.gd /\ c.Reads x.av (a.eval (.tmp d))) \/ (a.eval (.tmp t) ≠ .bool w /\ a.eval (.tmp d) = undef)
structure RegOK (X : Ctx) (ops : Array Oper) (its : List Item) (base : Nat -> AV) (Hs : Nat -> List HObj) (N : Nat) : Prop where
 op : ∀ (j : Nat) it, its[j]? = some it -> ops[j]? = some it.o
 next : ∀ (j : Nat) it, its[j]? = some it -> Hs (j + 1) = putAll (Hs j) it.ws
 ok : ∀ (j : Nat) it, its[j]? = some it -> ItemOK X its base j (Hs j) it
 dst : ∀ (i j : Nat) x y d, its[i]? = some x -> its[j]? = some y -> x.o.dst = some d -> y.o.dst = some d -> i = j
 fits : ∀ (j : Nat) it d, its[j]? = some it -> it.o.dst = some d -> d < N
structure Inv (X : Ctx) (its : List Item) (Hs : Nat -> List HObj) (N : Nat) (c0 : Cfg) (a0 : Act) (S : Nat -> Prop) (c : Cfg) (a : Act) : Prop where
 tr : Tr c0 c
 base : Base X c
 size : a.tmps.size = N
 defers : a.defers = a0.defers
 len : c.H.length = (Hs 0).length
 cells : ∀ k j t, t <= its.length -> (∀ (i : Nat) x w, i < t -> its[i]? = some x -> w ∈ x.ws -> w.hits k j -> S i) -> (∀ (i : Nat) x w, t <= i -> its[i]? = some x -> w ∈ x.ws -> w.hits k j -> ¬ S i) -> Same1 (Hs t) c.H k j
 done : ∀ (i : Nat) x d, its[i]? = some x -> S i -> x.o.dst = some d -> Done x c a d
 rest : ∀ t, (∀ (i : Nat) x, its[i]? = some x -> S i -> x.o.dst ≠ some t) -> a.eval (.tmp t) = a0.eval (.tmp t)
section
variable {X : Ctx} {ops : Array Oper} {its : List Item} {base : Nat -> AV} {Hs : Nat -> List HObj} {N : Nat} {c0 : Cfg} {a0 : Act}
theorem RegOK.len (h : RegOK X ops its base Hs N) : ∀ t, t <= its.length -> (Hs t).length = (Hs 0).length
 | 0, _ => rfl
 | t + 1, ht => by
  rw [h.next t (its[t]'(by omega)) (by simp), putAll_len]
  exact h.len t (by omega)
theorem eval_put_same {a : Act} {d : Nat} {v : Value} (h : d < a.tmps.size) : (a.put (some d) v).eval (.tmp d) = v := by
 simp [Act.eval, Act.put, h]
theorem eval_put_ne {a : Act} {dst : Option Nat} {t : Nat} {v : Value} (h : dst ≠ some t) : (a.put dst v).eval (.tmp t) = a.eval (.tmp t) :=
 Act.eval_put fun d hd e => h (by cases e; exact hd)
theorem size_put {a : Act} {dst : Option Nat} {v : Value} : (a.put dst v).tmps.size = a.tmps.size := by
 cases dst <;> simp [Act.put]
theorem defers_put {a : Act} {dst : Option Nat} {v : Value} : (a.put dst v).defers = a.defers := by
 cases dst <;> simp [Act.put]
theorem lookI_spec (g : Option (Nat × Bool)) (base : Nat -> AV) (t : Nat) : ∀ (l : List Item),
  (∃ x ∈ l, x.o.dst = some t /\ lookI g l base t = (match x.mode with | .exec => x.av | .skip => .any | .cond s w => bif sameG g s w then x.av else .any)) \/ ((∀ x ∈ l, x.o.dst ≠ some t) /\ lookI g l base t = base t)
 | [] => .inr ⟨by simp, rfl⟩
 | it :: l => by
  simp only [lookI]
  cases hd : dstIs it.o.dst t with
  | true => exact .inl ⟨it, List.mem_cons_self .., dstIs_eq.1 hd, rfl⟩
  | false =>
   simp only [cond_false]
   rcases lookI_spec g base t l with ⟨x, h1, h2, h3⟩ | ⟨h1, h2⟩
   ·exact .inl ⟨x, List.mem_cons_of_mem _ h1, h2, h3⟩
   ·refine .inr ⟨fun x hx => ?_, h2⟩
    rcases List.mem_cons.1 hx with rfl | hx
    ·intro e; rw [dstIs_eq.2 e] at hd; cases hd
    ·exact h1 x hx
theorem Base.global {c : Cfg} (hX : X.Good) (hb : Base X c) {g : Nat} : c.Reads ((X.G g).getD .any) (.pointer (some ⟨g, 0, none⟩)) := by
 cases hg : X.G g with
 | none => trivial
 | some av =>
  have h := hX.globals g av hg
  refine (Reads.mono' (M := 0) (g' := c.g) (I' := c.I) (w' := c.w) (fun k hk => by omega) (fun b o hlt => ⟨hb.imm b o hlt, ?_⟩) av 0 c.H.length _ (Nat.le_refl _) (Nat.zero_le _) h)
  exact cell_of_block (hb.below.block b hlt)
theorem undef_bool (b : Bool) : undef ≠ .bool b := by intro h; cases h
theorem Inv.reads (hX : X.Good) (h : RegOK X ops its base Hs N) (hb : ∀ t, c0.Reads (base t) (a0.eval (.tmp t))) {S : Nat -> Prop} {c : Cfg} {a : Act} {j : Nat} {it : Item} (hj : its[j]? = some it) (hS : ¬ S j)
  (hlo : ∀ (i : Nat) x, i < j -> its[i]? = some x -> Conf ops x it -> S i) (hhi : ∀ (m : Nat) x, j < m -> its[m]? = some x -> Conf ops it x -> ¬ S m) (hinv : Inv X its Hs N c0 a0 S c a) :
  ∀ g, GHolds g a -> ∀ x ∈ it.o.op.operands.toList, c.Reads (rdI X its base j g x) (a.eval x) := by
 intro g hg x hx
 cases x with
 | const v => exact ofVal_reads v
 | func f => exact ⟨#[], rfl, rfl, fun j hj => by omega⟩
 | global g => exact hinv.base.global hX
 | tmp t =>
  have hl : t ∈ it.o.looksAt ops := List.mem_append_left _ (List.mem_filterMap.2 ⟨.tmp t, hx, rfl⟩)
  show c.Reads (lookI g (its.take j).reverse base t) (a.eval (.tmp t))
  rcases lookI_spec g base t (its.take j).reverse with ⟨y, h1, h2, h3⟩ | ⟨h1, h2⟩
  ·rw [h3]
   rw [List.mem_reverse] at h1
   obtain ⟨i, hi⟩ := List.getElem?_of_mem h1
   rw [List.getElem?_take] at hi
   split at hi
   ·rename_i hij
    have hSi := hlo i y hij hi (.inl ⟨t, h2, hl⟩)
    have hd := hinv.done i y t hi hSi h2
    unfold Done at hd
    split at hd
    ·exact hd
    ·trivial
    ·rename_i s w e
     show c.Reads (bif sameG g s w then y.av else .any) _
     cases hs : sameG g s w with
     | false => trivial
     | true =>
      rcases hd with hd | hd
      ·exact hd.2.2
      ·exfalso
       cases g with
       | none => cases hs
       | some g =>
        obtain ⟨s', w'⟩ := g
        simp only [sameG, Bool.and_eq_true, Nat.beq_eq, sameB_eq] at hs
        obtain ⟨rfl, rfl⟩ := hs
        exact hd.1 hg
   ·cases hi
  ·rw [h2, hinv.rest t fun i x hi hSi hd => ?_]
   ·exact hinv.tr.reads (hb t)
   ·rcases Nat.lt_trichotomy i j with hij | hij | hij
    ·refine h1 x (List.mem_reverse.2 ?_) hd
     exact List.mem_of_getElem? (i := i) (by rw [List.getElem?_take, if_pos hij]; exact hi)
    ·subst hij; exact hS hSi
    ·exact hhi i x hij hi (.inr (.inl ⟨t, hd, hl⟩)) hSi
theorem Inv.agree (h : RegOK X ops its base Hs N) {S : Nat -> Prop} {c : Cfg} {a : Act} {j : Nat} {it : Item} (hj : its[j]? = some it) (hS : ¬ S j)
  (hlo : ∀ (i : Nat) x, i < j -> its[i]? = some x -> Conf ops x it -> S i) (hhi : ∀ (m : Nat) x, j < m -> its[m]? = some x -> Conf ops it x -> ¬ S m) (hinv : Inv X its Hs N c0 a0 S c a) :
  ∀ r ∈ it.rs, Agree (Hs j) c.H r := by
 intro r hr
 have hjl : j < its.length := (List.getElem?_eq_some_iff.1 hj).1
 have lo : ∀ (i : Nat) x w (q : Nat), i < j -> its[i]? = some x -> w ∈ x.ws -> confRW r w = true -> S i := fun i x w q hi hx hw hc =>
  hlo i x hi hx (.inr (.inr (by simp only [confI, Bool.or_eq_true, List.any_eq_true]; exact .inl (.inr ⟨w, hw, r, hr, hc⟩))))
 have hi' : ∀ (i : Nat) x w (q : Nat), j <= i -> its[i]? = some x -> w ∈ x.ws -> confRW r w = true -> ¬ S i := fun i x w q hi hx hw hc => by
  rcases Nat.eq_or_lt_of_le hi with e | e
  ·subst e; exact hS
  ·exact hhi i x e hx (.inr (.inr (by simp only [confI, Bool.or_eq_true, List.any_eq_true]; exact .inr ⟨w, hw, r, hr, hc⟩)))
 refine ⟨?_, fun q hq => hinv.cells r.k q j (Nat.le_of_lt hjl) (fun i x w h1 h2 h3 h4 => lo i x w q h1 h2 h3 (confRW_of hq h4)) (fun i x w h1 h2 h3 h4 => hi' i x w q h1 h2 h3 (confRW_of hq h4))⟩
 -- a cell beyond all that is turned by parts
 obtain ⟨q, hq⟩ : ∃ q, ∀ x ∈ its, ∀ w ∈ x.ws, w.hits r.k q -> ∃ o, w = .set r.k o := by
  have one : ∀ ws : List W, ∃ q, ∀ p, q <= p -> ∀ w ∈ ws, w.hits r.k p -> ∃ o, w = .set r.k o := by
   intro ws
   induction ws with
   | nil => exact ⟨0, by simp⟩
   | cons w ws ih =>
    obtain ⟨q, hq⟩ := ih
    cases w with
    | set k o =>
     refine ⟨q, fun p hp w hw hh => ?_⟩
     rcases List.mem_cons.1 hw with rfl | hw
     ·simp only [W.hits] at hh; subst hh; exact ⟨o, rfl⟩
     ·exact hq p hp w hw hh
    | cells k off l =>
     refine ⟨max q (off + l.length), fun p hp w hw hh => ?_⟩
     rcases List.mem_cons.1 hw with rfl | hw
     ·simp only [W.hits] at hh; omega
     ·exact hq p (by omega) w hw hh
    | elem k i off l =>
     refine ⟨max q (off + l.length), fun p hp w hw hh => ?_⟩
     rcases List.mem_cons.1 hw with rfl | hw
     ·simp only [W.hits] at hh; omega
     ·exact hq p (by omega) w hw hh
  have all : ∀ l : List Item, ∃ q, ∀ p, q <= p -> ∀ x ∈ l, ∀ w ∈ x.ws, w.hits r.k p -> ∃ o, w = .set r.k o := by
   intro l
   induction l with
   | nil => exact ⟨0, by simp⟩
   | cons x l ih =>
    obtain ⟨q, hq⟩ := ih
    obtain ⟨q', hq'⟩ := one x.ws
    refine ⟨max q q', fun p hp y hy => ?_⟩
    rcases List.mem_cons.1 hy with rfl | hy
    ·exact hq' p (by omega)
    ·exact hq p (by omega) y hy
  obtain ⟨q, hq⟩ := all its
  exact ⟨q, hq q (Nat.le_refl _)⟩
 have hset : ∀ x ∈ its, ∀ w ∈ x.ws, w.hits r.k q -> confRW r w = true := fun x hx w hw hh => by
  obtain ⟨o, rfl⟩ := hq x hx w hw hh
  simp [confRW]
 exact ⟨q, hinv.cells r.k q j (Nat.le_of_lt hjl) (fun i x w h1 h2 h3 h4 => lo i x w q h1 h2 h3 (hset x (List.mem_of_getElem? h2) w h3 h4))
  (fun i x w h1 h2 h3 h4 => hi' i x w q h1 h2 h3 (hset x (List.mem_of_getElem? h2) w h3 h4))⟩
theorem Inv.go (h : RegOK X ops its base Hs N) {S : Nat -> Prop} {c : Cfg} {a : Act} {j : Nat} {it : Item} (hj : its[j]? = some it) (hS : ¬ S j)
  (hlo : ∀ (i : Nat) x, i < j -> its[i]? = some x -> Conf ops x it -> S i) (hhi : ∀ (m : Nat) x, j < m -> its[m]? = some x -> Conf ops it x -> ¬ S m) (hinv : Inv X its Hs N c0 a0 S c a)
  {c' : Cfg} {v : Value} (ht : Tr c c') (hH : c'.H = putAll c.H it.ws) (hv : ∀ d, it.o.dst = some d -> Done it c' (a.put (some d) v) d) : Inv X its Hs N c0 a0 (fun i => S i \/ i = j) c' (a.put it.o.dst v) := {
 tr := hinv.tr.trans ht
 base := hinv.base.tr ht
 size := by rw [size_put]; exact hinv.size
 defers := by rw [defers_put]; exact hinv.defers
 len := by rw [hH, putAll_len]; exact hinv.len
 cells := fun k q t htl h1 h2 => by
  rw [hH]
  have hjl : j < its.length := (List.getElem?_eq_some_iff.1 hj).1
  by_cases hw : ∃ w ∈ it.ws, w.hits k q
  ·obtain ⟨w, hw1, hw2⟩ := hw
   have hjt : j < t := by
    rcases Nat.lt_or_ge j t with h' | h'
    ·exact h'
    ·exact absurd (.inr rfl) (h2 j it w h' hj hw1 hw2)
   have hc : ∀ (i : Nat) x w', its[i]? = some x -> w' ∈ x.ws -> w'.hits k q -> confI x it = true /\ confI it x = true := fun i x w' hx hx' hh => by
    simp only [confI, Bool.or_eq_true, List.any_eq_true]
    exact ⟨.inl (.inl ⟨w', hx', w, hw1, confWW_of hh hw2⟩), .inl (.inl ⟨w, hw1, w', hx', confWW_of hw2 hh⟩)⟩
   have hbase := hinv.cells k q j (Nat.le_of_lt hjl) (fun i x w' hi hx hx' hh => hlo i x hi hx (.inr (.inr (hc i x w' hx hx' hh).1)))
    (fun i x w' hi hx hx' hh => by
     rcases Nat.eq_or_lt_of_le hi with e | e
     ·subst e; exact hS
     ·exact hhi i x e hx (.inr (.inr (hc i x w' hx hx' hh).2)))
   have h3 : Same1 (Hs (j + 1)) (putAll c.H it.ws) k q := by
    rw [h.next j it hj]
    exact putAll_same it.ws (by rw [h.len j (Nat.le_of_lt hjl), hinv.len]) hbase
   have h4 : ∀ u, j + 1 <= u -> u <= t -> Same1 (Hs u) (Hs (j + 1)) k q := by
    intro u hu
    induction u with
    | zero => omega
    | succ u ih =>
     intro hut
     rcases Nat.eq_or_lt_of_le hu with e | e
     ·rw [<- e]; exact Same1.refl _ k q
     ·rw [h.next u (its[u]'(by omega)) (by simp)]
      refine (putAll_keep _ fun w' hw' hh => ?_).trans (ih (by omega) (by omega))
      rcases h1 u (its[u]'(by omega)) w' (by omega) (by simp) hw' hh with h' | h'
      ·exact hhi u _ (by omega) (by simp) (.inr (.inr (hc u _ w' (by simp) hw' hh).2)) h'
      ·omega
   exact (h4 t (by omega) (Nat.le_refl _)).trans h3
  ·have hno : ∀ w ∈ it.ws, ¬ w.hits k q := fun w h1 h2 => hw ⟨w, h1, h2⟩
   have := hinv.cells k q t htl (fun i x w hi hx hx' hh => (h1 i x w hi hx hx' hh).resolve_right fun e => by
    subst e
    rw [hj] at hx
    cases hx
    exact hno w hx' hh) (fun i x w hi hx hx' hh hs => h2 i x w hi hx hx' hh (.inl hs))
   refine this.trans ?_
   have hk := putAll_keep it.ws (H := c.H) hno
   have sym : Same1 c.H (putAll c.H it.ws) k q := by
    unfold Same1 at hk ⊢
    split at hk
    ·rename_i p p' e1 e2; rw [e1, e2]; exact ⟨hk.1.symm, hk.2.symm⟩
    ·rename_i e1 e2; rw [e1, e2]; obtain ⟨rfl, rfl, rfl, rfl, hf⟩ := hk; exact ⟨rfl, rfl, rfl, rfl, fun i => (hf i).symm⟩
    ·rw [hk]; exact Same1.refl c.H k q
   exact sym
 done := fun i x d hi hs hd => by
  rcases hs with hs | rfl
  ·have hne : it.o.dst ≠ some d := fun e => by
    have := h.dst i j x it d hi hj hd e
    subst this
    exact hS hs
   have := hinv.done i x d hi hs hd
   unfold Done at this ⊢
   split at this
   ·show c'.Reads _ _; rw [eval_put_ne hne]; exact ht.reads this
   ·show _ = _; rw [eval_put_ne hne]; exact this
   ·rename_i s w e
    show (_ /\ _ /\ _) \/ (_ /\ _)
    have hns : it.o.dst ≠ some s := fun es => by
     have hok := h.ok i x hi
     unfold ItemOK at hok
     rw [e] at hok
     obtain ⟨_, m, y, p, hg, hmi, hm, hyd, _⟩ := hok
     have hmj : m = j := h.dst m j y it s hm hj hyd es
     subst hmj
     have hl : s ∈ x.o.looksAt ops := by
      refine List.mem_append_right _ ?_
      rw [hg]
      have := h.op m y hm
      simp [this, hyd]
     rw [hj] at hm
     cases hm
     exact hhi i x hmi hi (.inl ⟨s, es, hl⟩) hs
    rw [eval_put_ne hne, eval_put_ne hns]
    exact this.imp (fun ⟨p, q, r⟩ => ⟨p, q, ht.reads r⟩) id
  ·rw [hj] at hi
   cases hi
   rw [hd]
   exact hv d hd
 rest := fun t ht' => by
  rw [eval_put_ne fun e => ht' j it hj (.inr rfl) e]
  exact hinv.rest t fun i x hi hs => ht' i x hi (.inl hs) }
end
end Go.Fx
/-
 A region, operation by operation in the text's order, and in any order that it may draw.
-/
namespace Go.Fx
open Go.RowKit
section
variable {X : Ctx} {ops : Array Oper} {its : List Item} {base : Nat -> AV} {Hs : Nat -> List HObj} {N : Nat} {c0 : Cfg} {a0 : Act}
theorem getD_bool {a : Act} {d : Nat} {b : Bool} (h : a.eval (.tmp d) = .bool b) : a.tmps[d]? = some (.bool b) := by
 have h : a.tmps.getD d undef = .bool b := h
 rw [Array.getD_eq_getD_getElem?] at h
 cases hx : a.tmps[d]? with
 | none => rw [hx] at h; cases h
 | some v => rw [hx] at h; simp at h; rw [h]
theorem yielded_is {a : Act} {i d : Nat} {y : Oper} {b : Bool} (hi : ops[i]? = some y) (hd : y.dst = some d) (h : a.eval (.tmp d) = .bool b) : yielded ops a.tmps i = some b := by
 unfold yielded
 simp [hi, hd, getD_bool h]
theorem yielded_not {a : Act} {i : Nat} {y : Oper} {b : Bool} (hi : ops[i]? = some y) (h : ∀ d, y.dst = some d -> a.eval (.tmp d) ≠ .bool b) : yielded ops a.tmps i ≠ some b := by
 unfold yielded
 rw [hi]
 cases hd : y.dst with
 | none => simp [hd]
 | some d =>
  have := h d hd
  intro he
  simp only [Option.bind_some, hd] at he
  split at he
  ·rename_i b' hb
   cases he
   apply this
   show a.tmps.getD d undef = _
   rw [Array.getD_eq_getD_getElem?, hb]
   rfl
  ·cases he
theorem guard_looks {i w : _} {o y : Oper} {d : Nat} (hg : o.guard = some (i, w)) (hi : ops[i]? = some y) (hd : y.dst = some d) : d ∈ o.looksAt ops := by
 refine List.mem_append_right _ ?_
 rw [hg]
 simp [hi, hd]
theorem Inv.step (hX : X.Good) (h : RegOK X ops its base Hs N) (hb : ∀ t, c0.Reads (base t) (a0.eval (.tmp t))) {S : Nat -> Prop} {c : Cfg} {a : Act} {j : Nat} {it : Item} (hj : its[j]? = some it) (hS : ¬ S j)
  (hlo : ∀ (i : Nat) x, i < j -> its[i]? = some x -> Conf ops x it -> S i) (hhi : ∀ (m : Nat) x, j < m -> its[m]? = some x -> Conf ops it x -> ¬ S m) (hinv : Inv X its Hs N c0 a0 S c a)
  {Q : Exit -> Act -> World -> Prop} {K : Act -> World -> Prop} (hK : ∀ c' a', Inv X its Hs N c0 a0 (fun i => S i \/ i = j) c' a' -> K a' c'.w) (ρ : Option Nat) : wpOpIn (FR ρ) 0 X.P ops Q j K a c.w := by
 have hop := h.op j it hj
 have hok := h.ok j it hj
 have hag := hinv.agree h hj hS hlo hhi
 have hrd := hinv.reads hX h hb hj hS hlo hhi
 have put : ∀ {v : Value} {d : Nat}, it.o.dst = some d -> (a.put (some d) v).eval (.tmp d) = v := fun {v d} hd => eval_put_same (by rw [hinv.size]; exact h.fits j it d hj hd)
 unfold wpOpIn
 rw [hop]
 simp only []
 unfold ItemOK at hok
 split at hok
 ·-- done for certain
  rename_i hm
  obtain ⟨hE, hg⟩ := hok
  have hw : Region.wanted it.o (yielded ops a.tmps) = true := by
   unfold Region.wanted
   rcases hg with hg | ⟨i, w, y, hg, hij, hi, hyd, hy⟩
   ·rw [hg]
   ·rw [hg]
    cases hd : y.o.dst with
    | none => exact absurd hd hyd
    | some d =>
     have hSi := hlo i y hij hi (.inl ⟨d, hd, guard_looks hg (h.op i y hi) hd⟩)
     have hD := hinv.done i y d hi hSi hd
     unfold Done at hD
     split at hy
     ·rename_i e
      rw [e] at hD
      have hD : c.Reads y.av (a.eval (.tmp d)) := hD
      rw [hy] at hD
      have := yielded_is (h.op i y hi) hd hD
      simp [this]
     ·exact hy.elim
  rw [if_pos hw]
  refine hE c a _ Q hinv.tr.ok hinv.base hag trivial hrd (fun c' v ht hH hv => hK c' _ (hinv.go h hj hS hlo hhi ht hH fun d hd => ?_)) ρ
  unfold Done
  rw [hm, put hd]
  exact hv
 ·-- left out for certain
  rename_i hm
  obtain ⟨hws, i, w, y, hg, hij, hi, hy⟩ := hok
  have hw : Region.wanted it.o (yielded ops a.tmps) = false := by
   unfold Region.wanted
   rw [hg]
   have : yielded ops a.tmps i ≠ some w := yielded_not (h.op i y hi) fun d hd => by
    have hSi := hlo i y hij hi (.inl ⟨d, hd, guard_looks hg (h.op i y hi) hd⟩)
    have hD := hinv.done i y d hi hSi hd
    unfold Done at hD
    split at hy
    ·rename_i e
     rw [e] at hD
     have hD : c.Reads y.av (a.eval (.tmp d)) := hD
     rw [hy] at hD
     have hD : a.eval (.tmp d) = .bool (!w) := hD
     rw [hD]
     intro e2
     cases w <;> cases e2
    ·rename_i e
     rw [e] at hD
     have hD : a.eval (.tmp d) = undef := hD
     rw [hD]
     exact undef_bool w
    ·exact hy.elim
   simpa using this
  rw [if_neg (by simp [hw])]
  refine ⟨fun _ _ => trivial, hK c _ (hinv.go h hj hS hlo hhi (.refl hinv.tr.ok) (by rw [hws]; rfl) fun d hd => ?_)⟩
  unfold Done
  rw [hm, put hd]
 ·-- done where a slot says so
  rename_i t w hm
  obtain ⟨hws, i, y, p, hg, hij, hi, hyd, hyp, hy, hE⟩ := hok
  have hSi := hlo i y hij hi (.inl ⟨t, hyd, guard_looks hg (h.op i y hi) hyd⟩)
  have hD := hinv.done i y t hi hSi hyd
  have hts : it.o.dst ≠ some t := fun e => by have := h.dst i j y it t hi hj hyd e; omega
  by_cases hT : a.eval (.tmp t) = .bool w
  ·have hw : Region.wanted it.o (yielded ops a.tmps) = true := by
    unfold Region.wanted
    rw [hg]
    have := yielded_is (h.op i y hi) hyd hT
    simp [this]
   have hgd : it.gd := by
    unfold Done at hD
    split at hy
    ·rename_i e
     rw [e] at hD
     have hD : c.Reads y.av (a.eval (.tmp t)) := hD
     rw [hyp] at hD
     have hD : a.eval (.tmp t) = .bool p := hD
     rw [hT] at hD
     cases hD
     exact hy rfl
    ·rename_i e
     rw [e] at hD
     rcases hD with hD | hD
     ·have hD2 : c.Reads y.av (a.eval (.tmp t)) := hD.2.2
      rw [hyp] at hD2
      have hD2 : a.eval (.tmp t) = .bool p := hD2
      rw [hT] at hD2
      cases hD2
      exact hy hD.2.1 rfl
     ·have := hD.2
      rw [hT] at this
      exact absurd this.symm (undef_bool w)
    ·exact hy.elim
   rw [if_pos hw]
   refine hE hgd c a _ Q hinv.tr.ok hinv.base hag hT hrd (fun c' v ht hH hv => hK c' _ (hinv.go h hj hS hlo hhi ht (by rw [hws]; exact hH) fun d hd => ?_)) ρ
   unfold Done
   rw [hm]
   refine .inl ⟨?_, hgd, ?_⟩
   ·rw [hd] at hts; rw [eval_put_ne hts]; exact hT
   ·rw [put hd]; exact hv
  ·have hw : Region.wanted it.o (yielded ops a.tmps) = false := by
    unfold Region.wanted
    rw [hg]
    have : yielded ops a.tmps i ≠ some w := yielded_not (h.op i y hi) fun d hd => by
     rw [hyd] at hd
     cases hd
     exact hT
    simpa using this
   rw [if_neg (by simp [hw])]
   refine ⟨fun _ _ => trivial, hK c _ (hinv.go h hj hS hlo hhi (.refl hinv.tr.ok) (by rw [hws]; rfl) fun d hd => ?_)⟩
   unfold Done
   rw [hm]
   refine .inr ⟨?_, put hd⟩
   rw [hd] at hts
   rw [eval_put_ne hts]
   exact hT
theorem region_text (hX : X.Good) (h : RegOK X ops its base Hs N) (hb : ∀ t, c0.Reads (base t) (a0.eval (.tmp t))) {Q : Exit -> Act -> World -> Prop}
  (hQ : ∀ c a, Inv X its Hs N c0 a0 (fun i => i < its.length) c a -> Q .normal a c.w) (ρ : Option Nat) :
  ∀ (k j : Nat) c a, j + k = its.length -> Inv X its Hs N c0 a0 (fun i => i < j) c a -> wpOpsIn (FR ρ) 0 X.P ops Q (List.range' j k) a c.w
 | 0, j, c, a, hjk, hinv => by
  have : j = its.length := by omega
  subst this
  exact hQ c a hinv
 | k + 1, j, c, a, hjk, hinv => by
  have hj : its[j]? = some (its[j]'(by omega)) := by simp
  rw [List.range'_succ, wpOpsIn_cons]
  refine hinv.step (S := fun i => i < j) hX h hb hj (Nat.lt_irrefl j) (fun i x hi _ _ => hi) (fun m x hm _ _ hlt => by omega) (fun c' a' hinv' => ?_) ρ
  refine region_text hX h hb hQ ρ k (j + 1) c' a' (by omega) ?_
  have e : (fun i => i < j \/ i = j) = (fun i => i < j + 1) := by funext i; exact propext ⟨fun h => by omega, fun h => by omega⟩
  rw [e] at hinv'
  exact hinv'
end
theorem masksGo_spec : ∀ (os : List Oper) (j : Nat) (ms : List Nat), ms.length = j -> (∀ i, i < j -> (masksGo os j ms).getD i 0 = ms.getD i 0) /\
  ∀ (i : Nat) o, os[i]? = some o -> ∃ ms', (masksGo os j ms).getD (j + i) 0 = depOf o ms' (j + i) /\ ∀ q, q < j + i -> ms'.getD q 0 = (masksGo os j ms).getD q 0
 | [], j, ms, _ => ⟨fun _ _ => rfl, fun i o h => by simp at h⟩
 | o :: os, j, ms, hl => by
  obtain ⟨h1, h2⟩ := masksGo_spec os (j + 1) (ms ++ [depOf o ms j]) (by simp [hl])
  have keep : ∀ i, i < j -> (masksGo (o :: os) j ms).getD i 0 = ms.getD i 0 := fun i hi => by
   simp only [masksGo]
   rw [h1 i (by omega)]
   simp only [List.getD_eq_getElem?_getD]
   rw [List.getElem?_append_left (by omega)]
  refine ⟨keep, fun i o' h => ?_⟩
  cases i with
  | zero =>
   simp only [List.getElem?_cons_zero, Option.some.injEq] at h
   subst h
   refine ⟨ms, ?_, fun q hq => (keep q hq).symm⟩
   simp only [masksGo, Nat.add_zero]
   rw [h1 j (by omega)]
   simp only [List.getD_eq_getElem?_getD]
   rw [List.getElem?_append_right (by omega)]
   simp [hl]
  | succ i =>
   obtain ⟨ms', k1, k2⟩ := h2 i o' (by simpa using h)
   refine ⟨ms', ?_, fun q hq => ?_⟩
   ·simp only [masksGo]
    rw [show j + (i + 1) = j + 1 + i by omega]
    exact k1
   ·simp only [masksGo]
    exact k2 q (by omega)
theorem testBit_depOf (ms : List Nat) (j m : Nat) : ∀ (l : List Edge), Nat.testBit (l.foldr (fun e m => bif Region.binds .any e then m ||| ((1 <<< e.on) ||| (bif Nat.blt e.on j then ms.getD e.on 0 else 0)) else m) 0) m = true ->
  ∃ e ∈ l, Region.binds .any e = true /\ (m = e.on \/ (e.on < j /\ Nat.testBit (ms.getD e.on 0) m = true))
 | [], h => by simp at h
 | e :: l, h => by
  simp only [List.foldr_cons] at h
  cases hb : Region.binds .any e with
  | false =>
   rw [hb] at h
   simp only [cond_false] at h
   obtain ⟨e', h1, h2⟩ := testBit_depOf ms j m l h
   exact ⟨e', List.mem_cons_of_mem _ h1, h2⟩
  | true =>
   rw [hb] at h
   simp only [cond_true, Nat.testBit_or, Bool.or_eq_true] at h
   rcases h with h | h | h
   ·obtain ⟨e', h1, h2⟩ := testBit_depOf ms j m l h
    exact ⟨e', List.mem_cons_of_mem _ h1, h2⟩
   ·refine ⟨e, List.mem_cons_self .., hb, .inl ?_⟩
    rw [Nat.one_shiftLeft, Nat.testBit_two_pow] at h
    exact (by simpa using h : e.on = m).symm
   ·refine ⟨e, List.mem_cons_self .., hb, .inr ?_⟩
    cases hlt : Nat.blt e.on j with
    | false => rw [hlt] at h; simp at h
    | true => rw [hlt] at h; exact ⟨(by rwa [Nat.blt_eq] at hlt), h⟩
theorem masks_spec {ops : Array Oper} {S : Nat -> Prop} (hS : ∀ (j : Nat) o, ops[j]? = some o -> S j -> ∀ e ∈ o.after, Region.binds .any e = true -> S e.on) :
  ∀ (n j : Nat) o, j < n -> ops[j]? = some o -> (∀ e ∈ o.after, Region.binds .any e = true -> S e.on) -> ∀ m, Nat.testBit ((masks ops).getD j 0) m = true -> S m
 | 0, j, o, hj, _, _, _, _ => by omega
 | n + 1, j, o, hj, ho, hr, m, hm => by
  obtain ⟨_, h2⟩ := masksGo_spec ops.toList 0 [] rfl
  obtain ⟨ms', k1, k2⟩ := h2 j o (by simpa using ho)
  simp only [Nat.zero_add] at k1 k2
  unfold masks at hm
  rw [k1] at hm
  obtain ⟨e, e1, e2, e3⟩ := testBit_depOf ms' j m o.after.toList hm
  have hSe := hr e (by simpa using e1) e2
  rcases e3 with rfl | ⟨hlt, hbit⟩
  ·exact hSe
  ·rw [k2 e.on hlt] at hbit
   cases hoe : ops[e.on]? with
   | none =>
    have h1 := Array.getElem?_eq_none_iff.1 hoe
    have h2 := (Array.getElem?_eq_some_iff.1 ho).1
    omega
   | some oe => exact masks_spec hS n e.on oe (by omega) hoe (hS e.on oe hoe hSe) m hbit
theorem pairs_spec {f : Nat -> Nat -> Bool} {n : Nat} (h : pairs f n = true) {i j : Nat} (hi : i < j) (hj : j < n) : f i j = true := by
 simp only [pairs, List.all_eq_true, List.mem_range] at h
 exact h j hj i hi
def footOK (ops : Array Oper) (its : List Item) : Bool :=
 its.all (fun x => x.ws.isEmpty) ||
 let ms := masks ops
 pairs (fun i j => match its[i]?, its[j]? with | some x, some y => !(confI x y) || (ms.getD j 0).testBit i | _, _ => true) its.length
theorem conf_bit {ops : Array Oper} {its : List Item} (h1 : orderOK ops = true) (h2 : footOK ops its = true) (hop : ∀ (j : Nat) it, its[j]? = some it -> ops[j]? = some it.o) {i j : Nat} {x y : Item} (hi : its[i]? = some x) (hj : its[j]? = some y) (hij : i < j)
  (hc : Conf ops x y) : Nat.testBit ((masks ops).getD j 0) i = true := by
 have hox := hop i x hi
 have hoy := hop j y hj
 have hjs : j < ops.size := (Array.getElem?_eq_some_iff.1 hoy).1
 have hjl : j < its.length := (List.getElem?_eq_some_iff.1 hj).1
 simp only [orderOK, Bool.and_eq_true] at h1
 have hp := pairs_spec h1.2 hij hjs
 have tcase : confT ops i j = true -> Nat.testBit ((masks ops).getD j 0) i = true := fun h => by
  rw [h] at hp
  simpa using hp
 rcases hc with ⟨d, hd, hl⟩ | ⟨d, hd, hl⟩ | hc
 ·refine tcase ?_
  simp only [confT, hox, hoy, hd, Bool.or_eq_true]
  exact .inl (by simpa using hl)
 ·refine tcase ?_
  simp only [confT, hox, hoy, hd, Bool.or_eq_true]
  exact .inr (by simpa using hl)
 ·simp only [footOK, Bool.or_eq_true] at h2
  rcases h2 with h2 | h2
  ·exfalso
   simp only [List.all_eq_true, List.isEmpty_iff] at h2
   have e1 := h2 x (List.mem_of_getElem? hi)
   have e2 := h2 y (List.mem_of_getElem? hj)
   simp [confI, e1, e2] at hc
  ·have hp := pairs_spec h2 hij hjl
   simp only [hi, hj, hc] at hp
   simpa using hp
section
variable {X : Ctx} {ops : Array Oper} {its : List Item} {base : Nat -> AV} {Hs : Nat -> List HObj} {N : Nat} {c0 : Cfg} {a0 : Act}
theorem region_any (hX : X.Good) (h : RegOK X ops its base Hs N) (hlen : its.length = ops.size) (h1 : orderOK ops = true) (h2 : footOK ops its = true) (hb : ∀ t, c0.Reads (base t) (a0.eval (.tmp t))) {Q : Exit -> Act -> World -> Prop}
  (hQ : ∀ c a, Inv X its Hs N c0 a0 (fun i => i < its.length) c a -> Q .normal a c.w) (ρ : Option Nat) :
  ∀ (fuel : Nat) (listed : Array Bool) c a, listed.size = ops.size -> ((List.range ops.size).filter fun i => !(listed.getD i true)).length <= fuel ->
   (∀ (j : Nat) o, ops[j]? = some o -> listed.getD j false = true -> ∀ e ∈ o.after, Region.binds .any e = true -> listed.getD e.on false = true) ->
   Inv X its Hs N c0 a0 (fun i => listed.getD i false = true) c a -> wpAnyIn (FR ρ) 0 X.P .any ops Q fuel listed a c.w := by
 have hlow : lower ops = true := by simp only [orderOK, Bool.and_eq_true] at h1; exact h1.1
 have same : ∀ (l : Array Bool) (i : Nat), l.size = ops.size -> i < ops.size -> (l.getD i true = false ↔ l.getD i false = false) := fun l i hl hi => by
  simp [Array.getElem?_eq_getElem (show i < l.size by omega)]
 -- nothing is ready: all are listed
 have done : ∀ (l : Array Bool), l.size = ops.size -> Region.ready .any ops l = [] -> ∀ n j, j < n -> j < ops.size -> l.getD j false = true := by
  intro l hl hr n
  induction n with
  | zero => intro j hj; omega
  | succ n ih =>
   intro j hj hjs
   cases hx : l.getD j false with
   | true => rfl
   | false =>
    exfalso
    have hmem : j ∈ Region.ready .any ops l := by
     rw [mem_ready]
     have ho : ops[j]? = some ops[j] := by simp
     refine ⟨(same l j hl hjs).2 hx, ops[j], ho, fun e he hb' => ?_⟩
     have := hlow
     simp only [lower, List.all_eq_true, List.mem_range] at this
     have := this j hjs
     rw [ho] at this
     simp only [List.all_eq_true] at this
     have := this e (by simpa using he)
     rw [hb'] at this
     have hlt : e.on < j := by simpa using this
     exact ih e.on (by omega) (by omega)
    rw [hr] at hmem
    cases hmem
 have fin : ∀ (l : Array Bool) c a, l.size = ops.size -> Region.ready .any ops l = [] -> Inv X its Hs N c0 a0 (fun i => l.getD i false = true) c a -> Q .normal a c.w := by
  intro l c a hl hr hinv
  refine hQ c a ?_
  have e : (fun i => l.getD i false = true) = (fun i => i < its.length) := by
   funext i
   refine propext ⟨fun hi => ?_, fun hi => done l hl hr (i + 1) i (Nat.lt_succ_self i) (by omega)⟩
   rcases Nat.lt_or_ge i its.length with h' | h'
   ·exact h'
   ·simp [Array.getElem?_eq_none (show l.size <= i by omega)] at hi
  rw [e] at hinv
  exact hinv
 intro fuel
 induction fuel with
 | zero =>
  intro listed c a hl hf hc hinv
  have hr : Region.ready .any ops listed = [] := by
   rw [List.eq_nil_iff_forall_not_mem]
   intro j hj
   obtain ⟨h0, o, ho, _⟩ := mem_ready.1 hj
   have hjs : j < ops.size := (Array.getElem?_eq_some_iff.1 ho).1
   have : j ∈ (List.range ops.size).filter fun i => !(listed.getD i true) := List.mem_filter.2 ⟨List.mem_range.2 hjs, by rw [h0]; rfl⟩
   have hpos := List.length_pos_of_mem this
   omega
  exact ⟨hr, fin listed c a hl hr hinv⟩
 | succ fuel ih =>
  intro listed c a hl hf hc hinv
  refine ⟨fun hr => fin listed c a hl hr hinv, fun j hj => ?_⟩
  obtain ⟨h0, o, ho, hall⟩ := mem_ready.1 hj
  have hjs : j < ops.size := (Array.getElem?_eq_some_iff.1 ho).1
  have hjn : listed.getD j false = false := (same listed j hl hjs).1 h0
  have hit : its[j]? = some (its[j]'(by omega)) := by simp
  have hoj : ops[j]? = some (its[j]'(by omega)).o := h.op j _ hit
  have hoo : o = (its[j]'(by omega)).o := by rw [ho] at hoj; exact Option.some.inj hoj
  refine hinv.step (S := fun i => listed.getD i false = true) hX h hb hit (by rw [hjn]; simp) (fun i x hij hi hcf => ?_) (fun m x hm hi hcf hS => ?_) (fun c' a' hinv' => ?_) ρ
  ·exact masks_spec (S := fun i => listed.getD i false = true) hc (j + 1) j o (Nat.lt_succ_self j) ho hall i (conf_bit h1 h2 h.op hi hit hij hcf)
  ·have := masks_spec (S := fun i => listed.getD i false = true) hc (m + 1) m x.o (Nat.lt_succ_self m) (h.op m x hi) (hc m x.o (h.op m x hi) hS) j (conf_bit h1 h2 h.op hit hi hm hcf)
   rw [hjn] at this
   cases this
  ·have e : (fun i => listed.getD i false = true \/ i = j) = (fun i => (listed.setIfInBounds j true).getD i false = true) := by
    funext i
    refine propext ⟨fun h' => ?_, fun h' => ?_⟩
    ·rcases h' with h' | rfl
     ·exact getD_set_true h'
     ·simp [show i < listed.size by omega]
    ·by_cases hij : j = i
     ·exact .inr hij.symm
     ·rw [getD_set_ne false hij] at h'
      exact .inl h'
   rw [e] at hinv'
   refine ih (listed.setIfInBounds j true) c' a' (by simpa using hl) ?_ (fun i oi hi hS ed hed hb' => ?_) hinv'
   ·have hlt : ((List.range ops.size).filter fun i => !((listed.setIfInBounds j true).getD i true)).length < ((List.range ops.size).filter fun i => !(listed.getD i true)).length := by
     have hsub : ((List.range ops.size).filter fun i => !((listed.setIfInBounds j true).getD i true)) = ((List.range ops.size).filter fun i => !(listed.getD i true)).filter fun i => !(i == j) := by
      rw [List.filter_filter]
      refine List.filter_congr fun i hi => ?_
      have hi := List.mem_range.1 hi
      by_cases hij : j = i
      ·subst hij; simp [show j < listed.size by omega]
      ·rw [getD_set_ne true hij]
       simp [show ¬ i = j from fun e => hij e.symm]
     rw [hsub]
     refine Nat.lt_of_le_of_ne (List.length_filter_le _ _) fun e' => ?_
     rw [List.length_filter_eq_length_iff] at e'
     have := e' j (List.mem_filter.2 ⟨List.mem_range.2 hjs, by rw [h0]; rfl⟩)
     simp at this
    omega
   ·by_cases hij : j = i
    ·subst hij
     rw [ho] at hi
     cases hi
     exact getD_set_true (hall ed hed hb')
    ·rw [getD_set_ne false hij] at hS
     exact getD_set_true (hc i oi hi hS ed hed hb')
end
end Go.Fx
/-
 Owned blocks told more weakly; operations read as a program.
-/
namespace Go.Fx
open Go.RowKit
inductive LeO : HObj -> HObj -> Prop where
 | refl (o : HObj) : LeO o o
 | dead (o : HObj) : LeO o .dead
 | box {a b : List AV} (hl : a.length = b.length) (h : ∀ (j : Nat) x y, a[j]? = some x -> b[j]? = some y -> Le x y) : LeO (.box a) (.box b)
 | list {e es n ver : Nat} {f g : Nat -> Nat -> AV} (h : ∀ i j, i < n -> j < es -> Le (f i j) (g i j)) : LeO (.list e es n f ver) (.list e es n g ver)
 | last {e es n ver : Nat} {a b : List AV} (hl : a.length = b.length) (h : ∀ (j : Nat) x y, a[j]? = some x -> b[j]? = some y -> Le x y) : LeO (.last e es n a ver) (.last e es n b ver)
 | lastL {e es n ver : Nat} {f : Nat -> Nat -> AV} {b : List AV} (hn : 0 < n) (hl : b.length = es) (h : ∀ (j : Nat) y, b[j]? = some y -> Le (f (n - 1) j) y) : LeO (.list e es n f ver) (.last e es n b ver)
 | full {e es n ver : Nat} {f : Nat -> Nat -> AV} {b : List AV} (hn : 0 < n) (hl : b.length = n * es) (h : ∀ (i j : Nat) y, i < n -> j < es -> b[i * es + j]? = some y -> Le (f i j) y) : LeO (.list e es n f ver) (.last e es n b ver)
def LeOs : List HObj -> List HObj -> Prop
 | [], [] => True
 | a :: as, b :: bs => LeO a b /\ LeOs as bs
 | _, _ => False
theorem LeOs.len : ∀ {as bs : List HObj}, LeOs as bs -> bs.length = as.length
 | [], [], _ => rfl
 | _ :: _, _ :: _, ⟨_, h⟩ => by simp [h.len]
theorem LeOs.at : ∀ {as bs : List HObj}, LeOs as bs -> ∀ (j : Nat) a b, as[j]? = some a -> bs[j]? = some b -> LeO a b
 | [], [], _, j, a, b, h, _ => by simp at h
 | _ :: _, _ :: _, ⟨h0, h⟩, 0, a, b, h1, h2 => by simp at h1 h2; subst h1 h2; exact h0
 | _ :: _, _ :: _, ⟨h0, h⟩, j + 1, a, b, h1, h2 => h.at j a b (by simpa using h1) (by simpa using h2)
theorem LeOs.refl : ∀ (l : List HObj), LeOs l l
 | [] => trivial
 | o :: l => ⟨.refl o, .refl l⟩
theorem LeO.blk {g : Nat -> GO} {k : Nat} {o o' : HObj} (h : LeO o o') : Fx.blk g k o' = Fx.blk g k o \/ Fx.blk g k o' = none := by
 cases h <;> first | exact .inl rfl | exact .inr rfl
theorem LeO.holds {g : Nat -> GO} {I : Nat -> Nat -> Prop} {w : World} {m k : Nat} {o o' : HObj} (h : LeO o o') (hh : Holds g I w m k o) : Holds g I w m k o' := by
 cases h with
 | refl => exact hh
 | dead => trivial
 | box hl h =>
  obtain ⟨h0, cs, T, h1, h2, h3⟩ := hh
  refine ⟨h0, cs, T, h1, by omega, fun j av hj => ?_⟩
  have hlt := (List.getElem?_eq_some_iff.1 hj).1
  obtain ⟨x, x1, x2, x3⟩ := h3 j _ (List.getElem?_eq_getElem (show j < _ by omega))
  exact ⟨x, x1, x2, (h j _ av (List.getElem?_eq_getElem (by omega)) hj).reads x3⟩
 | list h =>
  obtain ⟨h1, h0, xs, h2, h3, h4⟩ := hh
  exact ⟨h1, h0, xs, h2, h3, fun i j hi hj => let ⟨x, x1, x2⟩ := h4 i j hi hj; ⟨x, x1, (h i j hi hj).reads x2⟩⟩
 | last hl h =>
  obtain ⟨h1, h0, xs, h2, h3, hn, hc, h4⟩ := hh
  refine ⟨h1, h0, xs, h2, h3, hn, by omega, fun j av hj => ?_⟩
  have hlt := (List.getElem?_eq_some_iff.1 hj).1
  obtain ⟨x, x1, x2⟩ := h4 j _ (List.getElem?_eq_getElem (show j < _ by omega))
  exact ⟨x, by rw [<- hl]; exact x1, (h j _ av (List.getElem?_eq_getElem (by omega)) hj).reads x2⟩
 | @lastL e es n ver f b hn hl h =>
  obtain ⟨h1, h0, xs, h2, h3, h4⟩ := hh
  have hne : n * es = (n - 1) * es + es := by
   obtain ⟨m, rfl⟩ : ∃ m, n = m + 1 := ⟨n - 1, by omega⟩
   rw [Nat.add_sub_cancel, Nat.succ_mul]
  refine ⟨h1, h0, xs, h2, h3, hn, by omega, fun j av hj => ?_⟩
  have hlt := (List.getElem?_eq_some_iff.1 hj).1
  obtain ⟨x, x1, x2⟩ := h4 (n - 1) j (Nat.sub_lt hn Nat.one_pos) (by omega)
  exact ⟨x, by rw [show n * es - b.length + j = (n - 1) * es + j by omega]; exact x1, Reads.zero ((h j av hj).reads x2)⟩
 | @full e es n ver f b hn hl h =>
  obtain ⟨h1, h0, xs, h2, h3, h4⟩ := hh
  refine ⟨h1, h0, xs, h2, h3, hn, by omega, fun j av hj => ?_⟩
  have hlt := (List.getElem?_eq_some_iff.1 hj).1
  rw [hl] at hlt
  have hes : 0 < es := by
   rcases Nat.eq_zero_or_pos es with rfl | h'
   ·simp at hlt
   ·exact h'
  have hd : j / es < n := Nat.div_lt_of_lt_mul (by rw [Nat.mul_comm]; exact hlt)
  have hm := Nat.mod_lt j hes
  have hj2 : j / es * es + j % es = j := by rw [Nat.mul_comm]; exact Nat.div_add_mod j es
  obtain ⟨x, x1, x2⟩ := h4 (j / es) (j % es) hd hm
  rw [hj2] at x1
  exact ⟨x, by rw [show n * es - b.length + j = j by omega]; exact x1, Reads.zero ((h (j / es) (j % es) av hd hm (by rw [hj2]; exact hj)).reads x2)⟩
theorem Tr.weaken {c : Cfg} (hok : c.Ok) {H' : List HObj} (hlen : H'.length = c.H.length) (h : ∀ (k : Nat) o o', c.H[k]? = some o -> H'[k]? = some o' -> LeO o o') : Tr c { c with H := H' } := by
 have back : ∀ (k : Nat) o', H'[k]? = some o' -> ∃ o, c.H[k]? = some o /\ LeO o o' := fun k o' hk => by
  have hlt := (List.getElem?_eq_some_iff.1 hk).1
  exact ⟨_, List.getElem?_eq_getElem (by omega), h k _ o' (List.getElem?_eq_getElem (by omega)) hk⟩
 have bb : ∀ (k : Nat) o' b, H'[k]? = some o' -> blk c.g k o' = some b -> ∃ o, c.H[k]? = some o /\ blk c.g k o = some b := fun k o' b hk hb => by
  obtain ⟨o, h1, h2⟩ := back k o' hk
  rcases h2.blk (g := c.g) (k := k) with e | e
  ·exact ⟨o, h1, by rw [<- e]; exact hb⟩
  ·rw [e] at hb; cases hb
 refine ⟨⟨fun k o' hk => ?_, fun i j oi oj b hi hj hne hbi hbj => ?_, fun k o b hk hb => ?_, hok.imm, fun b p k o hI hk hb => ?_⟩, Nat.le_of_eq hlen.symm, fun k _ => ⟨fun _ => rfl, Nat.le_refl _, fun _ => rfl⟩, fun b o hI => ⟨hI, rfl⟩, fun b o hI => .inl hI,
  fun b ⟨k, o, hk, hb⟩ => let ⟨o2, h1, h2⟩ := bb k o b hk hb; .inr ⟨k, o2, h1, h2⟩, rfl, rfl, rfl, Nat.le_refl _, fun _ _ _ => rfl⟩
 ·obtain ⟨o, h1, h2⟩ := back k o' hk
  show Holds c.g c.I c.w H'.length k o'
  rw [hlen]
  exact h2.holds (hok.obj k o h1)
 ·obtain ⟨o1, p1, p2⟩ := bb i oi b hi hbi
  obtain ⟨o2, q1, q2⟩ := bb j oj b hj hbj
  exact hok.apart i j o1 o2 b p1 q1 hne p2 q2
 ·obtain ⟨o1, p1, p2⟩ := bb k o b hk hb
  exact hok.old k o1 b p1 p2
 ·obtain ⟨o1, p1, p2⟩ := bb k o b hk hb
  exact hok.immApart b p k o1 hI p1 p2
def Sc (gd : Option Prop) (p : Prop) : Prop := match gd with | none => p | some q => q -> p
section
variable {gd : Option Prop} {p q r s t : Prop}
theorem Sc.of (h : p) : Sc gd p := by unfold Sc; split <;> simp_all
theorem Sc.map (f : p -> q) (h : Sc gd p) : Sc gd q := by unfold Sc at *; split at h <;> simp_all
theorem Sc.map2 (f : p -> q -> r) (h1 : Sc gd p) (h2 : Sc gd q) : Sc gd r := by unfold Sc at *; split at h1 <;> simp_all
end
inductive Alt (a b : Prop) : Prop where
 | one (h : a) : Alt a b
 | two (h : b) : Alt a b
def AV.owns : AV -> List Nat
 | .own k _ => [k]
 | .agg n f => (List.range n).flatMap fun j => (f j).owns
 | .tup n f => (List.range n).flatMap fun j => (f j).owns
 | _ => []
def onlyGo (ks : List Nat) : Nat -> List HObj -> List HObj
 | _, [] => []
 | i, o :: H => (bif ks.contains i then o else .dead) :: onlyGo ks (i + 1) H
def only (ks : List Nat) (H : List HObj) : List HObj := onlyGo ks 0 H
theorem onlyGo_get (ks : List Nat) : ∀ (H : List HObj) (i j : Nat), (onlyGo ks i H)[j]? = (H[j]?).map fun o => bif ks.contains (i + j) then o else .dead
 | [], i, j => by simp [onlyGo]
 | o :: H, i, 0 => by simp [onlyGo]
 | o :: H, i, j + 1 => by simp only [onlyGo, List.getElem?_cons_succ]; rw [onlyGo_get ks H (i + 1) j]; congr 2; rw [show i + 1 + j = i + (j + 1) by omega]
theorem only_list {ks : List Nat} {H : List HObj} {k e es n ver : Nat} {f : Nat -> Nat -> AV} (h : (only ks H)[k]? = some (.list e es n f ver)) : H[k]? = some (.list e es n f ver) /\ k ∈ ks := by
 unfold only at h
 rw [onlyGo_get] at h
 simp only [Nat.zero_add, Option.map_eq_some_iff] at h
 obtain ⟨o, h1, h2⟩ := h
 cases hc : ks.contains k with
 | true => rw [hc] at h2; simp only [cond_true] at h2; subst h2; exact ⟨h1, by simpa using hc⟩
 | false => rw [hc] at h2; simp at h2
theorem StepE.congr {X : Ctx} {o : Oper} {R : Option (Nat × Bool) -> Operand -> AV} {g : Option (Nat × Bool)} {H G : List HObj} {rs : List Rg} {av : AV} {ws : List W} (h : StepE X o R g H rs av ws) (he : ∀ r ∈ rs, H[r.k]? = G[r.k]?) : StepE X o R g G rs av ws := by
 intro c a K Q hok hb hag hg hr hk
 refine h c a K Q hok hb (fun r hr' => ?_) hg hr hk
 obtain ⟨⟨j, h1⟩, h2⟩ := hag r hr'
 exact ⟨⟨j, h1.congr (he r hr') rfl⟩, fun j hj => (h2 j hj).congr (he r hr') rfl⟩
def forceN {A : Type} : Nat -> (Nat -> A) -> A
 | 0, K => K 0
 | n + 1, K => forceN n fun n => K (n + 1)
theorem forceN_eq {A : Type} : ∀ (n : Nat) (K : Nat -> A), forceN n K = K n
 | 0, K => rfl
 | n + 1, K => by simp only [forceN]; rw [forceN_eq n]
def AV.force {A : Type} (v : AV) (K : AV -> A) : A :=
 match v with
 | .int k n => K (.int k n)
 | .bool b => K (.bool b)
 | .str s => K (.str s)
 | .agg n f => K (.agg n f)
 | .tup n f => K (.tup n f)
 | .ptr k off => forceN k fun k => K (.ptr k off)
 | .lptr k ver es i off => K (.lptr k ver es i off)
 | .ip n f off => K (.ip n f off)
 | .slc es n f => K (.slc es n f)
 | .slc0 => K .slc0
 | .own k ver => forceN k fun k => K (.own k ver)
 | .fn f n caps => K (.fn f n caps)
 | .ifc => K .ifc
 | .val v => K (.val v)
 | .any => K .any
 | .yld k => forceN k fun k => K (.yld k)
theorem AV.force_eq {A : Type} (v : AV) (K : AV -> A) : v.force K = K v := by cases v <;> simp [AV.force, forceN_eq]
def forceL {A : Type} : List AV -> (List AV -> A) -> A
 | [], K => K []
 | a :: l, K => a.force fun a => forceL l fun l => K (a :: l)
theorem forceL_eq {A : Type} : ∀ (l : List AV) (K : List AV -> A), forceL l K = K l
 | [], K => rfl
 | a :: l, K => by simp only [forceL]; rw [AV.force_eq, forceL_eq l]
def HObj.force {A : Type} (o : HObj) (K : HObj -> A) : A :=
 match o with
 | .box cells => forceL cells fun cells => K (.box cells)
 | .list e es n f ver => K (.list e es n f ver)
 | .dead => K .dead
 | .hole => K .hole
 | .lrec st pend N e ps assign body => K (.lrec st pend N e ps assign body)
 | .iter s pos => K (.iter s pos)
 | .last e es n cells ver => forceL cells fun cells => K (.last e es n cells ver)
theorem HObj.force_eq {A : Type} (o : HObj) (K : HObj -> A) : o.force K = K o := by cases o <;> simp [HObj.force, forceL_eq]
def forceH {A : Type} : List HObj -> (List HObj -> A) -> A
 | [], K => K []
 | o :: H, K => o.force fun o => forceH H fun H => K (o :: H)
theorem forceH_eq {A : Type} : ∀ (H : List HObj) (K : List HObj -> A), forceH H K = K H
 | [], K => rfl
 | o :: H, K => by simp only [forceH]; rw [HObj.force_eq, forceH_eq H]
end Go.Fx
/-
 An operation, read as a program: what must be shown of it, and what it gives and turns.
-/
namespace Go.Fx
open Go.RowKit
abbrev KT (A : Type) := AV -> List Rg -> List W -> Nat -> A
instance (k : IntKind) (n : Int) : Decidable (inK k n) := by cases k <;> unfold inK <;> infer_instance
structure Md (A : Type) where
 fail : A
 sc : Option Prop -> (p : Prop) -> [Decidable p] -> A -> A
 call : Option Prop -> List HObj -> FuncId -> List AV -> KT A -> A
 slices : A -> A -> A
 br : Bool -> A -> A -> A
 norm : AV -> (AV -> A) -> A
 deep : AV -> (AV -> A) -> A
 eff : List HObj -> Nat -> List W -> (List HObj -> A) -> A
 effN : List HObj -> Nat -> List W -> (List HObj -> A) -> A
def sameK (a b : IntKind) : Bool := decide (a = b)
def evInt {A : Type} (M : Md A) (gd : Option Prop) (op : BinOp) (ka : IntKind) (n m : Int) (k : KT A) : A :=
 match op with
 | .add => M.sc gd (inK ka (n + m)) <| k (.int ka (n + m)) [] [] 0
 | .sub => M.sc gd (inK ka (n - m)) <| k (.int ka (n - m)) [] [] 0
 | .mul => M.sc gd (inK ka (n * m)) <| k (.int ka (n * m)) [] [] 0
 | .quo => M.sc gd (m ≠ 0) <| M.sc gd (inK ka (n.tdiv m)) <| k (.int ka (n.tdiv m)) [] [] 0
 | .rem => M.sc gd (m ≠ 0) <| k (.int ka (n.tmod m)) [] [] 0
 | .shr => M.sc gd (0 <= m /\ m.toNat <= ka.bits) <| k (.int ka (n.fdiv (2 ^ m.toNat))) [] [] 0
 | .eql => k (.bool (n == m)) [] [] 0
 | .neq => k (.bool (n != m)) [] [] 0
 | .lss => k (.bool (decide (n < m))) [] [] 0
 | .leq => k (.bool (decide (n <= m))) [] [] 0
 | .gtr => k (.bool (decide (m < n))) [] [] 0
 | .geq => k (.bool (decide (m <= n))) [] [] 0
 | _ => M.fail
def evStr {A : Type} (M : Md A) (gd : Option Prop) (op : BinOp) (p q : ByteArray) (k : KT A) : A :=
 match op with
 | .add => M.sc gd (p.size + q.size <= 9223372036854775807) <| M.deep (.str (p ++ q)) fun v => k v [] [] 0
 | .eql => k (.bool (decide (p = q))) [] [] 0
 | .neq => k (.bool (!decide (p = q))) [] [] 0
 | _ => M.fail
def evAgg {A : Type} (M : Md A) (X : Ctx) (op : BinOp) (t : TypeId) (a b : AV) (k : KT A) : A :=
 match X.T t with
 | some i =>
  bif i.cmp then
   match eqAV X 8 t a b with
   | some r => match op with | .eql => k (.bool r) [] [] 0 | .neq => k (.bool (!r)) [] [] 0 | _ => M.fail
   | none => M.fail
  else M.fail
 | none => M.fail
def isNil : Operand -> Bool
 | .const .nilIface => true
 | _ => false
def isNilS : Operand -> Bool
 | .const (.slice none 0 0) => true
 | _ => false
def isSl (X : Ctx) (t : TypeId) : Bool := match X.T t with | some i => i.elemOf.isSome | none => false
def isIfc (X : Ctx) (t : TypeId) : Bool := match X.T t with | some i => (match i.kind with | .ifc => true | _ => false) | none => false
def isBl (X : Ctx) (t : TypeId) : Bool := match X.T t with | some i => (match i.kind with | .bool => true | _ => false) | none => false
def evBin {A : Type} (M : Md A) (X : Ctx) (gd : Option Prop) (H : List HObj) (op : BinOp) (t : TypeId) (y : Operand) (a b : AV) (k : KT A) : A :=
 match a, b with
 | .int ka n, .int kb m => bif sameK ka kb then evInt M gd op ka n m k else M.fail
 | .str p, .str q => evStr M gd op p q k
 | .agg n f, .agg m g => evAgg M X op t (.agg n f) (.agg m g) k
 | .bool p, .bool q => match op with | .eql => bif isBl X t then k (.bool (p == q)) [] [] 0 else M.fail | .neq => bif isBl X t then k (.bool (!(p == q))) [] [] 0 else M.fail | _ => M.fail
 | .val .nilIface, _ => match op with | .eql => bif isNil y && isIfc X t then k (.bool true) [] [] 0 else M.fail | .neq => bif isNil y && isIfc X t then k (.bool false) [] [] 0 else M.fail | _ => M.fail
 | .val (.slice ad _ _), _ => match op with | .eql => bif isNilS y && isSl X t then k (.bool ad.isNone) [] [] 0 else M.fail | _ => M.fail
 | .ifc, _ => match op with | .eql => bif isNil y && isIfc X t then k (.bool false) [] [] 0 else M.fail | .neq => bif isNil y && isIfc X t then k (.bool true) [] [] 0 else M.fail | _ => M.fail
 | .slc _ n _, _ => match op with | .eql => bif isNilS y && isSl X t then M.sc gd (0 < n) <| k (.bool false) [] [] 0 else M.fail | _ => M.fail
 | .own q ver, _ =>
  match op with
  | .eql =>
   match H[q]? with
   | some (.list _ _ n _ ver') => bif isNilS y && isSl X t && Nat.beq ver ver' then M.sc gd (0 < n) <| k (.bool false) [⟨q, 0, none⟩] [] 0 else M.fail
   | _ => M.fail
  | _ => M.fail
 | _, _ => M.fail
def evPick {A : Type} (M : Md A) (p : Bool) (a b : AV) (k : KT A) : A :=
 match a, b with
 | .bool x, .bool y => k (.bool (bif p then x else y)) [] [] 0
 | .bool x, _ => M.sc none (p = true) <| k (.bool x) [] [] 0
 | _, .bool y => M.sc none (p = false) <| k (.bool y) [] [] 0
 | _, _ => M.fail
def evBuild {A : Type} (M : Md A) (X : Ctx) (t : TypeId) (parts : List (Nat × AV)) (k : KT A) : A :=
 match X.T t with
 | none => M.fail
 | some i =>
  match i.kind with
  | .struct fs => bif sized X fs then (match overlay (fun n => (placesOf X fs)[n]?) (i.zero.map ofVal) parts with | some out => forceL out fun out => k (.agg out.length (fun j => out.getD j .any)) [] [] 0 | none => M.fail) else M.fail
  | .array n e =>
   match X.T e with
   | none => M.fail
   | some ei => match overlay (fun q => some (q * ei.size, ei.size)) (i.zero.map ofVal) parts with | some out => forceL out fun out => k (.agg out.length (fun j => out.getD j .any)) [] [] 0 | none => M.fail
  | _ => M.fail
def evBuildSlice {A : Type} (M : Md A) (X : Ctx) (gd : Option Prop) (H : List HObj) (t : TypeId) (len : Nat) (parts : Array (Nat × Operand)) (ρ : Operand -> AV) (k : KT A) : A :=
 match X.T t with
 | none => M.fail
 | some i =>
  match i.elemOf with
  | none => M.fail
  | some e =>
   match X.T e with
   | none => M.fail
   | some ei =>
    match len with
    | 0 => bif parts.isEmpty then k .slc0 [] [] 0 else M.fail
    | len' + 1 =>
     match overlay (fun q => some (q * ei.size, ei.size)) (zeros ei (len' + 1)) (parts.toList.map fun p => (p.1, ρ p.2)) with
     | none => M.fail
     | some out => forceL out fun out =>
      bif Nat.ble ((len' + 1) * ei.size) 16777216 && Nat.beq out.length ((len' + 1) * ei.size) && out.all (·.free) && Nat.ble (len' + 1) 9223372036854775807 then
       M.slices (k (.slc ei.size (len' + 1) (fun p j => out.getD (p * ei.size + j) .any)) [] [] 0)
        (k (.own H.length 1) [⟨H.length, 0, none⟩] [.set H.length (.list e ei.size (len' + 1) (fun p j => out.getD (p * ei.size + j) .any) 1)] 1)
      else bif Nat.beq len' 0 && Nat.ble (1 * ei.size) 16777216 && Nat.beq out.length (1 * ei.size) then k (.own H.length 1) [⟨H.length, 0, none⟩] [.set H.length (.last e ei.size 1 out 1)] 1 else M.fail
def evLoad {A : Type} (M : Md A) (X : Ctx) (gd : Option Prop) (H : List HObj) (t : TypeId) (a : AV) (k : KT A) : A :=
 match X.T t with
 | none => M.fail
 | some i =>
  match a with
  | .ptr q off => match H[q]? with | some (.box cells) => M.sc gd (off + i.size <= cells.length) <| k (partAV i (fun j => cells.getD j .any) off) [⟨q, off, some (off + i.size)⟩] [] 0 | _ => M.fail
  | .lptr q ver es p off =>
   match H[q]? with
   | some (.list _ es' len f ver') => bif Nat.beq es es' && Nat.beq ver ver' && Nat.ble (off + i.size) es then M.sc gd (p < len) <| k (partAV i (f p) off) [⟨q, off, some (off + i.size)⟩] [] 0 else M.fail
   | some (.last _ es' len cells ver') => bif Nat.beq es es' && Nat.beq ver ver' && Nat.ble (off + i.size) es then (bif Nat.beq cells.length es' then M.sc gd (p + 1 = len) <| k (partAV i (fun j => cells.getD j .any) off) [⟨q, 0, none⟩] [] 0 else bif Nat.beq cells.length (len * es') then M.sc gd (p < len) <| k (partAV i (fun j => cells.getD j .any) (p * es' + off)) [⟨q, 0, none⟩] [] 0 else M.fail) else M.fail
   | _ => M.fail
  | .ip n f off => M.sc gd (off + i.size <= n) <| k (partAV i f off) [] [] 0
  | _ => M.fail
def evStore {A : Type} (M : Md A) (X : Ctx) (gd : Option Prop) (H : List HObj) (t : TypeId) (a v : AV) (k : KT A) : A :=
 match X.T t with
 | none => M.fail
 | some i =>
  match v.cells with
  | none => M.fail
  | some l =>
   bif Nat.beq l.length i.size then
    match a with
    | .ptr q off => match H[q]? with | some (.box cells) => M.sc gd (off + i.size <= cells.length) <| k .any [⟨q, 0, some 0⟩] [.cells q off l] 0 | _ => M.fail
    | .lptr q ver es p off =>
     match H[q]? with
     | some (.list _ es' len _ ver') => bif Nat.beq es es' && Nat.beq ver ver' && Nat.ble (off + i.size) es && l.all (·.free) then M.sc gd (p < len) <| k .any [⟨q, off, some (off + i.size)⟩] [.elem q p off l] 0 else M.fail
     | some (.last e' es' len cells ver') => bif Nat.beq es es' && Nat.beq ver ver' && Nat.ble (off + i.size) es && Nat.beq cells.length (len * es') then M.sc gd (p < len) <| k .any [⟨q, 0, none⟩] [.set q (.last e' es' len (setCells cells (p * es' + off) l) ver')] 0 else M.fail
     | _ => M.fail
    | _ => M.fail
   else M.fail
def evField {A : Type} (M : Md A) (X : Ctx) (s : TypeId) (a : AV) (n : Nat) (k : KT A) : A :=
 match X.T s with
 | none => M.fail
 | some i =>
  match i.fieldAt n with
  | none => M.fail
  | some (off, ft) =>
   match X.T ft with
   | none => M.fail
   | some fi => match a with | .agg m f => bif Nat.ble (off + fi.size) m then k (partAV fi f off) [] [] 0 else M.fail | _ => M.fail
def evFieldAddr {A : Type} (M : Md A) (X : Ctx) (H : List HObj) (s : TypeId) (a : AV) (n : Nat) (k : KT A) : A :=
 match X.T s with
 | none => M.fail
 | some i =>
  match i.fieldAt n with
  | none => M.fail
  | some (off, ft) =>
   match X.T ft with
   | none => M.fail
   | some fi =>
    bif Nat.blt 0 fi.size then
     match a with
     | .ptr q p => k (.ptr q (p + off)) [] [] 0
     | .ip m f p => k (.ip m f (p + off)) [] [] 0
     | .lptr q ver es p off0 => match H[q]? with | some (.list _ es' _ _ ver') => bif Nat.beq es es' && Nat.beq ver ver' then k (.lptr q ver es p (off0 + off)) [⟨q, 0, some 0⟩] [] 0 else M.fail | _ => M.fail
     | _ => M.fail
    else M.fail
def evIndexAddr {A : Type} (M : Md A) (X : Ctx) (gd : Option Prop) (H : List HObj) (t : TypeId) (a b : AV) (k : KT A) : A :=
 match X.T t, b with
 | some i, .int _ n =>
  match i.elemOf with
  | some e =>
   match X.T e with
   | none => M.fail
   | some ei =>
    match a with
    | .slc es len f => bif Nat.beq ei.size es then M.sc gd (0 <= n /\ n < len) <| k (.ip es (f n.toNat) 0) [] [] 0 else M.fail
    | .slc0 => M.sc gd (0 <= n /\ n < 0) <| k (.ip ei.size (fun j => (ei.zero.map ofVal).getD j .any) 0) [] [] 0
    | .own q ver =>
     match H[q]? with
     | some (.list _ es len _ ver') => bif Nat.beq ei.size es && Nat.beq ver ver' then M.sc gd (0 <= n /\ n < len) <| k (.lptr q ver es n.toNat 0) [⟨q, 0, some 0⟩] [] 0 else M.fail
     | some (.last _ es len _ ver') => bif Nat.beq ei.size es && Nat.beq ver ver' then M.sc gd (0 <= n /\ n < len) <| k (.lptr q ver es n.toNat 0) [⟨q, 0, none⟩] [] 0 else M.fail
     | _ => M.fail
    | _ => M.fail
  | none =>
   match i.arrayOf with
   | none => M.fail
   | some (len, e) =>
    match X.T e with
    | none => M.fail
    | some ei =>
     match a with
     | .ptr q off => M.sc gd (0 <= n /\ n < len) <| k (.ptr q (off + n.toNat * ei.size)) [] [] 0
     | .ip m f off => bif Nat.ble (off + len * ei.size) m then M.sc gd (0 <= n /\ n < len) <| k (.ip ei.size (fun j => f (off + (n.toNat * ei.size + j))) 0) [] [] 0 else M.fail
     | _ => M.fail
 | _, _ => M.fail
def evIndex {A : Type} (M : Md A) (X : Ctx) (gd : Option Prop) (t : TypeId) (a b : AV) (k : KT A) : A :=
 match X.T t, b with
 | some i, .int _ n =>
  match a with
  | .str s => bif i.isString then M.sc gd (0 <= n /\ n < s.size) <| k (.int .u8 (byteAt s n.toNat)) [] [] 0 else M.fail
  | .agg m f =>
   match i.arrayOf with
   | none => M.fail
   | some (len, e) =>
    match X.T e with
    | none => M.fail
    | some ei => bif Nat.ble (len * ei.size) m then M.sc gd (0 <= n /\ n < len) <| k (partAV ei f (n.toNat * ei.size)) [] [] 0 else M.fail
  | _ => M.fail
 | _, _ => M.fail
def evSlice {A : Type} (M : Md A) (X : Ctx) (gd : Option Prop) (t : TypeId) (a : AV) (ρ : Operand -> AV) (lo hi : Option Operand) (k : KT A) : A :=
 match X.T t with
 | none => M.fail
 | some i =>
  match a with
  | .slc es len f =>
   match i.elemOf with
   | none => M.fail
   | some e =>
    match X.T e with
    | none => M.fail
    | some ei =>
     bif Nat.beq ei.size es then
      match boundAV ρ 0 lo, boundAV ρ len hi with
      | some l, some h => M.sc gd (0 <= l /\ l <= h /\ h <= len) <| M.deep (.slc es (h.toNat - l.toNat) (fun q j => f (l.toNat + q) j)) fun v => k v [] [] 0
      | _, _ => M.fail
     else M.fail
  | .str s =>
   bif i.isString then
    match boundAV ρ 0 lo, boundAV ρ s.size hi with
    | some l, some h => M.sc gd (0 <= l /\ l <= h /\ h <= s.size) <| M.deep (.str (s.extract l.toNat h.toNat)) fun v => k v [] [] 0
    | _, _ => M.fail
   else M.fail
  | _ => M.fail
def evSliceArr {A : Type} (M : Md A) (X : Ctx) (H : List HObj) (t : TypeId) (q : Nat) (k : KT A) : A :=
 match X.T t with
 | none => M.fail
 | some i =>
  match i.arrayOf with
  | none => M.fail
  | some (n, e) =>
   match X.T e with
   | none => M.fail
   | some ei =>
    match H[q]? with
    | some (.box cells) => bif Nat.blt 0 n && Nat.beq cells.length (n * ei.size) && cells.all (·.free) then k (.slc ei.size n (fun i j => cells.getD (i * ei.size + j) .any)) [⟨q, 0, none⟩] [.set q .dead] 0 else M.fail
    | _ => M.fail
def evSlice' {A : Type} (M : Md A) (X : Ctx) (gd : Option Prop) (H : List HObj) (t : TypeId) (a : AV) (ρ : Operand -> AV) (lo hi : Option Operand) (k : KT A) : A :=
 match a, lo, hi with
 | .ptr q 0, none, none => evSliceArr M X H t q k
 | _, _, _ => evSlice M X gd t a ρ lo hi k
def evMakeSlice {A : Type} (M : Md A) (X : Ctx) (gd : Option Prop) (H : List HObj) (t : TypeId) (a b : AV) (k : KT A) : A :=
 match X.T t with
 | none => M.fail
 | some i =>
  match i.elemOf with
  | none => M.fail
  | some e =>
   match X.T e with
   | none => M.fail
   | some ei =>
    match a, b with
    | .int ka n, .int kb m =>
     bif sameK ka kb && (ei.zero.map ofVal).all (·.free) && Nat.blt 0 ei.size then
      M.sc gd (m = n /\ 0 <= n /\ n.toNat * ei.bytes <= 281474976710656 /\ n <= 9223372036854775807) <| k (.own H.length 1) [⟨H.length, 0, none⟩] [.set H.length (.list e ei.size n.toNat (fun _ j => (ei.zero.map ofVal).getD j .any) 1)] 1
     else M.fail
    | _, _ => M.fail
def evConvert {A : Type} (M : Md A) (X : Ctx) (gd : Option Prop) (H : List HObj) (s t : TypeId) (a : AV) (k : KT A) : A :=
 match X.T s, X.T t, a with
 | some _, some i, .int _ n => match i.kind with | .int k' => M.sc gd (inK k' n) <| k (.int k' n) [] [] 0 | _ => M.fail
 | some _, some i, .str bs =>
  match i.elemOf with
  | none => M.fail
  | some e =>
   match X.T e with
   | none => M.fail
   | some ei =>
    match ei.kind with
    | .int .u8 => M.slices (M.deep (.slc 1 bs.size (fun i _ => .int .u8 (byteAt bs i))) fun v => k v [] [] 0)
      (M.sc gd (bs.size <= 9223372036854775807) <| k (.own H.length 1) [⟨H.length, 0, none⟩] [.set H.length (.list e 1 bs.size (fun i _ => .int .u8 (byteAt bs i)) 1)] 1)
    | _ => M.fail
 | some si, some i, .slc es n f =>
  match si.elemOf with
  | none => M.fail
  | some e =>
   match X.T e with
   | none => M.fail
   | some ei => match ei.kind with | .int .u8 => bif i.isString && Nat.beq es 1 then M.sc gd (((List.range n).all fun i => isU8 (f i 0)) = true) <| M.deep (.str (strOf n f)) fun v => k v [] [] 0 else M.fail | _ => M.fail
 | some si, some i, .own q ver =>
  match si.elemOf with
  | none => M.fail
  | some e =>
   match X.T e with
   | none => M.fail
   | some ei =>
    match ei.kind, H[q]? with
    | .int .u8, some (.list _ es n f ver') => bif i.isString && Nat.beq es 1 && Nat.beq ver ver' then M.sc gd (((List.range n).all fun i => isU8 (f i 0)) = true) <| M.deep (.str (strOf n f)) fun v => k v [⟨q, 0, none⟩] [] 0 else M.fail
    | _, _ => M.fail
 | _, _, _ => M.fail
def evLen {A : Type} (M : Md A) (X : Ctx) (H : List HObj) (t : TypeId) (a : AV) (k : KT A) : A :=
 match X.T t with
 | none => M.fail
 | some i =>
  match a with
  | .str s => bif i.isString then k (.int .i64 s.size) [] [] 0 else M.fail
  | .slc _ n _ => bif i.isString then M.fail else bif i.elemOf.isSome then k (.int .i64 n) [] [] 0 else M.fail
  | .slc0 => bif i.isString then M.fail else bif i.elemOf.isSome then k (.int .i64 (0 : Nat)) [] [] 0 else M.fail
  | .own q ver =>
   match H[q]? with
   | some (.list _ _ n _ ver') => bif i.isString then M.fail else bif i.elemOf.isSome && Nat.beq ver ver' then k (.int .i64 n) [⟨q, 0, none⟩] [] 0 else M.fail
   | _ => M.fail
  | _ => M.fail
def ownRs (H : List HObj) : AV -> List Rg
 | .own q _ => match H[q]? with | some _ => [⟨q, 0, none⟩] | none => []
 | _ => []
def evAppendL {A : Type} (M : Md A) (gd : Option Prop) (H : List HObj) (e : TypeId) (ei : TI) (a b : AV) (k : KT A) : A :=
 match a, b with
 | .own q ver, .own q2 ver2 =>
  match H[q]?, H[q2]? with
  | some (.last e' es n _ ver'), some (.last _ es2 m c2 ver2') =>
   bif Nat.beq e' e && Nat.beq es ei.size && Nat.beq ver ver' && Nat.beq es2 ei.size && Nat.beq ver2 ver2' && Nat.beq c2.length ei.size then
    M.sc gd ((n + m) * ei.bytes <= 140737488355328 /\ n + m <= 9223372036854775807) <| k (.own q (ver + 1)) [⟨q, 0, none⟩, ⟨q2, 0, none⟩] [.set q (.last e ei.size (n + m) c2 (ver + 1))] 0
   else M.fail
  | _, _ => M.fail
 | _, _ => M.fail
def evAppend {A : Type} (M : Md A) (X : Ctx) (gd : Option Prop) (H : List HObj) (t : TypeId) (a b : AV) (k : KT A) : A :=
 match X.T t with
 | none => M.fail
 | some i =>
  match i.elemOf with
  | none => M.fail
  | some e =>
   match X.T e with
   | none => M.fail
   | some ei =>
    bif Nat.blt 0 ei.size then
     match readAV H ei.size b with
     | none => evAppendL M gd H e ei a b k
     | some (m, f) =>
      match a with
      | .slc0 => M.sc gd (m * ei.bytes <= 140737488355328 /\ m <= 9223372036854775807) <| k (.own H.length 1) (⟨H.length, 0, none⟩ :: ownRs H b) [.set H.length (.list e ei.size m f 1)] 1
      | .own q ver =>
       match H[q]? with
       | some (.list e' es n g ver') =>
        bif Nat.beq e' e && Nat.beq es ei.size && Nat.beq ver ver' then
         M.sc gd ((n + m) * ei.bytes <= 140737488355328 /\ n + m <= 9223372036854775807) <| k (.own q (ver + 1)) (⟨q, 0, none⟩ :: ownRs H b) [.set q (.list e ei.size (n + m) (joinF n g f) (ver + 1))] 0
        else M.fail
       | _ => M.fail
      | _ => M.fail
    else M.fail
def LeOks (H : List HObj) : List Nat -> List HObj -> Prop
 | [], [] => True
 | k :: ks, L :: Ls => (match H[k]? with | some o => LeO o L | none => False) /\ LeOks H ks Ls
 | _, _ => False
def evCallFn (X : Ctx) (gd : Option Prop) (H : List HObj) (f : FuncId) (args : List AV) (k : KT Prop) : Prop :=
 Alt (∃ as r, Sc gd (Pure X f as r) /\ Sc gd (AllLe args as) /\ (as.all (·.free)) = true /\ k r [] [] 0) (
 let ks := (args.flatMap AV.owns).filter (Nat.blt · H.length)
 Alt (∃ as r, Sc gd (Pure X f as r) /\ Sc gd (AllLeH (only ks H) args as) /\ (as.all (·.free)) = true /\ r.flat = true /\ k r (ks.map fun q => ⟨q, 0, none⟩) [] 0) (
 Alt (∃ as ks m Ls r L', Sc gd (Mut X f as Ls r L') /\ Sc gd (AllRen (numOf (ks ++ List.range' H.length m)) args as) /\ ((as.all (·.under ks.length)) && (Ls.all (·.under ks.length)) && ((L'.drop ks.length).all (·.live))) = true /\
  ((ks ++ List.range' H.length m).Nodup /\ Ls.length = ks.length /\ L'.length = ks.length + m) /\ LeOks H ks (Ls.map (renO (numOf (ks ++ List.range' H.length m)))) /\
    k (ren (numOf (ks ++ List.range' H.length m)) r) ((ks ++ List.range' H.length m).map fun q => ⟨q, 0, none⟩)
     (((ks ++ List.range' H.length m).zip (L'.map (renO (numOf (ks ++ List.range' H.length m))))).map fun x => .set x.1 x.2) m) (
 ∃ as ks Ls r, Sc gd (Mut X f as Ls r Ls) /\ Sc gd (AllRen (numOf ks) args as) /\ ((as.all (·.under ks.length)) && (Ls.all (·.under ks.length))) = true /\ (ks.Nodup /\ Ls.length = ks.length) /\
  ks.map (fun q => H[q]?) = Ls.map (fun L => some (renO (numOf ks) L)) /\ k (ren (numOf ks) r) (ks.map fun q => ⟨q, 0, none⟩) [] 0)))
def effH {A : Type} (H : List HObj) (m : Nat) (ws : List W) (K : List HObj -> A) : A :=
 match m, ws with
 | 0, [] => K H
 | m, ws => forceH (putAll (H ++ List.replicate m .hole) ws) K
theorem effH_eq {A : Type} (H : List HObj) (m : Nat) (ws : List W) (K : List HObj -> A) : effH H m ws K = K (putAll (H ++ List.replicate m .hole) ws) := by
 unfold effH
 split
 ·simp [putAll]
 ·rw [forceH_eq]
def symM (X : Ctx) : Md Prop := ⟨False, fun gd p _ K => Sc gd p /\ K, evCallFn X, Alt, fun b p q => (b = true -> p) /\ (b = false -> q), AV.force, fun v K => K v, effH, effH⟩
def evCall {A : Type} (M : Md A) (X : Ctx) (gd : Option Prop) (H : List HObj) (ρ : Operand -> AV) (cl : Call) (k : KT A) : A :=
 match cl.callee with
 | .builtin b =>
  match b, cl.args.toList, cl.argTypes.toList with
  | .len, [x], [t] => evLen M X H t (ρ x) k
  | .append, [x, y], [t, t'] => bif Nat.beq t t' then evAppend M X gd H t (ρ x) (ρ y) k else M.fail
  | .min, [x, y], _ => match ρ x, ρ y with | .int ka n, .int kb m => bif sameK ka kb then k (.int ka (min n m)) [] [] 0 else M.fail | _, _ => M.fail
  | .max, [x, y], _ => match ρ x, ρ y with | .int ka n, .int kb m => bif sameK ka kb then k (.int ka (max n m)) [] [] 0 else M.fail | _, _ => M.fail
  | _, _, _ => M.fail
 | .value F => match ρ F with | .fn f n caps => M.call gd H f (callArgs ρ cl.args n caps) k | _ => M.fail
 | _ => M.fail
def evRange {A : Type} (M : Md A) (X : Ctx) (H : List HObj) (t : TypeId) (a : AV) (k : KT A) : A :=
 match X.T t with
 | none => M.fail
 | some i => match a with | .str s => bif i.isString then k (.ptr H.length 0) [⟨H.length, 0, none⟩] [.set H.length (.iter s 0)] 1 else M.fail | _ => M.fail
def evNext {A : Type} (M : Md A) (H : List HObj) (b : Bool) (a : AV) (k : KT A) : A :=
 match a with
 | .ptr q 0 =>
  match H[q]? with
  | some (.iter s pos) =>
   bif b then
    bif Nat.blt pos s.size then k (.tup 3 (fun j => [AV.bool true, .int .i64 pos, .int .i32 ((Utf8.decode s pos).1 : Nat)].getD j .any)) [⟨q, 0, none⟩] [.set q (.iter s (pos + (Utf8.decode s pos).2))] 0
    else k (.tup 1 (fun j => [AV.bool false].getD j .any)) [⟨q, 0, none⟩] [] 0
   else M.fail
  | _ => M.fail
 | _ => M.fail
def opEv {A : Type} (M : Md A) (X : Ctx) (gd : Option Prop) (R : Option (Nat × Bool) -> Operand -> AV) (g : Option (Nat × Bool)) (H : List HObj) (op : Op) (k : KT A) : A :=
 match op with
 | .move x => k (R g x) [] [] 0
 | .assign x => k (R g x) [] [] 0
 | .nilCheck x =>
  match R g x with
  | .ptr q off => k (.ptr q off) [] [] 0
  | .ip n f off => k (.ip n f off) [] [] 0
  | .lptr q ver es p off => match H[q]? with | some (.list _ _ _ _ ver') => bif Nat.beq ver ver' then k (.lptr q ver es p off) [⟨q, 0, some 0⟩] [] 0 else M.fail | _ => M.fail
  | _ => M.fail
 | .pick (.tmp t) a b => match R g (.tmp t) with | .bool p => evPick M p (R (some (t, true)) a) (R (some (t, false)) b) k | _ => M.fail
 | .alloc t => match X.T t with | some i => k (.ptr H.length 0) [⟨H.length, 0, none⟩] [.set H.length (.box (i.zero.map ofVal))] 1 | none => M.fail
 | .box _ x => match (R g x).cells with | some l => k (.ptr H.length 0) [⟨H.length, 0, none⟩] [.set H.length (.box l)] 1 | none => M.fail
 | .build t parts => evBuild M X t (parts.toList.map fun p => (p.1, R g p.2)) k
 | .buildSlice t len parts => evBuildSlice M X gd H t len parts (R g) k
 | .load t x => evLoad M X gd H t (R g x) k
 | .store t p x => evStore M X gd H t (R g p) (R g x) k
 | .binOp op t x y _ => evBin M X gd H op t y (R g x) (R g y) k
 | .unOp op _ x =>
  match op, R g x with
  | .not, .bool b => k (.bool (!b)) [] [] 0
  | .neg, .int ka n => M.sc gd (inK ka (-n)) <| k (.int ka (-n)) [] [] 0
  | _, _ => M.fail
 | .convert s t x => evConvert M X gd H s t (R g x) k
 | .extract t i => match R g t with | .tup n f => bif Nat.blt i n then k (f i) [] [] 0 else M.fail | _ => M.fail
 | .field s x n => evField M X s (R g x) n k
 | .fieldAddr s x n => evFieldAddr M X H s (R g x) n k
 | .index t x y => evIndex M X gd t (R g x) (R g y) k
 | .indexAddr t x y => evIndexAddr M X gd H t (R g x) (R g y) k
 | .makeFunc (.func fn) first caps => bif first.isEmpty then k (.fn fn caps.size (fun j => ((caps.toList.map (R g))[j]?).getD .any)) [] [] 0 else M.fail
 | .makeSlice t x y => evMakeSlice M X gd H t (R g x) (R g y) k
 | .slice t x lo hi none => evSlice' M X gd H t (R g x) (R g) lo hi k
 | .call cl => evCall M X gd H (R g) cl k
 | .range t x => evRange M X H t (R g x) k
 | .next x b => evNext M H b (R g x) k
 | _ => M.fail
end Go.Fx
/-
 The reading of an operation as a program is sound.
-/
namespace Go.Fx
open Go.RowKit
def Res (X : Ctx) (gd : Option Prop) (o : Oper) (R : Option (Nat × Bool) -> Operand -> AV) (g : Option (Nat × Bool)) (H : List HObj) {A : Type} (k : KT A) (T : A -> Prop) : Prop :=
 ∃ av rs ws m, T (k av rs ws m) /\ (∀ r ∈ rs, r.k < H.length + m) /\ (∀ w ∈ ws, w.k < H.length + m) /\ Sc gd (StepE X o R g (H ++ List.replicate m .hole) rs av ws)
section
variable {X : Ctx} {o : Oper} {R : Option (Nat × Bool) -> Operand -> AV} {g : Option (Nat × Bool)} {H : List HObj} {gd : Option Prop} {A : Type} {k : KT A} {M : Md A} {T : A -> Prop}
theorem Res.plain {av : AV} (hk : T (k av [] [] 0)) (h : Sc gd (StepOK X o (R g) [] av [])) : Res X gd o R g H k T :=
 ⟨av, [], [], 0, hk, by simp, by simp, h.map fun h => h.stepE (g := g) (H := H ++ List.replicate 0 .hole) (need := []) (write := []) (by simp)⟩
theorem Res.e {av : AV} {rs : List Rg} {ws : List W} (hk : T (k av rs ws 0)) (h1 : ∀ r ∈ rs, r.k < H.length) (h2 : ∀ w ∈ ws, w.k < H.length) (h : Sc gd (StepE X o R g H rs av ws)) : Res X gd o R g H k T :=
 ⟨av, rs, ws, 0, hk, h1, h2, h.map fun h => by simpa using h⟩
structure Md.Ok (X : Ctx) (M : Md A) (T : A -> Prop) : Prop where
 fail : T M.fail -> False
 sc : ∀ {gd : Option Prop} {p : Prop} [Decidable p] {K : A}, T (M.sc gd p K) -> Sc gd p /\ T K
 call : ∀ {gd : Option Prop} {o : Oper} {R : Option (Nat × Bool) -> Operand -> AV} {g : Option (Nat × Bool)} {H : List HObj} {k : KT A} {cl : Call} {F : Operand} {f : FuncId} {n : Nat} {caps : Nat -> AV},
  o.op = .call cl -> cl.callee = .value F -> R g F = .fn f n caps -> T (M.call gd H f (callArgs (R g) cl.args n caps) k) -> Res X gd o R g H k T
 slices : ∀ {a b : A}, T (M.slices a b) -> T a \/ T b
 br : ∀ {b : Bool} {p q : A}, T (M.br b p q) -> (b = true -> T p) /\ (b = false -> T q)
 norm : ∀ {v : AV} {K : AV -> A}, T (M.norm v K) -> ∃ v', Le v v' /\ T (K v')
 deep : ∀ {v : AV} {K : AV -> A}, T (M.deep v K) -> ∃ v', Le v v' /\ T (K v')
 eff : ∀ {H : List HObj} {m : Nat} {ws : List W} {K : List HObj -> A}, M.eff H m ws K = K (putAll (H ++ List.replicate m .hole) ws)
 effN : ∀ {H : List HObj} {m : Nat} {ws : List W} {K : List HObj -> A}, T (M.effN H m ws K) -> ∃ H', LeOs (putAll (H ++ List.replicate m .hole) ws) H' /\ T (K H')
theorem StepOK.le {ρ : Operand -> AV} {need write : List (Nat × HObj)} {av av' : AV} (hl : Le av av') (h : StepOK X o ρ need av write) : StepOK X o ρ need av' write := fun c a K Q hok hb hH hr hk => h c a K Q hok hb hH hr fun c' v ht hH' hv => hk c' v ht hH' (hl.reads hv)
theorem StepE.le {H : List HObj} {rs : List Rg} {ws : List W} {av av' : AV} (hl : Le av av') (h : StepE X o R g H rs av ws) : StepE X o R g H rs av' ws := fun c a K Q hok hb hag hg hr hk => h c a K Q hok hb hag hg hr fun c' v ht hH' hv => hk c' v ht hH' (hl.reads hv)
theorem Res.deep (hM : M.Ok X T) {av : AV} (hk : T (M.deep av fun v => k v [] [] 0)) (h : Sc gd (StepOK X o (R g) [] av [])) : Res X gd o R g H k T := by
 obtain ⟨v', hl, hk⟩ := hM.deep hk
 exact .plain hk (h.map fun h => h.le hl)
theorem sameK_eq {a b : IntKind} (h : sameK a b = true) : a = b := by simpa [sameK] using h
theorem evInt_sound (hM : M.Ok X T) {op : BinOp} {t u : TypeId} {x y : Operand} {ka : IntKind} {n m : Int} (ho : o.op = .binOp op t x y u) (hx : R g x = .int ka n) (hy : R g y = .int ka m) (h : T (evInt M gd op ka n m k)) : Res X gd o R g H k T := by
 unfold evInt at h
 cases op <;> simp only at h <;> first
  | exact (hM.fail h).elim
  | exact .plain (hM.sc h).2 ((hM.sc h).1.map fun h => step_arith ho hx hy rfl h)
  | exact .plain (hM.sc (hM.sc h).2).2 (Sc.map2 (fun h1 h2 => step_quo ho hx hy h1 h2) (hM.sc h).1 (hM.sc (hM.sc h).2).1)
  | exact .plain (hM.sc h).2 ((hM.sc h).1.map fun h => step_rem ho hx hy h)
  | exact .plain (hM.sc h).2 ((hM.sc h).1.map fun h => step_shr ho hx hy h)
  | exact .plain h (.of (step_cmp ho hx hy rfl))
theorem evStr_sound (hM : M.Ok X T) {op : BinOp} {t u : TypeId} {x y : Operand} {p q : ByteArray} (ho : o.op = .binOp op t x y u) (hx : R g x = .str p) (hy : R g y = .str q) (h : T (evStr M gd op p q k)) : Res X gd o R g H k T := by
 unfold evStr at h
 cases op <;> simp only at h <;> first
  | exact (hM.fail h).elim
  | exact .deep hM (hM.sc h).2 ((hM.sc h).1.map fun h => step_concat ho hx hy h)
  | exact .plain h (.of (step_eq_str ho hx hy))
  | exact .plain h (.of (step_ne_str ho hx hy))
theorem evAgg_sound (hM : M.Ok X T) (hX : X.Good) {op : BinOp} {t u : TypeId} {x y : Operand} {n m : Nat} {f g' : Nat -> AV} (ho : o.op = .binOp op t x y u) (hx : R g x = .agg n f) (hy : R g y = .agg m g') (h : T (evAgg M X op t (.agg n f) (.agg m g') k)) : Res X gd o R g H k T := by
 unfold evAgg at h
 split at h
 ·rename_i i hi
  cases hc : i.cmp with
  | false => rw [hc] at h; exact (hM.fail h).elim
  | true =>
   rw [hc] at h
   simp only [cond_true] at h
   split at h
   ·rename_i r hr
    cases op <;> simp only at h <;> first
     | exact (hM.fail h).elim
     | exact .plain h (.of (step_eq_agg hX ho hx hy hi hc hr))
     | exact .plain h (.of (step_ne_agg hX ho hx hy hi hc hr))
   ·exact (hM.fail h).elim
 ·exact (hM.fail h).elim
theorem isNil_eq {y : Operand} (h : isNil y = true) : y = .const .nilIface := by
 cases y with
 | const v => cases v <;> first | rfl | cases h
 | _ => cases h
theorem hole_at (H : List HObj) : (H ++ List.replicate 1 HObj.hole)[H.length]? = some .hole := by simp
theorem old_at {H : List HObj} {q : Nat} {ob : HObj} (l : List HObj) (h : H[q]? = some ob) : (H ++ l)[q]? = some ob := by
 rw [List.getElem?_append_left (List.getElem?_eq_some_iff.1 h).1]; exact h
theorem lt_of_at {H : List HObj} {q : Nat} {ob : HObj} (h : H[q]? = some ob) : q < H.length := (List.getElem?_eq_some_iff.1 h).1
theorem isNilS_eq {y : Operand} (h : isNilS y = true) : y = .const (.slice none 0 0) := by
 unfold isNilS at h
 split at h
 ·rfl
 ·cases h
theorem isSl_eq {t : TypeId} (h : isSl X t = true) : ∃ i e, X.T t = some i /\ i.elemOf = some e := by
 unfold isSl at h
 split at h
 ·rename_i i hi
  cases he : i.elemOf with
  | none => rw [he] at h; cases h
  | some e => exact ⟨i, e, hi, he⟩
 ·cases h
theorem isIfc_eq (hX : X.Good) {t : TypeId} (h : isIfc X t = true) : X.P.underlying t = some (.interface (X.P.methodsAt t)) := by
 unfold isIfc at h
 split at h
 ·rename_i i hi
  split at h
  ·rename_i hk
   obtain ⟨d, hd, hf⟩ := (hX.types t i hi).desc
   rw [hk] at hf
   obtain ⟨ms, rfl⟩ := hf
   unfold Program.methodsAt
   rw [hd]
  ·cases h
 ·cases h
theorem isBl_eq (hX : X.Good) {t : TypeId} (h : isBl X t = true) : X.P.underlying t = some .bool := by
 unfold isBl at h
 split at h
 ·rename_i i hi
  obtain ⟨d, hd, hf⟩ := (hX.types t i hi).desc
  cases hk : i.kind <;> rw [hk] at h hf <;> first | (cases h; done) | skip
  rw [hd, show d = _ from hf]
 ·cases h
theorem evBin_sound (hM : M.Ok X T) (hX : X.Good) {op : BinOp} {t u : TypeId} {x y : Operand} (ho : o.op = .binOp op t x y u) (h : T (evBin M X gd H op t y (R g x) (R g y) k)) : Res X gd o R g H k T := by
 unfold evBin at h
 split at h
 ·rename_i ka n kb m hx hy
  cases hs : sameK ka kb with
  | false => rw [hs] at h; exact (hM.fail h).elim
  | true =>
   rw [hs] at h
   obtain rfl := sameK_eq hs
   exact evInt_sound hM ho hx hy h
 ·rename_i hx hy; exact evStr_sound hM ho hx hy h
 ·rename_i hx hy; exact evAgg_sound hM hX ho hx hy h
 ·rename_i p q hx hy
  cases op <;> simp only at h <;> first | exact (hM.fail h).elim | skip
  ·cases hn : isBl X t with
   | false => rw [hn] at h; exact (hM.fail h).elim
   | true => rw [hn] at h; exact .plain h (.of (step_eq_bool ho (isBl_eq hX hn) hx hy))
  ·cases hn : isBl X t with
   | false => rw [hn] at h; exact (hM.fail h).elim
   | true => rw [hn] at h; exact .plain h (.of (step_ne_bool ho (isBl_eq hX hn) hx hy))
 ·rename_i hx
  cases op <;> simp only at h <;> first | exact (hM.fail h).elim | skip
  ·cases hn : (isNil y && isIfc X t) with
   | false => rw [hn] at h; exact (hM.fail h).elim
   | true =>
    rw [hn] at h
    rw [Bool.and_eq_true] at hn
    obtain rfl := isNil_eq hn.1
    exact .plain h (.of (step_eq_nil ho (isIfc_eq hX hn.2) hx))
  ·cases hn : (isNil y && isIfc X t) with
   | false => rw [hn] at h; exact (hM.fail h).elim
   | true =>
    rw [hn] at h
    rw [Bool.and_eq_true] at hn
    obtain rfl := isNil_eq hn.1
    exact .plain h (.of (step_ne_nil ho (isIfc_eq hX hn.2) hx))
 ·rename_i ad n cap hx
  cases op <;> simp only at h <;> first | exact (hM.fail h).elim | skip
  cases hn : (isNilS y && isSl X t) with
  | false => rw [hn] at h; exact (hM.fail h).elim
  | true =>
   rw [hn] at h
   rw [Bool.and_eq_true] at hn
   obtain rfl := isNilS_eq hn.1
   obtain ⟨i, e, hi, he⟩ := isSl_eq hn.2
   exact .plain h (.of (step_eq_nilS_val hX ho hi he hx))
 ·rename_i hx
  cases op <;> simp only at h <;> first | exact (hM.fail h).elim | skip
  ·cases hn : (isNil y && isIfc X t) with
   | false => rw [hn] at h; exact (hM.fail h).elim
   | true =>
    rw [hn] at h
    rw [Bool.and_eq_true] at hn
    obtain rfl := isNil_eq hn.1
    exact .plain h (.of (step_eq_ifc ho (isIfc_eq hX hn.2) hx))
  ·cases hn : (isNil y && isIfc X t) with
   | false => rw [hn] at h; exact (hM.fail h).elim
   | true =>
    rw [hn] at h
    rw [Bool.and_eq_true] at hn
    obtain rfl := isNil_eq hn.1
    exact .plain h (.of (step_ne_ifc ho (isIfc_eq hX hn.2) hx))
 ·rename_i es n f hx
  cases op <;> simp only at h <;> first | exact (hM.fail h).elim | skip
  cases hn : (isNilS y && isSl X t) with
  | false => rw [hn] at h; exact (hM.fail h).elim
  | true =>
   rw [hn] at h
   rw [Bool.and_eq_true] at hn
   obtain rfl := isNilS_eq hn.1
   obtain ⟨i, e, hi, he⟩ := isSl_eq hn.2
   exact .plain (hM.sc h).2 ((hM.sc h).1.map fun h => step_eq_nilS_slc hX ho hi he hx h)
 ·rename_i q ver hx
  cases op <;> simp only at h <;> first | exact (hM.fail h).elim | skip
  split at h
  ·rename_i e' es n f ver' hk
   cases hn : (isNilS y && isSl X t && Nat.beq ver ver') with
   | false => rw [hn] at h; exact (hM.fail h).elim
   | true =>
    rw [hn] at h
    simp only [Bool.and_eq_true, Nat.beq_eq] at hn
    obtain ⟨⟨h1, h2⟩, rfl⟩ := hn
    obtain rfl := isNilS_eq h1
    obtain ⟨i, e, hi, he⟩ := isSl_eq h2
    refine .e (rs := [⟨q, 0, none⟩]) (ws := []) (hM.sc h).2 (by simpa using lt_of_at hk) (by simp) ((hM.sc h).1.map fun h => ?_)
    exact (step_eq_nilS_own hX (f := f) (es := es) (e' := e') ho hi he hx h).stepE (H := H) (by simpa using hk)
  ·exact (hM.fail h).elim
 ·exact (hM.fail h).elim
theorem stepE_pick1 {t : Nat} {y z : Operand} {p : Bool} {av : AV} (ho : o.op = .pick (.tmp t) y z) (hx : R g (.tmp t) = .bool p) (hp : p = true) (hy : R (some (t, true)) y = av) : StepE X o R g H [] av [] := by
 intro c a K Q hok hb hag hg hr hK
 have h1 := hr g hg (.tmp t) (by simp [ho, Op.operands])
 rw [hx, hp] at h1
 have h1 : a.eval (.tmp t) = .bool true := h1
 have h2 := hr (some (t, true)) h1 y (by simp [ho, Op.operands])
 rw [hy] at h2
 have : (execOp a.eval o).run X.P c.w = .ok (.value (a.eval y)) c.w := by simp [execOp, ho, h1, asBool]
 exact fun ρ => wpIn_value ρ this (hK c _ (.refl hok) rfl h2)
theorem stepE_pick2 {t : Nat} {y z : Operand} {p : Bool} {av : AV} (ho : o.op = .pick (.tmp t) y z) (hx : R g (.tmp t) = .bool p) (hp : p = false) (hz : R (some (t, false)) z = av) : StepE X o R g H [] av [] := by
 intro c a K Q hok hb hag hg hr hK
 have h1 := hr g hg (.tmp t) (by simp [ho, Op.operands])
 rw [hx, hp] at h1
 have h1 : a.eval (.tmp t) = .bool false := h1
 have h2 := hr (some (t, false)) h1 z (by simp [ho, Op.operands])
 rw [hz] at h2
 have : (execOp a.eval o).run X.P c.w = .ok (.value (a.eval z)) c.w := by simp [execOp, ho, h1, asBool]
 exact fun ρ => wpIn_value ρ this (hK c _ (.refl hok) rfl h2)
theorem evPick_sound (hM : M.Ok X T) {t : Nat} {y z : Operand} {p : Bool} (ho : o.op = .pick (.tmp t) y z) (hx : R g (.tmp t) = .bool p) (h : T (evPick M p (R (some (t, true)) y) (R (some (t, false)) z) k)) : Res X gd o R g H k T := by
 unfold evPick at h
 split at h
 ·rename_i hy hz; exact .e h (by simp) (by simp) (.of (stepE_pick ho hx hy hz))
 ·rename_i hy _; exact .e (hM.sc h).2 (by simp) (by simp) (.of (stepE_pick1 ho hx (hM.sc h).1 hy))
 ·rename_i hz _; exact .e (hM.sc h).2 (by simp) (by simp) (.of (stepE_pick2 ho hx (hM.sc h).1 hz))
 ·exact (hM.fail h).elim
theorem evBuild_sound (hM : M.Ok X T) (hX : X.Good) {t : TypeId} {parts : Array (Nat × Operand)} (ho : o.op = .build t parts) (h : T (evBuild M X t (parts.toList.map fun p => (p.1, R g p.2)) k)) : Res X gd o R g H k T := by
 unfold evBuild at h
 split at h
 ·exact (hM.fail h).elim
 ·rename_i i hi
  split at h
  ·rename_i fs hk
   cases hz : sized X fs with
   | false => rw [hz] at h; exact (hM.fail h).elim
   | true =>
    rw [hz] at h
    simp only [cond_true] at h
    split at h
    ·rename_i out hout
     rw [forceL_eq] at h
     exact .plain h (.of (step_build_struct hX ho hi hk hz hout))
    ·exact (hM.fail h).elim
  ·rename_i n e hk
   split at h
   ·exact (hM.fail h).elim
   ·rename_i ei he
    split at h
    ·rename_i out hout
     rw [forceL_eq] at h
     exact .plain h (.of (step_build_array hX ho hi hk he hout))
    ·exact (hM.fail h).elim
  ·exact (hM.fail h).elim
theorem Res.new {av : AV} {ob : HObj} (hk : T (k av [⟨H.length, 0, none⟩] [.set H.length ob] 1)) (h : Sc gd (StepOK X o (R g) [(H.length, .hole)] av [(H.length, ob)])) : Res X gd o R g H k T :=
 ⟨av, _, _, 1, hk, by simp, by simp [W.k], h.map fun h => h.stepE (H := H ++ List.replicate 1 .hole) (by simp)⟩
theorem evBuildSlice_sound (hM : M.Ok X T) (hX : X.Good) {t : TypeId} {len : Nat} {parts : Array (Nat × Operand)} (ho : o.op = .buildSlice t len parts) (h : T (evBuildSlice M X gd H t len parts (R g) k)) : Res X gd o R g H k T := by
 unfold evBuildSlice at h
 split at h
 ·exact (hM.fail h).elim
 ·rename_i i hi
  split at h
  ·exact (hM.fail h).elim
  ·rename_i e hk
   split at h
   ·exact (hM.fail h).elim
   ·rename_i ei he
    split at h
    ·cases hp : parts.isEmpty with
     | false => rw [hp] at h; exact (hM.fail h).elim
     | true => rw [hp] at h; exact .plain h (.of (step_buildSlice0 hX ho hi hk he (by simpa using hp)))
    ·rename_i len'
     split at h
     ·exact (hM.fail h).elim
     ·rename_i out hout
      rw [forceL_eq] at h
      cases hc : (Nat.ble ((len' + 1) * ei.size) 16777216 && Nat.beq out.length ((len' + 1) * ei.size) && out.all (·.free) && Nat.ble (len' + 1) 9223372036854775807) with
      | false =>
       rw [hc] at h
       simp only [cond_false] at h
       cases hd : (Nat.beq len' 0 && Nat.ble (1 * ei.size) 16777216 && Nat.beq out.length (1 * ei.size)) with
       | false => rw [hd] at h; exact (hM.fail h).elim
       | true =>
        rw [hd] at h
        simp only [Bool.and_eq_true, Nat.beq_eq, Nat.ble_eq] at hd
        obtain ⟨⟨rfl, h1⟩, h2⟩ := hd
        exact Res.new h (.of (step_buildSlice_last hX ho hi hk he h1 hout h2))
      | true =>
       rw [hc] at h
       simp only [Bool.and_eq_true, Nat.beq_eq, Nat.ble_eq] at hc
       obtain ⟨⟨⟨h1, h2⟩, hfree⟩, h4⟩ := hc
       rcases hM.slices h with h | h
       ·exact .plain h (.of (step_buildSlice hX ho hi hk he h1 hout h2 hfree))
       ·exact Res.new h (.of (step_buildSlice_own hX ho hi hk he h1 (Nat.succ_pos _) h4 hout h2 hfree))
theorem evLoad_sound (hM : M.Ok X T) (hX : X.Good) {t : TypeId} {x : Operand} (ho : o.op = .load t x) (h : T (evLoad M X gd H t (R g x) k)) : Res X gd o R g H k T := by
 unfold evLoad at h
 split at h
 ·exact (hM.fail h).elim
 ·rename_i i hi
  split at h
  ·rename_i q off hx
   split at h
   ·rename_i cells hk
    exact .e (hM.sc h).2 (by simpa using lt_of_at hk) (by simp) ((hM.sc h).1.map fun h1 => stepE_load_box hX ho hx hi hk h1)
   ·exact (hM.fail h).elim
  ·rename_i q ver es p off hx
   split at h
   ·rename_i e es' len f ver' hk
    cases hc : (Nat.beq es es' && Nat.beq ver ver' && Nat.ble (off + i.size) es) with
    | false => rw [hc] at h; exact (hM.fail h).elim
    | true =>
     rw [hc] at h
     simp only [Bool.and_eq_true, Nat.beq_eq, Nat.ble_eq] at hc
     obtain ⟨⟨rfl, rfl⟩, h3⟩ := hc
     exact .e (hM.sc h).2 (by simpa using lt_of_at hk) (by simp) ((hM.sc h).1.map fun h1 => stepE_load_l hX ho hx hi hk h1 h3)
   ·rename_i e es' len cells ver' hk
    cases hc : (Nat.beq es es' && Nat.beq ver ver' && Nat.ble (off + i.size) es) with
    | false => rw [hc] at h; exact (hM.fail h).elim
    | true =>
     rw [hc] at h
     simp only [Bool.and_eq_true, Nat.beq_eq, Nat.ble_eq] at hc
     obtain ⟨⟨rfl, rfl⟩, h3⟩ := hc
     simp only [cond_true] at h
     cases hcl : Nat.beq cells.length es with
     | true =>
      rw [hcl] at h
      exact .e (hM.sc h).2 (by simpa using lt_of_at hk) (by simp) ((hM.sc h).1.map fun h1 => (step_load_last hX ho hx hi h1 h3 (Nat.eq_of_beq_eq_true hcl)).stepE (H := H) (by simpa using hk))
     | false =>
      rw [hcl] at h
      simp only [cond_false] at h
      cases hcf : Nat.beq cells.length (len * es) with
      | false => rw [hcf] at h; exact (hM.fail h).elim
      | true =>
       rw [hcf] at h
       exact .e (hM.sc h).2 (by simpa using lt_of_at hk) (by simp) ((hM.sc h).1.map fun h1 => (step_load_full hX ho hx hi h1 h3 (Nat.eq_of_beq_eq_true hcf)).stepE (H := H) (by simpa using hk))
   ·exact (hM.fail h).elim
  ·rename_i n f off hx
   exact .plain (hM.sc h).2 ((hM.sc h).1.map fun h1 => step_load_ip hX ho hx hi h1)
  ·exact (hM.fail h).elim
theorem evStore_sound (hM : M.Ok X T) (hX : X.Good) {t : TypeId} {p x : Operand} (ho : o.op = .store t p x) (h : T (evStore M X gd H t (R g p) (R g x) k)) : Res X gd o R g H k T := by
 unfold evStore at h
 split at h
 ·exact (hM.fail h).elim
 ·rename_i i hi
  split at h
  ·exact (hM.fail h).elim
  ·rename_i l hl
   cases hs : Nat.beq l.length i.size with
   | false => rw [hs] at h; exact (hM.fail h).elim
   | true =>
    rw [hs] at h
    rw [Nat.beq_eq] at hs
    simp only [cond_true] at h
    split at h
    ·rename_i q off hx
     split at h
     ·rename_i cells hk
      exact .e (hM.sc h).2 (by simpa using lt_of_at hk) (by simpa [W.k] using lt_of_at hk) ((hM.sc h).1.map fun h1 => stepE_store_box hX ho hx hi hk hl hs h1)
     ·exact (hM.fail h).elim
    ·rename_i q ver es p off hx
     split at h
     ·rename_i e es' len f ver' hk
      cases hc : (Nat.beq es es' && Nat.beq ver ver' && Nat.ble (off + i.size) es && l.all (·.free)) with
      | false => rw [hc] at h; exact (hM.fail h).elim
      | true =>
       rw [hc] at h
       simp only [Bool.and_eq_true, Nat.beq_eq, Nat.ble_eq] at hc
       obtain ⟨⟨⟨rfl, rfl⟩, h3⟩, h4⟩ := hc
       exact .e (hM.sc h).2 (by simpa using lt_of_at hk) (by simpa [W.k] using lt_of_at hk) ((hM.sc h).1.map fun h1 => stepE_store_l hX ho hx hi hk h1 h3 hl hs h4)
     ·rename_i e es' len cells ver' hk
      cases hc : (Nat.beq es es' && Nat.beq ver ver' && Nat.ble (off + i.size) es && Nat.beq cells.length (len * es')) with
      | false => rw [hc] at h; exact (hM.fail h).elim
      | true =>
       rw [hc] at h
       simp only [Bool.and_eq_true, Nat.beq_eq, Nat.ble_eq] at hc
       obtain ⟨⟨⟨rfl, rfl⟩, h3⟩, h4⟩ := hc
       exact .e (hM.sc h).2 (by simpa using lt_of_at hk) (by simpa [W.k] using lt_of_at hk) ((hM.sc h).1.map fun h1 => (step_store_full hX ho hx hi h1 h3 hl hs h4).stepE (H := H) (by simpa using hk))
     ·exact (hM.fail h).elim
    ·exact (hM.fail h).elim
theorem evField_sound (hM : M.Ok X T) (hX : X.Good) {s : TypeId} {x : Operand} {n : Nat} (ho : o.op = .field s x n) (h : T (evField M X s (R g x) n k)) : Res X gd o R g H k T := by
 unfold evField at h
 split at h
 ·exact (hM.fail h).elim
 ·rename_i i hi
  split at h
  ·exact (hM.fail h).elim
  ·rename_i off ft hf
   split at h
   ·exact (hM.fail h).elim
   ·rename_i fi hfi
    split at h
    ·rename_i m f hx
     cases hc : Nat.ble (off + fi.size) m with
     | false => rw [hc] at h; exact (hM.fail h).elim
     | true => rw [hc] at h; exact .plain h (.of (step_field hX ho hx hi hf hfi (Nat.le_of_ble_eq_true hc)))
    ·exact (hM.fail h).elim
theorem evFieldAddr_sound (hM : M.Ok X T) (hX : X.Good) {s : TypeId} {x : Operand} {n : Nat} (ho : o.op = .fieldAddr s x n) (h : T (evFieldAddr M X H s (R g x) n k)) : Res X gd o R g H k T := by
 unfold evFieldAddr at h
 split at h
 ·exact (hM.fail h).elim
 ·rename_i i hi
  split at h
  ·exact (hM.fail h).elim
  ·rename_i off ft hf
   split at h
   ·exact (hM.fail h).elim
   ·rename_i fi hfi
    cases hc : Nat.blt 0 fi.size with
    | false => rw [hc] at h; exact (hM.fail h).elim
    | true =>
     rw [hc] at h
     rw [Nat.blt_eq] at hc
     simp only [cond_true] at h
     split at h
     ·rename_i hx; exact .plain h (.of (step_fieldAddr_box hX ho hx hi hf hfi hc))
     ·rename_i hx; exact .plain h (.of (step_fieldAddr_ip hX ho hx hi hf hfi hc))
     ·rename_i q ver es p off0 hx
      split at h
      ·rename_i e es' len f ver' hk
       cases hv : (Nat.beq es es' && Nat.beq ver ver') with
       | false => rw [hv] at h; exact (hM.fail h).elim
       | true =>
        rw [hv] at h
        simp only [Bool.and_eq_true, Nat.beq_eq] at hv
        obtain ⟨rfl, rfl⟩ := hv
        refine .e h (by simpa using lt_of_at hk) (by simp) (.of ?_)
        intro c a K Q hok hb hag hg hr hK
        obtain ⟨f', h2, _⟩ := agree_list (hag _ (List.mem_singleton.2 rfl)) hk
        exact step_fieldAddr_l hX ho hx hi hf hfi hc ⟨e, len, f', rfl⟩ c a K Q hok hb (fun x hx => by rw [List.mem_singleton.1 hx]; exact h2) (hr g hg) hK
      ·exact (hM.fail h).elim
     ·exact (hM.fail h).elim
end
end Go.Fx
/-
 The reading of an operation as a program is sound: the rest.
-/
namespace Go.Fx
open Go.RowKit
section
variable {X : Ctx} {o : Oper} {R : Option (Nat × Bool) -> Operand -> AV} {g : Option (Nat × Bool)} {H : List HObj} {gd : Option Prop} {A : Type} {k : KT A} {M : Md A} {T : A -> Prop}
theorem evIndexAddr_sound (hM : M.Ok X T) (hX : X.Good) {t : TypeId} {x y : Operand} (ho : o.op = .indexAddr t x y) (h : T (evIndexAddr M X gd H t (R g x) (R g y) k)) : Res X gd o R g H k T := by
 unfold evIndexAddr at h
 split at h
 ·rename_i i ky n hi hy
  split at h
  ·rename_i e hel
   split at h
   ·exact (hM.fail h).elim
   ·rename_i ei he
    split at h
    ·rename_i es len f hx
     cases hc : Nat.beq ei.size es with
     | false => rw [hc] at h; exact (hM.fail h).elim
     | true =>
      rw [hc] at h
      rw [Nat.beq_eq] at hc
      exact .plain (hM.sc h).2 ((hM.sc h).1.map fun h1 => step_indexAddr_slc hX ho hx hy hi hel he hc h1.1 h1.2)
    ·exact .plain (hM.sc h).2 ((hM.sc h).1.map fun h1 => absurd h1.2 (by have := h1.1; omega))
    ·rename_i q ver hx
     split at h
     ·rename_i e' es len f ver' hk
      cases hc : (Nat.beq ei.size es && Nat.beq ver ver') with
      | false => rw [hc] at h; exact (hM.fail h).elim
      | true =>
       rw [hc] at h
       simp only [Bool.and_eq_true, Nat.beq_eq] at hc
       obtain ⟨rfl, rfl⟩ := hc
       exact .e (hM.sc h).2 (by simpa using lt_of_at hk) (by simp) ((hM.sc h).1.map fun h1 => stepE_indexAddr_own hX ho hx hy hk hi hel he rfl h1.1 h1.2)
     ·rename_i e' es len cells ver' hk
      cases hc : (Nat.beq ei.size es && Nat.beq ver ver') with
      | false => rw [hc] at h; exact (hM.fail h).elim
      | true =>
       rw [hc] at h
       simp only [Bool.and_eq_true, Nat.beq_eq] at hc
       obtain ⟨rfl, rfl⟩ := hc
       exact .e (hM.sc h).2 (by simpa using lt_of_at hk) (by simp) ((hM.sc h).1.map fun h1 => (step_indexAddr_last hX ho hx hy hi hel he rfl h1.1 h1.2).stepE (H := H) (by simpa using hk))
     ·exact (hM.fail h).elim
    ·exact (hM.fail h).elim
  ·split at h
   ·exact (hM.fail h).elim
   ·rename_i len e ha
    split at h
    ·exact (hM.fail h).elim
    ·rename_i ei he
     split at h
     ·rename_i q off hx
      exact .plain (hM.sc h).2 ((hM.sc h).1.map fun h1 => step_indexAddr_box hX ho hx hy hi ha he h1.1 h1.2)
     ·rename_i m f off hx
      cases hc : Nat.ble (off + len * ei.size) m with
      | false => rw [hc] at h; exact (hM.fail h).elim
      | true =>
       rw [hc] at h
       exact .plain (hM.sc h).2 ((hM.sc h).1.map fun h1 => step_indexAddr_ip hX ho hx hy hi ha he (Nat.le_of_ble_eq_true hc) h1.1 h1.2)
     ·exact (hM.fail h).elim
 ·exact (hM.fail h).elim
theorem evIndex_sound (hM : M.Ok X T) (hX : X.Good) {t : TypeId} {x y : Operand} (ho : o.op = .index t x y) (h : T (evIndex M X gd t (R g x) (R g y) k)) : Res X gd o R g H k T := by
 unfold evIndex at h
 split at h
 ·rename_i i ky n hi hy
  split at h
  ·rename_i s hx
   cases hc : i.isString with
   | false => rw [hc] at h; exact (hM.fail h).elim
   | true => rw [hc] at h; exact .plain (hM.sc h).2 ((hM.sc h).1.map fun h1 => step_index_str hX ho hx hy hi hc h1.1 h1.2)
  ·rename_i m f hx
   split at h
   ·exact (hM.fail h).elim
   ·rename_i len e ha
    split at h
    ·exact (hM.fail h).elim
    ·rename_i ei he
     cases hc : Nat.ble (len * ei.size) m with
     | false => rw [hc] at h; exact (hM.fail h).elim
     | true => rw [hc] at h; exact .plain (hM.sc h).2 ((hM.sc h).1.map fun h1 => step_index hX ho hx hy hi ha he (Nat.le_of_ble_eq_true hc) h1.1 h1.2)
  ·exact (hM.fail h).elim
 ·exact (hM.fail h).elim
theorem evSlice_sound (hM : M.Ok X T) (hX : X.Good) {t : TypeId} {x : Operand} {lo hi : Option Operand} (ho : o.op = .slice t x lo hi none) (h : T (evSlice M X gd t (R g x) (R g) lo hi k)) : Res X gd o R g H k T := by
 unfold evSlice at h
 split at h
 ·exact (hM.fail h).elim
 ·rename_i i hti
  split at h
  ·rename_i es len f hx
   split at h
   ·exact (hM.fail h).elim
   ·rename_i e hel
    split at h
    ·exact (hM.fail h).elim
    ·rename_i ei he
     cases hc : Nat.beq ei.size es with
     | false => rw [hc] at h; exact (hM.fail h).elim
     | true =>
      rw [hc] at h
      rw [Nat.beq_eq] at hc
      simp only [cond_true] at h
      split at h
      ·rename_i l h' hl hh
       exact .deep hM (hM.sc h).2 ((hM.sc h).1.map fun h1 => step_slice_slc hX ho hx hti hel he hc hl hh h1.1 h1.2.1 h1.2.2)
      ·exact (hM.fail h).elim
  ·rename_i s hx
   cases hc : i.isString with
   | false => rw [hc] at h; exact (hM.fail h).elim
   | true =>
    rw [hc] at h
    simp only [cond_true] at h
    split at h
    ·rename_i l h' hl hh
     exact .deep hM (hM.sc h).2 ((hM.sc h).1.map fun h1 => step_slice_str hX ho hx hti hc hl hh h1.1 h1.2.1 h1.2.2)
    ·exact (hM.fail h).elim
  ·exact (hM.fail h).elim
theorem evMakeSlice_sound (hM : M.Ok X T) (hX : X.Good) {t : TypeId} {x y : Operand} (ho : o.op = .makeSlice t x y) (h : T (evMakeSlice M X gd H t (R g x) (R g y) k)) : Res X gd o R g H k T := by
 unfold evMakeSlice at h
 split at h
 ·exact (hM.fail h).elim
 ·rename_i i hi
  split at h
  ·exact (hM.fail h).elim
  ·rename_i e hel
   split at h
   ·exact (hM.fail h).elim
   ·rename_i ei he
    split at h
    ·rename_i ka n kb m hx hy
     cases hc : (sameK ka kb && (ei.zero.map ofVal).all (·.free) && Nat.blt 0 ei.size) with
     | false => rw [hc] at h; exact (hM.fail h).elim
     | true =>
      rw [hc] at h
      simp only [Bool.and_eq_true, Nat.blt_eq] at hc
      obtain ⟨⟨h1, h2⟩, h3⟩ := hc
      obtain rfl := sameK_eq h1
      exact Res.new (hM.sc h).2 ((hM.sc h).1.map fun ⟨a1, a2, a3, a4⟩ => by subst a1; exact step_makeSlice hX ho hi hel he hx hy a2 a3 a4 h2 h3)
    ·exact (hM.fail h).elim
theorem evConvert_sound (hM : M.Ok X T) (hX : X.Good) {s t : TypeId} {x : Operand} (ho : o.op = .convert s t x) (h : T (evConvert M X gd H s t (R g x) k)) : Res X gd o R g H k T := by
 unfold evConvert at h
 split at h
 ·rename_i si i ki n hsi hi hx
  split at h
  ·rename_i k' hk
   exact .plain (hM.sc h).2 ((hM.sc h).1.map fun h1 => step_convert_int hX ho hx hi hk hsi h1)
  ·exact (hM.fail h).elim
 ·rename_i si i bs hsi hi hx
  split at h
  ·exact (hM.fail h).elim
  ·rename_i e hel
   split at h
   ·exact (hM.fail h).elim
   ·rename_i ei he
    split at h
    ·rename_i hk
     rcases hM.slices h with h | h
     ·exact .deep hM h (.of (step_convert_bytes hX ho hx hi hel he hk hsi))
     ·exact Res.new (hM.sc h).2 ((hM.sc h).1.map fun h1 => step_convert_bytes_own hX ho hx hi hel he hk hsi h1)
    ·exact (hM.fail h).elim
 ·rename_i si i es n f hsi hi hx
  split at h
  ·exact (hM.fail h).elim
  ·rename_i e hel
   split at h
   ·exact (hM.fail h).elim
   ·rename_i ei he
    split at h
    ·rename_i hk
     cases hc : (i.isString && Nat.beq es 1) with
     | false => rw [hc] at h; exact (hM.fail h).elim
     | true =>
      rw [hc] at h
      simp only [Bool.and_eq_true, Nat.beq_eq] at hc
      obtain ⟨h1, rfl⟩ := hc
      exact .deep hM (hM.sc h).2 ((hM.sc h).1.map fun h2 => step_convert_str hX ho hx hsi hel he hk hi h1 h2)
    ·exact (hM.fail h).elim
 ·rename_i si i q ver hsi hi hx
  split at h
  ·exact (hM.fail h).elim
  ·rename_i e hel
   split at h
   ·exact (hM.fail h).elim
   ·rename_i ei he
    split at h
    ·rename_i e' es n f ver' hk hq
     cases hc : (i.isString && Nat.beq es 1 && Nat.beq ver ver') with
     | false => rw [hc] at h; exact (hM.fail h).elim
     | true =>
      rw [hc] at h
      simp only [Bool.and_eq_true, Nat.beq_eq] at hc
      obtain ⟨⟨h1, rfl⟩, rfl⟩ := hc
      obtain ⟨v', hl, h'⟩ := hM.deep (hM.sc h).2
      exact .e (rs := [⟨q, 0, none⟩]) (ws := []) h' (by simpa using lt_of_at hq) (by simp) ((hM.sc h).1.map fun h2 => ((step_convert_str_own (e' := e') hX ho hx hsi hel he hk hi h1 h2).stepE (H := H) (by simpa using hq)).le hl)
    ·exact (hM.fail h).elim
 ·exact (hM.fail h).elim
theorem evLen_sound (hM : M.Ok X T) (hX : X.Good) {t : TypeId} {x : Operand} {cl : Call} (ho : o.op = .call cl) (hcl : cl.callee = .builtin .len) (hargs : cl.args = #[x]) (htys : cl.argTypes = #[t]) (h : T (evLen M X H t (R g x) k)) : Res X gd o R g H k T := by
 unfold evLen at h
 split at h
 ·exact (hM.fail h).elim
 ·rename_i i hi
  split at h
  ·rename_i s hx
   cases hc : i.isString with
   | false => rw [hc] at h; exact (hM.fail h).elim
   | true =>
    rw [hc] at h
    exact .plain h (.of (step_len hX (H := H) ho hcl hargs htys hi (by rw [hc]; rfl) (by rw [hx]; rfl) (fun _ => ⟨s, hx⟩) (fun e => by rw [hc] at e; cases e) (fun q v e => by rw [hx] at e; cases e)))
  ·rename_i es n f hx
   cases hc : i.isString with
   | true => rw [hc] at h; exact (hM.fail h).elim
   | false =>
    rw [hc] at h
    cases he : i.elemOf.isSome with
    | false => rw [he] at h; exact (hM.fail h).elim
    | true =>
     rw [he] at h
     exact .plain h (.of (step_len hX (H := H) ho hcl hargs htys hi (by rw [he]; simp) (by rw [hx]; rfl) (fun e => by rw [hc] at e; cases e) (fun _ s e => by rw [hx] at e; cases e) (fun q v e => by rw [hx] at e; cases e)))
  ·rename_i hx
   cases hc : i.isString with
   | true => rw [hc] at h; exact (hM.fail h).elim
   | false =>
    rw [hc] at h
    cases he : i.elemOf.isSome with
    | false => rw [he] at h; exact (hM.fail h).elim
    | true =>
     rw [he] at h
     exact .plain h (.of (step_len hX (H := H) ho hcl hargs htys hi (by rw [he]; simp) (by rw [hx]; rfl) (fun e => by rw [hc] at e; cases e) (fun _ s e => by rw [hx] at e; cases e) (fun q v e => by rw [hx] at e; cases e)))
  ·rename_i q ver hx
   split at h
   ·rename_i e es n f ver' hk
    cases hc : i.isString with
    | true => rw [hc] at h; exact (hM.fail h).elim
    | false =>
     rw [hc] at h
     simp only [cond_false] at h
     cases he : (i.elemOf.isSome && Nat.beq ver ver') with
     | false => rw [he] at h; exact (hM.fail h).elim
     | true =>
      rw [he] at h
      simp only [Bool.and_eq_true] at he
      refine .e (rs := [⟨q, 0, none⟩]) (ws := []) h (by simpa using lt_of_at hk) (by simp) (.of ?_)
      refine (step_len hX (H := H) (need := [(q, .list e es n f ver')]) (n := n) ho hcl hargs htys hi (by rw [he.1]; simp) ?_ (fun e => by rw [hc] at e; cases e) (fun _ s e => by rw [hx] at e; cases e) (fun q' v e => ?_)).stepE (H := H) ?_
      ·rw [hx]; simp only [lenAV, hk, he.2, cond_true]
      ·rw [hx] at e; cases e; exact ⟨_, hk, List.mem_singleton.2 rfl⟩
      ·intro z hz; rw [List.mem_singleton.1 hz]; exact hk
   ·exact (hM.fail h).elim
  ·exact (hM.fail h).elim
theorem ownRs_eq (H : List HObj) (a : AV) : ownRs H a = (ownOf H a).map fun x => ⟨x.1, 0, none⟩ := by
 unfold ownRs ownOf
 split
 ·rename_i q v
  simp only
  cases hq : H[q]? with
  | none => rfl
  | some ob => rfl
 ·rename_i hno
  split
  ·rename_i q v; exact absurd rfl (hno q v)
  ·rfl
theorem ownOf_at {H : List HObj} {a : AV} {x : Nat × HObj} (h : x ∈ ownOf H a) : H[x.1]? = some x.2 := by
 unfold ownOf at h
 split at h
 ·split at h
  ·rename_i ob hq; rw [List.mem_singleton.1 h]; exact hq
  ·cases h
 ·cases h
theorem evAppendL_sound (hM : M.Ok X T) (hX : X.Good) {t e : TypeId} {i ei : TI} {x y : Operand} {cl : Call} (ho : o.op = .call cl) (hcl : cl.callee = .builtin .append) (hargs : cl.args = #[x, y]) (htys : cl.argTypes = #[t, t])
  (hi : X.T t = some i) (hel : i.elemOf = some e) (he : X.T e = some ei) (hz : 0 < ei.size) (h : T (evAppendL M gd H e ei (R g x) (R g y) k)) : Res X gd o R g H k T := by
 unfold evAppendL at h
 split at h
 ·rename_i q ver q2 ver2 hx hy
  split at h
  ·rename_i e' es n c1 ver' e2 es2 m c2 ver2' hk hk2
   cases hc : (Nat.beq e' e && Nat.beq es ei.size && Nat.beq ver ver' && Nat.beq es2 ei.size && Nat.beq ver2 ver2' && Nat.beq c2.length ei.size) with
   | false => rw [hc] at h; exact (hM.fail h).elim
   | true =>
    rw [hc] at h
    simp only [Bool.and_eq_true, Nat.beq_eq] at hc
    obtain ⟨⟨⟨⟨⟨rfl, rfl⟩, rfl⟩, rfl⟩, rfl⟩, hc2⟩ := hc
    simp only [cond_true] at h
    refine .e (hM.sc h).2 ?_ (by simpa [W.k] using lt_of_at hk) ((hM.sc h).1.map fun h1 => (step_append_last hX (e2 := e2) (c1 := c1) ho hcl hargs htys hi hel he hz hx hy h1.1 h1.2 hc2).stepE (H := H) ?_)
    ·intro r hr
     simp only [List.mem_cons, List.not_mem_nil, or_false] at hr
     rcases hr with rfl | rfl
     ·exact lt_of_at hk
     ·exact lt_of_at hk2
    ·intro z hz'
     simp only [List.mem_cons, List.not_mem_nil, or_false] at hz'
     rcases hz' with rfl | rfl
     ·exact hk
     ·exact hk2
  ·exact (hM.fail h).elim
 ·exact (hM.fail h).elim
theorem evAppend_sound (hM : M.Ok X T) (hX : X.Good) {t : TypeId} {x y : Operand} {cl : Call} (ho : o.op = .call cl) (hcl : cl.callee = .builtin .append) (hargs : cl.args = #[x, y]) (htys : cl.argTypes = #[t, t]) (h : T (evAppend M X gd H t (R g x) (R g y) k)) : Res X gd o R g H k T := by
 unfold evAppend at h
 split at h
 ·exact (hM.fail h).elim
 ·rename_i i hi
  split at h
  ·exact (hM.fail h).elim
  ·rename_i e hel
   split at h
   ·exact (hM.fail h).elim
   ·rename_i ei he
    cases hz : Nat.blt 0 ei.size with
    | false => rw [hz] at h; exact (hM.fail h).elim
    | true =>
     rw [hz] at h
     rw [Nat.blt_eq] at hz
     simp only [cond_true] at h
     split at h
     ·exact evAppendL_sound hM hX ho hcl hargs htys hi hel he hz h
     ·rename_i m f hy
      split at h
      ·rename_i hx
       rw [ownRs_eq] at h
       refine ⟨_, _, _, 1, (hM.sc h).2, ?_, by simp [W.k], (hM.sc h).1.map fun h1 => (step_append_new hX (H := H) (k := H.length) ho hcl hargs htys hi hel he hz hx hy h1.1 h1.2).stepE (H := H ++ List.replicate 1 .hole) ?_⟩
       ·intro r hr
        rcases List.mem_cons.1 hr with rfl | hr
        ·simp
        ·obtain ⟨z, hz1, rfl⟩ := List.mem_map.1 hr
         have := lt_of_at (ownOf_at hz1)
         simp only; omega
       ·intro z hz'
        rcases List.mem_cons.1 hz' with rfl | hz'
        ·exact hole_at H
        ·exact old_at _ (ownOf_at hz')
      ·rename_i q ver hx
       split at h
       ·rename_i e' es n g' ver' hk
        cases hc : (Nat.beq e' e && Nat.beq es ei.size && Nat.beq ver ver') with
        | false => rw [hc] at h; exact (hM.fail h).elim
        | true =>
         rw [hc] at h
         simp only [Bool.and_eq_true, Nat.beq_eq] at hc
         obtain ⟨⟨rfl, rfl⟩, rfl⟩ := hc
         simp only [cond_true] at h
         rw [ownRs_eq] at h
         refine .e (hM.sc h).2 ?_ (by simpa [W.k] using lt_of_at hk) ((hM.sc h).1.map fun h1 => (step_append_own hX (H := H) ho hcl hargs htys hi hel he hz hx hy h1.1 h1.2).stepE (H := H) ?_)
         ·intro r hr
          rcases List.mem_cons.1 hr with rfl | hr
          ·exact lt_of_at hk
          ·obtain ⟨z, hz1, rfl⟩ := List.mem_map.1 hr
           exact lt_of_at (ownOf_at hz1)
         ·intro z hz'
          rcases List.mem_cons.1 hz' with rfl | hz'
          ·exact hk
          ·exact ownOf_at hz'
       ·exact (hM.fail h).elim
      ·exact (hM.fail h).elim
end
end Go.Fx
/-
 The reading of an operation as a program is sound: calls; all operations.
-/
namespace Go.Fx
open Go.RowKit
theorem LeOks.spec {H : List HObj} : ∀ {ks : List Nat} {Ls : List HObj}, LeOks H ks Ls -> ks.length = Ls.length /\ ∀ (j k : Nat) L, ks[j]? = some k -> Ls[j]? = some L -> ∃ o, H[k]? = some o /\ LeO o L
 | [], [], _ => ⟨rfl, fun j k L h => by simp at h⟩
 | k :: ks, L :: Ls, ⟨h0, h⟩ => by
  obtain ⟨h1, h2⟩ := h.spec
  refine ⟨by simp [h1], fun j k' L' hk hL => ?_⟩
  cases j with
  | zero =>
   simp at hk hL
   subst hk hL
   split at h0
   ·rename_i o ho; exact ⟨o, ho, h0⟩
   ·exact h0.elim
  | succ j => exact h2 j k' L' (by simpa using hk) (by simpa using hL)
theorem zip_mem {α β : Type} {as : List α} {bs : List β} {x : α × β} (h : x ∈ as.zip bs) : ∃ j : Nat, as[j]? = some x.1 /\ bs[j]? = some x.2 := by
 obtain ⟨j, hj⟩ := List.getElem?_of_mem h
 rw [List.getElem?_zip_eq_some] at hj
 exact ⟨j, hj⟩
theorem setAll_noop : ∀ {l : List (Nat × HObj)} {H : List HObj}, (∀ x ∈ l, H[x.1]? = some x.2) -> setAll H l = H
 | [], _, _ => rfl
 | (k, o) :: l, H, h => by
  have e : H.set k o = H := by
   have h0 : H[k]? = some o := h (k, o) (List.mem_cons_self ..)
   obtain ⟨hlt, he⟩ := List.getElem?_eq_some_iff.1 h0
   rw [<- he]; exact List.set_getElem_self hlt
  unfold setAll
  rw [e]
  exact setAll_noop fun x hx => h x (List.mem_cons_of_mem _ hx)
theorem StepOK.noop {X : Ctx} {o : Oper} {ρ : Operand -> AV} {need write : List (Nat × HObj)} {av : AV} (h : StepOK X o ρ need av write) (hw : ∀ x ∈ write, x ∈ need) : StepOK X o ρ need av [] := by
 intro c a K Q hok hb hn hr hk
 exact h c a K Q hok hb hn hr fun c' v ht hH hv => hk c' v ht (by rw [hH]; exact setAll_noop fun x hx => hn x (hw x hx)) hv
section
variable {X : Ctx} {o : Oper} {R : Option (Nat × Bool) -> Operand -> AV} {g : Option (Nat × Bool)} {H : List HObj} {gd : Option Prop} {k : KT Prop}
theorem evCallFn_sound {cl : Call} {F : Operand} {f : FuncId} {n : Nat} {caps : Nat -> AV} (ho : o.op = .call cl) (hcl : cl.callee = .value F) (hF : R g F = .fn f n caps) (h : evCallFn X gd H f (callArgs (R g) cl.args n caps) k) : Res X gd o R g H k (fun p : Prop => p) := by
 unfold evCallFn at h
 rcases h with ⟨as, r, h1, h2, h3, h4⟩ | ⟨as, r, h1, h2, h3, h4, h5⟩ | ⟨as, ks, m, Ls, r, L', h1, h2, h3, h4, h5, h6⟩ | ⟨as, ks, Ls, r, h1, h2, h3, h4, h5, h6⟩
 ·exact .plain h4 (Sc.map2 (fun h1 h2 => step_pure ho hcl hF h2.len (fun c hok _ j a b ha hb v hv => AV.free_reads (g' := c.g) _ _ _ _ (all_free h3 hb) ((h2.at j a b ha hb).reads hv)) h1) h1 h2)
 ·generalize hks : ((callArgs (R g) cl.args n caps).flatMap AV.owns).filter (Nat.blt · H.length) = ks at h2 h5
  have hlt : ∀ q ∈ ks, q < H.length := fun q hq => by
   rw [<- hks] at hq
   have := (List.mem_filter.1 hq).2
   rwa [Nat.blt_eq] at this
  let need : List (Nat × HObj) := ks.map fun q => (q, H.getD q .dead)
  have hneed : ∀ x ∈ need, H[x.1]? = some x.2 := fun x hx => by
   obtain ⟨q, hq, rfl⟩ := List.mem_map.1 hx
   have := hlt q hq
   simp [this]
  have hrs : (ks.map fun q => (⟨q, 0, none⟩ : Rg)) = need.map fun x => ⟨x.1, 0, none⟩ := by simp [need, Function.comp_def]
  rw [hrs] at h5
  refine .e h5 (fun r hr => ?_) (by simp) (Sc.map2 (fun h1 h2 => ?_) h1 h2)
  ·rw [<- hrs] at hr
   obtain ⟨q, hq, rfl⟩ := List.mem_map.1 hr
   exact hlt q hq
  ·refine (step_lend (need := need) ho hcl hF h2.len h4 (fun c hok hb hH j a b ha hb' v hv => ?_) h1).stepE (H := H) hneed
   have mine : ∀ (k e es n : Nat) (f : Nat -> Nat -> AV) (ver : Nat), (only ks H)[k]? = some (HObj.list e es n f ver) -> c.H[k]? = some (HObj.list e es n f ver) := fun k e es n f ver hk => by
    obtain ⟨hk1, hk2⟩ := only_list hk
    have := hH (k, H.getD k .dead) (List.mem_map.2 ⟨k, hk2, rfl⟩)
    simp only [List.getD_eq_getElem?_getD, hk1, Option.getD_some] at this
    exact this
   exact AV.free_reads (g' := c.g) _ _ _ _ (all_free h3 hb') ((h2.at j a b ha hb').reads hok mine (fun b o h => .inl h) (fun k e es n f ver b hk hb o => .inr ⟨k, _, mine k e es n f ver hk, hb⟩) hv)
 ·generalize hnews : List.range' H.length m = news at *
  have hnl : news.length = m := by rw [<- hnews]; simp
  simp only [Bool.and_eq_true] at h3
  obtain ⟨⟨u1, u2⟩, u3⟩ := h3
  obtain ⟨d1, d2, d3⟩ := h4
  obtain ⟨e1, e2⟩ := LeOks.spec h5
  have hnew : ∀ q ∈ news, q < H.length + m /\ H.length <= q := fun q hq => by rw [<- hnews] at hq; simp at hq; omega
  have hold : ∀ q ∈ ks, q < H.length := fun q hq => by
   obtain ⟨j, hj⟩ := List.getElem?_of_mem hq
   have hjl := (List.getElem?_eq_some_iff.1 hj).1
   obtain ⟨o, ho, _⟩ := e2 j q _ hj (List.getElem?_eq_getElem (show j < _ by omega))
   exact lt_of_at ho
  have hall : ∀ q ∈ ks ++ news, q < H.length + m := fun q hq => by
   rcases List.mem_append.1 hq with h | h
   ·have := hold q h; omega
   ·exact (hnew q h).1
  refine ⟨_, _, _, m, h6, fun r hr => ?_, fun w hw => ?_, Sc.map2 (fun h1 h2 => ?_) h1 h2⟩
  ·obtain ⟨q, hq, rfl⟩ := List.mem_map.1 hr
   exact hall q hq
  ·obtain ⟨x, hx, rfl⟩ := List.mem_map.1 hw
   exact hall x.1 (List.of_mem_zip hx).1
  ·generalize hρ : numOf (ks ++ news) = ρ at *
   have base := step_mut (X := X) (o := o) (ρ := R g) (ks := ks) (news := news) ho hcl hF (by rw [hρ]; exact h2) u1 d1 d2 (by rw [d3]; simp [hnl]) u2 u3 h1
   rw [hρ] at base
   intro c a K Q hok hb hag hg hr hK
   have hw : ∀ q ∈ ks ++ news, (H ++ List.replicate m .hole)[q]? = c.H[q]? := fun q hq => Agree.whole (hag ⟨q, 0, none⟩ (List.mem_map.2 ⟨q, hq, rfl⟩))
   have hws : ∀ q ∈ ks, H[q]? = c.H[q]? := fun q hq => by rw [<- hw q (List.mem_append_left _ hq), List.getElem?_append_left (hold q hq)]
   have hwn : ∀ q ∈ news, c.H[q]? = some .hole := fun q hq => by
    rw [<- hw q (List.mem_append_right _ hq), List.getElem?_append_right (hnew q hq).2, List.getElem?_replicate]
    rw [if_pos (by have := hnew q hq; omega)]
   have hlen' : (setAll c.H (ks.zip (Ls.map (renO ρ)))).length = c.H.length := setAll_length _ _
   have hks' : ∀ q ∈ ks, q < c.H.length := fun q hq => by
    have := hold q hq
    have h' := hws q hq
    rw [List.getElem?_eq_getElem this] at h'
    exact lt_of_at h'.symm
   have hdk : ks.Nodup := (List.nodup_append.1 d1).1
   have htw : Tr c { c with H := setAll c.H (ks.zip (Ls.map (renO ρ))) } := Tr.weaken hok hlen' fun q ob ob' hq hq' => by
    by_cases hm : q ∈ ks
    ·obtain ⟨j, hj⟩ := List.getElem?_of_mem hm
     have hjl := (List.getElem?_eq_some_iff.1 hj).1
     have hL : (Ls.map (renO ρ))[j]? = some ((Ls.map (renO ρ))[j]'(by omega)) := List.getElem?_eq_getElem _
     obtain ⟨o1, p1, p2⟩ := e2 j q _ hj hL
     rw [setAll_zip ks (Ls.map (renO ρ)) c.H e1 hdk hks' j q _ hj hL] at hq'
     cases hq'
     rw [hws q hm, hq] at p1
     cases p1
     exact p2
    ·rw [setAll_other _ _ q (fun x hx e => hm (by rw [<- e]; exact (List.of_mem_zip hx).1)), hq] at hq'
     cases hq'
     exact .refl _
   refine base { c with H := setAll c.H (ks.zip (Ls.map (renO ρ))) } a K Q htw.ok (hb.tr htw) (fun x hx => ?_) (fun x hx => ?_) fun c' v ht hH hv => hK c' v (htw.trans ht) ?_ hv
   ·rcases List.mem_append.1 hx with h | h
    ·obtain ⟨j, j1, j2⟩ := zip_mem h
     exact setAll_zip ks (Ls.map (renO ρ)) c.H e1 hdk hks' j x.1 x.2 j1 j2
    ·obtain ⟨q, hq, rfl⟩ := List.mem_map.1 h
     show (setAll c.H _)[q]? = _
     rw [setAll_other _ _ _ (fun x hx e => by
      have h1 := hold x.1 (List.of_mem_zip hx).1
      have h2 := (hnew q hq).2
      omega)]
     exact hwn q hq
   ·have := hr g hg x hx
    show Reads c.g c.I c.w _ (setAll c.H _).length _
    rw [hlen']
    exact this
   ·rw [hH, putAll_sets]
    have hL2 : (ks ++ news).length = (L'.map (renO ρ)).length := by simp [d3, hnl]
    have hrange : ∀ q ∈ ks ++ news, q < c.H.length := fun q hq => by
     rcases List.mem_append.1 hq with h | h
     ·exact hks' q h
     ·exact lt_of_at (hwn q h)
    apply List.ext_getElem?
    intro q
    by_cases hm : q ∈ ks ++ news
    ·obtain ⟨j, hj⟩ := List.getElem?_of_mem hm
     have hjl := (List.getElem?_eq_some_iff.1 hj).1
     have hL : (L'.map (renO ρ))[j]? = some ((L'.map (renO ρ))[j]'(by omega)) := List.getElem?_eq_getElem _
     rw [setAll_zip _ _ _ hL2 d1 (fun q hq => by show q < (setAll c.H _).length; rw [hlen']; exact hrange q hq) j q _ hj hL, setAll_zip _ _ _ hL2 d1 hrange j q _ hj hL]
    ·rw [setAll_other ((ks ++ news).zip _) _ q (fun x hx e => hm (by rw [<- e]; exact (List.of_mem_zip hx).1)), setAll_other (ks.zip _) _ q (fun x hx e => hm (List.mem_append_left _ (by rw [<- e]; exact (List.of_mem_zip hx).1)))]
     exact (setAll_other _ _ q (fun x hx e => hm (by rw [<- e]; exact (List.of_mem_zip hx).1))).symm
 ·obtain ⟨d1, d2⟩ := h4
  simp only [Bool.and_eq_true] at h3
  have e0 : ks ++ [] = ks := List.append_nil ks
  have hat : ∀ x ∈ ks.zip (Ls.map (renO (numOf ks))), H[x.1]? = some x.2 := fun x hx => by
   obtain ⟨j, j1, j2⟩ := zip_mem hx
   have q := congrArg (fun l => l[j]?) h5
   simp only [List.getElem?_map] at q j2
   rw [j1] at q
   cases hL : Ls[j]? with
   | none => rw [hL] at j2; cases j2
   | some L =>
    rw [hL] at q j2
    simp only [Option.map_some, Option.some.injEq] at q j2
    rw [q, j2]
  refine .e h6 (fun r hr => ?_) (by simp) (Sc.map2 (fun h1 h2 => ?_) h1 h2)
  ·obtain ⟨q, hq, rfl⟩ := List.mem_map.1 hr
   obtain ⟨j, hj⟩ := List.getElem?_of_mem hq
   have hjl := (List.getElem?_eq_some_iff.1 hj).1
   exact lt_of_at (hat (q, _) (List.mem_of_getElem? (i := j) (List.getElem?_zip_eq_some.2 ⟨hj, List.getElem?_eq_getElem (by simp; omega)⟩)))
  ·have base := step_mut (X := X) (o := o) (ρ := R g) (ks := ks) (news := []) ho hcl hF (by rw [e0]; exact h2) h3.1 (by rw [e0]; exact d1) d2 (by rw [e0]; exact d2) h3.2 (by simp [List.drop_of_length_le, d2]) h1
   rw [e0] at base
   simp only [List.map_nil, List.append_nil] at base
   have b2 := StepOK.noop base (fun x hx => hx)
   have b3 := b2.stepE (H := H) hat
   have er : (ks.map fun q => (⟨q, 0, none⟩ : Rg)) = (ks.zip (Ls.map (renO (numOf ks)))).map fun x => ⟨x.1, 0, none⟩ := by
    have e1 : (ks.zip (Ls.map (renO (numOf ks)))).map Prod.fst = ks := List.map_fst_zip (by simp [d2])
    conv => lhs; rw [<- e1]
    rw [List.map_map]
    rfl
   rw [er]
   exact b3
end
section
variable {X : Ctx} {o : Oper} {R : Option (Nat × Bool) -> Operand -> AV} {g : Option (Nat × Bool)} {H : List HObj} {gd : Option Prop} {A : Type} {k : KT A} {M : Md A} {T : A -> Prop}
theorem toList1 {α : Type} {a : Array α} {x : α} (h : a.toList = [x]) : a = #[x] := by rw [<- Array.toList_inj, h]
theorem toList2 {α : Type} {a : Array α} {x y : α} (h : a.toList = [x, y]) : a = #[x, y] := by rw [<- Array.toList_inj, h]
theorem evCall_sound (hM : M.Ok X T) (hX : X.Good) {cl : Call} (ho : o.op = .call cl) (h : T (evCall M X gd H (R g) cl k)) : Res X gd o R g H k T := by
 unfold evCall at h
 split at h
 ·rename_i b hcl
  split at h
  ·rename_i x t ha ht; exact evLen_sound hM hX ho hcl (toList1 ha) (toList1 ht) h
  ·rename_i x y t t' ha ht
   cases hc : Nat.beq t t' with
   | false => rw [hc] at h; exact (hM.fail h).elim
   | true =>
    rw [hc] at h
    rw [Nat.beq_eq] at hc
    subst hc
    exact evAppend_sound hM hX ho hcl (toList2 ha) (toList2 ht) h
  ·rename_i x y ha
   split at h
   ·rename_i ka n kb m hx hy
    cases hc : sameK ka kb with
    | false => rw [hc] at h; exact (hM.fail h).elim
    | true => rw [hc] at h; obtain rfl := sameK_eq hc; exact .plain h (.of (step_min ho hcl (toList2 ha) hx hy))
   ·exact (hM.fail h).elim
  ·rename_i x y ha
   split at h
   ·rename_i ka n kb m hx hy
    cases hc : sameK ka kb with
    | false => rw [hc] at h; exact (hM.fail h).elim
    | true => rw [hc] at h; obtain rfl := sameK_eq hc; exact .plain h (.of (step_max ho hcl (toList2 ha) hx hy))
   ·exact (hM.fail h).elim
  ·exact (hM.fail h).elim
 ·rename_i F hcl
  split at h
  ·rename_i f n caps hF; exact hM.call ho hcl hF h
  ·exact (hM.fail h).elim
 ·exact (hM.fail h).elim
theorem symM_ok : (symM X).Ok X (fun p : Prop => p) := ⟨fun h => h, fun h => h, fun ho hcl hF h => evCallFn_sound ho hcl hF h, fun h => match h with | .one h => .inl h | .two h => .inr h, fun h => h, fun {v K} h => ⟨v, .refl v, by have h : v.force K := h; rw [AV.force_eq] at h; exact h⟩, fun {v K} h => ⟨v, .refl v, h⟩, effH_eq _ _ _ _, fun {H m ws K} h => ⟨_, .refl _, by have h : effH H m ws K := h; rw [effH_eq] at h; exact h⟩⟩
theorem opEv_sound (hM : M.Ok X T) (hX : X.Good) (h : T (opEv M X gd R g H o.op k)) : Res X gd o R g H k T := by
 unfold opEv at h
 split at h
 case h_1 x ho => exact .plain h (.of (step_move ho))
 case h_2 x ho => exact .plain h (.of (step_assign ho))
 case h_3 x ho =>
  split at h
  ·rename_i hx; exact .plain h (.of (by rw [<- hx]; exact step_nilCheck ho (by rw [hx]) (by rw [hx]; simp)))
  ·rename_i hx; exact .plain h (.of (by rw [<- hx]; exact step_nilCheck ho (by rw [hx]) (by rw [hx]; simp)))
  ·rename_i q ver es p off hx
   split at h
   ·rename_i e es' n f ver' hk
    cases hv : Nat.beq ver ver' with
    | false => rw [hv] at h; exact (hM.fail h).elim
    | true =>
     rw [hv] at h
     rw [Nat.beq_eq] at hv
     subst hv
     refine .e (rs := [⟨q, 0, some 0⟩]) (ws := []) h (by simpa using lt_of_at hk) (by simp) (.of ?_)
     intro c a K Q hok hb hag hg hr hK
     obtain ⟨f', h2, _⟩ := agree_list (hag _ (List.mem_singleton.2 rfl)) hk
     have h1 := hr g hg x (by simp [ho, Op.operands])
     rw [hx] at h1
     obtain ⟨l1, l2, l3, l4⟩ := h1
     obtain ⟨b, hb', h1⟩ := l4 (hok.obj q _ h2).1
     exact fun ρ => wpIn_value ρ (by simp [execOp, ho, h1]) (hK c _ (.refl hok) rfl ⟨l1, l2, rfl, fun _ => ⟨b, hb', rfl⟩⟩)
   ·exact (hM.fail h).elim
  ·exact (hM.fail h).elim
 case h_4 t a b ho =>
  split at h
  ·rename_i p hp; exact evPick_sound hM ho hp h
  ·exact (hM.fail h).elim
 case h_5 t ho =>
  split at h
  ·rename_i i hi; exact Res.new h (.of (step_alloc hX ho hi))
  ·exact (hM.fail h).elim
 case h_6 t x ho =>
  split at h
  ·rename_i l hl; exact Res.new h (.of (step_box ho hl))
  ·exact (hM.fail h).elim
 case h_7 t parts ho => exact evBuild_sound hM hX ho h
 case h_8 t len parts ho => exact evBuildSlice_sound hM hX ho h
 case h_9 t x ho => exact evLoad_sound hM hX ho h
 case h_10 t p x ho => exact evStore_sound hM hX ho h
 case h_11 op t x y u ho => exact evBin_sound hM hX ho h
 case h_12 op t x ho =>
  split at h
  ·rename_i b hb; exact .plain h (.of (step_not ho hb))
  ·rename_i ka n hn; exact .plain (hM.sc h).2 ((hM.sc h).1.map fun h1 => step_neg ho hn h1)
  ·exact (hM.fail h).elim
 case h_13 s t x ho => exact evConvert_sound hM hX ho h
 case h_14 t i ho =>
  split at h
  ·rename_i n f hx
   cases hc : Nat.blt i n with
   | false => rw [hc] at h; exact (hM.fail h).elim
   | true => rw [hc] at h; rw [Nat.blt_eq] at hc; exact .plain h (.of (step_extract ho hx hc))
  ·exact (hM.fail h).elim
 case h_15 s x n ho => exact evField_sound hM hX ho h
 case h_16 s x n ho => exact evFieldAddr_sound hM hX ho h
 case h_17 t x y ho => exact evIndex_sound hM hX ho h
 case h_18 t x y ho => exact evIndexAddr_sound hM hX ho h
 case h_19 fn first caps ho =>
  cases hc : first.isEmpty with
  | false => rw [hc] at h; exact (hM.fail h).elim
  | true =>
   rw [hc] at h
   have : first = #[] := by simpa using hc
   subst this
   exact .plain h (.of (step_makeFunc ho))
 case h_20 t x y ho => exact evMakeSlice_sound hM hX ho h
 case h_21 t x lo hi ho =>
  unfold evSlice' at h
  split at h
  ·rename_i q hx
   unfold evSliceArr at h
   split at h
   ·exact (hM.fail h).elim
   rename_i i hi
   split at h
   ·exact (hM.fail h).elim
   rename_i n e ha
   split at h
   ·exact (hM.fail h).elim
   rename_i ei he
   split at h
   ·rename_i cells hk
    cases hc : (Nat.blt 0 n && Nat.beq cells.length (n * ei.size) && cells.all (·.free)) with
    | false => rw [hc] at h; exact (hM.fail h).elim
    | true =>
     rw [hc] at h
     simp only [Bool.and_eq_true, Nat.blt_eq, Nat.beq_eq] at hc
     have hq : q < H.length := (List.getElem?_eq_some_iff.1 hk).1
     exact .e h (by simpa using hq) (by simpa [W.k] using hq) (.of ((step_slice_arr (ρ := R g) hX ho hx hi ha he hc.1.1 hc.1.2 hc.2).stepE (H := H) (by simpa using hk)))
   ·exact (hM.fail h).elim
  ·exact evSlice_sound hM hX ho h
 case h_22 cl ho => exact evCall_sound hM hX ho h
 case h_23 t x ho =>
  unfold evRange at h
  split at h
  ·exact (hM.fail h).elim
  ·rename_i i hi
   split at h
   ·rename_i s hx
    cases hc : i.isString with
    | false => rw [hc] at h; exact (hM.fail h).elim
    | true =>
     rw [hc] at h
     exact Res.new h (.of (step_range ho (isString_spec (hX.types t i hi) hc) hx))
   ·exact (hM.fail h).elim
 case h_24 x b ho =>
  unfold evNext at h
  split at h
  ·rename_i q hx
   split at h
   ·rename_i s pos hk
    cases b with
    | false => exact (hM.fail h).elim
    | true =>
     simp only [cond_true] at h
     have hq : q < H.length := (List.getElem?_eq_some_iff.1 hk).1
     cases hp : Nat.blt pos s.size with
     | true =>
      rw [hp] at h
      rw [Nat.blt_eq] at hp
      exact .e h (by simpa using hq) (by simpa [W.k] using hq) (.of ((step_next (ρ := R g) ho hx hp).stepE (H := H) (by simpa using hk)))
     | false =>
      rw [hp] at h
      have hp : ¬ pos < s.size := fun e => by rw [show Nat.blt pos s.size = true from by rw [Nat.blt_eq]; exact e] at hp; cases hp
      exact .e h (by simpa using hq) (by simp) (.of ((step_next_end (ρ := R g) ho hx hp).stepE (H := H) (by simpa using hk)))
   ·exact (hM.fail h).elim
  ·exact (hM.fail h).elim
 case h_25 => exact (hM.fail h).elim
end
end Go.Fx
