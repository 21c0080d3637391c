/-
 The symbolic reader, part 4: regions and code.
-/
import Derived.Test.YtkinfbkpecjpnaaGreatDoorFc
set_option linter.all false
/-
 A region, read as a program; its soundness, in the text's order and in any other.
-/
namespace Go.Fx
open Go.RowKit
def itemAt (done : List Item) (i : Nat) : Option Item := done.reverse[i]?
def noEff (ws : List W) (m : Nat) (P : Prop) : Prop := match ws, m with | [], 0 => P | _, _ => False
def quietOp : Op -> Bool
 | .alloc _ | .box _ _ | .makeSlice _ _ _ | .store _ _ _ => false
 | .call c => match c.callee with | .builtin .append => false | .builtin _ => true | _ => false
 | _ => true
def oneOr (q : Bool) (a b : Prop) : Prop := bif q then a else Alt a b
theorem oneOr.alt {q : Bool} {a b : Prop} (h : oneOr q a b) : Alt a b := by cases q with | true => exact .one h | false => exact h
def regEv (X : Ctx) (base : Nat -> AV) : List Oper -> List Item -> List HObj -> (List Item -> List HObj -> Prop) -> Prop
 | [], done, H, k => k done H
 | o :: os, done, H, k =>
  match o.guard with
  | none => opEv (symM X) X none (fun g x => rdO X (lookI g done base) x) none H o.op fun av rs ws m => av.force fun av => effH H m ws fun H => regEv X base os (⟨o, .exec, True, av, rs, ws, m⟩ :: done) H k
  | some (i, w) =>
   match itemAt done i with
   | none => False
   | some y =>
    match y.mode, y.o.dst, y.av with
    | .skip, some _, _ => regEv X base os (⟨o, .skip, True, .any, [], [], 0⟩ :: done) H k
    | .exec, some t, .bool p =>
     oneOr (quietOp o.op) (opEv (symM X) X (some (p = w)) (fun g x => rdO X (lookI g done base) x) (some (t, w)) H o.op fun av rs ws m => noEff ws m (av.force fun av => regEv X base os (⟨o, .cond t w, p = w, av, rs, [], 0⟩ :: done) H k))
      ((p = w -> opEv (symM X) X none (fun g x => rdO X (lookI g done base) x) none H o.op fun av rs ws m => av.force fun av => effH H m ws fun H => regEv X base os (⟨o, .exec, True, av, rs, ws, m⟩ :: done) H k) /\
        (p = !w -> regEv X base os (⟨o, .skip, True, .any, [], [], 0⟩ :: done) H k))
    | .cond _ _, some t, .bool p => opEv (symM X) X (some (y.gd /\ p = w)) (fun g x => rdO X (lookI g done base) x) (some (t, w)) H o.op fun av rs ws m => noEff ws m (av.force fun av => regEv X base os (⟨o, .cond t w, y.gd /\ p = w, av, rs, [], 0⟩ :: done) H k)
    | _, _, _ => False
def after (H : List HObj) : List Item -> List HObj
 | [] => H
 | it :: its => after (putAll (H ++ List.replicate it.m .hole) it.ws) its
def msum : List Item -> Nat
 | [] => 0
 | it :: its => it.m + msum its
def afterX (H : List HObj) : List Item -> List HObj
 | [] => H
 | it :: its => afterX (putAll H it.ws) its
theorem after_len : ∀ (its : List Item) (H : List HObj), (after H its).length = H.length + msum its
 | [], H => rfl
 | it :: its, H => by simp only [after, msum]; rw [after_len its, putAll_len]; simp; omega
theorem afterX_append : ∀ (a b : List Item) (H : List HObj), afterX H (a ++ b) = afterX (afterX H a) b
 | [], b, H => rfl
 | x :: a, b, H => by simp only [List.cons_append, afterX]; exact afterX_append a b _
theorem msum_append : ∀ (a b : List Item), msum (a ++ b) = msum a + msum b
 | [], b => by simp [msum]
 | x :: a, b => by simp only [List.cons_append, msum]; rw [msum_append a b]; omega
theorem W.put_append {w : W} {A B : List HObj} (h : w.k < A.length) : w.put (A ++ B) = w.put A ++ B := by
 cases w with
 | set k o => simp only [W.put, W.k] at *; rw [List.set_append_left _ _ h]
 | cells k off l =>
  simp only [W.put, W.k] at *
  rw [List.getElem?_append_left h]
  split
  ·rw [List.set_append_left _ _ h]
  ·rfl
 | elem k p off l =>
  simp only [W.put, W.k] at *
  rw [List.getElem?_append_left h]
  split
  ·rw [List.set_append_left _ _ h]
  ·rfl
theorem putAll_append : ∀ (ws : List W) {A B : List HObj}, (∀ w ∈ ws, w.k < A.length) -> putAll (A ++ B) ws = putAll A ws ++ B
 | [], _, _, _ => rfl
 | w :: ws, A, B, h => by
  simp only [putAll]
  rw [W.put_append (h w (List.mem_cons_self ..))]
  exact putAll_append ws fun x hx => by rw [W.put_len]; exact h x (List.mem_cons_of_mem _ hx)
def Bds (n : Nat) : List Item -> Prop
 | [] => True
 | it :: its => (∀ r ∈ it.rs, r.k < n + it.m) /\ (∀ w ∈ it.ws, w.k < n + it.m) /\ Bds (n + it.m) its
theorem after_ext : ∀ (its : List Item) (H : List HObj) (M : Nat), Bds H.length its -> msum its <= M -> afterX (H ++ List.replicate M .hole) its = after H its ++ List.replicate (M - msum its) .hole
 | [], H, M, _, _ => rfl
 | it :: its, H, M, hb, hM => by
  obtain ⟨h1, h2, h3⟩ := hb
  simp only [msum] at hM
  simp only [afterX, after, msum]
  have e : H ++ List.replicate M HObj.hole = (H ++ List.replicate it.m .hole) ++ List.replicate (M - it.m) .hole := by
   rw [List.append_assoc, List.replicate_append_replicate]
   congr 2
   omega
  rw [e, putAll_append it.ws (fun w hw => by have := h2 w hw; simpa using this), after_ext its _ (M - it.m) (by rw [putAll_len]; simpa using h3) (by omega)]
  congr 2
  omega
theorem Bds.take : ∀ (its : List Item) (n j : Nat), Bds n its -> Bds n (its.take j)
 | [], n, j, h => by simp [Bds]
 | it :: its, n, 0, h => by simp [Bds]
 | it :: its, n, j + 1, ⟨h1, h2, h3⟩ => ⟨h1, h2, Bds.take its _ j h3⟩
theorem Bds.at : ∀ (its : List Item) (n j : Nat) (it : Item), Bds n its -> its[j]? = some it -> (∀ r ∈ it.rs, r.k < n + msum (its.take j) + it.m) /\ (∀ w ∈ it.ws, w.k < n + msum (its.take j) + it.m)
 | [], n, j, it, h, hj => by simp at hj
 | x :: its, n, 0, it, ⟨h1, h2, _⟩, hj => by simp at hj; subst hj; simpa [msum] using ⟨h1, h2⟩
 | x :: its, n, j + 1, it, ⟨_, _, h3⟩, hj => by
  have := Bds.at its _ j it h3 (by simpa using hj)
  simp only [List.take_succ_cons, msum]
  refine ⟨fun r hr => ?_, fun w hw => ?_⟩
  ·have := this.1 r hr; omega
  ·have := this.2 w hw; omega
section
variable {X : Ctx}
theorem noEff_out {ws : List W} {m : Nat} {P : Prop} (h : noEff ws m P) : ws = [] /\ m = 0 /\ P := by
 unfold noEff at h
 split at h
 ·exact ⟨rfl, rfl, h⟩
 ·exact h.elim
theorem regEv_spec (hX : X.Good) (base : Nat -> AV) : ∀ (os : List Oper) (done : List Item) (H : List HObj) (k : List Item -> List HObj -> Prop), regEv X base os done H k ->
  ∃ rest : List Item, rest.map (·.o) = os /\ k (rest.reverse ++ done) (after H rest) /\ Bds H.length rest /\
   ∀ (j : Nat) it, rest[j]? = some it -> ItemOK X (done.reverse ++ rest) base (done.length + j) (after H (rest.take j) ++ List.replicate it.m .hole) it
 | [], done, H, k, h => ⟨[], rfl, h, trivial, fun j it hj => by simp at hj⟩
 | o :: os, done, H, k, h => by
  -- one item, then the rest
  have glue : ∀ (it : Item), it.o = o -> (∀ r ∈ it.rs, r.k < H.length + it.m) -> (∀ w ∈ it.ws, w.k < H.length + it.m) ->
    (∀ rest, ItemOK X (done.reverse ++ it :: rest) base done.length (H ++ List.replicate it.m .hole) it) ->
    regEv X base os (it :: done) (putAll (H ++ List.replicate it.m .hole) it.ws) k -> ∃ rest : List Item, rest.map (·.o) = o :: os /\ k (rest.reverse ++ done) (after H rest) /\ Bds H.length rest /\
     ∀ (j : Nat) it, rest[j]? = some it -> ItemOK X (done.reverse ++ rest) base (done.length + j) (after H (rest.take j) ++ List.replicate it.m .hole) it := by
   intro it ho hr hw hok hrec
   obtain ⟨rest, h1, h2, h3, h4⟩ := regEv_spec hX base os (it :: done) _ k hrec
   refine ⟨it :: rest, by simp [ho, h1], by simpa [after] using h2, ⟨hr, hw, by rw [putAll_len] at h3; simpa using h3⟩, fun j x hj => ?_⟩
   cases j with
   | zero =>
    simp only [List.getElem?_cons_zero, Option.some.injEq] at hj
    subst hj
    exact hok rest
   | succ j =>
    have := h4 j x (by simpa using hj)
    simp only [List.reverse_cons, List.append_assoc, List.singleton_append, List.length_cons] at this
    rw [show done.length + (j + 1) = done.length + 1 + j by omega]
    exact this
  have rd : ∀ (it : Item) (rest : List Item), (fun g x => rdO X (lookI g done base) x) = rdI X (done.reverse ++ it :: rest) base done.length := by
   intro it rest
   funext g x
   unfold rdI
   rw [List.take_left' (by simp), List.reverse_reverse]
  have at' : ∀ {i : Nat} {y : Item} (it : Item) (rest : List Item), itemAt done i = some y -> i < done.length /\ (done.reverse ++ it :: rest)[i]? = some y := by
   intro i y it rest hy
   unfold itemAt at hy
   have hlt : i < done.reverse.length := (List.getElem?_eq_some_iff.1 hy).1
   exact ⟨by simpa using hlt, by rw [List.getElem?_append_left hlt]; exact hy⟩
  unfold regEv at h
  split at h
  ·rename_i hg
   obtain ⟨av, rs, ws, m, hk, hr, hw, hE⟩ := opEv_sound (o := o) (T := fun p : Prop => p) symM_ok hX h
   simp only [AV.force_eq, effH_eq] at hk
   refine glue ⟨o, .exec, True, av, rs, ws, m⟩ rfl hr hw (fun rest => ?_) hk
   rw [rd ⟨o, .exec, True, av, rs, ws, m⟩ rest] at hE
   exact ⟨hE, .inl hg⟩
  ·rename_i i w hg
   split at h
   ·exact h.elim
   ·rename_i y hy
    split at h
    ·rename_i t hm hd
     refine glue ⟨o, .skip, True, .any, [], [], 0⟩ rfl (by simp) (by simp) (fun rest => ?_) (by simpa [putAll] using h)
     obtain ⟨a1, a2⟩ := at' ⟨o, .skip, True, .any, [], [], 0⟩ rest hy
     exact ⟨rfl, i, w, y, hg, a1, a2, by rw [hm]; trivial⟩
    ·rename_i t p hm hd hav
     rcases h.alt with h | ⟨h1, h2⟩
     ·obtain ⟨av, rs, ws, m, hk, hr, hw, hE⟩ := opEv_sound (o := o) (T := fun p : Prop => p) symM_ok hX h
      simp only [AV.force_eq] at hk
      obtain ⟨rfl, rfl, hk2⟩ := noEff_out hk
      refine glue ⟨o, .cond t w, p = w, av, rs, [], 0⟩ rfl hr (by simp) (fun rest => ?_) (by simpa [putAll] using hk2)
      rw [rd ⟨o, .cond t w, p = w, av, rs, [], 0⟩ rest] at hE
      obtain ⟨a1, a2⟩ := at' ⟨o, .cond t w, p = w, av, rs, [], 0⟩ rest hy
      exact ⟨rfl, i, y, p, hg, a1, a2, hd, hav, by rw [hm]; exact id, hE⟩
     ·by_cases hp : p = w
      ·obtain ⟨av, rs, ws, m, hk, hr, hw, hE⟩ := opEv_sound (o := o) (T := fun p : Prop => p) symM_ok hX (h1 hp)
       simp only [AV.force_eq, effH_eq] at hk
       refine glue ⟨o, .exec, True, av, rs, ws, m⟩ rfl hr hw (fun rest => ?_) hk
       rw [rd ⟨o, .exec, True, av, rs, ws, m⟩ rest] at hE
       obtain ⟨a1, a2⟩ := at' ⟨o, .exec, True, av, rs, ws, m⟩ rest hy
       exact ⟨hE, .inr ⟨i, w, y, hg, a1, a2, by simp [hd], by rw [hm]; show y.av = .bool w; rw [hav, hp]⟩⟩
      ·have hp' : p = !w := by cases p <;> cases w <;> simp_all
       refine glue ⟨o, .skip, True, .any, [], [], 0⟩ rfl (by simp) (by simp) (fun rest => ?_) (by simpa [putAll] using h2 hp')
       obtain ⟨a1, a2⟩ := at' ⟨o, .skip, True, .any, [], [], 0⟩ rest hy
       exact ⟨rfl, i, w, y, hg, a1, a2, by rw [hm]; show y.av = .bool (!w); rw [hav, hp']⟩
    ·rename_i t' w' t p hm hd hav
     obtain ⟨av, rs, ws, m, hk, hr, hw, hE⟩ := opEv_sound (o := o) (T := fun p : Prop => p) symM_ok hX h
     simp only [AV.force_eq] at hk
     obtain ⟨rfl, rfl, hk2⟩ := noEff_out hk
     refine glue ⟨o, .cond t w, y.gd /\ p = w, av, rs, [], 0⟩ rfl hr (by simp) (fun rest => ?_) (by simpa [putAll] using hk2)
     rw [rd ⟨o, .cond t w, y.gd /\ p = w, av, rs, [], 0⟩ rest] at hE
     obtain ⟨a1, a2⟩ := at' ⟨o, .cond t w, y.gd /\ p = w, av, rs, [], 0⟩ rest hy
     exact ⟨rfl, i, y, p, hg, a1, a2, hd, hav, by rw [hm]; exact fun a b => ⟨a, b⟩, hE⟩
    ·exact h.elim
theorem Tr.holes : ∀ (m : Nat) {c : Cfg}, c.Ok -> ∃ c', Tr c c' /\ c'.w = c.w /\ c'.H = c.H ++ List.replicate m .hole
 | 0, c, hok => ⟨c, .refl hok, rfl, by simp⟩
 | m + 1, c, hok => by
  have h1 : Tr c ⟨upd c.g c.H.length ⟨0, .nilFunc, 0⟩, c.I, c.w, c.H ++ [.hole]⟩ := Tr.add hok rfl rfl rfl (Nat.le_refl _) (fun _ _ => rfl) (fun b hb => by cases hb) (by show (upd c.g c.H.length _ c.H.length).ver = 0; rw [upd_same])
  obtain ⟨c', h2, h3, h4⟩ := Tr.holes m h1.ok
  refine ⟨c', h1.trans h2, h3, ?_⟩
  rw [h4]
  simp [List.replicate_succ]
end
end Go.Fx
/-
 A region is read soundly; code, read as a program.
-/
namespace Go.Fx
open Go.RowKit
def setE (e : Env) (t : Nat) (v : AV) : Env := (t, v) :: e
theorem look_setE (t : Nat) (v : AV) (x : Nat) (e : Env) : look (setE e t v) x = bif Nat.beq t x then v else look e x := rfl
def setD (d : Option Nat) (v : AV) (e : Env) : Env := match d with | some d => setE e d v | none => e
def setDK {A : Type} (d : Option Nat) (v : AV) (e : Env) (K : Env -> A) : A := match d with | some d => K ((d, v) :: e) | none => K e
theorem setDK_eq {A : Type} (d : Option Nat) (v : AV) (e : Env) (K : Env -> A) : setDK d v e K = K (setD d v e) := by cases d <;> rfl
def outEnv : List Item -> Env -> Env
 | [], env => env
 | it :: its, env => setD it.o.dst (match it.mode with | .exec => it.av | _ => .any) (outEnv its env)
theorem outEnv_spec (env : Env) (t : Nat) : ∀ (l : List Item),
  (∃ x ∈ l, x.o.dst = some t /\ look (outEnv l env) t = (match x.mode with | .exec => x.av | _ => .any)) \/ ((∀ x ∈ l, x.o.dst ≠ some t) /\ look (outEnv l env) t = look env t)
 | [] => .inr ⟨by simp, rfl⟩
 | it :: l => by
  have ih := outEnv_spec env t l
  simp only [outEnv]
  cases hd : it.o.dst with
  | some d =>
   simp only [setD]
   rw [look_setE]
   cases hb : Nat.beq d t with
   | true =>
    rw [Nat.beq_eq] at hb
    subst hb
    exact .inl ⟨it, List.mem_cons_self .., hd, rfl⟩
   | false =>
    simp only [cond_false]
    rcases ih with ⟨x, h1, h2, h3⟩ | ⟨h1, h2⟩
    ·exact .inl ⟨x, List.mem_cons_of_mem _ h1, h2, h3⟩
    ·refine .inr ⟨fun x hx => ?_, h2⟩
     rcases List.mem_cons.1 hx with rfl | hx
     ·rw [hd]; intro e; cases e; simp at hb
     ·exact h1 x hx
  | none =>
   simp only [setD]
   rcases ih with ⟨x, h1, h2, h3⟩ | ⟨h1, h2⟩
   ·exact .inl ⟨x, List.mem_cons_of_mem _ h1, h2, h3⟩
   ·refine .inr ⟨fun x hx => ?_, h2⟩
    rcases List.mem_cons.1 hx with rfl | hx
    ·rw [hd]; simp
    ·exact h1 x hx
def outK {A : Type} : List Item -> Env -> (Env -> A) -> A
 | [], env, K => K env
 | it :: its, env, K => outK its env fun e => (match it.mode with | .exec => it.av | _ => .any).force fun v => setDK it.o.dst v e K
theorem outK_eq {A : Type} : ∀ (l : List Item) (env : Env) (K : Env -> A), outK l env K = K (outEnv l env)
 | [], env, K => rfl
 | it :: l, env, K => by
  simp only [outK, outEnv]
  rw [outK_eq l, AV.force_eq, setDK_eq]
def mark (D : Nat) : Deferred := { target := .collected D, args := #[] }
def Marks (X : Ctx) (n0 : Nat) (w : World) (ds : List Deferred) : Prop :=
 ∃ Ds : List Nat, ds = Ds.map mark /\ Ds.Nodup /\ ∀ D ∈ Ds, n0 <= D /\ X.W0.heap.size <= D /\ w.heap[D]? = some (.deferred (some []))
theorem Cfg.Ok.free {c : Cfg} (h : c.Ok) {D : Nat} {x : Option (List Deferred)} (hD : c.w.heap[D]? = some (.deferred x)) : ¬ c.Owns D := by
 rintro ⟨k, o, hk, hb⟩
 have hh := h.obj k o hk
 cases o with
 | box cells =>
  obtain ⟨_, cs, T, h1, _⟩ := hh
  simp only [blk, Option.some.injEq] at hb
  rw [hb, hD] at h1
  cases h1
 | list e es n f ver =>
  obtain ⟨_, _, xs, h2, _⟩ := hh
  simp only [blk] at hb
  rcases h2 with ⟨_, _, a, h2⟩ | ⟨b, cap, cur, hv, hc, hh, _⟩
  ·rw [h2] at hb; cases a <;> cases hb
  ·rw [hv] at hb
   obtain ⟨c1, rfl⟩ : ∃ c1, cap = c1 + 1 := ⟨cap - 1, by omega⟩
   simp only [vblk, Option.some.injEq] at hb
   obtain ⟨mk, hh, _⟩ := hh
   rw [hb, hD] at hh
   cases hh
 | dead => cases hb
 | hole => cases hb
 | lrec st pend N e ps assign body =>
  obtain ⟨_, _, fn, tmps, D', h1, _⟩ := hh
  simp only [blk, Option.some.injEq] at hb
  rw [hb, hD] at h1
  cases h1
 | iter s pos =>
  obtain ⟨_, h1⟩ := hh
  simp only [blk, Option.some.injEq] at hb
  rw [hb, hD] at h1
  cases h1
 | last e es n cells ver =>
  obtain ⟨_, _, xs, h2, _⟩ := hh
  simp only [blk] at hb
  rcases h2 with ⟨_, _, a, h2⟩ | ⟨b, cap, cur, hv, hc, hh, _⟩
  ·rw [h2] at hb; cases a <;> cases hb
  ·rw [hv] at hb
   obtain ⟨c1, rfl⟩ : ∃ c1, cap = c1 + 1 := ⟨cap - 1, by omega⟩
   simp only [vblk, Option.some.injEq] at hb
   obtain ⟨mk, hh, _⟩ := hh
   rw [hb, hD] at hh
   cases hh
theorem Marks.tr {X : Ctx} {n0 : Nat} {c c' : Cfg} {ds : List Deferred} (h : Marks X n0 c.w ds) (hok : c.Ok) (ht : Tr c c') : Marks X n0 c'.w ds := by
 obtain ⟨Ds, h1, h2, h3⟩ := h
 refine ⟨Ds, h1, h2, fun D hD => ?_⟩
 obtain ⟨k1, k2, k3⟩ := h3 D hD
 refine ⟨k1, k2, ?_⟩
 rw [ht.block D (by rw [Array.getElem?_eq_some_iff] at k3; exact k3.1) (hok.free k3)]
 exact k3
structure Sat (X : Ctx) (N : Nat) (c0 : Cfg) (env : Env) (H : List HObj) (c : Cfg) (a : Act) : Prop where
 tr : Tr c0 c
 base : Base X c
 own : c.H = H
 env : ∀ t, c.Reads (look env t) (a.eval (.tmp t))
 size : a.tmps.size = N
 marks : Marks X c0.w.heap.size c.w a.defers
theorem nodup_dst : ∀ (l : List Oper), nodupB (l.filterMap (·.dst)) = true -> ∀ (i j : Nat) x y d, l[i]? = some x -> l[j]? = some y -> x.dst = some d -> y.dst = some d -> i = j
 | [], _, i, j, x, y, d, hi, _, _, _ => by simp at hi
 | o :: l, h, i, j, x, y, d, hi, hj, hx, hy => by
  have tail : nodupB (l.filterMap (·.dst)) = true := by
   cases hd : o.dst with
   | none => rw [List.filterMap_cons_none hd] at h; exact h
   | some e => rw [List.filterMap_cons_some hd] at h; simp only [nodupB, Bool.and_eq_true] at h; exact h.2
  have head : ∀ (j : Nat) y, l[j]? = some y -> o.dst = some d -> y.dst ≠ some d := by
   intro j y hj ho hy'
   rw [List.filterMap_cons_some ho] at h
   simp only [nodupB, Bool.and_eq_true, Bool.not_eq_true'] at h
   have hm : d ∈ l.filterMap (·.dst) := List.mem_filterMap.2 ⟨y, List.mem_of_getElem? hj, hy'⟩
   have h1 := h.1
   rw [List.contains_eq_mem, decide_eq_false_iff_not] at h1
   exact h1 hm
  cases i with
  | zero =>
   cases j with
   | zero => rfl
   | succ j => simp at hi hj; subst hi; exact absurd hy (head j y hj hx)
  | succ i =>
   cases j with
   | zero => simp at hi hj; subst hj; exact absurd hx (head i x hi hy)
   | succ j => simp at hi hj; rw [nodup_dst l tail i j x y d hi hj hx hy]
section
variable {X : Ctx}
theorem region_of (hX : X.Good) {N id : Nat} {ops : Array Oper} {draw : Bool} (hs : regOK N ops draw = true) {env : Env} {H : List HObj} {its : List Item} (h1 : its.map (·.o) = ops.toList) (h2 : draw = true -> footOK ops its = true) (h3 : Bds H.length its)
  (h4 : ∀ (j : Nat) it, its[j]? = some it -> ItemOK X its (look env) j (after H (its.take j) ++ List.replicate it.m .hole) it)
  {c0 c : Cfg} {a : Act} (sat : Sat X N c0 env H c a) {Q' : Exit -> Act -> World -> Prop} (post : ∀ c' a', Sat X N c0 (outEnv its.reverse env) (after H its) c' a' -> Q' .normal a' c'.w) (ρ : Option Nat) : (Code.region id ops draw).wpIn (FR ρ) 0 X.P Q' a c.w := by
 have hlen : its.length = ops.size := by rw [<- List.length_map (f := (·.o)), h1]; simp
 simp only [regOK, Bool.and_eq_true] at hs
 obtain ⟨⟨s1, s2⟩, s3⟩ := hs
 have hop : ∀ (j : Nat) it, its[j]? = some it -> ops[j]? = some it.o := fun j it hj => by
  rw [<- Array.getElem?_toList, <- h1, List.getElem?_map, hj]
  rfl
 let Hs : Nat -> List HObj := fun j => afterX (H ++ List.replicate (msum its) .hole) (its.take j)
 have take_sum : ∀ j, j <= its.length -> msum (its.take j) + msum (its.drop j) = msum its := fun j _ => by rw [<- msum_append, List.take_append_drop]
 have hHs : ∀ j, j <= its.length -> Hs j = after H (its.take j) ++ List.replicate (msum its - msum (its.take j)) .hole := fun j hj =>
  after_ext (its.take j) H (msum its) (h3.take its _ j) (by have := take_sum j hj; omega)
 have hreg : RegOK X ops its (look env) Hs N := {
  op := hop
  next := fun j it hj => by
   show afterX _ (its.take (j + 1)) = _
   rw [List.take_add_one, hj, afterX_append]
   rfl
  ok := fun j it hj => by
   have hjl : j < its.length := (List.getElem?_eq_some_iff.1 hj).1
   have hok := h4 j it hj
   have hb := h3.at its _ j it hj
   have hsum : msum (its.take j) + it.m <= msum its := by
    have e := take_sum (j + 1) hjl
    rw [List.take_add_one, hj, msum_append] at e
    simp only [Option.toList, msum] at e
    omega
   rw [hHs j (Nat.le_of_lt hjl)]
   have ext : ∀ {g av ws} , StepE X it.o (rdI X its (look env) j) g (after H (its.take j) ++ List.replicate it.m .hole) it.rs av ws -> StepE X it.o (rdI X its (look env) j) g (after H (its.take j) ++ List.replicate (msum its - msum (its.take j)) .hole) it.rs av ws := by
    intro g av ws hE
    refine hE.congr fun r hr => ?_
    have hrk := hb.1 r hr
    have hl := after_len (its.take j) H
    by_cases hlt : r.k < (after H (its.take j)).length
    ·rw [List.getElem?_append_left hlt, List.getElem?_append_left hlt]
    ·rw [List.getElem?_append_right (by omega), List.getElem?_append_right (by omega), List.getElem?_replicate, List.getElem?_replicate, if_pos (by omega), if_pos (by omega)]
   unfold ItemOK at hok ⊢
   split at hok
   ·exact ⟨ext hok.1, hok.2⟩
   ·exact hok
   ·obtain ⟨q1, i, y, p, q2, q3, q4, q5, q6, q7, q8⟩ := hok
    exact ⟨q1, i, y, p, q2, q3, q4, q5, q6, q7, fun hg => ext (q8 hg)⟩
  dst := fun i j x y d hi hj hx hy => nodup_dst ops.toList s1 i j x.o y.o d (by rw [Array.getElem?_toList]; exact hop i x hi) (by rw [Array.getElem?_toList]; exact hop j y hj) hx hy
  fits := fun j it d hj hd => by
   have := hop j it hj
   have hm : d ∈ ops.toList.filterMap (·.dst) := List.mem_filterMap.2 ⟨it.o, by simpa using Array.mem_of_getElem? this, hd⟩
   have := List.all_eq_true.1 s2 d hm
   rwa [Nat.blt_eq] at this }
 have run : ∀ {ch : Cfg}, Tr c ch -> ch.H = H ++ List.replicate (msum its) .hole -> (∀ t, ch.Reads (look env t) (a.eval (.tmp t))) /\ Inv X its Hs N ch a (fun _ => False) ch a := by
  intro ch ht hH
  refine ⟨fun t => ht.reads (sat.env t), ⟨.refl ht.ok, sat.base.tr ht, sat.size, rfl, by rw [hH]; rfl, fun k j t htl h1' h2' => ?_, fun i x d hi hs => hs.elim, fun t _ => rfl⟩⟩
  rw [hH]
  -- no operation before t turns this cell
  have key : ∀ u, u <= t -> Same1 (Hs u) (Hs 0) k j := by
   intro u
   induction u with
   | zero => intro _; exact Same1.refl _ k j
   | succ u ih =>
    intro hu
    rw [hreg.next u (its[u]'(by omega)) (by simp)]
    exact (putAll_keep _ fun w hw hh => h1' u (its[u]'(by omega)) w (by omega) (by simp) hw hh).trans (ih (by omega))
  exact key t (Nat.le_refl _)
 have fin : ∀ {ch c' : Cfg} {a' : Act}, Tr c ch -> Inv X its Hs N ch a (fun i => i < its.length) c' a' -> Q' .normal a' c'.w := by
  intro ch c' a' ht hinv
  refine post c' a' ⟨(sat.tr.trans ht).trans hinv.tr, hinv.base, ?_, fun t => ?_, hinv.size, by rw [hinv.defers]; exact (sat.marks.tr sat.tr.ok ht).tr ht.ok hinv.tr⟩
  ·have e : Hs its.length = after H its := by
    rw [hHs its.length (Nat.le_refl _), List.take_length, Nat.sub_self]
    simp
   rw [<- e]
   apply List.ext_getElem?
   intro k
   refine (Same1.whole fun j => ?_).symm
   exact hinv.cells k j its.length (Nat.le_refl _) (fun i x w hi _ _ _ => hi) (fun i x w hi hx _ _ => by have := (List.getElem?_eq_some_iff.1 hx).1; omega)
  ·rcases outEnv_spec env t its.reverse with ⟨x, x1, x2, x3⟩ | ⟨x1, x2⟩
   ·rw [x3]
    obtain ⟨i, hi⟩ := List.getElem?_of_mem (List.mem_reverse.1 x1)
    have hD := hinv.done i x t hi (List.getElem?_eq_some_iff.1 hi).1 x2
    unfold Done at hD
    split at hD
    ·rename_i e; rw [e]; exact hD
    ·rename_i e; rw [e]; trivial
    ·rename_i e; rw [e]; trivial
   ·rw [x2, hinv.rest t fun i x hi _ hd => x1 x (List.mem_reverse.2 (List.mem_of_getElem? hi)) hd]
    exact hinv.tr.reads (ht.reads (sat.env t))
 cases draw with
 | false =>
  obtain ⟨ch, ht, hw, hH⟩ := Tr.holes (msum its) sat.tr.ok
  rw [sat.own] at hH
  obtain ⟨hb, hinv⟩ := run ht hH
  refine wpIn_region ?_
  rw [<- hw, show List.range ops.size = List.range' 0 ops.size by rw [List.range_eq_range']]
  have e0 : (fun i : Nat => i < 0) = (fun _ => False) := by funext i; exact propext ⟨fun h => by omega, fun h => h.elim⟩
  exact region_text hX hreg hb (fun c' a' hi => fin ht hi) ρ ops.size 0 ch a (by omega) (by rw [e0]; exact hinv)
 | true =>
  have hdr : Tr c { c with w := { c.w with drawn := c.w.drawn + 1 } } := Tr.same sat.tr.ok rfl rfl rfl rfl
  obtain ⟨ch, ht, hw, hH⟩ := Tr.holes (msum its) hdr.ok
  have hH : ch.H = c.H ++ List.replicate (msum its) .hole := hH
  rw [sat.own] at hH
  obtain ⟨hb, hinv⟩ := run (hdr.trans ht) hH
  refine wpIn_region_any hX.mixed ?_
  have hw : ch.w = { c.w with drawn := c.w.drawn + 1 } := hw
  rw [<- hw]
  have hord : orderOK ops = true := by simpa using s3
  have e0 : (fun i : Nat => (Array.replicate ops.size false).getD i false = true) = (fun _ => False) := by
   funext i
   refine propext ⟨fun h => ?_, fun h => h.elim⟩
   rw [Array.getD_eq_getD_getElem?] at h
   by_cases hi : i < ops.size
   ·simp [hi] at h
   ·simp [hi] at h
  refine region_any hX hreg hlen hord (h2 rfl) hb (fun c' a' hi => fin (hdr.trans ht) hi) ρ ops.size (Array.replicate ops.size false) ch a (by simp) ?_ ?_ (by rw [e0]; exact hinv)
  ·exact Nat.le_trans (List.length_filter_le _ _) (by simp)
  ·intro j o hj hl
   have := congrFun e0 j
   exact (cast this hl).elim
theorem region_sound (hX : X.Good) {N id : Nat} {ops : Array Oper} {draw : Bool} (hs : regOK N ops draw = true) {env : Env} {H : List HObj} {Q : Env -> List HObj -> Prop}
  (h : regEv X (look env) ops.toList [] H fun done H' => bif draw then footOK ops done.reverse = true /\ Q (outEnv done env) H' else Q (outEnv done env) H')
  {c0 c : Cfg} {a : Act} (sat : Sat X N c0 env H c a) {Q' : Exit -> Act -> World -> Prop} (post : ∀ env' H' c' a', Q env' H' -> Sat X N c0 env' H' c' a' -> Q' .normal a' c'.w) (ρ : Option Nat) : (Code.region id ops draw).wpIn (FR ρ) 0 X.P Q' a c.w := by
 obtain ⟨its, h1, h2, h3, h4⟩ := regEv_spec hX (look env) ops.toList [] H _ h
 simp only [List.append_nil, List.reverse_reverse, List.reverse_nil, List.nil_append, List.length_nil, Nat.zero_add] at h2 h4
 refine region_of hX hs h1 (fun e => ?_) h3 h4 sat (fun c' a' s => post _ _ _ _ ?_ s) ρ
 ·subst e; exact h2.1
 ·cases draw with
  | true => exact h2.2
  | false => exact h2
end
end Go.Fx
/-
 A region in the text's order, operation by operation; a call of yield.
-/
namespace Go.Fx
open Go.RowKit
def setEs : List Nat -> List AV -> Env -> Env
 | p :: ps, v :: vs, e => setEs ps vs (setE e p v)
 | _, _, e => e
def setEsK {A : Type} : List Nat -> List AV -> Env -> (Env -> A) -> A
 | p :: ps, v :: vs, e, K => setEsK ps vs ((p, v) :: e) K
 | _, _, e, K => K e
theorem setEsK_eq {A : Type} : ∀ (ps : List Nat) (vs : List AV) (e : Env) (K : Env -> A), setEsK ps vs e K = K (setEs ps vs e)
 | p :: ps, v :: vs, e, K => by simp only [setEsK, setEs]; rw [setEsK_eq ps vs]; rfl
 | [], _, e, K => by simp [setEsK, setEs]
 | _ :: _, [], e, K => by simp [setEsK, setEs]
abbrev QT (A : Type) := Exit -> Env -> List HObj -> A
abbrev SubT (A : Type) := Nat -> Nat -> Code -> Env -> List HObj -> QT A -> A
def Post (X : Ctx) {A : Type} (T : A -> Prop) (N : Nat) (c0 : Cfg) (Q : QT A) (Q' : Exit -> Act -> World -> Prop) : Prop := ∀ x env' H' c' a', T (Q x env' H') -> Sat X N c0 env' H' c' a' -> Q' x a' c'.w
def SubOK (X : Ctx) {A : Type} (T : A -> Prop) (sub : SubT A) : Prop :=
 ∀ (N n0 : Nat) (code : Code), codeOK N code = true -> ∀ {e : Env} {H : List HObj} {Q : QT A}, T (sub N n0 code e H Q) -> ∀ {c0 c : Cfg} {a : Act} {Q' : Exit -> Act -> World -> Prop} (ρ : Option Nat), c0.H.length = n0 -> Sat X N c0 e H c a -> Post X T N c0 Q Q' -> code.wpIn (FR ρ) 0 X.P Q' a c.w
def yieldEv {A : Type} (M : Md A) (sub : SubT A) (H : List HObj) (q : Nat) (avs : List AV) (k : AV -> List HObj -> A) : A :=
 match H[q]? with
 | some (.lrec .ready _ N e0 ps asg body) =>
  bif Nat.beq ps.size avs.length then
   setEsK ps.toList avs e0 fun e0 => sub N H.length asg e0 H fun x e1 H1 =>
    match x, H1[q]? with
    | .normal, some (.lrec .ready pd N1 e10 ps1 asg1 body1) =>
     sub N H.length body e1 (H1.set q (.lrec .busy pd N1 e10 ps1 asg1 body1)) fun x e2 H2 =>
      match H2[q]? with
      | some (.lrec .busy _ N2 e20 ps2 asg2 body2) =>
       match x with
       | .normal => k (.bool true) (H2.set q (.lrec .ready none N2 e20 ps2 asg2 body2))
       | .exit id => k (.bool false) (H2.set q (.lrec .done (some (.exit id)) N2 e20 ps2 asg2 body2))
       | .ret => k (.bool false) (H2.set q (.lrec .done (some .ret) N2 e20 ps2 asg2 body2))
       | _ => M.fail
      | _ => M.fail
    | _, _ => M.fail
  else M.fail
 | _ => M.fail
def yieldOf (X : Ctx) (e : Env) (op : Op) : Option (Nat × List AV) :=
 match op with
 | .call cl => match cl.callee with | .value F => (match rdO X (look e) F with | .yld q => some (q, cl.args.toList.map (rdO X (look e))) | _ => none) | _ => none
 | _ => none
def notBool : Value -> Bool
 | .bool _ => false
 | _ => true
def oneEv {A : Type} (M : Md A) (X : Ctx) (sub : SubT A) (o : Oper) (e : Env) (H : List HObj) (K : Env -> List HObj -> A) : A :=
 match yieldOf X e o.op with
 | some (q, avs) => yieldEv M sub H q avs fun av H' => setDK o.dst av e fun e' => K e' H'
 | none => opEv M X none (fun _ x => rdO X (look e) x) none H o.op fun av _ ws m => M.norm av fun av => setDK o.dst av e fun e' => M.effN H m ws fun H' => K e' H'
def seqEv {A : Type} (M : Md A) (X : Ctx) (sub : SubT A) (ops : List Oper) : List Oper -> Env -> List HObj -> (Env -> List HObj -> A) -> A
 | [], e, H, K => K e H
 | o :: os, e, H, K =>
  match o.guard with
  | none => oneEv M X sub o e H fun e' H' => seqEv M X sub ops os e' H' K
  | some (i, w) =>
   match ops[i]? with
   | some y =>
    match y.dst with
    | some d =>
     match look e d with
     | .bool p => M.br (sameB p w) (oneEv M X sub o e H fun e' H' => seqEv M X sub ops os e' H' K) (setDK o.dst (.val undef) e fun e' => seqEv M X sub ops os e' H K)
     | .val v => bif notBool v then setDK o.dst (.val undef) e fun e' => seqEv M X sub ops os e' H K else M.fail
     | _ => M.fail
    | none => M.fail
   | none => M.fail
section
variable {X : Ctx} {A : Type} {M : Md A} {T : A -> Prop} {sub : SubT A}
theorem rdO_reads (hX : X.Good) {N : Nat} {c0 c : Cfg} {e : Env} {H : List HObj} {a : Act} (sat : Sat X N c0 e H c a) (x : Operand) : c.Reads (rdO X (look e) x) (a.eval x) := by
 cases x with
 | tmp t => exact sat.env t
 | const v => exact ofVal_reads v
 | func f => exact ⟨#[], rfl, rfl, fun j hj => by omega⟩
 | global g => exact sat.base.global hX
theorem Agree.rfl' (H : List HObj) (r : Rg) : Agree H H r := ⟨⟨0, Same1.refl H r.k 0⟩, fun j _ => Same1.refl H r.k j⟩
theorem reads_put {c : Cfg} {e : Env} {a : Act} {N : Nat} {d : Option Nat} {av : AV} {v : Value} (hs : a.tmps.size = N) (hd : ∀ x, d = some x -> x < N) (h : ∀ t, c.Reads (look e t) (a.eval (.tmp t))) (hv : c.Reads av v) : ∀ t, c.Reads (look (setD d av e) t) ((a.put d v).eval (.tmp t)) := by
 intro t
 cases d with
 | none => exact h t
 | some d =>
  simp only [setD]
  rw [look_setE]
  cases hb : Nat.beq d t with
  | true =>
   rw [Nat.beq_eq] at hb
   subst hb
   rw [eval_put_same (by rw [hs]; exact hd d rfl)]
   exact hv
  | false =>
   rw [eval_put_ne (by intro e; cases e; simp at hb)]
   exact h t
theorem Sat.put {N : Nat} {c0 c c' : Cfg} {e : Env} {H H' : List HObj} {a : Act} {d : Option Nat} {av : AV} {v : Value} (sat : Sat X N c0 e H c a) (ht : Tr c c') (hH : c'.H = H') (hv : c'.Reads av v) (hd : ∀ x, d = some x -> x < N) : Sat X N c0 (setD d av e) H' c' (a.put d v) :=
 ⟨sat.tr.trans ht, sat.base.tr ht, hH, reads_put sat.size hd (fun t => ht.reads (sat.env t)) hv, by rw [size_put]; exact sat.size, by rw [defers_put]; exact sat.marks.tr sat.tr.ok ht⟩
theorem stepE_one (hX : X.Good) {N : Nat} {c0 c : Cfg} {e : Env} {H : List HObj} {a : Act} (sat : Sat X N c0 e H c a) {o : Oper} {av : AV} {rs : List Rg} {ws : List W} {m : Nat}
  (hE : StepE X o (fun _ x => rdO X (look e) x) none (H ++ List.replicate m .hole) rs av ws) {K : Act -> World -> Prop} {Q : Exit -> Act -> World -> Prop} (ρ : Option Nat)
  (hK : ∀ c' v, Tr c c' -> c'.H = putAll (H ++ List.replicate m .hole) ws -> c'.Reads av v -> K (a.put o.dst v) c'.w) : o.wpIn (FR ρ) 0 X.P a c.w K Q := by
 obtain ⟨ch, ht, hw, hH⟩ := Tr.holes m sat.tr.ok
 rw [sat.own] at hH
 rw [<- hw]
 exact hE ch a K Q ht.ok (sat.base.tr ht) (fun r _ => by rw [hH]; exact Agree.rfl' _ r) trivial (fun g _ x _ => ht.reads (rdO_reads hX sat x)) (fun c' v ht' hH' hv => hK c' v (ht.trans ht') (by rw [hH', hH]) hv) ρ
theorem Tr.record {c : Cfg} (hok : c.Ok) {q : Nat} {st : LoopState} {pd : Option Code} {N : Nat} {e0 : Env} {ps : Array Tmp} {asg body : Code} (hq : c.H[q]? = some (.lrec st pd N e0 ps asg body)) :
  ∃ r : Loop, c.w.heap[(c.g q).b]? = some (.loop r) /\ r.state = st /\ r.pending = pd /\ r.params = ps /\ r.assign = asg /\ r.body = body /\ r.tmps.size = N /\ (∀ t, c.Reads (look e0 t) (r.tmps.getD t undef)) /\ (codeOK N asg && codeOK N body && ps.toList.all (Nat.blt · N)) = true /\
   ∀ (st' : LoopState) (pd' : Option Code), Tr c ⟨c.g, c.I, c.w.putObj (c.g q).b (.loop { r with state := st', pending := pd' }), c.H.set q (.lrec st' pd' N e0 ps asg body)⟩ /\
    Tr c ⟨c.g, c.I, c.w.putObj (c.g q).b (.loop { r with state := st', pending := pd' }), c.H.set q .dead⟩ := by
 obtain ⟨h0, hcode, fn, tmps, D, h1, h2, h3⟩ := hok.obj q _ hq
 refine ⟨_, h1, rfl, rfl, rfl, rfl, rfl, h2, h3, hcode, fun st' pd' => ?_⟩
 have hlt : (c.g q).b < c.w.heap.size := (Array.getElem?_eq_some_iff.1 h1).1
 have hne : ∀ b, blk c.g q (.lrec st pd N e0 ps asg body) ≠ some b -> b ≠ (c.g q).b := fun b hb e => hb (by simp [blk, e])
 have hu : upd c.g q (c.g q) = c.g := by funext i; unfold upd; split <;> simp_all
 have key : ∀ o', (∀ b, blk c.g q o' = some b -> b = (c.g q).b) -> Holds c.g c.I (c.w.putObj (c.g q).b (.loop { state := st', pending := pd', fn, tmps, params := ps, assign := asg, body, defers := D })) c.H.length q o' ->
   Tr c ⟨c.g, c.I, c.w.putObj (c.g q).b (.loop { state := st', pending := pd', fn, tmps, params := ps, assign := asg, body, defers := D }), c.H.set q o'⟩ := by
  intro o' hb hh
  have := Tr.alter (w' := c.w.putObj (c.g q).b (.loop { state := st', pending := pd', fn, tmps, params := ps, assign := asg, body, defers := D })) (x := c.g q) (o' := o') hok hq rfl rfl rfl (by simp) (fun b _ hb => World.putObj_heap_other (hne b hb)) (fun _ => rfl) (Nat.le_refl _) (fun _ => rfl)
   (fun b hb' => .inr (by rw [hu] at hb'; rw [hb b hb']; rfl)) (by rw [hu]; exact hh)
  rw [hu] at this
  exact this
 have mono : ∀ (av : AV) (v : Value), Reads c.g c.I c.w av c.H.length v -> Reads c.g c.I (c.w.putObj (c.g q).b (.loop { state := st', pending := pd', fn, tmps, params := ps, assign := asg, body, defers := D })) av c.H.length v := fun av v h =>
  Reads.mono' (M := c.H.length) (fun k _ => ⟨fun _ => rfl, Nat.le_refl _, fun _ => rfl⟩) (fun b o hI => ⟨hI, cell_of_block (World.putObj_heap_other (hne b (hok.immApart b o q _ hI hq)))⟩) av _ _ v (Nat.le_refl _) (Nat.le_refl _) h
 exact ⟨key _ (fun b hb => by simp only [blk, Option.some.injEq] at hb; exact hb.symm) ⟨h0, hcode, fn, tmps, D, World.putObj_heap_same hlt, h2, fun t => mono _ _ (h3 t)⟩, key _ (fun b hb => by cases hb) trivial⟩
theorem setEs_reads {c : Cfg} {N : Nat} : ∀ (ps : List Nat) (avs : List AV) (args : List Value) (e : Env) (tmps : Array Value), (∀ p ∈ ps, p < N) -> tmps.size = N -> avs.length = args.length ->
  (∀ (j : Nat) av, avs[j]? = some av -> ∃ v, args[j]? = some v /\ c.Reads av v) -> (∀ t, c.Reads (look e t) (tmps.getD t undef)) ->
  ((ps.zip args).foldl (fun t (x : Nat × Value) => t.setIfInBounds x.1 x.2) tmps).size = N /\ ∀ t, c.Reads (look (setEs ps avs e) t) (((ps.zip args).foldl (fun t (x : Nat × Value) => t.setIfInBounds x.1 x.2) tmps).getD t undef)
 | [], avs, args, e, tmps, _, hs, _, _, he => by simp only [List.zip_nil_left, List.foldl_nil]; exact ⟨hs, by simpa [setEs] using he⟩
 | p :: ps, [], [], e, tmps, _, hs, _, _, he => by simp only [List.zip_nil_right, List.foldl_nil]; exact ⟨hs, by simpa [setEs] using he⟩
 | p :: ps, [], _ :: _, e, tmps, _, _, hl, _, _ => by simp at hl
 | p :: ps, _ :: _, [], e, tmps, _, _, hl, _, _ => by simp at hl
 | p :: ps, av :: avs, v :: args, e, tmps, hp, hs, hl, ha, he => by
  simp only [List.zip_cons_cons, List.foldl_cons, setEs]
  refine setEs_reads ps avs args (setE e p av) (tmps.setIfInBounds p v) (fun q hq => hp q (List.mem_cons_of_mem _ hq)) (by simpa using hs) (by simpa using hl) (fun j b hj => by simpa using ha (j + 1) b (by simpa using hj)) fun t => ?_
  rw [look_setE]
  have hpl : p < tmps.size := by rw [hs]; exact hp p (List.mem_cons_self ..)
  cases hb : Nat.beq p t with
  | true =>
   rw [Nat.beq_eq] at hb
   subst hb
   obtain ⟨w, h1, h2⟩ := ha 0 av rfl
   simp at h1
   subst h1
   simpa [hpl] using h2
  | false =>
   have hne : p ≠ t := fun e => by subst e; simp at hb
   have : (tmps.setIfInBounds p v).getD t undef = tmps.getD t undef := by
    rw [Array.getD_eq_getD_getElem?, Array.getD_eq_getD_getElem?, Array.getElem?_setIfInBounds_ne hne]
   rw [this]
   exact he t
theorem run_callYield {P : Program} {a : Act} {o : Oper} {cl : Call} {F : Operand} {l : Nat} {r : Loop} {w : World} (ho : o.op = .call cl) (hcl : cl.callee = .value F) (hF : a.eval F = .func (.yield l) #[] #[]) (hl : w.heap[l]? = some (.loop r)) (hs : cl.args.size = r.params.size) :
  (execOp a.eval o).run P w = .ok (.round l r.fn ((r.params.zip (cl.args.map a.eval)).foldl (fun tmps (t, a) => tmps.setIfInBounds t a) r.tmps) r.assign r.body) w := by
 have := run_yield (P := P) (w := w) (l := l) (r := r) (args := cl.args.map a.eval) hl (by simpa using hs)
 simp [execOp, ho, resolve, hcl, hF, Deferred.ofValue, invoke, this]
theorem yield_sound (hX : X.Good) (hM : M.Ok X T) (hsub : SubOK X T sub) {N : Nat} {c0 c : Cfg} {e : Env} {H : List HObj} {a : Act} (sat : Sat X N c0 e H c a) {o : Oper} {cl : Call} {F : Operand} {q : Nat} (ho : o.op = .call cl) (hcl : cl.callee = .value F) (hF : rdO X (look e) F = .yld q)
  {k : AV -> List HObj -> A} (h : T (yieldEv M sub H q (cl.args.toList.map (rdO X (look e))) k)) {K : Act -> World -> Prop} {Q' : Exit -> Act -> World -> Prop} (ρ : Option Nat)
  (hK : ∀ av H' c' v, T (k av H') -> Tr c c' -> c'.H = H' -> c'.Reads av v -> K (a.put o.dst v) c'.w) : o.wpIn (FR ρ) 0 X.P a c.w K Q' := by
 unfold yieldEv at h
 split at h
 case h_2 => exact (hM.fail h).elim
 rename_i pd N0 e0 ps asg body hq
 cases hsz : Nat.beq ps.size (cl.args.toList.map (rdO X (look e))).length with
 | false => rw [hsz] at h; exact (hM.fail h).elim
 | true =>
 rw [hsz] at h
 simp only [cond_true, setEsK_eq] at h
 rw [Nat.beq_eq] at hsz
 have hrF := rdO_reads hX sat F
 rw [hF] at hrF
 obtain ⟨hqlt, hpos, hrF⟩ := hrF
 have hok := sat.tr.ok
 obtain ⟨r, r1, r2, r3, r4, r5, r6, r7, r8, r9, _⟩ := Tr.record hok (by rw [sat.own]; exact hq)
 simp only [Bool.and_eq_true] at r9
 obtain ⟨⟨k1, k2⟩, k3⟩ := r9
 have hrun := run_callYield (P := X.P) ho hcl hrF r1 (by rw [r4]; simpa using hsz.symm)
 refine ⟨fun _ _ => trivial, ?_⟩
 rw [semAt_run (FR ρ).round (by simp) hrun, Oper.uponIn_round]
 refine ⟨fun hd => by simp [FR, Fence.wide] at hd, ?_⟩
 obtain ⟨s1, s2⟩ := setEs_reads (c := c) (N := N0) ps.toList (cl.args.toList.map (rdO X (look e))) (cl.args.toList.map a.eval) e0 r.tmps (fun p hp => by have := List.all_eq_true.1 k3 p hp; rwa [Nat.blt_eq] at this) r7 (by simp)
  (fun j av hj => by
   simp only [List.getElem?_map, Option.map_eq_some_iff] at hj
   obtain ⟨x, hx, rfl⟩ := hj
   exact ⟨a.eval x, by simp [hx], rdO_reads hX sat x⟩) r8
 have hfold : (r.params.zip (cl.args.map a.eval)).foldl (fun tmps (x : Nat × Value) => tmps.setIfInBounds x.1 x.2) r.tmps = (ps.toList.zip (cl.args.toList.map a.eval)).foldl (fun t (x : Nat × Value) => t.setIfInBounds x.1 x.2) r.tmps := by
  rw [r4, <- Array.foldl_toList, Array.toList_zip, Array.toList_map]
 rw [hfold]
 generalize (ps.toList.zip (cl.args.toList.map a.eval)).foldl (fun t (x : Nat × Value) => t.setIfInBounds x.1 x.2) r.tmps = tmps1 at s1 s2
 have satY : Sat X N0 c (setEs ps.toList (cl.args.toList.map (rdO X (look e))) e0) H c { tmps := tmps1, defers := [] } :=
  ⟨.refl hok, sat.base, sat.own, s2, s1, [], rfl, List.nodup_nil, by simp⟩
 have hn0 : c.H.length = H.length := by rw [sat.own]
 refine roundIn_of_wpIn (P := X.P) trivial ?_
 rw [r5, r6]
 refine hsub N0 H.length asg k1 h (some (c.g q).b) hn0 satY fun x e1 H1 c1 a1 hq1 sat1 => ?_
 simp only at hq1
 split at hq1
 case h_2 => exact (hM.fail hq1).elim
 rename_i pd1 N1 e10 ps1 asg1 body1 hq1'
 have gq1 : (c1.g q).b = (c.g q).b := ((sat1.tr.places q (by rw [hn0]; exact (List.getElem?_eq_some_iff.1 hq).1)).1 hpos)
 obtain ⟨ra, a1', a2', a3', a4', a5', a6', a7', a8', a9', a10'⟩ := Tr.record sat1.tr.ok (by rw [sat1.own]; exact hq1')
 have t1 := (a10' .busy pd1).1
 rw [gq1] at a1' t1
 have hbr := run_beginRound (P := X.P) a1' a2'
 refine ⟨_, hbr, ?_⟩
 have er : ({ ra with state := LoopState.busy, pending := pd1 } : Loop) = { ra with state := LoopState.busy } := by rw [<- a3']
 rw [er] at t1
 have sat2 : Sat X N0 c e1 (H1.set q (.lrec .busy pd1 N1 e10 ps1 asg1 body1)) ⟨c1.g, c1.I, c1.w.putObj (c.g q).b (.loop { ra with state := .busy }), c1.H.set q (.lrec .busy pd1 N1 e10 ps1 asg1 body1)⟩ a1 :=
  ⟨sat1.tr.trans t1, sat1.base.tr t1, by show c1.H.set q _ = _; rw [sat1.own], fun t => t1.reads (sat1.env t), sat1.size, sat1.marks.tr sat1.tr.ok t1⟩
 refine hsub N0 H.length body k2 hq1 (some (c.g q).b) hn0 sat2 fun x e2 H2 c2 a2 hq2 sat3 => ?_
 simp only at hq2
 split at hq2
 case h_2 => exact (hM.fail hq2).elim
 rename_i pd2 N2 e20 ps2 asg2 body2 hq2'
 have gq2 : (c2.g q).b = (c.g q).b := ((sat3.tr.places q (by rw [hn0]; exact (List.getElem?_eq_some_iff.1 hq).1)).1 hpos)
 obtain ⟨rb, b1, b2, b3, b4, b5, b6, b7, b8, b9, b10⟩ := Tr.record sat3.tr.ok (by rw [sat3.own]; exact hq2')
 rw [gq2] at b1
 have fin : ∀ (jump : Option Code) (st' : LoopState), st' = (if jump.isNone then LoopState.ready else .done) -> T (k (.bool jump.isNone) (H2.set q (.lrec st' jump N2 e20 ps2 asg2 body2))) ->
   ∃ v w', (Instr.endRound (c.g q).b jump).run X.P c2.w = .ok v w' /\ K (a.put o.dst v) w' := fun jump st' hst hk => by
  have t2 := (b10 st' jump).1
  rw [gq2] at t2
  refine ⟨_, _, run_endRound jump b1, ?_⟩
  rw [<- hst]
  exact hK _ _ _ _ hk (sat3.tr.trans t2) (by show c2.H.set q _ = _; rw [sat3.own]) rfl
 cases x with
 | normal => exact fin none .ready rfl hq2
 | exit id => exact fin (some (.exit id)) .done rfl hq2
 | ret => exact fin (some .ret) .done rfl hq2
 | goto l => exact (hM.fail hq2).elim
 | panic ch => exact (hM.fail hq2).elim
 | outgrown => exact (hM.fail hq2).elim
theorem one_sound (hX : X.Good) (hM : M.Ok X T) (hsub : SubOK X T sub) {N : Nat} {c0 c : Cfg} {e : Env} {H : List HObj} {a : Act} (sat : Sat X N c0 e H c a) {o : Oper} (hd : ∀ d, o.dst = some d -> d < N) {k : Env -> List HObj -> A} (h : T (oneEv M X sub o e H k))
  {K : Act -> World -> Prop} {Q' : Exit -> Act -> World -> Prop} (ρ : Option Nat) (hK : ∀ e' H' c' a', T (k e' H') -> Sat X N c0 e' H' c' a' -> K a' c'.w) : o.wpIn (FR ρ) 0 X.P a c.w K Q' := by
 unfold oneEv at h
 split at h
 ·rename_i q avs hy
  unfold yieldOf at hy
  split at hy
  ·rename_i cl ho
   split at hy
   ·rename_i F hcl
    split at hy
    ·rename_i q' hF
     cases hy
     exact yield_sound hX hM hsub sat ho hcl hF h ρ fun av H' c' v hk ht hH hv => hK _ _ _ _ (by rw [setDK_eq] at hk; exact hk) (sat.put ht hH hv hd)
    ·cases hy
   ·cases hy
  ·cases hy
 ·obtain ⟨av, rs, ws, m, hk, _, _, hE⟩ := opEv_sound hM hX h
  obtain ⟨av', hl, hk⟩ := hM.norm hk
  rw [setDK_eq] at hk
  obtain ⟨H', hH', hk⟩ := hM.effN hk
  exact stepE_one hX sat hE ρ fun c' v ht hH hv => by
   have s2 := sat.put ht hH (hl.reads hv) hd
   have tw := Tr.weaken s2.tr.ok (H' := H') (by rw [s2.own]; exact hH'.len) fun k o o' ho ho' => hH'.at k o o' (by rw [<- s2.own]; exact ho) ho'
   refine hK _ _ ⟨c'.g, c'.I, c'.w, H'⟩ _ hk ⟨s2.tr.trans tw, s2.base.tr tw, rfl, fun t => tw.reads (s2.env t), s2.size, s2.marks.tr s2.tr.ok tw⟩
theorem seq_sound (hX : X.Good) (hM : M.Ok X T) (hsub : SubOK X T sub) {N : Nat} {ops : Array Oper} (hd : ∀ (j : Nat) o d, ops[j]? = some o -> o.dst = some d -> d < N) {K : Env -> List HObj -> A} {Q' : Exit -> Act -> World -> Prop} (ρ : Option Nat) {c0 : Cfg}
  (post : ∀ e' H' c' a', T (K e' H') -> Sat X N c0 e' H' c' a' -> Q' .normal a' c'.w) :
  ∀ (os : List Oper) (j : Nat) (e : Env) (H : List HObj) (c : Cfg) (a : Act), ops.toList.drop j = os -> T (seqEv M X sub ops.toList os e H K) -> Sat X N c0 e H c a -> wpOpsIn (FR ρ) 0 X.P ops Q' (List.range' j os.length) a c.w
 | [], j, e, H, c, a, hj, h, sat => post _ _ _ _ h sat
 | o :: os, j, e, H, c, a, hj, h, sat => by
  have hjo : ops[j]? = some o := by
   have : (ops.toList.drop j)[0]? = some o := by rw [hj]; rfl
   rw [List.getElem?_drop] at this
   simpa using this
  have hj1 : ops.toList.drop (j + 1) = os := by rw [<- List.tail_drop, hj]; rfl
  have ih : ∀ e' H' c' a', T (seqEv M X sub ops.toList os e' H' K) -> Sat X N c0 e' H' c' a' -> wpOpsIn (FR ρ) 0 X.P ops Q' (List.range' (j + 1) os.length) a' c'.w := fun e' H' c' a' h' s' =>
   seq_sound hX hM hsub hd ρ post os (j + 1) e' H' c' a' hj1 h' s'
  simp only [List.length_cons]
  rw [List.range'_succ, wpOpsIn_cons]
  unfold wpOpIn
  rw [hjo]
  simp only []
  have skip : ∀ {e' : Env}, e' = setD o.dst (.val undef) e -> T (seqEv M X sub ops.toList os e' H K) -> (∀ f, o.about X.P c.w a.eval = some f -> (FR ρ).fn f) /\ wpOpsIn (FR ρ) 0 X.P ops Q' (List.range' (j + 1) os.length) (a.put o.dst undef) c.w := fun he h' =>
   ⟨fun _ _ => trivial, ih _ H c _ h' (by rw [he]; exact sat.put (.refl sat.tr.ok) sat.own rfl fun d => hd j o d hjo)⟩
  unfold seqEv at h
  split at h
  ·rename_i hg
   have hw : Region.wanted o (yielded ops a.tmps) = true := by unfold Region.wanted; rw [hg]
   rw [if_pos hw]
   exact one_sound hX hM hsub sat (fun d => hd j o d hjo) h ρ ih
  ·rename_i i w hg
   split at h
   case h_2 => exact (hM.fail h).elim
   rename_i y hy
   have hy : ops[i]? = some y := by simpa using hy
   split at h
   case h_2 => exact (hM.fail h).elim
   rename_i d hyd
   have hr := sat.env d
   split at h
   ·rename_i p hp
    rw [hp] at hr
    have hr : a.eval (.tmp d) = .bool p := hr
    have hyi := yielded_is hy hyd hr
    have hb := hM.br h
    cases hs : sameB p w with
    | true =>
     have hw : Region.wanted o (yielded ops a.tmps) = true := by unfold Region.wanted; rw [hg]; simp [hyi, sameB_eq.1 hs]
     rw [if_pos hw]
     exact one_sound hX hM hsub sat (fun d => hd j o d hjo) (hb.1 hs) ρ ih
    | false =>
     have hne : p ≠ w := fun e => by rw [sameB_eq.2 e] at hs; cases hs
     have hw : Region.wanted o (yielded ops a.tmps) = false := by unfold Region.wanted; rw [hg]; simp [hyi, hne]
     rw [if_neg (by simp [hw])]
     have h2 := hb.2 hs
     rw [setDK_eq] at h2
     exact skip rfl h2
   ·rename_i v hv
    rw [hv] at hr
    have hr : a.eval (.tmp d) = v := hr
    cases hnb : notBool v with
    | false => rw [hnb] at h; exact (hM.fail h).elim
    | true =>
     rw [hnb] at h
     simp only [cond_true] at h
     rw [setDK_eq] at h
     have : yielded ops a.tmps i ≠ some w := yielded_not hy fun d' hd' e => by
      rw [hyd] at hd'
      cases hd'
      rw [hr] at e
      subst e
      cases hnb
     have hw : Region.wanted o (yielded ops a.tmps) = false := by unfold Region.wanted; rw [hg]; simpa using this
     rw [if_neg (by simp [hw])]
     exact skip rfl h
   ·exact (hM.fail h).elim
end
end Go.Fx
/-
 A region that may draw its order, every guard being known.
-/
namespace Go.Fx
open Go.RowKit
def regC {A : Type} (M : Md A) (X : Ctx) (base : Nat -> AV) : List Oper -> List Item -> List HObj -> (List Item -> List HObj -> A) -> A
 | [], done, H, k => k done H
 | o :: os, done, H, k =>
  match o.guard with
  | none => opEv M X none (fun g x => rdO X (lookI g done base) x) none H o.op fun av rs ws m => M.norm av fun av => M.eff H m ws fun H' => regC M X base os (⟨o, .exec, True, av, rs, ws, m⟩ :: done) H' k
  | some (i, w) =>
   match itemAt done i with
   | none => M.fail
   | some y =>
    match y.mode, y.o.dst, y.av with
    | .skip, some _, _ => regC M X base os (⟨o, .skip, True, .any, [], [], 0⟩ :: done) H k
    | .exec, some _, .bool p =>
     bif sameB p w then opEv M X none (fun g x => rdO X (lookI g done base) x) none H o.op fun av rs ws m => M.norm av fun av => M.eff H m ws fun H' => regC M X base os (⟨o, .exec, True, av, rs, ws, m⟩ :: done) H' k
     else regC M X base os (⟨o, .skip, True, .any, [], [], 0⟩ :: done) H k
    | _, _, _ => M.fail
section
variable {X : Ctx} {A : Type} {M : Md A} {T : A -> Prop}
theorem regC_spec (hX : X.Good) (hM : M.Ok X T) (base : Nat -> AV) : ∀ (os : List Oper) (done : List Item) (H : List HObj) (k : List Item -> List HObj -> A), T (regC M X base os done H k) ->
  ∃ rest : List Item, rest.map (·.o) = os /\ T (k (rest.reverse ++ done) (after H rest)) /\ Bds H.length rest /\
   ∀ (j : Nat) it, rest[j]? = some it -> ItemOK X (done.reverse ++ rest) base (done.length + j) (after H (rest.take j) ++ List.replicate it.m .hole) it
 | [], done, H, k, h => ⟨[], rfl, h, trivial, fun j it hj => by simp at hj⟩
 | o :: os, done, H, k, h => by
  have glue : ∀ (it : Item), it.o = o -> (∀ r ∈ it.rs, r.k < H.length + it.m) -> (∀ w ∈ it.ws, w.k < H.length + it.m) ->
    (∀ rest, ItemOK X (done.reverse ++ it :: rest) base done.length (H ++ List.replicate it.m .hole) it) ->
    T (regC M X base os (it :: done) (putAll (H ++ List.replicate it.m .hole) it.ws) k) -> ∃ rest : List Item, rest.map (·.o) = o :: os /\ T (k (rest.reverse ++ done) (after H rest)) /\ Bds H.length rest /\
     ∀ (j : Nat) it, rest[j]? = some it -> ItemOK X (done.reverse ++ rest) base (done.length + j) (after H (rest.take j) ++ List.replicate it.m .hole) it := by
   intro it ho hr hw hok hrec
   obtain ⟨rest, h1, h2, h3, h4⟩ := regC_spec hX hM base os (it :: done) _ k hrec
   refine ⟨it :: rest, by simp [ho, h1], by simpa [after] using h2, ⟨hr, hw, by rw [putAll_len] at h3; simpa using h3⟩, fun j x hj => ?_⟩
   cases j with
   | zero =>
    simp only [List.getElem?_cons_zero, Option.some.injEq] at hj
    subst hj
    exact hok rest
   | succ j =>
    have := h4 j x (by simpa using hj)
    simp only [List.reverse_cons, List.append_assoc, List.singleton_append, List.length_cons] at this
    rw [show done.length + (j + 1) = done.length + 1 + j by omega]
    exact this
  have rd : ∀ (it : Item) (rest : List Item), (fun g x => rdO X (lookI g done base) x) = rdI X (done.reverse ++ it :: rest) base done.length := by
   intro it rest
   funext g x
   unfold rdI
   rw [List.take_left' (by simp), List.reverse_reverse]
  have at' : ∀ {i : Nat} {y : Item} (it : Item) (rest : List Item), itemAt done i = some y -> i < done.length /\ (done.reverse ++ it :: rest)[i]? = some y := by
   intro i y it rest hy
   unfold itemAt at hy
   have hlt : i < done.reverse.length := (List.getElem?_eq_some_iff.1 hy).1
   exact ⟨by simpa using hlt, by rw [List.getElem?_append_left hlt]; exact hy⟩
  unfold regC at h
  split at h
  ·rename_i hg
   obtain ⟨av, rs, ws, m, hk, hr, hw, hE⟩ := opEv_sound (o := o) hM hX h
   obtain ⟨av', hl, hk⟩ := hM.norm hk
   simp only [hM.eff] at hk
   refine glue ⟨o, .exec, True, av', rs, ws, m⟩ rfl hr hw (fun rest => ?_) hk
   rw [rd ⟨o, .exec, True, av', rs, ws, m⟩ rest] at hE
   exact ⟨hE.le hl, .inl hg⟩
  ·rename_i i w hg
   split at h
   ·exact (hM.fail h).elim
   ·rename_i y hy
    split at h
    ·rename_i t hm hd
     refine glue ⟨o, .skip, True, .any, [], [], 0⟩ rfl (by simp) (by simp) (fun rest => ?_) (by simpa [putAll] using h)
     obtain ⟨a1, a2⟩ := at' ⟨o, .skip, True, .any, [], [], 0⟩ rest hy
     exact ⟨rfl, i, w, y, hg, a1, a2, by rw [hm]; trivial⟩
    ·rename_i t p hm hd hav
     cases hs : sameB p w with
     | true =>
      rw [hs] at h
      simp only [cond_true] at h
      have hp := sameB_eq.1 hs
      obtain ⟨av, rs, ws, m, hk, hr, hw, hE⟩ := opEv_sound (o := o) hM hX h
      obtain ⟨av', hl, hk⟩ := hM.norm hk
      simp only [hM.eff] at hk
      refine glue ⟨o, .exec, True, av', rs, ws, m⟩ rfl hr hw (fun rest => ?_) hk
      rw [rd ⟨o, .exec, True, av', rs, ws, m⟩ rest] at hE
      obtain ⟨a1, a2⟩ := at' ⟨o, .exec, True, av', rs, ws, m⟩ rest hy
      exact ⟨hE.le hl, .inr ⟨i, w, y, hg, a1, a2, by simp [hd], by rw [hm]; show y.av = .bool w; rw [hav, hp]⟩⟩
     | false =>
      rw [hs] at h
      have hp : p ≠ w := fun e => by rw [sameB_eq.2 e] at hs; cases hs
      have hp' : p = !w := by cases p <;> cases w <;> simp_all
      refine glue ⟨o, .skip, True, .any, [], [], 0⟩ rfl (by simp) (by simp) (fun rest => ?_) (by simpa [putAll] using h)
      obtain ⟨a1, a2⟩ := at' ⟨o, .skip, True, .any, [], [], 0⟩ rest hy
      exact ⟨rfl, i, w, y, hg, a1, a2, by rw [hm]; show y.av = .bool (!w); rw [hav, hp']⟩
    ·exact (hM.fail h).elim
end
end Go.Fx
/-
 Code, read as a program: soundness.
-/
namespace Go.Fx
open Go.RowKit
def EnvLe (e : Env) : Env -> Prop
 | [] => True
 | (t, v) :: r => Le (look e t) v /\ EnvLe e r
def HLe : List HObj -> List HObj -> Prop
 | _, [] => True
 | a :: as, b :: bs => LeO a b /\ HLe as bs
 | [], _ :: _ => False
def StLe (n0 : Nat) (e : Env) (H : List HObj) (e' : Env) (H' : List HObj) : Prop :=
 (Nat.ble n0 H'.length && (H'.all (·.under H'.length) && e'.all (fun x => x.2.under H'.length))) = true /\ HLe H H' /\ EnvLe e e'
theorem HLe.at : ∀ {H G : List HObj}, HLe H G -> G.length <= H.length /\ ∀ (j : Nat) b, G[j]? = some b -> ∃ a, H[j]? = some a /\ LeO a b
 | H, [], _ => ⟨by simp, fun j b h => by simp at h⟩
 | [], _ :: _, h => h.elim
 | a :: as, b :: bs, ⟨h0, h⟩ => by
  obtain ⟨h1, h2⟩ := h.at
  refine ⟨by simpa using h1, fun j x hj => ?_⟩
  cases j with
  | zero => simp at hj; subst hj; exact ⟨a, rfl, h0⟩
  | succ j => simpa using h2 j x (by simpa using hj)
theorem EnvLe.at {e : Env} : ∀ {r : Env}, EnvLe e r -> ∀ t, Le (look e t) (look r t)
 | [], _, t => .any _
 | (s, v) :: r, ⟨h0, h⟩, t => by
  simp only [look]
  cases hb : Nat.beq s t with
  | true => rw [Nat.beq_eq] at hb; subst hb; exact h0
  | false => exact h.at t
theorem Holds.under {g : Nat -> GO} {I : Nat -> Nat -> Prop} {w : World} {m n k : Nat} {o : HObj} (hu : o.under n = true) (h : Holds g I w m k o) : Holds g I w n k o := by
 cases o with
 | box cells =>
  obtain ⟨h0, cs, T, h1, h2, h3⟩ := h
  refine ⟨h0, cs, T, h1, h2, fun j av hj => ?_⟩
  obtain ⟨x, x1, x2, x3⟩ := h3 j av hj
  simp only [HObj.under, List.all_eq_true] at hu
  exact ⟨x, x1, x2, AV.under_reads av m x (hu av (List.mem_of_getElem? hj)) x3⟩
 | list e es n' f ver => exact h
 | dead => trivial
 | hole => exact h
 | lrec st pend N e ps assign body =>
  obtain ⟨h0, hc, fn, tmps, D, h1, h2, h3⟩ := h
  exact ⟨h0, hc, fn, tmps, D, h1, h2, fun t => AV.under_reads _ m _ (look_under hu t) (h3 t)⟩
 | iter s pos => exact h
 | last e es n' cells ver =>
  obtain ⟨h1, h0, xs, h2, h3, hn, hl, h4⟩ := h
  refine ⟨h1, h0, xs, h2, h3, hn, hl, fun j av hj => ?_⟩
  obtain ⟨x, x1, x2⟩ := h4 j av hj
  simp only [HObj.under, List.all_eq_true] at hu
  exact ⟨x, x1, AV.under_reads av m x (hu av (List.mem_of_getElem? hj)) x2⟩
theorem Sat.weaken {X : Ctx} {N : Nat} {c0 c : Cfg} {e e' : Env} {H H' : List HObj} {a : Act} (sat : Sat X N c0 e H c a) (h : StLe c0.H.length e H e' H') : ∃ c', Sat X N c0 e' H' c' a /\ c'.w = c.w := by
 obtain ⟨h1, h2, h3⟩ := h
 simp only [Bool.and_eq_true] at h1
 obtain ⟨u0, u1, u2⟩ := h1
 have u0 := Nat.le_of_ble_eq_true u0
 obtain ⟨k1, k2⟩ := h2.at
 have hH := sat.own
 have t1 : Tr c { c with H := H' ++ c.H.drop H'.length } := Tr.weaken sat.tr.ok (by rw [hH]; simp; omega) fun k o o' ho ho' => by
  by_cases hk : k < H'.length
  ·rw [List.getElem?_append_left hk] at ho'
   obtain ⟨x, x1, x2⟩ := k2 k o' ho'
   rw [hH, x1] at ho
   cases ho
   exact x2
  ·rw [List.getElem?_append_right (by omega), List.getElem?_drop, show H'.length + (k - H'.length) = k by omega, ho] at ho'
   cases ho'
   exact .refl _
 have t2 := Tr.drop (sat.tr.trans t1) (n := H'.length) u0 (by simp) fun k o hk ho => by
  have ho : (H' ++ c.H.drop H'.length)[k]? = some o := ho
  rw [List.getElem?_append_left hk] at ho
  obtain ⟨x, x1, x2⟩ := k2 k o ho
  exact Holds.under (List.all_eq_true.1 u1 o (List.mem_of_getElem? ho)) (x2.holds (sat.tr.ok.obj k x (by rw [hH]; exact x1)))
 refine ⟨_, ⟨t2, ⟨sat.base.below, sat.base.imm, fun b ⟨k, o, hk, hb⟩ => ?_⟩, by simp, fun t => ?_, sat.size, sat.marks⟩, rfl⟩
 ·have hk : (List.take H'.length (H' ++ c.H.drop H'.length))[k]? = some o := hk
  have hk' : (H' ++ c.H.drop H'.length)[k]? = some o := by
   rw [List.getElem?_take] at hk
   split at hk
   ·exact hk
   ·cases hk
  exact (sat.base.tr t1).own b ⟨k, o, hk', hb⟩
 ·show Reads c.g c.I c.w _ (List.take H'.length (H' ++ c.H.drop H'.length)).length _
  rw [List.take_left, ]
  exact AV.under_reads _ c.H.length _ (look_under u2 t) ((h3.at t).reads (sat.env t))
def isReg : Code -> Bool
 | .region _ _ _ => true
 | _ => false
def Wk (X : Ctx) (n0 : Nat) (e : Env) (H : List HObj) (e' : Env) (H' : List HObj) : Prop :=
 ∀ {N : Nat} {c0 c : Cfg} {a : Act}, c0.H.length = n0 -> Sat X N c0 e H c a -> ∃ c', Sat X N c0 e' H' c' a /\ c'.w = c.w
theorem Wk.refl {X : Ctx} {n0 : Nat} {e : Env} {H : List HObj} : Wk X n0 e H e H := fun _ s => ⟨_, s, rfl⟩
theorem StLe.wk {X : Ctx} {n0 : Nat} {e e' : Env} {H H' : List HObj} (h : StLe n0 e H e' H') : Wk X n0 e H e' H' := fun hn s => by subst hn; exact s.weaken h
def FnIs (X : Ctx) (f : FuncId) (fn : Func) (code : Code) : Prop := X.P.funcs[f]? = some fn /\ fn.body = some code /\ (fn.name == "runtime.NumGoroutine") = false /\ codeOK fn.ntmps code = true
def argEnv : List AV -> Nat -> Env
 | [], _ => []
 | a :: as, i => (i, a) :: argEnv as (i + 1)
structure Cm (A : Type) extends Md A where
 reg : Bool -> Array Oper -> Env -> List HObj -> (Env -> List HObj -> A) -> A
 cut : Nat -> (QT A -> A) -> (Env -> List HObj -> A) -> QT A -> A
 loop : Nat -> (Env -> List HObj -> QT A -> A) -> Env -> List HObj -> QT A -> A
 ent : FuncId -> (Nat -> Code -> A) -> A
 fsub : SubT A
def thenQ {A : Type} (b : Env -> List HObj -> A) (Q : QT A) : QT A := fun x e H => match x with | .normal => b e H | x => Q x e H
structure Cm.Ok {A : Type} (X : Ctx) (M : Cm A) (T : A -> Prop) : Prop where
 md : M.toMd.Ok X T
 reg : ∀ {N id : Nat} {ops : Array Oper} {draw : Bool} {e : Env} {H : List HObj} {K : Env -> List HObj -> A}, regOK N ops draw = true -> T (M.reg draw ops e H K) ->
  ∀ {c0 c : Cfg} {a : Act} {Q' : Exit -> Act -> World -> Prop} (ρ : Option Nat), Sat X N c0 e H c a -> (∀ e' H' c' a', T (K e' H') -> Sat X N c0 e' H' c' a' -> Q' .normal a' c'.w) -> (Code.region id ops draw).wpIn (FR ρ) 0 X.P Q' a c.w
 cut : ∀ {n0 : Nat} {fa : QT A -> A} {fb : Env -> List HObj -> A} {Q : QT A}, T (M.cut n0 fa fb Q) ->
  ∃ Qm : QT A, T (fa Qm) /\ (∀ x e H, x ≠ .normal -> T (Qm x e H) -> T (Q x e H)) /\ ∀ e H, T (Qm .normal e H) -> ∃ e2 H2, Wk X n0 e H e2 H2 /\ T (fb e2 H2)
 loop : ∀ {n0 : Nat} {fb : Env -> List HObj -> QT A -> A} {e : Env} {H : List HObj} {Q : QT A}, T (M.loop n0 fb e H Q) ->
  ∃ (α : Type) (S : α -> Env × List HObj) (I : α -> Prop) (μ : α -> Nat) (Qm : α -> QT A), (∃ y, I y /\ Wk X n0 e H (S y).1 (S y).2) /\ ∀ y, I y -> T (fb (S y).1 (S y).2 (Qm y)) /\
   (∀ x e H, x ≠ .normal -> T (Qm y x e H) -> T (Q x e H)) /\ ∀ e H, T (Qm y .normal e H) -> ∃ z, I z /\ μ z < μ y /\ Wk X n0 e H (S z).1 (S z).2
 ent : ∀ {f : FuncId} {K : Nat -> Code -> A}, T (M.ent f K) -> ∃ fn code, FnIs X f fn code /\ fn.results.isEmpty = true /\ T (K fn.ntmps code)
 fsub : SubOK X T M.fsub
def rangeEnd {A : Type} (M : Cm A) (q : Nat) (e : Env) (Q : QT A) (x : Exit) (H : List HObj) : A :=
 match x with
 | .normal | .ret =>
  match H[q]? with
  | some (.lrec .ready none _ _ _ _ _) => Q .normal e (H.set q .dead)
  | some (.lrec .done (some (.exit id)) _ _ _ _ _) => Q (.exit id) e (H.set q .dead)
  | some (.lrec .done (some .ret) _ _ _ _ _) => Q .ret e (H.set q .dead)
  | _ => M.fail
 | _ => M.fail
def wpG {A : Type} (M : Cm A) (X : Ctx) (n0 : Nat) (N : Nat) : Code -> Env -> List HObj -> QT A -> A
 | .skip, e, H, Q => Q .normal e H
 | .region _ ops draw, e, H, Q => M.reg draw ops e H fun e H => Q .normal e H
 | .seq a b, e, H, Q => bif isReg a then wpG M X n0 N a e H (thenQ (fun e H => wpG M X n0 N b e H Q) Q) else M.cut n0 (fun Q => wpG M X n0 N a e H Q) (fun e H => wpG M X n0 N b e H Q) Q
 | .cond c x y, e, H, Q => match rdO X (look e) c with | .bool b => M.br b (wpG M X n0 N x e H Q) (wpG M X n0 N y e H Q) | _ => M.fail
 | .block id b, e, H, Q => wpG M X n0 N b e H fun x e' H' => match x with | .exit i => bif Nat.beq i id then Q .normal e' H' else Q (.exit i) e' H' | x => Q x e' H'
 | .loop b, e, H, Q => M.loop n0 (fun e H Q => wpG M X n0 N b e H Q) e H Q
 | .exit id, e, H, Q => Q (.exit id) e H
 | .ret, e, H, Q => Q .ret e H
 | .rangeFunc g ps asg body, e, H, Q =>
  match rdO X (look e) g with
  | .fn gf n caps => M.ent gf fun N' code => bif Nat.ble (n + 1) N' then M.fsub N' (H.length + 1) code (argEnv (.yld H.length :: (List.range n).map caps) 0) (H ++ [.lrec .ready none N e ps asg body]) fun x _ H' => rangeEnd M H.length e Q x H' else M.fail
  | _ => M.fail
 | _, _, _, _ => M.fail
theorem wpIn_loop_ghost {F : Fence} {n : Nat} {P : Program} {Q : Exit -> Act -> World -> Prop} {a : Act} {w : World} {c : Code} {α : Type} (I : α -> Act -> World -> Prop) (μ : α -> Nat) (x₀ : α) (h₀ : I x₀ a w)
  (round : ∀ x a w, I x a w -> c.wpIn F n P (Exit.then (fun a' w' => ∃ x', I x' a' w' /\ μ x' < μ x) Q) a w) : (Code.loop c).wpIn F n P Q a w := by
 intro b k cs hro hb hr
 have key : ∀ n x a w, μ x = n -> I x a w ->
   ∃ e a' w', Q e a' w' /\ ArrivesIn (Machine.fenced P F) P (lone (b.atR a (.code c :: .inLoop c :: k)) cs w) b k cs e a' w' := by
  intro n
  induction n using Nat.strongRecOn with
  | _ n ih =>
   intro x a w hn hI
   obtain ⟨e, a₁, w₁, hq, harr⟩ := round x a w hI b (.inLoop c :: k) cs hro hb hr
   cases e with
   | normal =>
    obtain ⟨x', hI₁, hlt⟩ := hq
    obtain ⟨e₂, a₂, w₂, hq₂, harr₂⟩ := ih (μ x') (hn ▸ hlt) x' a₁ w₁ rfl hI₁
    exact ⟨e₂, a₂, w₂, hq₂, .of_steps (StepsIn.trans harr (.one (fenced_calm hb hr rfl) stepR_inLoop)) harr₂⟩
   | exit id => exact ⟨_, a₁, w₁, hq, .pass (x := .inLoop c) rfl (fun _ _ => .inl (by simp)) harr⟩
   | goto l => exact ⟨_, a₁, w₁, hq, .pass (x := .inLoop c) rfl (fun _ _ => .inl (by simp)) harr⟩
   | ret => exact ⟨_, a₁, w₁, hq, .pass (x := .inLoop c) rfl (fun _ _ => .inl (by simp)) harr⟩
   | panic ch => exact ⟨_, a₁, w₁, hq, .pass (x := .inLoop c) rfl (fun _ _ => .inl (by simp)) harr⟩
   | outgrown => exact ⟨_, a₁, w₁, hq, .pass (x := .inLoop c) rfl (fun _ _ => .inl (by simp)) harr⟩
 obtain ⟨e, a', w', hq, harr⟩ := key _ x₀ a w rfl h₀
 exact ⟨e, a', w', hq, .of_steps (.one (fenced_calm hb hr rfl) stepR_loop) harr⟩
theorem look_argEnv : ∀ (as : List AV) (i t : Nat), look (argEnv as i) t = if i <= t then as.getD (t - i) .any else .any
 | [], i, t => by simp [argEnv, look]
 | a :: as, i, t => by
  simp only [argEnv, look]
  cases hb : Nat.beq i t with
  | true => rw [Nat.beq_eq] at hb; subst hb; simp
  | false =>
   have hne : i ≠ t := fun e => by subst e; simp at hb
   simp only [cond_false]
   rw [look_argEnv as (i + 1) t]
   by_cases h : i <= t
   ·rw [if_pos (by omega), if_pos h, show t - i = (t - (i + 1)) + 1 by omega]; simp
   ·rw [if_neg (by omega), if_neg h]
section
variable {X : Ctx} {A : Type} {M : Cm A} {T : A -> Prop}
theorem Sat.enter {c : Cfg} (hok : c.Ok) (hb : Base X c) {N : Nat} {args : List AV} {cargs : Array Value} (hsz : cargs.size = args.length) (hN : args.length <= N) (hargs : ∀ (j : Nat) av, args[j]? = some av -> ∃ v, cargs[j]? = some v /\ c.Reads av v) :
  Sat X N c (argEnv args 0) c.H c { tmps := cargs ++ Array.replicate (N - cargs.size) undef, defers := [] } := by
 refine ⟨.refl hok, hb, rfl, fun t => ?_, by simp; omega, [], rfl, List.nodup_nil, by simp⟩
 rw [look_argEnv, if_pos (Nat.zero_le _), Nat.sub_zero, List.getD_eq_getElem?_getD]
 cases ht : args[t]? with
 | none => trivial
 | some av =>
  obtain ⟨v, v1, v2⟩ := hargs t av ht
  have hlt := (Array.getElem?_eq_some_iff.1 v1).1
  show c.Reads av ((cargs ++ Array.replicate (N - cargs.size) undef).getD t undef)
  rw [Array.getD_eq_getD_getElem?, Array.getElem?_append_left hlt, v1]
  exact v2
end
end Go.Fx
/-
 Code, read as a program: soundness.
-/
namespace Go.Fx
open Go.RowKit
def failSub {A : Type} (M : Cm A) : SubT A := fun _ _ _ _ _ _ => M.fail
def resOf (tmps : Array Value) : ResultVar -> Sem Value
 | .tmp t => pure (tmps.getD t undef)
 | .cell q t => do loadVar t (<- asAddr (tmps.getD q undef))
theorem results_eq (fn : Func) (tmps : Array Value) : results fn tmps = (do let vs <- fn.results.mapM (resOf tmps); pure (if h : vs.size = 1 then vs[0] else .tuple vs)) := by
 unfold results
 congr 2
section
variable {X : Ctx} {A : Type} {M : Cm A} {T : A -> Prop}
theorem cell_deferred {w : World} {D o : Nat} {x : Option (List Deferred)} (h : w.heap[D]? = some (.deferred x)) : w.cell? ⟨D, o, none⟩ = none := by simp [World.cell?, h]
theorem Sat.unmark {N : Nat} {c0 c : Cfg} {e : Env} {H : List HObj} {tmps : Array Value} {D : Nat} {Ds : List Nat} (sat : Sat X N c0 e H c { tmps, defers := (D :: Ds).map mark }) (hn : (D :: Ds).Nodup) (h : ∀ x ∈ D :: Ds, c0.w.heap.size <= x /\ X.W0.heap.size <= x /\ c.w.heap[x]? = some (.deferred (some []))) :
  Sat X N c0 e H { c with w := c.w.putObj D (.deferred none) } { tmps, defers := Ds.map mark } := by
 obtain ⟨d1, d2, d3⟩ := h D (List.mem_cons_self ..)
 have hlt : D < c.w.heap.size := (Array.getElem?_eq_some_iff.1 d3).1
 have hfree := sat.tr.ok.free d3
 have hcell : ∀ b o, (c.w.putObj D (.deferred none)).cell? ⟨b, o, none⟩ = c.w.cell? ⟨b, o, none⟩ := fun b o => by
  by_cases hb : b = D
  ·subst hb; rw [cell_deferred d3, cell_deferred (World.putObj_heap_same hlt)]
  ·exact cell_of_block (World.putObj_heap_other hb)
 have hok := sat.tr.ok
 have hmono : ∀ {av : AV} {v : Value}, c.Reads av v -> Reads c.g c.I (c.w.putObj D (.deferred none)) av c.H.length v := fun h =>
  Reads.mono' (M := c.H.length) (fun k _ => ⟨fun _ => rfl, Nat.le_refl _, fun _ => rfl⟩) (fun b o hI => ⟨hI, hcell b o⟩) _ _ _ _ (Nat.le_refl _) (Nat.le_refl _) h
 refine ⟨⟨⟨fun k o hk => ?_, hok.apart, fun k o b hk hb => by simpa using hok.old k o b hk hb, fun b o hI => by simpa using hok.imm b o hI, hok.immApart⟩, sat.tr.len, sat.tr.places, fun b o hI => ?_, sat.tr.new, sat.tr.own, sat.tr.os, sat.tr.tape, sat.tr.output, by simpa using sat.tr.size, fun b hb hno => ?_⟩,
  ⟨⟨sat.base.below.os, sat.base.below.tape, sat.base.below.output, by simpa using sat.base.below.size, fun b hb => ?_⟩, sat.base.imm, sat.base.own⟩, sat.own, fun t => hmono (sat.env t), sat.size, Ds, rfl, (List.nodup_cons.1 hn).2, fun x hx => ?_⟩
 ·exact Holds.mono (fun k _ => ⟨fun _ => rfl, Nat.le_refl _, fun _ => rfl⟩) (fun b o hI => ⟨hI, hcell b o⟩) (Nat.le_refl _) rfl (fun b hb => World.putObj_heap_other (fun e => hfree ⟨k, o, hk, by rw [<- e]; exact hb⟩)) (hok.obj k o hk)
 ·obtain ⟨h1, h2⟩ := sat.tr.keep b o hI
  exact ⟨h1, by rw [<- h2]; exact hcell b o⟩
 ·show (c.w.putObj D _).heap[b]? = _
  rw [World.putObj_heap_other (by omega)]
  exact sat.tr.block b hb hno
 ·show (c.w.putObj D _).heap[b]? = _
  rw [World.putObj_heap_other (by omega)]
  exact sat.base.below.block b hb
 ·obtain ⟨x1, x2, x3⟩ := h x (List.mem_cons_of_mem _ hx)
  refine ⟨x1, x2, ?_⟩
  show (c.w.putObj D _).heap[x]? = _
  rw [World.putObj_heap_other (fun e => (List.nodup_cons.1 hn).1 (by rw [<- e]; exact hx))]
  exact x3
theorem Sat.leave {N : Nat} {c0 : Cfg} {e : Env} {H : List HObj} {fn : Func} {R : Ending -> World -> Prop} {tmps : Array Value} : ∀ (Ds : List Nat) (c : Cfg), Sat X N c0 e H c { tmps, defers := Ds.map mark } -> Ds.Nodup -> (∀ x ∈ Ds, c0.w.heap.size <= x /\ X.W0.heap.size <= x /\ c.w.heap[x]? = some (.deferred (some []))) ->
  (∀ c', Sat X N c0 e H c' { tmps, defers := [] } -> ∃ v, (results fn tmps).run X.P c'.w = .ok v c'.w /\ R (.returned v) c'.w) -> LeavesInM (FR none) 0 X.P fn tmps R (Ds.map mark) .returning c.w
 | [], c, sat, _, _, h => h c sat
 | D :: Ds, c, sat, hn, hD, h => by
  refine ⟨by simp, .inl ⟨D, _, rfl, run_takeDeferred (hD D (List.mem_cons_self ..)).2.2, ?_⟩⟩
  have s2 := sat.unmark hn hD
  obtain ⟨Ds', e1, _, e3⟩ := s2.marks
  have : Ds' = Ds := by
   have hinj : ∀ {a b : List Nat}, a.map mark = b.map mark -> a = b := by
    intro a
    induction a with
    | nil => intro b hb; cases b with | nil => rfl | cons => simp at hb
    | cons x a ih =>
     intro b hb
     cases b with
     | nil => simp at hb
     | cons y b =>
      simp only [List.map_cons, List.cons.injEq, mark, Deferred.mk.injEq, Target.collected.injEq] at hb
      rw [hb.1.1, ih hb.2]
   exact (hinj e1).symm
  subst this
  exact Sat.leave Ds' _ s2 (List.nodup_cons.1 hn).2 e3 h
theorem calls_of_body {c0 : Cfg} {f : FuncId} {fn : Func} {code : Code} {cargs : Array Value} {w : World} {R : Ending -> World -> Prop} (h1 : X.P.funcs[f]? = some fn) (h2 : fn.body = some code) {Q : Exit -> Env -> List HObj -> Prop}
  (h : ∀ Q' : Exit -> Act -> World -> Prop, (∀ x e H c' a', Q x e H -> Sat X fn.ntmps c0 e H c' a' -> Q' x a' c'.w) -> code.wpIn (FR none) 0 X.P Q' { tmps := cargs ++ Array.replicate (fn.ntmps - cargs.size) undef, defers := [] } w)
  (hend : ∀ x e H, Q x e H -> (x = .normal \/ x = .ret) /\ ∀ c' a', Sat X fn.ntmps c0 e H c' a' -> a'.defers = [] -> ∃ v, (results fn a'.tmps).run X.P c'.w = .ok v c'.w /\ R (.returned v) c'.w) : CallsIn (FR none) 0 X.P f cargs w R := by
 refine callsIn_of_wp_marks h1 h2 trivial (h _ fun x e H c' a' hq sat => ?_)
 obtain ⟨hx, hr⟩ := hend x e H hq
 obtain ⟨tmps, ds⟩ := a'
 obtain ⟨Ds, k1, k2, k3⟩ := sat.marks
 simp only at k1
 subst k1
 have := Sat.leave (fn := fn) (R := R) Ds c' sat k2 k3 fun c'' s'' => hr c'' _ s'' rfl
 rcases hx with rfl | rfl
 ·exact this
 ·exact this
theorem run_results_nil {fn : Func} (h : fn.results.isEmpty = true) (tmps : Array Value) (w : World) {P : Program} : ∃ v, (results fn tmps).run P w = .ok v w := by
 have : fn.results = #[] := by simpa using h
 rw [results_eq, this]
 exact ⟨.tuple #[], by simp⟩
theorem range_sound (hX : X.Good) (hM : M.Ok X T) {N n0 : Nat} {g : Operand} {ps : Array Tmp} {asg body : Code} (hc : codeOK N (.rangeFunc g ps asg body) = true) {c0 c : Cfg} {e : Env} {H : List HObj} {a : Act} {Q : QT A} {Q' : Exit -> Act -> World -> Prop}
  (h : T (wpG M X n0 N (.rangeFunc g ps asg body) e H Q)) (sat : Sat X N c0 e H c a) (post : Post X T N c0 Q Q') : (Code.rangeFunc g ps asg body).wpIn (FR none) 0 X.P Q' a c.w := by
 simp only [wpG] at h
 split at h
 case h_2 => exact (hM.md.fail h).elim
 rename_i gf n caps hg
 obtain ⟨fn, code, hfn, hres, hK⟩ := hM.ent h
 cases hb : Nat.ble (n + 1) fn.ntmps with
 | false => rw [hb] at hK; exact (hM.md.fail hK).elim
 | true =>
 rw [hb] at hK
 simp only [cond_true] at hK
 have hb := Nat.le_of_ble_eq_true hb
 obtain ⟨f1, f2, f3, f4⟩ := hfn
 have hrg := rdO_reads hX sat g
 rw [hg] at hrg
 obtain ⟨cs, hrg, hcs, hcaps⟩ := hrg
 have hok := sat.tr.ok
 refine wpIn_rangeFunc fun fid _ => ?_
 -- the two new blocks
 let r0 : Loop := { state := .ready, pending := none, fn := fid, tmps := a.tmps, params := ps, assign := asg, body, defers := c.w.heap.size }
 let w1 := (c.w.alloc (.deferred (some []))).alloc (.loop r0)
 have tA : Tr c ⟨c.g, c.I, c.w.alloc (.deferred (some [])), c.H⟩ := Tr.imm hok rfl rfl rfl (by simp) (fun b hb => alloc_old hb) (fun b o h => h) (fun b o h => .inl h)
 let x1 : GO := ⟨c.w.heap.size + 1, .nilFunc, 1⟩
 have hcellA : ∀ b, b < (c.w.alloc (.deferred (some []))).heap.size -> w1.heap[b]? = (c.w.alloc (.deferred (some []))).heap[b]? := fun b hb => alloc_old hb
 have hread1 : ∀ (av : AV) (v : Value), c.Reads av v -> Reads (upd c.g c.H.length x1) c.I w1 av (c.H.length + 1) v := fun av v hr =>
  Reads.mono' (M := c.H.length) (fun k hk => by rw [upd_other (show k ≠ c.H.length by omega)]; exact ⟨fun _ => rfl, Nat.le_refl _, fun _ => rfl⟩)
   (fun b o hI => ⟨hI, cell_of_block (by have := hok.imm b o hI; rw [hcellA b (by simp; omega), alloc_old this])⟩) av _ _ v (Nat.le_refl _) (Nat.le_succ _) hr
 have tB := Tr.add (w' := w1) (x := x1) (o' := .lrec .ready none N e ps asg body) tA.ok rfl rfl rfl (by show (c.w.alloc _).heap.size <= w1.heap.size; simp [w1]) hcellA
  (fun b hb => by
   have hb : some (upd c.g c.H.length x1 c.H.length).b = some b := hb
   rw [upd_same] at hb
   cases hb
   show (c.w.alloc _).heap.size <= c.w.heap.size + 1 /\ c.w.heap.size + 1 < w1.heap.size
   simp [w1])
  ⟨by rw [upd_same]; exact Nat.one_pos, hc, fid, a.tmps, c.w.heap.size, by
   rw [upd_same]
   show w1.heap[c.w.heap.size + 1]? = _
   have := World.alloc_heap_new (c.w.alloc (.deferred (some []))) (.loop r0)
   rw [World.size_alloc] at this
   exact this, sat.size, fun t => hread1 _ _ (sat.env t)⟩
 have t1 := tA.trans tB
 let c1 : Cfg := ⟨upd c.g c.H.length x1, c.I, w1, c.H ++ [.lrec .ready none N e ps asg body]⟩
 have hc1 : c1.H = H ++ [.lrec .ready none N e ps asg body] := by show c.H ++ _ = _; rw [sat.own]
 have hlen : c1.H.length = H.length + 1 := by rw [hc1]; simp
 have hargs : ∀ (j : Nat) av, ((.yld H.length :: (List.range n).map caps : List AV))[j]? = some av -> ∃ v, ((#[.func (.yield (c.w.heap.size + 1)) #[] #[]] ++ cs : Array Value))[j]? = some v /\ c1.Reads av v := fun j av hj => by
  cases j with
  | zero =>
   simp only [List.getElem?_cons_zero, Option.some.injEq] at hj
   subst hj
   refine ⟨.func (.yield (c.w.heap.size + 1)) #[] #[], by rw [Array.getElem?_append_left (by simp)]; rfl, by rw [hlen]; omega, ?_, ?_⟩
   ·show 0 < (upd c.g c.H.length x1 H.length).ver; rw [<- sat.own, upd_same]; exact Nat.one_pos
   ·show _ = Value.func (.yield (upd c.g c.H.length x1 H.length).b) #[] #[]; rw [<- sat.own, upd_same]
  | succ j =>
   simp only [List.getElem?_cons_succ, List.getElem?_map, Option.map_eq_some_iff] at hj
   obtain ⟨i, hi, rfl⟩ := hj
   rw [List.getElem?_eq_some_iff] at hi
   obtain ⟨hi1, hi2⟩ := hi
   simp at hi1 hi2
   subst hi2
   obtain ⟨v, v1, v2⟩ := hcaps j hi1
   refine ⟨v, ?_, t1.reads v2⟩
   rw [Array.getElem?_append_right (by simp)]
   simpa using v1
 have hsz : (#[.func (.yield (c.w.heap.size + 1)) #[] #[]] ++ cs : Array Value).size = (.yld H.length :: (List.range n).map caps : List AV).length := by simp [hcs]; omega
 have satF := Sat.enter (N := fn.ntmps) t1.ok (sat.base.tr t1) hsz (by simp; omega) hargs
 have satF : Sat X fn.ntmps c1 (argEnv (.yld H.length :: (List.range n).map caps) 0) c1.H c1 _ := satF
 rw [hc1] at satF
 refine ⟨c.w.heap.size + 1, [mark c.w.heap.size], w1, { target := .fn (.func gf) cs, args := #[.func (.yield (c.w.heap.size + 1)) #[] #[]] }, w1, gf, #[.func (.yield (c.w.heap.size + 1)) #[] #[]] ++ cs, w1, run_enterLoop_outer fid a.tmps ps asg body, ?_, fun _ _ => trivial, ?_, fun hd => by simp [FR, Fence.wide] at hd, ?_⟩
 ·show (Deferred.ofValue (a.eval g) _).run X.P w1 = _
  rw [hrg]
  simp [Deferred.ofValue, rangeCall, Act.eval]
 ·show (callFunc gf _).run X.P w1 = _
  exact run_enter ⟨fn, f1, f3, by rw [f2]; rfl⟩ _ _
 ·refine calls_of_body (c0 := c1) (Q := fun x env' H' => T (rangeEnd M H.length e Q x H')) f1 f2 (fun Q'' hQ'' => hM.fsub fn.ntmps (H.length + 1) code f4 hK none hlen satF fun x env' H' c' a' hq hs => hQ'' x env' H' c' a' hq hs) fun x env' H' hq => ?_
  have hx : x = .normal \/ x = .ret := by
   unfold rangeEnd at hq
   cases x with
   | normal => exact .inl rfl
   | ret => exact .inr rfl
   | _ => exact (hM.md.fail hq).elim
  refine ⟨hx, fun c3 a3 sat3 _ => ?_⟩
  obtain ⟨v, hv⟩ := run_results_nil (P := X.P) hres a3.tmps c3.w
  refine ⟨v, hv, ?_⟩
  have hend : ∀ (st : LoopState) (pd : Option Code) (N2 : Nat) (e2 : Env) (ps2 : Array Tmp) (asg2 body2 : Code), st ≠ .busy -> H'[H.length]? = some (.lrec st pd N2 e2 ps2 asg2 body2) ->
    ∃ w4, (Instr.endLoop (c.w.heap.size + 1)).run X.P c3.w = .ok pd w4 /\ ∃ c4, c4.w = w4 /\ Sat X N c0 e (H'.set H.length .dead) c4 { a with defers := [mark c.w.heap.size] ++ a.defers } := fun st pd N2 e2 ps2 asg2 body2 hst hq' => by
   obtain ⟨r, r1, r2, r3, _, _, _, _, _, _, r10⟩ := Tr.record sat3.tr.ok (by rw [sat3.own]; exact hq')
   have gq : (c3.g H.length).b = c.w.heap.size + 1 := by
    have hq1 : c1.g H.length = x1 := by show upd c.g c.H.length x1 H.length = x1; rw [<- sat.own, upd_same]
    have := (sat3.tr.places H.length (by rw [hlen]; omega)).1 (by rw [hq1]; exact Nat.one_pos)
    rw [this, hq1]
   have t2 := (r10 .exhausted pd).2
   rw [gq] at r1 t2
   have hrun := run_endLoop (P := X.P) r1 (by rw [r2]; exact hst)
   rw [r3] at hrun
   refine ⟨_, hrun, ⟨c3.g, c3.I, c3.w.putObj (c.w.heap.size + 1) (.loop { r with state := .exhausted, pending := pd }), c3.H.set H.length .dead⟩, rfl, ?_⟩
   have tt := (t1.trans sat3.tr).trans t2
   obtain ⟨Ds, m1, m2, m3⟩ := sat.marks
   refine ⟨sat.tr.trans tt, sat.base.tr tt, by show c3.H.set _ _ = _; rw [sat3.own], fun t => tt.reads (sat.env t), sat.size, ?_⟩
   have mk1 : Marks X c0.w.heap.size c1.w ([mark c.w.heap.size] ++ a.defers) := by
    refine ⟨c.w.heap.size :: Ds, by rw [m1]; rfl, List.nodup_cons.2 ⟨fun hm => ?_, m2⟩, fun D hD => ?_⟩
    ·have := (Array.getElem?_eq_some_iff.1 (m3 _ hm).2.2).1
     omega
    ·have hs1 : w1.heap[c.w.heap.size]? = some (.deferred (some [])) := by
      rw [hcellA _ (by simp)]
      exact World.alloc_heap_new _ _
     rcases List.mem_cons.1 hD with rfl | hD
     ·exact ⟨sat.tr.size, sat.base.below.size, hs1⟩
     ·obtain ⟨k1, k2, k3⟩ := m3 D hD
      have hlt := (Array.getElem?_eq_some_iff.1 k3).1
      refine ⟨k1, k2, ?_⟩
      show w1.heap[D]? = _
      rw [hcellA D (by simp; omega), alloc_old hlt]
      exact k3
   exact (mk1.tr t1.ok sat3.tr).tr sat3.tr.ok t2
  have key : T (match H'[H.length]? with
   | some (.lrec .ready none _ _ _ _ _) => Q .normal e (H'.set H.length .dead)
   | some (.lrec .done (some (.exit id)) _ _ _ _ _) => Q (.exit id) e (H'.set H.length .dead)
   | some (.lrec .done (some .ret) _ _ _ _ _) => Q .ret e (H'.set H.length .dead)
   | _ => M.fail) := by
   unfold rangeEnd at hq
   rcases hx with rfl | rfl
   ·exact hq
   ·exact hq
  split at key
  ·rename_i N2 e2 ps2 asg2 body2 hq'
   obtain ⟨w4, e1, c4, e2, s4⟩ := hend _ _ _ _ _ _ _ (by simp) hq'
   exact ⟨none, w4, e1, by subst e2; exact post _ _ _ _ _ key s4⟩
  ·rename_i id N2 e2 ps2 asg2 body2 hq'
   obtain ⟨w4, e1, c4, e2, s4⟩ := hend _ _ _ _ _ _ _ (by simp) hq'
   exact ⟨_, w4, e1, wpIn_exit (by subst e2; exact post _ _ _ _ _ key s4)⟩
  ·rename_i N2 e2 ps2 asg2 body2 hq'
   obtain ⟨w4, e1, c4, e2, s4⟩ := hend _ _ _ _ _ _ _ (by simp) hq'
   exact ⟨_, w4, e1, wpIn_ret (by subst e2; exact post _ _ _ _ _ key s4)⟩
  ·exact (hM.md.fail key).elim
theorem wpG_sound (hX : X.Good) (hM : M.Ok X T) {N n0 : Nat} {ρ : Option Nat} (hρ : ρ = none \/ M.fsub = failSub M) : ∀ (code : Code), codeOK N code = true ->
  ∀ {c0 c : Cfg} {e : Env} {H : List HObj} {a : Act} {Q : QT A} {Q' : Exit -> Act -> World -> Prop}, T (wpG M X n0 N code e H Q) -> c0.H.length = n0 -> Sat X N c0 e H c a -> Post X T N c0 Q Q' -> code.wpIn (FR ρ) 0 X.P Q' a c.w := by
 intro code
 induction code with
 | skip => intro _ c0 c e H a Q Q' h hn sat post; exact wpIn_skip (post _ _ _ _ _ h sat)
 | exit id => intro _ c0 c e H a Q Q' h hn sat post; exact wpIn_exit (post _ _ _ _ _ h sat)
 | ret => intro _ c0 c e H a Q Q' h hn sat post; exact wpIn_ret (post _ _ _ _ _ h sat)
 | region id ops draw => intro hc c0 c e H a Q Q' h hn sat post; exact hM.reg hc h ρ sat fun e' H' c' a' hq hs => post _ _ _ _ _ hq hs
 | seq x y ihx ihy =>
  intro hc c0 c e H a Q Q' h hn sat post
  simp only [codeOK, Bool.and_eq_true] at hc
  simp only [wpG] at h
  cases hr : isReg x with
  | true =>
   rw [hr] at h
   simp only [cond_true] at h
   refine wpIn_seq (ihx hc.1 h hn sat fun x' e' H' c' a' hq hs => ?_)
   cases x' with
   | normal => exact ihy hc.2 hq hn hs post
   | exit id => exact post _ _ _ _ _ hq hs
   | goto l => exact post _ _ _ _ _ hq hs
   | ret => exact post _ _ _ _ _ hq hs
   | panic ch => exact post _ _ _ _ _ hq hs
   | outgrown => exact post _ _ _ _ _ hq hs
  | false =>
   rw [hr] at h
   simp only [cond_false] at h
   obtain ⟨Qm, h1, h2, h3⟩ := hM.cut h
   refine wpIn_seq (ihx hc.1 h1 hn sat fun x' e' H' c' a' hq hs => ?_)
   cases x' with
   | normal =>
    obtain ⟨e2, H2, hw, hb⟩ := h3 _ _ hq
    obtain ⟨c2, hs2, hw2⟩ := hw hn hs
    show y.wpIn (FR ρ) 0 X.P Q' a' c'.w
    rw [<- hw2]
    exact ihy hc.2 hb hn hs2 post
   | exit id => exact post _ _ _ _ _ (h2 _ _ _ (by simp) hq) hs
   | goto l => exact post _ _ _ _ _ (h2 _ _ _ (by simp) hq) hs
   | ret => exact post _ _ _ _ _ (h2 _ _ _ (by simp) hq) hs
   | panic ch => exact post _ _ _ _ _ (h2 _ _ _ (by simp) hq) hs
   | outgrown => exact post _ _ _ _ _ (h2 _ _ _ (by simp) hq) hs
 | cond cnd x y ihx ihy =>
  intro hc c0 c e H a Q Q' h hn sat post
  simp only [codeOK, Bool.and_eq_true] at hc
  simp only [wpG] at h
  have hr := rdO_reads hX sat cnd
  split at h
  ·rename_i b hb
   rw [hb] at hr
   have h := hM.md.br h
   exact wpIn_cond_split hr (fun e => ihx hc.1 (h.1 e) hn sat post) (fun e => ihy hc.2 (h.2 e) hn sat post)
  ·exact (hM.md.fail h).elim
 | block id b ih =>
  intro hc c0 c e H a Q Q' h hn sat post
  simp only [codeOK] at hc
  simp only [wpG] at h
  refine wpIn_block (ih hc h hn sat fun x' e' H' c' a' hq hs => ?_)
  cases x' with
  | exit i =>
   simp only at hq
   cases hb : Nat.beq i id with
   | true => rw [hb] at hq; rw [Nat.beq_eq] at hb; simp only [Exit.inBlock, hb, if_true]; exact post _ _ _ _ _ hq hs
   | false =>
    rw [hb] at hq
    have : i ≠ id := fun e => by subst e; simp at hb
    simp only [Exit.inBlock, this, if_false]
    exact post _ _ _ _ _ hq hs
  | normal => exact post _ _ _ _ _ hq hs
  | goto l => exact post _ _ _ _ _ hq hs
  | ret => exact post _ _ _ _ _ hq hs
  | panic ch => exact post _ _ _ _ _ hq hs
  | outgrown => exact post _ _ _ _ _ hq hs
 | loop b ih =>
  intro hc c0 c e H a Q Q' h hn sat post
  simp only [codeOK] at hc
  simp only [wpG] at h
  obtain ⟨α, S, ok, μ, Qm, ⟨y0, h0, hle0⟩, hround⟩ := hM.loop h
  obtain ⟨c1, hs1, hw1⟩ := hle0 hn sat
  rw [<- hw1]
  refine wpIn_loop_ghost (fun y a w => ok y /\ ∃ c', Sat X N c0 (S y).1 (S y).2 c' a /\ c'.w = w) μ y0 ⟨h0, c1, hs1, rfl⟩ fun y a w ⟨hy, c', hs, hw⟩ => ?_
  rw [<- hw]
  obtain ⟨k1, k2, k3⟩ := hround y hy
  refine ih hc k1 hn hs fun x' e' H' c2 a' hq hs2 => ?_
  cases x' with
  | normal =>
   obtain ⟨z, hz, hlt, hle⟩ := k3 _ _ hq
   obtain ⟨c3, hs3, hw3⟩ := hle hn hs2
   exact ⟨z, ⟨hz, c3, hs3, hw3⟩, hlt⟩
  | exit id => exact post _ _ _ _ _ (k2 _ _ _ (by simp) hq) hs2
  | goto l => exact post _ _ _ _ _ (k2 _ _ _ (by simp) hq) hs2
  | ret => exact post _ _ _ _ _ (k2 _ _ _ (by simp) hq) hs2
  | panic ch => exact post _ _ _ _ _ (k2 _ _ _ (by simp) hq) hs2
  | outgrown => exact post _ _ _ _ _ (k2 _ _ _ (by simp) hq) hs2
 | rangeFunc g ps asg body ih1 ih2 =>
  intro hc c0 c e H a Q Q' h hn sat post
  rcases hρ with rfl | hf
  ·exact range_sound hX hM hc h sat post
  ·exfalso
   simp only [wpG] at h
   split at h
   ·obtain ⟨fn, code, _, _, hK⟩ := hM.ent h
    rename_i n _ _ _ _
    cases hb : Nat.ble (n + 1) fn.ntmps with
    | false => rw [hb] at hK; exact hM.md.fail hK
    | true => rw [hb, hf] at hK; exact hM.md.fail hK
   ·exact hM.md.fail h
 | _ => intro hc; simp [codeOK] at hc
end
end Go.Fx
