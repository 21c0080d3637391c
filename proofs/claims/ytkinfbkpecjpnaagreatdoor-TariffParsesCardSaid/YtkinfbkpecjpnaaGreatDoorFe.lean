/-
 The symbolic reader, part 5: the rule of functions; running code on known values.
-/
import Derived.Test.YtkinfbkpecjpnaaGreatDoorFd
set_option linter.all false
/-
 A function's contract from the reading of its code.
-/
namespace Go.Fx
open Go.RowKit
def frzL : List Nat -> List HObj -> List HObj
 | [], H => H
 | k :: F, H => frzL F (H.set k .dead)
theorem frzL_len : ∀ (F : List Nat) (H : List HObj), (frzL F H).length = H.length
 | [], H => rfl
 | k :: F, H => by simp [frzL, frzL_len F]
theorem Tr.freezes : ∀ (F : List Nat) {c : Cfg}, c.Ok -> ∃ I', Tr c ⟨c.g, I', c.w, frzL F c.H⟩ /\ ∀ k ∈ F, ∀ o b, c.H[k]? = some o -> blk c.g k o = some b -> ∀ p, I' b p
 | [], c, hok => ⟨c.I, .refl hok, by simp⟩
 | k :: F, c, hok => by
  cases hk : c.H[k]? with
  | none =>
   obtain ⟨I', t, h⟩ := Tr.freezes F hok
   have e : c.H.set k .dead = c.H := List.set_eq_of_length_le (List.getElem?_eq_none_iff.1 hk)
   refine ⟨I', by simp only [frzL, e]; exact t, fun q hq o b ho hb => ?_⟩
   rcases List.mem_cons.1 hq with rfl | hq
   ·rw [hk] at ho; cases ho
   ·exact h q hq o b ho hb
  | some o =>
   have t1 := Tr.freeze hok hk
   obtain ⟨I', t, h⟩ := Tr.freezes F t1.ok
   refine ⟨I', t1.trans t, fun q hq o' b ho hb p => ?_⟩
   by_cases hqk : q = k
   ·subst hqk
    rw [hk] at ho
    cases ho
    exact (t.keep b p (.inr hb)).1
   ·rcases List.mem_cons.1 hq with rfl | hq
    ·exact absurd rfl hqk
    ·exact h q hq o' b (by show (c.H.set k .dead)[q]? = _; rw [List.getElem?_set_ne (fun e => hqk e.symm)]; exact ho) hb p
inductive LeOH (G : List HObj) : HObj -> HObj -> Prop where
 | le {o o' : HObj} (h : LeO o o') : LeOH G o o'
 | box {a b : List AV} (h : AllLeH G a b) : LeOH G (.box a) (.box b)
theorem LeO.boxes {a b : List AV} (h : AllLe a b) : LeO (.box a) (.box b) := .box h.len.symm fun j x y hx hy => h.at j x y hx hy
theorem LeOH.blk {G : List HObj} {g : Nat -> GO} {k : Nat} {o o' : HObj} (h : LeOH G o o') : Fx.blk g k o' = Fx.blk g k o \/ Fx.blk g k o' = none := by
 cases h with
 | le h => exact h.blk
 | box h => exact .inl rfl
def LeOHs (G H' : List HObj) (σ : Nat -> Nat) : List Nat -> List HObj -> Prop
 | [], [] => True
 | k :: ks, L :: Ls => (match H'[k]? with | some o => LeOH G o (renO σ L) | none => False) /\ LeOHs G H' σ ks Ls
 | _, _ => False
theorem LeOHs.spec {G H' : List HObj} {σ : Nat -> Nat} : ∀ {ks : List Nat} {Ls : List HObj}, LeOHs G H' σ ks Ls -> ks.length = Ls.length /\ ∀ (j k : Nat) L, ks[j]? = some k -> Ls[j]? = some L -> ∃ o, H'[k]? = some o /\ LeOH G o (renO σ L)
 | [], [], _ => ⟨rfl, fun j k L h => by simp at h⟩
 | k :: ks, L :: Ls, ⟨h0, h⟩ => by
  obtain ⟨h1, h2⟩ := h.spec
  refine ⟨by simp [h1], fun j k' L' hk hL => ?_⟩
  cases j with
  | zero =>
   simp at hk hL
   subst hk hL
   split at h0
   ·rename_i o ho; exact ⟨o, ho, h0⟩
   ·exact h0.elim
  | succ j => exact h2 j k' L' (by simpa using hk) (by simpa using hL)
def resList (X : Ctx) (env : Env) (H : List HObj) : List ResultVar -> Option (List AV)
 | [] => some []
 | .tmp t :: rs => match resList X env H rs with | some l => some (look env t :: l) | none => none
 | .cell a t :: rs =>
  match look env a, resList X env H rs with
  | .ptr k off, some l =>
   match H[k]?, X.T t with
   | some (.box cells), some i => bif Nat.ble (off + i.size) cells.length then some (partAV i (fun j => cells.getD j .any) off :: l) else none
   | _, _ => none
  | _, _ => none
def tupAV : List AV -> AV
 | [v] => v
 | l => .tup l.length (fun j => l.getD j .any)
inductive Ends (X : Ctx) (rs : List ResultVar) (n0 : Nat) (r : AV) (L' : List HObj) (env : Env) (H : List HObj) : Prop where
 | mk (keep F : List Nat) (l : List AV) (hl : resList X env H rs = some l)
   (hv : LeH (only F H) (tupAV l) (ren (numOf (List.range n0 ++ keep)) r))
   (ho : LeOHs (only F H) (frzL F H) (numOf (List.range n0 ++ keep)) (List.range n0 ++ keep) L')
   (hu : ((L'.all (·.under L'.length)) && (r.under L'.length && nodupB (List.range n0 ++ keep))) = true)
theorem nodupB_spec : ∀ {l : List Nat}, nodupB l = true -> l.Nodup
 | [], _ => List.nodup_nil
 | x :: xs, h => by
  simp only [nodupB, Bool.and_eq_true, Bool.not_eq_true', List.contains_eq_mem, decide_eq_false_iff_not] at h
  exact List.nodup_cons.2 ⟨h.1, nodupB_spec h.2⟩
section
variable {X : Ctx}
theorem results_run (hX : X.Good) {N : Nat} {c0 c : Cfg} {env : Env} {H : List HObj} {a : Act} (sat : Sat X N c0 env H c a) {fn : Func} {l : List AV} (h : resList X env H fn.results.toList = some l) :
  ∃ v, (results fn a.tmps).run X.P c.w = .ok v c.w /\ c.Reads (tupAV l) v := by
 have key : ∀ (rs : List ResultVar) (l : List AV), resList X env H rs = some l ->
   ∃ vs : List Value, (rs.mapM (resOf a.tmps)).run X.P c.w = .ok vs c.w /\ vs.length = l.length /\
    ∀ (j : Nat) av, l[j]? = some av -> ∃ v, vs[j]? = some v /\ c.Reads av v := by
  intro rs
  induction rs with
  | nil => intro l h; simp only [resList, Option.some.injEq] at h; subst h; exact ⟨[], rfl, rfl, by simp⟩
  | cons r rs ih =>
   intro l h
   have cons : ∀ {av : AV} {v : Value} {l' : List AV}, l = av :: l' -> resList X env H rs = some l' -> c.Reads av v ->
     (resOf a.tmps r).run X.P c.w = .ok v c.w ->
     ∃ vs : List Value, ((r :: rs).mapM (resOf a.tmps)).run X.P c.w = .ok vs c.w /\ vs.length = l.length /\
      ∀ (j : Nat) av, l[j]? = some av -> ∃ v, vs[j]? = some v /\ c.Reads av v := by
    intro av v l' hl hl' hr hrun
    obtain ⟨vs, h1, h2, h3⟩ := ih l' hl'
    subst hl
    refine ⟨v :: vs, ?_, by simp [h2], fun j b hj => ?_⟩
    ·simp only [List.mapM_cons, Sem.run_bind, hrun, Result.andThen_ok, h1, Sem.run_pure]
    ·cases j with
     | zero => simp at hj; subst hj; exact ⟨v, rfl, hr⟩
     | succ j => simpa using h3 j b (by simpa using hj)
   cases r with
   | tmp t =>
    simp only [resList] at h
    split at h
    ·rename_i l' hl'
     cases h
     exact cons rfl hl' (sat.env t) (by simp [Act.eval, resOf])
    ·cases h
   | cell q t =>
    simp only [resList] at h
    split at h
    ·rename_i k off l' hq hl'
     split at h
     ·rename_i cells i hk hi
      cases hb : Nat.ble (off + i.size) cells.length with
      | false => rw [hb] at h; cases h
      | true =>
       rw [hb] at h
       cases h
       have hn := Nat.le_of_ble_eq_true hb
       have hrd := sat.env q
       rw [hq] at hrd
       obtain ⟨_, _, hrd⟩ := hrd
       have hrd : a.tmps.getD q undef = _ := hrd
       have hk : c.H[k]? = some (.box cells) := by rw [sat.own]; exact hk
       obtain ⟨xs, x1, x2, x3⟩ := box_cells sat.tr.ok hk hn
       have hti := hX.types t i hi
       refine cons rfl hl' (partAV_reads (get := fun j => cells.getD j .any) (off := off) (m := c.H.length) hti.one x1 x3) ?_
       simp only [resOf, hrd, asAddr, Sem.run_bind, Sem.run_pure, Result.andThen_ok]
       exact hti.run_loadVar x1 x2
     ·cases h
    ·cases h
 obtain ⟨vs, h1, h2, h3⟩ := key _ l h
 have hrun : (fn.results.mapM (resOf a.tmps)).run X.P c.w = .ok vs.toArray c.w := by
  rw [Array.mapM_eq_mapM_toList]
  simp only [Sem.run_map, h1]
  rfl
 refine ⟨if h : vs.toArray.size = 1 then vs.toArray[0] else .tuple vs.toArray, ?_, ?_⟩
 ·rw [results_eq]
  simp only [Sem.run_bind, hrun, Result.andThen_ok]
  rfl
 ·match l, vs, h2 with
  | [v], [x], _ => obtain ⟨y, y1, y2⟩ := h3 0 v rfl; simp at y1; subst y1; simpa [tupAV] using y2
  | [], [], _ => exact ⟨#[], rfl, rfl, fun j hj => by simp at hj⟩
  | a1 :: a2 :: l, b1 :: b2 :: vs, h2 =>
   refine ⟨(b1 :: b2 :: vs).toArray, by simp, by simpa using h2, fun j hj => ?_⟩
   obtain ⟨x, x1, x2⟩ := h3 j ((a1 :: a2 :: l)[j]'hj) (List.getElem?_eq_getElem hj)
   refine ⟨x, by rw [<- Array.getElem?_toList]; exact x1, ?_⟩
   show Reads c.g c.I c.w ((a1 :: a2 :: l).getD j .any) c.H.length x
   rw [List.getD_eq_getElem?_getD, List.getElem?_eq_getElem hj]
   exact x2
theorem numOf_range {n0 : Nat} {keep : List Nat} {k : Nat} (h : k < n0) : numOf (List.range n0 ++ keep) k = k := by
 unfold numOf
 rw [List.getD_eq_getElem?_getD, List.getElem?_append_left (by simpa using h)]
 simp [h]
theorem freeze_sound {N : Nat} {c0 c : Cfg} {env : Env} {H L' : List HObj} {a : Act} (sat : Sat X N c0 env H c a) {keep F : List Nat}
  (ho : LeOHs (only F H) (frzL F H) (numOf (List.range c0.H.length ++ keep)) (List.range c0.H.length ++ keep) L') (u1 : (L'.all (·.under L'.length)) = true) (u3 : nodupB (List.range c0.H.length ++ keep) = true) :
  ∃ c', c'.w = c.w /\ Tr c0 c' /\ Base X c' /\ c'.H = L' /\ ∀ {u r : AV} {v : Value}, c.Reads u v -> LeH (only F H) u (ren (numOf (List.range c0.H.length ++ keep)) r) -> r.under L'.length = true -> c'.Reads r v := by
 have hd := nodupB_spec u3
 obtain ⟨I', tf, hF⟩ := Tr.freezes F sat.tr.ok
 have hI : ∀ b o, c.I b o -> I' b o := fun b o h => (tf.keep b o h).1
 obtain ⟨s1, s2⟩ := ho.spec
 generalize hσ : numOf (List.range c0.H.length ++ keep) = σ at *
 have hlen : L'.length = c0.H.length + keep.length := by rw [<- s1]; simp
 have hown : ∀ (k e es n : Nat) (f : Nat -> Nat -> AV) (ver : Nat), (only F H)[k]? = some (HObj.list e es n f ver) -> c.H[k]? = some (HObj.list e es n f ver) := fun k e es n f ver hk => by rw [sat.own]; exact (only_list hk).1
 have hfr : ∀ (k e es n : Nat) (f : Nat -> Nat -> AV) (ver b : Nat), (only F H)[k]? = some (HObj.list e es n f ver) -> vblk (c.g k).v = some b -> ∀ o, I' b o := fun k e es n f ver b hk hb o =>
  hF k (only_list hk).2 (.list e es n f ver) b (hown k e es n f ver hk) hb o
 have rd : ∀ {a b : AV} {v : Value}, LeH (only F H) a b -> c.Reads a v -> Reads c.g I' c.w b c.H.length v := fun h hr => h.reads sat.tr.ok hown hI hfr hr
 let c1 : Cfg := ⟨c.g, I', c.w, frzL F c.H⟩
 have t1 : Tr c0 c1 := sat.tr.trans tf
 have hl1 : c1.H.length = c.H.length := frzL_len F c.H
 -- each kept block, as it was
 have obj : ∀ (k : Nat) L, L'[k]? = some L -> ∃ o, c1.H[σ k]? = some o /\ LeOH (only F H) o (renO σ L) := fun k L hk => by
  have hlt := (List.getElem?_eq_some_iff.1 hk).1
  have hk2 : (List.range c0.H.length ++ keep)[k]? = some (σ k) := by rw [<- hσ]; exact numOf_get (by rw [s1]; exact hlt)
  obtain ⟨o, o1, o2⟩ := s2 k (σ k) L hk2 hk
  exact ⟨o, by show (frzL F c.H)[σ k]? = _; rw [sat.own]; exact o1, o2⟩
 have hok1 := t1.ok
 have holds : ∀ {k : Nat} {o o' : HObj}, c1.H[k]? = some o -> LeOH (only F H) o o' -> Holds c.g I' c.w c1.H.length k o' := fun {k o o'} hk hle => by
  have h0 := hok1.obj k o hk
  cases hle with
  | le h => exact h.holds h0
  | box h =>
   rename_i x y
   -- the block of the box is as it was: read it in c
   have hkF : c.H[k]? = some (.box x) := by
    have gen : ∀ (F : List Nat) (H : List HObj), (frzL F H)[k]? = some (.box x) -> H[k]? = some (.box x) := by
     intro F
     induction F with
     | nil => intro H h; exact h
     | cons q F ih =>
      intro H h
      have := ih _ h
      by_cases e : q = k
      ·subst e
       rw [List.getElem?_set] at this
       simp at this
      ·rwa [List.getElem?_set_ne e] at this
    exact gen F c.H hk
   obtain ⟨p0, cs, T, p1, p2, p3⟩ := sat.tr.ok.obj k _ hkF
   refine ⟨p0, cs, T, p1, by rw [p2, h.len], fun j av hj => ?_⟩
   have hlt := (List.getElem?_eq_some_iff.1 hj).1
   have hlx := h.len
   obtain ⟨z, z1, z2, z3⟩ := p3 j _ (List.getElem?_eq_getElem (show j < x.length by omega))
   refine ⟨z, z1, z2, ?_⟩
   have := rd (h.at j _ av (List.getElem?_eq_getElem (by omega)) hj) z3
   rw [hl1]
   exact this
 have bk : ∀ {k : Nat} {L : HObj} {b : Nat}, L'[k]? = some L -> blk (fun i => c.g (σ i)) k L = some b -> ∃ o, c1.H[σ k]? = some o /\ blk c.g (σ k) o = some b := fun {k L b} hk hb => by
  obtain ⟨o, o1, o2⟩ := obj k L hk
  have e : blk c.g (σ k) (renO σ L) = blk (fun i => c.g (σ i)) k L := blk_renO (fun i => c.g (σ i)) c.g σ k L rfl
  rcases o2.blk (g := c.g) (k := σ k) with e2 | e2
  ·exact ⟨o, o1, by rw [<- e2, e]; exact hb⟩
  ·rw [e, hb] at e2; cases e2
 have inj : ∀ {i j : Nat}, i < L'.length -> j < L'.length -> i ≠ j -> σ i ≠ σ j := fun {i j} hi hj hne e => hne (by
  rw [<- hσ] at e
  exact numOf_inj hd (by rw [s1]; exact hi) (by rw [s1]; exact hj) e)
 have small : ∀ k, k < c0.H.length -> σ k = k := fun k hk => by rw [<- hσ]; exact numOf_range hk
 have htr : Tr c0 ⟨fun i => c.g (σ i), I', c.w, L'⟩ := by
  refine ⟨⟨fun k L hk => ?_, fun i j oi oj b hi hj hne hbi hbj => ?_, fun k L b hk hb => ?_, hok1.imm, fun b o k L hI hk hb => ?_⟩, ?_, fun k hk => ?_, t1.keep, t1.new, fun b ⟨k, L, hk, hb⟩ => ?_, t1.os, t1.tape, t1.output, t1.size, t1.block⟩
  ·obtain ⟨o, o1, o2⟩ := obj k L hk
   exact ren_holds (g' := c.g) (m' := c1.H.length) (r := σ) (fun _ _ => rfl) (List.getElem?_eq_some_iff.1 hk).1 (List.all_eq_true.1 u1 L (List.mem_of_getElem? hk)) (holds o1 o2)
  ·obtain ⟨o1, p1, p2⟩ := bk hi hbi
   obtain ⟨o2, q1, q2⟩ := bk hj hbj
   exact hok1.apart (σ i) (σ j) o1 o2 b p1 q1 (inj (List.getElem?_eq_some_iff.1 hi).1 (List.getElem?_eq_some_iff.1 hj).1 hne) p2 q2
  ·obtain ⟨o1, p1, p2⟩ := bk hk hb
   exact hok1.old (σ k) o1 b p1 p2
  ·obtain ⟨o1, p1, p2⟩ := bk hk hb
   exact hok1.immApart b o (σ k) o1 hI p1 p2
  ·show c0.H.length <= L'.length
   omega
  ·show (0 < (c0.g k).ver -> (c.g (σ k)).b = (c0.g k).b) /\ (c0.g k).ver <= (c.g (σ k)).ver /\ ((c.g (σ k)).ver = (c0.g k).ver -> (c.g (σ k)).v = (c0.g k).v)
   rw [small k hk]
   exact t1.places k hk
  ·obtain ⟨o1, p1, p2⟩ := bk hk hb
   exact t1.own b ⟨σ k, o1, p1, p2⟩
 refine ⟨⟨fun i => c.g (σ i), I', c.w, L'⟩, rfl, htr, ⟨sat.base.below, fun b o hb => hI b o (sat.base.imm b o hb), fun b ⟨k, L, hk, hb⟩ => ?_⟩, rfl, fun {u r v} hr hv u2 => ?_⟩
 ·obtain ⟨o1, p1, p2⟩ := bk hk hb
  exact (sat.base.tr tf).own b ⟨σ k, o1, p1, p2⟩
 ·have := rd hv hr
  exact reads_ren (g := fun i => c.g (σ i)) (g' := c.g) (m' := c.H.length) (r := σ) (fun _ _ => rfl) r v u2 this
theorem Ends.sound (hX : X.Good) {N : Nat} {c0 c : Cfg} {env : Env} {H L' : List HObj} {a : Act} {r : AV} {fn : Func} (sat : Sat X N c0 env H c a) (h : Ends X fn.results.toList c0.H.length r L' env H) :
  ∃ v c', (results fn a.tmps).run X.P c.w = .ok v c.w /\ c'.w = c.w /\ Tr c0 c' /\ c'.H = L' /\ c'.Reads r v := by
 obtain ⟨keep, F, l, hl, hv, ho, hu⟩ := h
 obtain ⟨v, hrun, hr⟩ := results_run hX sat hl
 simp only [Bool.and_eq_true] at hu
 obtain ⟨u1, u2, u3⟩ := hu
 obtain ⟨c', h1, h2, _, h3, h4⟩ := freeze_sound sat ho u1 u3
 exact ⟨v, c', hrun, h1, h2, h3, h4 hr hv u2⟩
def EnvLeH (G : List HObj) (σ : Nat -> Nat) (e : Env) : Env -> Prop
 | [] => True
 | (t, v) :: r => LeH G (look e t) (ren σ v) /\ EnvLeH G σ e r
theorem EnvLeH.at {G : List HObj} {σ : Nat -> Nat} {e : Env} : ∀ {r : Env}, EnvLeH G σ e r -> ∀ t, LeH G (look e t) (ren σ (look r t))
 | [], _, t => .le (.any _)
 | (s, v) :: r, ⟨h0, h⟩, t => by
  simp only [look]
  cases hb : Nat.beq s t with
  | true => rw [Nat.beq_eq] at hb; subst hb; exact h0
  | false => exact h.at t
inductive StTo (n0 : Nat) (e : Env) (H : List HObj) (e' : Env) (H' : List HObj) : Prop where
 | le (h : StLe n0 e H e' H')
 | fr (keep F : List Nat) (h1 : ((H'.all (·.under H'.length)) && (e'.all (fun x => x.2.under H'.length) && nodupB (List.range n0 ++ keep))) = true) (h2 : LeOHs (only F H) (frzL F H) (numOf (List.range n0 ++ keep)) (List.range n0 ++ keep) H') (h3 : EnvLeH (only F H) (numOf (List.range n0 ++ keep)) e e')
 | gen (h : ∀ {X : Ctx}, Wk X n0 e H e' H')
theorem StTo.wk {n0 : Nat} {e e' : Env} {H H' : List HObj} (h : StTo n0 e H e' H') : Wk X n0 e H e' H' := by
 cases h with
 | le h => exact h.wk
 | gen h => exact h
 | fr keep F h1 h2 h3 =>
  intro N c0 c a hn sat
  subst hn
  simp only [Bool.and_eq_true] at h1
  obtain ⟨u1, u2, u3⟩ := h1
  obtain ⟨c', k1, k2, k3, k4, k5⟩ := freeze_sound sat h2 u1 u3
  refine ⟨c', ⟨k2, k3, k4, fun t => k5 (sat.env t) (h3.at t) (look_under u2 t), sat.size, by rw [k1]; exact sat.marks⟩, k1⟩
theorem mut_of_wpG (hX : X.Good) {A : Type} {M : Cm A} {T : A -> Prop} (hM : M.Ok X T) {f : FuncId} {fn : Func} {code : Code} {args : List AV} {L L' : List HObj} {r : AV} (hf : FnIs X f fn code) (hp : Nat.ble args.length fn.ntmps = true) {Q : QT A}
  (h : T (wpG M X L.length fn.ntmps code (argEnv args 0) L Q)) (hQ : ∀ x e H, T (Q x e H) -> (x = .normal \/ x = .ret) /\ Ends X fn.results.toList L.length r L' e H) : Mut X f args L r L' := by
 obtain ⟨h1, h2, h3, h4⟩ := hf
 refine ⟨⟨fn, h1, h3, by rw [h2]; rfl⟩, fun c cargs hok hb hL hsz hargs => ?_⟩
 have hp := Nat.le_of_ble_eq_true hp
 refine (callsIn_wide (n := 0)).1 (show CallsIn (FR none) 0 X.P f cargs c.w _ from calls_of_body (c0 := c) (Q := fun x e H => T (Q x e H)) h1 h2 (fun Q' hQ' => ?_) fun x e H hq => ?_)
 ·have sat := Sat.enter (N := fn.ntmps) hok hb hsz hp hargs
  rw [hL] at sat
  exact wpG_sound hX hM (.inl rfl) code h4 h (by rw [hL]) sat fun x env' H' c' a' hq hs => hQ' x env' H' c' a' hq hs
 ·obtain ⟨hx, he⟩ := hQ x e H hq
  refine ⟨hx, fun c' a' sat _ => ?_⟩
  rw [<- hL] at he
  obtain ⟨v, c2, q1, q2, q3, q4, q5⟩ := he.sound hX sat
  exact ⟨v, q1, v, c2, rfl, q2, q3, q4, q5⟩
end
/-! ### Reading for whatever values -/
def dynOp (o : Oper) : Bool := match o.op with | .call cl => (match cl.callee with | .value (.tmp _) => true | _ => false) | _ => false
def symReg (X : Ctx) (sub : SubT Prop) (draw : Bool) (ops : Array Oper) (e : Env) (H : List HObj) (K : Env -> List HObj -> Prop) : Prop :=
 bif draw then regEv X (look e) ops.toList [] H fun done H' => footOK ops done.reverse = true /\ outK done e fun e => K e H'
 else bif ops.toList.any dynOp then seqEv (symM X) X sub ops.toList ops.toList e H K
 else regEv X (look e) ops.toList [] H fun done H' => outK done e fun e => K e H'
inductive Cut (a b : Prop) : Prop where
 | go (h : a) : Cut a b
 | cut (h : b) : Cut a b
def symC (X : Ctx) (sub fsub : SubT Prop) : Cm Prop := { symM X with
 reg := symReg X sub
 cut := fun n0 fa fb Q => Cut (fa (thenQ fb Q)) (∃ (α : Type) (S : α -> Env × List HObj) (ok : α -> Prop), fa (thenQ (fun e' H' => ∃ y, ok y /\ StTo n0 e' H' (S y).1 (S y).2) Q) /\ ∀ y, ok y -> fb (S y).1 (S y).2)
 loop := fun n0 fb e H Q => ∃ (α : Type) (S : α -> Env × List HObj) (ok : α -> Prop) (μ : α -> Nat), (∃ y, ok y /\ StTo n0 e H (S y).1 (S y).2) /\
  ∀ y, ok y -> fb (S y).1 (S y).2 (thenQ (fun e' H' => ∃ z, ok z /\ μ z < μ y /\ StTo n0 e' H' (S z).1 (S z).2) Q)
 ent := fun f K => ∃ fn code, FnIs X f fn code /\ fn.results.isEmpty = true /\ K fn.ntmps code
 fsub := fsub }
def noSub : SubT Prop := fun _ _ _ _ _ _ => False
def sym0 (X : Ctx) : Cm Prop := symC X noSub noSub
def sym1 (X : Ctx) : Cm Prop := symC X (fun N n0 => wpG (sym0 X) X n0 N) noSub
def sym2 (X : Ctx) : Cm Prop := symC X noSub (fun N n0 => wpG (sym1 X) X n0 N)
section
variable {X : Ctx}
theorem noSub_ok : SubOK X (fun p : Prop => p) noSub := fun _ _ _ _ _ _ _ h => h.elim
theorem symC_ok (hX : X.Good) {sub fsub : SubT Prop} (h1 : SubOK X (fun p : Prop => p) sub) (h2 : SubOK X (fun p : Prop => p) fsub) : (symC X sub fsub).Ok X (fun p : Prop => p) := {
 md := symM_ok
 reg := by
  intro N id ops draw e H K hs h c0 c a Q' ρ sat post
  have h : symReg X sub draw ops e H K := h
  unfold symReg at h
  have hd : ∀ (j : Nat) (o : Oper) d, ops[j]? = some o -> o.dst = some d -> d < N := fun j o d ho hd => by
   simp only [regOK, Bool.and_eq_true] at hs
   have := List.all_eq_true.1 hs.1.2 d (List.mem_filterMap.2 ⟨o, by simpa using Array.mem_of_getElem? ho, hd⟩)
   rwa [Nat.blt_eq] at this
  cases draw with
  | true =>
   simp only [cond_true, outK_eq] at h
   exact region_sound (Q := K) hX hs h sat post ρ
  | false =>
   simp only [cond_false] at h
   cases hy : ops.toList.any dynOp with
   | true =>
    rw [hy] at h
    simp only [cond_true] at h
    refine wpIn_region ?_
    rw [List.range_eq_range']
    have := seq_sound hX symM_ok h1 hd ρ post ops.toList 0 e H c a rfl h sat
    rw [Array.length_toList] at this
    exact this
   | false =>
    rw [hy] at h
    simp only [cond_false, outK_eq] at h
    exact region_sound (Q := K) hX hs h sat post ρ
 cut := by
  intro n0 fa fb Q h
  rcases h with h | ⟨α, S, ok, h1, h2⟩
  ·exact ⟨_, h, fun x e H hx hq => by cases x <;> first | exact absurd rfl hx | exact hq, fun e H hq => ⟨e, H, Wk.refl, hq⟩⟩
  ·exact ⟨_, h1, fun x e H hx hq => by cases x <;> first | exact absurd rfl hx | exact hq, fun e H ⟨y, hy, hs⟩ => ⟨_, _, hs.wk, h2 y hy⟩⟩
 loop := by
  intro n0 fb e H Q h
  obtain ⟨α, S, ok, μ, ⟨y0, h0, hs0⟩, h⟩ := h
  exact ⟨α, S, ok, μ, _, ⟨y0, h0, hs0.wk⟩, fun y hy => ⟨h y hy, fun x e H hx hq => by cases x <;> first | exact absurd rfl hx | exact hq, fun e H ⟨z, hz, hlt, hs⟩ => ⟨z, hz, hlt, hs.wk⟩⟩⟩
 ent := fun h => h
 fsub := h2 }
theorem sym0_ok (hX : X.Good) : (sym0 X).Ok X (fun p : Prop => p) := symC_ok hX noSub_ok noSub_ok
theorem sym0_sub (hX : X.Good) : SubOK X (fun p : Prop => p) (fun N n0 => wpG (sym0 X) X n0 N) := fun N n0 code hc e H Q h c0 c a Q' ρ hn sat post =>
 wpG_sound hX (sym0_ok hX) (.inr rfl) code hc h hn sat post
theorem sym1_ok (hX : X.Good) : (sym1 X).Ok X (fun p : Prop => p) := symC_ok hX (sym0_sub hX) noSub_ok
theorem sym1_sub (hX : X.Good) : SubOK X (fun p : Prop => p) (fun N n0 => wpG (sym1 X) X n0 N) := fun N n0 code hc e H Q h c0 c a Q' ρ hn sat post =>
 wpG_sound hX (sym1_ok hX) (.inr rfl) code hc h hn sat post
theorem sym2_ok (hX : X.Good) : (sym2 X).Ok X (fun p : Prop => p) := symC_ok hX noSub_ok (sym1_sub hX)
theorem mut_of (hX : X.Good) {f : FuncId} {fn : Func} {code : Code} {args : List AV} {L L' : List HObj} {r : AV} (hf : FnIs X f fn code) (hp : Nat.ble args.length fn.ntmps = true)
  (h : wpG (sym2 X) X L.length fn.ntmps code (argEnv args 0) L fun x e H => match x with | .normal => Ends X fn.results.toList L.length r L' e H | .ret => Ends X fn.results.toList L.length r L' e H | _ => False) : Mut X f args L r L' :=
 mut_of_wpG hX (sym2_ok hX) hf hp h fun x e H hq => by
  cases x with
  | normal => exact ⟨.inl rfl, hq⟩
  | ret => exact ⟨.inr rfl, hq⟩
  | _ => exact hq.elim
end
end Go.Fx
/-
 What the reading needs to know of the program's types, computed from the program.
-/
namespace Go.Fx
open Go.RowKit
def kindOf : TypeDesc -> TK
 | .struct F => .struct (F.toList.map fun f => (f.offset, f.type))
 | .array n e => .array n e
 | .slice e => .slice e
 | .string => .string
 | .int k => .int k
 | .bool => .bool
 | .interface _ => .ifc
 | _ => .other
def cmpOf (P : Program) (t : TypeId) : Bool :=
 match P.underlying t with
 | some (.struct F) => !(P.stoodInHeld t) && !(P.eqGuardType P.depth t) && F.toList.all fun f => f.name != "_"
 | some (.array _ _) => !(P.stoodInHeld t) && !(P.eqGuardType P.depth t)
 | _ => false
def tiOf (P : Program) (t : TypeId) : Option TI :=
 match P.info? t, P.underlying t with
 | some info, some d =>
  match info.zero with
  | some z =>
   let i : TI := ⟨kindOf d, info.size, info.bytes, z.cells.toList, cmpOf P t⟩
   bif Nat.beq i.zero.length i.size && (i.zero.all (·.oneCell')) && (i.isAgg || Nat.beq i.size 1) then some i else none
  | none => none
 | _, _ => none
theorem kindOf_fits (d : TypeDesc) : (kindOf d).fits d := by
 cases d <;> first | exact ⟨_, rfl, rfl⟩ | exact ⟨_, rfl⟩ | exact rfl | (refine ⟨fun F h => ?_, fun n e h => ?_⟩ <;> cases h)
theorem tiOf_ok {P : Program} {t : TypeId} {i : TI} (h : tiOf P t = some i) : TIok P t i := by
 unfold tiOf at h
 split at h
 ·rename_i info d hinfo hd
  split at h
  ·rename_i z hz
   simp only at h
   generalize hc : (Nat.beq z.cells.toList.length info.size && (z.cells.toList.all (·.oneCell')) && (TI.isAgg ⟨kindOf d, info.size, info.bytes, z.cells.toList, cmpOf P t⟩ || Nat.beq info.size 1)) = b at h
   cases b with
   | false => cases h
   | true =>
    simp only [cond_true, Option.some.injEq] at h
    subst h
    simp only [Bool.and_eq_true, Nat.beq_eq, List.all_eq_true, Bool.or_eq_true] at hc
    obtain ⟨⟨h1, h2⟩, h3⟩ := hc
    refine ⟨⟨info, z, hinfo, rfl, rfl, hz, rfl⟩, ⟨d, hd, kindOf_fits d⟩, fun ha => ?_, h1, h2, fun hcmp => ?_⟩
    ·rcases h3 with h3 | h3
     ·rw [ha] at h3; cases h3
     ·exact h3
    ·simp only [cmpOf] at hcmp
     split at hcmp
     ·rename_i F hF
      simp only [Bool.and_eq_true, Bool.not_eq_true', List.all_eq_true, bne_iff_ne] at hcmp
      obtain ⟨⟨c1, c2⟩, c3⟩ := hcmp
      refine ⟨c1, c2, fun F' hF' f hf => ?_⟩
      rw [hF] at hF'
      cases hF'
      exact c3 f hf
     ·rename_i k e hF
      simp only [Bool.and_eq_true, Bool.not_eq_true'] at hcmp
      refine ⟨hcmp.1, hcmp.2, fun F' hF' f hf => ?_⟩
      rw [hF] at hF'
      cases hF'
     ·cases hcmp
  ·cases h
 ·cases h
def tabOK (P : Program) (tab : List (Option TI)) : Prop := tab = (List.range tab.length).map (tiOf P)
theorem tabOK.at {P : Program} {tab : List (Option TI)} (h : tabOK P tab) {t : TypeId} {i : TI} (ht : tab.getD t none = some i) : TIok P t i := by
 refine tiOf_ok ?_
 rw [List.getD_eq_getElem?_getD] at ht
 have hx : tab[t]? = some (some i) := by
  cases hx : tab[t]? with
  | none => rw [hx] at ht; cases ht
  | some o => rw [hx] at ht; simp at ht; rw [ht]
 have hlt := (List.getElem?_eq_some_iff.1 hx).1
 unfold tabOK at h
 rw [h, List.getElem?_map, List.getElem?_range hlt] at hx
 simpa using hx
end Go.Fx
/-
 Running code on known values: normal forms, told as what is handed on.
-/
namespace Go.Fx
open Go.RowKit
theorem Le.trans {a b c : AV} (h1 : Le a b) (h2 : Le b c) : Le a c := by
 induction h2 generalizing a with
 | refl => exact h1
 | any => exact .any _
 | slc0 es f => cases h1 with | refl => exact .slc0 es f
 | agg _ ih => cases h1 with
  | refl => exact .agg fun j hj => ih j hj (.refl _)
  | agg h => exact .agg fun j hj => ih j hj (h j hj)
 | tup _ ih => cases h1 with
  | refl => exact .tup fun j hj => ih j hj (.refl _)
  | tup h => exact .tup fun j hj => ih j hj (h j hj)
 | slc h ih => cases h1 with
  | refl => exact .slc fun i j hi hj => ih i j hi hj (.refl _)
  | slc0 es f => exact .slc0 _ _
  | slc h' => exact .slc fun i j hi hj => ih i j hi hj (h' i j hi hj)
  | nilf es f g => exact .nilf _ _ _
 | nilf es f g => cases h1 with
  | refl => exact .nilf _ _ _
  | slc0 => exact .slc0 _ _
  | slc h' => exact .nilf _ _ _
  | nilf => exact .nilf _ _ _
 | fn _ ih => cases h1 with
  | refl => exact .fn fun j hj => ih j hj (.refl _)
  | fn h => exact .fn fun j hj => ih j hj (h j hj)
theorem Le.ren {a b : AV} (r : Nat -> Nat) (h : Le a b) : Le (Fx.ren r a) (Fx.ren r b) := by
 induction h with
 | refl => exact .refl _
 | any => exact .any _
 | slc0 es f => exact .slc0 es f
 | agg _ ih => exact .agg ih
 | tup _ ih => exact .tup ih
 | slc h _ => exact .slc h
 | nilf es f g => exact .nilf es f g
 | fn _ ih => exact .fn ih
/-! ### Forced numbers and values -/
def forceNat {A : Type} (n : Nat) (K : Nat -> A) : A := match n with | 0 => K 0 | m + 1 => K (Nat.succ m)
theorem forceNat_eq {A : Type} (n : Nat) (K : Nat -> A) : forceNat n K = K n := by cases n <;> rfl
def forceInt {A : Type} (n : Int) (K : Int -> A) : A := match n with | .ofNat m => forceNat m fun m => K (.ofNat m) | .negSucc m => forceNat m fun m => K (.negSucc m)
theorem forceInt_eq {A : Type} (n : Int) (K : Int -> A) : forceInt n K = K n := by cases n <;> simp [forceInt, forceNat_eq]
def nfRow {A : Type} (f : Nat -> (AV -> A) -> A) : Nat -> List AV -> (List AV -> A) -> A
 | 0, acc, K => K acc
 | n + 1, acc, K => f n fun v => nfRow f n (v :: acc) K
theorem nfRow_eq {A : Type} {f : Nat -> (AV -> A) -> A} {g : Nat -> AV} (h : ∀ j K, f j K = K (g j)) : ∀ (n : Nat) (acc : List AV) (K : List AV -> A), nfRow f n acc K = K ((List.range n).map g ++ acc)
 | 0, acc, K => rfl
 | n + 1, acc, K => by
  simp only [nfRow]
  rw [h, nfRow_eq h n, List.range_succ]
  simp
def tbl (l : List AV) (j : Nat) : AV := l.getD j .any
def AV.nf {A : Type} : AV -> (AV -> A) -> A
 | .int k n, K => forceInt n fun n => K (.int k n)
 | .bool b, K => match b with | true => K (.bool true) | false => K (.bool false)
 | .str s, K => K (.str s)
 | .agg n f, K => forceNat n fun n => nfRow (fun j => (f j).nf) n [] fun l => K (.agg n (tbl l))
 | .tup n f, K => forceNat n fun n => nfRow (fun j => (f j).nf) n [] fun l => K (.tup n (tbl l))
 | .fn F n f, K => forceNat n fun n => nfRow (fun j => (f j).nf) n [] fun l => K (.fn F n (tbl l))
 | .ptr k off, K => forceNat k fun k => forceNat off fun off => K (.ptr k off)
 | .lptr k ver es i off, K => forceNat k fun k => forceNat ver fun ver => forceNat i fun i => forceNat off fun off => K (.lptr k ver es i off)
 | .own k ver, K => forceNat k fun k => forceNat ver fun ver => K (.own k ver)
 | .ip n f off, K => K (.ip n f off)
 | .yld k, K => forceNat k fun k => K (.yld k)
 | .slc es n f, K => K (.slc es n f)
 | .slc0, K => K .slc0
 | .ifc, K => K .ifc
 | .val v, K => K (.val v)
 | .any, K => K .any
def AV.nv : AV -> AV
 | .agg n f => .agg n (tbl ((List.range n).map fun i => (f i).nv))
 | .tup n f => .tup n (tbl ((List.range n).map fun i => (f i).nv))
 | .fn F n f => .fn F n (tbl ((List.range n).map fun i => (f i).nv))
 | v => v
theorem AV.nf_eq {A : Type} : ∀ (v : AV) (K : AV -> A), v.nf K = K v.nv := by
 intro v
 induction v with
 | int k n => intro K; simp [AV.nf, AV.nv, forceInt_eq]
 | bool b => intro K; cases b <;> rfl
 | str s => intro K; rfl
 | agg n f ih => intro K; simp only [AV.nf, AV.nv, forceNat_eq]; rw [nfRow_eq (fun j K => ih j K)]; simp
 | tup n f ih => intro K; simp only [AV.nf, AV.nv, forceNat_eq]; rw [nfRow_eq (fun j K => ih j K)]; simp
 | fn F n f ih => intro K; simp only [AV.nf, AV.nv, forceNat_eq]; rw [nfRow_eq (fun j K => ih j K)]; simp
 | ip n f off ih => intro K; rfl
 | ptr k off => intro K; simp [AV.nf, AV.nv, forceNat_eq]
 | lptr k ver es i off => intro K; simp [AV.nf, AV.nv, forceNat_eq]
 | own k ver => intro K; simp [AV.nf, AV.nv, forceNat_eq]
 | yld k => intro K; simp [AV.nf, AV.nv, forceNat_eq]
 | slc es n f => intro K; rfl
 | slc0 => intro K; rfl
 | ifc => intro K; rfl
 | val v => intro K; rfl
 | any => intro K; rfl
theorem tbl_map {n j : Nat} (g : Nat -> AV) (h : j < n) : tbl ((List.range n).map g) j = g j := by
 unfold tbl
 rw [List.getD_eq_getElem?_getD, List.getElem?_map, List.getElem?_range h]
 rfl
theorem AV.le_nv : ∀ (v : AV), Le v v.nv := by
 intro v
 induction v with
 | agg n f ih => exact .agg fun j hj => by rw [tbl_map _ hj]; exact ih j
 | tup n f ih => exact .tup fun j hj => by rw [tbl_map _ hj]; exact ih j
 | fn F n f ih => exact .fn fun j hj => by rw [tbl_map _ hj]; exact ih j
 | _ => exact .refl _
theorem AV.nv_under {m : Nat} : ∀ (v : AV), v.under m = true -> v.nv.under m = true := by
 intro v
 induction v with
 | agg n f ih => intro h; simp only [AV.under, AV.nv, List.all_eq_true, List.mem_range] at h ⊢; exact fun j hj => by rw [tbl_map _ hj]; exact ih j (h j hj)
 | tup n f ih => intro h; simp only [AV.under, AV.nv, List.all_eq_true, List.mem_range] at h ⊢; exact fun j hj => by rw [tbl_map _ hj]; exact ih j (h j hj)
 | fn F n f ih => intro h; simp only [AV.under, AV.nv, List.all_eq_true, List.mem_range] at h ⊢; exact fun j hj => by rw [tbl_map _ hj]; exact ih j (h j hj)
 | _ => intro h; exact h
def bytesK {A : Type} : List UInt8 -> (List UInt8 -> A) -> A
 | [], K => K []
 | b :: l, K => forceNat b.toNat fun n => bytesK l fun l => K (UInt8.ofNat n :: l)
theorem bytesK_eq {A : Type} : ∀ (l : List UInt8) (K : List UInt8 -> A), bytesK l K = K l
 | [], K => rfl
 | b :: l, K => by simp only [bytesK]; rw [forceNat_eq, bytesK_eq l]; simp
def AV.dp {A : Type} (v : AV) (K : AV -> A) : A :=
 match v with
 | .slc es n f => forceNat n fun n => nfRow (fun c => (f (c / es) (c % es)).nf) (n * es) [] fun l => K (.slc es n (fun i j => tbl l (i * es + j)))
 | .str s => bytesK s.data.toList fun l => K (.str ⟨⟨l⟩⟩)
 | v => v.nf K
theorem cell_at {es i j : Nat} (hj : j < es) : (i * es + j) / es = i /\ (i * es + j) % es = j := by
 have h0 : 0 < es := by omega
 rw [Nat.mul_comm]
 exact ⟨by rw [Nat.mul_add_div h0]; simp [Nat.div_eq_of_lt hj], by rw [Nat.mul_add_mod]; exact Nat.mod_eq_of_lt hj⟩
theorem tbl_cells {es n i j : Nat} (f : Nat -> Nat -> AV) (hi : i < n) (hj : j < es) : tbl ((List.range (n * es)).map fun c => (f (c / es) (c % es)).nv) (i * es + j) = (f i j).nv := by
 have h1 : i * es + j < n * es := by
  have : (i + 1) * es <= n * es := Nat.mul_le_mul_right _ hi
  rw [Nat.add_mul] at this
  omega
 rw [tbl_map _ h1]
 obtain ⟨h2, h3⟩ := cell_at (es := es) (i := i) hj
 rw [h2, h3]
theorem AV.dp_eq {A : Type} (v : AV) : ∃ v', Le v v' /\ ∀ (K : AV -> A), v.dp K = K v' := by
 cases v with
 | slc es n f =>
  refine ⟨.slc es n (fun i j => tbl ((List.range (n * es)).map fun c => (f (c / es) (c % es)).nv) (i * es + j)), .slc fun i j hi hj => ?_, fun K => ?_⟩
  ·rw [tbl_cells f hi hj]; exact AV.le_nv _
  ·simp only [AV.dp, forceNat_eq]
   rw [nfRow_eq (g := fun c => (f (c / es) (c % es)).nv) (fun j K => AV.nf_eq _ K)]
   simp
 | str s => exact ⟨.str s, .refl _, fun K => by simp only [AV.dp]; rw [bytesK_eq]⟩
 | _ => exact ⟨_, AV.le_nv _, fun K => AV.nf_eq _ K⟩
/-! ### Owned blocks -/
def AV.wh {A : Type} (v : AV) (K : AV -> A) : A :=
 match v with
 | .int k n => forceInt n fun n => K (.int k n)
 | .bool b => (match b with | true => K (.bool true) | false => K (.bool false))
 | .str s => K (.str s)
 | .agg n f => K (.agg n f)
 | .tup n f => K (.tup n f)
 | .ptr k off => forceNat k fun k => forceNat off fun off => K (.ptr k off)
 | .lptr k ver es i off => forceNat k fun k => forceNat ver fun ver => forceNat i fun i => forceNat off fun off => K (.lptr k ver es i off)
 | .ip n f off => K (.ip n f off)
 | .slc es n f => K (.slc es n f)
 | .slc0 => K .slc0
 | .own k ver => forceNat k fun k => forceNat ver fun ver => K (.own k ver)
 | .fn F n caps => K (.fn F n caps)
 | .ifc => K .ifc
 | .val v => K (.val v)
 | .any => K .any
 | .yld k => forceNat k fun k => K (.yld k)
theorem AV.wh_eq {A : Type} (v : AV) (K : AV -> A) : v.wh K = K v := by
 cases v <;> simp only [AV.wh, forceNat_eq, forceInt_eq]
 rename_i b; cases b <;> rfl
def cellsK {A : Type} : List AV -> (List AV -> A) -> A
 | [], K => K []
 | a :: l, K => a.wh fun a => cellsK l fun l => K (a :: l)
theorem cellsK_eq {A : Type} : ∀ (l : List AV) (K : List AV -> A), cellsK l K = K l
 | [], K => rfl
 | a :: l, K => by simp only [cellsK]; rw [AV.wh_eq, cellsK_eq l]
def HObj.wh {A : Type} (o : HObj) (K : HObj -> A) : A :=
 match o with
 | .box cells => cellsK cells fun cells => K (.box cells)
 | .list e es n f ver => forceNat n fun n => forceNat ver fun ver => K (.list e es n f ver)
 | .dead => K .dead
 | .hole => K .hole
 | .lrec st pend N e ps assign body => K (.lrec st pend N e ps assign body)
 | .iter s pos => forceNat pos fun pos => K (.iter s pos)
 | .last e es n cells ver => forceNat n fun n => forceNat ver fun ver => cellsK cells fun cells => K (.last e es n cells ver)
theorem HObj.wh_eq {A : Type} (o : HObj) (K : HObj -> A) : o.wh K = K o := by cases o <;> simp [HObj.wh, cellsK_eq, forceNat_eq]
def setHK {A : Type} : List HObj -> Nat -> HObj -> (List HObj -> A) -> A
 | [], _, _, K => K []
 | _ :: H, 0, o, K => K (o :: H)
 | x :: H, k + 1, o, K => setHK H k o fun H => K (x :: H)
theorem setHK_eq {A : Type} : ∀ (H : List HObj) (k : Nat) (o : HObj) (K : List HObj -> A), setHK H k o K = K (H.set k o)
 | [], _, _, K => rfl
 | _ :: H, 0, o, K => rfl
 | x :: H, k + 1, o, K => by simp only [setHK]; rw [setHK_eq H]; rfl
def W.putK {A : Type} (w : W) (H : List HObj) (K : List HObj -> A) : A :=
 match w with
 | .set k o => o.wh fun o => setHK H k o K
 | .cells k off l => match H[k]? with | some (.box cs) => cellsK (setCells cs off l) fun cs => setHK H k (.box cs) K | _ => K H
 | .elem k p off l => match H[k]? with | some (.list e es n f ver) => setHK H k (.list e es n (putF p off l f) ver) K | _ => K H
theorem W.putK_eq {A : Type} (w : W) (H : List HObj) (K : List HObj -> A) : w.putK H K = K (w.put H) := by
 cases w with
 | set k o => simp only [W.putK, W.put]; rw [HObj.wh_eq, setHK_eq]
 | cells k off l =>
  simp only [W.putK, W.put]
  cases H[k]? with
  | none => rfl
  | some o => cases o <;> simp [cellsK_eq, setHK_eq]
 | elem k p off l =>
  simp only [W.putK, W.put]
  cases H[k]? with
  | none => rfl
  | some o => cases o <;> simp [setHK_eq]
def putAllK {A : Type} : List W -> List HObj -> (List HObj -> A) -> A
 | [], H, K => K H
 | w :: ws, H, K => w.putK H fun H => putAllK ws H K
theorem putAllK_eq {A : Type} : ∀ (ws : List W) (H : List HObj) (K : List HObj -> A), putAllK ws H K = K (putAll H ws)
 | [], H, K => rfl
 | w :: ws, H, K => by simp only [putAllK, putAll]; rw [W.putK_eq, putAllK_eq ws]
def holesK {A : Type} : Nat -> (List HObj -> A) -> A
 | 0, K => K []
 | m + 1, K => holesK m fun l => K (.hole :: l)
theorem holesK_eq {A : Type} : ∀ (m : Nat) (K : List HObj -> A), holesK m K = K (List.replicate m .hole)
 | 0, K => rfl
 | m + 1, K => by simp only [holesK]; rw [holesK_eq m]; rfl
def appHK {A : Type} : List HObj -> List HObj -> (List HObj -> A) -> A
 | [], G, K => K G
 | o :: H, G, K => appHK H G fun H => K (o :: H)
theorem appHK_eq {A : Type} : ∀ (H G : List HObj) (K : List HObj -> A), appHK H G K = K (H ++ G)
 | [], G, K => rfl
 | o :: H, G, K => by simp only [appHK]; rw [appHK_eq H]; rfl
def effX {A : Type} (H : List HObj) (m : Nat) (ws : List W) (K : List HObj -> A) : A :=
 match m with
 | 0 => putAllK ws H K
 | m + 1 => holesK (m + 1) fun G => appHK H G fun H => putAllK ws H K
theorem effX_eq {A : Type} (H : List HObj) (m : Nat) (ws : List W) (K : List HObj -> A) : effX H m ws K = K (putAll (H ++ List.replicate m .hole) ws) := by
 unfold effX
 split
 ·rw [putAllK_eq]; simp
 ·rw [holesK_eq, appHK_eq, putAllK_eq]
def rowAt {A : Type} (k : Nat) (H : List HObj) (K : List HObj -> A) : A :=
 match H[k]? with
 | some (.list e es n f ver) => nfRow (fun c => (f (c / es) (c % es)).nf) (n * es) [] fun l => setHK H k (.list e es n (fun i j => tbl l (i * es + j)) ver) K
 | _ => K H
theorem LeOs.set {H : List HObj} {o o' : HObj} (h : LeO o o') : ∀ {k : Nat}, H[k]? = some o -> LeOs H (H.set k o') := by
 induction H with
 | nil => intro k hk; simp at hk
 | cons x H ih =>
  intro k hk
  cases k with
  | zero => simp at hk; subst hk; exact ⟨h, .refl H⟩
  | succ k => exact ⟨.refl x, ih (by simpa using hk)⟩
theorem rowAt_eq {A : Type} (k : Nat) (H : List HObj) : ∃ H', LeOs H H' /\ ∀ (K : List HObj -> A), rowAt k H K = K H' := by
 unfold rowAt
 split
 ·rename_i e es n f ver hk
  refine ⟨H.set k (.list e es n (fun i j => tbl ((List.range (n * es)).map fun c => (f (c / es) (c % es)).nv) (i * es + j)) ver), LeOs.set (.list fun i j hi hj => ?_) hk, fun K => ?_⟩
  ·rw [tbl_cells f hi hj]; exact AV.le_nv _
  ·rw [nfRow_eq (g := fun c => (f (c / es) (c % es)).nv) (fun j K => AV.nf_eq _ K), setHK_eq]
   simp
 ·exact ⟨H, .refl H, fun K => rfl⟩
def effR {A : Type} (H : List HObj) (m : Nat) (ws : List W) (K : List HObj -> A) : A :=
 effX H m ws fun H =>
  match ws with
  | [.set k (.list _ _ _ _ _)] => rowAt k H K
  | [.elem k _ _ _] => rowAt k H K
  | _ => K H
theorem effR_eq {A : Type} (H : List HObj) (m : Nat) (ws : List W) : ∃ H', LeOs (putAll (H ++ List.replicate m .hole) ws) H' /\ ∀ (K : List HObj -> A), effR H m ws K = K H' := by
 have h : ∀ K : List HObj -> A, effR H m ws K = (match ws with
  | [.set k (.list _ _ _ _ _)] => rowAt k (putAll (H ++ List.replicate m .hole) ws) K
  | [.elem k _ _ _] => rowAt k (putAll (H ++ List.replicate m .hole) ws) K
  | _ => K (putAll (H ++ List.replicate m .hole) ws)) := fun K => by unfold effR; rw [effX_eq]
 split at h
 ·rename_i k _ _ _ _ _; obtain ⟨H', h1, h2⟩ := rowAt_eq (A := A) k (putAll (H ++ List.replicate m .hole) _); exact ⟨H', h1, fun K => by rw [h, h2]⟩
 ·rename_i k _ _ _; obtain ⟨H', h1, h2⟩ := rowAt_eq (A := A) k (putAll (H ++ List.replicate m .hole) _); exact ⟨H', h1, fun K => by rw [h, h2]⟩
 ·exact ⟨_, .refl _, h⟩
/-! ### Which blocks a value leads to -/
def AV.refs : AV -> List Nat
 | .agg n f => (List.range n).flatMap fun j => (f j).refs
 | .tup n f => (List.range n).flatMap fun j => (f j).refs
 | .fn _ n f => (List.range n).flatMap fun j => (f j).refs
 | .ptr k _ | .lptr k _ _ _ _ | .own k _ | .yld k => [k]
 | _ => []
def HObj.refs : HObj -> List Nat
 | .box cells => cells.flatMap AV.refs
 | _ => []
def AV.refsIn (all : List Nat) : AV -> Bool
 | .agg n f => (List.range n).all fun j => (f j).refsIn all
 | .tup n f => (List.range n).all fun j => (f j).refsIn all
 | .fn _ n f => (List.range n).all fun j => (f j).refsIn all
 | .ptr k _ | .lptr k _ _ _ _ | .own k _ | .yld k => all.contains k
 | _ => true
def HObj.refsIn (all : List Nat) : HObj -> Bool
 | .box cells => cells.all (·.refsIn all)
 | .list .. | .dead => true
 | _ => false
def reachK {A : Type} (H : List HObj) : Nat -> List Nat -> List Nat -> (List Nat -> A) -> A
 | 0, _, acc, K => K acc
 | _ + 1, [], acc, K => K acc
 | n + 1, k :: ws, acc, K => bif acc.contains k then reachK H n ws acc K else forceNat k fun k => match H[k]? with | some o => reachK H n (o.refs ++ ws) (k :: acc) K | none => reachK H n ws acc K
theorem reachK_eq {A : Type} (H : List HObj) : ∀ (n : Nat) (ws acc : List Nat), ∃ l, ∀ (K : List Nat -> A), reachK H n ws acc K = K l
 | 0, _, acc => ⟨acc, fun K => rfl⟩
 | _ + 1, [], acc => ⟨acc, fun K => rfl⟩
 | n + 1, k :: ws, acc => by
  simp only [reachK, forceNat_eq]
  cases acc.contains k with
  | true => exact reachK_eq H n ws acc
  | false =>
   simp only [cond_false]
   cases H[k]? with
   | some o => exact reachK_eq H n _ _
   | none => exact reachK_eq H n ws acc
def idx : List Nat -> Nat -> Nat
 | [], _ => 0
 | x :: l, k => bif Nat.beq x k then 0 else idx l k + 1
theorem idx_lt : ∀ {l : List Nat} {k : Nat}, l.contains k = true -> idx l k < l.length /\ l[idx l k]? = some k
 | [], k, h => by simp at h
 | x :: l, k, h => by
  simp only [idx]
  cases hb : Nat.beq x k with
  | true => rw [Nat.beq_eq] at hb; subst hb; simp
  | false =>
   have hne : x ≠ k := fun e => by subst e; simp at hb
   have h' : l.contains k = true := by
    simp only [List.contains_cons, Bool.or_eq_true, beq_iff_eq] at h
    exact h.resolve_left fun e => hne e.symm
   obtain ⟨h1, h2⟩ := idx_lt h'
   simp only [cond_false, List.length_cons, List.getElem?_cons_succ]
   exact ⟨by omega, h2⟩
theorem numOf_idx {l l2 : List Nat} {k : Nat} (h : l.contains k = true) : numOf (l ++ l2) (idx l k) = k := by
 obtain ⟨h1, h2⟩ := idx_lt h
 unfold numOf
 rw [List.getD_eq_getElem?_getD, List.getElem?_append_left h1, h2]
 rfl
theorem ren_inv {all l2 : List Nat} : ∀ (v : AV), v.refsIn all = true -> Le v (ren (numOf (all ++ l2)) (ren (idx all) v)) := by
 intro v
 induction v with
 | agg n f ih => intro h; simp only [AV.refsIn, List.all_eq_true, List.mem_range] at h; exact .agg fun j hj => ih j (h j hj)
 | tup n f ih => intro h; simp only [AV.refsIn, List.all_eq_true, List.mem_range] at h; exact .tup fun j hj => ih j (h j hj)
 | fn F n f ih => intro h; simp only [AV.refsIn, List.all_eq_true, List.mem_range] at h; exact .fn fun j hj => ih j (h j hj)
 | ptr k off => intro h; simp only [ren]; rw [numOf_idx h]; exact .refl _
 | lptr k ver es i off => intro h; simp only [ren]; rw [numOf_idx h]; exact .refl _
 | own k ver => intro h; simp only [ren]; rw [numOf_idx h]; exact .refl _
 | yld k => intro h; simp only [ren]; rw [numOf_idx h]; exact .refl _
 | _ => intro _; exact .refl _
theorem under_idx {all : List Nat} : ∀ (v : AV), v.refsIn all = true -> (ren (idx all) v).under all.length = true := by
 have key : ∀ k, all.contains k = true -> Nat.blt (idx all k) all.length = true := fun k h => by rw [Nat.blt_eq]; exact (idx_lt h).1
 intro v
 induction v with
 | agg n f ih => intro h; simp only [AV.refsIn, List.all_eq_true, List.mem_range] at h; simp only [ren, AV.under, List.all_eq_true, List.mem_range]; exact fun j hj => ih j (h j hj)
 | tup n f ih => intro h; simp only [AV.refsIn, List.all_eq_true, List.mem_range] at h; simp only [ren, AV.under, List.all_eq_true, List.mem_range]; exact fun j hj => ih j (h j hj)
 | fn F n f ih => intro h; simp only [AV.refsIn, List.all_eq_true, List.mem_range] at h; simp only [ren, AV.under, List.all_eq_true, List.mem_range]; exact fun j hj => ih j (h j hj)
 | ptr k off => intro h; exact key k h
 | lptr k ver es i off => intro h; exact key k h
 | own k ver => intro h; exact key k h
 | yld k => intro h; exact key k h
 | _ => intro _; rfl
theorem renO_inv {all l2 : List Nat} {o : HObj} (h : o.refsIn all = true) : LeO o (renO (numOf (all ++ l2)) (renO (idx all) o)) := by
 cases o with
 | box cells =>
  refine .box (by simp) fun j x y hx hy => ?_
  simp only [List.getElem?_map, Option.map_eq_some_iff] at hy
  obtain ⟨z, ⟨u, hu, rfl⟩, rfl⟩ := hy
  rw [hx] at hu
  cases hu
  exact ren_inv x (List.all_eq_true.1 h x (List.mem_of_getElem? hx))
 | list e es n f ver => exact .refl _
 | dead => exact .refl _
 | hole => cases h
 | lrec => cases h
 | iter => cases h
 | last => cases h
theorem underO_idx {all : List Nat} {o : HObj} (h : o.refsIn all = true) : (renO (idx all) o).under all.length = true := by
 cases o with
 | box cells =>
  simp only [renO, HObj.under, List.all_map, List.all_eq_true]
  exact fun x hx => under_idx x (List.all_eq_true.1 h x hx)
 | list e es n f ver => rfl
 | dead => rfl
 | hole => cases h
 | lrec => cases h
 | iter => cases h
 | last => cases h
def frzF (F : List Nat) (H : List HObj) : AV -> AV
 | .own k ver => bif F.contains k then (match H[k]? with | some (.list _ es n f ver') => bif Nat.beq ver ver' then .slc es n f else .own k ver | _ => .own k ver) else .own k ver
 | .agg m g => .agg m (fun j => frzF F H (g j))
 | .tup m g => .tup m (fun j => frzF F H (g j))
 | a => a
theorem onlyGo_list {ks : List Nat} {H : List HObj} {k : Nat} {o : HObj} (h : H[k]? = some o) (hk : ks.contains k = true) : (only ks H)[k]? = some o := by
 unfold only
 rw [onlyGo_get, h]
 simp only [Nat.zero_add, Option.map_some, hk, cond_true]
theorem frzF_le {F : List Nat} {H : List HObj} : ∀ (v : AV), LeH (only F H) v (frzF F H v) := by
 intro v
 induction v with
 | own k ver =>
  simp only [frzF]
  cases hc : F.contains k with
  | false => exact .le (.refl _)
  | true =>
   simp only [cond_true]
   split
   ·rename_i e es n f ver' hk
    cases hv : Nat.beq ver ver' with
    | false => exact .le (.refl _)
    | true =>
     rw [Nat.beq_eq] at hv
     subst hv
     exact .own (onlyGo_list hk hc) fun i j _ _ => .refl _
   ·exact .le (.refl _)
 | agg m g ih => exact .agg fun j _ => ih j
 | tup m g ih => exact .tup fun j _ => ih j
 | _ => exact .le (.refl _)
theorem LeH.trans_le {G : List HObj} {a b c : AV} (h1 : LeH G a b) (h2 : Le b c) : LeH G a c := by
 induction h1 generalizing c with
 | le h => exact .le (h.trans h2)
 | own hk h =>
  cases h2 with
  | refl => exact .own hk h
  | any => exact .le (.any _)
  | slc h' => exact .own hk fun i j hi hj => (h i j hi hj).trans (h' i j hi hj)
  | nilf es f g => exact .own hk fun i j hi _ => by omega
 | agg h ih =>
  cases h2 with
  | refl => exact .agg h
  | any => exact .le (.any _)
  | agg h' => exact .agg fun j hj => ih j hj (h' j hj)
 | tup h ih =>
  cases h2 with
  | refl => exact .tup h
  | any => exact .le (.any _)
  | tup h' => exact .tup fun j hj => ih j hj (h' j hj)
def AV.ownsN : AV -> List Nat
 | .own k _ => [k]
 | .agg n f => (List.range n).flatMap fun j => (f j).ownsN
 | .tup n f => (List.range n).flatMap fun j => (f j).ownsN
 | _ => []
def frzLK {A : Type} : List Nat -> List HObj -> (List HObj -> A) -> A
 | [], H, K => K H
 | k :: F, H, K => setHK H k .dead fun H => frzLK F H K
theorem frzLK_eq {A : Type} : ∀ (F : List Nat) (H : List HObj) (K : List HObj -> A), frzLK F H K = K (frzL F H)
 | [], H, K => rfl
 | k :: F, H, K => by simp only [frzLK, frzL]; rw [setHK_eq, frzLK_eq F]
def lendK {A : Type} (H : List HObj) (all : List Nat) : List Nat -> (List HObj -> A) -> A
 | [], K => K []
 | k :: ks, K => (renO (idx all) (H.getD k .dead)).wh fun o => lendK H all ks fun l => K (o :: l)
theorem lendK_eq {A : Type} (H : List HObj) (all : List Nat) : ∀ (ks : List Nat) (K : List HObj -> A), lendK H all ks K = K (ks.map fun k => renO (idx all) (H.getD k .dead))
 | [], K => rfl
 | k :: ks, K => by simp only [lendK]; rw [HObj.wh_eq, lendK_eq H all ks]; rfl
def argsK {A : Type} (r : Nat -> Nat) : List AV -> (List AV -> A) -> A
 | [], K => K []
 | a :: as, K => (ren r a).nf fun a => argsK r as fun as => K (a :: as)
theorem argsK_eq {A : Type} (r : Nat -> Nat) : ∀ (as : List AV) (K : List AV -> A), argsK r as K = K (as.map fun a => (ren r a).nv)
 | [], K => rfl
 | a :: as, K => by simp only [argsK]; rw [AV.nf_eq, argsK_eq r as]; rfl
/-! ### Values compared -/
def leB : AV -> AV -> Bool
 | _, .any => true
 | .int k n, .int k' m => sameK k k' && decide (n = m)
 | .bool a, .bool b => sameB a b
 | .str s, .str t => decide (s = t)
 | .slc es n f, .slc es' n' g => Nat.beq es es' && Nat.beq n n' && (List.range n).all fun i => (List.range es).all fun j => leB (f i j) (g i j)
 | .agg n f, .agg n' g => Nat.beq n n' && (List.range n).all fun j => leB (f j) (g j)
 | .tup n f, .tup n' g => Nat.beq n n' && (List.range n).all fun j => leB (f j) (g j)
 | .slc0, .slc0 => true
 | .ifc, .ifc => true
 | .ptr k off, .ptr k' off' => Nat.beq k k' && Nat.beq off off'
 | .own k v, .own k' v' => Nat.beq k k' && Nat.beq v v'
 | _, _ => false
theorem leB_le : ∀ {a b : AV}, leB a b = true -> Le a b := by
 intro a
 induction a with
 | int k n =>
  intro b h
  cases b with
  | any => exact .any _
  | int k' m =>
   simp only [leB, Bool.and_eq_true, decide_eq_true_eq] at h
   rw [sameK_eq h.1, h.2]
   exact .refl _
  | _ => cases h
 | bool x =>
  intro b h
  cases b with
  | any => exact .any _
  | bool y => rw [sameB_eq.1 h]; exact .refl _
  | _ => cases h
 | str s =>
  intro b h
  cases b with
  | any => exact .any _
  | str t => rw [of_decide_eq_true h]; exact .refl _
  | _ => cases h
 | slc es n f ih =>
  intro b h
  cases b with
  | any => exact .any _
  | slc es' n' g =>
   simp only [leB, Bool.and_eq_true, Nat.beq_eq, List.all_eq_true, List.mem_range] at h
   obtain ⟨⟨rfl, rfl⟩, h⟩ := h
   exact .slc fun i j hi hj => ih i j (h i hi j hj)
  | _ => cases h
 | agg n f ih =>
  intro b h
  cases b with
  | any => exact .any _
  | agg n' g =>
   simp only [leB, Bool.and_eq_true, Nat.beq_eq, List.all_eq_true, List.mem_range] at h
   obtain ⟨rfl, h⟩ := h
   exact .agg fun j hj => ih j (h j hj)
  | _ => cases h
 | tup n f ih =>
  intro b h
  cases b with
  | any => exact .any _
  | tup n' g =>
   simp only [leB, Bool.and_eq_true, Nat.beq_eq, List.all_eq_true, List.mem_range] at h
   obtain ⟨rfl, h⟩ := h
   exact .tup fun j hj => ih j (h j hj)
  | _ => cases h
 | slc0 => intro b h; cases b with | any => exact .any _ | slc0 => exact .refl _ | _ => cases h
 | ifc => intro b h; cases b with | any => exact .any _ | ifc => exact .refl _ | _ => cases h
 | ptr k off =>
  intro b h
  cases b with
  | any => exact .any _
  | ptr k' off' => simp only [leB, Bool.and_eq_true, Nat.beq_eq] at h; rw [h.1, h.2]; exact .refl _
  | _ => cases h
 | own k v =>
  intro b h
  cases b with
  | any => exact .any _
  | own k' v' => simp only [leB, Bool.and_eq_true, Nat.beq_eq] at h; rw [h.1, h.2]; exact .refl _
  | _ => cases h
 | _ => intro b h; cases b with | any => exact .any _ | _ => cases h
def leLB : List AV -> List AV -> Bool
 | [], [] => true
 | a :: as, b :: bs => leB a b && leLB as bs
 | _, _ => false
theorem leLB_le : ∀ {as bs : List AV}, leLB as bs = true -> AllLe as bs
 | [], [], _ => trivial
 | [], _ :: _, h => by cases h
 | _ :: _, [], h => by cases h
 | a :: as, b :: bs, h => by simp only [leLB, Bool.and_eq_true] at h; exact ⟨leB_le h.1, leLB_le h.2⟩
def leOB : HObj -> HObj -> Bool
 | _, .dead => true
 | .box a, .box b => leLB a b
 | .list e es n f ver, .list e' es' n' g ver' => Nat.beq e e' && Nat.beq es es' && Nat.beq n n' && Nat.beq ver ver' && (List.range n).all fun i => (List.range es).all fun j => leB (f i j) (g i j)
 | _, _ => false
theorem leOB_le {o o' : HObj} (h : leOB o o' = true) : LeO o o' := by
 cases o' with
 | dead => exact .dead _
 | box b => cases o with | box a => exact LeO.boxes (leLB_le h) | _ => cases h
 | list e es n f ver =>
  cases o with
  | list e' es' n' g ver' =>
   simp only [leOB, Bool.and_eq_true, Nat.beq_eq, List.all_eq_true, List.mem_range] at h
   obtain ⟨⟨⟨⟨rfl, rfl⟩, rfl⟩, rfl⟩, h⟩ := h
   exact .list fun i j hi hj => leB_le (h i hi j hj)
  | _ => cases h
 | _ => cases o <;> cases h
end Go.Fx
/-
 Running code on known values.
-/
namespace Go.Fx
open Go.RowKit
abbrev Run := FuncId -> List AV -> List HObj -> Option (AV × List HObj)
abbrev RegR := Env × List HObj
def turned (H : List HObj) : List (Nat × HObj) -> List (Nat × HObj)
 | [] => []
 | x :: l => bif (match H[x.1]? with | some o => leOB x.2 o | none => false) then turned H l else x :: turned H l
def callX (run : Run) (ro : Bool) {R : Type} (H : List HObj) (f : FuncId) (args : List AV) (k : KT (Option R)) : Option R :=
 reachK H 100000 (args.flatMap AV.refs) [] fun ks =>
 argsK (idx ks) args fun as => lendK H ks ks fun Ls =>
 match run f as Ls with
 | none => none
 | some (r, L') =>
  forceNat (L'.length - ks.length) fun m =>
  bif (args.all (·.refsIn ks)) && (ks.all fun q => (match H[q]? with | some o => o.refsIn ks | none => false)) && nodupB (ks ++ List.range' H.length m) && Nat.beq L'.length (ks.length + m) && ((L'.drop ks.length).all (·.live)) then
   k (ren (numOf (ks ++ List.range' H.length m)) r) ((ks ++ List.range' H.length m).map fun q => ⟨q, 0, none⟩) ((bif ro then turned H ((ks ++ List.range' H.length m).zip (L'.map (renO (numOf (ks ++ List.range' H.length m))))) else (ks ++ List.range' H.length m).zip (L'.map (renO (numOf (ks ++ List.range' H.length m))))).map fun x => .set x.1 x.2) m
  else none
def exMd (run : Run) (ro : Bool) {R : Type} : Md (Option R) := {
 fail := none
 sc := fun _ p _ K => bif decide p then K else none
 call := fun _ => callX run ro
 slices := fun a b => match b with | some r => some r | none => a
 br := fun b x y => bif b then x else y
 norm := AV.nf
 deep := AV.dp
 eff := effX
 effN := effR }
theorem LeOks.of {H : List HObj} : ∀ {ks : List Nat} {Ls : List HObj}, ks.length = Ls.length -> (∀ (j k : Nat) L, ks[j]? = some k -> Ls[j]? = some L -> ∃ o, H[k]? = some o /\ LeO o L) -> LeOks H ks Ls
 | [], [], _, _ => trivial
 | [], _ :: _, h, _ => by simp at h
 | _ :: _, [], h, _ => by simp at h
 | k :: ks, L :: Ls, h, h2 => by
  obtain ⟨o, h3, h4⟩ := h2 0 k L rfl rfl
  refine ⟨by rw [h3]; exact h4, LeOks.of (by simpa using h) fun j k' L' hk hL => h2 (j + 1) k' L' (by simpa using hk) (by simpa using hL)⟩
theorem AllRen.of {r : Nat -> Nat} {g : AV -> AV} : ∀ {as : List AV}, (∀ a ∈ as, Le a (ren r (g a))) -> AllRen r as (as.map g)
 | [], _ => trivial
 | a :: as, h => ⟨h a (List.mem_cons_self ..), AllRen.of fun x hx => h x (List.mem_cons_of_mem _ hx)⟩
section
variable {X : Ctx} {R : Type} {run : Run} {ro : Bool}
theorem LeOs.of : ∀ {H H' : List HObj}, H'.length = H.length -> (∀ (k : Nat) a b, H[k]? = some a -> H'[k]? = some b -> LeO a b) -> LeOs H H'
 | [], [], _, _ => trivial
 | [], _ :: _, h, _ => by simp at h
 | _ :: _, [], h, _ => by simp at h
 | a :: H, b :: H', h, h2 => ⟨h2 0 a b rfl rfl, LeOs.of (by simpa using h) fun k x y hx hy => h2 (k + 1) x y (by simpa using hx) (by simpa using hy)⟩
theorem turned_app (H : List HObj) (m : Nat) : ∀ (l : List (Nat × HObj)), turned (H ++ List.replicate m .hole) l = turned H l
 | [] => rfl
 | x :: l => by
  have e : (match (H ++ List.replicate m HObj.hole)[x.1]? with | some o => leOB x.2 o | none => false) = (match H[x.1]? with | some o => leOB x.2 o | none => false) := by
   rcases Nat.lt_or_ge x.1 H.length with h | h
   ·rw [List.getElem?_append_left h]
   ·rw [List.getElem?_append_right h, List.getElem?_eq_none h, List.getElem?_replicate]
    split
    ·rename_i o ho
     split at ho
     ·cases ho
      cases x.2 <;> rfl
     ·cases ho
    ·rfl
  simp only [turned, e, turned_app H m l]
theorem turned_sub (H : List HObj) : ∀ (l : List (Nat × HObj)) y, y ∈ turned H l -> y ∈ l
 | [], y, hy => hy
 | z :: l, y, hy => by
  simp only [turned] at hy
  cases hz : (match H[z.1]? with | some o => leOB z.2 o | none => false) with
  | true => rw [hz] at hy; exact List.mem_cons_of_mem _ (turned_sub H l y hy)
  | false =>
   rw [hz] at hy
   rcases List.mem_cons.1 hy with rfl | hy
   ·exact List.mem_cons_self ..
   ·exact List.mem_cons_of_mem _ (turned_sub H l y hy)
theorem turned_le {c H : List HObj} : ∀ (l : List (Nat × HObj)), (l.map (·.1)).Nodup -> (∀ x ∈ l, c[x.1]? = H[x.1]?) -> ∀ (G : List HObj), (∀ x ∈ l, G[x.1]? = c[x.1]?) -> LeOs (setAll G l) (setAll G (turned H l))
 | [], _, _, G, _ => .refl _
 | x :: l, hn, hc, G, hG => by
  simp only [List.map_cons, List.nodup_cons] at hn
  have hne : ∀ y ∈ l, x.1 ≠ y.1 := fun y hy e => hn.1 (by rw [e]; exact List.mem_map.2 ⟨y, hy, rfl⟩)
  have ih := fun G hG => turned_le l hn.2 (fun y hy => hc y (List.mem_cons_of_mem _ hy)) G hG
  simp only [turned]
  split
  ·rename_i o ho
   cases hb : leOB x.2 o with
   | true =>
    simp only [cond_true, setAll]
    have hx : G[x.1]? = some o := by rw [hG x (List.mem_cons_self ..), hc x (List.mem_cons_self ..), ho]
    refine LeOs.of (by simp [setAll_length]) fun k a b ha hb' => ?_
    have h0 := ih G (fun y hy => hG y (List.mem_cons_of_mem _ hy))
    by_cases hk : k = x.1
    ·subst hk
     have hlt := (List.getElem?_eq_some_iff.1 hx).1
     rw [setAll_other l _ _ (fun y hy e => hne y hy e.symm), List.getElem?_set_self hlt] at ha
     have hsub : ∀ y ∈ turned H l, y.1 ≠ x.1 := fun y hy e => hne y (turned_sub H l y hy) e.symm
     rw [setAll_other _ _ _ hsub, hx] at hb'
     cases ha
     cases hb'
     exact leOB_le hb
    ·have e : (setAll (G.set x.1 x.2) l)[k]? = (setAll G l)[k]? := by
      by_cases hm : ∃ y ∈ l, y.1 = k
      ·have gen : ∀ (l : List (Nat × HObj)) (A B : List HObj), A.length = B.length -> (∃ y ∈ l, y.1 = k) -> (∀ j, j ≠ x.1 -> A[j]? = B[j]?) -> (∀ y ∈ l, y.1 ≠ x.1) -> (setAll A l)[k]? = (setAll B l)[k]? := by
        intro l
        induction l with
        | nil => intro A B _ ⟨y, hy, _⟩; cases hy
        | cons z l ihl =>
         intro A B hAB ⟨y, hy, hyk⟩ hj hno
         simp only [setAll]
         by_cases hm2 : ∃ y ∈ l, y.1 = k
         ·exact ihl _ _ (by simp [hAB]) hm2 (fun j hjx => by
           by_cases hz : z.1 = j
           ·rw [<- hz, List.getElem?_set, List.getElem?_set, hAB]; simp
           ·rw [List.getElem?_set_ne hz, List.getElem?_set_ne hz]; exact hj j hjx) fun y hy => hno y (List.mem_cons_of_mem _ hy)
         ·rcases List.mem_cons.1 hy with rfl | hy
          ·rw [setAll_other l _ k (fun w hw e => hm2 ⟨w, hw, e⟩), setAll_other l _ k (fun w hw e => hm2 ⟨w, hw, e⟩), hyk, List.getElem?_set, List.getElem?_set, hAB]; simp
          ·exact absurd ⟨y, hy, hyk⟩ hm2
       exact gen l _ _ (by simp) hm (fun j hj => List.getElem?_set_ne (fun e => hj e.symm)) fun y hy e => hne y hy e.symm
      ·rw [setAll_other l _ k (fun y hy e => hm ⟨y, hy, e⟩), setAll_other l _ k (fun y hy e => hm ⟨y, hy, e⟩), List.getElem?_set_ne (fun e => hk e.symm)]
     rw [e] at ha
     exact h0.at k a b ha hb'
   | false =>
    simp only [cond_false, setAll]
    exact ih _ fun y hy => by rw [List.getElem?_set_ne (hne y hy)]; exact hG y (List.mem_cons_of_mem _ hy)
  ·simp only [cond_false, setAll]
   exact ih _ fun y hy => by rw [List.getElem?_set_ne (hne y hy)]; exact hG y (List.mem_cons_of_mem _ hy)
theorem stepE_fewer {o : Oper} {Rd : Option (Nat × Bool) -> Operand -> AV} {g : Option (Nat × Bool)} {H : List HObj} {av : AV} {rs : List Rg} {l : List (Nat × HObj)} {m : Nat} (hn : (l.map (·.1)).Nodup) (hr : ∀ x ∈ l, (⟨x.1, 0, none⟩ : Rg) ∈ rs)
  (h : StepE X o Rd g (H ++ List.replicate m .hole) rs av (l.map fun x => .set x.1 x.2)) : StepE X o Rd g (H ++ List.replicate m .hole) rs av ((turned H l).map fun x => .set x.1 x.2) := by
 rw [<- turned_app H m l]
 exact fun c a K Q hok hb hag hg hrd hk => h c a K Q hok hb hag hg hrd fun c' v ht hH hv => by
  have hle := turned_le (c := c.H) (H := H ++ List.replicate m .hole) l hn (fun x hx => (Agree.whole (hag _ (hr x hx))).symm) c.H fun _ _ => rfl
  rw [putAll_sets] at hH
  have tw := Tr.weaken ht.ok (H' := setAll c.H (turned (H ++ List.replicate m .hole) l)) (by rw [hH]; exact hle.len) fun k o o' ho ho' => hle.at k o o' (by rw [<- hH]; exact ho) ho'
  exact hk ⟨c'.g, c'.I, c'.w, setAll c.H (turned (H ++ List.replicate m .hole) l)⟩ v (ht.trans tw) (by rw [putAll_sets]) (tw.reads hv)
theorem callX_ok (hrun : ∀ {f args L r L'}, run f args L = some (r, L') -> Mut X f args L r L') {gd : Option Prop} {o : Oper} {Rd : Option (Nat × Bool) -> Operand -> AV} {g : Option (Nat × Bool)} {H : List HObj} {k : KT (Option R)} {cl : Call} {F : Operand} {f : FuncId} {n : Nat} {caps : Nat -> AV} {res : R}
  (ho : o.op = .call cl) (hcl : cl.callee = .value F) (hF : Rd g F = .fn f n caps) (h : callX run ro H f (callArgs (Rd g) cl.args n caps) k = some res) : Res X gd o Rd g H k (fun x => x = some res) := by
 unfold callX at h
 obtain ⟨ks, hks⟩ := reachK_eq (A := Option R) H 100000 ((callArgs (Rd g) cl.args n caps).flatMap AV.refs) []
 rw [hks, argsK_eq, lendK_eq] at h
 split at h
 ·cases h
 ·rename_i r L' hr
  have hm := hrun hr
  simp only [forceNat_eq] at h
  generalize L'.length - ks.length = m at h
  generalize hc : ((callArgs (Rd g) cl.args n caps).all (·.refsIn ks) && (ks.all fun q => (match H[q]? with | some o => o.refsIn ks | none => false)) && nodupB (ks ++ List.range' H.length m) && Nat.beq L'.length (ks.length + m) && ((L'.drop ks.length).all (·.live))) = b at h
  cases b with
  | false => cases h
  | true =>
   simp only [cond_true] at h
   simp only [Bool.and_eq_true, Nat.beq_eq] at hc
   obtain ⟨⟨⟨⟨c1, c2⟩, c3⟩, c4⟩, c5⟩ := hc
   have hobj : ∀ q ∈ ks, ∃ o, H[q]? = some o /\ o.refsIn ks = true := fun q hq => by
    have := List.all_eq_true.1 c2 q hq
    split at this
    ·rename_i o ho; exact ⟨o, ho, this⟩
    ·cases this
   have hfull : Res X gd o Rd g H (fun av rs ws m' => ∃ l : List (Nat × HObj), ws = (l.map fun x => .set x.1 x.2) /\ (l.map (·.1)).Nodup /\ (∀ x ∈ l, (⟨x.1, 0, none⟩ : Rg) ∈ rs) /\ k av rs ((bif ro then turned H l else l).map fun x => .set x.1 x.2) m' = some res) (fun p : Prop => p) := by
    refine evCallFn_sound ho hcl hF (.two (.two (.one ⟨_, ks, m, _, r, L', Sc.of hm, Sc.of ?_, ?_, ⟨nodupB_spec c3, by simp, c4⟩, ?_, _, rfl, ?_, ?_, h⟩)))
    ·exact AllRen.of fun a ha => (ren_inv a (List.all_eq_true.1 c1 a ha)).trans ((AV.le_nv _).ren _)
    ·simp only [Bool.and_eq_true]
     refine ⟨⟨?_, ?_⟩, c5⟩
     ·simp only [List.all_map, List.all_eq_true]
      exact fun a ha => AV.nv_under _ (under_idx a (List.all_eq_true.1 c1 a ha))
     ·simp only [List.all_map, List.all_eq_true]
      intro q hq
      obtain ⟨o, h1, h2⟩ := hobj q hq
      simp only [Function.comp_apply, List.getD_eq_getElem?_getD, h1, Option.getD_some]
      exact underO_idx h2
    ·refine LeOks.of (by simp) fun j q L hq hL => ?_
     obtain ⟨o, h1, h2⟩ := hobj q (List.mem_of_getElem? hq)
     refine ⟨o, h1, ?_⟩
     simp only [List.getElem?_map, hq, Option.map_some, Option.some.injEq] at hL
     subst hL
     simp only [List.getD_eq_getElem?_getD, h1, Option.getD_some]
     exact renO_inv h2
    ·rw [List.map_fst_zip (by simp [c4])]
     exact nodupB_spec c3
    ·intro x hx
     exact List.mem_map.2 ⟨x.1, (List.of_mem_zip hx).1, rfl⟩
   obtain ⟨av, rs, ws, m', ⟨l, rfl, hn, hr, hk⟩, h1, h2, h3⟩ := hfull
   cases hro : ro with
   | false => rw [hro] at hk; exact ⟨av, rs, _, m', hk, h1, h2, h3⟩
   | true =>
    rw [hro] at hk
    refine ⟨av, rs, _, m', hk, h1, fun w hw => ?_, h3.map fun h3 => stepE_fewer hn hr h3⟩
    obtain ⟨x, hx, rfl⟩ := List.mem_map.1 hw
    exact h2 _ (List.mem_map.2 ⟨x, turned_sub H l x hx, rfl⟩)
theorem exMd_ok (hrun : ∀ {f args L r L'}, run f args L = some (r, L') -> Mut X f args L r L') (res : R) : (exMd run ro (R := R)).Ok X (fun x => x = some res) := {
 fail := fun h => by cases h
 sc := fun {gd p _ K} h => by
  have h : (bif decide p then K else none) = some res := h
  cases hd : decide p with
  | false => rw [hd] at h; cases h
  | true => rw [hd] at h; exact ⟨.of (of_decide_eq_true hd), h⟩
 call := fun ho hcl hF h => callX_ok hrun ho hcl hF h
 slices := fun {a b} h => by
  cases b with
  | some r => exact .inr h
  | none => exact .inl h
 br := fun {b p q} h => by
  have h : (bif b then p else q) = some res := h
  exact ⟨fun e => by rw [e] at h; exact h, fun e => by rw [e] at h; exact h⟩
 norm := fun {v K} h => ⟨_, AV.le_nv v, by have h : v.nf K = some res := h; rw [AV.nf_eq] at h; exact h⟩
 deep := fun {v K} h => by
  obtain ⟨v', h1, h2⟩ := AV.dp_eq (A := Option R) v
  have h : v.dp K = some res := h
  exact ⟨v', h1, by rw [h2] at h; exact h⟩
 eff := effX_eq _ _ _ _
 effN := fun {H m ws K} h => by
  obtain ⟨H', h1, h2⟩ := effR_eq (A := Option R) H m ws
  have h : effR H m ws K = some res := h
  exact ⟨H', h1, by rw [h2] at h; exact h⟩ }
end
/-! ### A list frozen -/
def frzV (k ver es n : Nat) (f : Nat -> Nat -> AV) : AV -> AV
 | .own q v => bif Nat.beq q k && Nat.beq v ver then .slc es n f else .own q v
 | .agg m g => .agg m (fun j => frzV k ver es n f (g j))
 | .tup m g => .tup m (fun j => frzV k ver es n f (g j))
 | .fn F m g => .fn F m (fun j => frzV k ver es n f (g j))
 | a => a
def frzO (φ : AV -> AV) : HObj -> HObj
 | .box cells => .box (cells.map φ)
 | .lrec st pd N e ps asg body => .lrec st pd N (e.map fun x => (x.1, φ x.2)) ps asg body
 | o => o
def frzEK {A : Type} (φ : AV -> AV) : Env -> (Env -> A) -> A
 | [], K => K []
 | (t, v) :: e, K => (φ v).nf fun v => frzEK φ e fun e => K ((t, v) :: e)
theorem frzEK_eq {A : Type} (φ : AV -> AV) : ∀ (e : Env) (K : Env -> A), frzEK φ e K = K (e.map fun x => (x.1, (φ x.2).nv))
 | [], K => rfl
 | (t, v) :: e, K => by simp only [frzEK]; rw [AV.nf_eq, frzEK_eq φ e]; rfl
def frzHK {A : Type} (φ : AV -> AV) (k : Nat) : List HObj -> (List HObj -> A) -> A
 | [], K => K []
 | o :: H, K => (frzO φ o).wh fun o => match k with | 0 => frzHK' φ H fun H => K (.dead :: H) | k + 1 => frzHK φ k H fun H => K (o :: H)
where frzHK' {A : Type} (φ : AV -> AV) : List HObj -> (List HObj -> A) -> A
 | [], K => K []
 | o :: H, K => (frzO φ o).wh fun o => frzHK' φ H fun H => K (o :: H)
theorem frzHK'_eq {A : Type} (φ : AV -> AV) : ∀ (H : List HObj) (K : List HObj -> A), frzHK.frzHK' φ H K = K (H.map (frzO φ))
 | [], K => rfl
 | o :: H, K => by simp only [frzHK.frzHK']; rw [HObj.wh_eq, frzHK'_eq φ H]; rfl
theorem frzHK_eq {A : Type} (φ : AV -> AV) : ∀ (k : Nat) (H : List HObj) (K : List HObj -> A), frzHK φ k H K = K ((H.map (frzO φ)).set k .dead)
 | 0, [], K => rfl
 | _ + 1, [], K => rfl
 | 0, o :: H, K => by simp only [frzHK]; rw [HObj.wh_eq, frzHK'_eq]; rfl
 | k + 1, o :: H, K => by simp only [frzHK]; rw [HObj.wh_eq, frzHK_eq φ k H]; rfl
theorem look_map {φ : AV -> AV} (hφ : φ .any = .any) (t : Nat) : ∀ (e : Env), look (e.map fun x => (x.1, φ x.2)) t = φ (look e t)
 | [] => hφ.symm
 | (s, v) :: e => by
  simp only [List.map_cons, look]
  cases Nat.beq s t with
  | true => rfl
  | false => exact look_map hφ t e
theorem Tr.relax {c : Cfg} (hok : c.Ok) {H' : List HObj} (hlen : H'.length = c.H.length) (h : ∀ (k : Nat) o o', c.H[k]? = some o -> H'[k]? = some o' -> Holds c.g c.I c.w c.H.length k o' /\ (blk c.g k o' = blk c.g k o \/ blk c.g k o' = none)) : Tr c { c with H := H' } := by
 have back : ∀ (k : Nat) o', H'[k]? = some o' -> ∃ o, c.H[k]? = some o /\ Holds c.g c.I c.w c.H.length k o' /\ (blk c.g k o' = blk c.g k o \/ blk c.g k o' = none) := fun k o' hk => by
  have hlt := (List.getElem?_eq_some_iff.1 hk).1
  exact ⟨_, List.getElem?_eq_getElem (by omega), h k _ o' (List.getElem?_eq_getElem (by omega)) hk⟩
 have bb : ∀ (k : Nat) o' b, H'[k]? = some o' -> blk c.g k o' = some b -> ∃ o, c.H[k]? = some o /\ blk c.g k o = some b := fun k o' b hk hb => by
  obtain ⟨o, h1, _, h2⟩ := back k o' hk
  rcases h2 with e | e
  ·exact ⟨o, h1, by rw [<- e]; exact hb⟩
  ·rw [e] at hb; cases hb
 refine ⟨⟨fun k o' hk => ?_, fun i j oi oj b hi hj hne hbi hbj => ?_, fun k o b hk hb => ?_, hok.imm, fun b p k o hI hk hb => ?_⟩, Nat.le_of_eq hlen.symm, fun k _ => ⟨fun _ => rfl, Nat.le_refl _, fun _ => rfl⟩, fun b o hI => ⟨hI, rfl⟩, fun b o hI => .inl hI,
  fun b ⟨k, o, hk, hb⟩ => let ⟨o2, h1, h2⟩ := bb k o b hk hb; .inr ⟨k, o2, h1, h2⟩, rfl, rfl, rfl, Nat.le_refl _, fun _ _ _ => rfl⟩
 ·obtain ⟨o, h1, h2, _⟩ := back k o' hk
  show Holds c.g c.I c.w H'.length k o'
  rw [hlen]
  exact h2
 ·obtain ⟨o1, p1, p2⟩ := bb i oi b hi hbi
  obtain ⟨o2, q1, q2⟩ := bb j oj b hj hbj
  exact hok.apart i j o1 o2 b p1 q1 hne p2 q2
 ·obtain ⟨o1, p1, p2⟩ := bb k o b hk hb
  exact hok.old k o1 b p1 p2
 ·obtain ⟨o1, p1, p2⟩ := bb k o b hk hb
  exact hok.immApart b p k o1 hI p1 p2
section
variable {X : Ctx}
theorem frz_wk {n0 k ver n es : Nat} {e : TypeId} {f : Nat -> Nat -> AV} {env : Env} {H : List HObj} (hk : H[k]? = some (.list e es n f ver)) :
  Wk X n0 env H (env.map fun x => (x.1, (frzV k ver es n f x.2).nv)) ((H.map (frzO (frzV k ver es n f))).set k .dead) := by
 intro N c0 c a hn sat
 have hok := sat.tr.ok
 have hk : c.H[k]? = some (.list e es n f ver) := by rw [sat.own]; exact hk
 have t1 := Tr.freeze hok hk
 have rd : ∀ (v : AV) (x : Value), c.Reads v x -> Reads c.g (fun b p => c.I b p \/ blk c.g k (.list e es n f ver) = some b) c.w (frzV k ver es n f v) c.H.length x := by
  intro v
  have mono : ∀ {v : AV} {x : Value}, c.Reads v x -> Reads c.g (fun b p => c.I b p \/ blk c.g k (.list e es n f ver) = some b) c.w v c.H.length x := fun h =>
   Reads.mono' (M := c.H.length) (fun k _ => ⟨fun _ => rfl, Nat.le_refl _, fun _ => rfl⟩) (fun b o h => ⟨.inl h, rfl⟩) _ _ _ _ (Nat.le_refl _) (Nat.le_refl _) h
  induction v with
  | own q v =>
   intro x h
   simp only [frzV]
   cases hb : (Nat.beq q k && Nat.beq v ver) with
   | false => exact mono h
   | true =>
    simp only [Bool.and_eq_true, Nat.beq_eq] at hb
    obtain ⟨rfl, rfl⟩ := hb
    exact own_slc hok (fun b o h => .inl h) (fun b hb o => .inr hb) hk h
  | agg m g ih => intro x ⟨cs, h1, h2, h3⟩; exact ⟨cs, h1, h2, fun j hj => let ⟨y, y1, y2, y3⟩ := h3 j hj; ⟨y, y1, y2, ih j y y3⟩⟩
  | tup m g ih => intro x ⟨cs, h1, h2, h3⟩; exact ⟨cs, h1, h2, fun j hj => let ⟨y, y1, y3⟩ := h3 j hj; ⟨y, y1, ih j y y3⟩⟩
  | fn F m g ih => intro x ⟨cs, h1, h2, h3⟩; exact ⟨cs, h1, h2, fun j hj => let ⟨y, y1, y3⟩ := h3 j hj; ⟨y, y1, ih j y y3⟩⟩
  | _ => intro x h; exact mono h
 have hl : ((H.map (frzO (frzV k ver es n f))).set k .dead).length = c.H.length := by rw [sat.own]; simp
 have t2 := Tr.relax (H' := (H.map (frzO (frzV k ver es n f))).set k .dead) t1.ok (by simpa using hl) fun j o o' ho ho' => by
  have ho : (c.H.set k HObj.dead)[j]? = some o := ho
  show Holds c.g (fun b p => c.I b p \/ blk c.g k (.list e es n f ver) = some b) c.w (c.H.set k .dead).length j o' /\ _
  rw [List.length_set]
  by_cases hjk : j = k
  ·subst hjk
   have hlt := (List.getElem?_eq_some_iff.1 hk).1
   rw [List.getElem?_set_self (by simpa [<- sat.own] using hlt)] at ho'
   cases ho'
   exact ⟨trivial, .inr rfl⟩
  ·rw [List.getElem?_set_ne (fun e => hjk e.symm)] at ho ho'
   simp only [List.getElem?_map, Option.map_eq_some_iff] at ho'
   obtain ⟨u, hu, rfl⟩ := ho'
   rw [sat.own] at ho
   rw [ho] at hu
   cases hu
   have hh := hok.obj j o (by rw [sat.own]; exact ho)
   refine ⟨?_, .inl (by cases o <;> rfl)⟩
   cases o with
   | box cells =>
    obtain ⟨h0, cs, T, h1, h2, h3⟩ := hh
    refine ⟨h0, cs, T, h1, by simpa using h2, fun i av hi => ?_⟩
    simp only [List.getElem?_map, Option.map_eq_some_iff] at hi
    obtain ⟨u, hu, rfl⟩ := hi
    obtain ⟨y, y1, y2, y3⟩ := h3 i u hu
    exact ⟨y, y1, y2, rd u y y3⟩
   | list e' es' n' f' ver' =>
    obtain ⟨h1, h0, xs, h2, h3, h4⟩ := hh
    exact ⟨h1, h0, xs, h2, h3, fun i j hi hj => let ⟨y, y1, y2⟩ := h4 i j hi hj; ⟨y, y1, Reads.mono' (M := 0) (fun k hk => absurd hk (by omega)) (fun b o h => ⟨.inl h, rfl⟩) _ 0 0 y (by omega) (by omega) y2⟩⟩
   | dead => trivial
   | hole => exact hh
   | lrec st pd N' e' ps asg body =>
    obtain ⟨h0, hc, fn, tmps, D, h1, h2, h3⟩ := hh
    exact ⟨h0, hc, fn, tmps, D, h1, h2, fun t => by rw [look_map rfl]; exact rd _ _ (h3 t)⟩
   | iter s pos => exact hh
   | last e' es' n' cells' ver' =>
    obtain ⟨h1, h0, xs, h2, h3, hn', hl', h4⟩ := hh
    exact ⟨h1, h0, xs, h2, h3, hn', hl', fun i av hi => let ⟨y, y1, y2⟩ := h4 i av hi; ⟨y, y1, Reads.mono' (M := c.H.length) (fun k _ => ⟨fun _ => rfl, Nat.le_refl _, fun _ => rfl⟩) (fun b o h => ⟨.inl h, rfl⟩) av _ _ y (Nat.le_refl _) (Nat.le_refl _) y2⟩⟩
 have tt := t1.trans t2
 refine ⟨_, ⟨sat.tr.trans tt, sat.base.tr tt, rfl, fun t => ?_, sat.size, sat.marks.tr hok tt⟩, rfl⟩
 rw [look_map (φ := fun v => (frzV k ver es n f v).nv) rfl]
 have := rd _ _ (sat.env t)
 show Reads c.g _ c.w _ ((H.map (frzO (frzV k ver es n f))).set k .dead).length _
 rw [hl]
 exact (AV.le_nv _).reads this
end
/-! ### Regions, loops, functions -/
def outX {A : Type} : List Item -> Env -> (Env -> A) -> A
 | [], env, K => K env
 | it :: its, env, K => outX its env fun e => setDK it.o.dst (match it.mode with | .exec => it.av | _ => .any) e K
theorem outX_eq {A : Type} : ∀ (l : List Item) (env : Env) (K : Env -> A), outX l env K = K (outEnv l env)
 | [], env, K => rfl
 | it :: l, env, K => by simp only [outX, outEnv]; rw [outX_eq l, setDK_eq]; rfl
def rowsK {A : Type} : List W -> List HObj -> (List HObj -> A) -> A
 | [], H, K => K H
 | .set k (.list _ _ _ _ _) :: ws, H, K => rowAt k H fun H => rowsK ws H K
 | .elem k _ _ _ :: ws, H, K => rowAt k H fun H => rowsK ws H K
 | _ :: ws, H, K => rowsK ws H K
theorem LeOs.wk {X : Ctx} {n0 : Nat} {e : Env} {H H' : List HObj} (h : LeOs H H') : Wk X n0 e H e H' := fun {N c0 c a} _ s => by
 have tw := Tr.weaken s.tr.ok (H' := H') (by rw [s.own]; exact h.len) fun k o o' ho ho' => h.at k o o' (by rw [<- s.own]; exact ho) ho'
 exact ⟨⟨c.g, c.I, c.w, H'⟩, ⟨s.tr.trans tw, s.base.tr tw, rfl, fun t => tw.reads (s.env t), s.size, s.marks.tr s.tr.ok tw⟩, rfl⟩
theorem Wk.trans {X : Ctx} {n0 : Nat} {e1 e2 e3 : Env} {H1 H2 H3 : List HObj} (h1 : Wk X n0 e1 H1 e2 H2) (h2 : Wk X n0 e2 H2 e3 H3) : Wk X n0 e1 H1 e3 H3 := fun hn s => by
 obtain ⟨c', s', hw⟩ := h1 hn s
 obtain ⟨c'', s'', hw'⟩ := h2 hn s'
 exact ⟨c'', s'', hw'.trans hw⟩
theorem rowsK_eq {A : Type} {X : Ctx} {n0 : Nat} {e : Env} : ∀ (ws : List W) (H : List HObj), ∃ H', (∀ K : List HObj -> A, rowsK ws H K = K H') /\ Wk X n0 e H e H'
 | [], H => ⟨H, fun K => rfl, Wk.refl⟩
 | w :: ws, H => by
  have plain : (∀ K : List HObj -> A, rowsK (w :: ws) H K = rowsK ws H K) -> ∃ H', (∀ K : List HObj -> A, rowsK (w :: ws) H K = K H') /\ Wk X n0 e H e H' := fun h => by
   obtain ⟨H', h1, h2⟩ := rowsK_eq (A := A) (X := X) (n0 := n0) (e := e) ws H
   exact ⟨H', fun K => by rw [h, h1], h2⟩
  have row : ∀ k, (∀ K : List HObj -> A, rowsK (w :: ws) H K = rowAt k H fun H => rowsK ws H K) -> ∃ H', (∀ K : List HObj -> A, rowsK (w :: ws) H K = K H') /\ Wk X n0 e H e H' := fun k h => by
   obtain ⟨H1, h1, h2⟩ := rowAt_eq (A := A) k H
   obtain ⟨H', h3, h4⟩ := rowsK_eq (A := A) (X := X) (n0 := n0) (e := e) ws H1
   exact ⟨H', fun K => by rw [h, h2, h3], Wk.trans (LeOs.wk h1) h4⟩
  cases w with
  | set k o => cases o with
   | list => exact row k fun K => rfl
   | _ => exact plain fun K => rfl
  | cells => exact plain fun K => rfl
  | elem k p off l => exact row k fun K => rfl
def runReg (run : Run) (X : Ctx) (sub : SubT (Option RegR)) (draw : Bool) (ops : Array Oper) (e : Env) (H : List HObj) : Option RegR :=
 bif draw then regC (exMd run true) X (look e) ops.toList [] H fun done H' => bif footOK ops done.reverse then rowsK (done.flatMap (·.ws)) H' fun H' => outX done e fun e' => some (e', H') else none
 else seqEv (exMd run false) X sub ops.toList ops.toList e H fun e' H' => some (e', H')
def tryFrz (run : Run) (X : Ctx) (sub : SubT (Option RegR)) (draw : Bool) (ops : Array Oper) (e : Env) (H : List HObj) : Nat -> Option RegR
 | 0 => none
 | k + 1 =>
  match H[k]? with
  | some (.list _ es n f ver) =>
   match frzEK (frzV k ver es n f) e fun e1 => frzHK (frzV k ver es n f) k H fun H1 => runReg run X sub draw ops e1 H1 with
   | some r => some r
   | none => tryFrz run X sub draw ops e H k
  | _ => tryFrz run X sub draw ops e H k
def regX (run : Run) (X : Ctx) (sub : SubT (Option RegR)) {R : Type} (draw : Bool) (ops : Array Oper) (e : Env) (H : List HObj) (K : Env -> List HObj -> Option R) : Option R :=
 match runReg run X sub draw ops e H with
 | some (e', H') => K e' H'
 | none => match tryFrz run X sub draw ops e H H.length with | some (e', H') => K e' H' | none => none
def compactK {A : Type} : Nat -> Env -> (Env -> A) -> A
 | _, [], K => K []
 | seen, (t, v) :: e, K => bif Nat.testBit seen t then compactK seen e K else forceNat (Nat.lor seen (Nat.shiftLeft 1 t)) fun seen => compactK seen e fun e => K ((t, v) :: e)
theorem compactK_eq {A : Type} : ∀ (e : Env) (seen : Nat), ∃ e' : Env, (∀ K : Env -> A, compactK seen e K = K e') /\ ∀ t, Nat.testBit seen t = false -> look e' t = look e t
 | [], seen => ⟨[], fun K => rfl, fun t _ => rfl⟩
 | (s, v) :: e, seen => by
  cases hb : Nat.testBit seen s with
  | true =>
   obtain ⟨e', h1, h2⟩ := compactK_eq e seen
   refine ⟨e', fun K => by simp only [compactK, hb, cond_true]; exact h1 K, fun t ht => ?_⟩
   rw [h2 t ht]
   simp only [look]
   cases hs : Nat.beq s t with
   | false => rfl
   | true => rw [Nat.beq_eq] at hs; subst hs; rw [hb] at ht; cases ht
  | false =>
   obtain ⟨e', h1, h2⟩ := compactK_eq e (Nat.lor seen (Nat.shiftLeft 1 s))
   refine ⟨(s, v) :: e', fun K => by simp only [compactK, hb, cond_false, forceNat_eq]; rw [h1], fun t ht => ?_⟩
   simp only [look]
   cases hs : Nat.beq s t with
   | true => rfl
   | false =>
    simp only [cond_false]
    refine h2 t ?_
    have hne : s ≠ t := fun e => by subst e; simp at hs
    show Nat.testBit (seen ||| 1 <<< s) t = false
    rw [Nat.testBit_or, ht, Nat.one_shiftLeft, Nat.testBit_two_pow_of_ne hne]
    rfl
theorem look_eq_wk {X : Ctx} {n0 : Nat} {e e' : Env} {H : List HObj} (h : ∀ t, look e' t = look e t) : Wk X n0 e H e' H := fun _ s =>
 ⟨_, ⟨s.tr, s.base, s.own, fun t => by rw [h]; exact s.env t, s.size, s.marks⟩, rfl⟩
def loopX {R : Type} (fb : Env -> List HObj -> QT (Option R) -> Option R) : Nat -> Env -> List HObj -> QT (Option R) -> Option R
 | 0, _, _, _ => none
 | n + 1, e, H, Q => compactK 0 e fun e => fb e H (thenQ (fun e' H' => loopX fb n e' H' Q) Q)
def exC (run : Run) (X : Ctx) (F : FuncId -> Option Func) (sub : SubT (Option RegR)) {R : Type} (fsub : SubT (Option R)) : Cm (Option R) := { exMd run false with
 reg := regX run X sub
 cut := fun _ fa fb Q => fa (thenQ fb Q)
 loop := fun _ fb e H Q => loopX fb 1000000 e H Q
 ent := fun f K => match F f with | some fn => (match fn.body with | some code => bif fn.results.isEmpty then K fn.ntmps code else none | none => none) | none => none
 fsub := fsub }
def noSubX {R : Type} : SubT (Option R) := fun _ _ _ _ _ _ => none
def ex0 (run : Run) (X : Ctx) (F : FuncId -> Option Func) {R : Type} : Cm (Option R) := exC run X F noSubX noSubX
def ex1 (run : Run) (X : Ctx) (F : FuncId -> Option Func) {R : Type} : Cm (Option R) := exC run X F (fun N n0 => wpG (ex0 run X F) X n0 N) noSubX
def ex2 (run : Run) (X : Ctx) (F : FuncId -> Option Func) {R : Type} : Cm (Option R) := exC run X F noSubX (fun N n0 => wpG (ex1 run X F) X n0 N)
def endX (X : Ctx) (own : Bool) (rs : List ResultVar) (n0 : Nat) : QT (Option (AV × List HObj)) := fun x e H =>
 match x with
 | .normal | .ret =>
  match resList X e H rs with
  | none => none
  | some l => keepK n0 (bif own then [] else (tupAV l).ownsN) [] fun Fz => (frzF Fz H (tupAV l)).nf fun v => frzLK Fz H fun H =>
   reachK H 100000 (v.refs ++ (List.range n0).flatMap fun k => (H.getD k .dead).refs) [] fun got =>
   keepK n0 got [] fun keep =>
   allK n0 keep fun all =>
   bif v.refsIn all && (all.all fun q => (match H[q]? with | some o => o.refsIn all | none => false)) && nodupB all then
    (ren (idx all) v).nf fun r => lendK H all all fun L' => some (r, L')
   else none
 | _ => none
 where
 keepK {A : Type} (n0 : Nat) : List Nat -> List Nat -> (List Nat -> A) -> A
  | [], acc, K => K acc
  | k :: ks, acc, K => bif Nat.ble n0 k then forceNat k fun k => keepK n0 ks (k :: acc) K else keepK n0 ks acc K
 allK {A : Type} (n0 : Nat) (keep : List Nat) (K : List Nat -> A) : A := K (List.range n0 ++ keep)
def exFn (X : Ctx) (F : FuncId -> Option Func) (own : FuncId -> Bool) (lib : FuncId -> List AV -> List HObj -> Option (AV × List HObj)) : Nat -> Run
 | 0, _, _, _ => none
 | fu + 1, f, args, L =>
  match lib f args L with
  | some (r, L') => r.dp fun r => some (r, L')
  | none =>
   match F f with
   | none => none
   | some fn =>
    match fn.body with
    | none => none
    | some code => bif Nat.ble args.length fn.ntmps then wpG (ex2 (exFn X F own lib fu) X F) X L.length fn.ntmps code (argEnv args 0) L (endX X (own f) fn.results.toList L.length) else none
section
variable {X : Ctx} {run : Run} {F : FuncId -> Option Func}
theorem runReg_sound (hX : X.Good) (hrun : ∀ {f args L r L'}, run f args L = some (r, L') -> Mut X f args L r L') {sub : SubT (Option RegR)} (hsub : ∀ res, SubOK X (fun x => x = some res) sub) {N id : Nat} {ops : Array Oper} {draw : Bool} {e e' : Env} {H H' : List HObj} (hs : regOK N ops draw = true)
  (h : runReg run X sub draw ops e H = some (e', H')) {c0 c : Cfg} {a : Act} {Q' : Exit -> Act -> World -> Prop} (ρ : Option Nat) (sat : Sat X N c0 e H c a) (post : ∀ c' a', Sat X N c0 e' H' c' a' -> Q' .normal a' c'.w) : (Code.region id ops draw).wpIn (FR ρ) 0 X.P Q' a c.w := by
 unfold runReg at h
 have hd : ∀ (j : Nat) (o : Oper) d, ops[j]? = some o -> o.dst = some d -> d < N := fun j o d ho hd => by
  simp only [regOK, Bool.and_eq_true] at hs
  have := List.all_eq_true.1 hs.1.2 d (List.mem_filterMap.2 ⟨o, by simpa using Array.mem_of_getElem? ho, hd⟩)
  rwa [Nat.blt_eq] at this
 cases draw with
 | true =>
  simp only [cond_true] at h
  obtain ⟨its, h1, h2, h3, h4⟩ := regC_spec (T := fun x => x = some (e', H')) hX (exMd_ok hrun _) (look e) ops.toList [] H _ h
  simp only [List.append_nil, List.reverse_reverse, List.reverse_nil, List.nil_append, List.length_nil, Nat.zero_add] at h2 h4
  cases hf : footOK ops its with
  | false => rw [hf] at h2; cases h2
  | true =>
   rw [hf] at h2
   simp only [cond_true] at h2
   obtain ⟨H2, hr1, hr2⟩ := rowsK_eq (A := Option RegR) (X := X) (n0 := c0.H.length) (e := outEnv its.reverse e) (its.reverse.flatMap (·.ws)) (after H its)
   rw [hr1, outX_eq] at h2
   simp only [Option.some.injEq, Prod.mk.injEq] at h2
   obtain ⟨rfl, rfl⟩ := h2
   exact region_of hX hs h1 (fun _ => hf) h3 h4 sat (fun c' a' s => by
    obtain ⟨c2, s2, hw⟩ := hr2 rfl s
    rw [<- hw]
    exact post c2 a' s2) ρ
 | false =>
  simp only [cond_false] at h
  refine wpIn_region ?_
  rw [List.range_eq_range']
  have := seq_sound (T := fun x => x = some (e', H')) hX (exMd_ok hrun _) (hsub _) hd ρ (Q' := Q') (c0 := c0) (fun e2 H2 c' a' hq s => by
   simp only [Option.some.injEq, Prod.mk.injEq] at hq
   obtain ⟨rfl, rfl⟩ := hq
   exact post c' a' s) ops.toList 0 e H c a rfl h sat
  rw [Array.length_toList] at this
  exact this
theorem tryFrz_sound (hX : X.Good) (hrun : ∀ {f args L r L'}, run f args L = some (r, L') -> Mut X f args L r L') {sub : SubT (Option RegR)} (hsub : ∀ res, SubOK X (fun x => x = some res) sub) {N id : Nat} {ops : Array Oper} {draw : Bool} {e e' : Env} {H H' : List HObj} (hs : regOK N ops draw = true)
  {c0 c : Cfg} {a : Act} {Q' : Exit -> Act -> World -> Prop} (ρ : Option Nat) (sat : Sat X N c0 e H c a) (post : ∀ c' a', Sat X N c0 e' H' c' a' -> Q' .normal a' c'.w) : ∀ (k : Nat), tryFrz run X sub draw ops e H k = some (e', H') -> (Code.region id ops draw).wpIn (FR ρ) 0 X.P Q' a c.w
 | 0, h => by cases h
 | k + 1, h => by
  unfold tryFrz at h
  split at h
  ·rename_i te es n f ver hk
   split at h
   ·rename_i r hr
    rw [frzEK_eq, frzHK_eq] at hr
    cases h
    obtain ⟨c', s', hw⟩ := frz_wk (X := X) (n0 := c0.H.length) (env := e) hk rfl sat
    rw [<- hw]
    exact runReg_sound hX hrun hsub hs hr ρ s' post
   ·exact tryFrz_sound hX hrun hsub hs ρ sat post k h
  ·exact tryFrz_sound hX hrun hsub hs ρ sat post k h
theorem exC_ok (hX : X.Good) (hrun : ∀ {f args L r L'}, run f args L = some (r, L') -> Mut X f args L r L') (hF : ∀ {f fn}, F f = some fn -> ∀ {code}, fn.body = some code -> FnIs X f fn code) {sub : SubT (Option RegR)} (hsub : ∀ res, SubOK X (fun x => x = some res) sub) {R : Type} {fsub : SubT (Option R)} (res : R) (hfsub : SubOK X (fun x => x = some res) fsub) :
  (exC run X F sub fsub).Ok X (fun x => x = some res) := {
 md := exMd_ok hrun res
 reg := by
  intro N id ops draw e H K hs h c0 c a Q' ρ sat post
  have h : regX run X sub draw ops e H K = some res := h
  unfold regX at h
  split at h
  ·rename_i e' H' hr
   exact runReg_sound hX hrun hsub hs hr ρ sat fun c' a' s => post _ _ _ _ h s
  ·split at h
   ·rename_i e' H' hr
    exact tryFrz_sound hX hrun hsub hs ρ sat (fun c' a' s => post _ _ _ _ h s) _ hr
   ·cases h
 cut := fun {n0 fa fb Q} h => ⟨_, h, fun x e H hx hq => by cases x <;> first | exact absurd rfl hx | exact hq, fun e H hq => ⟨e, H, Wk.refl, hq⟩⟩
 loop := fun {n0 fb e H Q} h => by
  have h : loopX fb 1000000 e H Q = some res := h
  have wk : ∀ (n : Nat) (e1 : Env) (H1 : List HObj), loopX fb n e1 H1 Q = some res -> ∃ e2, Wk X n0 e1 H1 e2 H1 /\ ∃ m, m + 1 = n /\ fb e2 H1 (thenQ (fun e' H' => loopX fb m e' H' Q) Q) = some res := fun n e1 H1 h => by
   cases n with
   | zero => cases h
   | succ m =>
    obtain ⟨e2, h1, h2⟩ := compactK_eq (A := Option R) e1 0
    simp only [loopX] at h
    rw [h1] at h
    exact ⟨e2, look_eq_wk fun t => h2 t (Nat.zero_testBit t), m, rfl, h⟩
  refine ⟨Nat × Env × List HObj, fun y => (y.2.1, y.2.2), fun y => fb y.2.1 y.2.2 (thenQ (fun e' H' => loopX fb y.1 e' H' Q) Q) = some res, fun y => y.1, fun y => thenQ (fun e' H' => loopX fb y.1 e' H' Q) Q, ?_, fun y hy => ⟨hy, fun x e H hx hq => by cases x <;> first | exact absurd rfl hx | exact hq, fun e2 H2 hq => ?_⟩⟩
  ·obtain ⟨e2, h1, m, _, h2⟩ := wk _ _ _ h
   exact ⟨(m, e2, H), h2, h1⟩
  ·obtain ⟨e3, h1, m, hm, h2⟩ := wk _ _ _ hq
   exact ⟨(m, e3, H2), h2, by show m < y.1; omega, h1⟩
 ent := fun {f K} h => by
  have h : (match F f with | some fn => (match fn.body with | some code => bif fn.results.isEmpty then K fn.ntmps code else none | none => none) | none => none) = some res := h
  split at h
  ·rename_i fn hfn
   split at h
   ·rename_i code hc
    cases hr : fn.results.isEmpty with
    | false => rw [hr] at h; cases h
    | true => rw [hr] at h; exact ⟨fn, code, hF hfn hc, hr, h⟩
   ·cases h
  ·cases h
 fsub := hfsub }
theorem noSubX_ok {R : Type} (res : R) : SubOK X (fun x => x = some res) noSubX := fun _ _ _ _ _ _ _ h => by cases h
theorem ex0_ok (hX : X.Good) (hrun : ∀ {f args L r L'}, run f args L = some (r, L') -> Mut X f args L r L') (hF : ∀ {f fn}, F f = some fn -> ∀ {code}, fn.body = some code -> FnIs X f fn code) {R : Type} (res : R) : (ex0 run X F).Ok X (fun x => x = some res) := exC_ok hX hrun hF noSubX_ok res (noSubX_ok res)
theorem ex0_sub (hX : X.Good) (hrun : ∀ {f args L r L'}, run f args L = some (r, L') -> Mut X f args L r L') (hF : ∀ {f fn}, F f = some fn -> ∀ {code}, fn.body = some code -> FnIs X f fn code) {R : Type} (res : R) : SubOK X (fun x => x = some res) (fun N n0 => wpG (ex0 run X F) X n0 N) := fun N n0 code hc e H Q h c0 c a Q' ρ hn sat post =>
 wpG_sound hX (ex0_ok hX hrun hF res) (.inr rfl) code hc h hn sat post
theorem ex1_ok (hX : X.Good) (hrun : ∀ {f args L r L'}, run f args L = some (r, L') -> Mut X f args L r L') (hF : ∀ {f fn}, F f = some fn -> ∀ {code}, fn.body = some code -> FnIs X f fn code) {R : Type} (res : R) : (ex1 run X F).Ok X (fun x => x = some res) := exC_ok hX hrun hF (fun res => ex0_sub hX hrun hF res) res (noSubX_ok res)
theorem ex1_sub (hX : X.Good) (hrun : ∀ {f args L r L'}, run f args L = some (r, L') -> Mut X f args L r L') (hF : ∀ {f fn}, F f = some fn -> ∀ {code}, fn.body = some code -> FnIs X f fn code) {R : Type} (res : R) : SubOK X (fun x => x = some res) (fun N n0 => wpG (ex1 run X F) X n0 N) := fun N n0 code hc e H Q h c0 c a Q' ρ hn sat post =>
 wpG_sound hX (ex1_ok hX hrun hF res) (.inr rfl) code hc h hn sat post
theorem ex2_ok (hX : X.Good) (hrun : ∀ {f args L r L'}, run f args L = some (r, L') -> Mut X f args L r L') (hF : ∀ {f fn}, F f = some fn -> ∀ {code}, fn.body = some code -> FnIs X f fn code) {R : Type} (res : R) : (ex2 run X F).Ok X (fun x => x = some res) := exC_ok hX hrun hF noSubX_ok res (ex1_sub hX hrun hF res)
theorem LeOHs.of {G H : List HObj} {σ : Nat -> Nat} : ∀ {ks : List Nat} {Ls : List HObj}, ks.length = Ls.length -> (∀ (j k : Nat) L, ks[j]? = some k -> Ls[j]? = some L -> ∃ o, H[k]? = some o /\ LeOH G o (renO σ L)) -> LeOHs G H σ ks Ls
 | [], [], _, _ => trivial
 | [], _ :: _, h, _ => by simp at h
 | _ :: _, [], h, _ => by simp at h
 | k :: ks, L :: Ls, h, h2 => by
  obtain ⟨o, h3, h4⟩ := h2 0 k L rfl rfl
  refine ⟨by rw [h3]; exact h4, LeOHs.of (by simpa using h) fun j k' L' hk hL => h2 (j + 1) k' L' (by simpa using hk) (by simpa using hL)⟩
theorem keepK_eq {A : Type} (n0 : Nat) : ∀ (ks acc : List Nat), ∃ l, ∀ (K : List Nat -> A), endX.keepK n0 ks acc K = K l
 | [], acc => ⟨acc, fun K => rfl⟩
 | k :: ks, acc => by
  simp only [endX.keepK]
  cases Nat.ble n0 k with
  | true => simp only [cond_true, forceNat_eq]; exact keepK_eq n0 ks _
  | false => exact keepK_eq n0 ks acc
theorem endX_ends {own : Bool} {rs : List ResultVar} {n0 : Nat} {x : Exit} {e : Env} {H L' : List HObj} {r : AV} (h : endX X own rs n0 x e H = some (r, L')) : (x = .normal \/ x = .ret) /\ Ends X rs n0 r L' e H := by
 have key : (match resList X e H rs with
  | none => none
  | some l => endX.keepK n0 (bif own then [] else (tupAV l).ownsN) [] fun Fz => (frzF Fz H (tupAV l)).nf fun v => frzLK Fz H fun H =>
   reachK H 100000 (v.refs ++ (List.range n0).flatMap fun k => (H.getD k .dead).refs) [] fun got =>
   endX.keepK n0 got [] fun keep =>
   endX.allK n0 keep fun all =>
   bif v.refsIn all && (all.all fun q => (match H[q]? with | some o => o.refsIn all | none => false)) && nodupB all then
    (ren (idx all) v).nf fun r => lendK H all all fun L' => some (r, L')
   else none) = some (r, L') -> Ends X rs n0 r L' e H := by
  intro h
  split at h
  ·cases h
  ·rename_i l hl
   obtain ⟨Fz, hFz⟩ := keepK_eq (A := Option (AV × List HObj)) n0 (bif own then [] else (tupAV l).ownsN) []
   rw [hFz, AV.nf_eq, frzLK_eq] at h
   obtain ⟨got, hgot⟩ := reachK_eq (A := Option (AV × List HObj)) (frzL Fz H) 100000 ((frzF Fz H (tupAV l)).nv.refs ++ (List.range n0).flatMap fun k => ((frzL Fz H).getD k .dead).refs) []
   rw [hgot] at h
   obtain ⟨keep, hkeep⟩ := keepK_eq (A := Option (AV × List HObj)) n0 got []
   rw [hkeep] at h
   simp only [endX.allK] at h
   generalize hall : List.range n0 ++ keep = all at h
   generalize hc : ((frzF Fz H (tupAV l)).nv.refsIn all && (all.all fun q => (match (frzL Fz H)[q]? with | some o => o.refsIn all | none => false)) && nodupB all) = b at h
   cases b with
   | false => cases h
   | true =>
    simp only [cond_true] at h
    rw [AV.nf_eq, lendK_eq] at h
    simp only [Option.some.injEq, Prod.mk.injEq] at h
    obtain ⟨rfl, rfl⟩ := h
    simp only [Bool.and_eq_true] at hc
    obtain ⟨⟨c1, c2⟩, c3⟩ := hc
    have hobj : ∀ q ∈ all, ∃ o, (frzL Fz H)[q]? = some o /\ o.refsIn all = true := fun q hq => by
     have := List.all_eq_true.1 c2 q hq
     split at this
     ·rename_i o ho; exact ⟨o, ho, this⟩
     ·cases this
    have hlen : (all.map fun k => renO (idx all) ((frzL Fz H).getD k .dead)).length = all.length := by simp
    refine .mk keep Fz l hl ?_ ?_ ?_
    ·rw [hall]
     refine (frzF_le (tupAV l)).trans_le ((AV.le_nv _).trans ((ren_inv (l2 := []) _ c1).trans ?_))
     rw [List.append_nil]
     exact (AV.le_nv _).ren _
    ·rw [hall]
     refine LeOHs.of (by simp) fun j q L hq hL => ?_
     obtain ⟨o, h1, h2⟩ := hobj q (List.mem_of_getElem? hq)
     refine ⟨o, h1, .le ?_⟩
     simp only [List.getElem?_map, hq, Option.map_some, Option.some.injEq] at hL
     subst hL
     simp only [List.getD_eq_getElem?_getD, h1, Option.getD_some]
     have := renO_inv (l2 := []) h2
     rwa [List.append_nil] at this
    ·rw [hall, hlen]
     simp only [Bool.and_eq_true, List.all_map, List.all_eq_true]
     refine ⟨fun q hq => ?_, AV.nv_under _ (under_idx _ c1), c3⟩
     obtain ⟨o, h1, h2⟩ := hobj q hq
     simp only [Function.comp_apply, List.getD_eq_getElem?_getD, h1, Option.getD_some]
     exact underO_idx h2
 unfold endX at h
 cases x with
 | normal => exact ⟨.inl rfl, key h⟩
 | ret => exact ⟨.inr rfl, key h⟩
 | _ => cases h
theorem Mut.le {f : FuncId} {args : List AV} {L L' : List HObj} {r r' : AV} (h : Mut X f args L r L') (hl : Le r r') : Mut X f args L r' L' :=
 ⟨h.1, fun c cargs hok hb hL hsz hargs => (h.2 c cargs hok hb hL hsz hargs).mono fun e w' ⟨v, c', h1, h2, h3, h4, h5⟩ => ⟨v, c', h1, h2, h3, h4, hl.reads h5⟩⟩
theorem exFn_ok (hX : X.Good) {own : FuncId -> Bool} {lib : FuncId -> List AV -> List HObj -> Option (AV × List HObj)} (hlib : ∀ {f args L r L'}, lib f args L = some (r, L') -> Mut X f args L r L') (hF : ∀ {f fn}, F f = some fn -> ∀ {code}, fn.body = some code -> FnIs X f fn code) :
  ∀ (fu : Nat) {f : FuncId} {args : List AV} {L L' : List HObj} {r : AV}, exFn X F own lib fu f args L = some (r, L') -> Mut X f args L r L'
 | 0, _, _, _, _, _, h => by cases h
 | fu + 1, f, args, L, L', r, h => by
  unfold exFn at h
  split at h
  ·rename_i r1 L1 hl
   obtain ⟨r', h1, h2⟩ := AV.dp_eq (A := Option (AV × List HObj)) r1
   rw [h2] at h
   simp only [Option.some.injEq, Prod.mk.injEq] at h
   obtain ⟨rfl, rfl⟩ := h
   exact (hlib hl).le h1
  ·split at h
   ·cases h
   ·rename_i fn hfn
    split at h
    ·cases h
    ·rename_i code hc
     cases hp : Nat.ble args.length fn.ntmps with
     | false => rw [hp] at h; cases h
     | true =>
      rw [hp] at h
      simp only [cond_true] at h
      exact mut_of_wpG hX (ex2_ok hX (fun h => exFn_ok hX hlib hF fu h) hF (r, L')) (hF hfn hc) hp h fun x e H hq => endX_ends hq
end
end Go.Fx
/-
 The symbolic reading told by recursors, so that whoever reduces it meets the kernel's own forms.
-/
namespace Go.Fx
open Go.RowKit
noncomputable def wpR {A : Type} (M : Cm A) (X : Ctx) (n0 N : Nat) (c : Code) : Env -> List HObj -> QT A -> A :=
 Code.rec (motive := fun _ => Env -> List HObj -> QT A -> A)
  (fun e H Q => Q .normal e H)
  (fun _ ops draw e H Q => M.reg draw ops e H fun e H => Q .normal e H)
  (fun a _ fa fb e H Q => bif isReg a then fa e H (thenQ (fun e H => fb e H Q) Q) else M.cut n0 (fun Q => fa e H Q) (fun e H => fb e H Q) Q)
  (fun c _ _ fx fy e H Q => match rdO X (look e) c with | .bool b => M.br b (fx e H Q) (fy e H Q) | _ => M.fail)
  (fun id _ fb e H Q => fb e H fun x e' H' => match x with | .exit i => bif Nat.beq i id then Q .normal e' H' else Q (.exit i) e' H' | x => Q x e' H')
  (fun _ fb e H Q => M.loop n0 (fun e H Q => fb e H Q) e H Q)
  (fun g ps asg body _ _ e H Q => match rdO X (look e) g with
   | .fn gf n caps => M.ent gf fun N' code => bif Nat.ble (n + 1) N' then M.fsub N' (H.length + 1) code (argEnv (.yld H.length :: (List.range n).map caps) 0) (H ++ [.lrec .ready none N e ps asg body]) fun x _ H' => rangeEnd M H.length e Q x H' else M.fail
   | _ => M.fail)
  (fun id e H Q => Q (.exit id) e H)
  (fun _ _ _ _ _ => M.fail)
  (fun _ _ _ _ => M.fail)
  (fun _ _ _ _ => M.fail)
  (fun e H Q => Q .ret e H)
  (fun _ _ _ _ => M.fail) c
theorem wpR_eq {A : Type} (M : Cm A) (X : Ctx) (n0 N : Nat) : ∀ (c : Code), wpR M X n0 N c = wpG M X n0 N c := by
 intro c
 induction c with
 | seq a b ha hb =>
  funext e H Q
  show (bif isReg a then wpR M X n0 N a e H (thenQ (fun e H => wpR M X n0 N b e H Q) Q) else M.cut n0 (fun Q => wpR M X n0 N a e H Q) (fun e H => wpR M X n0 N b e H Q) Q) = _
  rw [ha, hb]; rfl
 | cond c x y hx hy =>
  funext e H Q
  show (match rdO X (look e) c with | .bool b => M.br b (wpR M X n0 N x e H Q) (wpR M X n0 N y e H Q) | _ => M.fail) = _
  rw [hx, hy]; rfl
 | block id b hb =>
  funext e H Q
  show wpR M X n0 N b e H _ = _
  rw [hb]; rfl
 | loop b hb =>
  funext e H Q
  show M.loop n0 (fun e H Q => wpR M X n0 N b e H Q) e H Q = _
  rw [hb]; rfl
 | _ => rfl
noncomputable def regR (X : Ctx) (base : Nat -> AV) (os : List Oper) : List Item -> List HObj -> (List Item -> List HObj -> Prop) -> Prop :=
 List.rec (motive := fun _ => List Item -> List HObj -> (List Item -> List HObj -> Prop) -> Prop)
  (fun done H k => k done H)
  (fun o _ ih done H k =>
   match o.guard with
   | none => opEv (symM X) X none (fun g x => rdO X (lookI g done base) x) none H o.op fun av rs ws m => av.force fun av => effH H m ws fun H => ih (⟨o, .exec, True, av, rs, ws, m⟩ :: done) H k
   | some (i, w) =>
    match itemAt done i with
    | none => False
    | some y =>
     match y.mode, y.o.dst, y.av with
     | .skip, some _, _ => ih (⟨o, .skip, True, .any, [], [], 0⟩ :: done) H k
     | .exec, some t, .bool p =>
      oneOr (quietOp o.op) (opEv (symM X) X (some (p = w)) (fun g x => rdO X (lookI g done base) x) (some (t, w)) H o.op fun av rs ws m => noEff ws m (av.force fun av => ih (⟨o, .cond t w, p = w, av, rs, [], 0⟩ :: done) H k))
       ((p = w -> opEv (symM X) X none (fun g x => rdO X (lookI g done base) x) none H o.op fun av rs ws m => av.force fun av => effH H m ws fun H => ih (⟨o, .exec, True, av, rs, ws, m⟩ :: done) H k) /\
         (p = !w -> ih (⟨o, .skip, True, .any, [], [], 0⟩ :: done) H k))
     | .cond _ _, some t, .bool p => opEv (symM X) X (some (y.gd /\ p = w)) (fun g x => rdO X (lookI g done base) x) (some (t, w)) H o.op fun av rs ws m => noEff ws m (av.force fun av => ih (⟨o, .cond t w, y.gd /\ p = w, av, rs, [], 0⟩ :: done) H k)
     | _, _, _ => False) os
theorem regR_eq (X : Ctx) (base : Nat -> AV) : ∀ (os : List Oper), regR X base os = regEv X base os
 | [] => rfl
 | o :: os => by
  have ih := regR_eq X base os
  funext done H k
  unfold regEv
  rw [<- ih]
  rfl
def symRegR (X : Ctx) (sub : SubT Prop) (draw : Bool) (ops : Array Oper) (e : Env) (H : List HObj) (K : Env -> List HObj -> Prop) : Prop :=
 bif draw then regR X (look e) ops.toList [] H fun done H' => footOK ops done.reverse = true /\ outK done e fun e => K e H'
 else bif ops.toList.any dynOp then seqEv (symM X) X sub ops.toList ops.toList e H K
 else regR X (look e) ops.toList [] H fun done H' => outK done e fun e => K e H'
theorem symRegR_eq (X : Ctx) (sub : SubT Prop) : symRegR X sub = symReg X sub := by
 funext draw ops e H K
 unfold symRegR symReg
 rw [regR_eq]
def symCR (X : Ctx) (sub fsub : SubT Prop) : Cm Prop := { symC X sub fsub with reg := symRegR X sub }
theorem symCR_eq (X : Ctx) (sub fsub : SubT Prop) : symCR X sub fsub = symC X sub fsub := by
 unfold symCR
 rw [symRegR_eq]
 rfl
noncomputable def symR0 (X : Ctx) : Cm Prop := symCR X noSub noSub
noncomputable def symR1 (X : Ctx) : Cm Prop := symCR X (fun N n0 => wpR (symR0 X) X n0 N) noSub
noncomputable def symR2 (X : Ctx) : Cm Prop := symCR X noSub (fun N n0 => wpR (symR1 X) X n0 N)
theorem wpR_fun {A : Type} (M : Cm A) (X : Ctx) : (fun N n0 => wpR M X n0 N) = (fun N n0 => wpG M X n0 N) := by
 funext N n0 c
 exact wpR_eq M X n0 N c
theorem symR0_eq (X : Ctx) : symR0 X = sym0 X := symCR_eq X _ _
theorem symR1_eq (X : Ctx) : symR1 X = sym1 X := by
 unfold symR1 sym1
 rw [symCR_eq, symR0_eq, wpR_fun]
theorem symR2_eq (X : Ctx) : symR2 X = sym2 X := by
 unfold symR2 sym2
 rw [symCR_eq, symR1_eq, wpR_fun]
theorem mut_of' {X : Ctx} (hX : X.Good) {f : FuncId} {fn : Func} {code : Code} {args : List AV} {L L' : List HObj} {r : AV} (hf : FnIs X f fn code) (hp : Nat.ble args.length fn.ntmps = true)
  (h : wpR (symR2 X) X L.length fn.ntmps code (argEnv args 0) L fun x e H => match x with | .normal => Ends X fn.results.toList L.length r L' e H | .ret => Ends X fn.results.toList L.length r L' e H | _ => False) : Mut X f args L r L' := by
 rw [symR2_eq, wpR_eq] at h
 exact mut_of hX hf hp h
end Go.Fx
/-
 What a call leaves, told in other words: an empty slice in a box as a list of one's own; a new list in the place of one that was given up; a list in a box given for good.
-/
namespace Go.Fx
open Go.RowKit
theorem Mut.conv {X : Ctx} {f : FuncId} {args : List AV} {L L' L2 : List HObj} {r r2 : AV} (h : Mut X f args L r L')
  (hc : ∀ (c c' : Cfg) (v : Value), c.H = L -> Tr c c' -> c'.H = L' -> c'.Reads r v -> ∃ c2 : Cfg, c2.w = c'.w /\ Tr c c2 /\ c2.H = L2 /\ c2.Reads r2 v) : Mut X f args L r2 L2 :=
 ⟨h.1, fun c cargs hok hb hL hsz hargs => (h.2 c cargs hok hb hL hsz hargs).mono fun x w' ⟨v, c', h1, h2, h3, h4, h5⟩ => by
  obtain ⟨c2, k1, k2, k3, k4⟩ := hc c c' v hL h3 h4 h5
  exact ⟨v, c2, h1, k1.trans h2, k2, k3, k4⟩⟩
theorem LeOHs.ofEq {G H' : List HObj} {σ : Nat -> Nat} : ∀ {ks : List Nat} {Ls : List HObj}, ks.map (fun k => H'[k]?) = Ls.map (fun L => some (renO σ L)) -> LeOHs G H' σ ks Ls
 | [], [], _ => trivial
 | k :: ks, L :: Ls, h => by
  simp only [List.map_cons, List.cons.injEq] at h
  refine ⟨?_, LeOHs.ofEq h.2⟩
  rw [h.1]
  exact .le (.refl _)
 | [], _ :: _, h => by simp at h
 | _ :: _, [], h => by simp at h
theorem LeOks.ofEq {H : List HObj} : ∀ {ks : List Nat} {Ls : List HObj}, ks.map (fun k => H[k]?) = Ls.map some -> LeOks H ks Ls
 | [], [], _ => trivial
 | k :: ks, L :: Ls, h => by
  simp only [List.map_cons, List.cons.injEq] at h
  refine ⟨?_, LeOks.ofEq h.2⟩
  rw [h.1]
  exact .refl _
 | [], _ :: _, h => by simp at h
 | _ :: _, [], h => by simp at h
theorem LeOs.ofEq {a b : List HObj} (h : a = b) : LeOs a b := h ▸ .refl _
theorem HLe.ofEq : ∀ {H G : List HObj}, H.take G.length = G -> HLe H G
 | _, [], _ => by unfold HLe; trivial
 | a :: r, b :: s, h => by
  simp only [List.length_cons, List.take_succ_cons, List.cons.injEq] at h
  obtain ⟨rfl, h⟩ := h
  exact ⟨.refl _, HLe.ofEq h⟩
 | [], _ :: _, h => by simp at h
theorem Mut.frame {X : Ctx} {f : FuncId} {args bs : List AV} {L : List HObj} {r : AV} (h : Pure X f bs r) (hr : r.free = true) (hfree : (bs.all (·.free)) = true) (hlen : bs.length = args.length)
  (hl : ∀ (c : Cfg), c.Ok -> c.H = L -> ∀ (j : Nat) a b v, args[j]? = some a -> bs[j]? = some b -> c.Reads a v -> c.Reads b v) : Mut X f args L r L := by
 refine ⟨h.1, fun c cargs hok hb hL hsz hargs => ?_⟩
 let cc : Cfg := ⟨c.g, c.I, c.w, []⟩
 have hccok : cc.Ok := ⟨fun k o h => by simp [cc] at h, fun i j oi oj b h => by simp [cc] at h, fun k o b h => by simp [cc] at h, fun b o h => hok.imm b o h, fun b o k ob _ h => by simp [cc] at h⟩
 have hccb : Base X cc := ⟨hb.below, fun b o h => hb.imm b o h, fun b ⟨k, o, h, _⟩ => by simp [cc] at h⟩
 have hown : ∀ b, ¬ cc.Owns b := fun b ⟨k, o, h, _⟩ => by simp [cc] at h
 refine (h.2 cc cargs hccok hccb rfl (by omega) fun j av hj => ?_).mono ?_
 ·have hlt : j < args.length := by rw [<- hlen]; exact (List.getElem?_eq_some_iff.1 hj).1
  obtain ⟨v, k1, k2⟩ := hargs j args[j] (List.getElem?_eq_getElem hlt)
  exact ⟨v, k1, AV.free_reads (g' := c.g) _ _ _ _ (List.all_eq_true.1 hfree _ (List.mem_of_getElem? hj)) (hl c hok hL j _ av v (List.getElem?_eq_getElem hlt) hj k2)⟩
 ·rintro x w' ⟨v, cc', rfl, rfl, htr, hH', hread⟩
  have hI : ∀ b o, cc'.I b o -> c.I b o \/ c.w.heap.size <= b := fun b o hi => by
   rcases htr.new b o hi with q | q | q
   ·exact .inl q
   ·exact .inr q
   ·exact absurd q (hown b)
  have hbl : ∀ b, b < c.w.heap.size -> cc'.w.heap[b]? = c.w.heap[b]? := fun b hb => htr.block b hb (hown b)
  have hkeep : ∀ b o, c.I b o -> cc'.I b o /\ cc'.w.cell? ⟨b, o, none⟩ = c.w.cell? ⟨b, o, none⟩ := fun b o hi => htr.keep b o hi
  refine ⟨v, ⟨c.g, cc'.I, cc'.w, c.H⟩, rfl, rfl, ?_, hL, ?_⟩
  ·refine ⟨⟨fun k o hk => Holds.mono (fun k _ => ⟨fun _ => rfl, Nat.le_refl _, fun _ => rfl⟩) hkeep (Nat.le_refl _) rfl (fun b hb => hbl b (hok.old k o b hk hb)) (hok.obj k o hk), hok.apart, fun k o b hk hb => Nat.lt_of_lt_of_le (hok.old k o b hk hb) htr.size, htr.ok.imm, fun b o k ob hi hk hb => ?_⟩, Nat.le_refl _, fun k _ => ⟨fun _ => rfl, Nat.le_refl _, fun _ => rfl⟩, hkeep, fun b o hi => ?_, fun b h => .inr h, htr.os, htr.tape, htr.output, htr.size, fun b hb _ => hbl b hb⟩
   ·rcases hI b o hi with q | q
    ·exact hok.immApart b o k ob q hk hb
    ·have := hok.old k ob b hk hb; omega
   ·rcases hI b o hi with q | q
    ·exact .inl q
    ·exact .inr (.inl q)
  ·exact Reads.mono' (M := 0) (g := cc'.g) (I := cc'.I) (w := cc'.w) (fun k hk => absurd hk (Nat.not_lt_zero k)) (fun b o h => ⟨h, rfl⟩) r 0 _ v (Nat.le_refl _) (Nat.zero_le _) (AV.free_reads (g' := c.g) r _ 0 v hr hread)
theorem Mut.ver {X : Ctx} {f : FuncId} {r : AV} {e es n v : Nat} {F : Nat -> Nat -> AV} (h : Mut X f [.own 0 1] [.list e es n F 1] r [.list e es n F 1]) (hr : r.free = true) : Mut X f [.own 0 v] [.list e es n F v] r [.list e es n F v] := by
 refine ⟨h.1, fun c cargs hok hb hL hsz hargs => ?_⟩
 have hl : c.H.length = 1 := by rw [hL]; rfl
 have hh : Holds c.g c.I c.w c.H.length 0 (.list e es n F v) := hok.obj 0 _ (by rw [hL]; rfl)
 obtain ⟨h1, h2, xs, h3, h4, h5⟩ := hh
 let g1 := upd c.g 0 ⟨(c.g 0).b, (c.g 0).v, 1⟩
 have g10 : g1 0 = ⟨(c.g 0).b, (c.g 0).v, 1⟩ := upd_same _ _ _
 have one : ∀ {α : HObj} {a : HObj} {k : Nat} {o : HObj}, ([a] : List HObj)[k]? = some o -> k = 0 /\ o = a := fun {α a k o} h => by
  cases k with
  | zero => exact ⟨rfl, (Option.some.inj h).symm⟩
  | succ k => simp at h
 let c1 : Cfg := ⟨g1, c.I, c.w, [.list e es n F 1]⟩
 have vb : ∀ b, blk c.g 0 (.list e es n F v) = some b ↔ blk g1 0 (.list e es n F 1) = some b := fun b => by simp [blk, g10]
 have hok1 : c1.Ok := by
  refine ⟨fun k o hk => ?_, fun i j oi oj b hi hj hne _ => ?_, fun k o b hk hbk => ?_, hok.imm, fun b o k ob hi hk hbk => ?_⟩
  ·obtain ⟨rfl, rfl⟩ := one (α := .dead) hk
   refine ⟨by show (g1 0).ver = 1; rw [g10], Nat.one_pos, xs, by show OwnsL _ _ _ (g1 0).v _ _; rw [g10]; exact h3, h4, fun i j hi hj => ?_⟩
   obtain ⟨x, x1, x2⟩ := h5 i j hi hj
   exact ⟨x, x1, Reads.mono' (M := 0) (fun k hk => absurd hk (Nat.not_lt_zero k)) (fun b o h => ⟨h, rfl⟩) _ 0 0 x (Nat.le_refl _) (Nat.le_refl _) x2⟩
  ·have a := one (α := .dead) hi
   have b := one (α := .dead) hj
   exact absurd (a.1.trans b.1.symm) hne
  ·obtain ⟨rfl, rfl⟩ := one (α := .dead) hk
   exact hok.old 0 _ b (by rw [hL]; rfl) ((vb b).2 hbk)
  ·obtain ⟨rfl, rfl⟩ := one (α := .dead) hk
   exact hok.immApart b o 0 _ hi (by rw [hL]; rfl) ((vb b).2 hbk)
 have hb1 : Base X c1 := ⟨hb.below, hb.imm, fun b ⟨k, o, hk, hbk⟩ => by
  obtain ⟨rfl, rfl⟩ := one (α := .dead) hk
  exact hb.own b ⟨0, _, by rw [hL]; rfl, (vb b).2 hbk⟩⟩
 refine (h.2 c1 cargs hok1 hb1 rfl hsz fun j av hj => ?_).mono ?_
 ·cases j with
  | zero =>
   cases hj
   obtain ⟨x, x1, x2⟩ := hargs 0 _ rfl
   obtain ⟨y1, y2, y3, y4⟩ := x2
   exact ⟨x, x1, by show 0 < 1; decide, by show 1 <= (g1 0).ver; rw [g10]; exact Nat.le_refl _, y3, fun _ => by show x = (g1 0).v; rw [g10]; exact y4 h1⟩
  | succ j => simp at hj
 ·rintro x w' ⟨y, c', rfl, rfl, ht, hH', hrd⟩
  have hh' : Holds c'.g c'.I c'.w c'.H.length 0 (.list e es n F 1) := ht.ok.obj 0 _ (by rw [hH']; rfl)
  obtain ⟨k1, k2, ys, k3, k4, k5⟩ := hh'
  let g2 := upd c'.g 0 ⟨(c.g 0).b, (c'.g 0).v, v⟩
  have g20 : g2 0 = ⟨(c.g 0).b, (c'.g 0).v, v⟩ := upd_same _ _ _
  have hp := ht.places 0 (by show 0 < 1; decide)
  have hv : (c'.g 0).v = (c.g 0).v := by rw [hp.2.2 (by rw [k1]; show 1 = (g1 0).ver; rw [g10])]; show (g1 0).v = _; rw [g10]
  have vb' : ∀ b, blk g2 0 (.list e es n F v) = some b ↔ blk c'.g 0 (.list e es n F 1) = some b := fun b => by simp [blk, g20]
  refine ⟨y, ⟨g2, c'.I, c'.w, [.list e es n F v]⟩, rfl, rfl, ⟨⟨fun k o hk => ?_, fun i j oi oj b hi hj hne _ => ?_, fun k o b hk hbk => ?_, ht.ok.imm, fun b o k ob hi hk hbk => ?_⟩, by show c.H.length <= 1; omega, fun k hk => ?_, ht.keep, fun b o hi => ?_, fun b ⟨k, o, hk, hbk⟩ => ?_, ht.os, ht.tape, ht.output, ht.size, fun b hb ho => ?_⟩, rfl, ?_⟩
  ·obtain ⟨rfl, rfl⟩ := one (α := .dead) hk
   refine ⟨by show (g2 0).ver = v; rw [g20], h2, ys, by show OwnsL _ _ _ (g2 0).v _ _; rw [g20]; exact k3, k4, fun i j hi hj => ?_⟩
   obtain ⟨x, x1, x2⟩ := k5 i j hi hj
   exact ⟨x, x1, Reads.mono' (M := 0) (fun k hk => absurd hk (Nat.not_lt_zero k)) (fun b o h => ⟨h, rfl⟩) _ 0 0 x (Nat.le_refl _) (Nat.le_refl _) x2⟩
  ·have a := one (α := .dead) hi
   have b := one (α := .dead) hj
   exact absurd (a.1.trans b.1.symm) hne
  ·obtain ⟨rfl, rfl⟩ := one (α := .dead) hk
   exact ht.ok.old 0 _ b (by rw [hH']; rfl) ((vb' b).1 hbk)
  ·obtain ⟨rfl, rfl⟩ := one (α := .dead) hk
   exact ht.ok.immApart b o 0 _ hi (by rw [hH']; rfl) ((vb' b).1 hbk)
  ·obtain rfl : k = 0 := by omega
   refine ⟨fun _ => by show (g2 0).b = _; rw [g20], by show _ <= (g2 0).ver; rw [g20, h1]; exact Nat.le_refl _, fun _ => by show (g2 0).v = _; rw [g20]; exact hv⟩
  ·rcases ht.new b o hi with q | q | ⟨k, ob, hk, hbk⟩
   ·exact .inl q
   ·exact .inr (.inl q)
   ·obtain ⟨rfl, rfl⟩ := one (α := .dead) hk
    exact .inr (.inr ⟨0, _, by rw [hL]; rfl, (vb b).2 hbk⟩)
  ·obtain ⟨rfl, rfl⟩ := one (α := .dead) hk
   rcases ht.own b ⟨0, _, by rw [hH']; rfl, (vb' b).1 hbk⟩ with q | ⟨k, ob, hk, hbk⟩
   ·exact .inl q
   ·obtain ⟨rfl, rfl⟩ := one (α := .dead) hk
    exact .inr ⟨0, _, by rw [hL]; rfl, (vb b).2 hbk⟩
  ·exact ht.block b hb fun ⟨k, ob, hk, hbk⟩ => by
    obtain ⟨rfl, rfl⟩ := one (α := .dead) hk
    exact ho ⟨0, _, by rw [hL]; rfl, (vb b).2 hbk⟩
  ·exact Reads.mono' (M := 0) (g := c'.g) (I := c'.I) (w := c'.w) (fun k hk => absurd hk (Nat.not_lt_zero k)) (fun b o h => ⟨h, rfl⟩) r 0 _ y (Nat.le_refl _) (Nat.zero_le _) (AV.free_reads (g' := c.g) r _ 0 y hr hrd)
end Go.Fx
/-
 An empty slice in a box, told as a list of one's own where a loop begins.
-/
namespace Go.Fx
open Go.RowKit
theorem StTo.bornB {n0 : Nat} {en en' : Env} {H H' : List HObj} (j i : Nat) {cells : List AV} (e es : Nat) (F : Nat -> Nat -> AV) (hj : H[j]? = some (.box cells)) (hi : cells[i]? = some .slc0)
  (h : StTo n0 en (H.set j (.box (cells.set i (.own H.length 1))) ++ [.list e es 0 F 1]) en' H') : StTo n0 en H en' H' := by
 refine .gen fun {X} => ?_
 intro N c0 c' ac hn sat
 have hok := sat.tr.ok
 have hH := sat.own
 obtain ⟨h0, cs, T, g1, g2, g3⟩ := hok.obj j _ (by rw [hH]; exact hj)
 obtain ⟨x, x1, x2, a, rfl⟩ := g3 i _ hi
 have t1 := Tr.add (w' := c'.w) (x := ⟨0, .slice a 0 0, 1⟩) (o' := .list e es 0 F 1) hok rfl rfl rfl (Nat.le_refl _) (fun b _ => rfl)
  (fun b hb => by simp [blk, upd_same, vblk] at hb)
  ⟨by rw [upd_same], Nat.one_pos, [], .inl ⟨rfl, rfl, a, by rw [upd_same]⟩, by simp, fun i j hi => by omega⟩
 have hjl : j < H.length := (List.getElem?_eq_some_iff.1 hj).1
 have hil : i < cells.length := (List.getElem?_eq_some_iff.1 hi).1
 have hcH : c'.H.length = H.length := by rw [hH]
 have t2 := Tr.relax t1.ok (H' := H.set j (.box (cells.set i (.own H.length 1))) ++ [.list e es 0 F 1]) (by simp [hH]) fun k o o' ho ho' => by
  have hob := t1.ok.obj k o ho
  have ho : (c'.H ++ [HObj.list e es 0 F 1])[k]? = some o := ho
  rw [hH] at ho
  by_cases hk : k = j
  ·subst hk
   rw [List.getElem?_append_left hjl, hj] at ho
   cases ho
   rw [List.getElem?_append_left (by simpa using hjl), List.getElem?_set_self hjl] at ho'
   cases ho'
   refine ⟨?_, .inl rfl⟩
   obtain ⟨k0, cs', T', k1, k2, k3⟩ := hob
   refine ⟨k0, cs', T', k1, by simp [k2], fun q av hq => ?_⟩
   by_cases hqi : q = i
   ·subst hqi
    rw [List.getElem?_set_self hil] at hq
    cases hq
    obtain ⟨y, y1, y2, y3⟩ := k3 q _ hi
    refine ⟨y, y1, y2, ?_⟩
    have e1 : cs' = cs := by
     have : (upd c'.g c'.H.length ⟨0, .slice a 0 0, 1⟩ k).b = (c'.g k).b := by rw [upd_other (by omega)]
     have k1 : c'.w.heap[(upd c'.g c'.H.length ⟨0, .slice a 0 0, 1⟩ k).b]? = some (.cells cs' T' (0, 0)) := k1
     rw [this, g1] at k1
     cases k1; rfl
    rw [e1, x1] at y1
    cases y1
    refine ⟨?_, ?_, x2, fun _ => ?_⟩
    ·show H.length < (c'.H ++ [HObj.list e es 0 F 1]).length
     simp [hH]
    ·show 1 <= (upd c'.g c'.H.length _ H.length).ver
     rw [<- hcH, upd_same]; exact Nat.le_refl _
    ·show _ = (upd c'.g c'.H.length _ H.length).v
     rw [<- hcH, upd_same]
   ·rw [List.getElem?_set_ne (fun e => hqi e.symm)] at hq
    exact k3 q av hq
  ·have : o = o' := by
    rcases Nat.lt_or_ge k H.length with hk2 | hk2
    ·rw [List.getElem?_append_left hk2] at ho
     rw [List.getElem?_append_left (by simpa using hk2), List.getElem?_set_ne (fun e => hk e.symm)] at ho'
     rw [ho] at ho'; exact Option.some.inj ho'
    ·rw [List.getElem?_append_right hk2] at ho
     rw [List.getElem?_append_right (by simpa using hk2)] at ho'
     simp only [List.length_set] at ho'
     rw [ho] at ho'; exact Option.some.inj ho'
   subst this
   exact ⟨hob, .inl rfl⟩
 have tt := t1.trans t2
 have w := h.wk (X := X) (N := N) (c0 := c0) (a := ac) hn (c := ⟨_, _, c'.w, H.set j (.box (cells.set i (.own H.length 1))) ++ [.list e es 0 F 1]⟩) ⟨sat.tr.trans tt, sat.base.tr tt, rfl, fun t => tt.reads (sat.env t), sat.size, sat.marks.tr hok tt⟩
 exact w
theorem StTo.bornE {n0 : Nat} {en en' : Env} {H H' : List HObj} (H1 : List HObj) (j i : Nat) {cells : List AV} (e es : Nat) (F : Nat -> Nat -> AV) (hj : H[j]? = some (.box cells)) (hi : cells[i]? = some .slc0)
  (h1 : H.set j (.box (cells.set i (.own H.length 1))) ++ [.list e es 0 F 1] = H1) (h : StTo n0 en H1 en' H') : StTo n0 en H en' H' := by
 subst h1; exact .bornB j i e es F hj hi h
end Go.Fx
/-
 Empty slices in a slot, or in a list that is told whole, told as lists of one's own where a loop begins.
-/
namespace Go.Fx
open Go.RowKit
theorem StTo.trans {n0 : Nat} {e e1 e2 : Env} {H H1 H2 : List HObj} (h : StTo n0 e H e1 H1) (k : StTo n0 e1 H1 e2 H2) : StTo n0 e H e2 H2 := by
 refine .gen fun {X} => ?_
 intro N c0 c a hn sat
 obtain ⟨c1, s1, w1⟩ := h.wk (X := X) hn sat
 obtain ⟨c2, s2, w2⟩ := k.wk (X := X) hn s1
 exact ⟨c2, s2, w2.trans w1⟩
theorem StTo.bornF {n0 : Nat} {en en' : Env} {H H' : List HObj} (j i : Nat) {e0 es0 n ver : Nat} {cells : List AV} (e es : Nat) (F : Nat -> Nat -> AV) (hj : H[j]? = some (.last e0 es0 n cells ver)) (hi : cells[i]? = some .slc0)
  (h : StTo n0 en (H.set j (.last e0 es0 n (cells.set i (.own H.length 1)) ver) ++ [.list e es 0 F 1]) en' H') : StTo n0 en H en' H' := by
 refine .gen fun {X} => ?_
 intro N c0 c' ac hn sat
 have hok := sat.tr.ok
 have hH := sat.own
 have hjc : c'.H[j]? = some (.last e0 es0 n cells ver) := by rw [hH]; exact hj
 obtain ⟨g0, gp, xs, g1, g2, g3, g4, g5⟩ := hok.obj j _ hjc
 obtain ⟨x, x1, a, rfl⟩ := g5 i _ hi
 have x2 := g2 _ (List.mem_of_getElem? x1)
 have t1 := Tr.add (w' := c'.w) (x := ⟨0, .slice a 0 0, 1⟩) (o' := .list e es 0 F 1) hok rfl rfl rfl (Nat.le_refl _) (fun b _ => rfl)
  (fun b hb => by simp [blk, upd_same, vblk] at hb)
  ⟨by rw [upd_same], Nat.one_pos, [], .inl ⟨rfl, rfl, a, by rw [upd_same]⟩, by simp, fun i j hi => by omega⟩
 have hjl : j < H.length := (List.getElem?_eq_some_iff.1 hj).1
 have hil : i < cells.length := (List.getElem?_eq_some_iff.1 hi).1
 have hcH : c'.H.length = H.length := by rw [hH]
 have gj : upd c'.g c'.H.length ⟨0, .slice a 0 0, 1⟩ j = c'.g j := upd_other (by omega)
 have t2 := Tr.relax t1.ok (H' := H.set j (.last e0 es0 n (cells.set i (.own H.length 1)) ver) ++ [.list e es 0 F 1]) (by simp [hH]) fun k o o' ho ho' => by
  have hob := t1.ok.obj k o ho
  have ho : (c'.H ++ [HObj.list e es 0 F 1])[k]? = some o := ho
  rw [hH] at ho
  by_cases hk : k = j
  ·subst hk
   rw [List.getElem?_append_left hjl, hj] at ho
   cases ho
   rw [List.getElem?_append_left (by simpa using hjl), List.getElem?_set_self hjl] at ho'
   cases ho'
   refine ⟨?_, .inl rfl⟩
   obtain ⟨k0, kp, ys, k1, k2, k3, k4, k5⟩ := hob
   refine ⟨k0, kp, ys, k1, k2, k3, by simpa using k4, fun q av hq => ?_⟩
   by_cases hqi : q = i
   ·subst hqi
    rw [List.getElem?_set_self hil] at hq
    cases hq
    obtain ⟨y, y1, y3⟩ := k5 q _ hi
    have e1 : y = .slice a 0 0 := by
     obtain ⟨o2, ⟨ad, cap, o4, o5, o6⟩, o8⟩ := ownsL_slice g1
     obtain ⟨p2, ⟨ad', cap', p4, p5, p6⟩, p8⟩ := ownsL_slice k1
     obtain ⟨b, hb1, hb2⟩ := o6 g3
     have k1' : vblk (upd c'.g c'.H.length ⟨0, .slice a 0 0, 1⟩ k).v = some b := by rw [gj]; exact hb2
     have c1 := p8 b k1' _ _ y1
     have c2 := o8 b hb2 _ _ x1
     have c1 : c'.w.cell? ⟨b, n * es0 - cells.length + q, none⟩ = some y := c1
     rw [c2] at c1
     exact (Option.some.inj c1).symm
    subst e1
    refine ⟨_, by simpa using y1, ?_, ?_, x2, fun _ => ?_⟩
    ·show H.length < (c'.H ++ [HObj.list e es 0 F 1]).length
     simp [hH]
    ·show 1 <= (upd c'.g c'.H.length _ H.length).ver
     rw [<- hcH, upd_same]; exact Nat.le_refl _
    ·show _ = (upd c'.g c'.H.length _ H.length).v
     rw [<- hcH, upd_same]
   ·rw [List.getElem?_set_ne (fun e => hqi e.symm)] at hq
    obtain ⟨y, y1, y2⟩ := k5 q av hq
    exact ⟨y, by simpa using y1, y2⟩
  ·have : o = o' := by
    rcases Nat.lt_or_ge k H.length with hk2 | hk2
    ·rw [List.getElem?_append_left hk2] at ho
     rw [List.getElem?_append_left (by simpa using hk2), List.getElem?_set_ne (fun e => hk e.symm)] at ho'
     rw [ho] at ho'; exact Option.some.inj ho'
    ·rw [List.getElem?_append_right hk2] at ho
     rw [List.getElem?_append_right (by simpa using hk2)] at ho'
     simp only [List.length_set] at ho'
     rw [ho] at ho'; exact Option.some.inj ho'
   subst this
   exact ⟨hob, .inl rfl⟩
 have tt := t1.trans t2
 have w := h.wk (X := X) (N := N) (c0 := c0) (a := ac) hn (c := ⟨_, _, c'.w, H.set j (.last e0 es0 n (cells.set i (.own H.length 1)) ver) ++ [.list e es 0 F 1]⟩) ⟨sat.tr.trans tt, sat.base.tr tt, rfl, fun t => tt.reads (sat.env t), sat.size, sat.marks.tr hok tt⟩
 exact w
theorem StTo.bornM {n0 : Nat} {en en' : Env} {H H' : List HObj} (H1 : List HObj) (j i : Nat) {e0 es0 n ver : Nat} {cells : List AV} (e es : Nat) (F : Nat -> Nat -> AV) (hj : H[j]? = some (.last e0 es0 n cells ver)) (hi : cells[i]? = some .slc0)
  (h1 : H.set j (.last e0 es0 n (cells.set i (.own H.length 1)) ver) ++ [.list e es 0 F 1] = H1) (h : StTo n0 en H1 en' H') : StTo n0 en H en' H' := by
 subst h1; exact .bornF j i e es F hj hi h
end Go.Fx
