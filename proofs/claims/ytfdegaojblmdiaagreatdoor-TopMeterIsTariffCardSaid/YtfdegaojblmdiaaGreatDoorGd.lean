/-
  A drive: what is copied.
-/
import Derived.Test.YtfdegaojblmdiaaGreatDoorGf
import Derived.Test.YtfdegaojblmdiaaGreatDoorGu
import Derived.Test.YtfdegaojblmdiaaGreatDoorGt
import Derived.Test.YtfdegaojblmdiaaGreatDoorGm

set_option linter.all false

/-
  A call that is given a list of the caller's own, for good: the callee sees its elements, the caller has it no more.
-/
namespace Go.Fx
open Go.Proofs Go.RowKit

theorem Mut.give {X : Ctx} {f : FuncId} {args bs : List AV} {e es n ver : Nat} {fn : Nat → Nat → AV} {r : AV} (h : Pure X f bs r) (hr : r.free = true) (hfree : (bs.all (·.free)) = true) (hl : AllLe (args.map (frzF [0] [.list e es n fn ver])) bs) : Mut X f args [.list e es n fn ver] r [.dead] := by
  have hlen : bs.length = args.length := by have := hl.len; simpa using this
  refine ⟨h.1, fun c cargs hok hb hL hsz hargs => ?_⟩
  obtain ⟨I', tf, hF⟩ := Tr.freezes [0] hok
  have hH : frzL [0] c.H = [.dead] := by rw [hL]; rfl
  rw [hH] at tf
  have hbf := hb.tr tf
  let cc : Cfg := ⟨c.g, I', c.w, []⟩
  have hccok : cc.Ok := ⟨fun k o h => by simp [cc] at h, fun i j oi oj b h => by simp [cc] at h, fun k o b h => by simp [cc] at h, fun b o h => tf.ok.imm b o h, fun b o k ob _ h => by simp [cc] at h⟩
  have hccb : Base X cc := ⟨hb.below, fun b o h => hbf.imm b o h, fun b ⟨k, o, h, _⟩ => by simp [cc] at h⟩
  have hown : ∀ b, ¬ cc.Owns b := fun b ⟨k, o, h, _⟩ => by simp [cc] at h
  have hdead : ∀ (g : Nat → GO) (k : Nat) (o : HObj) (b : Nat), ([.dead] : List HObj)[k]? = some o → blk g k o ≠ some b := fun g k o b h => by
    cases k with
    | zero => simp at h; subst h; simp [blk]
    | succ k => simp at h
  refine (h.2 cc cargs hccok hccb rfl (by omega) fun j av hj => ?_).mono ?_
  · have hlt : j < args.length := by rw [← hlen]; exact (List.getElem?_eq_some_iff.1 hj).1
    obtain ⟨v, k1, k2⟩ := hargs j args[j] (List.getElem?_eq_getElem hlt)
    refine ⟨v, k1, ?_⟩
    have e1 := (frzF_le (F := [0]) (H := [.list e es n fn ver]) args[j]).reads hok (I' := I') (fun k e es n f ver hk => by rw [hL]; exact (only_list hk).1) (fun b o hI => (tf.keep b o hI).1)
      (fun k e es n f ver b hk hb o => by
        have q := (only_list hk).1
        cases k with
        | zero => exact hF 0 (List.mem_singleton.2 rfl) (.list e es n f ver) b (by rw [hL]; exact q) hb o
        | succ k => simp at q) k2
    have e2 := (hl.at j (frzF [0] [.list e es n fn ver] args[j]) av (by simp [List.getElem?_eq_getElem hlt]) hj).reads e1
    exact AV.free_reads (g' := c.g) _ _ _ _ (List.all_eq_true.1 hfree _ (List.mem_of_getElem? hj)) e2
  · rintro x w' ⟨v, cc', rfl, rfl, htr, hH', hread⟩
    have hr2 : (⟨c.g, cc'.I, cc'.w, [.dead]⟩ : Cfg).Reads r v := Reads.mono' (M := 0) (g := cc'.g) (I := cc'.I) (w := cc'.w) (fun k hk => absurd hk (Nat.not_lt_zero k)) (fun b o h => ⟨h, rfl⟩) r 0 _ v (Nat.le_refl _) (Nat.zero_le _) (AV.free_reads (g' := c.g) r _ 0 v hr hread)
    refine ⟨v, ⟨c.g, cc'.I, cc'.w, [.dead]⟩, rfl, rfl, tf.trans ?_, rfl, hr2⟩
    refine ⟨⟨fun k o h => ?_, fun i j oi oj b h hj _ hb => absurd hb (hdead _ _ _ _ h), fun k o b h hb => absurd hb (hdead _ _ _ _ h), htr.ok.imm, fun b o k ob _ h => hdead _ _ _ _ h⟩, Nat.le_refl _, fun k hk => ⟨fun _ => rfl, Nat.le_refl _, fun _ => rfl⟩, htr.keep, fun b o h => ?_, fun b ⟨k, o, h, hb⟩ => absurd hb (hdead _ _ _ _ h), htr.os, htr.tape, htr.output, htr.size, fun b hb _ => htr.block b hb (hown b)⟩
    · cases k with
      | zero => simp at h; subst h; trivial
      | succ k => simp at h
    · rcases htr.new b o h with q | q | q
      · exact .inl q
      · exact .inr (.inl q)
      · exact absurd q (hown b)
end Go.Fx

/-
  Logs whose events lie in a list of one's own.
-/
namespace Go.Fx
open Go.Proofs Go.RowKit
def evIs (y : Log) (n : Nat) (F : Nat → Nat → AV) : Prop := n = y.ev.length ∧ ∀ i j, i < n → j < 2 → Le (F i j) (tbl (evC (y.ev.getD i ev0)) j)
theorem evIs_give {y : Log} {n e v : Nat} {F : Nat → Nat → AV} (h : evIs y n F) : AllLe (([.agg 4 (tbl (logC y (.own 0 v)))] : List AV).map (frzF [0] [.list e 2 n F v])) [lgA y] := by
  have h4 : Le (frzF [0] [.list e 2 n F v] (.own 0 v)) (evS y.ev) := by
    have e1 : frzF [0] [.list e 2 n F v] (.own 0 v) = .slc 2 n F := by
      simp [frzF]
    rw [e1]
    exact .slcN h.1 fun i j hi hj => h.2 i j hi hj
  exact ⟨.aggs ⟨⟨⟨⟨trivial, .refl _⟩, .refl _⟩, .refl _⟩, h4⟩, trivial⟩
end Go.Fx

/-
  A drive: what is copied.
-/
namespace Go.Fx
open Go.Proofs Go.RowKit

theorem Mut.verG {X : Ctx} {f : FuncId} {r a1 a2 : AV} {e es n v : Nat} {F : Nat → Nat → AV} (h : Mut X f [a1] [.list e es n F 1] r [.list e es n F 1]) (hr : r.free = true) (ha : ∀ (g g1 : Nat → GO) (I : Nat → Nat → Prop) (w : World) (x : Value), (g 0).ver = v → g1 0 = ⟨(g 0).b, (g 0).v, 1⟩ → Reads g I w a2 1 x → Reads g1 I w a1 1 x) : Mut X f [a2] [.list e es n F v] r [.list e es n F v] := by
  refine ⟨h.1, fun c cargs hok hb hL hsz hargs => ?_⟩
  have hl : c.H.length = 1 := by rw [hL]; rfl
  have hh : Holds c.g c.I c.w c.H.length 0 (.list e es n F v) := hok.obj 0 _ (by rw [hL]; rfl)
  obtain ⟨h1, h2, xs, h3, h4, h5⟩ := hh
  let g1 := upd c.g 0 ⟨(c.g 0).b, (c.g 0).v, 1⟩
  have g10 : g1 0 = ⟨(c.g 0).b, (c.g 0).v, 1⟩ := upd_same _ _ _
  have one : ∀ {α : HObj} {a : HObj} {k : Nat} {o : HObj}, ([a] : List HObj)[k]? = some o → k = 0 ∧ o = a := fun {α a k o} h => by
    cases k with
    | zero => exact ⟨rfl, (Option.some.inj h).symm⟩
    | succ k => simp at h
  let c1 : Cfg := ⟨g1, c.I, c.w, [.list e es n F 1]⟩
  have vb : ∀ b, blk c.g 0 (.list e es n F v) = some b ↔ blk g1 0 (.list e es n F 1) = some b := fun b => by simp [blk, g10]
  have hok1 : c1.Ok := by
    refine ⟨fun k o hk => ?_, fun i j oi oj b hi hj hne _ => ?_, fun k o b hk hbk => ?_, hok.imm, fun b o k ob hi hk hbk => ?_⟩
    · obtain ⟨rfl, rfl⟩ := one (α := .dead) hk
      refine ⟨by show (g1 0).ver = 1; rw [g10], Nat.one_pos, xs, by show OwnsL _ _ _ (g1 0).v _ _; rw [g10]; exact h3, h4, fun i j hi hj => ?_⟩
      obtain ⟨x, x1, x2⟩ := h5 i j hi hj
      exact ⟨x, x1, Reads.mono' (M := 0) (fun k hk => absurd hk (Nat.not_lt_zero k)) (fun b o h => ⟨h, rfl⟩) _ 0 0 x (Nat.le_refl _) (Nat.le_refl _) x2⟩
    · have a := one (α := .dead) hi
      have b := one (α := .dead) hj
      exact absurd (a.1.trans b.1.symm) hne
    · obtain ⟨rfl, rfl⟩ := one (α := .dead) hk
      exact hok.old 0 _ b (by rw [hL]; rfl) ((vb b).2 hbk)
    · obtain ⟨rfl, rfl⟩ := one (α := .dead) hk
      exact hok.immApart b o 0 _ hi (by rw [hL]; rfl) ((vb b).2 hbk)
  have hb1 : Base X c1 := ⟨hb.below, hb.imm, fun b ⟨k, o, hk, hbk⟩ => by
    obtain ⟨rfl, rfl⟩ := one (α := .dead) hk
    exact hb.own b ⟨0, _, by rw [hL]; rfl, (vb b).2 hbk⟩⟩
  refine (h.2 c1 cargs hok1 hb1 rfl hsz fun j av hj => ?_).mono ?_
  · cases j with
    | zero =>
      cases hj
      obtain ⟨x, x1, x2⟩ := hargs 0 _ rfl
      have x2 : Reads c.g c.I c.w a2 c.H.length x := x2
      rw [hl] at x2
      exact ⟨x, x1, ha c.g g1 c.I c.w x h1 g10 x2⟩
    | succ j => simp at hj
  · rintro x w' ⟨y, c', rfl, rfl, ht, hH', hrd⟩
    have hh' : Holds c'.g c'.I c'.w c'.H.length 0 (.list e es n F 1) := ht.ok.obj 0 _ (by rw [hH']; rfl)
    obtain ⟨k1, k2, ys, k3, k4, k5⟩ := hh'
    let g2 := upd c'.g 0 ⟨(c.g 0).b, (c'.g 0).v, v⟩
    have g20 : g2 0 = ⟨(c.g 0).b, (c'.g 0).v, v⟩ := upd_same _ _ _
    have hp := ht.places 0 (by show 0 < 1; decide)
    have hv : (c'.g 0).v = (c.g 0).v := by rw [hp.2.2 (by rw [k1]; show 1 = (g1 0).ver; rw [g10])]; show (g1 0).v = _; rw [g10]
    have vb' : ∀ b, blk g2 0 (.list e es n F v) = some b ↔ blk c'.g 0 (.list e es n F 1) = some b := fun b => by simp [blk, g20]
    refine ⟨y, ⟨g2, c'.I, c'.w, [.list e es n F v]⟩, rfl, rfl, ⟨⟨fun k o hk => ?_, fun i j oi oj b hi hj hne _ => ?_, fun k o b hk hbk => ?_, ht.ok.imm, fun b o k ob hi hk hbk => ?_⟩, by show c.H.length ≤ 1; omega, fun k hk => ?_, ht.keep, fun b o hi => ?_, fun b ⟨k, o, hk, hbk⟩ => ?_, ht.os, ht.tape, ht.output, ht.size, fun b hb ho => ?_⟩, rfl, ?_⟩
    · obtain ⟨rfl, rfl⟩ := one (α := .dead) hk
      refine ⟨by show (g2 0).ver = v; rw [g20], h2, ys, by show OwnsL _ _ _ (g2 0).v _ _; rw [g20]; exact k3, k4, fun i j hi hj => ?_⟩
      obtain ⟨x, x1, x2⟩ := k5 i j hi hj
      exact ⟨x, x1, Reads.mono' (M := 0) (fun k hk => absurd hk (Nat.not_lt_zero k)) (fun b o h => ⟨h, rfl⟩) _ 0 0 x (Nat.le_refl _) (Nat.le_refl _) x2⟩
    · have a := one (α := .dead) hi
      have b := one (α := .dead) hj
      exact absurd (a.1.trans b.1.symm) hne
    · obtain ⟨rfl, rfl⟩ := one (α := .dead) hk
      exact ht.ok.old 0 _ b (by rw [hH']; rfl) ((vb' b).1 hbk)
    · obtain ⟨rfl, rfl⟩ := one (α := .dead) hk
      exact ht.ok.immApart b o 0 _ hi (by rw [hH']; rfl) ((vb' b).1 hbk)
    · obtain rfl : k = 0 := by omega
      refine ⟨fun _ => by show (g2 0).b = _; rw [g20], by show _ ≤ (g2 0).ver; rw [g20, h1]; exact Nat.le_refl _, fun _ => by show (g2 0).v = _; rw [g20]; exact hv⟩
    · rcases ht.new b o hi with q | q | ⟨k, ob, hk, hbk⟩
      · exact .inl q
      · exact .inr (.inl q)
      · obtain ⟨rfl, rfl⟩ := one (α := .dead) hk
        exact .inr (.inr ⟨0, _, by rw [hL]; rfl, (vb b).2 hbk⟩)
    · obtain ⟨rfl, rfl⟩ := one (α := .dead) hk
      rcases ht.own b ⟨0, _, by rw [hH']; rfl, (vb' b).1 hbk⟩ with q | ⟨k, ob, hk, hbk⟩
      · exact .inl q
      · obtain ⟨rfl, rfl⟩ := one (α := .dead) hk
        exact .inr ⟨0, _, by rw [hL]; rfl, (vb b).2 hbk⟩
    · exact ht.block b hb fun ⟨k, ob, hk, hbk⟩ => by
        obtain ⟨rfl, rfl⟩ := one (α := .dead) hk
        exact ho ⟨0, _, by rw [hL]; rfl, (vb b).2 hbk⟩
    · exact Reads.mono' (M := 0) (g := c'.g) (I := c'.I) (w := c'.w) (fun k hk => absurd hk (Nat.not_lt_zero k)) (fun b o h => ⟨h, rfl⟩) r 0 _ y (Nat.le_refl _) (Nat.zero_le _) (AV.free_reads (g' := c.g) r _ 0 y hr hrd)
def sgIs (x : Trp) (n : Nat) (F : Nat → Nat → AV) : Prop := n = x.sg.length ∧ ∀ i j, i < n → j < 3 → Le (F i j) (tbl (segC (x.sg.getD i seg0)) j)
section
variable {W0 : World} (hX : (Xc W0 Gt).Good)
include hX
theorem c38w (x : Trp) (n : Nat) (F : Nat → Nat → AV) (hs : Side (XOk x)) (hy : Side (sgIs x n F)) : Mut (Xc W0 Gt) 38 [.agg 5 (tbl [.int .i64 x.m.d, .int .i64 x.m.s, .bool x.fx, iRow x.ex, .own 0 1])] [.list 93 3 n F 1] (trpA x) [.list 93 3 n F 1] := by
  have hs := hs.get
  have hy := hy.get
  have e1 := hs.1; have e2 := hs.2; have e3 := hy.1
  refine mut_of' hX (fnI Tryz.f38) rfl ?_
  repeat' (first
    | (refine Ax.go ?_; first | ((with_reducible apply callAlt (c55 hX x.ex ?_)); case hl => (first | exact AllLe.refl _ | ((repeat' (first | exact trivial | apply Le.aggs | apply Le.tups | apply Le.fns | exact Le.refl _ | refine ⟨?_, ?_⟩)); done))) | refine Alt.one ?_)
    | exact Cl.go
    | exact Ck.go
    | ((fail_if_success refine Stop.go ?_); (first | (with_reducible first | refine And.intro ?_ ?_ | refine Cut.go ?_ | (refine impI ?_; intro _)) | (refine propI ?_; conv => whnf))))
  all_goals try (exact .of (Nat.le_of_ble_eq_true rfl))
  all_goals try (exact Side.mk e1)
  all_goals try (exact .of ⟨by omega, by omega⟩)
  all_goals try (exact Sc.of ⟨by show n * 24 ≤ 140737488355328; omega, by omega⟩)
  all_goals (exact .mk [] [3] _ rfl (.aggs ⟨⟨⟨⟨⟨trivial, .le (.refl _)⟩, .le (.refl _)⟩, .le (.refl _)⟩, .le (.refl _)⟩, .ownM rfl e3 hy.2⟩) ⟨.le (.refl _), trivial⟩ rfl)

theorem c38v (x : Trp) (n v : Nat) (F : Nat → Nat → AV) (hs : Side (XOk x)) (hy : Side (sgIs x n F)) : Mut (Xc W0 Gt) 38 [.agg 5 (tbl [.int .i64 x.m.d, .int .i64 x.m.s, .bool x.fx, iRow x.ex, .own 0 v])] [.list 93 3 n F v] (trpA x) [.list 93 3 n F v] :=
  Mut.verG (c38w hX x n F hs hy) rfl fun g g1 I w y h0 h1 ⟨cs, k1, k2, k3⟩ => ⟨cs, k1, k2, fun j hj => by
    obtain ⟨z, z1, z2, z3⟩ := k3 j hj
    refine ⟨z, z1, z2, ?_⟩
    rcases (show j = 0 ∨ j = 1 ∨ j = 2 ∨ j = 3 ∨ j = 4 by omega) with q | q | q | q | q <;> subst q
    · exact AV.free_reads (g' := g1) _ 1 1 _ rfl z3
    · exact AV.free_reads (g' := g1) _ 1 1 _ rfl z3
    · exact AV.free_reads (g' := g1) _ 1 1 _ rfl z3
    · exact AV.free_reads (g' := g1) _ 1 1 _ rfl z3
    · obtain ⟨y1, y2, y3, y4⟩ := z3
      exact ⟨by decide, by rw [h1]; exact Nat.le_refl _, y3, fun _ => by rw [h1]; exact y4 h0⟩⟩
theorem c16g (y : Log) (n v : Nat) (F : Nat → Nat → AV) (hs : Side (y.ev.length ≤ 1000000)) (hy : Side (evIs y n F)) : Mut (Xc W0 Gt) 16 [.agg 4 (tbl (logC y (.own 0 v)))] [.list 41 2 n F v] (lgA y) [.dead] :=
  Mut.give (c16 hX y hs) rfl rfl (evIs_give hy.get)
end
end Go.Fx
