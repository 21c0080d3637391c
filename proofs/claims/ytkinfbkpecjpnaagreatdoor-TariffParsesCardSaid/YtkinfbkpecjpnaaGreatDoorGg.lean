/-
 Results that are kept; the functions whose code the reader takes.
-/
import Derived.Test.YtkinfbkpecjpnaaGreatDoorGf
set_option linter.all false
/-
 What was run once: results kept.
-/
namespace Go.Fx
open Go.Proofs
structure Memo where
 f : FuncId
 xs : List AV
 r : AV
 L : List HObj
def memoT (lib : FuncId -> List AV -> List HObj -> Option (AV × List HObj)) : List Memo -> FuncId -> List AV -> List HObj -> Option (AV × List HObj)
 | [], f, args, L => lib f args L
 | m :: ms, f, args, L =>
  match L with
  | [] => bif Nat.beq f m.f && leLB args m.xs then some (m.r, m.L) else memoT lib ms f args []
  | o :: L => bif Nat.beq f m.f && m.L.isEmpty && m.r.flat && m.xs.all (·.free) && leLB (args.map (frzF (List.range (L.length + 1)) (o :: L))) m.xs then some (m.r, o :: L) else memoT lib ms f args (o :: L)
theorem Mut.args {X : Ctx} {f : FuncId} {args bs : List AV} {L L' : List HObj} {r : AV} (h : Mut X f bs L r L') (hl : AllLe args bs) : Mut X f args L r L' :=
 ⟨h.1, fun c cargs hok hb hL hsz hargs => h.2 c cargs hok hb hL (by rw [hsz, hl.len]) fun j av hj => by
  have h1 : j < args.length := by rw [<- hl.len]; exact (List.getElem?_eq_some_iff.1 hj).1
  obtain ⟨v, h2, h3⟩ := hargs j args[j] (List.getElem?_eq_getElem h1)
  exact ⟨v, h2, (hl.at j _ av (List.getElem?_eq_getElem h1) hj).reads h3⟩⟩
def leOBx : HObj -> HObj -> Bool
 | .box a, .box b => leLB a b
 | .list e es n f ver, .list e' es' n' g ver' => Nat.beq e e' && Nat.beq es es' && Nat.beq n n' && Nat.beq ver ver' && (List.range n).all fun i => (List.range es).all fun j => leB (f i j) (g i j)
 | _, _ => false
def leOLB : List HObj -> List HObj -> Bool
 | [], [] => true
 | a :: p, b :: q => leOBx a b && leOLB p q
 | _, _ => false
theorem leOBx_le : ∀ {a b : HObj}, leOBx a b = true -> LeO a b
 | .box a, .box b, h => by
  have w := leLB_le (show leLB a b = true from h)
  exact .box w.len.symm fun j x y hx hy => w.at j x y hx hy
 | .list e es n f ver, .list e' es' n' g ver', h => by
  simp only [leOBx, Bool.and_eq_true, Nat.beq_eq, List.all_eq_true, List.mem_range] at h
  obtain ⟨⟨⟨⟨rfl, rfl⟩, rfl⟩, rfl⟩, h⟩ := h
  exact .list fun i j hi hj => leB_le (h i hi j hj)
theorem leOLB_le : ∀ {p q : List HObj}, leOLB p q = true -> LeOs p q
 | [], [], _ => trivial
 | a :: p, b :: q, h => by
  simp only [leOLB, Bool.and_eq_true] at h
  exact ⟨leOBx_le h.1, leOLB_le h.2⟩
theorem Mut.leO {X : Ctx} {f : FuncId} {xs : List AV} {L0 L' L : List HObj} {r' r : AV} (h : Mut X f xs L0 r' L') (hr : Le r' r) (hL : LeOs L' L) : Mut X f xs L0 r L := by
 refine ⟨h.1, fun c cargs hok hb hH hsz hargs => (h.2 c cargs hok hb hH hsz hargs).mono fun e w' ⟨v, c', h1, h2, h3, h4, h5⟩ => ?_⟩
 have t := Tr.weaken h3.ok (H' := L) (by rw [h4]; exact hL.len) (fun k o o' ho ho' => hL.at k o o' (by rw [<- h4]; exact ho) ho')
 refine ⟨v, { c' with H := L }, h1, h2, h3.trans t, rfl, ?_⟩
 exact t.reads (hr.reads h5)
theorem Mut.look {X : Ctx} {f : FuncId} {args bs : List AV} {L : List HObj} {r : AV} (h : Pure X f bs r) (hflat : r.flat = true) (hfree : (bs.all (·.free)) = true) (hl : AllLe (args.map (frzF (List.range L.length) L)) bs) : Mut X f args L r L := by
 have hlen : bs.length = args.length := by have := hl.len; simpa using this
 refine ⟨h.1, fun c cargs hok hb hL hsz hargs => ?_⟩
 let cc : Cfg := ⟨c.g, c.all, c.w, []⟩
 have hccok : cc.Ok := ⟨fun k o h => by simp [cc] at h, fun i j oi oj b h => by simp [cc] at h, fun k o b h => by simp [cc] at h, fun b o h => by
  rcases h with h | ⟨k, ob, h, h'⟩
  ·exact hok.imm b o h
  ·exact hok.old k ob b h h', fun b o k ob _ h => by simp [cc] at h⟩
 have hccb : Base X cc := ⟨hb.below, fun b o h => .inl (hb.imm b o h), fun b ⟨k, o, h, _⟩ => by simp [cc] at h⟩
 have hown : ∀ b, ¬ cc.Owns b := fun b ⟨k, o, h, _⟩ => by simp [cc] at h
 refine (h.2 cc cargs hccok hccb rfl (by omega) fun j av hj => ?_).mono ?_
 ·have hlt : j < args.length := by rw [<- hlen]; exact (List.getElem?_eq_some_iff.1 hj).1
  obtain ⟨v, k1, k2⟩ := hargs j args[j] (List.getElem?_eq_getElem hlt)
  refine ⟨v, k1, ?_⟩
  have e1 := (frzF_le (F := List.range L.length) (H := L) args[j]).reads hok (I' := c.all) (fun k e es n f ver hk => by rw [hL]; exact (only_list hk).1) (fun b o hI => .inl hI)
   (fun k e es n f ver b hk hb o => .inr ⟨k, .list e es n f ver, by rw [hL]; exact (only_list hk).1, hb⟩) k2
  have e2 := (hl.at j (frzF (List.range L.length) L args[j]) av (by simp [List.getElem?_eq_getElem hlt]) hj).reads e1
  exact AV.free_reads (g' := c.g) _ _ _ _ (List.all_eq_true.1 hfree _ (List.mem_of_getElem? hj)) e2
 ·rintro e w' ⟨v, cc', rfl, rfl, htr, hH', hread⟩
  have t := Tr.imm (c := c) hok (w' := cc'.w) (I' := c.I) htr.os htr.tape htr.output htr.size (fun b hb => htr.block b hb (hown b)) (fun b o h => h) (fun b o h => .inl h)
  exact ⟨v, ⟨c.g, c.I, cc'.w, c.H⟩, rfl, rfl, t, hL, AV.flat_reads r _ _ v hflat hread⟩
theorem memoT_ok {X : Ctx} {lib : FuncId -> List AV -> List HObj -> Option (AV × List HObj)} (hlib : ∀ {f args L r L'}, lib f args L = some (r, L') -> Mut X f args L r L') :
  ∀ (ms : List Memo), (∀ m ∈ ms, Mut X m.f m.xs [] m.r m.L) -> ∀ {f : FuncId} {args : List AV} {L L' : List HObj} {r : AV}, memoT lib ms f args L = some (r, L') -> Mut X f args L r L'
 | [], _, _, _, _, _, _, h => hlib h
 | m :: ms, hm, f, args, [], L', r, h => by
  simp only [memoT] at h
  cases hc : (Nat.beq f m.f && leLB args m.xs) with
  | true =>
   rw [hc] at h
   simp only [cond_true, Option.some.injEq, Prod.mk.injEq] at h
   simp only [Bool.and_eq_true, Nat.beq_eq] at hc
   obtain ⟨rfl, rfl⟩ := h
   rw [hc.1]
   exact (hm m (List.mem_cons_self ..)).args (leLB_le hc.2)
  | false =>
   rw [hc] at h
   exact memoT_ok hlib ms (fun x hx => hm x (List.mem_cons_of_mem _ hx)) h
 | m :: ms, hm, f, args, o :: L, L', r, h => by
  simp only [memoT] at h
  cases hc : (Nat.beq f m.f && m.L.isEmpty && m.r.flat && m.xs.all (·.free) && leLB (args.map (frzF (List.range (L.length + 1)) (o :: L))) m.xs) with
  | true =>
   rw [hc] at h
   simp only [cond_true, Option.some.injEq, Prod.mk.injEq] at h
   simp only [Bool.and_eq_true, Nat.beq_eq] at hc
   obtain ⟨⟨⟨⟨h1, h0⟩, h2⟩, h3⟩, h4⟩ := hc
   obtain ⟨rfl, rfl⟩ := h
   rw [h1]
   have hm0 := hm m (List.mem_cons_self ..)
   rw [List.isEmpty_iff.1 h0] at hm0
   exact Mut.look hm0 h2 h3 (leLB_le h4)
  | false =>
   rw [hc] at h
   exact memoT_ok hlib ms (fun x hx => hm x (List.mem_cons_of_mem _ hx)) h
def bads : List Nat := [0, 119]
noncomputable def Fs (f : FuncId) : Option Func := bif bads.elem f then none else Tryz.prog.funcs[f]?
def ownF (_ : FuncId) : Bool := false
def codeO : Option Func -> Bool
 | some fn => (match fn.body with | some code => !(fn.name == "runtime.NumGoroutine") && codeOK fn.ntmps code | none => true)
 | none => true
noncomputable def codeB (f : Nat) : Bool := codeO Tryz.prog.funcs[f]?
theorem codeO_ok {fn : Func} {code : Code} (h : codeO (some fn) = true) (hc : fn.body = some code) : (fn.name == "runtime.NumGoroutine") = false /\ codeOK fn.ntmps code = true := by
 simpa only [codeO, hc, Bool.and_eq_true, Bool.not_eq_true'] using h
noncomputable def codeA (f : Nat) : Bool := bads.elem f || codeB f
theorem codes_ok : (List.range Tryz.prog.funcs.size).all codeA = true := by kernel_rfl
theorem Fs_ok {W0 : World} {G : Nat -> Option AV} {f : FuncId} {fn : Func} (h : Fs f = some fn) {code : Code} (hc : fn.body = some code) : FnIs (Xc W0 G) f fn code := by
 unfold Fs at h
 cases hb : bads.elem f with
 | true => rw [hb] at h; cases h
 | false =>
  rw [hb] at h
  have h : Tryz.prog.funcs[f]? = some fn := h
  have hlt := (Array.getElem?_eq_some_iff.1 h).1
  have h2 : codeA f = true := List.all_eq_true.1 codes_ok f (List.mem_range.2 hlt)
  unfold codeA at h2
  rw [hb, Bool.false_or] at h2
  have h3 : codeO (some fn) = true := (congrArg codeO h).symm.trans h2
  exact ⟨h, hc, codeO_ok h3 hc⟩
noncomputable def run (W0 : World) (ms : List Memo) : Run := exFn (Xc W0 Gt) Fs ownF (memoT libT ms) 60
theorem run_ok {W0 : World} (hX : (Xc W0 Gt).Good) (hl : Laid W0) (ms : List Memo) (hm : ∀ m ∈ ms, Mut (Xc W0 Gt) m.f m.xs [] m.r m.L) {f : FuncId} {args : List AV} {L L' : List HObj} {r : AV} (h : run W0 ms f args L = some (r, L')) : Mut (Xc W0 Gt) f args L r L' :=
 exFn_ok hX (memoT_ok (fun h => libT_ok hl h) ms hm) Fs_ok 60 h
end Go.Fx
