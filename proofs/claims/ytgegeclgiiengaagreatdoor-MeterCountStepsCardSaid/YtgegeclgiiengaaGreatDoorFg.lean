/-
  Results that are kept; the functions whose code the reader takes.
-/
import Derived.Test.YtgegeclgiiengaaGreatDoorFf

set_option linter.all false

/-
  What was run once: results kept.
-/
namespace Go.Fx
open Go.Proofs

structure Memo where
  f : FuncId
  xs : List AV
  r : AV

def memoT (lib : FuncId → List AV → List HObj → Option (AV × List HObj)) : List Memo → FuncId → List AV → List HObj → Option (AV × List HObj)
  | [], f, args, L => lib f args L
  | m :: ms, f, args, L =>
    match L with
    | [] => bif Nat.beq f m.f && leLB args m.xs then some (m.r, []) else memoT lib ms f args []
    | o :: L => lib f args (o :: L)

theorem Mut.args {X : Ctx} {f : FuncId} {args bs : List AV} {L L' : List HObj} {r : AV} (h : Mut X f bs L r L') (hl : AllLe args bs) : Mut X f args L r L' :=
  ⟨h.1, fun c cargs hok hb hL hsz hargs => h.2 c cargs hok hb hL (by rw [hsz, hl.len]) fun j av hj => by
    have h1 : j < args.length := by rw [← hl.len]; exact (List.getElem?_eq_some_iff.1 hj).1
    obtain ⟨v, h2, h3⟩ := hargs j args[j] (List.getElem?_eq_getElem h1)
    exact ⟨v, h2, (hl.at j _ av (List.getElem?_eq_getElem h1) hj).reads h3⟩⟩

theorem memoT_ok {X : Ctx} {lib : FuncId → List AV → List HObj → Option (AV × List HObj)} (hlib : ∀ {f args L r L'}, lib f args L = some (r, L') → Mut X f args L r L') :
    ∀ (ms : List Memo), (∀ m ∈ ms, Mut X m.f m.xs [] m.r []) → ∀ {f : FuncId} {args : List AV} {L L' : List HObj} {r : AV}, memoT lib ms f args L = some (r, L') → Mut X f args L r L'
  | [], _, _, _, _, _, _, h => hlib h
  | m :: ms, hm, f, args, [], L', r, h => by
    simp only [memoT] at h
    cases hc : (Nat.beq f m.f && leLB args m.xs) with
    | true =>
      rw [hc] at h
      simp only [cond_true, Option.some.injEq, Prod.mk.injEq] at h
      simp only [Bool.and_eq_true, Nat.beq_eq] at hc
      obtain ⟨rfl, rfl⟩ := h
      rw [hc.1]
      exact (hm m (List.mem_cons_self ..)).args (leLB_le hc.2)
    | false =>
      rw [hc] at h
      exact memoT_ok hlib ms (fun x hx => hm x (List.mem_cons_of_mem _ hx)) h
  | m :: ms, _, f, args, o :: L, L', r, h => hlib h

/-- The functions whose code the reader takes. -/
def bads : List Nat := [0, 1, 158, 176, 196] ++ List.range' 226 31
noncomputable def Fs (f : FuncId) : Option Func := bif bads.elem f then none else Tryz.prog.funcs[f]?
def ownF (f : FuncId) : Bool := Nat.beq f 58 || Nat.beq f 54 || Nat.beq f 90

def codeO : Option Func → Bool
  | some fn => (match fn.body with | some code => !(fn.name == "runtime.NumGoroutine") && codeOK fn.ntmps code | none => true)
  | none => true
noncomputable def codeB (f : Nat) : Bool := codeO Tryz.prog.funcs[f]?
theorem codeO_ok {fn : Func} {code : Code} (h : codeO (some fn) = true) (hc : fn.body = some code) : (fn.name == "runtime.NumGoroutine") = false ∧ codeOK fn.ntmps code = true := by
  simpa only [codeO, hc, Bool.and_eq_true, Bool.not_eq_true'] using h
noncomputable def codeA (f : Nat) : Bool := bads.elem f || codeB f
theorem codes_ok : (List.range Tryz.prog.funcs.size).all codeA = true := by kernel_rfl

theorem Fs_ok {W0 : World} {G : Nat → Option AV} {f : FuncId} {fn : Func} (h : Fs f = some fn) {code : Code} (hc : fn.body = some code) : FnIs (Xc W0 G) f fn code := by
  unfold Fs at h
  cases hb : bads.elem f with
  | true => rw [hb] at h; cases h
  | false =>
    rw [hb] at h
    have h : Tryz.prog.funcs[f]? = some fn := h
    have hlt := (Array.getElem?_eq_some_iff.1 h).1
    have h2 : codeA f = true := List.all_eq_true.1 codes_ok f (List.mem_range.2 hlt)
    unfold codeA at h2
    rw [hb, Bool.false_or] at h2
    have h3 : codeO (some fn) = true := (congrArg codeO h).symm.trans h2
    exact ⟨h, hc, codeO_ok h3 hc⟩

noncomputable def run (W0 : World) (ms : List Memo) : Run := exFn (Xc W0 Gt) Fs ownF (memoT libT ms) 60
theorem run_ok {W0 : World} (hX : (Xc W0 Gt).Good) (hl : Laid W0) (ms : List Memo) (hm : ∀ m ∈ ms, Mut (Xc W0 Gt) m.f m.xs [] m.r []) {f : FuncId} {args : List AV} {L L' : List HObj} {r : AV} (h : run W0 ms f args L = some (r, L')) : Mut (Xc W0 Gt) f args L r L' :=
  exFn_ok hX (memoT_ok (fun h => libT_ok hl h) ms hm) Fs_ok 60 h
end Go.Fx
