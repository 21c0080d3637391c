/-
 What the rows of chapter 1 share.
-/
import Derived.Test.YtkinfbkpecjpnaaGreatDoorGn
import Derived.Test.YtkinfbkpecjpnaaGreatDoorGl
import Derived.Lay
import Derived.Test.YtkinfbkpecjpnaaGreatDoorCards
import Derived.Test.YtkinfbkpecjpnaaGreatDoorTie
set_option linter.all false
/-
 What the rows of chapter 1 share.
-/
namespace Go.Fx
open Go.Proofs Go.Proofs.YtkinfbkpecjpnaaGreatDoor Go.ChangeShapes Go.WideShapes Go.RowKit
theorem own : ownKnob Tryz.prog.godebug = none := by kernel_rfl
theorem laidOut : laidOutB Tryz.prog = true := by kernel_rfl
theorem bool4 : Tryz.prog.underlying 4 = some .bool := by kernel_rfl
theorem laid_met (os : Os) (args : Array Value) : laidMetH Tryz.prog Rows.tariffTripTextsRow.laid ((World.laidAll Tryz.prog os Rows.tariffTripTextsRow.laid).forCall (fun _ _ => 0) ⟨#[], args, []⟩).memory := by
 rw [MakeChecks.laidMetH_plain _ _ _ (by kernel_rfl)]; exact laidMet_laidAll _ (by kernel_rfl) (by kernel_rfl)
end Go.Fx
/-
 From a contract on values without addresses to the calls of a law.
-/
namespace Go.Fx
open Go.Proofs Go.Proofs.YtkinfbkpecjpnaaGreatDoor Go.ChangeShapes Go.WideShapes Go.RowKit
set_option maxRecDepth 100000 in
theorem law_calls {f : Nat} {fn : Func} {ts : List TypeId} {F : Nat} (hts : fn.params.toList = ts) (hp : (ts.all (plainT Tt F)) = true) {H : Type} {enc : TypeId × Value -> H} (W : World) (base : Nat) (args : Array Value) (ds : List (DataW H)) (ps : List MemPlace)
  (contract : Stand W -> ∀ ds : List (DataW H), ds.length = ts.length -> Pure (Xc W Gt) f (argsAV Tt F ts ds) (.bool true))
  (hval : ∀ (j : Nat) t v, fn.params[j]? = some t -> args[j]? = some v -> Value.okWide Tryz.prog W .any base t v)
  (hA : DataW.TrodAll enc Tryz.prog W 0 (fun _ => true) true fn.params.toList args.toList ds ps) (hL : laidMetH Tryz.prog Rows.tariffTripTextsRow.laid W) (hs : W.ShapedOpen Tryz.prog) :
  Calls Tryz.prog f args W fun e W' => e = .returned (.bool true) /\ Below W.heap.size W W' := by
 have st := stand_of hL hs
 rw [hts] at hA
 have hl : ds.length = ts.length := (trodAll_length hA).2
 obtain ⟨l1, l2⟩ := args_reads Tt_ok (F := F) ts args.toList ds ps hp (fun j t v ht hv => hval j t v (by rw [<- hts] at ht; simpa using ht) (by simpa using hv)) hA
 exact calls_of_pure (X := Xc W Gt) (contract st ds hl) (by simpa using l1) fun j av hj => by
  obtain ⟨v, v1, v2⟩ := l2 j av hj
  exact ⟨v, by simpa using v1, v2⟩
end Go.Fx
