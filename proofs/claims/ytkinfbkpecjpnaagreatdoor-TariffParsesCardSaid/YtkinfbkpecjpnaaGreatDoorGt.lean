/-
 Trips: what is wrong with one; kinds of dates, later moments.
-/
import Derived.Test.YtkinfbkpecjpnaaGreatDoorGs
set_option linter.all false
/-
 Trips: what is wrong with one; kinds of dates, later moments, copies of trips, short ones.
-/
namespace Go.Fx
open Go.Proofs Go.RowKit
theorem bne0 {e : Int} (h : (e != 0) = true) : e ≠ 0 := bne_iff_ne.1 h
theorem bne1 {e : Int} (h : (e != 0) = false) : e = 0 := bne_eq_false_iff_eq.1 h
@[irreducible] def kindE (t : Trf) (d : Int) : Int := firstS [trfE t, isOk (inB d 0 100000) 2]
@[irreducible] def kindV (t : Trf) (d : Int) : Int := bif decide (kindE t d = 0) then kindN t d else 0
section
variable {W0 : World} {G : Nat -> Option AV} (hX : (Xc W0 G).Good)
include hX
end
end Go.Fx
