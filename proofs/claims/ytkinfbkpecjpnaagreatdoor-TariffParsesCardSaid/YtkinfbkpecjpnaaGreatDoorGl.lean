/-
 The chapter's examples: awake returns true.
-/
import Derived.Test.YtkinfbkpecjpnaaGreatDoorGh
set_option linter.all false
/-
 The chapter's examples: awake returns true.
-/
namespace Go.Fx
theorem awake_ok {W0 : World} (h : Stand W0) : Pure (Xc W0 Gt) 5 [] (.bool true) := runB_ok h ms3 (ms3_ok h) (by kernel_rfl)
end Go.Fx
