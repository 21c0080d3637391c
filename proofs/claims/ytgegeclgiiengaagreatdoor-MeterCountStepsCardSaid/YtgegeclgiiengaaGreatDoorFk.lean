/-
  The chapter's examples: a state.
-/
import Derived.Test.YtgegeclgiiengaaGreatDoorFh

set_option linter.all false

namespace Go.Fx
theorem m15_ok {W0 : World} (h : Stand W0) : Mut (Xc W0 Gt) m15.f m15.xs [] m15.r [] := runB_ok h ms2 (ms2_ok h) (by kernel_rfl)
end Go.Fx
