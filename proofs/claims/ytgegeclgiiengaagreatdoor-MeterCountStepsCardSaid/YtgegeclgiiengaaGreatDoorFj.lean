/-
  The chapter's examples: the counts.
-/
import Derived.Test.YtgegeclgiiengaaGreatDoorFh

set_option linter.all false

namespace Go.Fx
theorem m33_ok {W0 : World} (h : Stand W0) : Mut (Xc W0 Gt) m33.f m33.xs [] m33.r [] := runB_ok h ms2 (ms2_ok h) (by kernel_rfl)
end Go.Fx
