/-
  The chapter's examples: the first false entry.
-/
import Derived.Test.YtgegeclgiiengaaGreatDoorFh

set_option linter.all false

namespace Go.Fx
theorem m22_ok {W0 : World} (h : Stand W0) : Mut (Xc W0 Gt) m22.f m22.xs [] m22.r [] := runB_ok h ms2 (ms2_ok h) (by kernel_rfl)
end Go.Fx
