/-
  The chapter's examples: awake returns true.
-/
import Derived.Test.YtgegeclgiiengaaGreatDoorFi
import Derived.Test.YtgegeclgiiengaaGreatDoorFj
import Derived.Test.YtgegeclgiiengaaGreatDoorFk

set_option linter.all false

namespace Go.Fx
theorem ms3_ok {W0 : World} (h : Stand W0) : ∀ m ∈ ms3, Mut (Xc W0 Gt) m.f m.xs [] m.r [] := fun m hm => by
  rcases List.mem_cons.1 hm with rfl | hm
  · exact m42_ok h
  rcases List.mem_cons.1 hm with rfl | hm
  · exact m43_ok h
  rcases List.mem_cons.1 hm with rfl | hm
  · exact m66_ok h
  rcases List.mem_cons.1 hm with rfl | hm
  · exact m22_ok h
  rcases List.mem_cons.1 hm with rfl | hm
  · exact m33_ok h
  rcases List.mem_cons.1 hm with rfl | hm
  · exact m15_ok h
  cases hm
theorem awake_ok {W0 : World} (h : Stand W0) : Pure (Xc W0 Gt) 10 [] (.bool true) := runB_ok h ms3 (ms3_ok h) (by kernel_rfl)
end Go.Fx
