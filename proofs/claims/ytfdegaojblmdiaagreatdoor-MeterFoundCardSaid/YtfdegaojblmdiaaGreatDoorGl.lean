/-
 The chapter's examples: awake returns true.
-/
import Derived.Test.YtfdegaojblmdiaaGreatDoorGh
set_option linter.all false
namespace Go.Fx
theorem m17_ok {W0 : World} (h : Stand W0) : Mut (Xc W0 Gt) m17.f m17.xs [] m17.r m17.L := runB_ok h ms2 (ms2_ok h) (by kernel_rfl)
theorem m19_ok {W0 : World} (h : Stand W0) : Mut (Xc W0 Gt) m19.f m19.xs [] m19.r m19.L := runB_ok h ms2 (ms2_ok h) (by kernel_rfl)
theorem m25_ok {W0 : World} (h : Stand W0) : Mut (Xc W0 Gt) m25.f m25.xs [] m25.r m25.L := runB_ok h ms2 (ms2_ok h) (by kernel_rfl)
theorem ms3_ok {W0 : World} (h : Stand W0) : ∀ m ∈ ms3, Mut (Xc W0 Gt) m.f m.xs [] m.r m.L := fun m hm => by
 rcases List.mem_cons.1 hm with rfl | hm
 ·exact m43_ok h
 rcases List.mem_cons.1 hm with rfl | hm
 ·exact m44_ok h
 rcases List.mem_cons.1 hm with rfl | hm
 ·exact m68_ok h
 rcases List.mem_cons.1 hm with rfl | hm
 ·exact m19_ok h
 rcases List.mem_cons.1 hm with rfl | hm
 ·exact m25_ok h
 rcases List.mem_cons.1 hm with rfl | hm
 ·exact m17_ok h
 cases hm
theorem awake_ok {W0 : World} (h : Stand W0) : Pure (Xc W0 Gt) 12 [] (.bool true) := runB_ok h ms3 (ms3_ok h) (by kernel_rfl)
end Go.Fx
