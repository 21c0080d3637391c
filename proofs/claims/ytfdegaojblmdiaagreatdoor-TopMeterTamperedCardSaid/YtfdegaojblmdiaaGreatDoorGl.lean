/-
 The chapter's examples: awake returns true.
-/
import Derived.Test.YtfdegaojblmdiaaGreatDoorGh
set_option linter.all false
namespace Go.Fx
end Go.Fx
