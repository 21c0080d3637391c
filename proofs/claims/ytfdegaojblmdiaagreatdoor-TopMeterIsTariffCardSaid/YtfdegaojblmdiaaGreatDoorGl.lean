/-
  The chapter's examples: awake returns true.
-/
import Derived.Test.YtfdegaojblmdiaaGreatDoorGh

set_option linter.all false

/-
  The chapter's examples: one of them.
-/
namespace Go.Fx
end Go.Fx

/-
  The chapter's examples: one of them.
-/
namespace Go.Fx
end Go.Fx

/-
  The chapter's examples: one of them.
-/
namespace Go.Fx
end Go.Fx

/-
  The chapter's examples: awake and metered return true.
-/
namespace Go.Fx
end Go.Fx
