/-
  Modules that are made of numbers break no rule.
-/
import Derived.Test.YtjefolfbdohkcaaMakes
set_option autoImplicit false
set_option linter.unusedVariables false
namespace Go.Abs
open Go
/-! ### all but statements -/
/-! ### a frame is one of few -/
end Go.Abs
