/-
  Rows of laws whose arguments' types hold themselves.
-/
import Derived.Test.YtjefolfbdohkcaaAbsRow3
set_option autoImplicit false
set_option linter.unusedVariables false
set_option linter.unusedSimpArgs false
namespace Go.Abs
open Go Go.ChangeShapes Go.WideShapes Go.RowKit
section
variable {H : Type} {enc : TypeId × Value → H} {P : Program} {w W W' : World} {ro : Ro}
end
end Go.Abs
