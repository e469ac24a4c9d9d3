/-
  Modules as bytes: what the document's functions answer. (Made by packl.py out of PackSpec.)
-/
import Derived.Test.YtemnahkpffafoaaDoorPackSpec
set_option autoImplicit false
set_option linter.unusedVariables false
set_option linter.unusedSimpArgs false
namespace Go.Proofs.YtemnahkpffafoaaDoor
open Go Go.Abs
end Go.Proofs.YtemnahkpffafoaaDoor
