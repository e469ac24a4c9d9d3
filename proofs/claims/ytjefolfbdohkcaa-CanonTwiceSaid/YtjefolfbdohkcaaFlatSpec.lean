/-
  What the functions of the document's own constraints answer: statements in order; constraints.
-/
import Derived.Test.YtjefolfbdohkcaaRuleSpec
set_option autoImplicit false
set_option linter.unusedVariables false
set_option linter.unusedSimpArgs false
namespace Go.Proofs.Ytjefolfbdohkcaa
open Go Go.Abs
end Go.Proofs.Ytjefolfbdohkcaa
