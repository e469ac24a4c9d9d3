/-
  The document's own rules of modules: references, kinds of statements, names.
-/
import Derived.Test.YtjefolfbdohkcaaMakeSpec2
import Derived.Test.YtjefolfbdohkcaaEqCanonD
set_option autoImplicit false
set_option linter.unusedVariables false
set_option linter.unusedSimpArgs false
namespace Go.Proofs.Ytjefolfbdohkcaa
open Go Go.Abs
/-! ### names -/
section
variable (m : Mod) (l : List Int) (hl : l.length ≤ big)
include hl
end
end Go.Proofs.Ytjefolfbdohkcaa
