/-
  The document's own rules of modules: what its Tree, its Check answer.
-/
import Derived.Test.YtjefolfbdohkcaaDocSpec
import Derived.Test.YtjefolfbdohkcaaFlatSpec
set_option autoImplicit false
set_option linter.unusedVariables false
set_option linter.unusedSimpArgs false
namespace Go.Proofs.Ytjefolfbdohkcaa
open Go Go.Abs
section
variable (m : Mod)
end
/-! ### Check -/
end Go.Proofs.Ytjefolfbdohkcaa
