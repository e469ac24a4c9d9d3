/-
  Drafts that come in: their numbers; what Make answers to them.
-/
import Derived.Test.YtjefolfbdohkcaaMakeSpec5
import Derived.Test.YtjefolfbdohkcaaAbsArgs
import Derived.Test.YtjefolfbdohkcaaProg
import Derived.KernelRfl
set_option autoImplicit false
set_option linter.unusedVariables false
namespace Go.Proofs.Ytjefolfbdohkcaa
open Go Go.Abs
end Go.Proofs.Ytjefolfbdohkcaa
