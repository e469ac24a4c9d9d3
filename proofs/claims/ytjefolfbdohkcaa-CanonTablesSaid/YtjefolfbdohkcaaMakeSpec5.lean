/-
  Modules by numbers: the statements, one by one. (Printed by mkmake.py: alike for one function to four.)
-/
import Derived.Test.YtjefolfbdohkcaaMakeSpec3
import Derived.Test.YtjefolfbdohkcaaMakeOk2
set_option autoImplicit false
set_option linter.unusedVariables false
set_option linter.unusedSimpArgs false
namespace Go.Proofs.Ytjefolfbdohkcaa
open Go Go.Abs
section
variable {m : Mod} {acts : List MAct} {g f e : Int} {S G E : Nat} {cS cG cE : List F}
end
end Go.Proofs.Ytjefolfbdohkcaa
/-
  What Make answers: the module that the numbers make.
-/
namespace Go.Proofs.Ytjefolfbdohkcaa
open Go Go.Abs
end Go.Proofs.Ytjefolfbdohkcaa
