/-
  What the document's own way to say a module answers.
-/
import Derived.Test.YtjefolfbdohkcaaMakeSpec
set_option autoImplicit false
set_option linter.unusedVariables false
set_option linter.unusedSimpArgs false
namespace Go.Proofs.Ytjefolfbdohkcaa
open Go Go.Abs
/-! ### whether a string is used -/
section
variable {m : Mod} (hG : m.globals.length ≤ big) (hN : m.funcs.length ≤ big) (hF : ∀ f ∈ m.funcs, f.locals.length ≤ big ∧ f.sites.length ≤ big) (n : Int)
include hN hF
include hG
end
end Go.Proofs.Ytjefolfbdohkcaa
