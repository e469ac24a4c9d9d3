/-
  Modules said the one way: what the document's Canon answers.
-/
import Derived.Test.YtjefolfbdohkcaaMakeSpec2
set_option autoImplicit false
set_option linter.unusedVariables false
set_option linter.unusedSimpArgs false
namespace Go.Proofs.Ytjefolfbdohkcaa
open Go Go.Abs
/-- few of each, and all within -/
structure okCn (m : Mod) : Prop where
  strings : m.strings.length ≤ big
  globals : m.globals.length ≤ big
  funcs : m.funcs.length ≤ big
  rows : ∀ f ∈ m.funcs, f.locals.length ≤ big ∧ f.sites.length ≤ big
  used : ∀ n ∈ usedR m, 0 ≤ n ∧ n < m.strings.length
section
variable {m : Mod}
/-! ### functions -/
end
end Go.Proofs.Ytjefolfbdohkcaa
/-
  Modules by numbers: all but the statements.
-/
namespace Go.Proofs.Ytjefolfbdohkcaa
open Go Go.Abs
section
variable (g f e : Nat) {A : Nat} {cA : List F}
abbrev gS (i : Nat) : List ByteArray := (List.range' 0 i).map fun i => nameR (i * (1 + g / 4 % 3))
/-! ### functions -/
abbrev tS (j n : Nat) : List ByteArray := (List.range' j n).map fun j => nameR (200 + j)
/-! ### entries -/
end
end Go.Proofs.Ytjefolfbdohkcaa
