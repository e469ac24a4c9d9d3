/-
  What the statements of canon do to a module: its strings stand otherwise.
-/
import Derived.Test.YtjefolfbdohkcaaCanCheck
set_option autoImplicit false
set_option linter.unusedVariables false
set_option linter.unusedSimpArgs false
namespace Go.Proofs.Ytjefolfbdohkcaa
open Go Go.Abs
section
variable {n k more : Nat} (hn : 0 < n) (hnb : n ≤ 10000) (hk : k < n) (hm : more ≤ 10)
include hn hnb hk hm
end
section
variable {m : Abs.Mod} (hm : okC m) (hu : ∀ x ∈ usedR m, 0 ≤ x ∧ x < m.strings.length) {k : Nat} (hn : 0 < m.strings.length) (hk : k < m.strings.length) {more : List ByteArray} (hmo : more.length ≤ 10)
include hm hu hn hk hmo
end
/-! ### they're the same -/
end Go.Proofs.Ytjefolfbdohkcaa
/-
  A module without a fault is small.
-/
namespace Go.Proofs.Ytjefolfbdohkcaa
open Go Go.Abs
end Go.Proofs.Ytjefolfbdohkcaa
