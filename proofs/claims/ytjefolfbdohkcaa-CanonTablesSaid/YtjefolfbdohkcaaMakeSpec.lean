/-
  What names, variables, statements by numbers are.
-/
import Derived.Test.YtjefolfbdohkcaaRuleSpec
import Derived.Test.YtjefolfbdohkcaaMakes
set_option autoImplicit false
set_option linter.unusedVariables false
set_option linter.unusedSimpArgs false
namespace Go.Proofs.Ytjefolfbdohkcaa
open Go Go.Abs
/-! ### variables -/
section
variable {G L : Nat} (hG : G ≤ 1000) (hL : L ≤ 1000) (hp : 0 < L)
include hG hL hp
end
/-! ### statements -/
section
variable {G L S : Nat} {ps : List Int} {m1 m7 : Nat} {c2 c4 c5 c8 c12 c14 : List F} {n9 n10 : Int}
/-- what a statement is made in -/
structure StC (G L S : Nat) (ps : List Int) (c5 : List F) : Prop where
  hG : G ≤ 1000
  hL : L ≤ 1000
  hL0 : 0 < L
  hS : S ≤ 1000
  hS0 : 0 < S
  hN : ps.length ≤ 1000
  hN0 : 0 < ps.length
  hps : ∀ j, j < ps.length → ∀ K : Int → R, atI .i64 c5 ((0 + (j * 5)) + 1) K = K (ps.getD j 0)
  hpr : ∀ j, j < ps.length → 0 ≤ ps.getD j 0 ∧ ps.getD j 0 ≤ 1000
end
end Go.Proofs.Ytjefolfbdohkcaa
