/-
  What names, variables, statements by numbers are.
-/
import Derived.Test.YtjefolfbdohkcaaRuleSpec
import Derived.Test.YtjefolfbdohkcaaMakes
set_option autoImplicit false
set_option linter.unusedVariables false
set_option linter.unusedSimpArgs false
namespace Go.Proofs.Ytjefolfbdohkcaa
open Go Go.Abs
theorem wN {n : Nat} (h : n < 9223372036854775808) : IntKind.wrap .i64 (n : Int) = n := wrap_i64 (by omega) (by omega)
/-- one more, of what is kept -/
theorem push_mk {α : Type} {f : α → List F} {es : Nat} (hf : ∀ a, (f a).length = es) (done : List α) (x : α) (z : Nat) (hz : (done.length + 1) * z ≤ 140737488355328) (K : Nat → List F → R) :
    (if es = es ∧ (done.length + 1) * z ≤ 140737488355328 then if 0 + (done.length * es) ≤ (done.flatMap f).length then if 0 + ((done.length + 1) * es) ≤ ((((done.flatMap f).drop 0).take (done.length * es)) ++ f x).length then K (done.length + 1) ((((((done.flatMap f).drop 0).take (done.length * es)) ++ f x).drop 0).take ((done.length + 1) * es)) else none else none else none) = K (done ++ [x]).length ((done ++ [x]).flatMap f) := by
  have hl := flat_len hf done
  have e : done.flatMap f ++ f x = (done ++ [x]).flatMap f := by simp
  have hl2 := flat_len hf (done ++ [x])
  simp only [Nat.zero_add, List.drop_zero]
  rw [if_pos ⟨trivial, hz⟩, if_pos (by omega), List.take_of_length_le (l := done.flatMap f) (by omega), e, if_pos (by rw [hl2]; simp), List.take_of_length_le (by rw [hl2]; simp), List.length_append, List.length_singleton]
theorem keep_mk {α : Type} {f : α → List F} {es : Nat} (hf : ∀ a, (f a).length = es) (done : List α) (K : List F → R) :
    (if 0 + (done.length * es) ≤ (done.flatMap f).length then K (((done.flatMap f).drop 0).take (done.length * es)) else none) = K (done.flatMap f) := by
  have hl := flat_len hf done
  simp only [Nat.zero_add, List.drop_zero]
  rw [if_pos (by omega), List.take_of_length_le (by omega)]
/-! ### variables -/
section
variable {G L : Nat} (hG : G ≤ 1000) (hL : L ≤ 1000) (hp : 0 < L)
include hG hL hp
end
/-! ### statements -/
section
variable {G L S : Nat} {ps : List Int} {m1 m7 : Nat} {c2 c4 c5 c8 c12 c14 : List F} {n9 n10 : Int}
/-- what a statement is made in -/
structure StC (G L S : Nat) (ps : List Int) (c5 : List F) : Prop where
  hG : G ≤ 1000
  hL : L ≤ 1000
  hL0 : 0 < L
  hS : S ≤ 1000
  hS0 : 0 < S
  hN : ps.length ≤ 1000
  hN0 : 0 < ps.length
  hps : ∀ j, j < ps.length → ∀ K : Int → R, atI .i64 c5 ((0 + (j * 5)) + 1) K = K (ps.getD j 0)
  hpr : ∀ j, j < ps.length → 0 ≤ ps.getD j 0 ∧ ps.getD j 0 ≤ 1000
end
end Go.Proofs.Ytjefolfbdohkcaa
