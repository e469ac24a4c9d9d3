/-
  Numbers as bytes: in plain Lean.
-/
import Derived.Test.YtjhojfedimbpiaaAbsWords
set_option autoImplicit false
namespace Go.Abs

/-- groups of seven bits that others follow -/
def hi (n : Nat) : List UInt8 := if n = 0 then [] else hi (n / 128) ++ [UInt8.ofNat (n % 128 + 128)]
termination_by n
decreasing_by omega
/-- a number as bytes -/
def putB (n : Nat) : List UInt8 := hi (n / 128) ++ [UInt8.ofNat (n % 128)]
def zig (n : Int) : Nat := if n < 0 then (-2 * n - 1).toNat else (2 * n).toNat
def zag (u : Nat) : Int := if u % 2 = 0 then (u / 2 : Nat) else -((u / 2 : Nat) : Int) - 1

theorem hi_zero : hi 0 = [] := by rw [hi]; rfl
theorem hi_pos {n : Nat} (h : 0 < n) : hi n = hi (n / 128) ++ [UInt8.ofNat (n % 128 + 128)] := by
  rw [hi, if_neg (by omega)]
theorem hi_len : ∀ (k n : Nat), n < 128 ^ k → (hi n).length ≤ k
  | 0, n, h => by
    have : n = 0 := by simpa using h
    subst this; rw [hi_zero]; exact Nat.le_refl _
  | k + 1, n, h => by
    by_cases h0 : n = 0
    · subst h0; rw [hi_zero]; simp
    · rw [hi_pos (by omega), List.length_append]
      have := hi_len k (n / 128) (by rw [Nat.pow_succ] at h; exact Nat.div_lt_of_lt_mul (by omega))
      simp; omega
theorem putB_len_pos (n : Nat) : 0 < (putB n).length := by simp [putB]
theorem putB_len {n : Nat} (h : n < 18446744073709551616) : (putB n).length ≤ 10 := by
  have := hi_len 9 (n / 128) (by omega)
  simp [putB]; omega
theorem zag_zig (n : Int) : zag (zig n) = n := by unfold zag zig; split <;> split <;> omega
theorem zig_zag (u : Nat) : zig (zag u) = u := by unfold zag zig; split <;> split <;> omega
theorem zig_lt {n : Int} (h1 : -9223372036854775808 ≤ n) (h2 : n < 9223372036854775808) : zig n < 18446744073709551616 := by unfold zig; split <;> omega
theorem zag_in {u : Nat} (h : u < 18446744073709551616) : -9223372036854775808 ≤ zag u ∧ zag u < 9223372036854775808 := by unfold zag; split <;> omega
end Go.Abs
