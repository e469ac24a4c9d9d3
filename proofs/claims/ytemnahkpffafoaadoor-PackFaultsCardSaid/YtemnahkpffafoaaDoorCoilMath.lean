import Derived.Test.YtemnahkpffafoaaDoorAbsWords
set_option autoImplicit false
namespace Go.Abs
def hi (n : Nat) : List UInt8 := if n = 0 then [] else hi (n / 128) ++ [UInt8.ofNat (n % 128 + 128)]
termination_by n
decreasing_by omega
def putB (n : Nat) : List UInt8 := hi (n / 128) ++ [UInt8.ofNat (n % 128)]
theorem hi_zero : hi 0 = [] := by rw [hi]; rfl
theorem hi_pos {n : Nat} (h : 0 < n) : hi n = hi (n / 128) ++ [UInt8.ofNat (n % 128 + 128)] := by
 rw [hi, if_neg (by omega)]
theorem hi_len : ∀ (k n : Nat), n < 128 ^ k → (hi n).length ≤ k
 | 0, n, h => by
  have : n = 0 := by simpa using h
  subst this; rw [hi_zero]; exact Nat.le_refl _
 | k + 1, n, h => by
  by_cases h0 : n = 0
  ·subst h0; rw [hi_zero]; simp
  ·rw [hi_pos (by omega), List.length_append]
   have := hi_len k (n / 128) (by rw [Nat.pow_succ] at h; exact Nat.div_lt_of_lt_mul (by omega))
   simp; omega
theorem putB_len_pos (n : Nat) : 0 < (putB n).length := by simp [putB]
theorem putB_len {n : Nat} (h : n < 18446744073709551616) : (putB n).length ≤ 10 := by
 have := hi_len 9 (n / 128) (by omega)
 simp [putB]; omega
def rdN (most : Nat) : List UInt8 → Nat → Nat → Nat × Nat × Nat
 | [], _, _ => (0, 0, 3)
 | b :: l, k, n =>
  if (k = 0 ∧ b.toNat = 128) ∨ 144115188075855872 ≤ n then (0, 0, 4)
  else if 128 ≤ b.toNat then rdN most l (k + 1) (n * 128 + b.toNat % 128)
  else if most < n * 128 + b.toNat % 128 then (0, 0, 5)
  else (n * 128 + b.toNat % 128, k + 1, 0)
theorem rdN_hi (most : Nat) : ∀ (j n : Nat) (r : List UInt8), n < 128 ^ j → 0 < n → n < 144115188075855872 → rdN most (hi n ++ r) 0 0 = rdN most r (hi n).length n
 | 0, n, r, h, h0, _ => by simp at h; omega
 | j + 1, n, r, h, h0, h1 => by
  rw [hi_pos h0]
  have e1 : (UInt8.ofNat (n % 128 + 128)).toNat = n % 128 + 128 := by simp; omega
  by_cases hz : n / 128 = 0
  ·rw [hz, hi_zero, List.nil_append, List.singleton_append, rdN, e1]
   rw [if_neg (by omega), if_pos (by omega)]
   simp only [List.length_singleton]
   congr 1; omega
  ·rw [List.append_assoc, rdN_hi most j (n / 128) _ (by rw [Nat.pow_succ] at h; exact Nat.div_lt_of_lt_mul (by omega)) (by omega) (by omega)]
   have hl : 0 < (hi (n / 128)).length := by rw [hi_pos (by omega)]; simp
   rw [List.singleton_append, rdN, e1, if_neg (by omega), if_pos (by omega)]
   simp only [List.length_append, List.length_singleton]
   congr 1; omega
theorem rdN_put (most n : Nat) (r : List UInt8) (h : n < 18446744073709551616) : rdN most (putB n ++ r) 0 0 = if most < n then (0, 0, 5) else (n, (putB n).length, 0) := by
 have e1 : (UInt8.ofNat (n % 128)).toNat = n % 128 := by simp; omega
 unfold putB
 by_cases hz : n / 128 = 0
 ·rw [hz, hi_zero, List.nil_append, List.singleton_append, rdN, e1, if_neg (by omega), if_neg (by omega)]
  rw [show 0 * 128 + n % 128 % 128 = n by omega]; rfl
 ·rw [List.append_assoc, rdN_hi most 9 (n / 128) _ (by omega) (by omega) (by omega)]
  have hl : 0 < (hi (n / 128)).length := by rw [hi_pos (by omega)]; simp
  rw [List.singleton_append, rdN, e1, if_neg (by omega), if_neg (by omega), show n / 128 * 128 + n % 128 % 128 = n by omega]
  simp
end Go.Abs
