/-
  Numbers as bytes: in plain Lean.
-/
import Derived.Test.YtjhojfedimbpiaaAbsWords
set_option autoImplicit false
set_option linter.unusedVariables false
namespace Go.Abs

/-- groups of seven bits that others follow -/
def hi (n : Nat) : List UInt8 := if n = 0 then [] else hi (n / 128) ++ [UInt8.ofNat (n % 128 + 128)]
termination_by n
decreasing_by omega
/-- a number as bytes -/
def putB (n : Nat) : List UInt8 := hi (n / 128) ++ [UInt8.ofNat (n % 128)]
def zig (n : Int) : Nat := if n < 0 then (-2 * n - 1).toNat else (2 * n).toNat
def zag (u : Nat) : Int := if u % 2 = 0 then (u / 2 : Nat) else -((u / 2 : Nat) : Int) - 1

theorem hi_zero : hi 0 = [] := by rw [hi]; rfl
theorem hi_pos {n : Nat} (h : 0 < n) : hi n = hi (n / 128) ++ [UInt8.ofNat (n % 128 + 128)] := by
  rw [hi, if_neg (by omega)]
theorem hi_len : ∀ (k n : Nat), n < 128 ^ k → (hi n).length ≤ k
  | 0, n, h => by
    have : n = 0 := by simpa using h
    subst this; rw [hi_zero]; exact Nat.le_refl _
  | k + 1, n, h => by
    by_cases h0 : n = 0
    · subst h0; rw [hi_zero]; simp
    · rw [hi_pos (by omega), List.length_append]
      have := hi_len k (n / 128) (by rw [Nat.pow_succ] at h; exact Nat.div_lt_of_lt_mul (by omega))
      simp; omega
theorem putB_len_pos (n : Nat) : 0 < (putB n).length := by simp [putB]
theorem putB_len {n : Nat} (h : n < 18446744073709551616) : (putB n).length ≤ 10 := by
  have := hi_len 9 (n / 128) (by omega)
  simp [putB]; omega
theorem zag_zig (n : Int) : zag (zig n) = n := by unfold zag zig; split <;> split <;> omega
theorem zig_zag (u : Nat) : zig (zag u) = u := by unfold zag zig; split <;> split <;> omega
theorem zig_lt {n : Int} (h1 : -9223372036854775808 ≤ n) (h2 : n < 9223372036854775808) : zig n < 18446744073709551616 := by unfold zig; split <;> omega
theorem zag_in {u : Nat} (h : u < 18446744073709551616) : -9223372036854775808 ≤ zag u ∧ zag u < 9223372036854775808 := by unfold zag; split <;> omega

/-- a number out of bytes: k of them were read, n is what they say: the number, how many bytes, the error -/
def rdN (most : Nat) : List UInt8 → Nat → Nat → Nat × Nat × Nat
  | [], _, _ => (0, 0, 3)
  | b :: l, k, n =>
    if (k = 0 ∧ b.toNat = 128) ∨ 144115188075855872 ≤ n then (0, 0, 4)
    else if 128 ≤ b.toNat then rdN most l (k + 1) (n * 128 + b.toNat % 128)
    else if most < n * 128 + b.toNat % 128 then (0, 0, 5)
    else (n * 128 + b.toNat % 128, k + 1, 0)
theorem rdN_hi (most : Nat) : ∀ (j n : Nat) (r : List UInt8), n < 128 ^ j → 0 < n → n < 144115188075855872 → rdN most (hi n ++ r) 0 0 = rdN most r (hi n).length n
  | 0, n, r, h, h0, _ => by simp at h; omega
  | j + 1, n, r, h, h0, h1 => by
    rw [hi_pos h0]
    have e1 : (UInt8.ofNat (n % 128 + 128)).toNat = n % 128 + 128 := by simp; omega
    by_cases hz : n / 128 = 0
    · rw [hz, hi_zero, List.nil_append, List.singleton_append, rdN, e1]
      rw [if_neg (by omega), if_pos (by omega)]
      simp only [List.length_singleton]
      congr 1; omega
    · rw [List.append_assoc, rdN_hi most j (n / 128) _ (by rw [Nat.pow_succ] at h; exact Nat.div_lt_of_lt_mul (by omega)) (by omega) (by omega)]
      have hl : 0 < (hi (n / 128)).length := by rw [hi_pos (by omega)]; simp
      rw [List.singleton_append, rdN, e1, if_neg (by omega), if_pos (by omega)]
      simp only [List.length_append, List.length_singleton]
      congr 1; omega
/-- what was put is read -/
theorem rdN_put (most n : Nat) (r : List UInt8) (h : n < 18446744073709551616) : rdN most (putB n ++ r) 0 0 = if most < n then (0, 0, 5) else (n, (putB n).length, 0) := by
  have e1 : (UInt8.ofNat (n % 128)).toNat = n % 128 := by simp; omega
  unfold putB
  by_cases hz : n / 128 = 0
  · rw [hz, hi_zero, List.nil_append, List.singleton_append, rdN, e1, if_neg (by omega), if_neg (by omega)]
    rw [show 0 * 128 + n % 128 % 128 = n by omega]; rfl
  · rw [List.append_assoc, rdN_hi most 9 (n / 128) _ (by omega) (by omega) (by omega)]
    have hl : 0 < (hi (n / 128)).length := by rw [hi_pos (by omega)]; simp
    rw [List.singleton_append, rdN, e1, if_neg (by omega), if_neg (by omega), show n / 128 * 128 + n % 128 % 128 = n by omega]
    simp
/-- cut bytes end too early -/
theorem rdN_cut (most : Nat) : ∀ (j n : Nat) (m : Nat), n < 128 ^ j → 0 < n → n < 144115188075855872 → m ≤ (hi n).length → rdN most ((hi n).take m) 0 0 = (0, 0, 3)
  | 0, n, m, h, h0, _, _ => by simp at h; omega
  | j + 1, n, m, h, h0, h1, hm => by
    rw [hi_pos h0] at hm ⊢
    rw [List.length_append, List.length_singleton] at hm
    have e1 : (UInt8.ofNat (n % 128 + 128)).toNat = n % 128 + 128 := by simp; omega
    by_cases hz : n / 128 = 0
    · rw [hz, hi_zero] at hm ⊢
      simp at hm
      cases m with
      | zero => simp [rdN]
      | succ m =>
        have : m = 0 := by omega
        subst this
        simp only [List.nil_append, List.take_succ_cons, List.take_zero, rdN, e1]
        rw [if_neg (by omega), if_pos (by omega)]
    · by_cases hm' : m ≤ (hi (n / 128)).length
      · rw [List.take_append_of_le_length hm']
        exact rdN_cut most j (n / 128) m (by rw [Nat.pow_succ] at h; exact Nat.div_lt_of_lt_mul (by omega)) (by omega) (by omega) hm'
      · have : m = (hi (n / 128)).length + 1 := by omega
        subst this
        rw [List.take_of_length_le (by simp), rdN_hi most j (n / 128) _ (by rw [Nat.pow_succ] at h; exact Nat.div_lt_of_lt_mul (by omega)) (by omega) (by omega)]
        have hl : 0 < (hi (n / 128)).length := by rw [hi_pos (by omega)]; simp
        rw [rdN, e1, if_neg (by omega), if_pos (by omega), rdN]
theorem rdN_short (most n m : Nat) (h : n < 18446744073709551616) (hm : m < (putB n).length) : rdN most ((putB n).take m) 0 0 = (0, 0, 3) := by
  unfold putB at hm ⊢
  rw [List.length_append, List.length_singleton] at hm
  rw [List.take_append_of_le_length (by omega)]
  by_cases hz : n / 128 = 0
  · rw [hz, hi_zero]; simp [rdN]
  · exact rdN_cut most 9 (n / 128) m (by omega) (by omega) (by omega) (by omega)

/-! ### bytes stand in the numbers' order -/
open Go in
theorem less_snoc : ∀ (l m : List UInt8) (x y : UInt8), l.length = m.length → Op.bytesLess (l ++ [x]) (m ++ [y]) = (Op.bytesLess l m || (l == m && decide (x < y)))
  | [], [], x, y, _ => by simp [Op.bytesLess]
  | a :: l, b :: m, x, y, h => by
    have ih := less_snoc l m x y (by simpa using h)
    simp only [List.cons_append, Op.bytesLess, ih]
    have e : (a :: l == b :: m) = (a == b && l == m) := rfl
    rw [e]
    cases decide (a < b) <;> cases (a == b) <;> simp
  | [], _ :: _, _, _, h => by simp at h
  | _ :: _, [], _, _, h => by simp at h
theorem grp_lt {a b k : Nat} (ha : a < 128) (hb : b < 128) (hk : k ≤ 128) : (UInt8.ofNat (a + k) < UInt8.ofNat (b + k)) ↔ a < b := by
  rw [UInt8.lt_iff_toNat_lt]; simp; omega
theorem grp_eq {a b k : Nat} (ha : a < 128) (hb : b < 128) (hk : k ≤ 128) : (UInt8.ofNat (a + k) = UInt8.ofNat (b + k)) ↔ a = b := by
  rw [← UInt8.toNat_inj]; simp; omega
theorem hi_mono : ∀ (k a b : Nat), b < 128 ^ k → a ≤ b → (hi a).length ≤ (hi b).length
  | 0, a, b, h, hab => by
    have : b = 0 := by simpa using h
    have : a = 0 := by omega
    simp [*]
  | k + 1, a, b, h, hab => by
    by_cases ha : a = 0
    · subst ha; rw [hi_zero]; simp
    · rw [hi_pos (n := a) (by omega), hi_pos (n := b) (by omega)]
      have := hi_mono k (a / 128) (b / 128) (by rw [Nat.pow_succ] at h; exact Nat.div_lt_of_lt_mul (by omega)) (Nat.div_le_div_right hab)
      simpa using this
open Go in
theorem hi_less : ∀ (k a b : Nat), a < 128 ^ k → b < 128 ^ k → (hi a).length = (hi b).length → Op.bytesLess (hi a) (hi b) = decide (a < b) ∧ (hi a = hi b ↔ a = b)
  | 0, a, b, ha, hb, _ => by
    have h1 : a = 0 := by simpa using ha
    have h2 : b = 0 := by simpa using hb
    subst h1; subst h2; simp [hi_zero, Op.bytesLess]
  | k + 1, a, b, ha, hb, hl => by
    by_cases h1 : a = 0
    · by_cases h2 : b = 0
      · subst h1; subst h2; simp [hi_zero, Op.bytesLess]
      · subst h1; rw [hi_zero, hi_pos (n := b) (by omega)] at hl; simp at hl
    · by_cases h2 : b = 0
      · subst h2; rw [hi_zero, hi_pos (n := a) (by omega)] at hl; simp at hl
      · rw [hi_pos (n := a) (by omega), hi_pos (n := b) (by omega)] at hl ⊢
        have hl' : (hi (a / 128)).length = (hi (b / 128)).length := by simpa using hl
        obtain ⟨i1, i2⟩ := hi_less k (a / 128) (b / 128) (by rw [Nat.pow_succ] at ha; exact Nat.div_lt_of_lt_mul (by omega)) (by rw [Nat.pow_succ] at hb; exact Nat.div_lt_of_lt_mul (by omega)) hl'
        have g1 := grp_lt (a := a % 128) (b := b % 128) (k := 128) (by omega) (by omega) (by omega)
        have g2 := grp_eq (a := a % 128) (b := b % 128) (k := 128) (by omega) (by omega) (by omega)
        refine ⟨?_, ?_⟩
        · rw [less_snoc _ _ _ _ hl', i1]
          by_cases he : a / 128 = b / 128
          · have e1 : (hi (a / 128) == hi (b / 128)) = true := by simpa using i2.2 he
            rw [e1, Bool.eq_iff_iff]; simp only [Bool.or_eq_true, decide_eq_true_eq, Bool.true_and, g1]; omega
          · have e1 : (hi (a / 128) == hi (b / 128)) = false := by simpa using fun h => he (i2.1 h)
            rw [e1, Bool.eq_iff_iff]; simp; omega
        · constructor
          · intro h
            obtain ⟨h3, h4⟩ := List.append_inj h hl'
            have h5 := i2.1 h3
            have h6 := g2.1 (by simpa using h4)
            omega
          · rintro rfl; rfl
open Go in
theorem putB_order {a b : Nat} (ha : a < 18446744073709551616) (hb : b < 18446744073709551616) :
    ((decide ((putB a).length < (putB b).length) || ((putB a).length == (putB b).length && Op.bytesLess (putB a) (putB b))) = decide (a < b)) ∧ (putB a = putB b ↔ a = b) := by
  have e1 : (putB a).length = (hi (a / 128)).length + 1 := by simp [putB]
  have e2 : (putB b).length = (hi (b / 128)).length + 1 := by simp [putB]
  have m1 := hi_mono 9 (a / 128) (b / 128) (by omega)
  have m2 := hi_mono 9 (b / 128) (a / 128) (by omega)
  by_cases hl : (hi (a / 128)).length = (hi (b / 128)).length
  · obtain ⟨i1, i2⟩ := hi_less 9 (a / 128) (b / 128) (by omega) (by omega) hl
    have g1 := grp_lt (a := a % 128) (b := b % 128) (k := 0) (by omega) (by omega) (by omega)
    have g2 := grp_eq (a := a % 128) (b := b % 128) (k := 0) (by omega) (by omega) (by omega)
    simp only [Nat.add_zero] at g1 g2
    refine ⟨?_, ?_⟩
    · have : Op.bytesLess (putB a) (putB b) = decide (a < b) := by
        unfold putB
        rw [less_snoc _ _ _ _ hl, i1]
        by_cases he : a / 128 = b / 128
        · have e1 : (hi (a / 128) == hi (b / 128)) = true := by simpa using i2.2 he
          rw [e1, Bool.eq_iff_iff]; simp only [Bool.or_eq_true, decide_eq_true_eq, Bool.true_and, g1]; omega
        · have e1 : (hi (a / 128) == hi (b / 128)) = false := by simpa using fun h => he (i2.1 h)
          rw [e1, Bool.eq_iff_iff]; simp; omega
      rw [this, e1, e2, hl]; simp
    · constructor
      · intro h
        obtain ⟨h3, h4⟩ := List.append_inj h hl
        have h5 := i2.1 h3
        have h6 := g2.1 (by simpa using h4)
        omega
      · rintro rfl; rfl
  · have hne : (putB a).length ≠ (putB b).length := by omega
    refine ⟨?_, ⟨fun h => absurd (congrArg List.length h) hne, fun h => by rw [h] at hl; exact absurd rfl hl⟩⟩
    have : ((putB a).length == (putB b).length) = false := by simpa using hne
    rw [this]
    simp only [Bool.false_and, Bool.or_false, decide_eq_decide]
    constructor
    · intro h
      have : ¬ b / 128 ≤ a / 128 := fun h' => by have := m2 h'; omega
      omega
    · intro h
      have := m1 (Nat.div_le_div_right (Nat.le_of_lt h))
      omega
end Go.Abs
