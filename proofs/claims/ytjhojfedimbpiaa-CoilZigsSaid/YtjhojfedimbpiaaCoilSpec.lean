/-
  What each function of layer 1 answers.
-/
import Derived.Test.YtjhojfedimbpiaaCoilEq
import Derived.Test.YtjhojfedimbpiaaCoilMath
set_option autoImplicit false
set_option linter.unusedVariables false
set_option linter.unusedSimpArgs false
namespace Go.Proofs.Ytjhojfedimbpiaa
open Go Go.Abs

theorem Size_loop : ∀ (k n : Nat) (m : Int), n < 128 ^ k → 0 ≤ m → m + k < 9223372036854775808 → Size_1 n m = some (.ret (I (m + (hi n).length)), [])
  | 0, n, m, h, h0, h1 => by
    have : n = 0 := by simpa using h
    subst this
    rw [Size_1_eq, if_neg (by simp), hi_zero]; simp
  | k + 1, n, m, h, h0, h1 => by
    rw [Size_1_eq]
    by_cases hn : n = 0
    · subst hn; rw [if_neg (by simp), hi_zero]; simp
    · rw [if_pos (by simp; omega), fdiv7, wrap_i64 (by omega) (by omega), Size_loop k (n / 128) (m + 1) (by rw [Nat.pow_succ] at h; exact Nat.div_lt_of_lt_mul (by omega)) (by omega) (by omega), hi_pos (n := n) (by omega)]
      simp; omega
theorem Size_spec (n : Nat) (h : n < 18446744073709551616) (h0 : H) : run w0 15 [N .u64 n] h0 = some (.ret (I (putB n).length), h0) := by
  rw [Size_run, Size_eq, fdiv7, Size_loop 9 (n / 128) 1 (by omega) (by omega) (by omega)]
  simp only [withH, putB, List.length_append, List.length_singleton]
  rw [show ((1 : Int) + ((hi (n / 128)).length : Nat)) = (((hi (n / 128)).length + 1 : Nat) : Int) by omega]

theorem xor_ones (x : Nat) (h : x < 18446744073709551616) : x ^^^ 18446744073709551615 = 18446744073709551615 - x := by
  have h1 := BitVec.toNat_not (x := BitVec.ofNat 64 x)
  rw [← BitVec.xor_allOnes, BitVec.toNat_xor] at h1
  simp at h1
  rw [Nat.mod_eq_of_lt h] at h1
  exact h1
theorem Zig_spec (n : Int) (h1 : -9223372036854775808 ≤ n) (h2 : n < 9223372036854775808) (h0 : H) : run w0 12 [N .i64 n] h0 = some (.ret (N .u64 (zig n)), h0) := by
  rw [Zig_run, Zig_eq]
  simp only [withH]
  have ha : IntKind.wrap .u64 (IntKind.wrap .u64 n * 2 ^ 1) = (((2 * n) % 18446744073709551616).toNat : Nat) := by rw [wrap_u64, wrap_u64]; omega
  rw [ha]
  by_cases hn : n < 0
  · have hb : Int.fdiv n (2 ^ 63) = -1 := by rw [Int.fdiv_eq_ediv_of_nonneg _ (by omega)]; omega
    have hc : IntKind.wrap .u64 (-1) = ((18446744073709551615 : Nat) : Int) := by rw [wrap_u64]; omega
    rw [hb, hc, xor_toNat, xor_ones _ (by omega), wrap_u64]
    unfold zig; rw [if_pos hn]
    congr 5
    omega
  · have hb : Int.fdiv n (2 ^ 63) = 0 := by rw [Int.fdiv_eq_ediv_of_nonneg _ (by omega)]; omega
    have hc : IntKind.wrap .u64 0 = ((0 : Nat) : Int) := by rw [wrap_u64]; rfl
    rw [hb, hc, xor_toNat, Nat.xor_zero, wrap_u64]
    unfold zig; rw [if_neg hn]
    congr 5
    omega
theorem rZig_spec (n : Int) (h1 : -9223372036854775808 ≤ n) (h2 : n < 9223372036854775808) (h0 : H) : run w0 13 [N .i64 n] h0 = some (.ret (N .u64 (zig n)), h0) := by
  rw [rZig_run, rZig_eq]
  by_cases hn : n < 0
  · rw [if_pos (by simpa using hn)]
    simp only [withH]
    rw [wrap_i64 (n := n + 1) (by omega) (by omega), wrap_i64 (n := 0 - (n + 1)) (by omega) (by omega), wrap_u64, wrap_u64, wrap_u64]
    unfold zig; rw [if_pos hn]
    congr 5
    omega
  · rw [if_neg (by simpa using hn)]
    simp only [withH]
    rw [wrap_u64, wrap_u64]
    unfold zig; rw [if_neg hn]
    congr 5
    omega
theorem Zag_spec (u : Nat) (h : u < 18446744073709551616) (h0 : H) : run w0 14 [N .u64 u] h0 = some (.ret (N .i64 (zag u)), h0) := by
  rw [Zag_run, Zag_eq]
  simp only [withH]
  have h63 : Int.fdiv (u : Int) (2 ^ 1) = ((u / 2 : Nat) : Int) := fdiv_nat u 2
  rw [h63, wrap_i64 (n := ((u / 2 : Nat) : Int)) (by omega) (by omega), and1 (by omega), wrap_u64_in (n := ((u % 2 : Nat) : Int)) (by omega) (by omega), wrap_i64 (n := ((u % 2 : Nat) : Int)) (by omega) (by omega), wrap_i64 (n := 0 - ((u % 2 : Nat) : Int)) (by omega) (by omega)]
  by_cases hu : u % 2 = 0
  · rw [hu]
    have : (0 - ((0 : Nat) : Int)) = ((0 : Nat) : Int) := by omega
    rw [this, xor_toNat, Nat.xor_zero, wrap_i64 (by omega) (by omega)]
    unfold zag; rw [if_pos hu]
    congr 5
    omega
  · have hu1 : u % 2 = 1 := by omega
    rw [hu1]
    have : BitVec.ofInt 64 (0 - ((1 : Nat) : Int)) = BitVec.ofInt 64 ((18446744073709551615 : Nat) : Int) := by decide
    rw [this, xor_toNat, xor_ones _ (by omega), wrap_i64']
    unfold zag; rw [if_neg hu]
    congr 5
    split <;> omega

theorem grp {n : Nat} : IntKind.wrap .u8 (BitVec.ofInt 8 (IntKind.wrap .u8 (IntKind.wrap .u64 (BitVec.ofInt 64 (n : Int) &&& BitVec.ofInt 64 127).toNat)) ||| BitVec.ofInt 8 128).toNat = ((UInt8.ofNat (n % 128 + 128)).toNat : Int) := by
  rw [and127 (by omega), wrap_u64_in (n := ((n % 128 : Nat) : Int)) (by omega) (by omega), wrap_u8_in (n := ((n % 128 : Nat) : Int)) (by omega) (by omega), show (128 : Int) = ((128 : Nat) : Int) from rfl, or_toNat, or128 (by omega), wrap_u8]
  simp
theorem low {n : Nat} : IntKind.wrap .u8 (IntKind.wrap .u64 (BitVec.ofInt 64 (n : Int) &&& BitVec.ofInt 64 127).toNat) = ((UInt8.ofNat (n % 128)).toNat : Int) := by
  rw [and127 (by omega), wrap_u64_in (by omega) (by omega), wrap_u8_in (by omega) (by omega)]
  simp
  omega
theorem Put_end (c : List F) (j : List F) (t : List UInt8) (hj : j.length + t.length = 10) (hc : c.length + 10 ≤ 140737488355328) :
    Put_1 c.length 0 j.length c (j ++ bF t) = some (.ret (.ref 0 0 (c.length + t.length) 1), [.fz (c ++ bF t)]) := by
  have hl : (j ++ bF t).length = 10 := by simpa using hj
  rw [Put_1_eq, if_neg (by simp), if_pos (by omega)]
  simp only [Option.bind_some]
  rw [if_pos (by omega)]
  simp only [Option.bind_some, Int.toNat_natCast, Nat.mul_one, Nat.zero_add]
  have h1 : ((j ++ bF t).drop j.length).take (10 - j.length) = bF t := by
    rw [List.drop_left, List.take_of_length_le (by simp; omega)]
  rw [if_pos (by simp; omega), h1, if_pos (by simp; omega), if_pos (by simp; omega), if_pos (by omega)]
  rw [List.drop_zero, List.take_of_length_le (Nat.le_refl _), if_pos (by simp; omega), List.drop_zero, List.take_of_length_le (by simp; omega)]
  rw [show c.length + (10 - j.length) = c.length + t.length by omega]
theorem Put_loop : ∀ (k n : Nat) (c j : List F) (t : List UInt8), n < 128 ^ k → k ≤ j.length → j.length + t.length = 10 → c.length + 10 ≤ 140737488355328 →
    Put_1 c.length n j.length c (j ++ bF t) = some (.ret (.ref 0 0 (c.length + (hi n ++ t).length) 1), [.fz (c ++ bF (hi n ++ t))])
  | 0, n, c, j, t, h, hk, hj, hc => by
    have : n = 0 := by simpa using h
    subst this
    rw [hi_zero]; exact Put_end c j t hj hc
  | k + 1, n, c, j, t, h, hk, hj, hc => by
    by_cases hn : n = 0
    · subst hn; rw [hi_zero]; exact Put_end c j t hj hc
    · rw [Put_1_eq, if_pos (by simp; omega), wrap_i64 (n := (j.length : Int) - 1) (by omega) (by omega), if_pos (by omega)]
      have ht : ((j.length : Int) - 1).toNat = j.length - 1 := by omega
      rw [ht, if_pos (by simp; omega), if_pos (by omega), fdiv7, grp]
      simp only [Nat.mul_one, Nat.zero_add]
      rw [List.drop_zero, List.take_of_length_le (Nat.le_refl _)]
      obtain ⟨j', x, rfl⟩ : ∃ j' x, j = j' ++ [x] := ⟨j.dropLast, j.getLast (by intro h; subst h; simp at hk), (List.dropLast_concat_getLast _).symm⟩
      simp only [List.length_append, List.length_singleton] at hk hj ⊢
      have hs : (j' ++ [x] ++ bF t).set (j'.length + 1 - 1) (.s (.int .u8 ((UInt8.ofNat (n % 128 + 128)).toNat : Int))) = j' ++ bF (UInt8.ofNat (n % 128 + 128) :: t) := by
        simp [bF_cons]
      rw [hs, show ((j'.length + 1 : Nat) : Int) - 1 = (j'.length : Int) by omega, Put_loop k (n / 128) c j' _ (by rw [Nat.pow_succ] at h; exact Nat.div_lt_of_lt_mul (by omega)) (by omega) (by simp; omega) hc]
      rw [hi_pos (n := n) (by omega)]
      simp
      omega
/-- Put, of what is its own -/
theorem Put_core (c : List F) (n : Nat) (h : n < 18446744073709551616) (hc : c.length + 10 ≤ 140737488355328) : Put_0 c c.length n = some (.ret (.ref 0 0 (c.length + (putB n).length) 1), [.fz (c ++ bF (putB n))]) := by
  rw [Put_eq, if_pos (by omega), fdiv7, low]
  simp only [Nat.mul_one]
  rw [List.drop_zero, List.take_of_length_le (Nat.le_refl _)]
  exact Put_loop 9 (n / 128) c [.s (.int .u8 0), .s (.int .u8 0), .s (.int .u8 0), .s (.int .u8 0), .s (.int .u8 0), .s (.int .u8 0), .s (.int .u8 0), .s (.int .u8 0), .s (.int .u8 0)] [UInt8.ofNat (n % 128)] (by omega) (by simp) (by simp) hc
theorem Put_nil (n : Nat) (h : n < 18446744073709551616) : Put_0 [] 0 n = some (.ret (.ref 0 0 (putB n).length 1), [.fz (bF (putB n))]) := by
  have := Put_core [] n h (by simp)
  simpa using this
theorem putB_300 : putB 300 = [130, 44] := by simp [putB, hi]
theorem awake_spec (h0 : H) : run w0 11 [] h0 = some (.ret (B true), h0) := by
  rw [awake_run, awake_eq, awake_c1, show (300 : Int) = ((300 : Nat) : Int) from rfl, Put_nil 300 (by omega), putB_300]
  show withH h0 (awake_1 2 (bF [130, 44])) = _
  rw [awake_1_eq]
  have := toStr [130, 44]
  rw [show [(130 : UInt8), 44].length = 2 from rfl] at this
  rw [this]
  simp only [Option.bind_some, withH, ba_mk]
  rfl

/-! ### the laws of numbers alone -/
theorem CoilZigs_law (n : Int) (h1 : -9223372036854775808 ≤ n) (h2 : n < 9223372036854775808) (u : Nat) (h3 : u < 18446744073709551616) : run w0 4 [N .i64 n, N .u64 u] [] = some (.ret (B true), []) := by
  have hz := zig_lt h1 h2
  have hg := zag_in h3
  rw [CoilZigs_run, CoilZigs_eq, awake_spec, retB_some, CoilZigs_r1_CoilZigs_1, CoilZigs_1_eq, if_pos rfl, Zig_spec n h1 h2, retI_some, CoilZigs_r2_CoilZigs_2, CoilZigs_2_eq, rZig_spec n h1 h2, retI_some, CoilZigs_r3_CoilZigs_3, CoilZigs_3_eq]
  rw [if_pos (by simp), Zig_spec n h1 h2, retI_some, CoilZigs_r4_CoilZigs_4, CoilZigs_4_eq, Zag_spec _ hz, zag_zig, retI_some, CoilZigs_r5_CoilZigs_5, CoilZigs_5_eq, if_pos (by simp)]
  rw [Zag_spec u h3, retI_some, CoilZigs_r6_CoilZigs_6, CoilZigs_6_eq, Zig_spec _ hg.1 hg.2, retI_some, CoilZigs_r7_CoilZigs_7, CoilZigs_7_eq, zig_zag]
  simp [withH]
theorem pow128 : ∀ (k m : Nat), 128 ^ k ≤ m → m < 128 ^ (k + 1) → (hi m).length = k + 1
  | 0, m, h1, h2 => by
    have : m / 128 = 0 := by omega
    rw [hi_pos (by omega), this, hi_zero]; rfl
  | k + 1, m, h1, h2 => by
    have h3 : 128 ^ k ≤ m / 128 := (Nat.le_div_iff_mul_le (by omega)).2 (by rw [Nat.pow_succ] at h1; omega)
    have h4 : m / 128 < 128 ^ (k + 1) := Nat.div_lt_of_lt_mul (by rw [Nat.pow_succ] at h2; omega)
    have : 0 < m := Nat.lt_of_lt_of_le (Nat.pow_pos (by omega)) h1
    rw [hi_pos this, List.length_append, pow128 k _ h3 h4]; rfl
theorem putB_pow {k m : Nat} (h1 : 128 ^ k ≤ m) (h2 : m < 128 ^ (k + 1)) : (putB m).length = k + 1 := by
  cases k with
  | zero =>
    have : m / 128 = 0 := by omega
    simp [putB, this, hi_zero]
  | succ k =>
    have h3 : 128 ^ k ≤ m / 128 := (Nat.le_div_iff_mul_le (by omega)).2 (by rw [Nat.pow_succ] at h1; omega)
    have h4 : m / 128 < 128 ^ (k + 1) := Nat.div_lt_of_lt_mul (by rw [Nat.pow_succ] at h2; omega)
    simp [putB, pow128 k _ h3 h4]
theorem CoilSizes_law (k : Nat) (hk : k < 256) : run w0 5 [N .u8 k] [] = some (.ret (B true), []) := by
  have h0 : k % 9 < 9 := Nat.mod_lt _ (by omega)
  have ht : Int.tmod (k : Int) 9 = ((k % 9 : Nat) : Int) := rfl
  have hw : IntKind.wrap .i64 ((k % 9 : Nat) : Int) = ((k % 9 : Nat) : Int) := wrap_i64 (by omega) (by omega)
  have hp : (128 : Nat) ^ (k % 9 + 1) < 18446744073709551616 := Nat.lt_of_le_of_lt (Nat.pow_le_pow_right (by omega) (show k % 9 + 1 ≤ 9 by omega)) (by decide)
  have hp0 : 0 < (128 : Nat) ^ (k % 9 + 1) := Nat.pow_pos (by omega)
  have hn : IntKind.wrap .u64 (1 * 2 ^ (min (Int.toNat (IntKind.wrap .i64 (7 * (IntKind.wrap .i64 (((k % 9 : Nat) : Int) + 1))))) 64)) = ((128 ^ (k % 9 + 1) : Nat) : Int) := by
    rw [wrap_i64 (n := ((k % 9 : Nat) : Int) + 1) (by omega) (by omega), wrap_i64 (by omega) (by omega)]
    have : (7 * (((k % 9 : Nat) : Int) + 1)).toNat = 7 * (k % 9 + 1) := by omega
    rw [this, Nat.min_eq_left (by omega), show (1 : Int) * 2 ^ (7 * (k % 9 + 1)) = ((128 ^ (k % 9 + 1) : Nat) : Int) by rw [Int.one_mul, show (128 : Nat) = 2 ^ 7 from rfl, ← Nat.pow_mul, Int.natCast_pow]; rfl]
    exact wrap_u64_in (Int.natCast_nonneg _) (Int.ofNat_lt.2 hp)
  have hs : (128 : Nat) ^ (k % 9 + 1) - 1 < 128 ^ (k % 9 + 1) := by omega
  have hlow : (128 : Nat) ^ (k % 9) ≤ 128 ^ (k % 9 + 1) - 1 := by
    rw [Nat.pow_succ]; have : 0 < (128 : Nat) ^ (k % 9) := Nat.pow_pos (by omega)
    omega
  rw [CoilSizes_run, CoilSizes_eq, ht, hw, if_neg (by rw [wrap_i64 (n := ((k % 9 : Nat) : Int) + 1) (by omega) (by omega), wrap_i64 (by omega) (by omega)]; omega), hn]
  rw [awake_spec, retB_some, CoilSizes_r1_CoilSizes_1, CoilSizes_1_eq, if_pos rfl]
  rw [show ((128 ^ (k % 9 + 1) : Nat) : Int) - 1 = ((128 ^ (k % 9 + 1) - 1 : Nat) : Int) by omega, wrap_u64_in (n := ((128 ^ (k % 9 + 1) - 1 : Nat) : Int)) (by omega) (by omega)]
  rw [Size_spec _ (by omega), retI_some, CoilSizes_r2_CoilSizes_2, CoilSizes_2_eq, ht, hw, putB_pow hlow hs, wrap_i64 (n := ((k % 9 : Nat) : Int) + 1) (by omega) (by omega), if_pos (by simp)]
  rw [Size_spec _ hp, retI_some, CoilSizes_r3_CoilSizes_3, CoilSizes_3_eq, ht, hw, putB_pow (k := k % 9 + 1) (Nat.le_refl _) (Nat.pow_lt_pow_right (by omega) (by omega)), wrap_i64 (n := ((k % 9 : Nat) : Int) + 2) (by omega) (by omega), if_pos (by simp; omega)]
  rw [show (18446744073709551615 : Int) = ((18446744073709551615 : Nat) : Int) from rfl, Size_spec _ (by omega), retI_some, CoilSizes_r4_CoilSizes_4, CoilSizes_4_eq, putB_pow (k := 9) (by omega) (by omega), if_pos (by simp)]
  rw [show (0 : Int) = ((0 : Nat) : Int) from rfl, Size_spec _ (by omega), retI_some, CoilSizes_r5_CoilSizes_5, CoilSizes_5_eq]
  simp [withH, putB, hi_zero]
theorem graft_one (h : H) (m : Nat) (c : List F) : graft h none (some (.ret (.ref 0 0 m 1), [.fz c])) = some (.ret (.ref h.length 0 m 1), h ++ [.fz c]) := by
  simp [graft, ren, reId, renO]
theorem CoilOrders_law (a b : Nat) (ha : a < 18446744073709551616) (hb : b < 18446744073709551616) : ∀ same : Bool, run w0 3 [N .u64 a, N .u64 b, B same] [] = some (.ret (B true), []) := by
  have main : ∀ b : Nat, b < 18446744073709551616 → CoilOrders_1 (putB a).length a b (bF (putB a)) = some (.ret (B true), []) := by
    intro b hb
    obtain ⟨h1, h2⟩ := putB_order ha hb
    have hs := toStr (putB a)
    have ht := toStr (putB b)
    rw [CoilOrders_1_eq, hs, Option.bind_some, CoilOrders_c2, Put_nil b hb, graft_one, retV_some]
    show CoilOrders_r2 (.ref 1 0 (putB b).length 1) a b _ ([.fz (bF (putB a)), .fz (bF (putB b))]) = _
    rw [CoilOrders_r2_CoilOrders_2, CoilOrders_2_eq, ht, Option.bind_some]
    have s1 : ∀ l : List UInt8, (⟨l.toArray⟩ : ByteArray).size = l.length := fun l => ba_size _
    have fin : ∀ x : Bool, x = decide (a < b) → (if (x == decide ((a : Int) < (b : Int))) = true then some (Out.ret (B (((⟨(putB a).toArray⟩ : ByteArray).toList == (⟨(putB b).toArray⟩ : ByteArray).toList) == ((a : Int) == (b : Int)))), ([] : H)) else some (.ret (B false), [])) = some (.ret (B true), []) := by
      intro x hx
      have e1 : decide ((a : Int) < (b : Int)) = decide (a < b) := by rw [decide_eq_decide]; omega
      have e2 : (putB a == putB b) = ((a : Int) == (b : Int)) := by
        rw [Bool.eq_iff_iff]; simp [h2]; omega
      rw [hx, e1, if_pos (by simp), ba_mk, ba_mk, e2]; simp
    rw [s1, s1, ba_mk, ba_mk]
    by_cases hl : (putB a).length < (putB b).length
    · have e1 : decide (((putB a).length : Int) < ((putB b).length : Int)) = true := by simpa using hl
      rw [e1, if_neg (by simp), awake_spec, retB_some, CoilOrders_r5_CoilOrders_5, CoilOrders_5_eq, if_pos rfl]
      exact fin true (by rw [← h1]; simp [hl])
    · have e1 : decide (((putB a).length : Int) < ((putB b).length : Int)) = false := by simpa using hl
      rw [e1, if_pos rfl]
      by_cases he : (putB a).length = (putB b).length
      · have e2 : (((putB a).length : Int) == ((putB b).length : Int)) = true := by rw [beq_iff_eq]; omega
        rw [e2, if_pos rfl, awake_spec, retB_some, CoilOrders_r3_CoilOrders_3, CoilOrders_3_eq, if_pos rfl]
        exact fin _ (by rw [← h1]; simp [he])
      · have e2 : (((putB a).length : Int) == ((putB b).length : Int)) = false := by
          rw [beq_eq_false_iff_ne]; omega
        rw [e2, if_neg (by simp), awake_spec, retB_some, CoilOrders_r4_CoilOrders_4, CoilOrders_4_eq, if_pos rfl]
        exact fin false (by rw [← h1]; simp [hl, he])
  intro same
  rw [CoilOrders_run, CoilOrders_eq, awake_c1, Put_nil a ha, graft_one]
  simp only [retV_some]
  cases same
  · rw [if_neg (by simp)]
    show withH [] (CoilOrders_r1 (.ref 0 0 (putB a).length 1) a b ([.fz (bF (putB a))])) = _
    rw [CoilOrders_r1_CoilOrders_1, main b hb]; rfl
  · rw [if_pos rfl]
    show withH [] (CoilOrders_r1 (.ref 0 0 (putB a).length 1) a a ([.fz (bF (putB a))])) = _
    rw [CoilOrders_r1_CoilOrders_1, main a ha]; rfl

/-! ### the laws, of all arguments of their types -/
theorem CoilOrders_all (l : List (List F)) (h : Args Try.prog Try.f3.params.toList l) : ∃ h', run w0 3 (argVs Try.prog Try.f3.params.toList l) [] = some (.ret (B true), h') := by
  obtain ⟨x1, l1, rfl, h1, h⟩ := h.cons_inv
  obtain ⟨x2, l2, rfl, h2, h⟩ := h.cons_inv
  obtain ⟨x3, l3, rfl, h3, h⟩ := h.cons_inv
  obtain rfl := h.nil_inv
  obtain ⟨n, rfl, hn⟩ := h1.of_int (k := .u64) (by kernel_rfl)
  obtain ⟨u, rfl, hw⟩ := h2.of_int (k := .u64) (by kernel_rfl)
  obtain ⟨b, rfl⟩ := h3.of_bool (by kernel_rfl)
  obtain ⟨n, rfl, hm⟩ := wf_u64 hn
  obtain ⟨u, rfl, hu⟩ := wf_u64 hw
  exact ⟨_, CoilOrders_law n u hm hu b⟩
theorem CoilZigs_all (l : List (List F)) (h : Args Try.prog Try.f4.params.toList l) : ∃ h', run w0 4 (argVs Try.prog Try.f4.params.toList l) [] = some (.ret (B true), h') := by
  obtain ⟨x1, l1, rfl, h1, h⟩ := h.cons_inv
  obtain ⟨x2, l2, rfl, h2, h⟩ := h.cons_inv
  obtain rfl := h.nil_inv
  obtain ⟨n, rfl, hn⟩ := h1.of_int (k := .i64) (by kernel_rfl)
  obtain ⟨u, rfl, hw⟩ := h2.of_int (k := .u64) (by kernel_rfl)
  obtain ⟨a, b⟩ := wf_i64 hn
  obtain ⟨u, rfl, hu⟩ := wf_u64 hw
  exact ⟨_, CoilZigs_law n a b u hu⟩
theorem CoilSizes_all (l : List (List F)) (h : Args Try.prog Try.f5.params.toList l) : ∃ h', run w0 5 (argVs Try.prog Try.f5.params.toList l) [] = some (.ret (B true), h') := by
  obtain ⟨x1, l1, rfl, h1, h⟩ := h.cons_inv
  obtain rfl := h.nil_inv
  obtain ⟨n, rfl, hn⟩ := h1.of_int (k := .u8) (by kernel_rfl)
  obtain ⟨u, rfl, hu⟩ := wf_u8 hn
  exact ⟨_, CoilSizes_law u hu⟩
end Go.Proofs.Ytjhojfedimbpiaa
