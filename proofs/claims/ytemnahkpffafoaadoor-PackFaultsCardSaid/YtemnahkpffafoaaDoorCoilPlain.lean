import Derived.Test.YtemnahkpffafoaaDoorEqPack
import Derived.Test.YtemnahkpffafoaaDoorCoilMath
set_option autoImplicit false
namespace Go.Proofs.YtemnahkpffafoaaDoor
open Go Go.Abs
theorem grp {n : Nat} : IntKind.wrap .u8 (BitVec.ofInt 8 (IntKind.wrap .u8 (IntKind.wrap .u64 (BitVec.ofInt 64 (n : Int) &&& BitVec.ofInt 64 127).toNat)) ||| BitVec.ofInt 8 128).toNat = ((UInt8.ofNat (n % 128 + 128)).toNat : Int) := by
 rw [and127 (by omega), wrap_u64_in (n := ((n % 128 : Nat) : Int)) (by omega) (by omega), wrap_u8_in (n := ((n % 128 : Nat) : Int)) (by omega) (by omega), show (128 : Int) = ((128 : Nat) : Int) from rfl, or_toNat, or128 (by omega), wrap_u8]
 simp
theorem low {n : Nat} : IntKind.wrap .u8 (IntKind.wrap .u64 (BitVec.ofInt 64 (n : Int) &&& BitVec.ofInt 64 127).toNat) = ((UInt8.ofNat (n % 128)).toNat : Int) := by
 rw [and127 (by omega), wrap_u64_in (by omega) (by omega), wrap_u8_in (by omega) (by omega)]
 simp
 omega
theorem Put_end (c : List F) (j : List F) (t : List UInt8) (hj : j.length + t.length = 10) (hc : c.length + 10 ≤ 140737488355328) :
  Put_1 c.length 0 j.length c (j ++ bF t) = some (.ret (.ref 0 0 (c.length + t.length) 1), [.fz (c ++ bF t)]) := by
 have hl : (j ++ bF t).length = 10 := by simpa using hj
 rw [Put_1_eq, if_neg (by simp), if_pos (by omega)]
 simp only [Option.bind_some]
 rw [if_pos (by omega)]
 simp only [Option.bind_some, Int.toNat_natCast, Nat.mul_one, Nat.zero_add]
 have h1 : ((j ++ bF t).drop j.length).take (10 - j.length) = bF t := by
  rw [List.drop_left, List.take_of_length_le (by simp; omega)]
 rw [if_pos (by simp; omega), h1, if_pos (by simp; omega), if_pos (by simp; omega), if_pos (by omega)]
 rw [List.drop_zero, List.take_of_length_le (Nat.le_refl _), if_pos (by simp; omega), List.drop_zero, List.take_of_length_le (by simp; omega)]
 rw [show c.length + (10 - j.length) = c.length + t.length by omega]
theorem Put_loop : ∀ (k n : Nat) (c j : List F) (t : List UInt8), n < 128 ^ k → k ≤ j.length → j.length + t.length = 10 → c.length + 10 ≤ 140737488355328 →
  Put_1 c.length n j.length c (j ++ bF t) = some (.ret (.ref 0 0 (c.length + (hi n ++ t).length) 1), [.fz (c ++ bF (hi n ++ t))])
 | 0, n, c, j, t, h, hk, hj, hc => by
  have : n = 0 := by simpa using h
  subst this
  rw [hi_zero]; exact Put_end c j t hj hc
 | k + 1, n, c, j, t, h, hk, hj, hc => by
  by_cases hn : n = 0
  ·subst hn; rw [hi_zero]; exact Put_end c j t hj hc
  ·rw [Put_1_eq, if_pos (by simp; omega), wrap_i64 (n := (j.length : Int) - 1) (by omega) (by omega), if_pos (by omega)]
   have ht : ((j.length : Int) - 1).toNat = j.length - 1 := by omega
   rw [ht, if_pos (by simp; omega), if_pos (by omega), fdiv7, grp]
   simp only [Nat.mul_one, Nat.zero_add]
   rw [List.drop_zero, List.take_of_length_le (Nat.le_refl _)]
   obtain ⟨j', x, rfl⟩ : ∃ j' x, j = j' ++ [x] := ⟨j.dropLast, j.getLast (by intro h; subst h; simp at hk), (List.dropLast_concat_getLast _).symm⟩
   simp only [List.length_append, List.length_singleton] at hk hj ⊢
   have hs : (j' ++ [x] ++ bF t).set (j'.length + 1 - 1) (.s (.int .u8 ((UInt8.ofNat (n % 128 + 128)).toNat : Int))) = j' ++ bF (UInt8.ofNat (n % 128 + 128) :: t) := by
    simp [bF_cons]
   rw [hs, show ((j'.length + 1 : Nat) : Int) - 1 = (j'.length : Int) by omega, Put_loop k (n / 128) c j' _ (by rw [Nat.pow_succ] at h; exact Nat.div_lt_of_lt_mul (by omega)) (by omega) (by simp; omega) hc]
   rw [hi_pos (n := n) (by omega)]
   simp
   omega
theorem Put_core (c : List F) (n : Nat) (h : n < 18446744073709551616) (hc : c.length + 10 ≤ 140737488355328) : Put_0 c c.length n = some (.ret (.ref 0 0 (c.length + (putB n).length) 1), [.fz (c ++ bF (putB n))]) := by
 rw [Put_eq, if_pos (by omega), fdiv7, low]
 simp only [Nat.mul_one]
 rw [List.drop_zero, List.take_of_length_le (Nat.le_refl _)]
 exact Put_loop 9 (n / 128) c [.s (.int .u8 0), .s (.int .u8 0), .s (.int .u8 0), .s (.int .u8 0), .s (.int .u8 0), .s (.int .u8 0), .s (.int .u8 0), .s (.int .u8 0), .s (.int .u8 0)] [UInt8.ofNat (n % 128)] (by omega) (by simp) (by simp) hc
theorem Fault_p (x : F) (a e : Int) (h : run w0 52 [.ptr 0 0] [.cells [.f x, I a, I e]] = withH false [.cells [.f x, I a, I e]] (Fault_0 (frzF x) a e)) : run w0 52 [.ptr 0 0] [.cells [.f x, I a, I e]] = some (.ret (I e), [.cells [.f x, I a, I e]]) := by
 rw [h, Fault_eq]; exact withH_scal _ _ _ _ rfl
theorem orN (n b : Nat) (hn : n < 144115188075855872) : IntKind.wrap .u64 (BitVec.ofInt 64 (IntKind.wrap .u64 ((n : Int) * 2 ^ 7)) ||| BitVec.ofInt 64 (IntKind.wrap .u64 (IntKind.wrap .u8 (BitVec.ofInt 8 (b : Int) &&& BitVec.ofInt 8 127).toNat))).toNat = ((n * 128 + b % 128 : Nat) : Int) := by
 rw [and127 (by omega), wrap_u8_in (n := ((b % 128 : Nat) : Int)) (by omega) (by omega), wrap_u64_in (n := ((b % 128 : Nat) : Int)) (by omega) (by omega)]
 rw [show (n : Int) * 2 ^ 7 = ((2 ^ 7 * n : Nat) : Int) by omega, wrap_u64_in (n := ((2 ^ 7 * n : Nat) : Int)) (by omega) (by omega), or_toNat, or_high (k := 7) (by omega), wrap_u64]
 omega
theorem Fail_in (x : F) (a : Int) (e : Int) (K : V → H → R) (h : run w0 64 [.ptr 0 0, I e] [.cells [.f x, I a, I 0]] = graft [.dead] (some 0) (Fail_0 x a 0 e)) :
  run w0 64 [.ptr 0 0, I e] [.cells [.f x, I a, I 0]] = some (.ret (.tup []), [.cells [.f x, I a, I e]]) := by
 rw [h, Fail_eq, if_pos (by simp)]
 simp [graft, ren, rens, reId, renO]
theorem Num_loop (l : List UInt8) (at_ most : Nat) (hl : l.length < 9223372036854775808) : ∀ (rest : List UInt8) (k n : Nat), l.drop (at_ + k) = rest → at_ + k ≤ l.length → n < 18446744073709551616 →
  Num_1 most n k (.lst l.length (bF l)) at_ 0 = match rdN most rest k n with
   | (v, c, e) => if e = 0 then some (.ret (N .u64 v), [.cells [.f (.lst l.length (bF l)), I ((at_ + c : Nat) : Int), I 0]]) else some (.ret (N .u64 0), [.cells [.f (.lst l.length (bF l)), I at_, I e]])
 | [], k, n, hd, hk, hn => by
  have hlen : l.length ≤ at_ + k := by
   rcases Nat.lt_or_ge (at_ + k) l.length with h | h
   ·have := congrArg List.length hd; simp at this; omega
   ·exact h
  rw [Num_1_eq, Fault_p _ _ _ (Fault_p0_c3 ..), pI_some, if_pos (by simp)]
  simp only [F.sl?, Option.bind_some]
  rw [wrap_i64 (n := (at_ : Int) + (k : Int)) (by omega) (by omega), if_pos (by simp; omega), Fail_in _ _ _ (fun _ _ => none) (Fail_p0v_c3 ..)]
  simp [asCells, V.f?, V.int?, F.int?, rdN]
 | b :: rest, k, n, hd, hk, hn => by
  have hlen : at_ + k < l.length := by
   rcases Nat.lt_or_ge (at_ + k) l.length with h | h
   ·exact h
   ·have := congrArg List.length hd; simp at this; omega
  have hb : l[at_ + k]? = some b := by
   have : (l.drop (at_ + k))[0]? = some b := by rw [hd]; rfl
   simpa using this
  have hbl : b.toNat < 256 := b.toNat_lt
  have hd' : l.drop (at_ + (k + 1)) = rest := by
   rw [← Nat.add_assoc, ← List.drop_drop, hd]; rfl
  rw [Num_1_eq, Fault_p _ _ _ (Fault_p0_c3 ..), pI_some, if_pos (by simp)]
  simp only [F.sl?, Option.bind_some]
  rw [wrap_i64 (n := (at_ : Int) + (k : Int)) (by omega) (by omega), if_neg (by simp; omega)]
  rw [elem_in (by omega) (by omega), show ((at_ : Int) + (k : Int)).toNat * 1 = at_ + k by omega, bF_drop, hd]
  unfold atI
  simp only [bF_cons, List.getElem?_cons_zero, Option.bind_some, F.int?, if_true]
  by_cases hk0 : k = 0
  ·subst hk0
   rw [if_pos (by simp)]
   by_cases h128 : b.toNat = 128
   ·have e1 : (((b.toNat : Nat) : Int) == 128) = true := by rw [beq_iff_eq]; omega
    have hr : rdN most (b :: rest) 0 n = (0, 0, 4) := by rw [rdN, if_pos (Or.inl ⟨rfl, h128⟩)]
    rw [hr, e1, if_neg (by simp), Fail_in _ _ _ (fun _ _ => none) (Fail_p0v_c3 ..)]
    simp [asCells, V.f?, V.int?, F.int?]
   ·have e1 : (((b.toNat : Nat) : Int) == 128) = false := by rw [beq_eq_false_iff_ne]; omega
    rw [e1, if_pos rfl]
    by_cases hbig : 144115188075855872 ≤ n
    ·have hr : rdN most (b :: rest) 0 n = (0, 0, 4) := by rw [rdN, if_pos (Or.inr hbig)]
     rw [hr, if_pos (by simp; omega), Fail_in _ _ _ (fun _ _ => none) (Fail_p0v_c3 ..)]
     simp [asCells, V.f?, V.int?, F.int?]
    ·rw [if_neg (by simp; omega), orN n b.toNat (by omega)]
     by_cases hc : 128 ≤ b.toNat
     ·have hr : rdN most (b :: rest) 0 n = rdN most rest (0 + 1) (n * 128 + b.toNat % 128) := by rw [rdN, if_neg (by omega), if_pos hc]
      rw [hr, if_pos (by simp; omega), wrap_i64 (n := ((0 : Nat) : Int) + 1) (by omega) (by omega)]
      exact Num_loop l at_ most hl rest (0 + 1) _ hd' (by omega) (by omega)
     ·rw [if_neg (by simp; omega)]
      by_cases hm : most < n * 128 + b.toNat % 128
      ·have hr : rdN most (b :: rest) 0 n = (0, 0, 5) := by rw [rdN, if_neg (by omega), if_neg hc, if_pos hm]
       rw [hr, if_pos (by simp; omega), Fail_in _ _ _ (fun _ _ => none) (Fail_p0v_c3 ..)]
       simp [asCells, V.f?, V.int?, F.int?]
      ·have hr : rdN most (b :: rest) 0 n = (n * 128 + b.toNat % 128, 0 + 1, 0) := by rw [rdN, if_neg (by omega), if_neg hc, if_neg hm]
       rw [hr, if_neg (by simp; omega), wrap_i64 (n := ((0 : Nat) : Int) + 1) (by omega) (by omega), wrap_i64 (by omega) (by omega)]
       rfl
  ·have e0 : (((k : Nat) : Int) == 0) = false := by rw [beq_eq_false_iff_ne]; omega
   rw [e0, if_neg (by simp)]
   by_cases hbig : 144115188075855872 ≤ n
   ·have hr : rdN most (b :: rest) k n = (0, 0, 4) := by rw [rdN, if_pos (Or.inr hbig)]
    rw [hr, if_pos (by simp; omega), Fail_in _ _ _ (fun _ _ => none) (Fail_p0v_c3 ..)]
    simp [asCells, V.f?, V.int?, F.int?]
   ·rw [if_neg (by simp; omega), orN n b.toNat (by omega)]
    by_cases hc : 128 ≤ b.toNat
    ·have hr : rdN most (b :: rest) k n = rdN most rest (k + 1) (n * 128 + b.toNat % 128) := by rw [rdN, if_neg (by omega), if_pos hc]
     rw [hr, if_pos (by simp; omega), wrap_i64 (n := ((k : Nat) : Int) + 1) (by omega) (by omega)]
     exact Num_loop l at_ most hl rest (k + 1) _ hd' (by omega) (by omega)
    ·rw [if_neg (by simp; omega)]
     by_cases hm : most < n * 128 + b.toNat % 128
     ·have hr : rdN most (b :: rest) k n = (0, 0, 5) := by rw [rdN, if_neg (by omega), if_neg hc, if_pos hm]
      rw [hr, if_pos (by simp; omega), Fail_in _ _ _ (fun _ _ => none) (Fail_p0v_c3 ..)]
      simp [asCells, V.f?, V.int?, F.int?]
     ·have hr : rdN most (b :: rest) k n = (n * 128 + b.toNat % 128, k + 1, 0) := by rw [rdN, if_neg (by omega), if_neg hc, if_neg hm]
      rw [hr, if_neg (by simp; omega), wrap_i64 (n := ((k : Nat) : Int) + 1) (by omega) (by omega), wrap_i64 (by omega) (by omega)]
      rfl
def rdr (l : List UInt8) (a : Nat) (e : Int) : Ob := .cells [.f (.lst l.length (bF l)), I a, I e]
theorem Num_was {l : List UInt8} {a : Nat} {most e : Int} (he : e ≠ 0) : run w0 65 [.ptr 0 0, N .u64 most] [rdr l a e] = some (.ret (N .u64 0), [rdr l a e]) := by
 unfold rdr
 rw [Num_p0v_c3, Num_eq, Num_1_eq, Fault_p _ _ _ (Fault_p0_c3 ..), pI_some, if_neg (by simpa using he)]
 simp [graft, ren, rens, reId, renO]
theorem rhigh_spec : ∀ (k n : Nat), n < 128 ^ (k + 1) → n < 18446744073709551616 → 0 < n → k ≤ 9 → rhigh_0 n = some (.ret (.ref 0 0 (hi n).length 1), [.fz (bF (hi n))])
 | k, n, h, hn, h0, hk => by
  rw [rhigh_eq]
  by_cases h1 : n < 128
  ·rw [if_pos (by simp; omega), hi_pos h0, show n / 128 = 0 by omega, hi_zero, wrap_u8_in (n := (n : Int)) (by omega) (by omega), wrap_u8_in (by omega) (by omega)]
   simp only [List.nil_append, List.length_singleton, bF_cons, bF_nil]
   have : ((n : Int) + 128) = ((UInt8.ofNat (n % 128 + 128)).toNat : Int) := by simp; omega
   rw [this]
  ·cases k with
   | zero => omega
   | succ k =>
    have ht : Int.tdiv (n : Int) 128 = ((n / 128 : Nat) : Int) := rfl
    have hm : Int.tmod (n : Int) 128 = ((n % 128 : Nat) : Int) := rfl
    have hlen := hi_len 10 (n / 128) (by omega)
    rw [if_neg (by simp; omega), ht, hm, wrap_u64_in (by omega) (by omega), rhigh_v_, rhigh_spec k (n / 128) (by rw [Nat.pow_succ] at h; exact Nat.div_lt_of_lt_mul (by omega)) (by omega) (by omega) (by omega), graft_ref, pO_some]
    simp only [List.length_nil, asRef, asFz, List.nil_append, List.getElem?_cons_zero, and_self, true_and, if_true, Option.bind_some, List.length_singleton, Nat.mul_one, Nat.zero_add, List.drop_zero]
    rw [if_pos (by omega), if_pos (by simp), List.take_of_length_le (by simp), if_pos (by simp), List.take_of_length_le (by simp), hi_pos (n := n) (by omega), wrap_u8_in (n := ((n % 128 : Nat) : Int)) (by omega) (by omega), wrap_u8_in (by omega) (by omega)]
    simp only [List.length_append, List.length_singleton, bF_append, bF_cons, bF_nil]
    have : (((n % 128 : Nat) : Int) + 128) = ((UInt8.ofNat (n % 128 + 128)).toNat : Int) := by simp; omega
    rw [this]
theorem rPut_spec (n : Nat) (hn : n < 18446744073709551616) : rPut_0 n = some (.ret (.ref 0 0 (putB n).length 1), [.fz (bF (putB n))]) := by
 rw [rPut_eq]
 by_cases h1 : n < 128
 ·rw [if_pos (by simp; omega)]
  unfold putB
  rw [show n / 128 = 0 by omega, hi_zero, wrap_u8_in (n := (n : Int)) (by omega) (by omega)]
  simp only [List.nil_append, List.length_singleton, bF_cons, bF_nil]
  have : (n : Int) = ((UInt8.ofNat (n % 128)).toNat : Int) := by simp; omega
  rw [← this]
 ·have ht : Int.tdiv (n : Int) 128 = ((n / 128 : Nat) : Int) := rfl
  have hm : Int.tmod (n : Int) 128 = ((n % 128 : Nat) : Int) := rfl
  have hlen := hi_len 10 (n / 128) (by omega)
  rw [if_neg (by simp; omega), ht, hm, wrap_u64_in (by omega) (by omega), rhigh_v_, rhigh_spec 9 (n / 128) (by omega) (by omega) (by omega) (by omega), graft_ref, pO_some]
  simp only [List.length_nil, asRef, asFz, List.nil_append, List.getElem?_cons_zero, and_self, true_and, if_true, Option.bind_some, List.length_singleton, Nat.mul_one, Nat.zero_add, List.drop_zero]
  rw [if_pos (by omega), if_pos (by simp), List.take_of_length_le (by simp), if_pos (by simp), List.take_of_length_le (by simp), wrap_u8_in (n := ((n % 128 : Nat) : Int)) (by omega) (by omega)]
  unfold putB
  simp only [List.length_append, List.length_singleton, bF_append, bF_cons, bF_nil]
  have : ((n % 128 : Nat) : Int) = ((UInt8.ofNat (n % 128)).toNat : Int) := by simp; omega
  rw [← this]
theorem End_ok {l : List UInt8} {a : Nat} (hl : l.length < 9223372036854775808) (ha : a ≤ l.length) : End_0 (.lst l.length (bF l)) a 0 = some (.ret (I (if a < l.length then 4 else 0)), []) := by
 have hf : run w0 52 [.f (.fp [.lst l.length (bF l), F.s (.int .i64 a), F.s (.int .i64 0)])] [] = some (.ret (I 0), []) := by
  rw [Fault_run, Fault_eq]; exact withH_true _ _ _
 have hg : run w0 53 [.f (.fp [.lst l.length (bF l), F.s (.int .i64 a), F.s (.int .i64 0)])] [] = some (.ret (I ((l.length : Int) - a)), []) := by
  rw [Left_run, Left_eq]
  simp only [F.sl?, Option.bind_some]
  rw [wrap_i64 (by omega) (by omega)]
  exact withH_true _ _ _
 rw [End_eq, hf]
 simp only [pI_some]
 rw [if_pos (by simp), hg, pI_some]
 by_cases h : a < l.length
 ·rw [if_pos (by simp; omega), if_pos h]
 ·rw [if_neg (by simp; omega), if_neg h]
theorem End_was {x : F} {a e : Int} (he : e ≠ 0) : End_0 x a e = some (.ret (I e), []) := by
 have hf : run w0 52 [.f (.fp [x, F.s (.int .i64 a), F.s (.int .i64 e)])] [] = some (.ret (I e), []) := by
  rw [Fault_run, Fault_eq]; exact withH_true _ _ _
 rw [End_eq, hf]
 simp only [pI_some]
 rw [if_neg (by simpa using he)]
end Go.Proofs.YtemnahkpffafoaaDoor
