import Derived.Test.YtemnahkpffafoaaDoorAbsCall
set_option autoImplicit false
namespace Go.Abs
open Go
abbrev W32 := BitVec 32
def bitStep (r : W32) (b : Bool) : W32 := (r <<< 1) ^^^ (if r.msb = b then 0#32 else 79764919#32)
def byteBits (x : UInt8) : List Bool := [x.toBitVec.getLsbD 7, x.toBitVec.getLsbD 6, x.toBitVec.getLsbD 5, x.toBitVec.getLsbD 4, x.toBitVec.getLsbD 3, x.toBitVec.getLsbD 2, x.toBitVec.getLsbD 1, x.toBitVec.getLsbD 0]
def bitsOf (l : List UInt8) : List Bool := l.flatMap byteBits
def crcFrom (r : W32) (l : List UInt8) : W32 := (bitsOf l).foldl bitStep r
def crc (l : List UInt8) : W32 := crcFrom (4294967295#32) l
theorem crcFrom_cons (r : W32) (x : UInt8) (l : List UInt8) : crcFrom r (x :: l) = crcFrom ((byteBits x).foldl bitStep r) l := by
 unfold crcFrom bitsOf
 rw [List.flatMap_cons, List.foldl_append]
theorem crcFrom_append (r : W32) (l m : List UInt8) : crcFrom r (l ++ m) = crcFrom (crcFrom r l) m := by
 unfold crcFrom bitsOf
 rw [List.flatMap_append, List.foldl_append]
theorem msb_xor (x y : W32) : (x ^^^ y).msb = (x.msb ^^ y.msb) := by simp [BitVec.msb_xor]
theorem bitStep_xor (x y : W32) (b : Bool) (h : y.msb = false) : bitStep (x ^^^ y) b = bitStep x b ^^^ (y <<< 1) := by
 unfold bitStep
 rw [msb_xor, h, Bool.xor_false, BitVec.shiftLeft_xor_distrib]
 simp only [BitVec.xor_assoc]
 rw [BitVec.xor_comm (y <<< 1)]
def topB (b : Bool) : W32 := if b then 2147483648#32 else 0#32
theorem bitStep_top (r : W32) (b : Bool) : bitStep r b = bitStep (r ^^^ topB b) false := by
 cases b
 ·simp [topB]
 ·unfold bitStep topB
  rw [msb_xor, BitVec.shiftLeft_xor_distrib]
  have ht : (2147483648#32).msb = true := by decide
  rw [if_pos rfl, ht]
  have h0 : (2147483648#32) <<< 1 = 0#32 := by decide
  rw [h0, BitVec.xor_zero]
  cases h : r.msb <;> simp
def wordOf : List Bool → W32
 | [] => 0#32
 | b :: l => topB b ^^^ (wordOf l >>> 1)
theorem wordOf_low : ∀ (l : List Bool) (i : Nat), i + l.length < 32 → (wordOf l).getLsbD i = false
 | [], i, _ => by simp [wordOf]
 | b :: l, i, h => by
  simp only [List.length_cons] at h
  unfold wordOf
  rw [BitVec.getLsbD_xor, BitVec.getLsbD_ushiftRight, wordOf_low l (1 + i) (by omega)]
  have : (topB b).getLsbD i = false := by
   unfold topB
   split
   ·have : (2147483648#32).getLsbD i = decide (i = 31) := by
     rw [show (2147483648#32) = BitVec.twoPow 32 31 from rfl, BitVec.getLsbD_twoPow]; simp; omega
    rw [this]; simp; omega
   ·simp
  rw [this]; rfl
theorem shr_shl (x : W32) (h : x.getLsbD 0 = false) : (x >>> 1) <<< 1 = x := by
 apply BitVec.eq_of_getLsbD_eq
 intro i hi
 rw [BitVec.getLsbD_shiftLeft]
 by_cases h0 : i = 0
 ·subst h0; rw [h]; simp
 ·simp [hi, show ¬ (i < 1) by omega, show 1 + (i - 1) = i by omega]
theorem fold_word : ∀ (l : List Bool) (r : W32), l.length ≤ 32 → l.foldl bitStep r = (List.replicate l.length false).foldl bitStep (r ^^^ wordOf l)
 | [], r, _ => by simp [wordOf]
 | b :: l, r, h => by
  simp only [List.length_cons] at h
  rw [List.foldl_cons, fold_word l _ (by omega), List.length_cons, List.replicate_succ, List.foldl_cons]
  congr 1
  rw [show wordOf (b :: l) = topB b ^^^ (wordOf l >>> 1) from rfl, ← BitVec.xor_assoc, bitStep_xor _ _ _ (by simp [BitVec.msb_eq_getLsbD_last]), ← bitStep_top, shr_shl _ (wordOf_low l 0 (by omega))]
theorem zeros_zero : ∀ n : Nat, (List.replicate n false).foldl bitStep 0#32 = 0#32
 | 0 => rfl
 | n + 1 => by
  rw [List.replicate_succ, List.foldl_cons, show bitStep 0#32 false = 0#32 by decide]
  exact zeros_zero n
def sumBytes (r : W32) : List UInt8 := [UInt8.ofNat (r.toNat / 16777216), UInt8.ofNat (r.toNat / 65536), UInt8.ofNat (r.toNat / 256), UInt8.ofNat r.toNat]
theorem bits_len (l : List UInt8) : (bitsOf l).length = 8 * l.length := by
 induction l with
 | nil => rfl
 | cons x l ih => unfold bitsOf at ih ⊢; rw [List.flatMap_cons, List.length_append, ih]; simp [byteBits]; omega
def word4 (l : List UInt8) : W32 := wordOf (bitsOf l)
theorem wordOf_get : ∀ (l : List Bool) (i : Nat), i < 32 → l.length ≤ 32 → (wordOf l).getLsbD i = (l[31 - i]?).getD false
 | [], i, _, _ => by simp [wordOf]
 | b :: l, i, hi, hl => by
  simp only [List.length_cons] at hl
  unfold wordOf
  have ht : (topB b).getLsbD i = (decide (i = 31) && b) := by
   unfold topB
   cases b
   ·simp
   ·rw [if_pos rfl, show (2147483648#32) = BitVec.twoPow 32 31 from rfl, BitVec.getLsbD_twoPow]; simp; omega
  rw [BitVec.getLsbD_xor, BitVec.getLsbD_ushiftRight, ht]
  by_cases h31 : i = 31
  ·subst h31
   simp
  ·rw [wordOf_get l (1 + i) (by omega) (by omega), show 31 - i = (31 - (1 + i)) + 1 by omega, List.getElem?_cons_succ]
   simp [h31]
theorem byte_bit (n i : Nat) (hi : i < 8) : (UInt8.ofNat n).toBitVec.getLsbD i = n.testBit i := by
 have : (UInt8.ofNat n).toBitVec = BitVec.ofNat 8 n := rfl
 rw [this, BitVec.getLsbD_ofNat]; simp [hi]
theorem word_sum (r : W32) : word4 (sumBytes r) = r := by
 unfold word4
 apply BitVec.eq_of_getLsbD_eq
 intro i hi
 rw [wordOf_get _ i hi (by rw [bits_len]; exact Nat.le_refl 32)]
 have e : ∀ j : Nat, r.getLsbD j = r.toNat.testBit j := fun j => rfl
 have d : ∀ (k j : Nat), (r.toNat / 2 ^ k).testBit j = r.toNat.testBit (k + j) := fun k j => by rw [Nat.testBit_div_two_pow, Nat.add_comm]
 unfold bitsOf sumBytes
 simp only [List.flatMap_cons, List.flatMap_nil, byteBits, List.cons_append, List.nil_append, List.append_nil]
 rw [show (16777216 : Nat) = 2 ^ 24 from rfl, show (65536 : Nat) = 2 ^ 16 from rfl, show (256 : Nat) = 2 ^ 8 from rfl]
 rw [e i]
 have hc : i = 0 ∨ i = 1 ∨ i = 2 ∨ i = 3 ∨ i = 4 ∨ i = 5 ∨ i = 6 ∨ i = 7 ∨ i = 8 ∨ i = 9 ∨ i = 10 ∨ i = 11 ∨ i = 12 ∨ i = 13 ∨ i = 14 ∨ i = 15 ∨ i = 16 ∨ i = 17 ∨ i = 18 ∨ i = 19 ∨ i = 20 ∨ i = 21 ∨ i = 22 ∨ i = 23 ∨ i = 24 ∨ i = 25 ∨ i = 26 ∨ i = 27 ∨ i = 28 ∨ i = 29 ∨ i = 30 ∨ i = 31 := by omega
 rcases hc with rfl | rfl | rfl | rfl | rfl | rfl | rfl | rfl | rfl | rfl | rfl | rfl | rfl | rfl | rfl | rfl | rfl | rfl | rfl | rfl | rfl | rfl | rfl | rfl | rfl | rfl | rfl | rfl | rfl | rfl | rfl | rfl
 all_goals
  simp only [List.getElem?_cons_succ, List.getElem?_cons_zero, Option.getD_some, Nat.reduceSub]
  rw [byte_bit _ _ (by decide)]
  try rw [d]
theorem crcFrom_word (r : W32) (t : List UInt8) (ht : t.length = 4) : crcFrom r t = (List.replicate 32 false).foldl bitStep (r ^^^ word4 t) := by
 unfold crcFrom
 rw [fold_word _ _ (by rw [bits_len]; omega), bits_len, ht]
 rfl
theorem crc_seal (l : List UInt8) : crc (l ++ sumBytes (crc l)) = 0#32 := by
 unfold crc
 rw [crcFrom_append, crcFrom_word _ _ rfl, word_sum, BitVec.xor_self]
 exact zeros_zero 32
def tabT : List Nat := [0, 79764919, 159529838, 222504665, 319059676, 398814059, 445009330, 507990021, 638119352, 583659535, 797628118, 726387553, 890018660, 835552979, 1015980042, 944750013]
theorem linesT_eq : linesT = tabT.map fun n : Nat => F.s (.int .u32 (n : Int)) := rfl
def nibStep (r : W32) (n : W32) : W32 := (r <<< 4) ^^^ BitVec.ofNat 32 (tabT.getD ((r >>> 28) ^^^ n).toNat 0)
def nibBits (n : Nat) : List Bool := [n.testBit 3, n.testBit 2, n.testBit 1, n.testBit 0]
theorem nib_hi : ∀ k < 16, ∀ n < 16, nibStep (BitVec.ofNat 32 (k * 268435456)) (BitVec.ofNat 32 n) = (nibBits n).foldl bitStep (BitVec.ofNat 32 (k * 268435456)) := by decide +kernel
theorem nib_lo (x y : W32) (h : y.toNat < 268435456) : ∀ (l : List Bool), l.length = 4 → l.foldl bitStep (x ^^^ y) = l.foldl bitStep x ^^^ (y <<< 4) := by
 have hb : ∀ j, 28 ≤ j → y.getLsbD j = false := fun j hj => by
  have : y.getLsbD j = y.toNat.testBit j := rfl
  rw [this]
  exact Nat.testBit_lt_two_pow (Nat.lt_of_lt_of_le h (show 268435456 ≤ 2 ^ j from by rw [show (268435456 : Nat) = 2 ^ 28 from rfl]; exact Nat.pow_le_pow_right (by decide) hj))
 have m : ∀ k < 4, (y <<< k).msb = false := fun k hk => by
  rw [BitVec.msb_eq_getLsbD_last, BitVec.getLsbD_shiftLeft, hb _ (by omega)]; simp
 intro l hl
 match l, hl with
 | [a, b, c, d], _ =>
  simp only [List.foldl_cons, List.foldl_nil]
  have h0 := m 0 (by omega); have h1 := m 1 (by omega); have h2 := m 2 (by omega); have h3 := m 3 (by omega)
  rw [BitVec.shiftLeft_zero] at h0
  rw [bitStep_xor _ _ _ h0, bitStep_xor _ _ _ h1, ← BitVec.shiftLeft_add, bitStep_xor _ _ _ h2, ← BitVec.shiftLeft_add, bitStep_xor _ _ _ h3, ← BitVec.shiftLeft_add]
theorem nib_split (r : W32) : ∃ k < 16, ∃ y : W32, y.toNat < 268435456 ∧ r = BitVec.ofNat 32 (k * 268435456) ^^^ y ∧ r >>> 28 = BitVec.ofNat 32 k := by
 have hr := r.isLt
 refine ⟨r.toNat / 268435456, by omega, BitVec.ofNat 32 (r.toNat % 268435456), ?_, ?_, ?_⟩
 ·rw [BitVec.toNat_ofNat]; omega
 ·apply BitVec.eq_of_toNat_eq
  rw [BitVec.toNat_xor, BitVec.toNat_ofNat, BitVec.toNat_ofNat, Nat.mod_eq_of_lt (a := r.toNat / 268435456 * 268435456) (by omega), Nat.mod_eq_of_lt (a := r.toNat % 268435456) (by omega)]
  have h1 : r.toNat / 268435456 * 268435456 ^^^ r.toNat % 268435456 = 2 ^ 28 * (r.toNat / 268435456) ||| r.toNat % 268435456 := by
   rw [Nat.mul_comm]
   apply Nat.eq_of_testBit_eq
   intro i
   rw [Nat.testBit_xor, Nat.testBit_or]
   by_cases hi : i < 28
   ·have : (2 ^ 28 * (r.toNat / 268435456)).testBit i = false := by rw [Nat.testBit_two_pow_mul]; simp; omega
    rw [show (268435456 : Nat) = 2 ^ 28 from rfl] at this ⊢
    rw [this]; simp
   ·have : (r.toNat % 268435456).testBit i = false := Nat.testBit_lt_two_pow (Nat.lt_of_lt_of_le (Nat.mod_lt _ (by decide)) (show 268435456 ≤ 2 ^ i from by rw [show (268435456 : Nat) = 2 ^ 28 from rfl]; exact Nat.pow_le_pow_right (by decide) (by omega)))
    rw [this]; simp
  rw [h1, ← Nat.two_pow_add_eq_or_of_lt (by omega)]
  omega
 ·apply BitVec.eq_of_toNat_eq
  rw [BitVec.toNat_ushiftRight, BitVec.toNat_ofNat, Nat.shiftRight_eq_div_pow]
  omega
theorem nibStep_bits (r : W32) (n : Nat) (hn : n < 16) : nibStep r (BitVec.ofNat 32 n) = (nibBits n).foldl bitStep r := by
 obtain ⟨k, hk, y, hy, rfl, hs⟩ := nib_split r
 rw [nib_lo _ _ hy _ rfl, ← nib_hi k hk n hn]
 unfold nibStep
 rw [hs, BitVec.shiftLeft_xor_distrib]
 have h2 : (BitVec.ofNat 32 (k * 268435456)) >>> 28 = BitVec.ofNat 32 k := by
  apply BitVec.eq_of_toNat_eq
  rw [BitVec.toNat_ushiftRight, BitVec.toNat_ofNat, BitVec.toNat_ofNat, Nat.shiftRight_eq_div_pow]
  omega
 rw [h2, BitVec.xor_assoc, BitVec.xor_comm (y <<< 4), ← BitVec.xor_assoc]
theorem byte_nibs (x : UInt8) (r : W32) : (byteBits x).foldl bitStep r = nibStep (nibStep r (BitVec.ofNat 32 (x.toNat / 16))) (BitVec.ofNat 32 (x.toNat % 16)) := by
 have hx := x.toNat_lt
 rw [nibStep_bits _ _ (by omega), nibStep_bits _ _ (by omega), ← List.foldl_append]
 congr 1
 have e : ∀ j : Nat, x.toBitVec.getLsbD j = x.toNat.testBit j := fun j => rfl
 unfold byteBits nibBits
 simp only [e, List.cons_append, List.nil_append]
 have d : ∀ j, (x.toNat / 16).testBit j = x.toNat.testBit (4 + j) := fun j => by rw [show (16 : Nat) = 2 ^ 4 from rfl, Nat.testBit_div_two_pow, Nat.add_comm]
 have m : ∀ j < 4, (x.toNat % 16).testBit j = x.toNat.testBit j := fun j hj => by rw [show (16 : Nat) = 2 ^ 4 from rfl, Nat.testBit_mod_two_pow]; simp [hj]
 rw [d, d, d, d, m 3 (by omega), m 2 (by omega), m 1 (by omega), m 0 (by omega)]
end Go.Abs
