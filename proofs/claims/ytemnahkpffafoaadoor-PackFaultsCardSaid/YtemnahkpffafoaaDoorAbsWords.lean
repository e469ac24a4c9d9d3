import Derived.Test.YtemnahkpffafoaaDoorAbsRow3
set_option autoImplicit false
namespace Go.Abs
open Go
theorem wrap_u64 (n : Int) : IntKind.wrap .u64 n = n % 18446744073709551616 := by simp [IntKind.wrap, IntKind.signed, IntKind.bits]
theorem wrap_u32 (n : Int) : IntKind.wrap .u32 n = n % 4294967296 := by simp [IntKind.wrap, IntKind.signed, IntKind.bits]
theorem wrap_u8 (n : Int) : IntKind.wrap .u8 n = n % 256 := by simp [IntKind.wrap, IntKind.signed, IntKind.bits]
theorem wrap_i64 {n : Int} (h1 : -9223372036854775808 ≤ n) (h2 : n < 9223372036854775808) : IntKind.wrap .i64 n = n := by
 simp [IntKind.wrap, IntKind.signed, IntKind.bits]; split <;> omega
theorem wrap_u64_in {n : Int} (h1 : 0 ≤ n) (h2 : n < 18446744073709551616) : IntKind.wrap .u64 n = n := by rw [wrap_u64]; omega
theorem wrap_u8_in {n : Int} (h1 : 0 ≤ n) (h2 : n < 256) : IntKind.wrap .u8 n = n := by rw [wrap_u8]; omega
theorem wf_u8 {n : Int} (h : (Lit.int .u8 n).wf = true) : ∃ m : Nat, n = m ∧ m < 256 := by
 simp [Lit.wf, IntKind.min, IntKind.max, IntKind.signed, IntKind.bits] at h; exact ⟨n.toNat, by omega, by omega⟩
theorem ofInt_toNat (w : Nat) (n : Nat) : (BitVec.ofInt w (n : Int)).toNat = n % 2 ^ w := by
 rw [BitVec.ofInt_natCast, BitVec.toNat_ofNat]
theorem and_toNat (w a b : Nat) : (BitVec.ofInt w (a : Int) &&& BitVec.ofInt w (b : Int)).toNat = (a &&& b) % 2 ^ w := by
 rw [BitVec.toNat_and, ofInt_toNat, ofInt_toNat, Nat.and_mod_two_pow]
theorem or_toNat (w a b : Nat) : (BitVec.ofInt w (a : Int) ||| BitVec.ofInt w (b : Int)).toNat = (a ||| b) % 2 ^ w := by
 rw [BitVec.toNat_or, ofInt_toNat, ofInt_toNat, Nat.or_mod_two_pow]
theorem and_low {a : Nat} (k : Nat) : a &&& (2 ^ k - 1) = a % 2 ^ k := Nat.and_two_pow_sub_one_eq_mod a k
theorem and127 {w a : Nat} (hw : 7 ≤ w) : (BitVec.ofInt w (a : Int) &&& BitVec.ofInt w 127).toNat = a % 128 := by
 have : ((127 : Nat) : Int) = 127 := rfl
 rw [← this, and_toNat, show (127 : Nat) = 2 ^ 7 - 1 from rfl, and_low]
 have : 2 ^ 7 ≤ 2 ^ w := Nat.pow_le_pow_right (by omega) hw
 exact Nat.mod_eq_of_lt (by have := Nat.mod_lt a (show 0 < 2 ^ 7 by decide); omega)
theorem or_high {a k : Nat} (h : a < 2 ^ k) (b : Nat) : 2 ^ k * b ||| a = 2 ^ k * b + a := (Nat.two_pow_add_eq_or_of_lt h b).symm
theorem or128 {a : Nat} (h : a < 128) : a ||| 128 = a + 128 := by
 have := or_high (a := a) (k := 7) h 1
 rw [Nat.or_comm]; simpa [Nat.add_comm] using this
theorem fdiv_nat (a b : Nat) : Int.fdiv (a : Int) ((b : Nat) : Int) = ((a / b : Nat) : Int) := by
 rw [Int.fdiv_eq_ediv_of_nonneg _ (by omega)]; rfl
theorem fdiv7 (a : Nat) : Int.fdiv (a : Int) (2 ^ 7) = ((a / 128 : Nat) : Int) := fdiv_nat a 128
def bF (l : List UInt8) : List F := l.map fun x => .s (.int .u8 x.toNat)
theorem byteF_eq (b : ByteArray) : byteF b = bF b.data.toList := rfl
@[simp] theorem bF_length (l : List UInt8) : (bF l).length = l.length := by simp [bF]
@[simp] theorem bF_append (l m : List UInt8) : bF (l ++ m) = bF l ++ bF m := by simp [bF]
@[simp] theorem bF_nil : bF [] = [] := rfl
theorem bF_cons (x : UInt8) (l : List UInt8) : bF (x :: l) = .s (.int .u8 x.toNat) :: bF l := rfl
theorem bF_drop (l : List UInt8) (n : Nat) : (bF l).drop n = bF (l.drop n) := by simp [bF]
theorem bF_take (l : List UInt8) (n : Nat) : (bF l).take n = bF (l.take n) := by simp [bF]
@[simp] theorem strOfF_bF (l : List UInt8) : strOfF (bF l) = some l := by
 induction l with
 | nil => rfl
 | cons x l ih => simp [bF_cons, strOfF, ih]
theorem ba_toList (b : ByteArray) : b.toList = b.data.toList := ByteArray.toList_eq b
theorem withH_scal (b : Bool) (h : H) (x : Value) (g : H) (hx : scalF (.s x) = true) : withH b h (some (.ret (.f (.s x)), g)) = some (.ret (.f (.s x)), h) := by
 unfold withH scal; simp only [hx, Bool.or_true, if_true]
theorem withH_true (h : H) (v : V) (g : H) : withH true h (some (.ret v, g)) = some (.ret v, h) := by simp [withH]
theorem graft_ref (h : H) (m es : Nat) (c : List F) : graft h none (some (.ret (.ref 0 0 m es), [.fz c])) = some (.ret (.ref h.length 0 m es), h ++ [.fz c]) := by
 simp [graft, ren, reId, renO]
theorem elem_in {n es : Nat} {cs : List F} {i : Int} {K : List F → R} (h0 : 0 ≤ i) (h1 : i < (n : Int)) : elem (.lst n cs) i es K = K (cs.drop (i.toNat * es)) := if_pos ⟨h0, h1⟩
def kF (k : IntKind) (l : List Int) : List F := l.map fun n => .s (.int k n)
def sF (l : List ByteArray) : List F := l.map fun s => .s (.string s)
@[simp] theorem kF_length (k : IntKind) (l : List Int) : (kF k l).length = l.length := by simp [kF]
@[simp] theorem sF_length (l : List ByteArray) : (sF l).length = l.length := by simp [sF]
theorem ba_mk (l : List UInt8) : (⟨l.toArray⟩ : ByteArray).toList = l := ba_toList _
end Go.Abs
