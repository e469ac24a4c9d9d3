/-
  Words: whole numbers of Go's kinds, bits, bytes among frozen cells.
-/
import Derived.Test.YtpchhblgilfejaaAbsRow3
set_option autoImplicit false
set_option linter.unusedVariables false
namespace Go.Abs
open Go

theorem wrap_u64 (n : Int) : IntKind.wrap .u64 n = n % 18446744073709551616 := by simp [IntKind.wrap, IntKind.signed, IntKind.bits]
theorem wrap_u32 (n : Int) : IntKind.wrap .u32 n = n % 4294967296 := by simp [IntKind.wrap, IntKind.signed, IntKind.bits]
theorem wrap_u8 (n : Int) : IntKind.wrap .u8 n = n % 256 := by simp [IntKind.wrap, IntKind.signed, IntKind.bits]
theorem wrap_i64 {n : Int} (h1 : -9223372036854775808 ≤ n) (h2 : n < 9223372036854775808) : IntKind.wrap .i64 n = n := by
  simp [IntKind.wrap, IntKind.signed, IntKind.bits]; split <;> omega
theorem wrap_i64' (n : Int) : IntKind.wrap .i64 n = if n % 18446744073709551616 ≥ 9223372036854775808 then n % 18446744073709551616 - 18446744073709551616 else n % 18446744073709551616 := by
  simp [IntKind.wrap, IntKind.signed, IntKind.bits]
theorem wrap_u64_in {n : Int} (h1 : 0 ≤ n) (h2 : n < 18446744073709551616) : IntKind.wrap .u64 n = n := by rw [wrap_u64]; omega
theorem wrap_u8_in {n : Int} (h1 : 0 ≤ n) (h2 : n < 256) : IntKind.wrap .u8 n = n := by rw [wrap_u8]; omega
theorem wf_i64 {n : Int} (h : (Lit.int .i64 n).wf = true) : -9223372036854775808 ≤ n ∧ n < 9223372036854775808 := by
  simp [Lit.wf, IntKind.min, IntKind.max, IntKind.signed, IntKind.bits] at h; omega
theorem wf_u64 {n : Int} (h : (Lit.int .u64 n).wf = true) : ∃ m : Nat, n = m ∧ m < 18446744073709551616 := by
  simp [Lit.wf, IntKind.min, IntKind.max, IntKind.signed, IntKind.bits] at h; exact ⟨n.toNat, by omega, by omega⟩
theorem wf_u8 {n : Int} (h : (Lit.int .u8 n).wf = true) : ∃ m : Nat, n = m ∧ m < 256 := by
  simp [Lit.wf, IntKind.min, IntKind.max, IntKind.signed, IntKind.bits] at h; exact ⟨n.toNat, by omega, by omega⟩
theorem wf_i8 {n : Int} (h : (Lit.int .i8 n).wf = true) : -128 ≤ n ∧ n < 128 := by
  simp [Lit.wf, IntKind.min, IntKind.max, IntKind.signed, IntKind.bits] at h; omega
theorem wf_u16 {n : Int} (h : (Lit.int .u16 n).wf = true) : ∃ m : Nat, n = m ∧ m < 65536 := by
  simp [Lit.wf, IntKind.min, IntKind.max, IntKind.signed, IntKind.bits] at h; exact ⟨n.toNat, by omega, by omega⟩
theorem wf_u32 {n : Int} (h : (Lit.int .u32 n).wf = true) : ∃ m : Nat, n = m ∧ m < 4294967296 := by
  simp [Lit.wf, IntKind.min, IntKind.max, IntKind.signed, IntKind.bits] at h; exact ⟨n.toNat, by omega, by omega⟩

/-! ### bits -/
theorem ofInt_toNat (w : Nat) (n : Nat) : (BitVec.ofInt w (n : Int)).toNat = n % 2 ^ w := by
  rw [BitVec.ofInt_natCast, BitVec.toNat_ofNat]
theorem and_toNat (w a b : Nat) : (BitVec.ofInt w (a : Int) &&& BitVec.ofInt w (b : Int)).toNat = (a &&& b) % 2 ^ w := by
  rw [BitVec.toNat_and, ofInt_toNat, ofInt_toNat, Nat.and_mod_two_pow]
theorem or_toNat (w a b : Nat) : (BitVec.ofInt w (a : Int) ||| BitVec.ofInt w (b : Int)).toNat = (a ||| b) % 2 ^ w := by
  rw [BitVec.toNat_or, ofInt_toNat, ofInt_toNat, Nat.or_mod_two_pow]
theorem xor_toNat (w a b : Nat) : (BitVec.ofInt w (a : Int) ^^^ BitVec.ofInt w (b : Int)).toNat = (a ^^^ b) % 2 ^ w := by
  rw [BitVec.toNat_xor, ofInt_toNat, ofInt_toNat, Nat.xor_mod_two_pow]
theorem and_low {a : Nat} (k : Nat) : a &&& (2 ^ k - 1) = a % 2 ^ k := Nat.and_two_pow_sub_one_eq_mod a k
theorem and127 {w a : Nat} (hw : 7 ≤ w) : (BitVec.ofInt w (a : Int) &&& BitVec.ofInt w 127).toNat = a % 128 := by
  have : ((127 : Nat) : Int) = 127 := rfl
  rw [← this, and_toNat, show (127 : Nat) = 2 ^ 7 - 1 from rfl, and_low]
  have : 2 ^ 7 ≤ 2 ^ w := Nat.pow_le_pow_right (by omega) hw
  exact Nat.mod_eq_of_lt (by have := Nat.mod_lt a (show 0 < 2 ^ 7 by decide); omega)
theorem and1 {w a : Nat} (hw : 1 ≤ w) : (BitVec.ofInt w (a : Int) &&& BitVec.ofInt w 1).toNat = a % 2 := by
  have : ((1 : Nat) : Int) = 1 := rfl
  rw [← this, and_toNat, show (1 : Nat) = 2 ^ 1 - 1 from rfl, and_low]
  have : 2 ^ 1 ≤ 2 ^ w := Nat.pow_le_pow_right (by omega) hw
  exact Nat.mod_eq_of_lt (by have := Nat.mod_lt a (show 0 < 2 ^ 1 by decide); omega)
theorem or_high {a k : Nat} (h : a < 2 ^ k) (b : Nat) : 2 ^ k * b ||| a = 2 ^ k * b + a := (Nat.two_pow_add_eq_or_of_lt h b).symm
theorem or128 {a : Nat} (h : a < 128) : a ||| 128 = a + 128 := by
  have := or_high (a := a) (k := 7) h 1
  rw [Nat.or_comm]; simpa [Nat.add_comm] using this
theorem fdiv_nat (a b : Nat) : Int.fdiv (a : Int) ((b : Nat) : Int) = ((a / b : Nat) : Int) := by
  rw [Int.fdiv_eq_ediv_of_nonneg _ (by omega)]; rfl
theorem fdiv7 (a : Nat) : Int.fdiv (a : Int) (2 ^ 7) = ((a / 128 : Nat) : Int) := fdiv_nat a 128

/-! ### bytes among cells -/
def bF (l : List UInt8) : List F := l.map fun x => .s (.int .u8 x.toNat)
theorem byteF_eq (b : ByteArray) : byteF b = bF b.data.toList := rfl
@[simp] theorem bF_length (l : List UInt8) : (bF l).length = l.length := by simp [bF]
@[simp] theorem bF_append (l m : List UInt8) : bF (l ++ m) = bF l ++ bF m := by simp [bF]
@[simp] theorem bF_nil : bF [] = [] := rfl
theorem bF_cons (x : UInt8) (l : List UInt8) : bF (x :: l) = .s (.int .u8 x.toNat) :: bF l := rfl
theorem bF_drop (l : List UInt8) (n : Nat) : (bF l).drop n = bF (l.drop n) := by simp [bF]
theorem bF_take (l : List UInt8) (n : Nat) : (bF l).take n = bF (l.take n) := by simp [bF]
theorem bF_get (l : List UInt8) (n : Nat) : (bF l)[n]? = (l[n]?).map fun x => .s (.int .u8 x.toNat) := by simp [bF]
@[simp] theorem strOfF_bF (l : List UInt8) : strOfF (bF l) = some l := by
  induction l with
  | nil => rfl
  | cons x l ih => simp [bF_cons, strOfF, ih]
theorem toArr (l : List UInt8) : (⟨l.toArray⟩ : ByteArray).data.toList = l := rfl
theorem ba_toList (b : ByteArray) : b.toList = b.data.toList := ByteArray.toList_eq b
theorem ba_size (b : ByteArray) : b.size = b.data.toList.length := by rw [Array.length_toList]; rfl
theorem withH_scal (b : Bool) (h : H) (x : Value) (g : H) (hx : scalF (.s x) = true) : withH b h (some (.ret (.f (.s x)), g)) = some (.ret (.f (.s x)), h) := by
  unfold withH scal; simp only [hx, Bool.or_true, if_true]
theorem withH_true (h : H) (v : V) (g : H) : withH true h (some (.ret v, g)) = some (.ret v, h) := by simp [withH]
theorem graft_ref (h : H) (m es : Nat) (c : List F) : graft h none (some (.ret (.ref 0 0 m es), [.fz c])) = some (.ret (.ref h.length 0 m es), h ++ [.fz c]) := by
  simp [graft, ren, reId, renO]
theorem elem_in {n es : Nat} {cs : List F} {i : Int} {K : List F → R} (h0 : 0 ≤ i) (h1 : i < (n : Int)) : elem (.lst n cs) i es K = K (cs.drop (i.toNat * es)) := if_pos ⟨h0, h1⟩
theorem run_norm {w : World0} {f : FuncId} (hx : w.ext f = none) (hp : (w.an f).pol = .pure) {l l' : List V} (hl : l.length = l'.length) (hfl : l.all ripe = l'.all ripe) (hz : frzArgs [] l = frzArgs [] l') : run w f l [] = run w f l' [] := by
  rw [run_eq, run_eq]
  unfold runF
  simp only [hx, hp, hl, hfl, hz, frzArgsK_eq]
/-- whole numbers, texts among cells -/
def kF (k : IntKind) (l : List Int) : List F := l.map fun n => .s (.int k n)
def sF (l : List ByteArray) : List F := l.map fun s => .s (.string s)
@[simp] theorem kF_length (k : IntKind) (l : List Int) : (kF k l).length = l.length := by simp [kF]
@[simp] theorem sF_length (l : List ByteArray) : (sF l).length = l.length := by simp [sF]
theorem ty_ints {P : Program} {e : TypeId} {k : IntKind} (hu : P.underlying e = some (.int k)) : ∀ {parts : List (List F)}, (∀ p ∈ parts, Ty P e p) → ∃ l : List Int, parts.flatten = kF k l ∧ l.length = parts.length ∧ ∀ n ∈ l, (Lit.int k n).wf = true
  | [], _ => ⟨[], rfl, rfl, by simp⟩
  | p :: parts, h => by
    obtain ⟨l, h1, h2, h3⟩ := ty_ints hu (parts := parts) (fun q hq => h q (List.mem_cons_of_mem _ hq))
    obtain ⟨n, rfl, hn⟩ := (h p (by simp)).of_int hu
    exact ⟨n :: l, by simp [h1, kF], by simp [h2], fun m hm => by
      rcases List.mem_cons.1 hm with rfl | hm
      · exact hn
      · exact h3 m hm⟩
theorem ty_strs {P : Program} {e : TypeId} (hu : P.underlying e = some .string) : ∀ {parts : List (List F)}, (∀ p ∈ parts, Ty P e p) → ∃ l : List ByteArray, parts.flatten = sF l ∧ l.length = parts.length ∧ ∀ s ∈ l, s.size ≤ maxLen
  | [], _ => ⟨[], rfl, rfl, by simp⟩
  | p :: parts, h => by
    obtain ⟨l, h1, h2, h3⟩ := ty_strs hu (parts := parts) (fun q hq => h q (List.mem_cons_of_mem _ hq))
    obtain ⟨n, rfl, hn⟩ := (h p (by simp)).of_str hu
    exact ⟨n :: l, by simp [h1, sF], by simp [h2], fun m hm => by
      rcases List.mem_cons.1 hm with rfl | hm
      · exact hn
      · exact h3 m hm⟩
/-- a slice of whole numbers that came in -/
theorem Ty.of_ints {P : Program} {t e : TypeId} {k : IntKind} {xs : List F} (h : Ty P t xs) (ht : P.underlying t = some (.slice e)) (he : P.underlying e = some (.int k)) :
    ∃ l : List Int, xs = [.lst l.length (kF k l)] ∧ l.length ≤ maxLen ∧ ∀ n ∈ l, (Lit.int k n).wf = true := by
  obtain ⟨parts, rfl, h1, h2, h3⟩ := h.of_slice ht
  obtain ⟨l, a, b, c⟩ := ty_ints he h3
  exact ⟨l, by rw [a, b], by omega, c⟩
theorem Ty.of_strs {P : Program} {t e : TypeId} {xs : List F} (h : Ty P t xs) (ht : P.underlying t = some (.slice e)) (he : P.underlying e = some .string) :
    ∃ l : List ByteArray, xs = [.lst l.length (sF l)] ∧ l.length ≤ maxLen ∧ ∀ s ∈ l, s.size ≤ maxLen := by
  obtain ⟨parts, rfl, h1, h2, h3⟩ := h.of_slice ht
  obtain ⟨l, a, b, c⟩ := ty_strs he h3
  exact ⟨l, by rw [a, b], by omega, c⟩
theorem atI_k {k : IntKind} {l : List Int} {i : Nat} (h : i < l.length) (K : Int → R) : atI k ((kF k l).drop (i * 1)) 0 K = K l[i] := by
  simp [atI, kF, F.int?, h]
theorem atS_k {l : List ByteArray} {i : Nat} (h : i < l.length) (K : ByteArray → R) : atS ((sF l).drop (i * 1)) 0 K = K l[i] := by
  simp [atS, sF, F.str?, h]
theorem toStr (l : List UInt8) : (if 0 + l.length ≤ (bF l).length then Option.map (fun l => (⟨l.toArray⟩ : ByteArray)) (strOfF (((bF l).drop 0).take l.length)) else none) = some ⟨l.toArray⟩ := by
  rw [if_pos (by simp), List.drop_zero, List.take_of_length_le (by simp), strOfF_bF]; rfl
theorem ba_mk (l : List UInt8) : (⟨l.toArray⟩ : ByteArray).toList = l := ba_toList _
end Go.Abs
