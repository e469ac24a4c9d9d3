/-
  Layer 1: sizes, texts, bytes.
-/
import Derived.Test.YtjhojfedimbpiaaEqCoil
import Derived.Test.YtjhojfedimbpiaaCoilSpec
set_option autoImplicit false
set_option linter.unusedVariables false
set_option linter.unusedSimpArgs false
namespace Go.Proofs.Ytjhojfedimbpiaa
open Go Go.Abs

theorem Size_loop : ∀ (k n : Nat) (m : Int), n < 128 ^ k → 0 ≤ m → m + k < 9223372036854775808 → Size_1 n m = some (.ret (I (m + (hi n).length)), [])
  | 0, n, m, h, h0, h1 => by
    have : n = 0 := by simpa using h
    subst this
    rw [Size_1_eq, if_neg (by simp), hi_zero]; simp
  | k + 1, n, m, h, h0, h1 => by
    rw [Size_1_eq]
    by_cases hn : n = 0
    · subst hn; rw [if_neg (by simp), hi_zero]; simp
    · rw [if_pos (by simp; omega), fdiv7, wrap_i64 (by omega) (by omega), Size_loop k (n / 128) (m + 1) (by rw [Nat.pow_succ] at h; exact Nat.div_lt_of_lt_mul (by omega)) (by omega) (by omega), hi_pos (n := n) (by omega)]
      simp; omega
theorem Size_spec (n : Nat) (h : n < 18446744073709551616) (h0 : H) : run w0 15 [N .u64 n] h0 = some (.ret (I (putB n).length), h0) := by
  rw [Size_run, Size_eq, fdiv7, Size_loop 9 (n / 128) 1 (by omega) (by omega) (by omega)]
  rw [withH_true]
  simp only [putB, List.length_append, List.length_singleton]
  rw [show ((1 : Int) + ((hi (n / 128)).length : Nat)) = (((hi (n / 128)).length + 1 : Nat) : Int) by omega]

theorem putB_300 : putB 300 = [130, 44] := by simp [putB, hi]

/-! ### the reader -/
def textB (s : ByteArray) : List UInt8 := putB s.size ++ s.data.toList
theorem Text_core (c : List F) (s : ByteArray) (hs : s.size < 9223372036854775808) (hc : c.length + 10 + s.size ≤ 140737488355328) : Text_0 c c.length s = some (.ret (.ref 0 0 (c.length + (textB s).length) 1), [.fz (c ++ bF (textB s))]) := by
  have hp := putB_len (n := s.size) (by omega)
  have hd : s.data.toList.length = s.size := (ba_size s).symm
  rw [Text_eq, wrap_u64_in (by omega) (by omega), Put_r0v_z, if_pos (by omega), List.drop_zero, Nat.mul_one, List.take_of_length_le (Nat.le_refl _), Put_core c s.size (by omega) (by omega), graft_ref, pO_some]
  simp only [List.length_nil, List.length_cons, asRef, asFz, List.nil_append, List.cons_append, List.getElem?_cons_zero, List.getElem?_cons_succ, and_self, true_and, if_true, Option.bind_some, Nat.zero_add, Nat.mul_one, List.drop_zero, byteF_eq, bF_length]
  rw [if_pos (by omega), if_pos (by omega), if_pos (by simp), List.take_of_length_le (by simp), if_pos (by simp; omega), List.take_of_length_le (by simp; omega)]
  simp only [textB, List.length_append, hd, bF_append, List.append_assoc, Nat.add_assoc]
theorem Int_ok {l : List UInt8} {a v c : Nat} {most : Nat} (hm : most < 9223372036854775808) (hl : l.length < 9223372036854775808) (ha : a ≤ l.length) (hr : rdN most (l.drop a) 0 0 = (v, c, 0)) (hv : v ≤ most) :
    run w0 23 [.ptr 0 0, I most] [rdr l a 0] = some (.ret (I v), [rdr l (a + c) 0]) := by
  have h := Num_ok hl ha hr
  unfold rdr at h ⊢
  rw [Int_p0v_c3, Int_eq, if_neg (by omega), wrap_u64_in (by omega) (by omega), h, pO_some]
  simp only [asCells, List.getElem?_cons_zero, List.getElem?_cons_succ, Option.bind_some, V.f?, V.int?, F.int?, if_true, List.length_cons, List.length_nil]
  rw [wrap_i64 (by omega) (by omega)]
  simp [graft, ren, rens, reId, renO]
theorem Int_err {l : List UInt8} {a v c e : Nat} {most : Nat} (hm : most < 9223372036854775808) (hl : l.length < 9223372036854775808) (ha : a ≤ l.length) (hr : rdN most (l.drop a) 0 0 = (v, c, e)) (he : e ≠ 0) :
    run w0 23 [.ptr 0 0, I most] [rdr l a 0] = some (.ret (I 0), [rdr l a e]) := by
  have h := Num_err hl ha hr he
  unfold rdr at h ⊢
  rw [Int_p0v_c3, Int_eq, if_neg (by omega), wrap_u64_in (by omega) (by omega), h, pO_some]
  simp only [asCells, List.getElem?_cons_zero, List.getElem?_cons_succ, Option.bind_some, V.f?, V.int?, F.int?, if_true, List.length_cons, List.length_nil]
  rw [wrap_i64 (by omega) (by omega)]
  simp [graft, ren, rens, reId, renO]
theorem Bytes_ok {l : List UInt8} {a v c : Nat} {most : Nat} (hm : most < 9223372036854775808) (hl : l.length < 4611686018427387904) (ha : a + c ≤ l.length) (hr : rdN most (l.drop a) 0 0 = (v, c, 0)) (hv : v ≤ most) (hv2 : a + c + v ≤ l.length) :
    run w0 24 [.ptr 0 0, I most] [rdr l a 0] = some (.ret (S ⟨((l.drop (a + c)).take v).toArray⟩), [rdr l (a + c + v) 0]) := by
  have h := Int_ok hm (by omega) (by omega) hr hv
  unfold rdr at h ⊢
  rw [Bytes_p0v_c3, Bytes_eq, h, pO_some]
  simp only [asCells, List.getElem?_cons_zero, List.getElem?_cons_succ, Option.bind_some, V.f?, V.int?, F.int?, if_true, List.length_cons, List.length_nil, Nat.zero_add]
  rw [Fault_p _ _ _ (Fault_p0_c3 ..), pI_some, if_neg (by simp)]
  simp only [F.sl?, Option.bind_some]
  rw [wrap_i64 (by omega) (by omega), if_neg (by simp; omega), wrap_i64 (by omega) (by omega), if_pos (by omega)]
  simp only [Option.bind_some]
  rw [if_pos (by omega)]
  simp only [Option.bind_some, Nat.mul_one]
  rw [show ((((a + c : Nat) : Int) + (v : Int))).toNat = a + c + v by omega, show (((a + c : Nat) : Int)).toNat = a + c by omega, show a + c + v - (a + c) = v by omega, bF_drop, bF_take]
  rw [if_pos (by simp; omega), strOfF_bF]
  simp [graft, ren, rens, reId, renO]
theorem Bytes_err {l : List UInt8} {a v c e : Nat} {most : Nat} (hm : most < 9223372036854775808) (hl : l.length < 4611686018427387904) (ha : a ≤ l.length) (hr : rdN most (l.drop a) 0 0 = (v, c, e)) (he : e ≠ 0) :
    run w0 24 [.ptr 0 0, I most] [rdr l a 0] = some (.ret (S ⟨#[]⟩), [rdr l a e]) := by
  have h := Int_err hm (by omega) ha hr he
  unfold rdr at h ⊢
  rw [Bytes_p0v_c3, Bytes_eq, h, pO_some]
  simp only [asCells, List.getElem?_cons_zero, List.getElem?_cons_succ, Option.bind_some, V.f?, V.int?, F.int?, if_true, List.length_cons, List.length_nil, Nat.zero_add]
  rw [Fault_p _ _ _ (Fault_p0_c3 ..), pI_some, if_pos (by simp; omega)]
  simp [graft, ren, rens, reId, renO]
/-! ### the nil reader -/
theorem IntN (n : Int) : IntN_0 n = some (.ret (I 0), []) := by
  rw [IntN_eq, Num_ov_, NumN]
  simp [graft, ren, pO, V.int?, F.int?]
  rfl
theorem BytesN (n : Int) : BytesN_0 n = some (.ret (S ⟨#[]⟩), []) := by
  rw [BytesN_eq, Int_ov_, IntN]
  simp only [graft, ren, pO_some, V.int?, V.f?, F.int?, Option.bind_some, if_true, rens, List.map_nil, List.append_nil, List.length_nil]
  rw [FaultN, pI_some, if_pos (by simp)]
end Go.Proofs.Ytjhojfedimbpiaa
