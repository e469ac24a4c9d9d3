import Derived.Test.YtemnahkpffafoaaDoorCoilPlain
import Derived.Test.YtemnahkpffafoaaDoorReadMath
import Derived.Test.YtemnahkpffafoaaDoorAbsCall
import Derived.Test.YtemnahkpffafoaaDoorMods
import Derived.KernelRfl
set_option autoImplicit false
namespace Go.Proofs.YtemnahkpffafoaaDoor
open Go Go.Abs
theorem fdivn (a k : Nat) : Int.fdiv (a : Int) (2 ^ k) = ((a / 2 ^ k : Nat) : Int) := by
 have := fdiv_nat a (2 ^ k)
 rw [← this]; norm_cast
theorem atI_lines {i : Nat} (h : i < 16) (K : Int → R) : atI .u32 (linesT.drop (i * 1)) 0 K = K ((tabT.getD i 0 : Nat) : Int) := by
 have : i = 0 ∨ i = 1 ∨ i = 2 ∨ i = 3 ∨ i = 4 ∨ i = 5 ∨ i = 6 ∨ i = 7 ∨ i = 8 ∨ i = 9 ∨ i = 10 ∨ i = 11 ∨ i = 12 ∨ i = 13 ∨ i = 14 ∨ i = 15 := by omega
 rcases this with rfl | rfl | rfl | rfl | rfl | rfl | rfl | rfl | rfl | rfl | rfl | rfl | rfl | rfl | rfl | rfl <;> rfl
theorem xor32 (a b : W32) : IntKind.wrap .u32 (BitVec.ofInt 32 (a.toNat : Int) ^^^ BitVec.ofInt 32 (b.toNat : Int)).toNat = ((a ^^^ b).toNat : Int) := by
 have := (a ^^^ b).isLt
 rw [BitVec.ofInt_natCast, BitVec.ofInt_natCast, BitVec.ofNat_toNat, BitVec.ofNat_toNat, BitVec.setWidth_eq, BitVec.setWidth_eq, wrap_u32]
 omega
theorem shl32 (a : W32) : IntKind.wrap .u32 ((a.toNat : Int) * 2 ^ 4) = ((a <<< 4).toNat : Int) := by
 rw [wrap_u32, BitVec.toNat_shiftLeft, Nat.shiftLeft_eq]
 omega
theorem shr32 (a : W32) : Int.fdiv (a.toNat : Int) (2 ^ 28) = ((a >>> 28).toNat : Int) := by
 rw [fdivn, BitVec.toNat_ushiftRight, Nat.shiftRight_eq_div_pow]
theorem nib_ix (r : W32) (n : Nat) (hn : n < 16) : ((r >>> 28) ^^^ BitVec.ofNat 32 n).toNat < 16 := by
 rw [BitVec.toNat_xor]
 have h1 : (r >>> 28).toNat < 2 ^ 4 := by rw [BitVec.toNat_ushiftRight, Nat.shiftRight_eq_div_pow]; have := r.isLt; omega
 have h2 : (BitVec.ofNat 32 n).toNat < 2 ^ 4 := by rw [BitVec.toNat_ofNat]; omega
 exact Nat.xor_lt_two_pow h1 h2
theorem nib_go (r : W32) (n : Nat) (hn : n < 16) (K : Int → R) :
  (if 0 ≤ IntKind.wrap .u32 (BitVec.ofInt 32 (Int.fdiv (r.toNat : Int) (2 ^ 28)) ^^^ BitVec.ofInt 32 (n : Int)).toNat ∧ IntKind.wrap .u32 (BitVec.ofInt 32 (Int.fdiv (r.toNat : Int) (2 ^ 28)) ^^^ BitVec.ofInt 32 (n : Int)).toNat < ↑(16 : Nat) then
   atI .u32 (linesT.drop ((Int.toNat (IntKind.wrap .u32 (BitVec.ofInt 32 (Int.fdiv (r.toNat : Int) (2 ^ 28)) ^^^ BitVec.ofInt 32 (n : Int)).toNat)) * 1)) 0 fun m => K (IntKind.wrap .u32 (BitVec.ofInt 32 (IntKind.wrap .u32 ((r.toNat : Int) * 2 ^ 4)) ^^^ BitVec.ofInt 32 m).toNat) else none) = K ((nibStep r (BitVec.ofNat 32 n)).toNat : Int) := by
 have hn' : (n : Int) = ((BitVec.ofNat 32 n).toNat : Int) := by rw [BitVec.toNat_ofNat]; omega
 have hix := nib_ix r n hn
 rw [hn', shr32, xor32, shl32, if_pos ⟨by omega, by omega⟩, Int.toNat_natCast, atI_lines hix]
 have hm : ((tabT.getD ((r >>> 28) ^^^ BitVec.ofNat 32 n).toNat 0 : Nat) : Int) = ((BitVec.ofNat 32 (tabT.getD ((r >>> 28) ^^^ BitVec.ofNat 32 n).toNat 0)).toNat : Int) := by
  rw [BitVec.toNat_ofNat, Nat.mod_eq_of_lt]
  have : ∀ i < 16, tabT.getD i 0 < 2 ^ 32 := by decide
  exact this _ hix
 rw [hm, xor32]
 rfl
theorem sumOf_loop (l : List UInt8) (hl : l.length < 9223372036854775808) : ∀ (rest : List UInt8) (i : Nat) (r : W32), l.drop i = rest → i ≤ l.length →
  sumOf_1 r.toNat l.length (bF l) l.length i = some (.ret (N .u32 (crcFrom r rest).toNat), [])
 | [], i, r, hd, hi => by
  have := done_of_drop hd
  rw [sumOf_1_eq, if_neg (by simp; omega)]; rfl
 | x :: rest, i, r, hd, hi => by
  have hlt := lt_of_drop hd
  have hx := x.toNat_lt
  have he : ∀ K : List F → R, elem (.lst l.length (bF l)) (i : Int) 1 K = K (.s (.int .u8 x.toNat) :: bF rest) := by
   intro K
   rw [elem_in (by omega) (by omega), Int.toNat_natCast, Nat.mul_one, bF_drop, hd]; rfl
  rw [sumOf_1_eq, if_pos (by simp; omega), he, atI_zero]
  have h4 : IntKind.wrap .u32 (Int.fdiv (x.toNat : Int) (2 ^ 4)) = ((x.toNat / 16 : Nat) : Int) := by rw [fdivn, wrap_u32]; omega
  have h15 : IntKind.wrap .u32 (IntKind.wrap .u8 (BitVec.ofInt 8 (x.toNat : Int) &&& BitVec.ofInt 8 15).toNat) = ((x.toNat % 16 : Nat) : Int) := by
   rw [show (15 : Int) = ((15 : Nat) : Int) from rfl, and_toNat, show (15 : Nat) = 2 ^ 4 - 1 from rfl, and_low, wrap_u8, wrap_u32]; omega
  rw [h4, h15]
  rw [nib_go r (x.toNat / 16) (by omega) (fun q => if 0 ≤ IntKind.wrap .u32 (BitVec.ofInt 32 (Int.fdiv q (2 ^ 28)) ^^^ BitVec.ofInt 32 ((x.toNat % 16 : Nat) : Int)).toNat ∧ IntKind.wrap .u32 (BitVec.ofInt 32 (Int.fdiv q (2 ^ 28)) ^^^ BitVec.ofInt 32 ((x.toNat % 16 : Nat) : Int)).toNat < ↑(16 : Nat) then atI .u32 (linesT.drop ((Int.toNat (IntKind.wrap .u32 (BitVec.ofInt 32 (Int.fdiv q (2 ^ 28)) ^^^ BitVec.ofInt 32 ((x.toNat % 16 : Nat) : Int)).toNat)) * 1)) 0 fun n1004 => sumOf_1 (IntKind.wrap .u32 (BitVec.ofInt 32 (IntKind.wrap .u32 (q * 2 ^ 4)) ^^^ BitVec.ofInt 32 n1004).toNat) l.length (bF l) ((l.length : Nat) : Int) (IntKind.wrap .i64 ((i : Int) + 1)) else none)]
  rw [nib_go _ (x.toNat % 16) (by omega) (fun q => sumOf_1 q l.length (bF l) ((l.length : Nat) : Int) (IntKind.wrap .i64 ((i : Int) + 1)))]
  rw [wrap_i64 (by omega) (by omega), ← byte_nibs, show ((i : Int) + 1) = ((i + 1 : Nat) : Int) by omega, sumOf_loop l hl rest (i + 1) _ (drop_next hd) (by omega), crcFrom_cons]
theorem sumOf_spec (l : List UInt8) (hl : l.length < 9223372036854775808) (h0 : H) : run w0 46 [.f (.lst l.length (bF l))] h0 = some (.ret (N .u32 (crc l).toNat), h0) := by
 rw [sumOf_run, sumOf_eq]
 have := sumOf_loop l hl l 0 (4294967295#32) rfl (by omega)
 have h : sumOf_1 4294967295 l.length (bF l) ((l.length : Nat) : Int) 0 = _ := this
 rw [h, withH_true]; rfl
theorem bits_get (l : List UInt8) (i : Nat) (x : UInt8) (hx : l[i / 8]? = some x) : (bitsOf l)[i]? = some (x.toBitVec.getLsbD (7 - i % 8)) := by
 induction l generalizing i with
 | nil => simp at hx
 | cons y l ih =>
  unfold bitsOf
  rw [List.flatMap_cons]
  by_cases h : i < 8
  ·rw [show i / 8 = 0 by omega] at hx
   simp at hx; subst hx
   rw [List.getElem?_append_left (by simp [byteBits]; omega)]
   have : i = 0 ∨ i = 1 ∨ i = 2 ∨ i = 3 ∨ i = 4 ∨ i = 5 ∨ i = 6 ∨ i = 7 := by omega
   rcases this with rfl | rfl | rfl | rfl | rfl | rfl | rfl | rfl <;> rfl
  ·rw [List.getElem?_append_right (by simp [byteBits]; omega), show (byteBits y).length = 8 from rfl]
   have := ih (i - 8) (by rw [show i / 8 = (i - 8) / 8 + 1 by omega] at hx; simpa using hx)
   unfold bitsOf at this
   rw [this, show (i - 8) % 8 = i % 8 by omega]
theorem msb_div (r : W32) : r.toNat / 2147483648 = if r.msb then 1 else 0 := by
 have h := r.isLt
 have e : r.msb = decide (2147483648 ≤ r.toNat) := by rw [BitVec.msb_eq_decide]
 rw [e]
 by_cases hh : 2147483648 ≤ r.toNat
 ·simp [hh]; omega
 ·simp [hh]; omega
theorem rSum_loop (l : List UInt8) (hl : l.length < 1000000000000000) : ∀ (rest : List Bool) (i : Nat) (r : W32), (bitsOf l).drop i = rest → i ≤ 8 * l.length →
  rSum_1 l.length (bF l) r.toNat i = some (.ret (N .u32 (rest.foldl bitStep r).toNat), [])
 | [], i, r, hd, hi => by
  have := done_of_drop hd
  rw [bits_len] at this
  rw [rSum_1_eq, wrap_i64 (by omega) (by omega), if_neg (by simp; omega)]; rfl
 | b :: rest, i, r, hd, hi => by
  have hlt := lt_of_drop hd
  rw [bits_len] at hlt
  have hi8 : i / 8 < l.length := by omega
  have hg := drop_get hi8
  have he : ∀ K : List F → R, elem (.lst l.length (bF l)) (((i / 8 : Nat)) : Int) 1 K = K (.s (.int .u8 (l[i / 8]).toNat) :: bF (l.drop (i / 8 + 1))) := by
   intro K
   rw [elem_in (by omega) (by omega), Int.toNat_natCast, Nat.mul_one, bF_drop, hg]; rfl
  have hb : b = (l[i / 8]).toBitVec.getLsbD (7 - i % 8) := by
   have h1 := bits_get l i l[i / 8] (List.getElem?_eq_getElem hi8)
   have h2 : (bitsOf l)[i]? = some b := by
    have : ((bitsOf l).drop i)[0]? = some b := by rw [hd]; rfl
    simpa using this
   rw [h1] at h2; exact (Option.some.inj h2).symm
  have ht : Int.tdiv (i : Int) 8 = ((i / 8 : Nat) : Int) := rfl
  have hm : Int.tmod (i : Int) 8 = ((i % 8 : Nat) : Int) := rfl
  have hx := (l[i / 8]).toNat_lt
  rw [rSum_1_eq, wrap_i64 (n := 8 * ((l.length : Nat) : Int)) (by omega) (by omega), if_pos (by simp; omega), ht, hm, wrap_i64 (n := ((i / 8 : Nat) : Int)) (by omega) (by omega), he, atI_zero, wrap_i64 (n := 7 - ((i % 8 : Nat) : Int)) (by omega) (by omega), if_neg (by omega)]
  have h7 : min (Int.toNat (7 - ((i % 8 : Nat) : Int))) 8 = 7 - i % 8 := by omega
  have hone : Int.tmod (IntKind.wrap .u32 (Int.fdiv ((l[i / 8]).toNat : Int) (2 ^ (7 - i % 8)))) 2 = if b then 1 else 0 := by
   have hle : (l[i / 8]).toNat / 2 ^ (7 - i % 8) ≤ (l[i / 8]).toNat := Nat.div_le_self _ _
   have h3 : b = (l[i / 8]).toNat.testBit (7 - i % 8) := hb
   rw [fdivn, wrap_u32, h3, Nat.testBit_eq_decide_div_mod_eq]
   have aux : ∀ q : Nat, q ≤ 255 → Int.tmod ((q : Int) % 4294967296) 2 = if (decide (q % 2 = 1)) = true then 1 else 0 := by
    intro q hq
    have h1 : ((q : Int) % 4294967296) = (q : Int) := by omega
    have h2 : Int.tmod (q : Int) 2 = ((q % 2 : Nat) : Int) := rfl
    rw [h1, h2]
    by_cases h : q % 2 = 1
    ·simp [h]
    ·rw [if_neg (by simpa using h)]; omega
   exact aux _ (by omega)
  have htop : IntKind.wrap .u32 (Int.tdiv (r.toNat : Int) 2147483648) = if r.msb then 1 else 0 := by
   have h1 : Int.tdiv (r.toNat : Int) 2147483648 = ((r.toNat / 2147483648 : Nat) : Int) := rfl
   rw [h1, msb_div, wrap_u32]
   cases r.msb <;> rfl
  have hshl : IntKind.wrap .u32 ((r.toNat : Int) * 2) = ((r <<< 1).toNat : Int) := by
   rw [wrap_u32, BitVec.toNat_shiftLeft, Nat.shiftLeft_eq]; omega
  rw [h7, hone, htop, hshl, show (79764919 : Int) = (((79764919#32 : W32)).toNat : Int) from rfl, xor32, wrap_i64 (by omega) (by omega), show ((i : Int) + 1) = ((i + 1 : Nat) : Int) by omega]
  have key : ∀ q : W32, q = bitStep r b → rSum_1 l.length (bF l) q.toNat ((i + 1 : Nat) : Int) = some (.ret (N .u32 ((b :: rest).foldl bitStep r).toNat), []) := by
   intro q hq
   rw [rSum_loop l hl rest (i + 1) q (drop_next hd) (by omega), hq, List.foldl_cons]
  by_cases hq : r.msb = b
  ·rw [if_neg (by rw [hq]; simp)]
   exact key _ (by unfold bitStep; rw [if_pos hq]; simp)
  ·rw [if_pos (by revert hq; cases r.msb <;> cases b <;> simp)]
   exact key _ (by unfold bitStep; rw [if_neg hq])
theorem rSum_spec (l : List UInt8) (hl : l.length < 1000000000000000) (h0 : H) : run w0 29 [.f (.lst l.length (bF l))] h0 = some (.ret (N .u32 (crc l).toNat), h0) := by
 rw [rSum_run, rSum_eq]
 have := rSum_loop l hl (bitsOf l) 0 (4294967295#32) rfl (by omega)
 have h : rSum_1 l.length (bF l) 4294967295 0 = _ := this
 rw [h, withH_true]; rfl
theorem own_Put : OwnFn w0 44 Tryd.f44 [.own 1, .val] [.own 1] := ⟨rfl, by kernel_rfl, rfl, by kernel_rfl, _, _, rfl⟩
theorem own_rPut : OwnFn w0 54 Tryd.f54 [.val] [.own 1] := ⟨rfl, by kernel_rfl, rfl, by kernel_rfl, _, _, rfl⟩
theorem own_sumSeal : OwnFn w0 24 Tryd.f24 [.val] [.val] := ⟨rfl, by kernel_rfl, rfl, by kernel_rfl, _, _, rfl⟩
theorem own_rSeal : OwnFn w0 12 Tryd.f12 [.val] [.val] := ⟨rfl, by kernel_rfl, rfl, by kernel_rfl, _, _, rfl⟩
theorem own_sumOpen : OwnFn w0 25 Tryd.f25 [.val] [.val, .val] := ⟨rfl, by kernel_rfl, rfl, by kernel_rfl, _, _, rfl⟩
theorem bF_all (l : List UInt8) : (bF l).take l.length = bF l := List.take_of_length_le (by simp)
theorem bF_all' (l : List UInt8) (n : Nat) (h : n = l.length) : (bF l).take n = bF l := by subst h; exact bF_all l
def roomB : Nat := 140737488355328
theorem Put_at {h : H} {k : Nat} {p : List UInt8} (hk : h[k]? = some (.fz (bF p))) (hp : p.length + 10 ≤ roomB) {n : Nat} (hn : n < 18446744073709551616) :
  run w0 44 [.ref k 0 p.length 1, N .u64 n] h = some (.ret (.ref h.length 0 (p ++ putB n).length 1), h.set k .dead ++ [.fz (bF (p ++ putB n))]) := by
 rw [call_row own_Put hk (by simp) (of_decide_eq_true (by kernel_rfl)) rfl, Nat.mul_one, List.drop_zero, bF_all]
 have e : coreOf w0 44 Tryd.f44 [.own 1] none [.ref 0 0 p.length 1, N .u64 n] [.fz (bF p)] = Put_0 (bF p) p.length n := rfl
 have hc := Put_core (bF p) n hn (by simpa [roomB] using hp)
 rw [bF_length] at hc
 rw [e, hc, graft_ref]
 simp
theorem rPut_at {h : H} {n : Nat} (hn : n < 18446744073709551616) : run w0 54 [N .u64 n] h = some (.ret (.ref h.length 0 (putB n).length 1), h ++ [.fz (bF (putB n))]) := by
 rw [call_vals own_rPut (of_decide_eq_true (by kernel_rfl)) rfl]
 have e : coreOf w0 54 Tryd.f54 [.own 1] none [N .u64 n] [] = rPut_0 n := rfl
 rw [e, rPut_spec n hn, graft_ref]
theorem sum_cells (r : W32) : ([F.s (.int .u8 (IntKind.wrap .u8 (Int.fdiv (r.toNat : Int) (2 ^ 24)))), F.s (.int .u8 (IntKind.wrap .u8 (Int.fdiv (r.toNat : Int) (2 ^ 16)))), F.s (.int .u8 (IntKind.wrap .u8 (Int.fdiv (r.toNat : Int) (2 ^ 8)))), F.s (.int .u8 (IntKind.wrap .u8 (r.toNat : Int)))] : List F) = bF (sumBytes r) := by
 have e : ∀ n : Nat, IntKind.wrap .u8 (n : Int) = ((UInt8.ofNat n).toNat : Int) := fun n => by rw [wrap_u8]; simp
 rw [fdivn, fdivn, fdivn, e, e, e, e]
 rfl
theorem sumSeal_core (l : List UInt8) (hl : l.length + 4 ≤ roomB) : sumSeal_0 l.length (bF l) = some (.ret (.f (.lst (sealB l).length (bF (sealB l)))), []) := by
 unfold roomB at hl
 rw [sumSeal_eq, sumOf_spec l (by omega), pI_some, sum_cells]
 simp only [Nat.zero_add, Nat.mul_one, List.drop_zero]
 rw [if_pos (by simp), if_pos (by omega), if_pos ⟨trivial, by omega⟩, if_pos (by simp), bF_all, ← bF_append, if_pos (by simp [sumBytes]), bF_all' _ _ (by simp [sumBytes]), seal_len]
 rfl
theorem sumSeal_give {h : H} {k : Nat} {p : List UInt8} (hk : h[k]? = some (.fz (bF p))) (hp : p.length + 4 ≤ roomB) : run w0 24 [.ref k 0 p.length 1] h = some (.ret (.f (.lst (sealB p).length (bF (sealB p)))), h.set k .dead) := by
 rw [call_give own_sumSeal hk (by simp) (of_decide_eq_true (by kernel_rfl)) rfl, Nat.mul_one, List.drop_zero, bF_all]
 have e : coreOf w0 24 Tryd.f24 [.val] none [.f (.lst p.length (bF p))] [] = sumSeal_0 p.length (bF p) := rfl
 rw [e, sumSeal_core p hp, graft_f]
theorem rsum_cells (r : W32) : ([F.s (.int .u8 (IntKind.wrap .u8 (IntKind.wrap .u32 (Int.tdiv (r.toNat : Int) 16777216)))), F.s (.int .u8 (IntKind.wrap .u8 (Int.tmod (IntKind.wrap .u32 (Int.tdiv (r.toNat : Int) 65536)) 256))), F.s (.int .u8 (IntKind.wrap .u8 (Int.tmod (IntKind.wrap .u32 (Int.tdiv (r.toNat : Int) 256)) 256))), F.s (.int .u8 (IntKind.wrap .u8 (Int.tmod (r.toNat : Int) 256)))] : List F) = bF (sumBytes r) := by
 have hr := r.isLt
 have e1 : Int.tdiv (r.toNat : Int) 16777216 = ((r.toNat / 16777216 : Nat) : Int) := rfl
 have e2 : Int.tdiv (r.toNat : Int) 65536 = ((r.toNat / 65536 : Nat) : Int) := rfl
 have e3 : Int.tdiv (r.toNat : Int) 256 = ((r.toNat / 256 : Nat) : Int) := rfl
 have m : ∀ n : Nat, n < 4294967296 → IntKind.wrap .u8 (Int.tmod (n : Int) 256) = ((UInt8.ofNat n).toNat : Int) := fun n hn => by
  have : Int.tmod (n : Int) 256 = ((n % 256 : Nat) : Int) := rfl
  rw [this, wrap_u8]; simp
 have w : ∀ n : Nat, n < 4294967296 → IntKind.wrap .u32 (n : Int) = n := fun n hn => by rw [wrap_u32]; omega
 have e : ∀ n : Nat, IntKind.wrap .u8 (n : Int) = ((UInt8.ofNat n).toNat : Int) := fun n => by rw [wrap_u8]; simp
 rw [e1, e2, e3, w _ (by omega), w _ (by omega), w _ (by omega), m _ (by omega), m _ (by omega), m _ (by omega), e]
 rfl
theorem rSeal_core (l : List UInt8) (hl : l.length < 1000000000000) : rSeal_0 l.length (bF l) = some (.ret (.f (.lst (sealB l).length (bF (sealB l)))), []) := by
 rw [rSeal_eq, rSum_spec l (by omega), pI_some, rsum_cells]
 simp only [Nat.zero_add, Nat.mul_one, List.drop_zero]
 rw [if_pos (by simp), if_pos (by omega), if_pos ⟨trivial, by omega⟩, if_pos (by simp), bF_all, ← bF_append, if_pos (by simp [sumBytes]), bF_all' _ _ (by simp [sumBytes]), seal_len]
 rfl
theorem rSeal_give {h : H} {k : Nat} {p : List UInt8} (hk : h[k]? = some (.fz (bF p))) (hp : p.length < 1000000000000) : run w0 12 [.ref k 0 p.length 1] h = some (.ret (.f (.lst (sealB p).length (bF (sealB p)))), h.set k .dead) := by
 rw [call_give own_rSeal hk (by simp) (of_decide_eq_true (by kernel_rfl)) rfl, Nat.mul_one, List.drop_zero, bF_all]
 have e : coreOf w0 12 Tryd.f12 [.val] none [.f (.lst p.length (bF p))] [] = rSeal_0 p.length (bF p) := rfl
 rw [e, rSeal_core p hp, graft_f]
theorem sumOpen_core (l : List UInt8) (hl : l.length ≤ roomB) : sumOpen_0 l.length (bF l) = some (.ret (.tup [.f (.lst (openB l).1.length (bF (openB l).1)), I ((openB l).2 : Nat)]), []) := by
 unfold roomB at hl
 rw [sumOpen_eq, wrap_i64 (by omega) (by omega)]
 unfold openB
 by_cases h4 : l.length < 4
 ·rw [if_pos (by simp; omega), if_pos h4]; rfl
 ·rw [if_neg (by simp; omega), if_neg h4, sumOf_spec l (by omega), pI_some]
  by_cases hc : crc l = 0#32
  ·rw [if_neg (by rw [hc]; decide), if_neg (show ¬ (crc l ≠ 0#32) from fun h => h hc), if_pos (⟨by omega, by omega⟩ : 0 ≤ ((l.length : Nat) : Int) - 4 ∧ ((l.length : Nat) : Int) - 4 ≤ ((l.length : Nat) : Int)), Option.bind_some, show Int.toNat (((l.length : Nat) : Int) - 4) = l.length - 4 by omega]
   simp only [Nat.sub_zero, Nat.mul_one, List.drop_zero, Nat.zero_add]
   rw [if_pos (by simp <;> omega), if_pos (by omega), if_pos (by simp <;> omega), bF_take, bF_take, List.take_take, Nat.min_self]
   simp
  ·rw [if_pos (by
    have : ¬ ((crc l).toNat = 0) := fun h => hc (BitVec.eq_of_toNat_eq (by simpa using h))
    simp; omega), if_pos hc]; rfl
theorem sumOpen_spec {h : H} {p : List UInt8} (hp : p.length ≤ roomB) : run w0 25 [.f (.lst p.length (bF p))] h = some (.ret (.tup [.f (.lst (openB p).1.length (bF (openB p).1)), I ((openB p).2 : Nat)]), h) := by
 rw [call_vals own_sumOpen (of_decide_eq_true (by kernel_rfl)) rfl]
 have e : coreOf w0 25 Tryd.f25 [.val, .val] none [.f (.lst p.length (bF p))] [] = sumOpen_0 p.length (bF p) := rfl
 rw [e, sumOpen_core p hp]
 simp [graft, ren, rens]
end Go.Proofs.YtemnahkpffafoaaDoor
