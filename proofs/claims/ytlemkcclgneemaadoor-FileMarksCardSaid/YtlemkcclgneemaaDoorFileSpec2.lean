/-
  Numbers behind bytes; sums behind bytes; systems as bytes: what the functions answer.
-/
import Derived.Test.YtlemkcclgneemaaDoorFileSpec
import Derived.KernelRfl
set_option autoImplicit false
set_option linter.unusedVariables false
set_option linter.unusedSimpArgs false
namespace Go.Proofs.YtlemkcclgneemaaDoor
open Go Go.Abs

theorem own_Put : OwnFn w0 31 Tryd.f31 [.own 1, .val] [.own 1] := ⟨rfl, by kernel_rfl, rfl, by kernel_rfl, _, _, rfl⟩
theorem own_rPut : OwnFn w0 38 Tryd.f38 [.val] [.own 1] := ⟨rfl, by kernel_rfl, rfl, by kernel_rfl, _, _, rfl⟩
theorem own_fnum : OwnFn w0 17 Tryd.f17 [.own 1, .val] [.own 1] := ⟨rfl, by kernel_rfl, rfl, by kernel_rfl, _, _, rfl⟩
theorem own_lnum : OwnFn w0 26 Tryd.f26 [.own 1, .val] [.own 1] := ⟨rfl, by kernel_rfl, rfl, by kernel_rfl, _, _, rfl⟩
theorem own_sumSeal : OwnFn w0 18 Tryd.f18 [.val] [.val] := ⟨rfl, by kernel_rfl, rfl, by kernel_rfl, _, _, rfl⟩
theorem own_rSeal : OwnFn w0 12 Tryd.f12 [.val] [.val] := ⟨rfl, by kernel_rfl, rfl, by kernel_rfl, _, _, rfl⟩
theorem own_sumOpen : OwnFn w0 19 Tryd.f19 [.val] [.val, .val] := ⟨rfl, by kernel_rfl, rfl, by kernel_rfl, _, _, rfl⟩
theorem bF_all (l : List UInt8) : (bF l).take l.length = bF l := List.take_of_length_le (by simp)
theorem bF_all' (l : List UInt8) (n : Nat) (h : n = l.length) : (bF l).take n = bF l := by subst h; exact bF_all l
def roomB : Nat := 140737488355328

/-! ### a number behind bytes -/
theorem Put_at {h : H} {k : Nat} {p : List UInt8} (hk : h[k]? = some (.fz (bF p))) (hp : p.length + 10 ≤ roomB) {n : Nat} (hn : n < 18446744073709551616) :
    run w0 31 [.ref k 0 p.length 1, N .u64 n] h = some (.ret (.ref h.length 0 (p ++ putB n).length 1), h.set k .dead ++ [.fz (bF (p ++ putB n))]) := by
  rw [call_row own_Put hk (by simp) (of_decide_eq_true (by kernel_rfl)) rfl, Nat.mul_one, List.drop_zero, bF_all]
  have e : coreOf w0 31 Tryd.f31 [.own 1] none [.ref 0 0 p.length 1, N .u64 n] [.fz (bF p)] = Put_0 (bF p) p.length n := rfl
  have hc := Put_core (bF p) n hn (by simpa [roomB] using hp)
  rw [bF_length] at hc
  rw [e, hc, graft_ref]
  simp
theorem fnum_core (p : List UInt8) (hp : p.length + 10 ≤ roomB) (n : Int) (h1 : -9223372036854775808 ≤ n) (h2 : n < 9223372036854775808) :
    fnum_0 (bF p) p.length n = some (.ret (.ref 0 0 (p ++ zb n).length 1), [.fz (bF (p ++ zb n))]) := by
  rw [fnum_eq, Zig_spec n h1 h2, pI_some, Put_at (h := [.fz (bF p)]) rfl hp (zig_lt h1 h2)]
  simp only [pO_some, asRef, asFz, List.set_cons_zero, List.length_cons, List.length_nil, List.cons_append, List.nil_append, List.getElem?_cons_zero, List.getElem?_cons_succ, and_self, true_and, if_true, Option.bind_some, Nat.zero_add, Nat.mul_one, List.drop_zero]
  rw [if_pos (by simp), bF_all]; rfl
theorem fnum_at {h : H} {k : Nat} {p : List UInt8} (hk : h[k]? = some (.fz (bF p))) (hp : p.length + 10 ≤ roomB) {n : Int} (h1 : -9223372036854775808 ≤ n) (h2 : n < 9223372036854775808) :
    run w0 17 [.ref k 0 p.length 1, N .i64 n] h = some (.ret (.ref h.length 0 (p ++ zb n).length 1), h.set k .dead ++ [.fz (bF (p ++ zb n))]) := by
  rw [call_row own_fnum hk (by simp) (of_decide_eq_true (by kernel_rfl)) rfl, Nat.mul_one, List.drop_zero, bF_all]
  have e : coreOf w0 17 Tryd.f17 [.own 1] none [.ref 0 0 p.length 1, N .i64 n] [.fz (bF p)] = fnum_0 (bF p) p.length n := rfl
  rw [e, fnum_core p hp n h1 h2, graft_ref]
  simp
/-- as equations tell it -/
theorem fnum_go {h : H} {k L L' : Nat} {p : List UInt8} {n : Int} (hk : h[k]? = some (.fz (bF p))) (hL : h.length = L) (hL' : L + 1 = L') (hp : p.length + 10 ≤ roomB) (h1 : -9223372036854775808 ≤ n) (h2 : n < 9223372036854775808) (K : Nat → List F → R) :
    (pO (run w0 17 [.ref k 0 p.length 1, N .i64 n] h) fun v g => (asRef L 1 v).bind fun m => (asFz g L).bind fun c => if g.length = L' then K m c else none) = K (p ++ zb n).length (bF (p ++ zb n)) := by
  subst hL; subst hL'
  rw [fnum_at hk hp h1 h2, pO_some]
  simp [asRef, asFz]
theorem rPut_at {h : H} {n : Nat} (hn : n < 18446744073709551616) : run w0 38 [N .u64 n] h = some (.ret (.ref h.length 0 (putB n).length 1), h ++ [.fz (bF (putB n))]) := by
  rw [call_vals own_rPut (of_decide_eq_true (by kernel_rfl)) rfl]
  have e : coreOf w0 38 Tryd.f38 [.own 1] none [N .u64 n] [] = rPut_0 n := rfl
  rw [e, rPut_spec n hn, graft_ref]
theorem lnum_core (p : List UInt8) (hp : p.length + 10 ≤ roomB) (n : Int) (h1 : -9223372036854775808 ≤ n) (h2 : n < 9223372036854775808) :
    lnum_0 (bF p) p.length n = some (.ret (.ref 0 0 (p ++ zb n).length 1), [.fz (bF (p ++ zb n))]) := by
  have hl := putB_len (zig_lt h1 h2)
  unfold roomB at hp
  rw [lnum_eq, rZig_spec n h1 h2, pI_some, rPut_at (zig_lt h1 h2)]
  simp only [pO_some, asRef, asFz, List.set_cons_zero, List.length_cons, List.length_nil, List.cons_append, List.nil_append, List.getElem?_cons_zero, List.getElem?_cons_succ, and_self, true_and, if_true, Option.bind_some, Nat.zero_add, Nat.mul_one, List.drop_zero]
  rw [if_pos (by simp), bF_all, if_pos (by simp), if_pos (by omega), if_pos (by simp), bF_all, ← bF_append, if_pos (by simp), bF_all' _ _ (by simp)]
  unfold zb
  rw [List.length_append]
theorem lnum_go {h : H} {k L L' : Nat} {p : List UInt8} {n : Int} (hk : h[k]? = some (.fz (bF p))) (hL : h.length = L) (hL' : L + 1 = L') (hp : p.length + 10 ≤ roomB) (h1 : -9223372036854775808 ≤ n) (h2 : n < 9223372036854775808) (K : Nat → List F → R) :
    (pO (run w0 26 [.ref k 0 p.length 1, N .i64 n] h) fun v g => (asRef L 1 v).bind fun m => (asFz g L).bind fun c => if g.length = L' then K m c else none) = K (p ++ zb n).length (bF (p ++ zb n)) := by
  subst hL; subst hL'
  rw [call_row own_lnum hk (by simp) (of_decide_eq_true (by kernel_rfl)) rfl, Nat.mul_one, List.drop_zero, bF_all]
  have e : coreOf w0 26 Tryd.f26 [.own 1] none [.ref 0 0 p.length 1, N .i64 n] [.fz (bF p)] = lnum_0 (bF p) p.length n := rfl
  rw [e, lnum_core p hp n h1 h2, graft_ref, pO_some]
  simp [asRef, asFz]

/-! ### sums behind bytes -/
theorem sum_cells (r : W32) : ([F.s (.int .u8 (IntKind.wrap .u8 (Int.fdiv (r.toNat : Int) (2 ^ 24)))), F.s (.int .u8 (IntKind.wrap .u8 (Int.fdiv (r.toNat : Int) (2 ^ 16)))), F.s (.int .u8 (IntKind.wrap .u8 (Int.fdiv (r.toNat : Int) (2 ^ 8)))), F.s (.int .u8 (IntKind.wrap .u8 (r.toNat : Int)))] : List F) = bF (sumBytes r) := by
  have e : ∀ n : Nat, IntKind.wrap .u8 (n : Int) = ((UInt8.ofNat n).toNat : Int) := fun n => by rw [wrap_u8]; simp
  rw [fdivn, fdivn, fdivn, e, e, e, e]
  rfl
theorem sumSeal_core (l : List UInt8) (hl : l.length + 4 ≤ roomB) : sumSeal_0 l.length (bF l) = some (.ret (.f (.lst (sealB l).length (bF (sealB l)))), []) := by
  unfold roomB at hl
  rw [sumSeal_eq, sumOf_spec l (by omega), pI_some, sum_cells]
  simp only [Nat.zero_add, Nat.mul_one, List.drop_zero]
  rw [if_pos (by simp), if_pos (by omega), if_pos ⟨trivial, by omega⟩, if_pos (by simp), bF_all, ← bF_append, if_pos (by simp [sumBytes]), bF_all' _ _ (by simp [sumBytes]), seal_len]
  rfl
theorem sumSeal_give {h : H} {k : Nat} {p : List UInt8} (hk : h[k]? = some (.fz (bF p))) (hp : p.length + 4 ≤ roomB) : run w0 18 [.ref k 0 p.length 1] h = some (.ret (.f (.lst (sealB p).length (bF (sealB p)))), h.set k .dead) := by
  rw [call_give own_sumSeal hk (by simp) (of_decide_eq_true (by kernel_rfl)) rfl, Nat.mul_one, List.drop_zero, bF_all]
  have e : coreOf w0 18 Tryd.f18 [.val] none [.f (.lst p.length (bF p))] [] = sumSeal_0 p.length (bF p) := rfl
  rw [e, sumSeal_core p hp, graft_f]
theorem rsum_cells (r : W32) : ([F.s (.int .u8 (IntKind.wrap .u8 (IntKind.wrap .u32 (Int.tdiv (r.toNat : Int) 16777216)))), F.s (.int .u8 (IntKind.wrap .u8 (Int.tmod (IntKind.wrap .u32 (Int.tdiv (r.toNat : Int) 65536)) 256))), F.s (.int .u8 (IntKind.wrap .u8 (Int.tmod (IntKind.wrap .u32 (Int.tdiv (r.toNat : Int) 256)) 256))), F.s (.int .u8 (IntKind.wrap .u8 (Int.tmod (r.toNat : Int) 256)))] : List F) = bF (sumBytes r) := by
  have hr := r.isLt
  have e1 : Int.tdiv (r.toNat : Int) 16777216 = ((r.toNat / 16777216 : Nat) : Int) := rfl
  have e2 : Int.tdiv (r.toNat : Int) 65536 = ((r.toNat / 65536 : Nat) : Int) := rfl
  have e3 : Int.tdiv (r.toNat : Int) 256 = ((r.toNat / 256 : Nat) : Int) := rfl
  have m : ∀ n : Nat, n < 4294967296 → IntKind.wrap .u8 (Int.tmod (n : Int) 256) = ((UInt8.ofNat n).toNat : Int) := fun n hn => by
    have : Int.tmod (n : Int) 256 = ((n % 256 : Nat) : Int) := rfl
    rw [this, wrap_u8]; simp
  have w : ∀ n : Nat, n < 4294967296 → IntKind.wrap .u32 (n : Int) = n := fun n hn => by rw [wrap_u32]; omega
  have e : ∀ n : Nat, IntKind.wrap .u8 (n : Int) = ((UInt8.ofNat n).toNat : Int) := fun n => by rw [wrap_u8]; simp
  rw [e1, e2, e3, w _ (by omega), w _ (by omega), w _ (by omega), m _ (by omega), m _ (by omega), m _ (by omega), e]
  rfl
theorem rSeal_core (l : List UInt8) (hl : l.length < 1000000000000) : rSeal_0 l.length (bF l) = some (.ret (.f (.lst (sealB l).length (bF (sealB l)))), []) := by
  rw [rSeal_eq, rSum_spec l (by omega), pI_some, rsum_cells]
  simp only [Nat.zero_add, Nat.mul_one, List.drop_zero]
  rw [if_pos (by simp), if_pos (by omega), if_pos ⟨trivial, by omega⟩, if_pos (by simp), bF_all, ← bF_append, if_pos (by simp [sumBytes]), bF_all' _ _ (by simp [sumBytes]), seal_len]
  rfl
theorem rSeal_give {h : H} {k : Nat} {p : List UInt8} (hk : h[k]? = some (.fz (bF p))) (hp : p.length < 1000000000000) : run w0 12 [.ref k 0 p.length 1] h = some (.ret (.f (.lst (sealB p).length (bF (sealB p)))), h.set k .dead) := by
  rw [call_give own_rSeal hk (by simp) (of_decide_eq_true (by kernel_rfl)) rfl, Nat.mul_one, List.drop_zero, bF_all]
  have e : coreOf w0 12 Tryd.f12 [.val] none [.f (.lst p.length (bF p))] [] = rSeal_0 p.length (bF p) := rfl
  rw [e, rSeal_core p hp, graft_f]
theorem rSeal_spec {h : H} {p : List UInt8} (hp : p.length < 1000000000000) : run w0 12 [.f (.lst p.length (bF p))] h = some (.ret (.f (.lst (sealB p).length (bF (sealB p)))), h) := by
  rw [call_vals own_rSeal (of_decide_eq_true (by kernel_rfl)) rfl]
  have e : coreOf w0 12 Tryd.f12 [.val] none [.f (.lst p.length (bF p))] [] = rSeal_0 p.length (bF p) := rfl
  rw [e, rSeal_core p hp, graft_f]
theorem sumOpen_core (l : List UInt8) (hl : l.length ≤ roomB) : sumOpen_0 l.length (bF l) = some (.ret (.tup [.f (.lst (openB l).1.length (bF (openB l).1)), I ((openB l).2 : Nat)]), []) := by
  unfold roomB at hl
  rw [sumOpen_eq, wrap_i64 (by omega) (by omega)]
  unfold openB
  by_cases h4 : l.length < 4
  · rw [if_pos (by simp; omega), if_pos h4]; rfl
  · rw [if_neg (by simp; omega), if_neg h4, sumOf_spec l (by omega), pI_some]
    by_cases hc : crc l = 0#32
    · rw [if_neg (by rw [hc]; decide), if_neg (show ¬ (crc l ≠ 0#32) from fun h => h hc), if_pos (⟨by omega, by omega⟩ : 0 ≤ ((l.length : Nat) : Int) - 4 ∧ ((l.length : Nat) : Int) - 4 ≤ ((l.length : Nat) : Int)), Option.bind_some, show Int.toNat (((l.length : Nat) : Int) - 4) = l.length - 4 by omega]
      simp only [Nat.sub_zero, Nat.mul_one, List.drop_zero, Nat.zero_add]
      rw [if_pos (by simp <;> omega), if_pos (by omega), if_pos (by simp <;> omega), bF_take, bF_take, List.take_take, Nat.min_self]
      simp
    · rw [if_pos (by
        have : ¬ ((crc l).toNat = 0) := fun h => hc (BitVec.eq_of_toNat_eq (by simpa using h))
        simp; omega), if_pos hc]; rfl
theorem sumOpen_spec {h : H} {p : List UInt8} (hp : p.length ≤ roomB) : run w0 19 [.f (.lst p.length (bF p))] h = some (.ret (.tup [.f (.lst (openB p).1.length (bF (openB p).1)), I ((openB p).2 : Nat)]), h) := by
  rw [call_vals own_sumOpen (of_decide_eq_true (by kernel_rfl)) rfl]
  have e : coreOf w0 19 Tryd.f19 [.val, .val] none [.f (.lst p.length (bF p))] [] = sumOpen_0 p.length (bF p) := rfl
  rw [e, sumOpen_core p hp]
  simp [graft, ren, rens]

/-! ### a system as bytes -/
theorem zb_len {n : Int} (h1 : -9223372036854775808 ≤ n) (h2 : n < 9223372036854775808) : (zb n).length ≤ 10 := putB_len (zig_lt h1 h2)
theorem flat_le {α : Type} {f : α → List UInt8} {b : Nat} : ∀ {l : List α}, (∀ a ∈ l, (f a).length ≤ b) → (l.flatMap f).length ≤ l.length * b
  | [], _ => by simp
  | a :: l, h => by
    rw [List.flatMap_cons, List.length_append, List.length_cons, Nat.add_mul, Nat.one_mul]
    have := h a (by simp)
    have := flat_le (f := f) (l := l) fun x hx => h x (by simp [hx])
    omega
/-- numbers of Go's int -/
def i64 (n : Int) : Prop := -9223372036854775808 ≤ n ∧ n < 9223372036854775808
theorem inR_i64 {n a b : Int} (h : inR n a b = true) (ha : -1 ≤ a) (hb : b ≤ 1000000) : i64 n := by rw [inR_iff] at h; unfold i64; omega
theorem enc_args1 (cells : List MCell) (cons : List MCon) (vars : Int) (n17 n18 : Int) (ar : List Int) (hl : ar.length < 9223372036854775808) (hn : ∀ n ∈ ar, i64 n) : ∀ (rest : List Int) (i : Nat) (p : List UInt8), ar.drop i = rest → i ≤ ar.length → p.length + rest.length * 10 + 10 ≤ roomB →
    fEncode_2 vars cells.length (cellsF cells) cons.length (consF cons) p.length cells.length (cellsF cells) n17 n18 ar.length (kF .i64 ar) ar.length i (bF p) = fEncode_1 vars cells.length (cellsF cells) cons.length (consF cons) (p ++ rest.flatMap zb).length cells.length (cellsF cells) n17 (IntKind.wrap .i64 (n18 + 1)) (bF (p ++ rest.flatMap zb))
  | [], i, p, hd, hi, hp => by
    have := done_of_drop hd
    rw [fEncode_2_eq, if_neg (by simp; omega)]
    simp only [Nat.zero_add, Nat.mul_one, List.drop_zero]
    rw [if_pos (by simp), bF_all]; simp
  | n :: rest, i, p, hd, hi, hp => by
    have hlt := lt_of_drop hd
    have hr := hn n (mem_of_drop hd)
    have hz := zb_len hr.1 hr.2
    simp only [List.length_cons] at hp
    rw [fEncode_2_eq, if_pos (by simp; omega), elem_kF hd, atI_zero, fnum_go (h := [.fz (bF p)]) (L := 1) (L' := 2) rfl rfl rfl (by omega) hr.1 hr.2, wrap_i64 (by omega) (by omega)]
    simp only [Nat.zero_add, Nat.mul_one, List.drop_zero]
    rw [if_pos (by simp), bF_all, show ((i : Int) + 1) = ((i + 1 : Nat) : Int) by omega, enc_args1 cells cons vars n17 n18 ar hl hn rest (i + 1) (p ++ zb n) (drop_next hd) (by omega) (by rw [List.length_append]; omega)]
    simp
theorem enc_args2 (cons : List MCon) (n1 n2 : Int) (ar : List Int) (hl : ar.length < 9223372036854775808) (hn : ∀ n ∈ ar, i64 n) : ∀ (rest : List Int) (i : Nat) (p : List UInt8), ar.drop i = rest → i ≤ ar.length → p.length + rest.length * 10 + 10 ≤ roomB →
    fEncode_4 p.length cons.length (consF cons) n1 n2 ar.length (kF .i64 ar) ar.length i (bF p) = fEncode_3 (p ++ rest.flatMap zb).length cons.length (consF cons) n1 (IntKind.wrap .i64 (n2 + 1)) (bF (p ++ rest.flatMap zb))
  | [], i, p, hd, hi, hp => by
    have := done_of_drop hd
    rw [fEncode_4_eq, if_neg (by simp; omega)]
    simp only [Nat.zero_add, Nat.mul_one, List.drop_zero]
    rw [if_pos (by simp), bF_all]; simp
  | n :: rest, i, p, hd, hi, hp => by
    have hlt := lt_of_drop hd
    have hr := hn n (mem_of_drop hd)
    have hz := zb_len hr.1 hr.2
    simp only [List.length_cons] at hp
    rw [fEncode_4_eq, if_pos (by simp; omega), elem_kF hd, atI_zero, fnum_go (h := [.fz (bF p)]) (L := 1) (L' := 2) rfl rfl rfl (by omega) hr.1 hr.2, wrap_i64 (by omega) (by omega)]
    simp only [Nat.zero_add, Nat.mul_one, List.drop_zero]
    rw [if_pos (by simp), bF_all, show ((i : Int) + 1) = ((i + 1 : Nat) : Int) by omega, enc_args2 cons n1 n2 ar hl hn rest (i + 1) (p ++ zb n) (drop_next hd) (by omega) (by rw [List.length_append]; omega)]
    simp
/-- few arguments, all in range -/
def okCell (c : MCell) : Prop := c.args.length ≤ 100 ∧ i64 c.var ∧ ∀ n ∈ c.args, i64 n
def okCon (c : MCon) : Prop := c.args.length ≤ 100 ∧ 0 ≤ c.kind ∧ c.kind < 256 ∧ i64 c.a ∧ i64 c.b ∧ ∀ n ∈ c.args, i64 n
theorem args_len {ar : List Int} (h : ∀ n ∈ ar, i64 n) : (ar.flatMap zb).length ≤ ar.length * 10 := flat_le fun n hn => zb_len (h n hn).1 (h n hn).2
theorem conB_len {c : MCon} (h : okCon c) : (conB c).length ≤ 1040 := by
  obtain ⟨h1, h2, h3, h4, h5, h6⟩ := h
  have := args_len h6
  have := zb_len (n := c.kind) (by omega) (by omega)
  have := zb_len h4.1 h4.2
  have := zb_len h5.1 h5.2
  have := zb_len (n := (c.args.length : Int)) (by omega) (by omega)
  unfold conB
  simp only [List.length_append]
  split <;> simp only [List.length_append, List.length_nil] <;> omega
theorem cellB_len {c : MCell} (h : okCell c) : (cellB c).length ≤ 1020 := by
  obtain ⟨h1, h2, h3⟩ := h
  have := args_len h3
  have := zb_len h2.1 h2.2
  have : (zb (if c.fn then (c.args.length : Int) else -1)).length ≤ 10 := zb_len (by split <;> omega) (by split <;> omega)
  unfold cellB
  simp only [List.length_append]
  omega
theorem enc_cons (cons : List MCon) (hl : cons.length < 9223372036854775808) (ho : ∀ c ∈ cons, okCon c) : ∀ (rest : List MCon) (i : Nat) (p : List UInt8), cons.drop i = rest → i ≤ cons.length → p.length + rest.length * 1040 + 2000 ≤ roomB →
    fEncode_3 p.length cons.length (consF cons) cons.length i (bF p) = some (.ret (.tup [.f (.lst (sealB (p ++ rest.flatMap conB)).length (bF (sealB (p ++ rest.flatMap conB)))), I 0]), [])
  | [], i, p, hd, hi, hp => by
    have := done_of_drop hd
    rw [fEncode_3_eq, if_neg (by simp; omega), sumSeal_give (h := [.fz (bF p)]) rfl (by omega)]
    simp [V.lst?, V.f?, F.lst?]
  | c :: rest, i, p, hd, hi, hp => by
    have hlt := lt_of_drop hd
    obtain ⟨h1, h2, h3, h4, h5, h6⟩ := ho c (mem_of_drop hd)
    have hcl := conB_len ⟨h1, h2, h3, h4, h5, h6⟩
    have z1 := zb_len (n := c.kind) (by omega) (by omega)
    have z2 := zb_len h4.1 h4.2
    have z3 := zb_len h5.1 h5.2
    have z4 := zb_len (n := (c.args.length : Int)) (by omega) (by omega)
    simp only [List.length_cons] at hp
    rw [fEncode_3_eq, if_pos (by simp; omega), elem_next MCon.F_len hd]
    simp only [MCon.F, List.cons_append, atI_zero, atI_succ, atL_zero, atL_succ]
    rw [wrap_i64 (n := c.kind) (by omega) (by omega)]
    rw [fnum_go (h := [.fz (bF p), .cells [N .u8 c.kind, N .i64 c.a, N .i64 c.b, .f (.lst c.args.length (kF .i64 c.args))]]) (L := 2) (L' := 3) rfl rfl rfl (by omega) (by omega) (by omega)]
    rw [fnum_go (h := [.dead, .cells [N .u8 c.kind, N .i64 c.a, N .i64 c.b, .f (.lst c.args.length (kF .i64 c.args))], .fz (bF (p ++ zb c.kind))]) (L := 3) (L' := 4) rfl rfl rfl (by rw [List.length_append]; omega) h4.1 h4.2]
    rw [fnum_go (h := [.dead, .cells [N .u8 c.kind, N .i64 c.a, N .i64 c.b, .f (.lst c.args.length (kF .i64 c.args))], .dead, .fz (bF (p ++ zb c.kind ++ zb c.a))]) (L := 4) (L' := 5) rfl rfl rfl (by simp only [List.length_append]; omega) h5.1 h5.2]
    by_cases k5 : c.kind = 5
    · rw [if_neg (by simp [k5])]
      rw [fnum_go (h := [.dead, .cells [N .u8 c.kind, N .i64 c.a, N .i64 c.b, .f (.lst c.args.length (kF .i64 c.args))], .dead, .dead, .fz (bF (p ++ zb c.kind ++ zb c.a ++ zb c.b))]) (L := 5) (L' := 6) rfl rfl rfl (by simp only [List.length_append]; omega) (by omega) (by omega)]
      simp only [Nat.zero_add, Nat.mul_one, List.drop_zero]
      rw [if_pos (by simp), bF_all]
      have ha := enc_args2 cons cons.length i c.args (by omega) h6 c.args 0 (p ++ zb c.kind ++ zb c.a ++ zb c.b ++ zb c.args.length) rfl (by omega) (by simp only [List.length_append]; omega)
      have ha' : fEncode_4 (p ++ zb c.kind ++ zb c.a ++ zb c.b ++ zb c.args.length).length cons.length (consF cons) ((cons.length : Nat) : Int) (i : Int) c.args.length (kF .i64 c.args) ((c.args.length : Nat) : Int) 0 (bF (p ++ zb c.kind ++ zb c.a ++ zb c.b ++ zb c.args.length)) = _ := ha
      have e : p ++ zb c.kind ++ zb c.a ++ zb c.b ++ zb c.args.length ++ c.args.flatMap zb = p ++ conB c := by unfold conB; rw [if_pos k5]; simp
      rw [ha', e, wrap_i64 (by omega) (by omega), show ((i : Int) + 1) = ((i + 1 : Nat) : Int) by omega, enc_cons cons hl ho rest (i + 1) (p ++ conB c) (drop_next hd) (by omega) (by rw [List.length_append]; omega)]
      simp
    · rw [if_pos (by simpa using k5)]
      simp only [Nat.zero_add, Nat.mul_one, List.drop_zero]
      have e : p ++ zb c.kind ++ zb c.a ++ zb c.b = p ++ conB c := by unfold conB; rw [if_neg k5]; simp
      rw [if_pos (by simp), bF_all, e, wrap_i64 (by omega) (by omega), show ((i : Int) + 1) = ((i + 1 : Nat) : Int) by omega, enc_cons cons hl ho rest (i + 1) (p ++ conB c) (drop_next hd) (by omega) (by rw [List.length_append]; omega)]
      simp
theorem enc_cells (vars : Int) (cells : List MCell) (cons : List MCon) (hl : cells.length < 1000000000) (hl2 : cons.length < 1000000000) (ho : ∀ c ∈ cells, okCell c) (ho2 : ∀ c ∈ cons, okCon c) : ∀ (rest : List MCell) (i : Nat) (p : List UInt8), cells.drop i = rest → i ≤ cells.length → p.length + rest.length * 1020 + 2000000000000 ≤ roomB →
    fEncode_1 vars cells.length (cellsF cells) cons.length (consF cons) p.length cells.length (cellsF cells) cells.length i (bF p) = some (.ret (.tup [.f (.lst (sealB (p ++ (rest.flatMap cellB ++ cons.flatMap conB))).length (bF (sealB (p ++ (rest.flatMap cellB ++ cons.flatMap conB))))), I 0]), [])
  | [], i, p, hd, hi, hp => by
    have := done_of_drop hd
    rw [fEncode_1_eq, if_neg (by simp; omega)]
    simp only [Nat.zero_add, Nat.mul_one, List.drop_zero]
    have hc := enc_cons cons (by omega) ho2 cons 0 p rfl (by omega) (by omega)
    have hc' : fEncode_3 p.length cons.length (consF cons) ((cons.length : Nat) : Int) 0 (bF p) = _ := hc
    rw [if_pos (by simp), bF_all, hc']
    simp
  | c :: rest, i, p, hd, hi, hp => by
    have hlt := lt_of_drop hd
    obtain ⟨h1, h2, h3⟩ := ho c (mem_of_drop hd)
    have hcl := cellB_len ⟨h1, h2, h3⟩
    have z1 := zb_len h2.1 h2.2
    have z2 := zb_len (n := (c.args.length : Int)) (by omega) (by omega)
    have z3 := zb_len (n := -1) (by omega) (by omega)
    simp only [List.length_cons] at hp
    have go : ∀ q : List UInt8, q.length ≤ p.length + 20 → q ++ c.args.flatMap zb = p ++ cellB c → fEncode_2 vars cells.length (cellsF cells) cons.length (consF cons) q.length cells.length (cellsF cells) cells.length i c.args.length (kF .i64 c.args) ((c.args.length : Nat) : Int) 0 (bF q) = some (.ret (.tup [.f (.lst (sealB (p ++ ((c :: rest).flatMap cellB ++ cons.flatMap conB))).length (bF (sealB (p ++ ((c :: rest).flatMap cellB ++ cons.flatMap conB))))), I 0]), []) := by
      intro q hq e
      have ha := enc_args1 cells cons vars cells.length i c.args (by omega) h3 c.args 0 q rfl (by omega) (by omega)
      have ha' : fEncode_2 vars cells.length (cellsF cells) cons.length (consF cons) q.length cells.length (cellsF cells) cells.length i c.args.length (kF .i64 c.args) ((c.args.length : Nat) : Int) 0 (bF q) = _ := ha
      rw [ha', e, wrap_i64 (by omega) (by omega), show ((i : Int) + 1) = ((i + 1 : Nat) : Int) by omega, enc_cells vars cells cons hl hl2 ho ho2 rest (i + 1) (p ++ cellB c) (drop_next hd) (by omega) (by rw [List.length_append]; omega)]
      simp
    rw [fEncode_1_eq, if_pos (by simp; omega), elem_next MCell.F_len hd]
    simp only [MCell.F, List.cons_append, atB_zero, atI_zero, atI_succ, atL_zero, atL_succ]
    cases hf : c.fn
    · rw [if_neg (by simp)]
      rw [fnum_go (h := [.fz (bF p), .cells [B false, N .i64 c.var, .f (.lst c.args.length (kF .i64 c.args))]]) (L := 2) (L' := 3) rfl rfl rfl (by omega) (by omega) (by omega)]
      rw [fnum_go (h := [.dead, .cells [B false, N .i64 c.var, .f (.lst c.args.length (kF .i64 c.args))], .fz (bF (p ++ zb (-1)))]) (L := 3) (L' := 4) rfl rfl rfl (by rw [List.length_append]; omega) h2.1 h2.2]
      simp only [Nat.zero_add, Nat.mul_one, List.drop_zero]
      rw [if_pos (by simp), bF_all]
      exact go _ (by simp only [List.length_append]; omega) (by unfold cellB; rw [hf]; simp)
    · rw [if_pos rfl]
      rw [fnum_go (h := [.fz (bF p), .cells [B true, N .i64 c.var, .f (.lst c.args.length (kF .i64 c.args))]]) (L := 2) (L' := 3) rfl rfl rfl (by omega) (by omega) (by omega)]
      rw [fnum_go (h := [.dead, .cells [B true, N .i64 c.var, .f (.lst c.args.length (kF .i64 c.args))], .fz (bF (p ++ zb c.args.length))]) (L := 3) (L' := 4) rfl rfl rfl (by rw [List.length_append]; omega) h2.1 h2.2]
      simp only [Nat.zero_add, Nat.mul_one, List.drop_zero]
      rw [if_pos (by simp), bF_all]
      exact go _ (by simp only [List.length_append]; omega) (by unfold cellB; rw [hf]; simp)
theorem cellR_ok {vars : Int} (hv : vars ≤ 16384) {c : MCell} (h : cellR vars c = true) : okCell c := by
  unfold cellR at h
  simp only [Bool.and_eq_true, decide_eq_true_eq, Bool.or_eq_true, List.all_eq_true] at h
  obtain ⟨h1, h2, h3, h4⟩ := h
  exact ⟨by omega, inR_i64 h2 (by omega) (by omega), fun n hn => inR_i64 (h1 n hn) (by omega) (by omega)⟩
theorem conR_ok {vars : Int} {cells : Nat} (hv : vars ≤ 16384) (hc : cells ≤ 16384) {c : MCon} (h : conR vars cells c = true) : okCon c := by
  unfold conR at h
  split at h
  · rename_i k
    simp only [Bool.and_eq_true, decide_eq_true_eq] at h
    have h0 : c.args = [] := List.eq_nil_of_length_eq_zero h.2.2
    exact ⟨by rw [h0]; simp, by omega, by omega, inR_i64 h.1 (by omega) (by omega), inR_i64 h.2.1 (by omega) (by omega), by rw [h0]; simp⟩
  · split at h
    · rename_i k
      simp only [Bool.and_eq_true, decide_eq_true_eq] at h
      have h0 : c.args = [] := List.eq_nil_of_length_eq_zero h.2.2
      exact ⟨by rw [h0]; simp, by omega, by omega, inR_i64 h.1 (by omega) (by omega), inR_i64 h.2.1 (by omega) (by omega), by rw [h0]; simp⟩
    · split at h
      · rename_i k
        simp only [Bool.and_eq_true, decide_eq_true_eq, List.all_eq_true] at h
        exact ⟨by omega, by omega, by omega, inR_i64 h.2.1 (by omega) (by omega), inR_i64 h.2.2.1 (by omega) (by omega), fun n hn => inR_i64 (h.1 n hn) (by omega) (by omega)⟩
      · cases h
theorem mark_cells : ([F.s (.int .u8 87), F.s (.int .u8 86), F.s (.int .u8 67), F.s (.int .u8 49)] : List F) = bF markB := rfl
theorem fEncode_spec (s : MSys) (hs : smallS s) (h0 : H) : run w0 10 [.agg (sysV s)] h0 =
    if rightR s = true then some (.ret (.tup [.f (.lst (sealB (layB s)).length (bF (sealB (layB s)))), I 0]), h0) else some (.ret (.tup [.f (.lst 0 []), I 1]), h0) := by
  rw [fEncode_run, fEncode_eq, syRight_spec s hs, pB_some]
  by_cases hr : rightR s = true
  · rw [hr, if_neg (by simp), if_pos rfl]
    obtain ⟨⟨h1, h2, h3, h4⟩, h5, h6⟩ := rightR_iff.1 hr
    have z1 := zb_len (n := s.vars) (by omega) (by omega)
    have z2 := zb_len (n := (s.cells.length : Int)) (by omega) (by omega)
    have z3 := zb_len (n := (s.cons.length : Int)) (by omega) (by omega)
    rw [mark_cells, show (V.ref 1 0 4 1) = V.ref 1 0 markB.length 1 from rfl]
    rw [fnum_go (p := markB) (h := [.cells [N .i64 s.vars, .f (.lst s.cells.length (cellsF s.cells)), .f (.lst s.cons.length (consF s.cons))], .fz (bF markB)]) (L := 2) (L' := 3) rfl rfl rfl (by decide) (by omega) (by omega)]
    rw [fnum_go (h := [.cells [N .i64 s.vars, .f (.lst s.cells.length (cellsF s.cells)), .f (.lst s.cons.length (consF s.cons))], .dead, .fz (bF (markB ++ zb s.vars))]) (L := 3) (L' := 4) rfl rfl rfl (by simp only [List.length_append, roomB, markB, List.length_cons, List.length_nil]; omega) (by omega) (by omega)]
    rw [fnum_go (h := [.cells [N .i64 s.vars, .f (.lst s.cells.length (cellsF s.cells)), .f (.lst s.cons.length (consF s.cons))], .dead, .dead, .fz (bF (markB ++ zb s.vars ++ zb s.cells.length))]) (L := 4) (L' := 5) rfl rfl rfl (by simp only [List.length_append, roomB, markB, List.length_cons, List.length_nil]; omega) (by omega) (by omega)]
    simp only [Nat.zero_add, Nat.mul_one, List.drop_zero]
    rw [if_pos (by simp), bF_all]
    have hc := enc_cells s.vars s.cells s.cons (by omega) (by omega) (fun c hc => cellR_ok h2 (h5 c hc)) (fun c hc => conR_ok h2 h3 (h6 c hc)) s.cells 0 (markB ++ zb s.vars ++ zb s.cells.length ++ zb s.cons.length) rfl (by omega) (by simp only [List.length_append, roomB, markB, List.length_cons, List.length_nil]; omega)
    have hc' : fEncode_1 s.vars s.cells.length (cellsF s.cells) s.cons.length (consF s.cons) (markB ++ zb s.vars ++ zb s.cells.length ++ zb s.cons.length).length s.cells.length (cellsF s.cells) ((s.cells.length : Nat) : Int) 0 (bF (markB ++ zb s.vars ++ zb s.cells.length ++ zb s.cons.length)) = _ := hc
    have e : markB ++ zb s.vars ++ zb s.cells.length ++ zb s.cons.length ++ (s.cells.flatMap cellB ++ s.cons.flatMap conB) = layB s := by unfold layB bodyB; simp
    rw [hc', e, withH_true]
  · have hr' : rightR s = false := by simpa using hr
    rw [hr', if_pos (by simp), if_neg (by simp), withH_true]
end Go.Proofs.YtlemkcclgneemaaDoor
