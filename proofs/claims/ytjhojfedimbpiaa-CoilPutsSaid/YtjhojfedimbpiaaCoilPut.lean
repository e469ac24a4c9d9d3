/-
  Put behind bytes that are not one's own, and behind which there is no room: they stay as they are.
-/
import Derived.Test.YtjhojfedimbpiaaCoilSpec
import Derived.Test.YtjhojfedimbpiaaAbsCall
set_option autoImplicit false
set_option linter.unusedVariables false
set_option linter.unusedSimpArgs false
namespace Go.Proofs.Ytjhojfedimbpiaa
open Go Go.Abs

noncomputable def PutL_0 (m1 : Nat) (c2 : List F) (n3 : Int) : R := coreOf w0 10 Try.f10 [.own 1] none [.lit m1 (c2.map .f), N .u64 n3] []
noncomputable def PutL_1 (m4 : Nat) (n5 : Int) (n6 : Int) (c7 : List F) (c8 : List F) : R := node w0 10 Try.f10 false (finO Try.prog Try.f10 [.own 1] none) [true, true, true, true, false, true, false] [(0, .lit m4 (c7.map .f)), (1, N .u64 n5), (5, .ptr 0 0), (6, N .i64 n6)] [.fz c8]
theorem PutL_eq (m1 : Nat) (c2 : List F) (n3 : Int) : PutL_0 m1 c2 n3 = if (c2.map V.f).all flat = true then PutL_1 m1 (Int.fdiv n3 (2 ^ 7)) 9 c2 [F.s (.int .u8 0), F.s (.int .u8 0), F.s (.int .u8 0), F.s (.int .u8 0), F.s (.int .u8 0), F.s (.int .u8 0), F.s (.int .u8 0), F.s (.int .u8 0), F.s (.int .u8 0), F.s (.int .u8 (IntKind.wrap .u8 (IntKind.wrap .u64 (BitVec.ofInt 64 n3 &&& BitVec.ofInt 64 127).toNat)))] else none := by kernel_rfl
theorem PutL_1_eq (m4 : Nat) (n5 : Int) (n6 : Int) (c7 : List F) (c8 : List F) : PutL_1 m4 n5 n6 c7 c8 = if (decide (n5 > 0)) = true then if 0 ≤ IntKind.wrap .i64 (n6 - 1) ∧ IntKind.wrap .i64 (n6 - 1) < ↑(10 : Nat) then if (0 + ((Int.toNat (IntKind.wrap .i64 (n6 - 1))) * 1)) + 1 ≤ c8.length then if (c7.map V.f).all flat = true then PutL_1 m4 (Int.fdiv n5 (2 ^ 7)) (IntKind.wrap .i64 (n6 - 1)) c7 (c8.set (0 + ((Int.toNat (IntKind.wrap .i64 (n6 - 1))) * 1)) (F.s (.int .u8 (IntKind.wrap .u8 (BitVec.ofInt 8 (IntKind.wrap .u8 (IntKind.wrap .u64 (BitVec.ofInt 64 n5 &&& BitVec.ofInt 64 127).toNat)) ||| BitVec.ofInt 8 128).toNat)))) else none else none else none else (if 10 ≤ c8.length then some (((c8.drop 0).take 10).map V.f) else none).bind fun _ => (if 0 ≤ n6 ∧ n6 ≤ ↑(10 : Nat) then some (Int.toNat n6) else none).bind fun j1001 => if 1 = 1 ∧ (0 + (j1001 * 1)) + ((10 - j1001) * 1) ≤ c8.length then if 0 < 1 ∧ ((c8.drop (0 + (j1001 * 1))).take ((10 - j1001) * 1)).length = (10 - j1001) * 1 ∧ 0 < 1 then if 0 < 10 - j1001 ∧ (c7.map V.f).length = m4 * 1 ∧ (m4 + (10 - j1001)) * 1 ≤ 140737488355328 then back [.fz c8, Go.Abs.newRow (c7.map V.f ++ ((c8.drop (0 + (j1001 * 1))).take ((10 - j1001) * 1)).map V.f)] [.own 1] none (.ref 1 0 (m4 + (10 - j1001)) 1) else none else none else none := (node_eq w0 ..).trans (by kernel_rfl)
theorem own_Put : OwnFn w0 10 Try.f10 [.own 1, .val] [.own 1] := ⟨rfl, by kernel_rfl, rfl, by kernel_rfl, _, _, rfl⟩
theorem flat_F (c : List F) : (c.map V.f).all flat = true := List.all_eq_true.2 fun v hv => by
  obtain ⟨x, _, rfl⟩ := List.mem_map.1 hv; rfl
theorem PutL_end (c : List F) (j : List F) (t : List UInt8) (hj : j.length + t.length = 10) (ht : 0 < t.length) (hc : c.length + 10 ≤ 140737488355328) :
    PutL_1 c.length 0 j.length c (j ++ bF t) = some (.ret (.ref 0 0 (c.length + t.length) 1), [.fz (c ++ bF t)]) := by
  have hl : (j ++ bF t).length = 10 := by simpa using hj
  have h1 : ((j ++ bF t).drop (0 + (j.length * 1))).take ((10 - j.length) * 1) = bF t := by
    simp only [Nat.zero_add, Nat.mul_one]
    rw [List.drop_left, List.take_of_length_le (by simp; omega)]
  rw [PutL_1_eq, if_neg (by simp), if_pos (by omega)]
  simp only [Option.bind_some]
  rw [if_pos (by omega)]
  simp only [Option.bind_some, Int.toNat_natCast]
  rw [h1, if_pos ⟨trivial, by omega⟩, if_pos ⟨by decide, by simp; omega, by decide⟩, if_pos ⟨by omega, by simp, by omega⟩, ← List.map_append, newRow_f]
  have e : back [.fz (j ++ bF t), .fz (c ++ bF t)] [.own 1] none (.ref 1 0 (c.length + (10 - j.length)) 1) = if 0 + (c.length + (10 - j.length)) * 1 ≤ (c ++ bF t).length then some (.ret (.ref 0 0 (c.length + (10 - j.length)) 1), [.fz (((c ++ bF t).drop 0).take ((c.length + (10 - j.length)) * 1))]) else none := rfl
  rw [e, if_pos (by simp; omega), List.drop_zero, List.take_of_length_le (by simp; omega), show c.length + (10 - j.length) = c.length + t.length by omega]
theorem PutL_loop : ∀ (k n : Nat) (c j : List F) (t : List UInt8), n < 128 ^ k → k ≤ j.length → j.length + t.length = 10 → 0 < t.length → c.length + 10 ≤ 140737488355328 →
    PutL_1 c.length n j.length c (j ++ bF t) = some (.ret (.ref 0 0 (c.length + (hi n ++ t).length) 1), [.fz (c ++ bF (hi n ++ t))])
  | 0, n, c, j, t, h, hk, hj, ht, hc => by
    have : n = 0 := by simpa using h
    subst this
    rw [hi_zero]; exact PutL_end c j t hj ht hc
  | k + 1, n, c, j, t, h, hk, hj, ht, hc => by
    by_cases hn : n = 0
    · subst hn; rw [hi_zero]; exact PutL_end c j t hj ht hc
    · rw [PutL_1_eq, if_pos (by simp; omega), wrap_i64 (n := (j.length : Int) - 1) (by omega) (by omega), if_pos (by omega)]
      have ht' : ((j.length : Int) - 1).toNat = j.length - 1 := by omega
      rw [ht', if_pos (by simp; omega), if_pos (flat_F c), fdiv7, grp]
      simp only [Nat.mul_one, Nat.zero_add]
      obtain ⟨j', x, rfl⟩ : ∃ j' x, j = j' ++ [x] := ⟨j.dropLast, j.getLast (by intro h; subst h; simp at hk), (List.dropLast_concat_getLast _).symm⟩
      simp only [List.length_append, List.length_singleton] at hk hj ⊢
      have hs : (j' ++ [x] ++ bF t).set (j'.length + 1 - 1) (.s (.int .u8 ((UInt8.ofNat (n % 128 + 128)).toNat : Int))) = j' ++ bF (UInt8.ofNat (n % 128 + 128) :: t) := by
        simp [bF_cons]
      rw [hs, show ((j'.length + 1 : Nat) : Int) - 1 = (j'.length : Int) by omega, PutL_loop k (n / 128) c j' _ (by rw [Nat.pow_succ] at h; exact Nat.div_lt_of_lt_mul (by omega)) (by omega) (by simp; omega) (by simp) hc]
      rw [hi_pos (n := n) (by omega)]
      simp
      omega
theorem PutL_core (c : List F) (n : Nat) (h : n < 18446744073709551616) (hc : c.length + 10 ≤ 140737488355328) : PutL_0 c.length c n = some (.ret (.ref 0 0 (c.length + (putB n).length) 1), [.fz (c ++ bF (putB n))]) := by
  rw [PutL_eq, if_pos (flat_F c), fdiv7, low]
  exact PutL_loop 9 (n / 128) c [.s (.int .u8 0), .s (.int .u8 0), .s (.int .u8 0), .s (.int .u8 0), .s (.int .u8 0), .s (.int .u8 0), .s (.int .u8 0), .s (.int .u8 0), .s (.int .u8 0)] [UInt8.ofNat (n % 128)] (by omega) (by simp) (by simp) (by simp) hc
/-- such bytes, handed over -/
theorem call_lit {w : World0} {f : FuncId} {fn : Func} {es : Nat} {l rs : List Sh} (ho : OwnFn w f fn (.own es :: l) rs) {m : Nat} {c : List F} {xs : List V} {h : H} (hlen : xs.length + 1 ≤ fn.ntmps) (hv : vals l xs = true) :
    run w f (.lit m (c.map .f) :: xs) h = graft h none (coreOf w f fn rs none (.lit m (c.map .f) :: xs) []) := by
  rw [own_call ho _ h (by simpa using hlen)]
  obtain ⟨a, b, d⟩ := takesL_vals h hv
  have hp : pinOf (.own es :: l) (.lit m (c.map .f) :: xs) = none := rfl
  have ht : takesL h (.own es :: l) (.lit m (c.map .f) :: xs) = [] := by simp [takesL, takes, a]
  have hg : givs (.own es :: l) (.lit m (c.map .f) :: xs) = [] := by simp [givs, b]
  simp only [hp, Option.isSome_none, Bool.false_eq_true, if_false, List.map_cons, unpin, d, ht, hg, Option.map_none, List.append_nil]
  unfold canonsK canonK
  dsimp only
  rw [if_pos (flat_F c), canonsK_vals _ _ _ hv, kill_nil]
theorem Put_lit {h : H} (p : List UInt8) {n : Nat} (hn : n < 18446744073709551616) (hp : p.length + 10 ≤ 140737488355328) : run w0 10 [.lit p.length ((bF p).map .f), N .u64 n] h = some (.ret (.ref h.length 0 (p ++ putB n).length 1), h ++ [.fz (bF (p ++ putB n))]) := by
  rw [call_lit own_Put (of_decide_eq_true (by kernel_rfl)) rfl]
  have e : coreOf w0 10 Try.f10 [.own 1] none [.lit p.length ((bF p).map .f), N .u64 n] [] = PutL_0 p.length (bF p) n := rfl
  have hc := PutL_core (bF p) n hn (by simpa using hp)
  rw [bF_length] at hc
  rw [e, hc, graft_ref, bF_append, List.length_append]
end Go.Proofs.Ytjhojfedimbpiaa
