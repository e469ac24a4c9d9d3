/-
  What the functions of layers 12, 13 (systems, as bytes) answer; sums.
-/
import Derived.Test.YtlemkcclgneemaaDoorEqFile
import Derived.Test.YtlemkcclgneemaaDoorCoilSpec
import Derived.Test.YtlemkcclgneemaaDoorSyst
import Derived.Test.YtlemkcclgneemaaDoorMods
set_option autoImplicit false
set_option linter.unusedVariables false
set_option linter.unusedSimpArgs false
namespace Go.Proofs.YtlemkcclgneemaaDoor
open Go Go.Abs

/-! ### rules -/
theorem sywithin_spec (n a b : Int) (h0 : H) : run w0 40 [N .i64 n, N .i64 a, N .i64 b] h0 = some (.ret (B (inR n a b)), h0) := by
  rw [sywithin_run, sywithin_eq]
  by_cases h : a ≤ n
  · rw [if_pos (by simpa using h), withH_true]; simp [inR, h]
  · rw [if_neg (by simpa using h), withH_true]; simp [inR, h]
theorem sin_spec (n a b : Int) (h0 : H) : run w0 28 [N .i64 n, N .i64 a, N .i64 b] h0 = some (.ret (B (inR n a b)), h0) := by
  rw [sin_run, sin_eq]
  by_cases h : a ≤ n
  · rw [if_pos (by simpa using h), withH_true]; simp [inR, h]
  · rw [if_neg (by simpa using h), withH_true]; simp [inR, h]
theorem ibeq' (a b : Int) : (a == b) = decide (a = b) := by rw [Bool.eq_iff_iff]; simp
theorem natInt0 (n : Nat) : (((n : Nat) : Int) == 0) = decide (n = 0) := by rw [Bool.eq_iff_iff]; simp
theorem sycell_loop (vars : Int) (c : MCell) (hl : c.args.length < 9223372036854775808) : ∀ (rest : List Int) (i : Nat), c.args.drop i = rest → i ≤ c.args.length →
    sycell_1 vars c.fn c.var c.args.length (kF .i64 c.args) c.args.length (kF .i64 c.args) c.args.length i = some (.ret (B (rest.all (fun n => inR n 0 vars) && (inR c.var 0 vars && (decide (c.args.length ≤ 6) && (c.fn || decide (c.args.length = 0)))))), [])
  | [], i, hd, hi => by
    have := done_of_drop hd
    rw [sycell_1_eq, if_neg (by simp; omega), sywithin_spec, pB_some, List.all_nil, Bool.true_and]
    cases h1 : inR c.var 0 vars
    · rw [if_neg (by simp)]; simp
    · rw [if_pos rfl]
      by_cases h2 : c.args.length ≤ 6
      · rw [if_pos (by simp; omega)]
        cases h3 : c.fn
        · rw [if_pos rfl, natInt0]; simp [h2]
        · rw [if_neg (by simp)]; simp [h2]
      · rw [if_neg (by simp; omega)]; simp [h2]
  | n :: rest, i, hd, hi => by
    have := lt_of_drop hd
    rw [sycell_1_eq, if_pos (by simp; omega), elem_kF hd, atI_zero, sywithin_spec, pB_some]
    cases h1 : inR n 0 vars
    · rw [if_pos (by simp)]; simp [h1]
    · rw [if_neg (by simp), wrap_i64 (by omega) (by omega)]
      have := sycell_loop vars c hl rest (i + 1) (drop_next hd) (by omega)
      rw [show ((i : Int) + 1) = ((i + 1 : Nat) : Int) by omega, this]
      simp [h1]
theorem sycell_spec (vars : Int) (c : MCell) (hl : c.args.length < 9223372036854775808) (h0 : H) : run w0 29 [.agg (cellV c), N .i64 vars] h0 = some (.ret (B (cellR vars c)), h0) := by
  rw [sycell_run, sycell_eq]
  have := sycell_loop vars c hl c.args 0 rfl (by omega)
  have h : sycell_1 vars c.fn c.var c.args.length (kF .i64 c.args) c.args.length (kF .i64 c.args) ((c.args.length : Nat) : Int) 0 = _ := this
  rw [h, withH_true]; rfl
theorem sycon_loop (vars : Int) (c : MCon) (hl : c.args.length < 9223372036854775808) : ∀ (rest : List Int) (i : Nat), c.args.drop i = rest → i ≤ c.args.length →
    sycon_1 vars c.kind c.a c.b c.args.length (kF .i64 c.args) (-1) c.args.length (kF .i64 c.args) c.args.length i = some (.ret (B (rest.all (fun n => inR n (-1) vars) && (inR c.a (-1) vars && (inR c.b 0 vars && decide (c.args.length ≤ 6))))), [])
  | [], i, hd, hi => by
    have := done_of_drop hd
    rw [sycon_1_eq, if_neg (by simp; omega), sywithin_spec, pB_some, List.all_nil, Bool.true_and]
    cases h1 : inR c.a (-1) vars
    · rw [if_neg (by simp)]; simp
    · rw [if_pos rfl, sywithin_spec, pB_some]
      cases h2 : inR c.b 0 vars
      · rw [if_neg (by simp)]; simp
      · rw [if_pos rfl]
        have : (((c.args.length : Nat) : Int) ≤ 6) = (c.args.length ≤ 6) := by rw [eq_iff_iff]; omega
        simp [this]
  | n :: rest, i, hd, hi => by
    have := lt_of_drop hd
    rw [sycon_1_eq, if_pos (by simp; omega), elem_kF hd, atI_zero, sywithin_spec, pB_some]
    cases h1 : inR n (-1) vars
    · rw [if_pos (by simp)]; simp [h1]
    · rw [if_neg (by simp), wrap_i64 (by omega) (by omega)]
      have := sycon_loop vars c hl rest (i + 1) (drop_next hd) (by omega)
      rw [show ((i : Int) + 1) = ((i + 1 : Nat) : Int) by omega, this]
      simp [h1]
theorem sycon_spec (vars : Int) (cells : Nat) (c : MCon) (hl : c.args.length < 9223372036854775808) (h0 : H) : run w0 30 [.agg (conV c), N .i64 vars, N .i64 cells] h0 = some (.ret (B (conR vars cells c)), h0) := by
  rw [sycon_run, sycon_eq]
  have hloop := sycon_loop vars c hl c.args 0 rfl (by omega)
  have h : sycon_1 vars c.kind c.a c.b c.args.length (kF .i64 c.args) (-1) c.args.length (kF .i64 c.args) ((c.args.length : Nat) : Int) 0 = _ := hloop
  simp only [h, sywithin_spec, pB_some, natInt0]
  unfold conR
  have two : ∀ (p q r : Bool), (if p = true then (if q = true then some (Out.ret (B r), ([] : H)) else some (Out.ret (B false), [])) else some (Out.ret (B false), [])) = some (Out.ret (B (p && (q && r))), ([] : H)) := by
    intro p q r; cases p <;> cases q <;> rfl
  simp only [two]
  by_cases k1 : c.kind = 1
  · rw [if_pos (by simp [k1]), if_pos k1, withH_true]
  rw [if_neg (by simpa using k1), if_neg k1]
  by_cases k2 : c.kind = 2
  · rw [if_pos (by simp [k2]), if_pos (by simp [k2]), if_pos (.inl k2), withH_true]
  rw [if_neg (by simpa using k2)]
  by_cases k3 : c.kind = 3
  · rw [if_pos (by simp [k3]), if_pos (by simp [k3]), if_pos (.inr (.inl k3)), withH_true]
  rw [if_neg (by simpa using k3)]
  by_cases k4 : c.kind = 4
  · rw [if_pos (by simp [k4]), if_pos (.inr (.inr k4)), withH_true]
  have hn : ¬ (c.kind = 2 ∨ c.kind = 3 ∨ c.kind = 4) := by omega
  rw [if_neg (by simpa using k4), if_neg hn]
  by_cases k5 : c.kind = 5
  · rw [if_pos (by simp [k5]), if_pos k5, withH_true]
  · rw [if_neg (by simpa using k5), if_neg k5, withH_true]
/-- as much as memory has room for -/
def smallS (s : MSys) : Prop := s.cells.length < 9223372036854775808 ∧ s.cons.length < 9223372036854775808 ∧ (∀ c ∈ s.cells, c.args.length < 9223372036854775808) ∧ ∀ c ∈ s.cons, c.args.length < 9223372036854775808
theorem mem_of_drop {α : Type} {l rest : List α} {x : α} {i : Nat} (h : l.drop i = x :: rest) : x ∈ l := List.mem_of_mem_drop (by rw [h]; simp : x ∈ l.drop i)
theorem syRight_cons (s : MSys) (hs : smallS s) : ∀ (rest : List MCon) (i : Nat), s.cons.drop i = rest → i ≤ s.cons.length →
    syRight_2 s.vars s.cells.length (cellsF s.cells) s.cons.length (consF s.cons) s.cons.length (consF s.cons) s.cons.length i = some (.ret (B (rest.all (conR s.vars s.cells.length))), [])
  | [], i, hd, hi => by
    have := done_of_drop hd
    rw [syRight_2_eq, if_neg (by simp; omega)]; rfl
  | c :: rest, i, hd, hi => by
    have hlt := lt_of_drop hd
    have hl := hs.2.1
    rw [syRight_2_eq, if_pos (by simp; omega), elem_next MCon.F_len hd]
    simp only [MCon.F, List.cons_append, atI_zero, atI_succ, atL_zero, atL_succ]
    rw [sycon_spec s.vars s.cells.length c (hs.2.2.2 c (mem_of_drop hd)), pB_some]
    cases h1 : conR s.vars s.cells.length c
    · rw [if_pos (by simp)]; simp [h1]
    · rw [if_neg (by simp), wrap_i64 (by omega) (by omega)]
      have := syRight_cons s hs rest (i + 1) (drop_next hd) (by omega)
      rw [show ((i : Int) + 1) = ((i + 1 : Nat) : Int) by omega, this]
      simp [h1]
theorem syRight_cells (s : MSys) (hs : smallS s) : ∀ (rest : List MCell) (i : Nat), s.cells.drop i = rest → i ≤ s.cells.length →
    syRight_1 s.vars s.cells.length (cellsF s.cells) s.cons.length (consF s.cons) s.cells.length (cellsF s.cells) s.cells.length i = some (.ret (B (rest.all (cellR s.vars) && s.cons.all (conR s.vars s.cells.length))), [])
  | [], i, hd, hi => by
    have := done_of_drop hd
    rw [syRight_1_eq, if_neg (by simp; omega)]
    have := syRight_cons s hs s.cons 0 rfl (by omega)
    have h : syRight_2 s.vars s.cells.length (cellsF s.cells) s.cons.length (consF s.cons) s.cons.length (consF s.cons) ((s.cons.length : Nat) : Int) 0 = _ := this
    rw [h]; simp
  | c :: rest, i, hd, hi => by
    have hlt := lt_of_drop hd
    have hl := hs.1
    rw [syRight_1_eq, if_pos (by simp; omega), elem_next MCell.F_len hd]
    simp only [MCell.F, List.cons_append, atB_zero, atI_zero, atI_succ, atL_zero, atL_succ]
    rw [sycell_spec s.vars c (hs.2.2.1 c (mem_of_drop hd)), pB_some]
    cases h1 : cellR s.vars c
    · rw [if_pos (by simp)]; simp [h1]
    · rw [if_neg (by simp), wrap_i64 (by omega) (by omega)]
      have := syRight_cells s hs rest (i + 1) (drop_next hd) (by omega)
      rw [show ((i : Int) + 1) = ((i + 1 : Nat) : Int) by omega, this]
      simp [h1]
theorem syRight_core (s : MSys) (hs : smallS s) : syRight_0 s.vars s.cells.length (cellsF s.cells) s.cons.length (consF s.cons) = some (.ret (B (rightR s)), []) := by
  rw [syRight_eq]
  unfold rightR
  have hc := syRight_cells s hs s.cells 0 rfl (by omega)
  have h : syRight_1 s.vars s.cells.length (cellsF s.cells) s.cons.length (consF s.cons) s.cells.length (cellsF s.cells) ((s.cells.length : Nat) : Int) 0 = _ := hc
  rw [h]
  by_cases h1 : 0 ≤ s.vars
  · rw [if_pos (by simpa using h1)]
    by_cases h2 : s.vars ≤ 16384
    · rw [if_pos (by simpa using h2)]
      by_cases h3 : s.cells.length ≤ 16384
      · rw [if_pos (by simp; omega)]
        by_cases h4 : s.cons.length ≤ 131072
        · rw [if_neg (by simp; omega)]; simp [h1, h2, h3, h4]
        · rw [if_pos (by simp; omega)]; simp [h4]
      · rw [if_neg (by simp; omega)]; simp [h3]
    · rw [if_neg (by simpa using h2)]; simp [h2]
  · rw [if_neg (by simpa using h1)]; simp [h1]
theorem syRight_spec (s : MSys) (hs : smallS s) (h0 : H) : run w0 16 [.agg (sysV s)] h0 = some (.ret (B (rightR s)), h0) := by
  rw [syRight_run, syRight_core s hs, withH_true]

/-! ### sums -/
theorem fdivn (a k : Nat) : Int.fdiv (a : Int) (2 ^ k) = ((a / 2 ^ k : Nat) : Int) := by
  have := fdiv_nat a (2 ^ k)
  rw [← this]; norm_cast
theorem atI_lines {i : Nat} (h : i < 16) (K : Int → R) : atI .u32 (linesT.drop (i * 1)) 0 K = K ((tabT.getD i 0 : Nat) : Int) := by
  have : i = 0 ∨ i = 1 ∨ i = 2 ∨ i = 3 ∨ i = 4 ∨ i = 5 ∨ i = 6 ∨ i = 7 ∨ i = 8 ∨ i = 9 ∨ i = 10 ∨ i = 11 ∨ i = 12 ∨ i = 13 ∨ i = 14 ∨ i = 15 := by omega
  rcases this with rfl | rfl | rfl | rfl | rfl | rfl | rfl | rfl | rfl | rfl | rfl | rfl | rfl | rfl | rfl | rfl <;> rfl
theorem xor32 (a b : W32) : IntKind.wrap .u32 (BitVec.ofInt 32 (a.toNat : Int) ^^^ BitVec.ofInt 32 (b.toNat : Int)).toNat = ((a ^^^ b).toNat : Int) := by
  have := (a ^^^ b).isLt
  rw [BitVec.ofInt_natCast, BitVec.ofInt_natCast, BitVec.ofNat_toNat, BitVec.ofNat_toNat, BitVec.setWidth_eq, BitVec.setWidth_eq, wrap_u32]
  omega
theorem shl32 (a : W32) : IntKind.wrap .u32 ((a.toNat : Int) * 2 ^ 4) = ((a <<< 4).toNat : Int) := by
  rw [wrap_u32, BitVec.toNat_shiftLeft, Nat.shiftLeft_eq]
  omega
theorem shr32 (a : W32) : Int.fdiv (a.toNat : Int) (2 ^ 28) = ((a >>> 28).toNat : Int) := by
  rw [fdivn, BitVec.toNat_ushiftRight, Nat.shiftRight_eq_div_pow]
/-- four bits more -/
theorem nib_ix (r : W32) (n : Nat) (hn : n < 16) : ((r >>> 28) ^^^ BitVec.ofNat 32 n).toNat < 16 := by
  rw [BitVec.toNat_xor]
  have h1 : (r >>> 28).toNat < 2 ^ 4 := by rw [BitVec.toNat_ushiftRight, Nat.shiftRight_eq_div_pow]; have := r.isLt; omega
  have h2 : (BitVec.ofNat 32 n).toNat < 2 ^ 4 := by rw [BitVec.toNat_ofNat]; omega
  exact Nat.xor_lt_two_pow h1 h2
theorem nib_go (r : W32) (n : Nat) (hn : n < 16) (K : Int → R) :
    (if 0 ≤ IntKind.wrap .u32 (BitVec.ofInt 32 (Int.fdiv (r.toNat : Int) (2 ^ 28)) ^^^ BitVec.ofInt 32 (n : Int)).toNat ∧ IntKind.wrap .u32 (BitVec.ofInt 32 (Int.fdiv (r.toNat : Int) (2 ^ 28)) ^^^ BitVec.ofInt 32 (n : Int)).toNat < ↑(16 : Nat) then
      atI .u32 (linesT.drop ((Int.toNat (IntKind.wrap .u32 (BitVec.ofInt 32 (Int.fdiv (r.toNat : Int) (2 ^ 28)) ^^^ BitVec.ofInt 32 (n : Int)).toNat)) * 1)) 0 fun m => K (IntKind.wrap .u32 (BitVec.ofInt 32 (IntKind.wrap .u32 ((r.toNat : Int) * 2 ^ 4)) ^^^ BitVec.ofInt 32 m).toNat) else none) = K ((nibStep r (BitVec.ofNat 32 n)).toNat : Int) := by
  have hn' : (n : Int) = ((BitVec.ofNat 32 n).toNat : Int) := by rw [BitVec.toNat_ofNat]; omega
  have hix := nib_ix r n hn
  rw [hn', shr32, xor32, shl32, if_pos ⟨by omega, by omega⟩, Int.toNat_natCast, atI_lines hix]
  have hm : ((tabT.getD ((r >>> 28) ^^^ BitVec.ofNat 32 n).toNat 0 : Nat) : Int) = ((BitVec.ofNat 32 (tabT.getD ((r >>> 28) ^^^ BitVec.ofNat 32 n).toNat 0)).toNat : Int) := by
    rw [BitVec.toNat_ofNat, Nat.mod_eq_of_lt]
    have : ∀ i < 16, tabT.getD i 0 < 2 ^ 32 := by decide
    exact this _ hix
  rw [hm, xor32]
  rfl
theorem sumOf_loop (l : List UInt8) (hl : l.length < 9223372036854775808) : ∀ (rest : List UInt8) (i : Nat) (r : W32), l.drop i = rest → i ≤ l.length →
    sumOf_1 r.toNat l.length (bF l) l.length i = some (.ret (N .u32 (crcFrom r rest).toNat), [])
  | [], i, r, hd, hi => by
    have := done_of_drop hd
    rw [sumOf_1_eq, if_neg (by simp; omega)]; rfl
  | x :: rest, i, r, hd, hi => by
    have hlt := lt_of_drop hd
    have hx := x.toNat_lt
    have he : ∀ K : List F → R, elem (.lst l.length (bF l)) (i : Int) 1 K = K (.s (.int .u8 x.toNat) :: bF rest) := by
      intro K
      rw [elem_in (by omega) (by omega), Int.toNat_natCast, Nat.mul_one, bF_drop, hd]; rfl
    rw [sumOf_1_eq, if_pos (by simp; omega), he, atI_zero]
    have h4 : IntKind.wrap .u32 (Int.fdiv (x.toNat : Int) (2 ^ 4)) = ((x.toNat / 16 : Nat) : Int) := by rw [fdivn, wrap_u32]; omega
    have h15 : IntKind.wrap .u32 (IntKind.wrap .u8 (BitVec.ofInt 8 (x.toNat : Int) &&& BitVec.ofInt 8 15).toNat) = ((x.toNat % 16 : Nat) : Int) := by
      rw [show (15 : Int) = ((15 : Nat) : Int) from rfl, and_toNat, show (15 : Nat) = 2 ^ 4 - 1 from rfl, and_low, wrap_u8, wrap_u32]; omega
    rw [h4, h15]
    rw [nib_go r (x.toNat / 16) (by omega) (fun q => if 0 ≤ IntKind.wrap .u32 (BitVec.ofInt 32 (Int.fdiv q (2 ^ 28)) ^^^ BitVec.ofInt 32 ((x.toNat % 16 : Nat) : Int)).toNat ∧ IntKind.wrap .u32 (BitVec.ofInt 32 (Int.fdiv q (2 ^ 28)) ^^^ BitVec.ofInt 32 ((x.toNat % 16 : Nat) : Int)).toNat < ↑(16 : Nat) then atI .u32 (linesT.drop ((Int.toNat (IntKind.wrap .u32 (BitVec.ofInt 32 (Int.fdiv q (2 ^ 28)) ^^^ BitVec.ofInt 32 ((x.toNat % 16 : Nat) : Int)).toNat)) * 1)) 0 fun n1004 => sumOf_1 (IntKind.wrap .u32 (BitVec.ofInt 32 (IntKind.wrap .u32 (q * 2 ^ 4)) ^^^ BitVec.ofInt 32 n1004).toNat) l.length (bF l) ((l.length : Nat) : Int) (IntKind.wrap .i64 ((i : Int) + 1)) else none)]
    rw [nib_go _ (x.toNat % 16) (by omega) (fun q => sumOf_1 q l.length (bF l) ((l.length : Nat) : Int) (IntKind.wrap .i64 ((i : Int) + 1)))]
    rw [wrap_i64 (by omega) (by omega), ← byte_nibs, show ((i : Int) + 1) = ((i + 1 : Nat) : Int) by omega, sumOf_loop l hl rest (i + 1) _ (drop_next hd) (by omega), crcFrom_cons]
theorem sumOf_spec (l : List UInt8) (hl : l.length < 9223372036854775808) (h0 : H) : run w0 33 [.f (.lst l.length (bF l))] h0 = some (.ret (N .u32 (crc l).toNat), h0) := by
  rw [sumOf_run, sumOf_eq]
  have := sumOf_loop l hl l 0 (4294967295#32) rfl (by omega)
  have h : sumOf_1 4294967295 l.length (bF l) ((l.length : Nat) : Int) 0 = _ := this
  rw [h, withH_true]; rfl
theorem bits_get (l : List UInt8) (i : Nat) (x : UInt8) (hx : l[i / 8]? = some x) : (bitsOf l)[i]? = some (x.toBitVec.getLsbD (7 - i % 8)) := by
  induction l generalizing i with
  | nil => simp at hx
  | cons y l ih =>
    unfold bitsOf
    rw [List.flatMap_cons]
    by_cases h : i < 8
    · rw [show i / 8 = 0 by omega] at hx
      simp at hx; subst hx
      rw [List.getElem?_append_left (by simp [byteBits]; omega)]
      have : i = 0 ∨ i = 1 ∨ i = 2 ∨ i = 3 ∨ i = 4 ∨ i = 5 ∨ i = 6 ∨ i = 7 := by omega
      rcases this with rfl | rfl | rfl | rfl | rfl | rfl | rfl | rfl <;> rfl
    · rw [List.getElem?_append_right (by simp [byteBits]; omega), show (byteBits y).length = 8 from rfl]
      have := ih (i - 8) (by rw [show i / 8 = (i - 8) / 8 + 1 by omega] at hx; simpa using hx)
      unfold bitsOf at this
      rw [this, show (i - 8) % 8 = i % 8 by omega]
theorem msb_div (r : W32) : r.toNat / 2147483648 = if r.msb then 1 else 0 := by
  have h := r.isLt
  have e : r.msb = decide (2147483648 ≤ r.toNat) := by rw [BitVec.msb_eq_decide]
  rw [e]
  by_cases hh : 2147483648 ≤ r.toNat
  · simp [hh]; omega
  · simp [hh]; omega
theorem rSum_loop (l : List UInt8) (hl : l.length < 1000000000000000) : ∀ (rest : List Bool) (i : Nat) (r : W32), (bitsOf l).drop i = rest → i ≤ 8 * l.length →
    rSum_1 l.length (bF l) r.toNat i = some (.ret (N .u32 (rest.foldl bitStep r).toNat), [])
  | [], i, r, hd, hi => by
    have := done_of_drop hd
    rw [bits_len] at this
    rw [rSum_1_eq, wrap_i64 (by omega) (by omega), if_neg (by simp; omega)]; rfl
  | b :: rest, i, r, hd, hi => by
    have hlt := lt_of_drop hd
    rw [bits_len] at hlt
    have hi8 : i / 8 < l.length := by omega
    have hg := drop_get hi8
    have he : ∀ K : List F → R, elem (.lst l.length (bF l)) (((i / 8 : Nat)) : Int) 1 K = K (.s (.int .u8 (l[i / 8]).toNat) :: bF (l.drop (i / 8 + 1))) := by
      intro K
      rw [elem_in (by omega) (by omega), Int.toNat_natCast, Nat.mul_one, bF_drop, hg]; rfl
    have hb : b = (l[i / 8]).toBitVec.getLsbD (7 - i % 8) := by
      have h1 := bits_get l i l[i / 8] (List.getElem?_eq_getElem hi8)
      have h2 : (bitsOf l)[i]? = some b := by
        have : ((bitsOf l).drop i)[0]? = some b := by rw [hd]; rfl
        simpa using this
      rw [h1] at h2; exact (Option.some.inj h2).symm
    have ht : Int.tdiv (i : Int) 8 = ((i / 8 : Nat) : Int) := rfl
    have hm : Int.tmod (i : Int) 8 = ((i % 8 : Nat) : Int) := rfl
    have hx := (l[i / 8]).toNat_lt
    rw [rSum_1_eq, wrap_i64 (n := 8 * ((l.length : Nat) : Int)) (by omega) (by omega), if_pos (by simp; omega), ht, hm, wrap_i64 (n := ((i / 8 : Nat) : Int)) (by omega) (by omega), he, atI_zero, wrap_i64 (n := 7 - ((i % 8 : Nat) : Int)) (by omega) (by omega), if_neg (by omega)]
    have h7 : min (Int.toNat (7 - ((i % 8 : Nat) : Int))) 8 = 7 - i % 8 := by omega
    have hone : Int.tmod (IntKind.wrap .u32 (Int.fdiv ((l[i / 8]).toNat : Int) (2 ^ (7 - i % 8)))) 2 = if b then 1 else 0 := by
      have hle : (l[i / 8]).toNat / 2 ^ (7 - i % 8) ≤ (l[i / 8]).toNat := Nat.div_le_self _ _
      have h3 : b = (l[i / 8]).toNat.testBit (7 - i % 8) := hb
      rw [fdivn, wrap_u32, h3, Nat.testBit_eq_decide_div_mod_eq]
      have aux : ∀ q : Nat, q ≤ 255 → Int.tmod ((q : Int) % 4294967296) 2 = if (decide (q % 2 = 1)) = true then 1 else 0 := by
        intro q hq
        have h1 : ((q : Int) % 4294967296) = (q : Int) := by omega
        have h2 : Int.tmod (q : Int) 2 = ((q % 2 : Nat) : Int) := rfl
        rw [h1, h2]
        by_cases h : q % 2 = 1
        · simp [h]
        · rw [if_neg (by simpa using h)]; omega
      exact aux _ (by omega)
    have htop : IntKind.wrap .u32 (Int.tdiv (r.toNat : Int) 2147483648) = if r.msb then 1 else 0 := by
      have h1 : Int.tdiv (r.toNat : Int) 2147483648 = ((r.toNat / 2147483648 : Nat) : Int) := rfl
      rw [h1, msb_div, wrap_u32]
      cases r.msb <;> rfl
    have hshl : IntKind.wrap .u32 ((r.toNat : Int) * 2) = ((r <<< 1).toNat : Int) := by
      rw [wrap_u32, BitVec.toNat_shiftLeft, Nat.shiftLeft_eq]; omega
    rw [h7, hone, htop, hshl, show (79764919 : Int) = (((79764919#32 : W32)).toNat : Int) from rfl, xor32, wrap_i64 (by omega) (by omega), show ((i : Int) + 1) = ((i + 1 : Nat) : Int) by omega]
    have key : ∀ q : W32, q = bitStep r b → rSum_1 l.length (bF l) q.toNat ((i + 1 : Nat) : Int) = some (.ret (N .u32 ((b :: rest).foldl bitStep r).toNat), []) := by
      intro q hq
      rw [rSum_loop l hl rest (i + 1) q (drop_next hd) (by omega), hq, List.foldl_cons]
    by_cases hq : r.msb = b
    · rw [if_neg (by rw [hq]; simp)]
      exact key _ (by unfold bitStep; rw [if_pos hq]; simp)
    · rw [if_pos (by revert hq; cases r.msb <;> cases b <;> simp)]
      exact key _ (by unfold bitStep; rw [if_neg hq])
theorem rSum_spec (l : List UInt8) (hl : l.length < 1000000000000000) (h0 : H) : run w0 25 [.f (.lst l.length (bF l))] h0 = some (.ret (N .u32 (crc l).toNat), h0) := by
  rw [rSum_run, rSum_eq]
  have := rSum_loop l hl (bitsOf l) 0 (4294967295#32) rfl (by omega)
  have h : rSum_1 l.length (bF l) 4294967295 0 = _ := this
  rw [h, withH_true]; rfl
end Go.Proofs.YtlemkcclgneemaaDoor
