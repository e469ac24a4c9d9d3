/-
  The laws of layer 1.
-/
import Derived.Test.YtjhojfedimbpiaaCoilSpec2
set_option autoImplicit false
set_option linter.unusedVariables false
set_option linter.unusedSimpArgs false
namespace Go.Proofs.Ytjhojfedimbpiaa
open Go Go.Abs

theorem awake_spec (h0 : H) : run w0 11 [] h0 = some (.ret (B true), h0) := by
  have := toStr [130, 44]
  rw [show [(130 : UInt8), 44].length = 2 from rfl] at this
  rw [awake_run, awake_eq, Put_nv_, show (300 : Int) = ((300 : Nat) : Int) from rfl, Put_nil 300 (by omega), putB_300, graft_ref, pO_some]
  simp only [List.length_nil, List.length_cons, asRef, asFz, List.nil_append, List.getElem?_cons_zero, and_self, if_true, Option.bind_some]
  rw [this, Option.bind_some, ba_mk]
  exact withH_true _ _ _
theorem CoilZigs_law (n : Int) (h1 : -9223372036854775808 ≤ n) (h2 : n < 9223372036854775808) (u : Nat) (h3 : u < 18446744073709551616) : run w0 4 [N .i64 n, N .u64 u] [] = some (.ret (B true), []) := by
  have hz := zig_lt h1 h2
  have hg := zag_in h3
  rw [CoilZigs_run, CoilZigs_eq, awake_spec, pB_some, if_pos rfl, Zig_spec n h1 h2]
  simp only [pI_some]
  rw [rZig_spec n h1 h2]
  simp only [pI_some]
  rw [if_pos (by simp), Zag_spec _ hz, zag_zig]
  simp only [pI_some]
  rw [if_pos (by simp), Zag_spec u h3]
  simp only [pI_some]
  rw [Zig_spec _ hg.1 hg.2, zig_zag]
  simp [withH]
theorem pow128 : ∀ (k m : Nat), 128 ^ k ≤ m → m < 128 ^ (k + 1) → (hi m).length = k + 1
  | 0, m, h1, h2 => by
    have : m / 128 = 0 := by omega
    rw [hi_pos (by omega), this, hi_zero]; rfl
  | k + 1, m, h1, h2 => by
    have h3 : 128 ^ k ≤ m / 128 := (Nat.le_div_iff_mul_le (by omega)).2 (by rw [Nat.pow_succ] at h1; omega)
    have h4 : m / 128 < 128 ^ (k + 1) := Nat.div_lt_of_lt_mul (by rw [Nat.pow_succ] at h2; omega)
    have : 0 < m := Nat.lt_of_lt_of_le (Nat.pow_pos (by omega)) h1
    rw [hi_pos this, List.length_append, pow128 k _ h3 h4]; rfl
theorem putB_pow {k m : Nat} (h1 : 128 ^ k ≤ m) (h2 : m < 128 ^ (k + 1)) : (putB m).length = k + 1 := by
  cases k with
  | zero =>
    have : m / 128 = 0 := by omega
    simp [putB, this, hi_zero]
  | succ k =>
    have h3 : 128 ^ k ≤ m / 128 := (Nat.le_div_iff_mul_le (by omega)).2 (by rw [Nat.pow_succ] at h1; omega)
    have h4 : m / 128 < 128 ^ (k + 1) := Nat.div_lt_of_lt_mul (by rw [Nat.pow_succ] at h2; omega)
    simp [putB, pow128 k _ h3 h4]
theorem CoilSizes_law (k : Nat) (hk : k < 256) : run w0 5 [N .u8 k] [] = some (.ret (B true), []) := by
  have h0 : k % 9 < 9 := Nat.mod_lt _ (by omega)
  have ht : Int.tmod (k : Int) 9 = ((k % 9 : Nat) : Int) := rfl
  have hw : IntKind.wrap .i64 ((k % 9 : Nat) : Int) = ((k % 9 : Nat) : Int) := wrap_i64 (by omega) (by omega)
  have hp : (128 : Nat) ^ (k % 9 + 1) < 18446744073709551616 := Nat.lt_of_le_of_lt (Nat.pow_le_pow_right (by omega) (show k % 9 + 1 ≤ 9 by omega)) (by decide)
  have hp0 : 0 < (128 : Nat) ^ (k % 9 + 1) := Nat.pow_pos (by omega)
  have hn : IntKind.wrap .u64 (1 * 2 ^ (min (Int.toNat (IntKind.wrap .i64 (7 * (IntKind.wrap .i64 (((k % 9 : Nat) : Int) + 1))))) 64)) = ((128 ^ (k % 9 + 1) : Nat) : Int) := by
    rw [wrap_i64 (n := ((k % 9 : Nat) : Int) + 1) (by omega) (by omega), wrap_i64 (by omega) (by omega)]
    have : (7 * (((k % 9 : Nat) : Int) + 1)).toNat = 7 * (k % 9 + 1) := by omega
    rw [this, Nat.min_eq_left (by omega), show (1 : Int) * 2 ^ (7 * (k % 9 + 1)) = ((128 ^ (k % 9 + 1) : Nat) : Int) by rw [Int.one_mul, show (128 : Nat) = 2 ^ 7 from rfl, ← Nat.pow_mul, Int.natCast_pow]; rfl]
    exact wrap_u64_in (Int.natCast_nonneg _) (Int.ofNat_lt.2 hp)
  have hs : (128 : Nat) ^ (k % 9 + 1) - 1 < 128 ^ (k % 9 + 1) := by omega
  have hlow : (128 : Nat) ^ (k % 9) ≤ 128 ^ (k % 9 + 1) - 1 := by
    rw [Nat.pow_succ]; have : 0 < (128 : Nat) ^ (k % 9) := Nat.pow_pos (by omega)
    omega
  rw [CoilSizes_run, CoilSizes_eq, ht, hw, if_neg (by rw [wrap_i64 (n := ((k % 9 : Nat) : Int) + 1) (by omega) (by omega), wrap_i64 (by omega) (by omega)]; omega), hn]
  rw [awake_spec, pB_some, if_pos rfl]
  rw [show ((128 ^ (k % 9 + 1) : Nat) : Int) - 1 = ((128 ^ (k % 9 + 1) - 1 : Nat) : Int) by omega, wrap_u64_in (n := ((128 ^ (k % 9 + 1) - 1 : Nat) : Int)) (by omega) (by omega)]
  rw [Size_spec _ (by omega), putB_pow hlow hs, wrap_i64 (n := ((k % 9 : Nat) : Int) + 1) (by omega) (by omega)]
  simp only [pI_some]
  rw [if_pos (by simp), Size_spec _ hp, putB_pow (k := k % 9 + 1) (Nat.le_refl _) (Nat.pow_lt_pow_right (by omega) (by omega)), wrap_i64 (n := ((k % 9 : Nat) : Int) + 2) (by omega) (by omega)]
  simp only [pI_some]
  rw [if_pos (by simp; omega), show (18446744073709551615 : Int) = ((18446744073709551615 : Nat) : Int) from rfl, Size_spec _ (by omega), putB_pow (k := 9) (by omega) (by omega)]
  simp only [pI_some]
  rw [if_pos (by simp), show (0 : Int) = ((0 : Nat) : Int) from rfl, Size_spec _ (by omega)]
  simp [withH, putB, hi_zero]
theorem CoilOrders_law (a b : Nat) (ha : a < 18446744073709551616) (hb : b < 18446744073709551616) : ∀ same : Bool, run w0 3 [N .u64 a, N .u64 b, B same] [] = some (.ret (B true), []) := by
  have s1 : ∀ l : List UInt8, (⟨l.toArray⟩ : ByteArray).size = l.length := fun l => ba_size _
  have main : ∀ b : Nat, b < 18446744073709551616 → (pO (run w0 10 [nilS, N .u64 a] []) fun v g => (asRef 0 1 v).bind fun m4 => (asFz g 0).bind fun c5 => if g.length = 1 then (if 0 + m4 ≤ c5.length then Option.map (fun l => (⟨l.toArray⟩ : ByteArray)) (strOfF ((c5.drop 0).take m4)) else none).bind fun s6 => pO (run w0 10 [nilS, N .u64 b] [.fz c5]) fun v g => (asRef 1 1 v).bind fun m7 => (asFz g 1).bind fun c8 => if g.length = 2 then (if 0 + m7 ≤ c8.length then Option.map (fun l => (⟨l.toArray⟩ : ByteArray)) (strOfF ((c8.drop 0).take m7)) else none).bind fun s9 =>
      if (decide ((s6.size : Int) < (s9.size : Int))) = false then if ((s6.size : Int) == (s9.size : Int)) = true then pB (run w0 11 [] [.fz c5, .fz c8]) fun b10 => if b10 = true then if (Op.bytesLess (s6.toList) (s9.toList) == (decide ((a : Int) < b))) = true then some (.ret (B ((s6.toList == s9.toList) == ((a : Int) == b))), []) else some (.ret (B false), []) else some (.ret (B false), [])
      else pB (run w0 11 [] [.fz c5, .fz c8]) fun b11 => if b11 = true then if (false == (decide ((a : Int) < b))) = true then some (.ret (B ((s6.toList == s9.toList) == ((a : Int) == b))), []) else some (.ret (B false), []) else some (.ret (B false), [])
      else pB (run w0 11 [] [.fz c5, .fz c8]) fun b12 => if b12 = true then if (true == (decide ((a : Int) < b))) = true then some (.ret (B ((s6.toList == s9.toList) == ((a : Int) == b))), []) else some (.ret (B false), []) else some (.ret (B false), []) else none else none) = some (.ret (B true), ([] : H)) := by
    intro b hb
    obtain ⟨h1, h2⟩ := putB_order ha hb
    have hs := toStr (putB a)
    have ht := toStr (putB b)
    rw [Put_nv_, Put_nil a ha, graft_ref, pO_some]
    simp only [List.length_nil, List.length_cons, asRef, asFz, List.nil_append, List.getElem?_cons_zero, and_self, if_true, Option.bind_some]
    rw [hs, Option.bind_some, Put_nv_z, Put_nil b hb, graft_ref, pO_some]
    simp only [List.length_nil, List.length_cons, asRef, asFz, List.nil_append, List.cons_append, List.getElem?_cons_zero, List.getElem?_cons_succ, and_self, if_true, Option.bind_some, Nat.zero_add]
    have ht' : (if (putB b).length ≤ (bF (putB b)).length then Option.map (fun l => (⟨l.toArray⟩ : ByteArray)) (strOfF (((bF (putB b)).drop 0).take (putB b).length)) else none) = some ⟨(putB b).toArray⟩ := by rw [← ht, Nat.zero_add]
    rw [ht', Option.bind_some]
    have fin : ∀ x : Bool, x = decide (a < b) → (if (x == decide ((a : Int) < (b : Int))) = true then some (Out.ret (B (((⟨(putB a).toArray⟩ : ByteArray).toList == (⟨(putB b).toArray⟩ : ByteArray).toList) == ((a : Int) == (b : Int)))), ([] : H)) else some (.ret (B false), [])) = some (.ret (B true), []) := by
      intro x hx
      have e1 : decide ((a : Int) < (b : Int)) = decide (a < b) := by rw [decide_eq_decide]; omega
      have e2 : (putB a == putB b) = ((a : Int) == (b : Int)) := by
        rw [Bool.eq_iff_iff]; simp [h2]; omega
      rw [hx, e1, if_pos (by simp), ba_mk, ba_mk, e2]; simp
    simp only [s1, awake_spec, pB_some, if_true]
    by_cases hl : (putB a).length < (putB b).length
    · have e1 : decide (((putB a).length : Int) < ((putB b).length : Int)) = true := by simpa using hl
      rw [e1, if_neg (by simp)]
      exact fin true (by rw [← h1]; simp [hl])
    · have e1 : decide (((putB a).length : Int) < ((putB b).length : Int)) = false := by simpa using hl
      rw [e1, if_pos rfl]
      by_cases he : (putB a).length = (putB b).length
      · have e2 : (((putB a).length : Int) == ((putB b).length : Int)) = true := by rw [beq_iff_eq]; omega
        rw [e2, if_pos rfl]
        exact fin _ (by rw [ba_mk, ba_mk, ← h1]; simp [he])
      · have e2 : (((putB a).length : Int) == ((putB b).length : Int)) = false := by
          rw [beq_eq_false_iff_ne]; omega
        rw [e2, if_neg (by simp)]
        exact fin false (by rw [← h1]; simp [hl, he])
  intro same
  rw [CoilOrders_run, CoilOrders_eq]
  cases same
  · rw [if_neg (by simp), main b hb]; exact withH_true _ _ _
  · rw [if_pos rfl, main a ha]; exact withH_true _ _ _

/-! ### rows -/
abbrev rowB (l : List Int) : List UInt8 := l.flatMap fun n => putB (zig n)
def i64L (l : List Int) : Prop := ∀ n ∈ l, -9223372036854775808 ≤ n ∧ n < 9223372036854775808
theorem rowB_len {l : List Int} (h : i64L l) : (rowB l).length ≤ 10 * l.length := by
  induction l with
  | nil => simp
  | cons n l ih =>
    have h1 := h n (by simp)
    have := putB_len (zig_lt h1.1 h1.2)
    have := ih fun m hm => h m (List.mem_cons_of_mem _ hm)
    simp only [rowB, List.flatMap_cons, List.length_append, List.length_cons] at this ⊢
    omega
theorem rows1 (l : List Int) (most : Int) (hl : i64L l) (hn : l.length ≤ 30) : ∀ (rest : List Int) (i : Nat) (p : List UInt8), l.drop i = rest → i ≤ l.length → p.length ≤ 10 * i →
    CoilRows_1 l.length (kF .i64 l) most p.length i (bF p) = CoilRows_2 l.length (kF .i64 l) most (p ++ rowB rest).length (bF (p ++ rowB rest))
  | [], i, p, hd, hi, hp => by
    have : l.length ≤ i := by
      rcases Nat.lt_or_ge i l.length with h | h
      · have := congrArg List.length hd; simp at this; omega
      · exact h
    rw [CoilRows_1_eq, if_neg (by simp; omega), if_pos (by simp), List.drop_zero, List.take_of_length_le (by simp)]
    simp
  | n :: rest, i, p, hd, hi, hp => by
    have hlt : i < l.length := by
      rcases Nat.lt_or_ge i l.length with h | h
      · exact h
      · have := congrArg List.length hd; simp at this; omega
    have hn' : l[i] = n := by
      have : (l.drop i)[0]? = some n := by rw [hd]; rfl
      simp at this
      rw [List.getElem?_eq_getElem hlt] at this
      exact Option.some.inj this
    have hb := hl n (by rw [← hn']; exact List.getElem_mem hlt)
    have hz := zig_lt hb.1 hb.2
    have hd' : l.drop (i + 1) = rest := by rw [← List.drop_drop, hd]; rfl
    have hpl := putB_len hz
    rw [CoilRows_1_eq, if_pos (by simp; omega), elem_in (by omega) (by omega), Int.toNat_natCast, atI_k hlt, hn', Zig_spec n hb.1 hb.2, pI_some, Put_r0v_z, if_pos (by simp), List.drop_zero]
    have e1 : (bF p).take (p.length * 1) = bF p := List.take_of_length_le (by simp)
    have e2 := Put_core (bF p) (zig n) hz (by simp; omega)
    rw [bF_length] at e2
    rw [e1, e2, graft_ref, pO_some]
    simp only [List.length_nil, List.length_cons, asRef, asFz, List.nil_append, List.cons_append, List.getElem?_cons_zero, List.getElem?_cons_succ, and_self, if_true, Option.bind_some, Nat.zero_add, Nat.mul_one, List.drop_zero]
    rw [if_pos (by simp), List.take_of_length_le (by simp), wrap_i64 (by omega) (by omega), ← bF_append]
    have e3 := rows1 l most hl hn rest (i + 1) (p ++ putB (zig n)) hd' (by omega) (by simp; omega)
    rw [List.length_append] at e3
    rw [show ((i : Int) + 1) = ((i + 1 : Nat) : Int) by omega, e3]
    simp [rowB, List.flatMap_cons]
theorem rows3 (l : List Int) (most : Nat) (hl : i64L l) (hn : l.length ≤ 30) (P : List UInt8) (hP : P.length ≤ 1000) : ∀ (rest : List Int) (i : Nat) (p : List UInt8), l.drop i = rest → i ≤ l.length → P = p ++ rowB rest →
    CoilRows_3 l.length (kF .i64 l) most i (.lst P.length (bF P)) p.length 0 = some (.ret (B true), [])
  | [], i, p, hd, hi, hp => by
    have : l.length ≤ i := by
      rcases Nat.lt_or_ge i l.length with h | h
      · have := congrArg List.length hd; simp at this; omega
      · exact h
    have hpp : P = p := by simpa [rowB] using hp
    subst hpp
    rw [CoilRows_3_eq, if_neg (by simp; omega), End_p0_c3]
    rw [show frzF (.lst P.length (bF P)) = .lst P.length (bF P) from rfl, End_ok (by omega) (Nat.le_refl _), if_neg (by omega), withH_scal _ _ _ _ rfl, pI_some, if_pos (by simp)]
    rw [Left_p _ _ _ (q := (P.length, bF P)) rfl (Left_p0_c3 ..), pI_some, wrap_i64 (by omega) (by omega)]
    simp
  | n :: rest, i, p, hd, hi, hp => by
    have hlt : i < l.length := by
      rcases Nat.lt_or_ge i l.length with h | h
      · exact h
      · have := congrArg List.length hd; simp at this; omega
    have hn' : l[i] = n := by
      have : (l.drop i)[0]? = some n := by rw [hd]; rfl
      simp at this
      rw [List.getElem?_eq_getElem hlt] at this
      exact Option.some.inj this
    have hb := hl n (by rw [← hn']; exact List.getElem_mem hlt)
    have hz := zig_lt hb.1 hb.2
    have hd' : l.drop (i + 1) = rest := by rw [← List.drop_drop, hd]; rfl
    have hp' : P = p ++ (putB (zig n) ++ rowB rest) := by simpa [rowB, List.flatMap_cons] using hp
    have hdr : P.drop p.length = putB (zig n) ++ rowB rest := by rw [hp']; simp
    have hle : p.length ≤ P.length := by rw [hp']; simp
    have hr := rdN_put most (zig n) (rowB rest) hz
    rw [← hdr] at hr
    rw [CoilRows_3_eq, if_pos (by simp; omega)]
    change (pO (run w0 17 [.ptr 0 0, N .u64 most] [rdr P p.length 0]) _) = _
    by_cases hm : most < zig n
    · rw [if_pos hm] at hr
      rw [Num_err (by omega) hle hr (by omega), pO_some]
      simp only [rdr, asCells, List.getElem?_cons_zero, List.getElem?_cons_succ, Option.bind_some, V.f?, V.int?, F.int?, if_true, List.length_cons, List.length_nil]
      rw [elem_in (by omega) (by omega), Int.toNat_natCast, atI_k hlt, hn', rZig_spec n hb.1 hb.2, pI_some, if_pos (by simp; omega), if_pos (by simp), Fault_p _ _ _ (Fault_p0_c3 ..), pI_some]
      rfl
    · rw [if_neg hm] at hr
      rw [Num_ok (by omega) hle hr, pO_some]
      simp only [rdr, asCells, List.getElem?_cons_zero, List.getElem?_cons_succ, Option.bind_some, V.f?, V.int?, F.int?, if_true, List.length_cons, List.length_nil]
      rw [elem_in (by omega) (by omega), Int.toNat_natCast, atI_k hlt, hn', rZig_spec n hb.1 hb.2, pI_some, if_neg (by simp; omega), Zag_spec _ hz, zag_zig, pI_some]
      rw [elem_in (by omega) (by omega), Int.toNat_natCast, atI_k hlt, hn', if_neg (by simp), wrap_i64 (by omega) (by omega)]
      have := rows3 l most hl hn P hP rest (i + 1) (p ++ putB (zig n)) hd' (by omega) (by rw [hp', List.append_assoc])
      rw [List.length_append] at this
      rw [show ((i : Int) + 1) = ((i + 1 : Nat) : Int) by omega]
      exact this
theorem CoilRows_law (l : List Int) (most : Nat) (hl : i64L l) (hm : most < 18446744073709551616) : run w0 7 [.f (.lst l.length (kF .i64 l)), N .u64 most] [] = some (.ret (B true), []) := by
  rw [CoilRows_run, CoilRows_eq, awake_spec, pB_some, if_pos (by simp)]
  by_cases hn : l.length ≤ 30
  · rw [if_neg (by simp; omega)]
    have h1 := rows1 l most hl hn l 0 [] rfl (by omega) (by simp)
    have hb := rowB_len hl
    simp only [List.length_nil, List.nil_append, bF_nil, Int.ofNat_zero, Int.natCast_zero] at h1
    have h1' : CoilRows_1 l.length (kF .i64 l) most 0 0 [] = _ := h1
    rw [h1', CoilRows_2_eq, NewReader_ok _ (by omega) (NewReader_v_ ..), pO_some]
    simp only [rdr, asPtr, asCells, List.getElem?_cons_zero, List.getElem?_cons_succ, Option.bind_some, V.f?, V.int?, F.int?, if_true, List.length_cons, List.length_nil]
    have h3 := rows3 l most hl hn (rowB l) (by omega) l 0 [] rfl (by omega) (by simp)
    have h3' : CoilRows_3 l.length (kF .i64 l) most 0 (.lst (rowB l).length (bF (rowB l))) 0 0 = _ := h3
    have h3'' : CoilRows_3 l.length (kF .i64 l) most 0 (.lst (rowB l).length (bF (rowB l))) ((0 : Nat) : Int) 0 = _ := h3
    rw [h3'']; exact withH_true _ _ _
  · rw [if_pos (by simp; omega), pB_some]; exact withH_true _ _ _
/-! ### texts -/
abbrev textsB (l : List ByteArray) : List UInt8 := l.flatMap textB
theorem textB_len {s : ByteArray} (h : s.size ≤ 200) : (textB s).length ≤ 210 := by
  have := putB_len (n := s.size) (by omega)
  have hd : s.data.toList.length = s.size := (ba_size s).symm
  simp only [textB, List.length_append]; omega
theorem ba_back (s : ByteArray) : (⟨s.data.toList.toArray⟩ : ByteArray) = s := rfl
theorem ba_nil : ByteArray.toList ⟨#[]⟩ = [] := ba_mk []
theorem next_of {α : Type} {l rest : List α} {x : α} {i : Nat} (h : l.drop i = x :: rest) : ∃ h : i < l.length, l[i] = x ∧ l.drop (i + 1) = rest := by
  have hlt : i < l.length := by
    rcases Nat.lt_or_ge i l.length with h' | h'
    · exact h'
    · have := congrArg List.length h; simp at this; omega
  refine ⟨hlt, ?_, by rw [← List.drop_drop, h]; rfl⟩
  have : (l.drop i)[0]? = some x := by rw [h]; rfl
  simp at this
  rw [List.getElem?_eq_getElem hlt] at this
  exact Option.some.inj this
theorem done_of {α : Type} {l : List α} {i : Nat} (h : l.drop i = []) : l.length ≤ i := by
  rcases Nat.lt_or_ge i l.length with h' | h'
  · have := congrArg List.length h; simp at this; omega
  · exact h'
theorem texts1 (l : List ByteArray) (most : Int) (hn : l.length ≤ 10) : ∀ (rest : List ByteArray) (i : Nat) (p : List UInt8), l.drop i = rest → i ≤ l.length → p.length ≤ 210 * i →
    CoilTexts_1 l.length (sF l) most p.length p.length i (bF p) (bF p) = some (.ret (B true), []) ∨ ((∀ s ∈ rest, s.size ≤ 200) ∧ CoilTexts_1 l.length (sF l) most p.length p.length i (bF p) (bF p) = CoilTexts_2 l.length (sF l) most (p ++ textsB rest).length (bF (p ++ textsB rest)) (p ++ textsB rest).length (bF (p ++ textsB rest)))
  | [], i, p, hd, hi, hp => by
    have := done_of hd
    refine .inr ⟨by simp, ?_⟩
    rw [CoilTexts_1_eq, if_neg (by simp; omega), if_pos (by simp), if_pos (by simp), List.drop_zero, List.take_of_length_le (by simp)]
    simp
  | s :: rest, i, p, hd, hi, hp => by
    obtain ⟨hlt, hs, hd'⟩ := next_of hd
    have hel : ∀ K : ByteArray → R, (elem (.lst l.length (sF l)) i 1 fun c => atS c 0 fun s => K s) = K s := by
      intro K; rw [elem_in (by omega) (by omega), Int.toNat_natCast, atS_k hlt, hs]
    by_cases h2 : 200 < s.size
    · refine .inl ?_
      rw [CoilTexts_1_eq, if_pos (by simp; omega), hel, if_pos (by simp; omega)]
    · have hd2 : s.data.toList.length = s.size := (ba_size s).symm
      have ht := textB_len (s := s) (by omega)
      have hpl := putB_len (n := s.size) (by omega)
      have htl : (textB s).length = (putB s.size).length + s.size := by simp [textB, hd2]
      have e : CoilTexts_1 l.length (sF l) most p.length p.length i (bF p) (bF p) = CoilTexts_1 l.length (sF l) most (p ++ textB s).length (p ++ textB s).length (i + 1 : Nat) (bF (p ++ textB s)) (bF (p ++ textB s)) := by
        rw [CoilTexts_1_eq, if_pos (by simp; omega), hel, if_neg (by simp; omega), hel, Text_r0v_zz, if_pos (by simp), List.drop_zero, Nat.mul_one, List.take_of_length_le (by simp)]
        have hT := Text_core (bF p) s (by omega) (by simp; omega)
        rw [bF_length] at hT
        rw [hT, graft_ref, pO_some]
        simp only [List.length_nil, List.length_cons, asRef, asFz, List.nil_append, List.cons_append, List.getElem?_cons_zero, List.getElem?_cons_succ, and_self, true_and, if_true, Option.bind_some, Nat.zero_add, Nat.mul_one, List.drop_zero]
        rw [hel, wrap_u64_in (by omega) (by omega), rPut_v_dzz, rPut_spec _ (by omega), graft_ref, pO_some]
        simp only [List.length_nil, List.length_cons, asRef, asFz, List.nil_append, List.cons_append, List.getElem?_cons_zero, List.getElem?_cons_succ, and_self, true_and, if_true, Option.bind_some, Nat.zero_add, Nat.mul_one, List.drop_zero]
        rw [hel]
        rw [byteF_eq, if_pos (by simp), if_pos (by simp), if_pos (by omega), if_pos (by simp), if_pos (by rw [bF_length]; omega), if_pos (by omega), if_pos (by simp), if_pos (by simp), if_pos (by simp <;> omega)]
        rw [wrap_i64 (by omega) (by omega), show ((i : Int) + 1) = ((i + 1 : Nat) : Int) by omega]
        rw [List.take_of_length_le (by simp), List.take_of_length_le (by simp), List.take_of_length_le (by simp <;> omega)]
        rw [List.length_append, htl]
        simp only [textB, bF_append, List.append_assoc, Nat.add_assoc]
        rw [List.take_of_length_le (l := bF (putB s.size)) (by simp)]
      rw [e]
      rcases texts1 l most hn rest (i + 1) (p ++ textB s) hd' (by omega) (by simp; omega) with h | ⟨h, h'⟩
      · exact .inl h
      · refine .inr ⟨?_, ?_⟩
        · intro x hx
          rcases List.mem_cons.1 hx with rfl | hx
          · omega
          · exact h x hx
        · rw [h']; simp [textsB, List.flatMap_cons, List.append_assoc]
theorem texts3 (l : List ByteArray) (most : Nat) (hn : l.length ≤ 10) (hm : most < 256) (P : List UInt8) (hP : P.length ≤ 3000) : ∀ (rest : List ByteArray) (i : Nat) (p : List UInt8), l.drop i = rest → i ≤ l.length → P = p ++ textsB rest → (∀ s ∈ rest, s.size ≤ 200) →
    CoilTexts_3 l.length (sF l) most P.length (bF P) P.length (bF P) i (.lst P.length (bF P)) p.length 0 = some (.ret (B true), [])
  | [], i, p, hd, hi, hp, hr => by
    have := done_of hd
    have hpp : P = p := by simpa [textsB] using hp
    subst hpp
    rw [CoilTexts_3_eq, if_neg (by simp; omega), End_p0_c3]
    rw [show frzF (.lst P.length (bF P)) = .lst P.length (bF P) from rfl, End_ok (by omega) (Nat.le_refl _), if_neg (by omega), withH_scal _ _ _ _ rfl, pI_some, if_pos (by simp), if_pos (by simp), strOfF_bF]
    simp
  | s :: rest, i, p, hd, hi, hp, hr => by
    obtain ⟨hlt, hs, hd'⟩ := next_of hd
    have hel : ∀ K : ByteArray → R, (elem (.lst l.length (sF l)) i 1 fun c => atS c 0 fun s => K s) = K s := by
      intro K; rw [elem_in (by omega) (by omega), Int.toNat_natCast, atS_k hlt, hs]
    have h2 : s.size ≤ 200 := hr s (by simp)
    have hd2 : s.data.toList.length = s.size := (ba_size s).symm
    have hp' : P = p ++ (putB s.size ++ (s.data.toList ++ textsB rest)) := by simpa [textsB, textB, List.flatMap_cons] using hp
    have hdr : P.drop p.length = putB s.size ++ (s.data.toList ++ textsB rest) := by rw [hp']; simp
    have hlen : P.length = p.length + ((putB s.size).length + (s.size + (textsB rest).length)) := by rw [hp']; simp [hd2]
    have hg := rdN_put most s.size (s.data.toList ++ textsB rest) (by omega)
    rw [← hdr] at hg
    rw [CoilTexts_3_eq, if_pos (by simp; omega), wrap_i64 (by omega) (by omega)]
    change (pO (run w0 24 [.ptr 0 0, I most] [rdr P p.length 0]) _) = _
    by_cases hlong : most < s.size
    · rw [if_pos hlong] at hg
      rw [Bytes_err (by omega) (by omega) (by omega) hg (by omega), pO_some]
      simp only [rdr, asCells, List.getElem?_cons_zero, List.getElem?_cons_succ, Option.bind_some, V.f?, V.int?, V.str?, F.str?, F.int?, if_true, List.length_cons, List.length_nil]
      rw [hel, if_pos (by simp; omega), if_pos (by simp), Fault_p _ _ _ (Fault_p0_c3 ..), pI_some, if_pos (by simp), if_pos (by simp), strOfF_bF]
      simp
    · rw [if_neg hlong] at hg
      rw [Bytes_ok (by omega) (by omega) (by omega) hg (by omega) (by omega), pO_some]
      have hts : (P.drop (p.length + (putB s.size).length)).take s.size = s.data.toList := by
        rw [← List.drop_drop, hdr, List.drop_left, List.take_append_of_le_length (by omega), List.take_of_length_le (by omega)]
      rw [hts]
      simp only [rdr, asCells, List.getElem?_cons_zero, List.getElem?_cons_succ, Option.bind_some, V.f?, V.int?, V.str?, F.str?, F.int?, if_true, List.length_cons, List.length_nil]
      rw [hel, if_neg (by simp; omega), hel, if_neg (by simp [ba_back]), wrap_i64 (by omega) (by omega)]
      have := texts3 l most hn hm P hP rest (i + 1) (p ++ textB s) hd' (by omega) (by rw [hp']; simp [textB]) (fun x hx => hr x (List.mem_cons_of_mem _ hx))
      rw [List.length_append] at this
      rw [show ((i : Int) + 1) = ((i + 1 : Nat) : Int) by omega, show p.length + (putB s.size).length + s.size = p.length + (textB s).length by simp [textB, hd2]; omega]
      exact this
theorem textsB_len {l : List ByteArray} (h : ∀ s ∈ l, s.size ≤ 200) : (textsB l).length ≤ 210 * l.length := by
  induction l with
  | nil => simp
  | cons s l ih =>
    have h1 := textB_len (h s (by simp))
    have := ih fun m hm => h m (List.mem_cons_of_mem _ hm)
    simp only [textsB, List.flatMap_cons, List.length_append, List.length_cons] at this ⊢
    omega
theorem CoilTexts_law (l : List ByteArray) (most : Nat) (hm : most < 256) : run w0 9 [.f (.lst l.length (sF l)), N .u8 most] [] = some (.ret (B true), []) := by
  rw [CoilTexts_run, CoilTexts_eq, awake_spec, pB_some, if_pos (by simp)]
  by_cases hn : l.length ≤ 10
  · rw [if_neg (by simp; omega)]
    have h1 := texts1 l most hn l 0 [] rfl (by omega) (by simp)
    have h1' : CoilTexts_1 l.length (sF l) most 0 0 0 [] [] = some (.ret (B true), []) ∨ ((∀ s ∈ l, s.size ≤ 200) ∧ CoilTexts_1 l.length (sF l) most 0 0 0 [] [] = CoilTexts_2 l.length (sF l) most (textsB l).length (bF (textsB l)) (textsB l).length (bF (textsB l))) := h1
    rcases h1' with h | ⟨h, h'⟩
    · rw [h]; exact withH_true _ _ _
    · have hb := textsB_len h
      rw [h', CoilTexts_2_eq, NewReader_ok _ (by omega) (NewReader_v_ ..), pO_some]
      simp only [rdr, asPtr, asCells, List.getElem?_cons_zero, List.getElem?_cons_succ, Option.bind_some, V.f?, V.int?, F.int?, if_true, List.length_cons, List.length_nil]
      have h3 := texts3 l most hn hm (textsB l) (by omega) l 0 [] rfl (by omega) (by simp) h
      have h3' : CoilTexts_3 l.length (sF l) most (textsB l).length (bF (textsB l)) (textsB l).length (bF (textsB l)) 0 (.lst (textsB l).length (bF (textsB l))) ((0 : Nat) : Int) 0 = _ := h3
      rw [h3']; exact withH_true _ _ _
  · rw [if_pos (by simp; omega), pB_some]; exact withH_true _ _ _
/-! ### cuts -/
abbrev rawB (l : List Nat) : List UInt8 := l.flatMap putB
def ints (l : List Nat) : List Int := l.map fun (n : Nat) => (n : Int)
@[simp] theorem ints_length (l : List Nat) : (ints l).length = l.length := by simp [ints]
def u64L (l : List Nat) : Prop := ∀ n ∈ l, n < 18446744073709551616
theorem rawB_len {l : List Nat} (h : u64L l) : (rawB l).length ≤ 10 * l.length := by
  induction l with
  | nil => simp
  | cons n l ih =>
    have := putB_len (h n (by simp))
    have := ih fun m hm => h m (List.mem_cons_of_mem _ hm)
    simp only [rawB, List.flatMap_cons, List.length_append, List.length_cons] at this ⊢
    omega
theorem ints_get {l : List Nat} {i n : Nat} (hlt : i < l.length) (hs : l[i] = n) (K : Int → R) : (elem (.lst l.length (kF .u64 (ints l))) i 1 fun c => atI .u64 c 0 fun s => K s) = K n := by
  rw [elem_in (by omega) (by omega), Int.toNat_natCast, atI_k (by simpa using hlt)]
  simp [ints, hs]
theorem cuts1 (l : List Nat) (n9 n10 : Int) (hl : u64L l) (hn : l.length ≤ 20) : ∀ (rest : List Nat) (i : Nat) (p : List UInt8), l.drop i = rest → i ≤ l.length → p.length ≤ 10 * i →
    CoilCuts_1 l.length (kF .u64 (ints l)) n9 n10 p.length i (bF p) = CoilCuts_2 l.length (kF .u64 (ints l)) n9 n10 (p ++ rawB rest).length (bF (p ++ rawB rest))
  | [], i, p, hd, hi, hp => by
    have := done_of hd
    rw [CoilCuts_1_eq, if_neg (by simp; omega), if_pos (by simp), List.drop_zero, List.take_of_length_le (by simp)]
    simp
  | n :: rest, i, p, hd, hi, hp => by
    obtain ⟨hlt, hs, hd'⟩ := next_of hd
    have hb : n < 18446744073709551616 := hl n (by rw [← hs]; exact List.getElem_mem hlt)
    have hpl := putB_len hb
    rw [CoilCuts_1_eq, if_pos (by simp; omega), ints_get hlt hs, rPut_v_z, rPut_spec n hb, graft_ref, pO_some]
    simp only [List.length_nil, List.length_cons, asRef, asFz, List.nil_append, List.cons_append, List.getElem?_cons_zero, List.getElem?_cons_succ, and_self, true_and, if_true, Option.bind_some, Nat.zero_add, Nat.mul_one, List.drop_zero]
    rw [if_pos (by simp), if_pos (by simp), if_pos (by omega), if_pos (by simp), if_pos (by simp), List.take_of_length_le (by simp), List.take_of_length_le (by simp), List.take_of_length_le (by simp), wrap_i64 (by omega) (by omega), ← bF_append]
    have e3 := cuts1 l n9 n10 hl hn rest (i + 1) (p ++ putB n) hd' (by omega) (by simp; omega)
    rw [List.length_append] at e3
    rw [show ((i : Int) + 1) = ((i + 1 : Nat) : Int) by omega, e3]
    simp [rawB, List.flatMap_cons]
theorem Fail_was {x : F} {a e f : Int} (he : e ≠ 0) : Fail_0 x a e f = some (.ret (.tup []), [.cells [.f x, I a, I e]]) := by
  rw [Fail_eq, if_neg (by simpa using he)]
theorem cuts3 (l : List Nat) (e : Int) (he1 : -128 ≤ e) (he2 : e < 128) (hl : u64L l) (hn : l.length ≤ 20) (P : List UInt8) (hP : P.length ≤ 200) (k : Nat) (hk : k ≤ P.length) (Q : List UInt8) (hQ : Q = P.take k) : ∀ (rest : List Nat) (i : Nat) (p : List UInt8), l.drop i = rest → i ≤ l.length → P = p ++ rawB rest → p.length ≤ k →
    CoilCuts_3 l.length (kF .u64 (ints l)) e k p.length i (.lst Q.length (bF Q)) p.length 0 = some (.ret (B true), [])
  | [], i, p, hd, hi, hp, hpk => by
    have := done_of hd
    have hpp : P = p := by simpa [rawB] using hp
    subst hpp
    rw [CoilCuts_3_eq, if_neg (by simp; omega), wrap_i64 (by omega) (by omega), Fail_ok, pO_some]
    simp only [asCells, List.getElem?_cons_zero, List.getElem?_cons_succ, Option.bind_some, V.f?, V.int?, F.int?, if_true, List.length_cons, List.length_nil]
    rw [Fail_ov_c3, FailN_eq]
    simp only [graft, ren, rens, List.map_nil, List.append_nil, pO_some, List.length_cons, List.length_nil, if_true]
    rw [Fault_p _ _ _ (Fault_p0_c3 ..), pI_some, if_pos (by simp), FaultN, pI_some, if_pos (by simp), EndN, pI_some, if_pos (by simp), Num_ov_c3, NumN]
    simp only [graft, ren, rens, List.map_nil, List.append_nil, pO_some, List.length_cons, List.length_nil, if_true, V.int?, V.f?, F.int?, Option.bind_some]
    rw [if_pos (by simp), Int_ov_c3, IntN]
    simp only [graft, ren, rens, List.map_nil, List.append_nil, pO_some, List.length_cons, List.length_nil, if_true, V.int?, V.f?, F.int?, Option.bind_some]
    rw [if_pos (by simp), Bytes_ov_c3, BytesN]
    simp only [graft, ren, rens, List.map_nil, List.append_nil, pO_some, List.length_cons, List.length_nil, if_true, V.str?, V.f?, F.str?, Option.bind_some]
    rw [if_pos (by simp), LeftN, pI_some]
    simp
  | n :: rest, i, p, hd, hi, hp, hpk => by
    obtain ⟨hlt, hs, hd'⟩ := next_of hd
    have hb : n < 18446744073709551616 := hl n (by rw [← hs]; exact List.getElem_mem hlt)
    have hpl := putB_len hb
    have hp' : P = p ++ (putB n ++ rawB rest) := by simpa [rawB, List.flatMap_cons] using hp
    have hlenP : P.length = p.length + ((putB n).length + (rawB rest).length) := by rw [hp']; simp
    have hlenQ : Q.length = k := by rw [hQ]; simp; omega
    have hdr : Q.drop p.length = (putB n ++ rawB rest).take (k - p.length) := by
      rw [hQ, List.drop_take, hp', List.drop_left]
    rw [CoilCuts_3_eq, if_pos (by simp; omega)]
    change (pO (run w0 17 [.ptr 0 0, N .u64 (18446744073709551615 : Nat)] [rdr Q p.length 0]) _) = _
    by_cases hc : p.length + (putB n).length ≤ k
    · have hg : rdN 18446744073709551615 (Q.drop p.length) 0 0 = (n, (putB n).length, 0) := by
        rw [hdr, List.take_append, List.take_of_length_le (by omega), rdN_put _ _ _ hb, if_neg (by omega)]
      rw [Num_ok (by omega) (by omega) hg, pO_some]
      simp only [rdr, asCells, List.getElem?_cons_zero, List.getElem?_cons_succ, Option.bind_some, V.f?, V.int?, F.int?, if_true, List.length_cons, List.length_nil]
      rw [ints_get hlt hs, rPut_v_c3, rPut_spec n hb, graft_ref, pO_some]
      simp only [List.length_nil, List.length_cons, asRef, asFz, List.nil_append, List.cons_append, List.getElem?_cons_zero, List.getElem?_cons_succ, and_self, true_and, if_true, Option.bind_some, Nat.zero_add]
      rw [wrap_i64 (by omega) (by omega), if_neg (by simp; omega), ints_get hlt hs, if_neg (by simp), wrap_i64 (by omega) (by omega)]
      have := cuts3 l e he1 he2 hl hn P hP k hk Q hQ rest (i + 1) (p ++ putB n) hd' (by omega) (by rw [hp', List.append_assoc]) (by simp; omega)
      rw [List.length_append] at this
      rw [show ((i : Int) + 1) = ((i + 1 : Nat) : Int) by omega, show (p.length : Int) + ((putB n).length : Int) = ((p.length + (putB n).length : Nat) : Int) by omega]
      exact this
    · have hg : rdN 18446744073709551615 (Q.drop p.length) 0 0 = (0, 0, 3) := by
        rw [hdr, List.take_append_of_le_length (by omega)]
        exact rdN_short _ _ _ hb (by omega)
      rw [Num_err (by omega) (by omega) hg (by omega), pO_some]
      simp only [rdr, asCells, List.getElem?_cons_zero, List.getElem?_cons_succ, Option.bind_some, V.f?, V.int?, F.int?, if_true, List.length_cons, List.length_nil]
      rw [ints_get hlt hs, rPut_v_c3, rPut_spec n hb, graft_ref, pO_some]
      simp only [List.length_nil, List.length_cons, asRef, asFz, List.nil_append, List.cons_append, List.getElem?_cons_zero, List.getElem?_cons_succ, and_self, true_and, if_true, Option.bind_some, Nat.zero_add]
      rw [wrap_i64 (by omega) (by omega), if_pos (by simp; omega), Fail_p0v_c3z, Fail_was (by omega)]
      simp [graft, ren, rens, reId, renO, asCells, V.f?, V.int?, F.int?]
      rw [Fault_p0_c3z, Fault_eq, withH_scal _ _ _ _ rfl, pI_some, if_pos (by simp), End_p0_c3z, End_was (by omega), withH_scal _ _ _ _ rfl, pI_some]
      simp
theorem CoilCuts_law (l : List Nat) (cut : Nat) (e : Int) (hl : u64L l) (hc : cut < 65536) (he1 : -128 ≤ e) (he2 : e < 128) : run w0 8 [.f (.lst l.length (kF .u64 (ints l))), N .u16 cut, N .i8 e] [] = some (.ret (B true), []) := by
  rw [CoilCuts_run, CoilCuts_eq, awake_spec, pB_some, if_pos (by simp)]
  by_cases hn : l.length ≤ 20
  · rw [if_neg (by simp; omega)]
    have h1 := cuts1 l cut e hl hn l 0 [] rfl (by omega) (by simp)
    have hb := rawB_len hl
    have h1' : CoilCuts_1 l.length (kF .u64 (ints l)) cut e 0 0 [] = CoilCuts_2 l.length (kF .u64 (ints l)) cut e (rawB l).length (bF (rawB l)) := h1
    have hm : Int.tmod (cut : Int) (((rawB l).length : Int) + 1) = ((cut % ((rawB l).length + 1) : Nat) : Int) := rfl
    have hlt : cut % ((rawB l).length + 1) < (rawB l).length + 1 := Nat.mod_lt _ (by omega)
    generalize hk : cut % ((rawB l).length + 1) = k at hm hlt
    have hk0 : (0 : Int) ≤ (k : Int) ∧ (k : Int) ≤ ((rawB l).length : Int) := ⟨Int.natCast_nonneg _, Int.ofNat_le.2 (Nat.lt_succ_iff.1 hlt)⟩
    rw [h1', CoilCuts_2_eq, wrap_i64 (n := ((rawB l).length : Int) + 1) (by omega) (by omega), wrap_i64 (n := (cut : Int)) (by omega) (by omega), if_neg (by omega), hm, if_pos hk0]
    simp only [Option.bind_some, Int.toNat_natCast, Nat.sub_zero, Nat.mul_one, List.drop_zero]
    have hlen : ((rawB l).take k).length = k := by rw [List.length_take]; exact Nat.min_eq_left (Nat.lt_succ_iff.1 hlt)
    have hN := NewReader_ok ((rawB l).take k) (by omega) (NewReader_v_ ..)
    rw [hlen] at hN
    rw [bF_take, hN, pO_some]
    simp only [rdr, asPtr, asCells, List.getElem?_cons_zero, List.getElem?_cons_succ, Option.bind_some, V.f?, V.int?, F.int?, if_true, List.length_cons, List.length_nil]
    have h3 := cuts3 l e he1 he2 hl hn (rawB l) (by omega) k (Nat.lt_succ_iff.1 hlt) _ rfl l 0 [] rfl (by omega) (by simp) (by simp)
    have h3' : CoilCuts_3 l.length (kF .u64 (ints l)) e k 0 0 (.lst ((rawB l).take k).length (bF ((rawB l).take k))) ((0 : Nat) : Int) 0 = _ := h3
    rw [h3']; exact withH_true _ _ _
  · rw [if_pos (by simp; omega), pB_some]; exact withH_true _ _ _
/-! ### the laws, of all arguments of their types -/
theorem CoilOrders_all (l : List (List F)) (h : Args Try.prog Try.f3.params.toList l) : ∃ h', run w0 3 (argVs Try.prog Try.f3.params.toList l) [] = some (.ret (B true), h') := by
  obtain ⟨x1, l1, rfl, h1, h⟩ := h.cons_inv
  obtain ⟨x2, l2, rfl, h2, h⟩ := h.cons_inv
  obtain ⟨x3, l3, rfl, h3, h⟩ := h.cons_inv
  obtain rfl := h.nil_inv
  obtain ⟨n, rfl, hn⟩ := h1.of_int (k := .u64) (by kernel_rfl)
  obtain ⟨u, rfl, hw⟩ := h2.of_int (k := .u64) (by kernel_rfl)
  obtain ⟨b, rfl⟩ := h3.of_bool (by kernel_rfl)
  obtain ⟨n, rfl, hm⟩ := wf_u64 hn
  obtain ⟨u, rfl, hu⟩ := wf_u64 hw
  exact ⟨_, CoilOrders_law n u hm hu b⟩
theorem CoilZigs_all (l : List (List F)) (h : Args Try.prog Try.f4.params.toList l) : ∃ h', run w0 4 (argVs Try.prog Try.f4.params.toList l) [] = some (.ret (B true), h') := by
  obtain ⟨x1, l1, rfl, h1, h⟩ := h.cons_inv
  obtain ⟨x2, l2, rfl, h2, h⟩ := h.cons_inv
  obtain rfl := h.nil_inv
  obtain ⟨n, rfl, hn⟩ := h1.of_int (k := .i64) (by kernel_rfl)
  obtain ⟨u, rfl, hw⟩ := h2.of_int (k := .u64) (by kernel_rfl)
  obtain ⟨a, b⟩ := wf_i64 hn
  obtain ⟨u, rfl, hu⟩ := wf_u64 hw
  exact ⟨_, CoilZigs_law n a b u hu⟩
theorem CoilSizes_all (l : List (List F)) (h : Args Try.prog Try.f5.params.toList l) : ∃ h', run w0 5 (argVs Try.prog Try.f5.params.toList l) [] = some (.ret (B true), h') := by
  obtain ⟨x1, l1, rfl, h1, h⟩ := h.cons_inv
  obtain rfl := h.nil_inv
  obtain ⟨n, rfl, hn⟩ := h1.of_int (k := .u8) (by kernel_rfl)
  obtain ⟨u, rfl, hu⟩ := wf_u8 hn
  exact ⟨_, CoilSizes_law u hu⟩
theorem CoilRows_all (l : List (List F)) (h : Args Try.prog Try.f7.params.toList l) : ∃ h', run w0 7 (argVs Try.prog Try.f7.params.toList l) [] = some (.ret (B true), h') := by
  obtain ⟨x1, l1, rfl, h1, h⟩ := h.cons_inv
  obtain ⟨x2, l2, rfl, h2, h⟩ := h.cons_inv
  obtain rfl := h.nil_inv
  obtain ⟨ns, hx, _, hw⟩ := h1.of_ints (k := .i64) rfl rfl
  obtain ⟨u, rfl, hu⟩ := h2.of_int (k := .u64) (by kernel_rfl)
  obtain ⟨u, rfl, hu'⟩ := wf_u64 hu
  have law := CoilRows_law ns u (fun n hn => wf_i64 (hw n hn)) hu'
  subst hx
  exact ⟨_, law⟩
theorem CoilTexts_all (l : List (List F)) (h : Args Try.prog Try.f9.params.toList l) : ∃ h', run w0 9 (argVs Try.prog Try.f9.params.toList l) [] = some (.ret (B true), h') := by
  obtain ⟨x1, l1, rfl, h1, h⟩ := h.cons_inv
  obtain ⟨x2, l2, rfl, h2, h⟩ := h.cons_inv
  obtain rfl := h.nil_inv
  obtain ⟨ns, hx, _, hw⟩ := h1.of_strs rfl rfl
  obtain ⟨u, rfl, hu⟩ := h2.of_int (k := .u8) (by kernel_rfl)
  obtain ⟨u, rfl, hu'⟩ := wf_u8 hu
  have law := CoilTexts_law ns u hu'
  subst hx
  exact ⟨_, law⟩
theorem CoilCuts_all (l : List (List F)) (h : Args Try.prog Try.f8.params.toList l) : ∃ h', run w0 8 (argVs Try.prog Try.f8.params.toList l) [] = some (.ret (B true), h') := by
  obtain ⟨x1, l1, rfl, h1, h⟩ := h.cons_inv
  obtain ⟨x2, l2, rfl, h2, h⟩ := h.cons_inv
  obtain ⟨x3, l3, rfl, h3, h⟩ := h.cons_inv
  obtain rfl := h.nil_inv
  obtain ⟨ns, hx, hml, hw⟩ := h1.of_ints (k := .u64) rfl rfl
  clear hml
  obtain ⟨u, rfl, hu⟩ := h2.of_int (k := .u16) (by kernel_rfl)
  obtain ⟨u, rfl, hu'⟩ := wf_u16 hu
  obtain ⟨e, rfl, he⟩ := h3.of_int (k := .i8) (by kernel_rfl)
  obtain ⟨ms, rfl, hms⟩ : ∃ ms : List Nat, ns = ints ms ∧ u64L ms := by
    clear hx
    induction ns with
    | nil => exact ⟨[], rfl, by simp [u64L]⟩
    | cons n ns ih =>
      obtain ⟨ms, rfl, h⟩ := ih (fun m hm => hw m (List.mem_cons_of_mem _ hm))
      obtain ⟨m, rfl, hm⟩ := wf_u64 (hw n (by simp))
      exact ⟨m :: ms, rfl, by simpa [u64L] using ⟨hm, h⟩⟩
  have law := CoilCuts_law ms u e hms hu' (wf_i8 he).1 (wf_i8 he).2
  rw [ints_length] at hx
  subst hx
  exact ⟨_, law⟩
end Go.Proofs.Ytjhojfedimbpiaa
