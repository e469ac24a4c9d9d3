/-
  Two systems: are they one?
-/
import Derived.Test.YtlddnplflakmiaaGenDef
import Derived.Test.YtlddnplflakmiaaEqGenQ
set_option autoImplicit false
set_option linter.unusedVariables false
set_option linter.unusedSimpArgs false
namespace Go.Proofs.Ytlddnplflakmiaa
open Go Go.Abs
def smallS (s : MSys) : Prop := s.cells.length < 9223372036854775808 ∧ s.cons.length < 9223372036854775808 ∧ (∀ c ∈ s.cells, c.args.length < 9223372036854775808) ∧ ∀ c ∈ s.cons, c.args.length < 9223372036854775808
/-! ### the same -/
theorem same_loop (l m : List Int) (hl : l.length < 9223372036854775808) (hm : l.length = m.length) : ∀ (rest rest' : List Int) (i : Nat), l.drop i = rest → m.drop i = rest' → i ≤ l.length →
    sSameInts_1 l.length (kF .i64 l) m.length (kF .i64 m) i = some (.ret (B (decide (rest = rest'))), [])
  | [], rest', i, hd, hd', hi => by
    have := done_of_drop hd
    have : rest' = [] := by rw [← hd']; exact List.drop_of_length_le (by omega)
    rw [sSameInts_1_eq, if_neg (by simp; omega), this]; rfl
  | n :: rest, [], i, hd, hd', hi => by
    have := lt_of_drop hd
    have := done_of_drop hd'
    omega
  | n :: rest, n' :: rest', i, hd, hd', hi => by
    have := lt_of_drop hd
    rw [sSameInts_1_eq, if_pos (by simp; omega), elem_kF hd, atI_zero, elem_kF hd', atI_zero]
    by_cases h1 : n = n'
    · rw [if_neg (by simp [h1]), wrap_i64 (by omega) (by omega)]
      have := same_loop l m hl hm rest rest' (i + 1) (drop_next hd) (drop_next hd') (by omega)
      rw [show ((i : Int) + 1) = ((i + 1 : Nat) : Int) by omega, this]
      simp [h1]
    · rw [if_pos (by simp [h1])]; simp [h1]
theorem sSameInts_spec (l m : List Int) (hl : l.length < 9223372036854775808) (h0 : H) : run w0 34 [.f (.lst l.length (kF .i64 l)), .f (.lst m.length (kF .i64 m))] h0 = some (.ret (B (decide (l = m))), h0) := by
  rw [sSameInts_run, sSameInts_eq]
  by_cases h : l.length = m.length
  · have hc : sSameInts_1 l.length (kF .i64 l) m.length (kF .i64 m) 0 = _ := same_loop l m hl h l m 0 rfl rfl (by omega)
    rw [if_neg (by simp [h]), hc, withH_true]
  · rw [if_pos (by simp; omega), withH_true, decide_eq_false (fun e => h (by rw [e]))]
theorem same_cons (s t : MSys) (hs : smallS s) (hm : s.cons.length = t.cons.length) : ∀ (rest rest' : List MCon) (i : Nat), s.cons.drop i = rest → t.cons.drop i = rest' → i ≤ s.cons.length →
    sSame_2 s.vars s.cells.length (cellsF s.cells) s.cons.length (consF s.cons) t.vars t.cells.length (cellsF t.cells) t.cons.length (consF t.cons) i = some (.ret (B (decide (rest = rest'))), [])
  | [], rest', i, hd, hd', hi => by
    have := done_of_drop hd
    have : rest' = [] := by rw [← hd']; exact List.drop_of_length_le (by omega)
    rw [sSame_2_eq, if_neg (by simp; omega), this]; rfl
  | n :: rest, [], i, hd, hd', hi => by
    have := lt_of_drop hd
    have := done_of_drop hd'
    omega
  | c :: rest, c' :: rest', i, hd, hd', hi => by
    have := lt_of_drop hd
    have hl := hs.2.1
    have ih := same_cons s t hs hm rest rest' (i + 1) (drop_next hd) (drop_next hd') (by omega)
    rw [sSame_2_eq, if_pos (by simp; omega), elem_next MCon.F_len hd, wrap_i64 (by omega) (by omega), show ((i : Int) + 1) = ((i + 1 : Nat) : Int) by omega, ih]
    simp only [MCon.F, List.cons_append, atI_zero, atI_succ, atL_zero, atL_succ]
    rw [elem_next MCon.F_len hd']
    simp only [MCon.F, List.cons_append, atI_zero, atI_succ, atL_zero, atL_succ]
    rw [sSameInts_spec c.args c'.args (hs.2.2.2 c (mem_of_drop hd)), pB_some]
    rcases c with ⟨k, a, b, ar⟩
    rcases c' with ⟨k', a', b', ar'⟩
    dsimp only
    by_cases h1 : k = k' <;> by_cases h2 : a = a' <;> by_cases h3 : b = b' <;> by_cases h4 : ar = ar' <;> simp [h1, h2, h3, h4]
theorem same_cells (s t : MSys) (hs : smallS s) (hm : s.cells.length = t.cells.length) (hm2 : s.cons.length = t.cons.length) : ∀ (rest rest' : List MCell) (i : Nat), s.cells.drop i = rest → t.cells.drop i = rest' → i ≤ s.cells.length →
    sSame_1 s.vars s.cells.length (cellsF s.cells) s.cons.length (consF s.cons) t.vars t.cells.length (cellsF t.cells) t.cons.length (consF t.cons) i = some (.ret (B (decide (rest = rest') && decide (s.cons = t.cons))), [])
  | [], rest', i, hd, hd', hi => by
    have := done_of_drop hd
    have : rest' = [] := by rw [← hd']; exact List.drop_of_length_le (by omega)
    have hc : sSame_2 s.vars s.cells.length (cellsF s.cells) s.cons.length (consF s.cons) t.vars t.cells.length (cellsF t.cells) t.cons.length (consF t.cons) 0 = _ := same_cons s t hs hm2 s.cons t.cons 0 rfl rfl (by omega)
    rw [sSame_1_eq, if_neg (by simp; omega), this, hc]; rfl
  | n :: rest, [], i, hd, hd', hi => by
    have := lt_of_drop hd
    have := done_of_drop hd'
    omega
  | c :: rest, c' :: rest', i, hd, hd', hi => by
    have := lt_of_drop hd
    have hl := hs.1
    have ih := same_cells s t hs hm hm2 rest rest' (i + 1) (drop_next hd) (drop_next hd') (by omega)
    rw [sSame_1_eq, if_pos (by simp; omega), elem_next MCell.F_len hd, wrap_i64 (by omega) (by omega), show ((i : Int) + 1) = ((i + 1 : Nat) : Int) by omega, ih]
    simp only [MCell.F, List.cons_append, atB_zero, atI_zero, atI_succ, atL_zero, atL_succ]
    rw [elem_next MCell.F_len hd']
    simp only [MCell.F, List.cons_append, atB_zero, atI_zero, atI_succ, atL_zero, atL_succ]
    rw [sSameInts_spec c.args c'.args (hs.2.2.1 c (mem_of_drop hd)), pB_some]
    rcases c with ⟨k, a, ar⟩
    rcases c' with ⟨k', a', ar'⟩
    dsimp only
    by_cases h1 : k = k' <;> by_cases h2 : a = a' <;> by_cases h4 : ar = ar' <;> simp [h1, h2, h4]
theorem sSame_spec (s t : MSys) (hs : smallS s) (h0 : H) : run w0 11 [.agg (sysV s), .agg (sysV t)] h0 = some (.ret (B (decide (s = t))), h0) := by
  rw [sSame_run, sSame_eq]
  rcases s with ⟨v, a, b⟩
  rcases t with ⟨v', a', b'⟩
  dsimp only at hs ⊢
  by_cases h1 : v = v'
  · rw [if_pos (by simp [h1])]
    by_cases h2 : a.length = a'.length
    · rw [if_pos (by simp [h2])]
      by_cases h3 : b.length = b'.length
      · have hc : sSame_1 v a.length (cellsF a) b.length (consF b) v' a'.length (cellsF a') b'.length (consF b') 0 = _ := same_cells ⟨v, a, b⟩ ⟨v', a', b'⟩ hs h2 h3 a a' 0 rfl rfl (by dsimp only; omega)
        rw [if_neg (by simp [h3]), hc, withH_true]
        simp [h1]
      · rw [if_pos (by simp; omega), withH_true, decide_eq_false (fun e => h3 (by cases e; rfl))]
    · rw [if_neg (by simp; omega), withH_true, decide_eq_false (fun e => h2 (by cases e; rfl))]
  · rw [if_neg (by simp [h1]), withH_true, decide_eq_false (fun e => h1 (by cases e; rfl))]
end Go.Proofs.Ytlddnplflakmiaa
