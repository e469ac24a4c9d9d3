/-
  The reader's own view of a system: right, same, made of a draft, laid down.
-/
import Derived.Test.YtlemkcclgneemaaDoorFileSpec5
set_option autoImplicit false
set_option linter.unusedVariables false
set_option linter.unusedSimpArgs false
namespace Go.Proofs.YtlemkcclgneemaaDoor
open Go Go.Abs

abbrev no : R := some (.ret (B false), [])
abbrev yes : R := some (.ret (B true), [])
theorem sR2 (vars : Int) (m : Nat) (cc : List F) (m2 : Nat) (cc2 : List F) (i : Int) (fn : Bool) (var : Int) (args : List Int) (hl : args.length < 9223372036854775808) : ∀ (rest : List Int) (j : Nat), args.drop j = rest → j ≤ args.length →
    sRight_2 vars m cc m2 cc2 i fn var args.length (kF .i64 args) j = if rest.all (fun n => inR n 0 vars) = true then sRight_1 vars m cc m2 cc2 (IntKind.wrap .i64 (i + 1)) else no
  | [], j, hd, hj => by
    have := done_of_drop hd
    rw [sRight_2_eq, if_neg (by simp; omega)]; rfl
  | n :: rest, j, hd, hj => by
    have := lt_of_drop hd
    rw [sRight_2_eq, if_pos (by simp; omega), elem_kF hd, atI_zero, sin_spec, pB_some]
    cases h1 : inR n 0 vars
    · rw [if_pos (by simp)]; simp [h1]
    · rw [if_neg (by simp), wrap_i64 (by omega) (by omega)]
      have := sR2 vars m cc m2 cc2 i fn var args hl rest (j + 1) (drop_next hd) (by omega)
      rw [show ((j : Int) + 1) = ((j + 1 : Nat) : Int) by omega, this]
      simp [h1]
theorem sR4 (vars : Int) (m : Nat) (cc : List F) (m2 : Nat) (cc2 : List F) (i : Int) (kind a b : Int) (args : List Int) (hl : args.length < 9223372036854775808) : ∀ (rest : List Int) (j : Nat), args.drop j = rest → j ≤ args.length →
    sRight_4 vars m cc m2 cc2 i kind a b args.length (kF .i64 args) j = if rest.all (fun n => inR n (-1) vars) = true then sRight_3 vars m cc m2 cc2 (IntKind.wrap .i64 (i + 1)) else no
  | [], j, hd, hj => by
    have := done_of_drop hd
    rw [sRight_4_eq, if_neg (by simp; omega)]; rfl
  | n :: rest, j, hd, hj => by
    have := lt_of_drop hd
    rw [sRight_4_eq, if_pos (by simp; omega), elem_kF hd, atI_zero, sin_spec, pB_some]
    cases h1 : inR n (-1) vars
    · rw [if_pos (by simp)]; simp [h1]
    · rw [if_neg (by simp), wrap_i64 (by omega) (by omega)]
      have := sR4 vars m cc m2 cc2 i kind a b args hl rest (j + 1) (drop_next hd) (by omega)
      rw [show ((j : Int) + 1) = ((j + 1 : Nat) : Int) by omega, this]
      simp [h1]
theorem con_if (vars : Int) (cells : Nat) (c : MCon) (E : R) : (if conR vars cells c = true then E else no) =
    if c.kind = 1 then (if inR c.a 0 vars = true then if inR c.b 0 cells = true then if c.args.length = 0 then E else no else no else no)
    else if c.kind = 2 ∨ c.kind = 3 ∨ c.kind = 4 then (if inR c.a 0 vars = true then if inR c.b 0 vars = true then if c.args.length = 0 then E else no else no else no)
    else if c.kind = 5 then (if inR c.a (-1) vars = true then if inR c.b 0 vars = true then if c.args.length ≤ 6 then if c.args.all (fun n => inR n (-1) vars) = true then E else no else no else no else no)
    else no := by
  unfold conR
  cases inR c.a 0 vars <;> cases inR c.b 0 vars <;> cases inR c.b 0 cells <;> cases inR c.a (-1) vars <;> cases c.args.all (fun n => inR n (-1) vars) <;> by_cases h : c.args.length = 0 <;> by_cases h2 : c.args.length ≤ 6 <;> simp [h, h2] <;> (repeat' split) <;> simp_all
theorem sR3 (s : MSys) (hs : smallS s) : ∀ (rest : List MCon) (i : Nat), s.cons.drop i = rest → i ≤ s.cons.length →
    sRight_3 s.vars s.cells.length (cellsF s.cells) s.cons.length (consF s.cons) i = some (.ret (B (rest.all (conR s.vars s.cells.length))), [])
  | [], i, hd, hi => by
    have := done_of_drop hd
    rw [sRight_3_eq, if_neg (by simp; omega)]; rfl
  | c :: rest, i, hd, hi => by
    have hlt := lt_of_drop hd
    have hl := hs.2.1
    have ih := sR3 s hs rest (i + 1) (drop_next hd) (by omega)
    have h4 := sR4 s.vars s.cells.length (cellsF s.cells) s.cons.length (consF s.cons) i c.kind c.a c.b c.args (hs.2.2.2 c (mem_of_drop hd)) c.args 0 rfl (by omega)
    rw [wrap_i64 (by omega) (by omega), show ((i : Int) + 1) = ((i + 1 : Nat) : Int) by omega, ih] at h4
    have h4' : sRight_4 s.vars s.cells.length (cellsF s.cells) s.cons.length (consF s.cons) i c.kind c.a c.b c.args.length (kF .i64 c.args) 0 = _ := h4
    have hr : some (Out.ret (B ((c :: rest).all (conR s.vars s.cells.length))), ([] : H)) = if conR s.vars s.cells.length c = true then some (Out.ret (B (rest.all (conR s.vars s.cells.length))), ([] : H)) else no := by
      rw [List.all_cons]; cases conR s.vars s.cells.length c <;> rfl
    rw [sRight_3_eq, if_pos (by simp; omega), elem_next MCon.F_len hd, hr, con_if]
    simp only [MCon.F, List.cons_append, atI_zero, atI_succ, atL_zero, atL_succ, sin_spec, pB_some, h4']
    generalize some (Out.ret (B (rest.all (conR s.vars s.cells.length))), ([] : H)) = E
    have hz : c.args.length = 0 → c.args.all (fun n => inR n (-1) s.vars) = true := fun h => by rw [List.eq_nil_of_length_eq_zero h]; rfl
    have c6 : decide (((c.args.length : Nat) : Int) > 6) = !decide (c.args.length ≤ 6) := by
      rw [← decide_not]; exact decide_eq_decide.2 (by omega)
    have c0 : decide (((c.args.length : Nat) : Int) > 0) = !decide (c.args.length = 0) := by
      rw [← decide_not]; exact decide_eq_decide.2 (by omega)
    simp only [c6, c0]
    by_cases k5 : c.kind = 5
    · rw [if_pos (by simp [k5]), if_neg (by simp [k5]), if_pos (by simp [k5]), if_pos (by simp [k5])]
      simp only [k5]
      cases inR c.a (-1) s.vars <;> cases inR c.b 0 s.vars <;> by_cases h2 : c.args.length ≤ 6 <;> simp [h2]
    rw [if_neg (by simpa using k5)]
    have n5 : (!(c.kind == 5)) = true := by simpa using k5
    simp only [n5, if_true]
    by_cases k1 : c.kind = 1
    · rw [if_pos (by simp [k1]), if_pos (by simp [k1]), if_pos (by simp [k1]), if_pos k1]
      by_cases h0 : c.args.length = 0
      · simp only [hz h0]
        cases inR c.a 0 s.vars <;> cases inR c.b 0 s.cells.length <;> simp [h0]
      · cases inR c.a 0 s.vars <;> cases inR c.b 0 s.cells.length <;> simp [h0]
    rw [if_neg (by simpa using k1), if_neg k1, if_neg (c := c.kind = 5) k5]
    by_cases k0 : c.kind < 1
    · rw [if_neg (by simpa using k0), if_neg (c := c.kind = 2 ∨ c.kind = 3 ∨ c.kind = 4) (by omega)]
    rw [if_pos (by simpa using k0)]
    by_cases k6 : c.kind > 5
    · rw [if_neg (by simpa using k6), if_neg (c := c.kind = 2 ∨ c.kind = 3 ∨ c.kind = 4) (by omega)]
    rw [if_pos (by simpa using k6), if_pos (c := c.kind = 2 ∨ c.kind = 3 ∨ c.kind = 4) (by omega)]
    by_cases h0 : c.args.length = 0
    · simp only [hz h0]
      cases inR c.a 0 s.vars <;> cases inR c.b 0 s.vars <;> simp [h0]
    · cases inR c.a 0 s.vars <;> cases inR c.b 0 s.vars <;> simp [h0]
theorem sR1 (s : MSys) (hs : smallS s) : ∀ (rest : List MCell) (i : Nat), s.cells.drop i = rest → i ≤ s.cells.length →
    sRight_1 s.vars s.cells.length (cellsF s.cells) s.cons.length (consF s.cons) i = some (.ret (B (rest.all (cellR s.vars) && s.cons.all (conR s.vars s.cells.length))), [])
  | [], i, hd, hi => by
    have := done_of_drop hd
    rw [sRight_1_eq, if_neg (by simp; omega)]
    have h : sRight_3 s.vars s.cells.length (cellsF s.cells) s.cons.length (consF s.cons) 0 = _ := sR3 s hs s.cons 0 rfl (by omega)
    rw [h]; simp
  | c :: rest, i, hd, hi => by
    have hlt := lt_of_drop hd
    have hl := hs.1
    have ih := sR1 s hs rest (i + 1) (drop_next hd) (by omega)
    have h2 := sR2 s.vars s.cells.length (cellsF s.cells) s.cons.length (consF s.cons) i c.fn c.var c.args (hs.2.2.1 c (mem_of_drop hd)) c.args 0 rfl (by omega)
    rw [wrap_i64 (by omega) (by omega), show ((i : Int) + 1) = ((i + 1 : Nat) : Int) by omega, ih] at h2
    have h2' : sRight_2 s.vars s.cells.length (cellsF s.cells) s.cons.length (consF s.cons) i c.fn c.var c.args.length (kF .i64 c.args) 0 = _ := h2
    have c6 : decide (((c.args.length : Nat) : Int) > 6) = !decide (c.args.length ≤ 6) := by
      rw [← decide_not]; exact decide_eq_decide.2 (by omega)
    have c0 : decide (((c.args.length : Nat) : Int) > 0) = !decide (c.args.length = 0) := by
      rw [← decide_not]; exact decide_eq_decide.2 (by omega)
    rw [sRight_1_eq, if_pos (by simp; omega), elem_next MCell.F_len hd]
    simp only [MCell.F, List.cons_append, atB_zero, atI_zero, atI_succ, atL_zero, atL_succ, sin_spec, pB_some, h2', c6, c0, List.all_cons]
    have hc : cellR s.vars c = (c.args.all (fun n => inR n 0 s.vars) && (inR c.var 0 s.vars && (decide (c.args.length ≤ 6) && (c.fn || decide (c.args.length = 0))))) := rfl
    rw [hc]
    cases c.args.all (fun n => inR n 0 s.vars) <;> cases inR c.var 0 s.vars <;> cases decide (c.args.length ≤ 6) <;> cases c.fn <;> cases decide (c.args.length = 0) <;> rfl
theorem sRight_core (s : MSys) (hs : smallS s) : sRight_0 s.vars s.cells.length (cellsF s.cells) s.cons.length (consF s.cons) = some (.ret (B (rightR s)), []) := by
  rw [sRight_eq]
  unfold rightR
  have h : sRight_1 s.vars s.cells.length (cellsF s.cells) s.cons.length (consF s.cons) 0 = _ := sR1 s hs s.cells 0 rfl (by omega)
  rw [h]
  by_cases h1 : 0 ≤ s.vars
  · rw [if_pos (by simpa using h1)]
    by_cases h2 : s.vars ≤ 16384
    · rw [if_pos (by simpa using h2)]
      by_cases h3 : s.cells.length ≤ 16384
      · rw [if_pos (by simp; omega)]
        by_cases h4 : s.cons.length ≤ 131072
        · rw [if_neg (by simp; omega)]; simp [h1, h2, h3, h4]
        · rw [if_pos (by simp; omega)]; simp [h4]
      · rw [if_neg (by simp; omega)]; simp [h3]
    · rw [if_neg (by simpa using h2)]; simp [h2]
  · rw [if_neg (by simpa using h1)]; simp [h1]
theorem sRight_spec (s : MSys) (hs : smallS s) (h0 : H) : run w0 15 [.agg (sysV s)] h0 = some (.ret (B (rightR s)), h0) := by
  rw [sRight_run, sRight_core s hs, withH_true]

/-! ### the same -/
theorem same_loop (l m : List Int) (hl : l.length < 9223372036854775808) (hm : l.length = m.length) : ∀ (rest rest' : List Int) (i : Nat), l.drop i = rest → m.drop i = rest' → i ≤ l.length →
    sSameInts_1 l.length (kF .i64 l) m.length (kF .i64 m) i = some (.ret (B (decide (rest = rest'))), [])
  | [], rest', i, hd, hd', hi => by
    have := done_of_drop hd
    have : rest' = [] := by rw [← hd']; exact List.drop_of_length_le (by omega)
    rw [sSameInts_1_eq, if_neg (by simp; omega), this]; rfl
  | n :: rest, [], i, hd, hd', hi => by
    have := lt_of_drop hd
    have := done_of_drop hd'
    omega
  | n :: rest, n' :: rest', i, hd, hd', hi => by
    have := lt_of_drop hd
    rw [sSameInts_1_eq, if_pos (by simp; omega), elem_kF hd, atI_zero, elem_kF hd', atI_zero]
    by_cases h1 : n = n'
    · rw [if_neg (by simp [h1]), wrap_i64 (by omega) (by omega)]
      have := same_loop l m hl hm rest rest' (i + 1) (drop_next hd) (drop_next hd') (by omega)
      rw [show ((i : Int) + 1) = ((i + 1 : Nat) : Int) by omega, this]
      simp [h1]
    · rw [if_pos (by simp [h1])]; simp [h1]
theorem sSameInts_spec (l m : List Int) (hl : l.length < 9223372036854775808) (h0 : H) : run w0 27 [.f (.lst l.length (kF .i64 l)), .f (.lst m.length (kF .i64 m))] h0 = some (.ret (B (decide (l = m))), h0) := by
  rw [sSameInts_run, sSameInts_eq]
  by_cases h : l.length = m.length
  · have hc : sSameInts_1 l.length (kF .i64 l) m.length (kF .i64 m) 0 = _ := same_loop l m hl h l m 0 rfl rfl (by omega)
    rw [if_neg (by simp [h]), hc, withH_true]
  · rw [if_pos (by simp; omega), withH_true, decide_eq_false (fun e => h (by rw [e]))]
theorem same_cons (s t : MSys) (hs : smallS s) (hm : s.cons.length = t.cons.length) : ∀ (rest rest' : List MCon) (i : Nat), s.cons.drop i = rest → t.cons.drop i = rest' → i ≤ s.cons.length →
    sSame_2 s.vars s.cells.length (cellsF s.cells) s.cons.length (consF s.cons) t.vars t.cells.length (cellsF t.cells) t.cons.length (consF t.cons) i = some (.ret (B (decide (rest = rest'))), [])
  | [], rest', i, hd, hd', hi => by
    have := done_of_drop hd
    have : rest' = [] := by rw [← hd']; exact List.drop_of_length_le (by omega)
    rw [sSame_2_eq, if_neg (by simp; omega), this]; rfl
  | n :: rest, [], i, hd, hd', hi => by
    have := lt_of_drop hd
    have := done_of_drop hd'
    omega
  | c :: rest, c' :: rest', i, hd, hd', hi => by
    have := lt_of_drop hd
    have hl := hs.2.1
    have ih := same_cons s t hs hm rest rest' (i + 1) (drop_next hd) (drop_next hd') (by omega)
    rw [sSame_2_eq, if_pos (by simp; omega), elem_next MCon.F_len hd, wrap_i64 (by omega) (by omega), show ((i : Int) + 1) = ((i + 1 : Nat) : Int) by omega, ih]
    simp only [MCon.F, List.cons_append, atI_zero, atI_succ, atL_zero, atL_succ]
    rw [elem_next MCon.F_len hd']
    simp only [MCon.F, List.cons_append, atI_zero, atI_succ, atL_zero, atL_succ]
    rw [sSameInts_spec c.args c'.args (hs.2.2.2 c (mem_of_drop hd)), pB_some]
    rcases c with ⟨k, a, b, ar⟩
    rcases c' with ⟨k', a', b', ar'⟩
    dsimp only
    by_cases h1 : k = k' <;> by_cases h2 : a = a' <;> by_cases h3 : b = b' <;> by_cases h4 : ar = ar' <;> simp [h1, h2, h3, h4]
theorem same_cells (s t : MSys) (hs : smallS s) (hm : s.cells.length = t.cells.length) (hm2 : s.cons.length = t.cons.length) : ∀ (rest rest' : List MCell) (i : Nat), s.cells.drop i = rest → t.cells.drop i = rest' → i ≤ s.cells.length →
    sSame_1 s.vars s.cells.length (cellsF s.cells) s.cons.length (consF s.cons) t.vars t.cells.length (cellsF t.cells) t.cons.length (consF t.cons) i = some (.ret (B (decide (rest = rest') && decide (s.cons = t.cons))), [])
  | [], rest', i, hd, hd', hi => by
    have := done_of_drop hd
    have : rest' = [] := by rw [← hd']; exact List.drop_of_length_le (by omega)
    have hc : sSame_2 s.vars s.cells.length (cellsF s.cells) s.cons.length (consF s.cons) t.vars t.cells.length (cellsF t.cells) t.cons.length (consF t.cons) 0 = _ := same_cons s t hs hm2 s.cons t.cons 0 rfl rfl (by omega)
    rw [sSame_1_eq, if_neg (by simp; omega), this, hc]; rfl
  | n :: rest, [], i, hd, hd', hi => by
    have := lt_of_drop hd
    have := done_of_drop hd'
    omega
  | c :: rest, c' :: rest', i, hd, hd', hi => by
    have := lt_of_drop hd
    have hl := hs.1
    have ih := same_cells s t hs hm hm2 rest rest' (i + 1) (drop_next hd) (drop_next hd') (by omega)
    rw [sSame_1_eq, if_pos (by simp; omega), elem_next MCell.F_len hd, wrap_i64 (by omega) (by omega), show ((i : Int) + 1) = ((i + 1 : Nat) : Int) by omega, ih]
    simp only [MCell.F, List.cons_append, atB_zero, atI_zero, atI_succ, atL_zero, atL_succ]
    rw [elem_next MCell.F_len hd']
    simp only [MCell.F, List.cons_append, atB_zero, atI_zero, atI_succ, atL_zero, atL_succ]
    rw [sSameInts_spec c.args c'.args (hs.2.2.1 c (mem_of_drop hd)), pB_some]
    rcases c with ⟨k, a, ar⟩
    rcases c' with ⟨k', a', ar'⟩
    dsimp only
    by_cases h1 : k = k' <;> by_cases h2 : a = a' <;> by_cases h4 : ar = ar' <;> simp [h1, h2, h4]
theorem sSame_spec (s t : MSys) (hs : smallS s) (h0 : H) : run w0 14 [.agg (sysV s), .agg (sysV t)] h0 = some (.ret (B (decide (s = t))), h0) := by
  rw [sSame_run, sSame_eq]
  rcases s with ⟨v, a, b⟩
  rcases t with ⟨v', a', b'⟩
  dsimp only at hs ⊢
  by_cases h1 : v = v'
  · rw [if_pos (by simp [h1])]
    by_cases h2 : a.length = a'.length
    · rw [if_pos (by simp [h2])]
      by_cases h3 : b.length = b'.length
      · have hc : sSame_1 v a.length (cellsF a) b.length (consF b) v' a'.length (cellsF a') b'.length (consF b') 0 = _ := same_cells ⟨v, a, b⟩ ⟨v', a', b'⟩ hs h2 h3 a a' 0 rfl rfl (by dsimp only; omega)
        rw [if_neg (by simp [h3]), hc, withH_true]
        simp [h1]
      · rw [if_pos (by simp; omega), withH_true, decide_eq_false (fun e => h3 (by cases e; rfl))]
    · rw [if_neg (by simp; omega), withH_true, decide_eq_false (fun e => h2 (by cases e; rfl))]
  · rw [if_neg (by simp [h1]), withH_true, decide_eq_false (fun e => h1 (by cases e; rfl))]
end Go.Proofs.YtlemkcclgneemaaDoor
