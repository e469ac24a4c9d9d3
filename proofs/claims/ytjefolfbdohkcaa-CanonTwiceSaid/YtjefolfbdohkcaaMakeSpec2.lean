/-
  What the document's own way to say a module answers.
-/
import Derived.Test.YtjefolfbdohkcaaMakeSpec
set_option autoImplicit false
set_option linter.unusedVariables false
set_option linter.unusedSimpArgs false
namespace Go.Proofs.Ytjefolfbdohkcaa
open Go Go.Abs
theorem ba_list_eq (a b : ByteArray) : (a.toList == b.toList) = decide (a = b) := by
  rw [ba_toList, ba_toList, Bool.eq_iff_iff, beq_iff_eq, decide_eq_true_iff]
  constructor
  · intro h; cases a; cases b; simp at h; simp [h]
  · intro h; rw [h]
theorem number_loop (l : List ByteArray) (hl : l.length ≤ big) (s : ByteArray) : ∀ (rest : List ByteArray) (i : Nat), l.drop i = rest → i ≤ l.length → mnumber_1 l.length (sF l) s i = some (.ret (I (numB s i rest)), [])
  | [], i, hd, hi => by
    have := done_of_drop hd
    rw [mnumber_1_eq, if_neg (by simp; omega)]; rfl
  | a :: rest, i, hd, hi => by
    have hlt := lt_of_drop hd
    unfold big at hl
    rw [mnumber_1_eq, if_pos (decide_eq_true (by omega)), elem_sF hd, atS_zero, ba_list_eq]
    unfold numB
    by_cases h : a = s
    · rw [if_pos (decide_eq_true h), if_pos h]
    · rw [if_neg (by simpa using h), if_neg h, show ((i : Nat) : Int) + 1 = ((i + 1 : Nat) : Int) by omega, wN (by omega)]
      exact number_loop l (by unfold big; omega) s rest (i + 1) (drop_next hd) (by omega)
theorem mnumber_core (l : List ByteArray) (hl : l.length ≤ big) (s : ByteArray) : mnumber_0 l.length (sF l) s = some (.ret (I (numB s 0 l)), []) := by
  rw [mnumber_eq]; exact number_loop l hl s l 0 rfl (by omega)
theorem mnumber_spec (l : List ByteArray) (hl : l.length ≤ big) (s : ByteArray) (h0 : H) : run w0 36 [.f (.lst l.length (sF l)), S s] h0 = some (.ret (I (numB s 0 l)), h0) := by
  rw [mnumber_run, mnumber_core l hl, withH_true]
theorem mnumber_own (l : List ByteArray) (hl : l.length ≤ big) (s : ByteArray) : run w0 36 [.ref 1 0 l.length 1, S s] [.cells [nilS, nilS, nilS, nilS], .fz (sF l)] = some (.ret (I (numB s 0 l)), [.cells [nilS, nilS, nilS, nilS], .fz (sF l)]) := by
  rw [mnumber_r1v_c4z, if_pos (by simp), List.drop_zero, List.take_of_length_le (by simp), mnumber_core l hl, withH_scal _ _ _ _ rfl]
abbrev iF (n : Int) : List F := [.s (.int .i64 n)]
theorem kF_flat (l : List Int) : kF .i64 l = l.flatMap iF := by
  induction l with
  | nil => rfl
  | cons a l ih => rw [kF_cons, ih]; rfl
theorem str_at {l : List ByteArray} {n : Int} (h : 0 ≤ n ∧ n < l.length) (K : ByteArray → R) : (elem (.lst l.length (sF l)) n 1 fun c => atS c 0 K) = K (l.getD n.toNat default) := by
  obtain ⟨i, rfl⟩ : ∃ i : Nat, n = i := ⟨n.toNat, by omega⟩
  have hi : i < l.length := by omega
  rw [elem_sF (drop_get hi), atS_zero, Int.toNat_natCast, List.getD_eq_getElem?_getD, List.getElem?_eq_getElem hi]; rfl
theorem numbers_loop (l ss : List ByteArray) (hl : l.length ≤ big) (xs : List Int) (hx : xs.length ≤ big) (hin : ∀ n ∈ xs, 0 ≤ n ∧ n < ss.length) : ∀ (rest : List Int) (i : Nat) (out : List Int), xs.drop i = rest → i ≤ xs.length → out.length = i →
    mnumbers_1 l.length (sF l) ss.length (sF ss) xs.length (kF .i64 xs) out.length i (kF .i64 out) = some (.ret (.f (.lst (out ++ rest.map (numI l ss)).length (kF .i64 (out ++ rest.map (numI l ss))))), [])
  | [], i, out, hd, hi, ho => by
    have := done_of_drop hd
    rw [mnumbers_1_eq, if_neg (by simp; omega), if_pos (by simp), List.drop_zero, List.take_of_length_le (by simp)]
    simp
  | n :: rest, i, out, hd, hi, ho => by
    have hlt := lt_of_drop hd
    have hn := hin n (List.mem_of_mem_drop (by rw [hd]; simp : n ∈ xs.drop i))
    unfold big at hx
    rw [mnumbers_1_eq, if_pos (decide_eq_true (by omega)), elem_kF hd, atI_zero, str_at hn, mnumber_spec l hl, pI_some, show ((i : Nat) : Int) + 1 = ((i + 1 : Nat) : Int) by omega, wN (by omega), kF_flat out]
    have e := push_mk (f := iF) (es := 1) (fun _ => rfl) out (numI l ss n) 8 (by omega) fun m c => mnumbers_1 l.length (sF l) ss.length (sF ss) xs.length (kF .i64 xs) m ((i + 1 : Nat) : Int) c
    refine e.trans ?_
    rw [← kF_flat, numbers_loop l ss hl xs (by unfold big; omega) hin rest (i + 1) (out ++ [numI l ss n]) (drop_next hd) (by omega) (by simp; omega)]
    simp
theorem mnumbers_spec (l ss : List ByteArray) (hl : l.length ≤ big) (xs : List Int) (hx : xs.length ≤ big) (hin : ∀ n ∈ xs, 0 ≤ n ∧ n < ss.length) (h0 : H) :
    run w0 37 [.f (.lst l.length (sF l)), .f (.lst ss.length (sF ss)), .f (.lst xs.length (kF .i64 xs))] h0 = some (.ret (.f (.lst (xs.map (numI l ss)).length (kF .i64 (xs.map (numI l ss))))), h0) := by
  rw [mnumbers_run, mnumbers_eq]
  have := numbers_loop l ss hl xs hx hin xs 0 [] rfl (by omega) rfl
  rw [show ((0 : Nat) : Int) = 0 from rfl] at this
  have h : mnumbers_1 l.length (sF l) ss.length (sF ss) xs.length (kF .i64 xs) 0 0 [] = _ := this
  rw [h, withH_true]; simp
/-! ### whether a string is used -/
section
variable {m : Mod} (hG : m.globals.length ≤ big) (hN : m.funcs.length ≤ big) (hF : ∀ f ∈ m.funcs, f.locals.length ≤ big ∧ f.sites.length ≤ big) (n : Int)
noncomputable abbrev U2 (m : Mod) (n : Int) (i : Nat) : R := mUsed_2 n m.strings.length (sF m.strings) m.globals.length (kF .i64 m.globals) m.funcs.length (funsF m.funcs) m.entries.length (kF .i64 m.entries) i
noncomputable abbrev U3 (m : Mod) (n : Int) (f : MFun) (i j : Nat) : R := mUsed_3 n m.strings.length (sF m.strings) m.globals.length (kF .i64 m.globals) m.funcs.length (funsF m.funcs) m.entries.length (kF .i64 m.entries) i f.name f.params f.locals.length (kF .i64 f.locals) f.sites.length (kF .i64 f.sites) f.body.length (stmtsF f.body) j
noncomputable abbrev U4 (m : Mod) (n : Int) (f : MFun) (i j : Nat) : R := mUsed_4 n m.strings.length (sF m.strings) m.globals.length (kF .i64 m.globals) m.funcs.length (funsF m.funcs) m.entries.length (kF .i64 m.entries) i f.name f.params f.locals.length (kF .i64 f.locals) f.sites.length (kF .i64 f.sites) f.body.length (stmtsF f.body) j
theorem used4 (f : MFun) (hl : f.sites.length ≤ big) (i : Nat) (hi : i < 9223372036854775807) : ∀ (rest : List Int) (j : Nat), f.sites.drop j = rest → j ≤ f.sites.length → U4 m n f i j = if n ∈ rest then some (.ret (B true), []) else U2 m n (i + 1)
  | [], j, hd, hj => by
    have := done_of_drop hd
    unfold U4
    rw [mUsed_4_eq, if_neg (by simp; omega), if_neg (by simp), show ((i : Nat) : Int) + 1 = ((i + 1 : Nat) : Int) by omega, wN (by omega)]
  | x :: rest, j, hd, hj => by
    have hlt := lt_of_drop hd
    unfold big at hl
    unfold U4
    rw [mUsed_4_eq, if_pos (decide_eq_true (by omega)), elem_kF hd, atI_zero, ibeq]
    by_cases h : x = n
    · rw [if_pos (decide_eq_true h), if_pos (by simp [h])]
    · rw [if_neg (by simpa using h), show ((j : Nat) : Int) + 1 = ((j + 1 : Nat) : Int) by omega, wN (by omega)]
      have := used4 f (by unfold big; omega) i hi rest (j + 1) (drop_next hd) (by omega)
      refine this.trans ?_
      simp only [List.mem_cons]
      by_cases h' : n ∈ rest
      · rw [if_pos h', if_pos (.inr h')]
      · rw [if_neg h', if_neg (fun q => q.elim (fun q => h q.symm) h')]
theorem used3 (f : MFun) (hl : f.locals.length ≤ big ∧ f.sites.length ≤ big) (i : Nat) (hi : i < 9223372036854775807) : ∀ (rest : List Int) (j : Nat), f.locals.drop j = rest → j ≤ f.locals.length → U3 m n f i j = if n ∈ rest ++ f.sites then some (.ret (B true), []) else U2 m n (i + 1)
  | [], j, hd, hj => by
    have := done_of_drop hd
    unfold U3
    rw [mUsed_3_eq, if_neg (by simp; omega)]
    exact used4 n f hl.2 i hi f.sites 0 rfl (by omega)
  | x :: rest, j, hd, hj => by
    have hlt := lt_of_drop hd
    have hl1 := hl.1
    unfold big at hl1
    unfold U3
    rw [mUsed_3_eq, if_pos (decide_eq_true (by omega)), elem_kF hd, atI_zero, ibeq]
    by_cases h : x = n
    · rw [if_pos (decide_eq_true h), if_pos (by simp [h])]
    · rw [if_neg (by simpa using h), show ((j : Nat) : Int) + 1 = ((j + 1 : Nat) : Int) by omega, wN (by omega)]
      have := used3 f hl i hi rest (j + 1) (drop_next hd) (by omega)
      refine this.trans ?_
      simp only [List.cons_append, List.mem_cons]
      by_cases h' : n ∈ rest ++ f.sites
      · rw [if_pos h', if_pos (.inr h')]
      · rw [if_neg h', if_neg (fun q => q.elim (fun q => h q.symm) h')]
include hN hF
theorem used2 : ∀ (rest : List MFun) (i : Nat), m.funcs.drop i = rest → i ≤ m.funcs.length → U2 m n i = some (.ret (B (decide (n ∈ usedOf rest))), [])
  | [], i, hd, hi => by
    have := done_of_drop hd
    unfold U2
    rw [mUsed_2_eq, if_neg (by simp; omega)]; simp [usedOf]
  | f :: rest, i, hd, hi => by
    have hlt := lt_of_drop hd
    have hf := hF f (List.mem_of_mem_drop (by rw [hd]; simp : f ∈ m.funcs.drop i))
    have hu : usedOf (f :: rest) = f.name :: (f.locals ++ f.sites) ++ usedOf rest := by simp [usedOf]
    unfold big at hN
    unfold U2
    rw [mUsed_2_eq, if_pos (decide_eq_true (by omega)), elem_next MFun.F_len hd]
    simp only [MFun.F, List.cons_append, atI_zero, atI_succ, atL_zero, atL_succ]
    rw [ibeq]
    by_cases h : f.name = n
    · rw [if_pos (decide_eq_true h), hu]; simp [h]
    · rw [if_neg (by simpa using h)]
      have e := used3 (m := m) n f hf i (by omega) f.locals 0 rfl (by omega)
      refine e.trans ?_
      rw [used2 rest (i + 1) (drop_next hd) (by omega), hu]
      by_cases h' : n ∈ f.locals ++ f.sites
      · rw [if_pos h', decide_eq_true (List.mem_append_left _ (List.mem_cons_of_mem _ h'))]
      · have hq : (n ∈ f.name :: (f.locals ++ f.sites) ++ usedOf rest) ↔ n ∈ usedOf rest := by
          constructor
          · intro q
            rcases List.mem_append.1 q with q | q
            · rcases List.mem_cons.1 q with q | q
              · exact absurd q.symm h
              · exact absurd q h'
            · exact q
          · exact fun q => List.mem_append_right _ q
        rw [if_neg h', decide_eq_decide.2 hq]
include hG
theorem used1 : ∀ (rest : List Int) (i : Nat), m.globals.drop i = rest → i ≤ m.globals.length →
    mUsed_1 n m.strings.length (sF m.strings) m.globals.length (kF .i64 m.globals) m.funcs.length (funsF m.funcs) m.entries.length (kF .i64 m.entries) i = some (.ret (B (decide (n ∈ rest ++ usedOf m.funcs))), [])
  | [], i, hd, hi => by
    have := done_of_drop hd
    rw [mUsed_1_eq, if_neg (by simp; omega)]
    exact used2 hN hF n m.funcs 0 rfl (by omega)
  | x :: rest, i, hd, hi => by
    have hlt := lt_of_drop hd
    have hG' := hG
    unfold big at hG'
    rw [mUsed_1_eq, if_pos (decide_eq_true (by omega)), elem_kF hd, atI_zero, ibeq]
    by_cases h : x = n
    · rw [if_pos (decide_eq_true h), decide_eq_true (by simp [h])]
    · rw [if_neg (by simpa using h), show ((i : Nat) : Int) + 1 = ((i + 1 : Nat) : Int) by omega, wN (by omega), used1 rest (i + 1) (drop_next hd) (by omega)]
      have hq : (n ∈ x :: rest ++ usedOf m.funcs) ↔ n ∈ rest ++ usedOf m.funcs := by
        rw [List.cons_append, List.mem_cons]
        exact ⟨fun q => q.elim (fun q => absurd q.symm h) id, .inr⟩
      rw [decide_eq_decide.2 hq]
theorem mUsed_spec (h0 : H) : run w0 35 [.agg (modV m), .f (.s (.int .i64 n))] h0 = some (.ret (B (decide (n ∈ usedR m))), h0) := by
  have := used1 hG hN hF n m.globals 0 rfl (by omega)
  rw [show ((0 : Nat) : Int) = 0 from rfl] at this
  rw [mUsed_run, mUsed_eq, this, withH_true]
  rfl
end
end Go.Proofs.Ytjefolfbdohkcaa
