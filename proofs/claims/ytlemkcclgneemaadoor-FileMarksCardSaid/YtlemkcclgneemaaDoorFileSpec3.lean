/-
  A system out of bytes: what the function answers.
-/
import Derived.Test.YtlemkcclgneemaaDoorFileSpec2
set_option autoImplicit false
set_option linter.unusedVariables false
set_option linter.unusedSimpArgs false
namespace Go.Proofs.YtlemkcclgneemaaDoor
open Go Go.Abs

theorem own_fget : OwnFn w0 21 Tryd.f21 [.pin [.val, .val, .val], .val, .val] [.val] := ⟨rfl, by kernel_rfl, rfl, by kernel_rfl, _, _, rfl⟩
theorem own_fargs : OwnFn w0 23 Tryd.f23 [.pin [.val, .val, .val], .val, .val] [.val] := ⟨rfl, by kernel_rfl, rfl, by kernel_rfl, _, _, rfl⟩
theorem own_NewReader : OwnFn w0 20 Tryd.f20 [.val] [.box [.val, .val, .val]] := ⟨rfl, by kernel_rfl, rfl, by kernel_rfl, _, _, rfl⟩
theorem own_Num : OwnFn w0 35 Tryd.f35 [.pin [.val, .val, .val], .val] [.val] := ⟨rfl, by kernel_rfl, rfl, by kernel_rfl, _, _, rfl⟩
theorem own_Fail : OwnFn w0 36 Tryd.f36 [.pin [.val, .val, .val], .val] [] := ⟨rfl, by kernel_rfl, rfl, by kernel_rfl, _, _, rfl⟩
theorem own_fDecode : OwnFn w0 11 Tryd.f11 [.val] [.val, .val] := ⟨rfl, by kernel_rfl, rfl, by kernel_rfl, _, _, rfl⟩

/-! ### one number: the reader, and what comes out -/
/-- the number; where the reader is; its fault -/
def gst (least most : Int) (l : List UInt8) (a e : Nat) : Int × Nat × Nat :=
  if e ≠ 0 then (if 0 < least ∨ most < 0 then least else 0, a, e)
  else match rdN 1099511627776 (l.drop a) 0 0 with
    | (v, c, f) => if f = 0 then (if least ≤ zag v ∧ zag v ≤ most then (zag v, a + c, 0) else (least, a + c, 5)) else (if 0 < least ∨ most < 0 then least else 0, a, f)
theorem rdN_fault (most : Nat) : ∀ (l : List UInt8) (k n : Nat) {v c e : Nat}, rdN most l k n = (v, c, e) → e ≠ 0 → v = 0 ∧ c = 0
  | [], _, _, _, _, _, h, _ => by simp [rdN] at h; omega
  | b :: l, k, n, v, c, e, h, he => by
    unfold rdN at h
    split at h
    · simp at h; omega
    split at h
    · exact rdN_fault most l _ _ h he
    split at h
    · simp at h; omega
    · simp at h; omega
theorem fail_more {x : F} {a e f : Nat} (he : e ≠ 0) : Fail_0 x a e f = some (.ret (.tup []), [.cells [.f x, I a, I e]]) := by
  rw [Fail_eq]
  simp [he]
theorem Fail_zero (x : F) (a f : Nat) : Fail_0 x a (0 : Nat) f = some (.ret (.tup []), [.cells [.f x, I a, I f]]) := by
  rw [Fail_eq]
  simp
theorem Fail_at {h : H} {k : Nat} {x : F} {a e f : Nat} (hk : h[k]? = some (.cells [.f x, I a, I e])) : run w0 36 [.ptr k 0, I f] h = some (.ret (.tup []), h.set k (.cells [.f x, I a, I ((if e = 0 then f else e : Nat) : Int)])) := by
  rw [call_pin own_Fail hk rfl (of_decide_eq_true (by kernel_rfl)) rfl]
  have ec : coreOf w0 36 Tryd.f36 [] (some [.val, .val, .val]) [.ptr 0 0, I f] [.cells [.f x, I a, I e]] = Fail_0 x a e f := rfl
  rw [ec]
  have g : ∀ y : Ob, (∀ m, renO m y = y) → graft (h.set k .dead) (some k) (some (.ret (.tup []), [y])) = some (.ret (.tup []), h.set k y) := by
    intro y hy
    simp [graft, ren, rens, hy]
  by_cases he : e = 0
  · subst he
    rw [Fail_zero, g _ (fun m => by simp [renO, rens, ren])]; rfl
  · rw [fail_more he, g _ (fun m => by simp [renO, rens, ren]), if_neg he]
theorem Num_core (l : List UInt8) (a e : Nat) (hl : l.length < 9223372036854775808) (ha : a ≤ l.length) (most : Nat) :
    Num_0 (.lst l.length (bF l)) a e most = (match (if e ≠ 0 then (0, 0, e) else rdN most (l.drop a) 0 0) with
      | (v, c, f) => some (.ret (N .u64 v), [rdr l (a + c) f])) := by
  by_cases he : e ≠ 0
  · have h1 := Num_was (l := l) (a := a) (most := most) (e := e) (by omega)
    unfold rdr at h1
    rw [Num_p0v_c3] at h1
    rw [if_pos he]
    have h2 : ∀ r : R, graft [.dead] (some 0) r = some (.ret (N .u64 0), [.cells [.f (.lst l.length (bF l)), I a, I e]]) → r = Num_0 (.lst l.length (bF l)) a e most → Num_0 (.lst l.length (bF l)) a e most = some (.ret (N .u64 0), [rdr l (a + 0) e]) := by
      intro r h3 h4
      rw [← h4]
      cases r with
      | none => simp [graft] at h3
      | some q =>
        obtain ⟨o, g⟩ := q
        rw [Num_eq, Num_1_eq, Fault_p _ _ _ (Fault_p0_c3 ..), pI_some, if_neg (by simpa using he)] at h4
        rw [h4]; rfl
    exact h2 _ h1 rfl
  · have he0 : e = 0 := by omega
    subst he0
    rw [if_neg he]
    have h := Num_loop l a most hl (l.drop a) 0 0 rfl (by omega) (by omega)
    rw [Num_eq]
    have h' : Num_1 (most : Int) 0 0 (.lst l.length (bF l)) a 0 = _ := h
    have h'' : Num_1 (most : Int) 0 0 (.lst l.length (bF l)) a ((0 : Nat) : Int) = _ := h'
    rw [h'']
    rcases hq : rdN most (l.drop a) 0 0 with ⟨v, c, f⟩
    dsimp only
    by_cases hf : f = 0
    · rw [if_pos hf, hf]; rfl
    · obtain ⟨rfl, rfl⟩ := rdN_fault _ _ _ _ hq hf
      rw [if_neg hf]; rfl
theorem graft_rdr (h : H) (k : Nat) (x : Value) (hx : ∀ m, ren m (vs x) = vs x) (l : List UInt8) (a e : Nat) : graft (h.set k .dead) (some k) (some (.ret (vs x), [rdr l a e])) = some (.ret (vs x), h.set k (rdr l a e)) := by
  simp [graft, hx, rdr, renO, rens, ren]
theorem Num_at {h : H} {k : Nat} {l : List UInt8} {a e : Nat} (hk : h[k]? = some (rdr l a e)) (hl : l.length < 9223372036854775808) (ha : a ≤ l.length) (most : Nat) :
    run w0 35 [.ptr k 0, N .u64 most] h = (match (if e ≠ 0 then (0, 0, e) else rdN most (l.drop a) 0 0) with
      | (v, c, f) => some (.ret (N .u64 v), h.set k (rdr l (a + c) f))) := by
  rw [call_pin own_Num hk rfl (of_decide_eq_true (by kernel_rfl)) rfl]
  have ec : coreOf w0 35 Tryd.f35 [.val] (some [.val, .val, .val]) [.ptr 0 0, N .u64 most] [.cells [.f (.lst l.length (bF l)), I a, I e]] = Num_0 (.lst l.length (bF l)) a e most := rfl
  rw [ec, Num_core l a e hl ha]
  rcases (if e ≠ 0 then (0, 0, e) else rdN most (l.drop a) 0 0) with ⟨v, c, f⟩
  dsimp only
  rw [graft_rdr _ _ _ (fun m => rfl)]
theorem fget_core (least most : Int) (l : List UInt8) (a e : Nat) (hl : l.length < 9223372036854775808) (ha : a ≤ l.length) :
    fget_0 (.lst l.length (bF l)) a e least most = some (.ret (N .i64 (gst least most l a e).1), [rdr l (gst least most l a e).2.1 (gst least most l a e).2.2]) := by
  rw [fget_eq]
  have hn := Num_at (h := [rdr l a e]) (k := 0) rfl hl ha 1099511627776
  have hn' : run w0 35 [.ptr 0 0, N .u64 1099511627776] [.cells [.f (.lst l.length (bF l)), N .i64 a, N .i64 e]] = _ := hn
  rw [hn']
  unfold gst
  by_cases he : e ≠ 0
  · rw [if_pos he, if_pos he]
    dsimp only
    have hz : run w0 34 [N .u64 ((0 : Nat) : Int)] [.cells [.f (.lst l.length (bF l)), I ((a + 0 : Nat) : Int), I e]] = _ := Zag_spec 0 (by decide) _
    simp only [List.set_cons_zero, pO_some, asCells, rdr, List.getElem?_cons_zero, List.getElem?_cons_succ, Option.bind_some, V.f?, V.int?, F.int?, if_true, List.length_cons, List.length_nil]
    rw [hz, pI_some, show zag 0 = 0 by decide]
    have hf := Fail_at (h := [.cells [.f (.lst l.length (bF l)), I ((a + 0 : Nat) : Int), I e]]) (k := 0) (f := 5) rfl
    have hf' : run w0 36 [.ptr 0 0, N .i64 5] [.cells [.f (.lst l.length (bF l)), I ((a + 0 : Nat) : Int), I e]] = _ := hf
    by_cases h1 : least ≤ 0
    · rw [if_pos (by simpa using h1)]
      by_cases h2 : 0 ≤ most
      · rw [if_neg (by simpa using h2), if_neg (by omega)]; rfl
      · rw [if_pos (by simpa using h2), hf', if_neg he, if_pos (by omega)]
        simp [asCells, V.f?, V.int?, F.int?]
    · rw [if_neg (by simpa using h1), hf', if_neg he, if_pos (by omega)]
      simp [asCells, V.f?, V.int?, F.int?]
  · rw [if_neg he, if_neg he]
    rcases hq : rdN 1099511627776 (l.drop a) 0 0 with ⟨v, c, f⟩
    dsimp only
    have hv : v < 18446744073709551616 := by
      by_cases hf : f = 0
      · subst hf; exact (rdN_got hq).2.2.1
      · have := (rdN_fault _ _ _ _ hq hf).1; omega
    simp only [List.set_cons_zero, pO_some, asCells, rdr, List.getElem?_cons_zero, List.getElem?_cons_succ, Option.bind_some, V.f?, V.int?, F.int?, if_true, List.length_cons, List.length_nil]
    rw [Zag_spec v hv, pI_some]
    have hf := Fail_at (h := [.cells [.f (.lst l.length (bF l)), I ((a + c : Nat) : Int), I (f : Nat)]]) (k := 0) (f := 5) rfl
    have hf' : run w0 36 [.ptr 0 0, N .i64 5] [.cells [.f (.lst l.length (bF l)), I ((a + c : Nat) : Int), I (f : Nat)]] = _ := hf
    by_cases hz : f = 0
    · subst hz
      rw [if_pos rfl]
      by_cases h1 : least ≤ zag v
      · rw [if_pos (by simpa using h1)]
        by_cases h2 : zag v ≤ most
        · rw [if_neg (by simpa using h2), if_pos ⟨h1, h2⟩]
        · rw [if_pos (by simpa using h2), hf', if_pos (show (0 : Nat) = 0 from rfl), if_neg (show ¬ (least ≤ zag v ∧ zag v ≤ most) from fun h => h2 h.2)]
          simp [asCells, V.f?, V.int?, F.int?]
      · rw [if_neg (by simpa using h1), hf', if_pos (show (0 : Nat) = 0 from rfl), if_neg (show ¬ (least ≤ zag v ∧ zag v ≤ most) from fun h => h1 h.1)]
        simp [asCells, V.f?, V.int?, F.int?]
    · obtain ⟨rfl, rfl⟩ := rdN_fault _ _ _ _ hq hz
      rw [if_neg hz, show zag 0 = 0 by decide]
      by_cases h1 : least ≤ 0
      · rw [if_pos (by simpa using h1)]
        by_cases h2 : 0 ≤ most
        · rw [if_neg (by simpa using h2), if_neg (by omega)]; rfl
        · rw [if_pos (by simpa using h2), hf', if_neg hz, if_pos (by omega)]
          simp [asCells, V.f?, V.int?, F.int?]
      · rw [if_neg (by simpa using h1), hf', if_neg hz, if_pos (by omega)]
        simp [asCells, V.f?, V.int?, F.int?]
theorem fget_at {h : H} {k : Nat} {l : List UInt8} {a e : Nat} (hk : h[k]? = some (rdr l a e)) (hl : l.length < 9223372036854775808) (ha : a ≤ l.length) (least most : Int) :
    run w0 21 [.ptr k 0, N .i64 least, N .i64 most] h = some (.ret (N .i64 (gst least most l a e).1), h.set k (rdr l (gst least most l a e).2.1 (gst least most l a e).2.2)) := by
  rw [call_pin own_fget hk rfl (of_decide_eq_true (by kernel_rfl)) rfl]
  have ec : coreOf w0 21 Tryd.f21 [.val] (some [.val, .val, .val]) [.ptr 0 0, N .i64 least, N .i64 most] [.cells [.f (.lst l.length (bF l)), I a, I e]] = fget_0 (.lst l.length (bF l)) a e least most := rfl
  rw [ec, fget_core least most l a e hl ha, graft_rdr _ _ _ (fun m => rfl)]
/-- as equations tell it -/
theorem fget_go {h : H} {k L : Nat} {l : List UInt8} {a e : Nat} {least most : Int} (hk : h[k]? = some (rdr l a e)) (hL : h.length = L) (hl : l.length < 9223372036854775808) (ha : a ≤ l.length) (K : Int → F → Int → Int → R) :
    (pO (run w0 21 [.ptr k 0, N .i64 least, N .i64 most] h) fun v g => (asCells g k).bind fun q => (q[0]?).bind fun v1 => (V.f? v1).bind fun x => (q[1]?).bind fun v2 => (V.int? .i64 v2).bind fun n1 => (q[2]?).bind fun v3 => (V.int? .i64 v3).bind fun n2 => if q.length = 3 then (V.int? .i64 v).bind fun n => if g.length = L then K n x n1 n2 else none else none) =
      K (gst least most l a e).1 (.lst l.length (bF l)) ((gst least most l a e).2.1 : Nat) ((gst least most l a e).2.2 : Nat) := by
  have hlt : k < h.length := (List.getElem?_eq_some_iff.1 hk).1
  rw [fget_at hk hl ha, pO_some]
  have hg : ∀ o : Ob, (h.set k o)[k]? = some o := fun o => List.getElem?_set_self hlt
  simp only [asCells, hg, rdr]
  simp [V.f?, V.int?, F.int?, hL]
theorem gst_ok {least most n : Int} {l r : List UInt8} {a : Nat} (ha : a ≤ l.length) (h : pGet least most (l.drop a) = some (n, r)) : ∃ a', gst least most l a 0 = (n, a', 0) ∧ a' ≤ l.length ∧ l.drop a' = r := by
  unfold pGet at h
  unfold gst
  rw [if_neg (by omega)]
  rcases hq : rdN 1099511627776 (l.drop a) 0 0 with ⟨v, c, f⟩
  rw [hq] at h
  dsimp only at h ⊢
  split at h
  · rename_i hc
    obtain ⟨rfl, h1, h2⟩ := hc
    simp at h
    obtain ⟨rfl, rfl⟩ := h
    have := (rdN_got hq).1
    simp at this
    exact ⟨a + c, by rw [if_pos rfl, if_pos ⟨h1, h2⟩], by omega, rfl⟩
  · cases h
theorem gst_bad {least most : Int} {l : List UInt8} {a : Nat} (ha : a ≤ l.length) (h : pGet least most (l.drop a) = none) : (gst least most l a 0).2.2 ≠ 0 ∧ (gst least most l a 0).2.1 ≤ l.length := by
  unfold pGet at h
  unfold gst
  rw [if_neg (by omega)]
  rcases hq : rdN 1099511627776 (l.drop a) 0 0 with ⟨v, c, f⟩
  rw [hq] at h
  dsimp only at h ⊢
  split at h
  · cases h
  · rename_i hc
    by_cases hf : f = 0
    · subst hf
      have := (rdN_got hq).1
      simp at this
      rw [if_pos rfl, if_neg (fun hh => hc ⟨rfl, hh⟩)]
      exact ⟨by simp, by dsimp only; omega⟩
    · rw [if_neg hf]; exact ⟨hf, ha⟩
theorem gst_dead {least most : Int} {l : List UInt8} {a e : Nat} (he : e ≠ 0) : gst least most l a e = (if 0 < least ∨ most < 0 then least else 0, a, e) := by unfold gst; rw [if_pos he]

/-! ### so many numbers -/
/-- what comes out of a reader n times -/
def ast (least : Int) (l : List UInt8) : Nat → Nat → Nat → List Int × Nat × Nat
  | 0, a, e => ([], a, e)
  | k + 1, a, e => let q := gst least 16384 l a e; let p := ast least l k q.2.1 q.2.2; (q.1 :: p.1, p.2)
theorem gst_le {least most : Int} {l : List UInt8} {a e : Nat} (ha : a ≤ l.length) : (gst least most l a e).2.1 ≤ l.length := by
  by_cases he : e = 0
  · subst he
    cases h : pGet least most (l.drop a) with
    | none => exact (gst_bad ha h).2
    | some q => obtain ⟨a', h1, h2, _⟩ := gst_ok ha h; rw [h1]; exact h2
  · rw [gst_dead he]; exact ha
theorem fargs_loop (least : Int) (n : Nat) (hn : n ≤ 1000) (l : List UInt8) (hl : l.length < 9223372036854775808) : ∀ (k : Nat) (i : Nat) (a e : Nat) (acc : List Int), i + k = n → a ≤ l.length → acc.length ≤ 1000 + i →
    fargs_1 least acc.length n i (.lst l.length (bF l)) a e (kF .i64 acc) = some (.ret (.f (.lst (acc ++ (ast least l k a e).1).length (kF .i64 (acc ++ (ast least l k a e).1)))), [rdr l (ast least l k a e).2.1 (ast least l k a e).2.2])
  | 0, i, a, e, acc, hi, ha, hacc => by
    rw [fargs_1_eq, if_neg (by simp; omega)]
    simp only [Nat.zero_add, Nat.mul_one, List.drop_zero]
    rw [if_pos (by simp), List.take_of_length_le (by simp)]
    simp [ast, rdr]
  | k + 1, i, a, e, acc, hi, ha, hacc => by
    have hg := fget_go (h := [rdr l a e, .fz (kF .i64 acc)]) (k := 0) (L := 2) (least := least) (most := 16384) rfl rfl hl ha (fun n1 x a' e' => if 1 = 1 ∧ (acc.length + 1) * 8 ≤ 140737488355328 then if 0 + (acc.length * 1) ≤ (kF .i64 acc).length then if 0 + ((acc.length + 1) * 1) ≤ ((((kF .i64 acc).drop 0).take (acc.length * 1)) ++ ([F.s (.int .i64 n1)])).length then fargs_1 least (acc.length + 1) n (IntKind.wrap .i64 ((i : Int) + 1)) x a' e' ((((((kF .i64 acc).drop 0).take (acc.length * 1)) ++ ([F.s (.int .i64 n1)])).drop 0).take ((acc.length + 1) * 1)) else none else none else none)
    rw [fargs_1_eq, if_pos (by simp; omega)]
    refine hg.trans ?_
    simp only [Nat.zero_add, Nat.mul_one, List.drop_zero]
    rw [if_pos ⟨trivial, by omega⟩, if_pos (by simp), if_pos (by simp), List.take_of_length_le (l := kF .i64 acc) (by simp), List.take_of_length_le (by simp), wrap_i64 (by omega) (by omega), show ((i : Int) + 1) = ((i + 1 : Nat) : Int) by omega]
    have := fargs_loop least n hn l hl k (i + 1) (gst least 16384 l a e).2.1 (gst least 16384 l a e).2.2 (acc ++ [(gst least 16384 l a e).1]) (by omega) (gst_le ha) (by simp; omega)
    rw [kF_append] at this
    rw [List.length_append, List.length_singleton] at this
    refine this.trans ?_
    simp [ast]
theorem ast_len (least : Int) (l : List UInt8) : ∀ (k a e : Nat), (ast least l k a e).1.length = k
  | 0, _, _ => rfl
  | k + 1, a, e => by simp [ast, ast_len least l k]
theorem ast_le {least : Int} {l : List UInt8} : ∀ {k a e : Nat}, a ≤ l.length → (ast least l k a e).2.1 ≤ l.length
  | 0, a, e, ha => ha
  | k + 1, a, e, ha => by unfold ast; exact ast_le (gst_le ha)
theorem ast_dead {least : Int} {l : List UInt8} : ∀ {k a e : Nat}, e ≠ 0 → (ast least l k a e).2.2 ≠ 0
  | 0, a, e, he => he
  | k + 1, a, e, he => by unfold ast; rw [gst_dead he]; exact ast_dead he
theorem ast_ok {least : Int} {l : List UInt8} : ∀ {k a : Nat} {q r}, a ≤ l.length → pArgs least k (l.drop a) = some (q, r) → ∃ a', ast least l k a 0 = (q, a', 0) ∧ a' ≤ l.length ∧ l.drop a' = r
  | 0, a, q, r, ha, h => by simp [pArgs] at h; obtain ⟨rfl, rfl⟩ := h; exact ⟨a, rfl, ha, rfl⟩
  | k + 1, a, q, r, ha, h => by
    rw [pArgs, Option.bind_eq_some_iff] at h; obtain ⟨x, h1, h⟩ := h
    rw [Option.bind_eq_some_iff] at h; obtain ⟨y, h2, h⟩ := h
    simp at h; obtain ⟨rfl, rfl⟩ := h
    obtain ⟨a1, g1, g2, g3⟩ := gst_ok ha h1
    rw [← g3] at h2
    obtain ⟨a2, g4, g5, g6⟩ := ast_ok g2 h2
    exact ⟨a2, by unfold ast; rw [g1]; simp [g4], g5, g6⟩
theorem ast_bad {least : Int} {l : List UInt8} : ∀ {k a : Nat}, a ≤ l.length → pArgs least k (l.drop a) = none → (ast least l k a 0).2.2 ≠ 0
  | 0, a, ha, h => by simp [pArgs] at h
  | k + 1, a, ha, h => by
    unfold ast
    cases h1 : pGet least 16384 (l.drop a) with
    | none =>
      have := (gst_bad ha h1).1
      exact ast_dead this
    | some x =>
      obtain ⟨a1, g1, g2, g3⟩ := gst_ok ha h1
      rw [pArgs, h1, Option.bind_some, ← g3] at h
      rw [g1]
      refine ast_bad g2 ?_
      cases h2 : pArgs least k (l.drop a1) with
      | none => rfl
      | some y => rw [h2] at h; simp at h
theorem fargs_go {h : H} {k L : Nat} {l : List UInt8} {a e n : Nat} {least : Int} (hk : h[k]? = some (rdr l a e)) (hL : h.length = L) (hl : l.length < 9223372036854775808) (ha : a ≤ l.length) (hn : n ≤ 1000) (K : Nat → List F → F → Int → Int → R) :
    (pO (run w0 23 [.ptr k 0, N .i64 n, N .i64 least] h) fun v g => (asCells g k).bind fun q => (q[0]?).bind fun v1 => (V.f? v1).bind fun x => (q[1]?).bind fun v2 => (V.int? .i64 v2).bind fun n1 => (q[2]?).bind fun v3 => (V.int? .i64 v3).bind fun n2 => if q.length = 3 then (V.lst? v).bind fun p => if g.length = L then K p.1 p.2 x n1 n2 else none else none) =
      K (ast least l n a e).1.length (kF .i64 (ast least l n a e).1) (.lst l.length (bF l)) ((ast least l n a e).2.1 : Nat) ((ast least l n a e).2.2 : Nat) := by
  have hlt : k < h.length := (List.getElem?_eq_some_iff.1 hk).1
  rw [call_pin own_fargs hk rfl (of_decide_eq_true (by kernel_rfl)) rfl]
  have ec : coreOf w0 23 Tryd.f23 [.val] (some [.val, .val, .val]) [.ptr 0 0, N .i64 n, N .i64 least] [.cells [.f (.lst l.length (bF l)), I a, I e]] = fargs_0 (.lst l.length (bF l)) a e n least := rfl
  have hc : fargs_0 (.lst l.length (bF l)) a e n least = _ := (fargs_eq ..).trans (fargs_loop least n hn l hl n 0 a e [] (by omega) ha (by simp))
  rw [ec, hc]
  have g : graft (h.set k .dead) (some k) (some (.ret (.f (.lst ([] ++ (ast least l n a e).1).length (kF .i64 ([] ++ (ast least l n a e).1)))), [rdr l (ast least l n a e).2.1 (ast least l n a e).2.2])) = some (.ret (.f (.lst ([] ++ (ast least l n a e).1).length (kF .i64 ([] ++ (ast least l n a e).1)))), h.set k (rdr l (ast least l n a e).2.1 (ast least l n a e).2.2)) := by
    simp [graft, ren, rdr, renO, rens]
  rw [g, pO_some]
  have hg : ∀ o : Ob, (h.set k o)[k]? = some o := fun o => List.getElem?_set_self hlt
  simp only [asCells, hg, rdr]
  simp [V.f?, V.int?, F.int?, V.lst?, F.lst?, hL]

/-! ### the end -/
/-- what is told of a system -/
def dR : Option MSys → R
  | some s => some (.ret (.tup [.agg (sysV s), I 0]), [])
  | none => some (.ret (.tup [.agg [I 0, .f (.lst 0 []), .f (.lst 0 [])], I 4]), [])
theorem End_at {h : H} {l : List UInt8} {a e : Nat} (hl : l.length < 9223372036854775808) (ha : a ≤ l.length) (hs : run w0 24 [.ptr 1 0] h = withH false h (End_0 (.lst l.length (bF l)) a e)) : run w0 24 [.ptr 1 0] h = some (.ret (I (if e ≠ 0 then e else if a < l.length then 4 else 0)), h) := by
  rw [hs]
  by_cases he : e = 0
  · subst he
    have : End_0 (.lst l.length (bF l)) a ((0 : Nat) : Int) = _ := End_ok hl ha
    rw [this, if_neg (show ¬ ((0 : Nat) ≠ 0) by simp)]
    exact withH_scal _ _ _ _ rfl
  · rw [End_was (by omega), if_pos he]
    exact withH_scal _ _ _ _ rfl
end Go.Proofs.YtlemkcclgneemaaDoor
