/-
  The document's own rules of modules: what its Tree, its Check answer.
-/
import Derived.Test.YtjefolfbdohkcaaDocSpec
import Derived.Test.YtjefolfbdohkcaaFlatSpec
set_option autoImplicit false
set_option linter.unusedVariables false
set_option linter.unusedSimpArgs false
namespace Go.Proofs.Ytjefolfbdohkcaa
open Go Go.Abs
def tupV : Option (Int × Int × Int) → List V
  | none => [I 0, I (-1), I (-1)]
  | some (n, f, s) => [I n, I f, I s]
section
variable (m : Mod)
noncomputable abbrev DT1 (m : Mod) (i : Nat) (l : List Int) : R := dTree_1 m.strings.length (sF m.strings) m.globals.length (kF .i64 m.globals) m.funcs.length (funsF m.funcs) m.entries.length (kF .i64 m.entries) l.length i (kF .i64 l)
noncomputable abbrev DT2 (m : Mod) (i : Nat) : R := dTree_2 m.strings.length (sF m.strings) m.globals.length (kF .i64 m.globals) m.funcs.length (funsF m.funcs) m.entries.length (kF .i64 m.entries) i
noncomputable abbrev DT3 (m : Mod) (i k : Nat) : R := dTree_3 m.strings.length (sF m.strings) m.globals.length (kF .i64 m.globals) m.funcs.length (funsF m.funcs) m.entries.length (kF .i64 m.entries) i k
noncomputable abbrev DT4 (m : Mod) (i : Nat) : R := dTree_4 m.strings.length (sF m.strings) m.globals.length (kF .i64 m.globals) m.funcs.length (funsF m.funcs) m.entries.length (kF .i64 m.entries) i
noncomputable abbrev DT5 (m : Mod) (i : Nat) (f : MFun) (its : List MItem) (k : Nat) : R := dTree_5 m.strings.length (sF m.strings) m.globals.length (kF .i64 m.globals) m.funcs.length (funsF m.funcs) m.entries.length (kF .i64 m.entries) i f.name f.params f.locals.length (kF .i64 f.locals) f.sites.length (kF .i64 f.sites) f.body.length (stmtsF f.body) its.length (itemsF its) k
theorem dtree5 (i : Nat) (hi : i < 4611686018427387904) (f : MFun) (its : List MItem) (hl : its.length ≤ big) (hargs : ∀ x ∈ its, x.s.args.length < 4611686018427387904) : ∀ (rest : List MItem) (j : Nat), its.drop j = rest → j ≤ its.length →
    DT5 m i f its j = match stmtsR m f rest with
      | some (n, s) => some (.ret (.tup (tupV (some (n, i, s)))), [])
      | none => DT4 m (i + 1)
  | [], j, hd, hj => by
    have := done_of_drop hd
    unfold DT5
    rw [dTree_5_eq, if_neg (by simp; omega), show ((i : Int) + 1) = ((i + 1 : Nat) : Int) by omega, wN (by omega)]
    rfl
  | x :: rest, j, hd, hj => by
    have hlt := lt_of_drop hd
    have hx : x ∈ its := List.mem_of_mem_drop (by rw [hd]; simp : x ∈ its.drop j)
    have ih := dtree5 i hi f its hl hargs rest (j + 1) (drop_next hd) (by omega)
    unfold big at hl
    unfold DT5 at ih ⊢
    have e : ∀ h0 : H, run w0 34 [.agg (modV m), .agg (funV f), .agg [N .i64 x.n, N .i64 x.deep, N .u8 x.s.kind, N .u8 x.s.a.k, N .i64 x.s.a.id, N .u8 x.s.b.k, N .i64 x.s.b.id, .f (.lst x.s.args.length (refsF x.s.args)), .f (.lst x.s.body.length (stmtsF x.s.body))]] h0 = some (.ret (I (stmtR m f x.deep x.s)), h0) := fun h0 => dbroken_spec m f x.n x.deep x.s (hargs x hx) h0
    rw [dTree_5_eq, if_pos (decide_eq_true (by omega)), elem_next MItem.F_len hd]
    simp only [MItem.F, MStmt.F_eq, List.cons_append, List.nil_append, atI_zero, atI_succ, atL_zero, atL_succ]
    rw [e, pI_some]
    unfold stmtsR
    by_cases h : 0 < stmtR m f x.deep x.s
    · rw [if_pos (by simp; omega), elem_next MItem.F_len hd, if_pos h]
      simp only [MItem.F, List.cons_append, List.drop_zero, atI_zero, tupV]
    · rw [if_neg (by simp; omega), if_neg h, show ((j : Int) + 1) = ((j + 1 : Nat) : Int) by omega, wN (by omega)]
      exact ih
theorem dtree4 (hl : m.funcs.length ≤ big) (ha : argsOk m) (hn : ∀ f ∈ m.funcs, f.locals.length ≤ big ∧ f.sites.length ≤ big) : ∀ (rest : List MFun) (i : Nat), m.funcs.drop i = rest → i ≤ m.funcs.length → DT4 m i = some (.ret (.tup (tupV (funsR m i rest))), [])
  | [], i, hd, hi => by
    have := done_of_drop hd
    unfold DT4
    rw [dTree_4_eq, if_neg (by simp; omega)]; rfl
  | f :: rest, i, hd, hi => by
    have hlt := lt_of_drop hd
    have hf : f ∈ m.funcs := List.mem_of_mem_drop (by rw [hd]; simp : f ∈ m.funcs.drop i)
    obtain ⟨hb, hargs⟩ := ha f hf
    obtain ⟨hn1, hn2⟩ := hn f hf
    have ih := dtree4 hl ha hn rest (i + 1) (drop_next hd) (by omega)
    have hl' := hl
    unfold big at hl'
    unfold DT4
    have e1 : ∀ h0 : H, run w0 32 [.agg [.f (.lst m.strings.length (sF m.strings)), .f (.lst m.globals.length (kF .i64 m.globals)), .f (.lst m.funcs.length (funsF m.funcs)), .f (.lst m.entries.length (kF .i64 m.entries))], .f (.lst f.locals.length (kF .i64 f.locals))] h0 = some (.ret (I (namesR m.strings f.locals [])), h0) := fun h0 => dnamed_spec m f.locals hn1 h0
    have e2 : ∀ h0 : H, run w0 32 [.agg [.f (.lst m.strings.length (sF m.strings)), .f (.lst m.globals.length (kF .i64 m.globals)), .f (.lst m.funcs.length (funsF m.funcs)), .f (.lst m.entries.length (kF .i64 m.entries))], .f (.lst f.sites.length (kF .i64 f.sites))] h0 = some (.ret (I (namesR m.strings f.sites [])), h0) := fun h0 => dnamed_spec m f.sites hn2 h0
    rw [dTree_4_eq, if_pos (decide_eq_true (by omega)), elem_next MFun.F_len hd]
    simp only [MFun.F, List.cons_append, List.nil_append, atI_zero, atI_succ, atL_zero, atL_succ]
    rw [rFlat_spec f.body hb, pL_some]
    have h5 := dtree5 m i (by omega) f (flats 0 0 f.body) hb hargs (flats 0 0 f.body) 0 rfl (by omega)
    unfold DT5 at h5
    rw [show ((0 : Nat) : Int) = 0 from rfl] at h5
    have key : ∀ x : Int, funR m f = x → 0 < x → funsR m i (f :: rest) = some (x, (i : Int), -1) := fun x hx h0 => by
      unfold funsR; rw [if_pos (by omega), hx]
    unfold funR at key
    by_cases c1 : 40 < f.locals.length
    · rw [if_neg (by simp; omega), key 2 (if_pos (.inl c1)) (by omega)]; rfl
    rw [if_pos (by simp; omega)]
    by_cases c2 : 40 < f.sites.length
    · rw [if_neg (by simp; omega), key 2 (if_pos (.inr (.inl c2))) (by omega)]; rfl
    rw [if_pos (by simp; omega)]
    by_cases c3 : 400 < (flats 0 0 f.body).length
    · rw [if_pos (by simp; omega), key 2 (if_pos (.inr (.inr c3))) (by omega)]; rfl
    rw [if_neg (by simp; omega)]
    rw [if_neg (show ¬ (40 < f.locals.length ∨ 40 < f.sites.length ∨ 400 < (flats 0 0 f.body).length) by omega)] at key
    by_cases c4 : f.params < 0
    · rw [if_neg (by simp; omega), key 4 (if_pos (.inl c4)) (by omega)]; rfl
    rw [if_pos (by simp; omega)]
    by_cases c5 : (f.locals.length : Int) < f.params
    · rw [if_neg (by simp; omega), key 4 (if_pos (.inr (.inl c5))) (by omega)]; rfl
    rw [if_pos (by simp; omega)]
    by_cases c6 : 6 < f.params
    · rw [if_pos (by simp; omega), key 4 (if_pos (.inr (.inr c6))) (by omega)]; rfl
    rw [if_neg (by simp; omega), e1, pI_some]
    rw [if_neg (show ¬ (f.params < 0 ∨ (f.locals.length : Int) < f.params ∨ 6 < f.params) by omega)] at key
    by_cases c7 : 0 < namesR m.strings f.locals []
    · rw [if_pos (by simp; omega), key _ (if_pos c7) c7]; rfl
    rw [if_neg (by simp; omega), e2, pI_some]
    rw [if_neg c7] at key
    by_cases c8 : 0 < namesR m.strings f.sites []
    · rw [if_pos (by simp; omega), key _ rfl c8]; rfl
    rw [if_neg (by simp; omega), h5]
    have hz : ¬ 0 < funR m f := by
      unfold funR
      rw [if_neg (show ¬ (40 < f.locals.length ∨ 40 < f.sites.length ∨ 400 < (flats 0 0 f.body).length) by omega), if_neg (show ¬ (f.params < 0 ∨ (f.locals.length : Int) < f.params ∨ 6 < f.params) by omega), if_neg c7]
      exact c8
    unfold funsR
    rw [if_neg hz]
    cases stmtsR m f (flats 0 0 f.body) with
    | some x => rfl
    | none => exact ih
theorem dtree3 (hl : m.entries.length ≤ 40) (i : Nat) (n : Int) (r : List Int) (hd : m.entries.drop i = n :: r) : ∀ (g : List Int) (k : Nat), (m.entries.take i).drop k = g →
    DT3 m i k = if n ∈ g then some (.ret (.tup (tupV (some (3, -1, -1)))), []) else DT2 m (i + 1)
  | [], k, h => by
    have hk := done_of_drop h
    have hlt := lt_of_drop hd
    rw [List.length_take] at hk
    unfold DT3
    rw [dTree_3_eq, if_neg (by simp; omega), if_neg (by simp), show ((i : Nat) : Int) + 1 = ((i + 1 : Nat) : Int) by omega, wN (by omega)]
  | x :: g, k, h => by
    have hk := lt_of_drop h
    have hlt := lt_of_drop hd
    rw [List.length_take] at hk
    have hd' : m.entries.drop k = x :: m.entries.drop (k + 1) := by
      have h1 : (m.entries.take i)[k]? = some x := by rw [← List.head?_drop, h]; rfl
      rw [List.getElem?_take_of_lt (by omega)] at h1
      rw [drop_get (by omega : k < m.entries.length)]
      congr 1
      rw [List.getElem?_eq_getElem (by omega)] at h1; exact Option.some.inj h1
    have ih := dtree3 hl i n r hd g (k + 1) (drop_next h)
    unfold DT3 at ih ⊢
    rw [dTree_3_eq, if_pos (decide_eq_true (by omega)), elem_kF hd', atI_zero, elem_kF hd, atI_zero, ibeq]
    by_cases he : x = n
    · rw [if_pos (decide_eq_true he), if_pos (by simp [he])]; rfl
    · rw [if_neg (by simpa using he), show ((k : Nat) : Int) + 1 = ((k + 1 : Nat) : Int) by omega, wN (by omega), ih]
      have : (n ∈ x :: g) ↔ n ∈ g := by rw [List.mem_cons]; exact ⟨fun q => q.elim (fun q => absurd q.symm he) id, .inr⟩
      by_cases hg : n ∈ g
      · rw [if_pos hg, if_pos (this.2 hg)]
      · rw [if_neg hg, if_neg (fun q => hg (this.1 q))]
theorem dtree2 (hl : m.entries.length ≤ 40) : ∀ (rest : List Int) (i : Nat) (seen : List Int), m.entries.drop i = rest → i ≤ m.entries.length → (∀ s, s ∈ seen ↔ s ∈ m.entries.take i) →
    DT2 m i = if 0 < entriesR m.funcs.length rest seen then some (.ret (.tup (tupV (some (entriesR m.funcs.length rest seen, -1, -1)))), []) else DT4 m 0
  | [], i, seen, hd, hi, hs => by
    have := done_of_drop hd
    unfold DT2
    rw [dTree_2_eq, if_neg (by simp; omega), if_neg (by simp [entriesR])]; rfl
  | n :: rest, i, seen, hd, hi, hs => by
    have hlt := lt_of_drop hd
    unfold DT2
    rw [dTree_2_eq, if_pos (decide_eq_true (by omega)), elem_kF hd, atI_zero]
    unfold entriesR
    by_cases h0 : n < 0
    · rw [if_neg (by simpa using h0), if_pos (show n < 0 ∨ (m.funcs.length : Int) ≤ n from .inl h0), if_pos (by omega)]; rfl
    rw [if_pos (by simpa using h0), elem_kF hd, atI_zero]
    by_cases h1 : (m.funcs.length : Int) ≤ n
    · rw [if_pos (by simpa using h1), if_pos (show n < 0 ∨ (m.funcs.length : Int) ≤ n from .inr h1), if_pos (by omega)]; rfl
    rw [if_neg (by simpa using h1), if_neg (show ¬ (n < 0 ∨ (m.funcs.length : Int) ≤ n) by omega)]
    have e := dtree3 m hl i n rest hd (m.entries.take i) 0 rfl
    refine e.trans ?_
    by_cases he : n ∈ m.entries.take i
    · rw [if_pos he, if_pos (show n ∈ seen from (hs _).2 he), if_pos (by omega)]
    · rw [if_neg he, if_neg (show ¬ n ∈ seen from fun q => he ((hs _).1 q))]
      refine dtree2 hl rest (i + 1) (n :: seen) (drop_next hd) (by omega) fun s => ?_
      have ht : m.entries.take (i + 1) = m.entries.take i ++ [n] := by
        rw [List.take_add_one, ← List.head?_drop, hd]; rfl
      rw [ht, List.mem_cons, List.mem_append, List.mem_singleton, hs s]
      exact ⟨fun q => q.elim .inr .inl, fun q => q.elim .inr .inl⟩
theorem dtree1 (hf : m.funcs.length ≤ 40) (hg : m.globals.length ≤ 40) (K : R) (hK : ∀ l : List Int, l = m.funcs.map (·.name) → DT1 m m.funcs.length l = K) : ∀ (rest : List MFun) (i : Nat) (l : List Int), m.funcs.drop i = rest → i ≤ m.funcs.length → l.length = i → l ++ rest.map (·.name) = m.funcs.map (·.name) → DT1 m i l = K
  | [], i, l, hd, hi, hl, he => by
    have := done_of_drop hd
    obtain rfl : i = m.funcs.length := by omega
    exact hK l (by simpa using he)
  | f :: rest, i, l, hd, hi, hl, he => by
    have hlt := lt_of_drop hd
    have ih := dtree1 hf hg K hK rest (i + 1) (l ++ [f.name]) (drop_next hd) (by omega) (by simp [hl]) (by rw [← he]; simp)
    unfold DT1 at ih ⊢
    have k1 : kF .i64 l ++ [F.s (.int .i64 f.name)] = kF .i64 (l ++ [f.name]) := by simp [kF]
    have hn : (elem (.lst m.funcs.length (funsF m.funcs)) (i : Int) 5 fun c => atI .i64 (c.drop 0) 0 fun n1002 => if 1 = 1 ∧ (l.length + 1) * 8 ≤ 140737488355328 then if 0 + (l.length * 1) ≤ (kF .i64 l).length then if 0 + ((l.length + 1) * 1) ≤ ((((kF .i64 l).drop 0).take (l.length * 1)) ++ ([F.s (.int .i64 n1002)])).length then dTree_1 m.strings.length (sF m.strings) m.globals.length (kF .i64 m.globals) m.funcs.length (funsF m.funcs) m.entries.length (kF .i64 m.entries) (l.length + 1) (IntKind.wrap .i64 (i + 1)) ((((((kF .i64 l).drop 0).take (l.length * 1)) ++ ([F.s (.int .i64 n1002)])).drop 0).take ((l.length + 1) * 1)) else none else none else none) = K := by
      rw [elem_next MFun.F_len hd, MFun.F, List.drop_zero, List.cons_append, atI_zero, if_pos ⟨rfl, by omega⟩, if_pos (by simp), List.drop_zero, List.take_of_length_le (l := kF .i64 l) (by simp), k1, if_pos (by simp), List.drop_zero, List.take_of_length_le (by simp), show ((i : Nat) : Int) + 1 = ((i + 1 : Nat) : Int) by omega, wN (by omega)]
      rw [← ih]; congr 1; simp
    rw [dTree_1_eq, if_pos (decide_eq_true (by omega))]
    exact hn
end
theorem dTree_core (m : Mod) (ha : argsOk m) (hn : ∀ f ∈ m.funcs, f.locals.length ≤ big ∧ f.sites.length ≤ big) : dTree_0 m.strings.length (sF m.strings) m.globals.length (kF .i64 m.globals) m.funcs.length (funsF m.funcs) m.entries.length (kF .i64 m.entries) = some (.ret (.tup (tupV (treeR m))), []) := by
  have key : ∀ x : Int, wholeR m = x → 0 < x → treeR m = some (x, -1, -1) := fun x hx h0 => by
    unfold treeR; rw [if_pos (by omega), hx]
  unfold wholeR at key
  rw [dTree_eq]
  by_cases c1 : 40 < m.globals.length
  · rw [if_neg (by simp; omega), key 2 (if_pos (.inl c1)) (by omega)]; rfl
  rw [if_pos (by simp; omega)]
  by_cases c2 : 40 < m.funcs.length
  · rw [if_neg (by simp; omega), key 2 (if_pos (.inr (.inl c2))) (by omega)]; rfl
  rw [if_pos (by simp; omega)]
  by_cases c3 : 40 < m.entries.length
  · rw [if_pos (by simp; omega), key 2 (if_pos (.inr (.inr c3))) (by omega)]; rfl
  rw [if_neg (by simp; omega)]
  rw [if_neg (show ¬ (40 < m.globals.length ∨ 40 < m.funcs.length ∨ 40 < m.entries.length) by omega)] at key
  refine dtree1 m (by omega) (by omega) _ (fun l hl => ?_) m.funcs 0 [] rfl (by omega) rfl (by simp)
  have hll : l.length ≤ big := by rw [hl, List.length_map]; unfold big; omega
  unfold DT1
  have e1 : ∀ h0 : H, run w0 32 [.agg [.f (.lst m.strings.length (sF m.strings)), .f (.lst m.globals.length (kF .i64 m.globals)), .f (.lst m.funcs.length (funsF m.funcs)), .f (.lst m.entries.length (kF .i64 m.entries))], .f (.lst m.globals.length (kF .i64 m.globals))] h0 = some (.ret (I (namesR m.strings m.globals [])), h0) := fun h0 => dnamed_spec m m.globals (by unfold big; omega) h0
  have e2 := dnamed_own m l hll
  rw [dTree_1_eq, if_neg (by simp), e1, pI_some]
  by_cases c4 : 0 < namesR m.strings m.globals []
  · rw [if_pos (by simp; omega), key _ (if_pos c4) c4]; rfl
  rw [if_neg (by simp; omega), e2, pI_some, hl]
  rw [if_neg c4] at key
  by_cases c5 : 0 < namesR m.strings (m.funcs.map (·.name)) []
  · rw [if_pos (by simp; omega), key _ (if_pos c5) c5]; rfl
  rw [if_neg (by simp; omega)]
  rw [if_neg c5] at key
  have h2 := dtree2 m (by omega) m.entries 0 [] rfl (by omega) (by simp)
  refine h2.trans ?_
  by_cases c6 : 0 < entriesR m.funcs.length m.entries []
  · rw [if_pos c6, key _ rfl c6]
  rw [if_neg c6]
  have h4 := dtree4 m (by unfold big; omega) ha hn m.funcs 0 rfl (by omega)
  rw [h4]
  have hz : ¬ 0 < wholeR m := by
    unfold wholeR
    rw [if_neg (show ¬ (40 < m.globals.length ∨ 40 < m.funcs.length ∨ 40 < m.entries.length) by omega), if_neg c4, if_neg c5]
    exact c6
  unfold treeR
  rw [if_neg hz]
theorem dTree_spec (m : Mod) (ha : argsOk m) (hn : ∀ f ∈ m.funcs, f.locals.length ≤ big ∧ f.sites.length ≤ big) (h0 : H) : run w0 13 [.agg (modV m)] h0 = some (.ret (.tup (tupV (treeR m))), h0) := by
  rw [dTree_run, dTree_core m ha hn]
  cases treeR m <;> rfl
/-! ### Check -/
noncomputable abbrev DC1 (m : Mod) (i : Nat) : R := dCheck_1 m.strings.length (sF m.strings) m.globals.length (kF .i64 m.globals) m.funcs.length (funsF m.funcs) m.entries.length (kF .i64 m.entries) i
theorem dcheck1 (m : Mod) (hs : m.strings.length ≤ big) (hG : m.globals.length ≤ big) (hN : m.funcs.length ≤ big) (hF : ∀ f ∈ m.funcs, f.locals.length ≤ big ∧ f.sites.length ≤ big) :
    ∀ (rest : List ByteArray) (i : Nat) (p : Option ByteArray), m.strings.drop i = rest → i ≤ m.strings.length → (∀ q, p = some q → 0 < i ∧ m.strings.drop (i - 1) = q :: m.strings.drop i) → (p = none → i = 0) →
    DC1 m i = some (.ret (.tup (tupV (if sortR (usedR m) i p rest = true then none else some (10, -1, -1)))), [])
  | [], i, p, hd, hi, h1, h2 => by
    have := done_of_drop hd
    unfold DC1
    rw [dCheck_1_eq, if_neg (by simp; omega)]; rfl
  | s :: rest, i, p, hd, hi, h1, h2 => by
    have hlt := lt_of_drop hd
    have ih := dcheck1 m hs hG hN hF rest (i + 1) (some s) (drop_next hd) (by omega) (fun q hq => ⟨by omega, by cases hq; rw [show i + 1 - 1 = i by omega, hd, drop_next hd]⟩) (fun h => by cases h)
    unfold big at hs
    unfold DC1 at ih ⊢
    have e : ∀ h0 : H, run w0 35 [.agg [.f (.lst m.strings.length (sF m.strings)), .f (.lst m.globals.length (kF .i64 m.globals)), .f (.lst m.funcs.length (funsF m.funcs)), .f (.lst m.entries.length (kF .i64 m.entries))], N .i64 (i : Int)] h0 = some (.ret (B (decide ((i : Int) ∈ usedR m))), h0) := fun h0 => mUsed_spec hG hN hF (i : Int) h0
    rw [dCheck_1_eq, if_pos (decide_eq_true (by omega)), e, pB_some]
    unfold sortR
    by_cases hu : (i : Int) ∈ usedR m
    · rw [if_pos (by simp [hu]), decide_eq_true hu, Bool.true_and]
      cases p with
      | none =>
        have := h2 rfl
        subst this
        rw [if_neg (by simp), show ((0 : Nat) : Int) + 1 = ((0 + 1 : Nat) : Int) by omega, wN (by omega), Bool.true_and]
        exact ih
      | some q =>
        obtain ⟨hp, hq⟩ := h1 q rfl
        rw [if_pos (decide_eq_true (by omega)), show ((i : Nat) : Int) - 1 = ((i - 1 : Nat) : Int) by omega, wN (by omega), elem_sF hq, atS_zero, elem_sF hd, atS_zero]
        dsimp only
        by_cases hb : Op.bytesLess q.toList s.toList = true
        · have e2 : (Op.bytesLess q.toList s.toList && sortR (usedR m) (i + 1) (some s) rest) = sortR (usedR m) (i + 1) (some s) rest := by rw [hb]; rfl
          rw [if_neg (by rw [hb]; simp), show ((i : Nat) : Int) + 1 = ((i + 1 : Nat) : Int) by omega, wN (by omega), e2]
          exact ih
        · have hb' : Op.bytesLess q.toList s.toList = false := by simpa using hb
          rw [if_pos (by rw [hb']; rfl), if_neg (by rw [hb']; simp)]; rfl
    · rw [if_neg (by simp [hu]), decide_eq_false hu, Bool.false_and, if_neg (by simp)]; rfl
theorem dCheck_core (m : Mod) (hs : m.strings.length ≤ big) (hG : m.globals.length ≤ big) (hN : m.funcs.length ≤ big) (ha : argsOk m) (hF : ∀ f ∈ m.funcs, f.locals.length ≤ big ∧ f.sites.length ≤ big) : dCheck_0 m.strings.length (sF m.strings) m.globals.length (kF .i64 m.globals) m.funcs.length (funsF m.funcs) m.entries.length (kF .i64 m.entries) = some (.ret (.tup (tupV (checkR m))), []) := by
  have e : ∀ h0 : H, run w0 13 [.agg [.f (.lst m.strings.length (sF m.strings)), .f (.lst m.globals.length (kF .i64 m.globals)), .f (.lst m.funcs.length (funsF m.funcs)), .f (.lst m.entries.length (kF .i64 m.entries))]] h0 = some (.ret (.tup (tupV (treeR m))), h0) := fun h0 => dTree_spec m ha hF h0
  have h1 := dcheck1 m hs hG hN hF m.strings 0 none rfl (by omega) (fun q h => by cases h) (fun _ => rfl)
  unfold DC1 at h1
  rw [show ((0 : Nat) : Int) = 0 from rfl] at h1
  rw [dCheck_eq, e, h1]
  have hpos : ∀ x, treeR m = some x → 0 < x.1 := fun x hx => by
    unfold treeR at hx
    split at hx
    · cases hx; assumption
    · generalize 0 = i at hx
      generalize m.funcs = l at hx
      induction l generalizing i with
      | nil => cases hx
      | cons f l ih =>
        unfold funsR at hx
        split at hx
        · cases hx; assumption
        · split at hx
          · rename_i n s hh
            cases hx
            have : ∀ its : List MItem, stmtsR m f its = some (n, s) → 0 < n := fun its => by
              induction its with
              | nil => intro h; cases h
              | cons y its ih2 =>
                intro h
                unfold stmtsR at h
                split at h
                · cases h; assumption
                · exact ih2 h
            exact this _ hh
          · exact ih _ hx
  unfold checkR
  rcases hx : treeR m with _ | ⟨a, b, c⟩
  · unfold sortedR; rfl
  · have := hpos _ hx
    dsimp only at this
    simp only [tupV, pT_some, cI, List.getElem?_cons_zero, List.getElem?_cons_succ, Option.bind_some, V.int?, V.f?, F.int?, if_true, List.length_cons, List.length_nil]
    rw [if_pos (by simp; omega)]
theorem dCheck_spec (m : Mod) (hs : m.strings.length ≤ big) (hG : m.globals.length ≤ big) (hN : m.funcs.length ≤ big) (ha : argsOk m) (hF : ∀ f ∈ m.funcs, f.locals.length ≤ big ∧ f.sites.length ≤ big) (h0 : H) : run w0 14 [.agg (modV m)] h0 = some (.ret (.tup (tupV (checkR m))), h0) := by
  rw [dCheck_run, dCheck_core m hs hG hN ha hF]
  cases checkR m <;> rfl
end Go.Proofs.Ytjefolfbdohkcaa
