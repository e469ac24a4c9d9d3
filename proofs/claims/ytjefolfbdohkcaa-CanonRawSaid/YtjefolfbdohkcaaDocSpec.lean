/-
  The document's own rules of modules: references, kinds of statements, names.
-/
import Derived.Test.YtjefolfbdohkcaaMakeSpec2
import Derived.Test.YtjefolfbdohkcaaEqCanonD
set_option autoImplicit false
set_option linter.unusedVariables false
set_option linter.unusedSimpArgs false
namespace Go.Proofs.Ytjefolfbdohkcaa
open Go Go.Abs
theorem dvariable_spec (r : MRef) (h0 : H) : run w0 74 [.agg (refV r)] h0 = some (.ret (B (varR r)), h0) := by
  rw [dvariable_run, dvariable_eq]
  unfold varR
  by_cases h1 : r.k = 1
  · rw [if_neg (by simp [h1]), withH_true]; simp [h1]
  · rw [if_pos (by simpa using h1), withH_true]; simp [h1, ibeq]
theorem dhere_spec (m : Mod) (f : MFun) (r : MRef) (hk : 0 ≤ r.k ∧ r.k ≤ 4) (h0 : H) : run w0 55 [.agg (modV m), .agg (funV f), .agg (refV r)] h0 = some (.ret (B (thereR m f r)), h0) := by
  rw [dhere_run, dhere_eq, if_pos ⟨rfl, hk.1, by show r.k < (5 : Int); omega⟩]
  unfold thereR
  obtain ⟨k, i⟩ := r
  dsimp only at hk ⊢
  have fin : ∀ n : Nat, withH true h0 (if (decide (i ≥ 0)) = true then some (.ret (B (decide (i < (n : Int)))), ([] : H)) else some (.ret (B false), [])) = some (.ret (B (decide (0 ≤ i) && decide (i < (n : Int)))), h0) := fun n => by
    by_cases hi : 0 ≤ i
    · rw [if_pos (decide_eq_true hi), withH_true]; simp [hi]
    · rw [if_neg (by simpa using hi), withH_true]; simp [hi]
  have hc : k = 0 ∨ k = 1 ∨ k = 2 ∨ k = 3 ∨ k = 4 := by omega
  rcases hc with rfl | rfl | rfl | rfl | rfl
  · refine (fin 1).trans ?_
    rw [if_pos rfl]
    congr 4
    rw [Bool.eq_iff_iff]; simp; omega
  · exact fin _
  · exact fin _
  · exact fin _
  · exact fin _
theorem dfits_loop (k : Int) (a b : MRef) (args : List MRef) (body : List MStmt) (hl : args.length < 4611686018427387904) : ∀ (rest : List MRef) (i : Nat), args.drop i = rest → i ≤ args.length →
    dfits_1 k a.k a.id b.k b.id args.length (refsF args) body.length (stmtsF body) 0 0 i = some (.ret (B (decide ((∀ r ∈ rest, varR r = true) ∧ (a = ⟨0, 0⟩ ∨ varR a = true) ∧ (varR b = true ∨ b.k = 3)))), [])
  | [], i, hd, hi => by
    have := done_of_drop hd
    have hz : ((a.k == 0) && ((a.id == 0) && true)) = decide (a = ⟨0, 0⟩) := by cases a; rw [Bool.eq_iff_iff]; simp
    rw [dfits_1_eq, if_neg (by simp; omega), hz, dvariable_spec a, dvariable_spec b, pB_some, pB_some]
    by_cases hz : a = ⟨0, 0⟩
    · rw [if_neg (by simp [hz])]
      cases hb : varR b
      · rw [if_pos rfl]; simp [hz, ibeq]
      · rw [if_neg (by simp)]; simp [hz]
    · rw [if_pos (by simp [hz])]
      cases ha : varR a
      · simp [hz]
      · rw [if_pos rfl]
        cases hb : varR b
        · rw [if_pos rfl]; simp [ibeq]
        · rw [if_neg (by simp)]; simp
  | r :: rest, i, hd, hi => by
    have hlt := lt_of_drop hd
    rw [dfits_1_eq, if_pos (decide_eq_true (by omega)), elem_next MRef.F_len hd]
    simp only [MRef.F, List.cons_append, atI_zero, atI_succ]
    rw [dvariable_spec r, pB_some]
    cases hr : varR r
    · rw [if_pos (by simp)]; simp [hr]
    · rw [if_neg (by simp), show ((i : Int) + 1) = ((i + 1 : Nat) : Int) by omega, wN (by omega), dfits_loop k a b args body hl rest (i + 1) (drop_next hd) (by omega)]
      simp [hr]
theorem dfits_core (k : Int) (a b : MRef) (args : List MRef) (body : List MStmt) (hl : args.length < 4611686018427387904) : dfits_0 k a.k a.id b.k b.id args.length (refsF args) body.length (stmtsF body) = some (.ret (B (kindsR (.mk k a b args body))), []) := by
  have hz : ∀ r : MRef, ((r.k == 0) && ((r.id == 0) && true)) = decide (r = ⟨0, 0⟩) := by
    intro r; cases r; rw [Bool.eq_iff_iff]; simp
  rw [dfits_eq]
  simp only [dvariable_spec a, dvariable_spec b, pB_some, hz]
  have hloop := dfits_loop k a b args body hl args 0 rfl (by omega)
  have hloop' : dfits_1 k a.k a.id b.k b.id args.length (refsF args) body.length (stmtsF body) 0 0 0 = _ := hloop
  simp only [hloop']
  have el : decide ((args.length : Int) > 0) = !decide (args = []) := by cases args <;> simp
  have eb : decide ((body.length : Int) > 0) = !decide (body = []) := by cases body <;> simp
  simp only [el, eb]
  unfold kindsR
  simp only [MStmt.kind, MStmt.a, MStmt.b, MStmt.args, MStmt.body]
  by_cases k1 : k = 1
  · subst k1; by_cases h1 : args = [] <;> by_cases h2 : body = [] <;> by_cases h3 : varR a = true <;> by_cases h4 : 1 ≤ b.k <;> simp [h1, h2, h3, h4]
  by_cases k2 : k = 2
  · subst k2; by_cases h1 : args = [] <;> by_cases h2 : body = [] <;> by_cases h3 : varR a = true <;> by_cases h4 : varR b = true <;> simp [h1, h2, h3, h4]
  by_cases k3 : k = 3
  · subst k3; by_cases h1 : args = [] <;> by_cases h2 : body = [] <;> by_cases h3 : varR a = true <;> by_cases h4 : varR b = true <;> simp [h1, h2, h3, h4]
  by_cases k4 : k = 4
  · subst k4; by_cases h1 : args = [] <;> by_cases h2 : body = [] <;> by_cases h3 : varR a = true <;> by_cases h4 : varR b = true <;> simp [h1, h2, h3, h4]
  by_cases k5 : k = 5
  · subst k5; by_cases h2 : body = [] <;> simp [h2]
  by_cases k6 : k = 6
  · subst k6; by_cases h1 : args = [] <;> by_cases h2 : body = [] <;> by_cases h3 : a = ⟨0, 0⟩ <;> by_cases h4 : varR b = true <;> simp [h1, h2, h3, h4]
  by_cases k7 : k = 7
  · subst k7; by_cases h1 : args = [] <;> by_cases h3 : a = ⟨0, 0⟩ <;> by_cases h4 : b = ⟨0, 0⟩ <;> simp [h1, h3, h4]
  · have : k < 1 ∨ 7 < k := by omega
    rcases this with h | h
    · rw [if_neg (by simpa using h)]; simp [k1, k2, k3, k4, k5, k6, k7]
    · rw [if_pos (by simp; omega), if_neg (by simpa using h)]; simp [k1, k2, k3, k4, k5, k6, k7]
theorem dfits_spec (s : MStmt) (hl : s.args.length < 4611686018427387904) (h0 : H) : run w0 54 [.agg (stmtV s)] h0 = some (.ret (B (kindsR s)), h0) := by
  rw [dfits_run]
  obtain ⟨k, a, b, args, body⟩ := s
  exact (congrArg (withH true h0) (dfits_core k a b args body hl)).trans (withH_true _ _ _)
theorem kinds_refs {s : MStmt} (h : kindsR s = true) : (0 ≤ s.a.k ∧ s.a.k ≤ 4) ∧ (0 ≤ s.b.k ∧ s.b.k ≤ 4) ∧ ∀ r ∈ s.args, 0 ≤ r.k ∧ r.k ≤ 4 := by
  have hv : ∀ r : MRef, varR r = true → 0 ≤ r.k ∧ r.k ≤ 4 := fun r hr => by
    unfold varR at hr
    simp only [decide_eq_true_eq] at hr
    omega
  have hz : ∀ r : MRef, r = ⟨0, 0⟩ → 0 ≤ r.k ∧ r.k ≤ 4 := by rintro r rfl; simp
  have hn : s.args = [] → ∀ r ∈ s.args, 0 ≤ r.k ∧ r.k ≤ 4 := fun e r hr => by rw [e] at hr; cases hr
  unfold kindsR at h
  split at h
  · simp only [decide_eq_true_eq] at h
    exact ⟨hv _ h.2.2.1, by omega, hn h.1⟩
  split at h
  · simp only [decide_eq_true_eq] at h
    exact ⟨hv _ h.2.2.1, hv _ h.2.2.2, hn h.1⟩
  split at h
  · simp only [decide_eq_true_eq] at h
    exact ⟨h.2.2.1.elim (hz _) (hv _), h.2.2.2.elim (hv _) (fun e => by omega), fun r hr => hv _ (h.1 r hr)⟩
  split at h
  · simp only [decide_eq_true_eq] at h
    exact ⟨hz _ h.2.2.1, hv _ h.2.2.2, hn h.1⟩
  split at h
  · simp only [decide_eq_true_eq] at h
    exact ⟨hz _ h.1, hz _ h.2.1, hn h.2.2⟩
  · cases h
theorem dstmt_loop (m : Mod) (f : MFun) (s : MStmt) (hl : s.args.length < 4611686018427387904) (hb : thereR m f s.b = true) (hr : ∀ r ∈ s.args, 0 ≤ r.k ∧ r.k ≤ 4) : ∀ (rest : List MRef) (i : Nat), s.args.drop i = rest → i ≤ s.args.length →
    dbroken_1 m.strings.length (sF m.strings) m.globals.length (kF .i64 m.globals) m.funcs.length (funsF m.funcs) m.entries.length (kF .i64 m.entries) f.name f.params f.locals.length (kF .i64 f.locals) f.sites.length (kF .i64 f.sites) f.body.length (stmtsF f.body) s.kind s.a.k s.a.id s.b.k s.b.id s.args.length (refsF s.args) s.body.length (stmtsF s.body) i =
      some (.ret (I (if ∃ r ∈ rest, thereR m f r = false then 8 else if s.kind = 5 ∧ (6 < s.args.length ∨ s.b.k = 3 ∧ (s.args.length : Int) ≠ (m.funcs[s.b.id.toNat]?.getD default).params) then 9 else 0)), [])
  | [], i, hd, hi => by
    have := done_of_drop hd
    rw [dbroken_1_eq, if_neg (by simp; omega)]
    by_cases k5 : s.kind = 5
    · rw [if_pos (by simp [k5])]
      by_cases h6 : 6 < s.args.length
      · rw [if_neg (by simp; omega)]; simp [k5, h6]
      · rw [if_pos (by simp; omega)]
        by_cases k3 : s.b.k = 3
        · obtain ⟨j, hj, hjl⟩ := thereR_fun hb k3
          have hg : m.funcs[j]? = some m.funcs[j] := List.getElem?_eq_getElem _
          rw [if_pos (by simp [k3]), hj, elem_next MFun.F_len (drop_get hjl)]
          simp only [MFun.F, List.cons_append, List.drop_succ_cons, List.drop_zero, atI_zero, Int.toNat_natCast, hg, Option.getD_some]
          by_cases hp : (s.args.length : Int) = m.funcs[j].params
          · rw [if_neg (by simp [hp])]; simp [k5, h6, k3, hp]
          · rw [if_pos (by simp [hp])]; simp [k5, h6, k3, hp]
        · rw [if_neg (by simpa using k3)]; simp [k5, h6, k3]
    · rw [if_neg (by simpa using k5)]; simp [k5]
  | r :: rest, i, hd, hi => by
    have hlt := lt_of_drop hd
    have hm : r ∈ s.args := List.mem_of_mem_drop (by rw [hd]; simp : r ∈ s.args.drop i)
    rw [dbroken_1_eq, if_pos (by simp; omega), elem_next MRef.F_len hd]
    simp only [MRef.F, List.cons_append, atI_zero, atI_succ]
    rw [dhere_spec m f r (hr r hm), pB_some]
    cases hr' : thereR m f r
    · rw [if_pos (by simp)]; simp [hr']
    · rw [if_neg (by simp), wrap_i64 (by omega) (by omega)]
      have := dstmt_loop m f s hl hb hr rest (i + 1) (drop_next hd) (by omega)
      rw [show ((i : Int) + 1) = ((i + 1 : Nat) : Int) by omega, this]
      simp [hr']
theorem dbroken_spec (m : Mod) (f : MFun) (n : Int) (d : Nat) (s : MStmt) (hl : s.args.length < 4611686018427387904) (h0 : H) : run w0 34 [.agg (modV m), .agg (funV f), .agg (I n :: I d :: stmtV s)] h0 = some (.ret (I (stmtR m f d s)), h0) := by
  rw [dbroken_run, dbroken_eq]
  unfold stmtR
  by_cases hd : 8 < d
  · rw [if_pos (by simp; omega), if_pos hd, withH_true]
  · rw [if_neg (by simp; omega), if_neg hd, dfits_spec s hl, pB_some]
    cases hk : kindsR s
    · rw [if_pos (by simp), if_pos rfl, withH_true]
    · obtain ⟨ra, rb, rr⟩ := kinds_refs hk
      rw [if_neg (by simp), if_neg (by simp), dhere_spec m f s.a ra, pB_some]
      cases ha : thereR m f s.a
      · rw [if_neg (by simp), withH_true]; simp
      · rw [if_pos (by simp), dhere_spec m f s.b rb, pB_some]
        cases hb : thereR m f s.b
        · rw [if_pos (by simp), withH_true]; simp
        · rw [if_neg (by simp)]
          have := dstmt_loop m f s hl hb rr s.args 0 rfl (by omega)
          rw [show ((0 : Nat) : Int) = 0 from rfl] at this
          rw [this, withH_true]
          simp
/-! ### names -/
def strN (ss : List ByteArray) (n : Int) : ByteArray := ss[n.toNat]?.getD default
theorem name_in {ss : List ByteArray} {n : Int} (h : isName ss n = true) : ∃ j : Nat, n = j ∧ j < ss.length ∧ ss[j]? = some (strN ss n) := by
  have := isName_in h
  refine ⟨n.toNat, by omega, by omega, ?_⟩
  unfold strN
  rw [List.getElem?_eq_getElem (by omega)]; rfl
theorem elem_name {ss : List ByteArray} {n : Int} (h : isName ss n = true) (K : ByteArray → R) : (elem (.lst ss.length (sF ss)) n 1 fun c => atS c 0 K) = K (strN ss n) := by
  obtain ⟨j, hj, hl, hs⟩ := name_in h
  have hd : ss.drop j = strN ss n :: ss.drop (j + 1) := by
    rw [drop_get hl]; congr 1
    rw [List.getElem?_eq_getElem hl] at hs; exact Option.some.inj hs
  rw [show n = ((j : Nat) : Int) from hj] at *
  rw [elem_sF hd, atS_zero]
theorem beq_lists (a b : ByteArray) : (a.toList == b.toList) = decide (a = b) := by
  rw [Bool.eq_iff_iff]; simp only [beq_iff_eq, decide_eq_true_eq]
  exact ⟨fun h => by rw [ByteArray.toList_eq, ByteArray.toList_eq] at h; cases a; cases b; simp at h; rw [h], fun h => by rw [h]⟩
section
variable (m : Mod) (l : List Int) (hl : l.length ≤ big)
noncomputable abbrev DN1 (m : Mod) (l : List Int) (i : Nat) : R := dnamed_1 l.length (kF .i64 l) m.strings.length (sF m.strings) m.globals.length (kF .i64 m.globals) m.funcs.length (funsF m.funcs) m.entries.length (kF .i64 m.entries) i
noncomputable abbrev DN2 (m : Mod) (l : List Int) (i k : Nat) : R := dnamed_2 l.length (kF .i64 l) m.strings.length (sF m.strings) m.globals.length (kF .i64 m.globals) m.funcs.length (funsF m.funcs) m.entries.length (kF .i64 m.entries) i k
include hl
theorem dnamed2 (i : Nat) (n : Int) (r : List Int) (hd : l.drop i = n :: r) (hn : isName m.strings n = true) (ha : ∀ x ∈ l.take i, isName m.strings x = true) : ∀ (g : List Int) (k : Nat), (l.take i).drop k = g →
    DN2 m l i k = if ∃ x ∈ g, strN m.strings x = strN m.strings n then some (.ret (I 3), []) else DN1 m l (i + 1)
  | [], k, h => by
    have hk := done_of_drop h
    have hlt := lt_of_drop hd
    rw [List.length_take] at hk
    unfold big at hl
    unfold DN2
    rw [dnamed_2_eq, if_neg (by simp; omega), if_neg (by simp), show ((i : Nat) : Int) + 1 = ((i + 1 : Nat) : Int) by omega, wN (by omega)]
  | x :: g, k, h => by
    have hk := lt_of_drop h
    have hlt := lt_of_drop hd
    rw [List.length_take] at hk
    have hx : isName m.strings x = true := ha x (List.mem_of_mem_drop (by rw [h]; simp : x ∈ (l.take i).drop k))
    have hd' : l.drop k = x :: l.drop (k + 1) := by
      have h1 : (l.take i)[k]? = some x := by rw [← List.head?_drop, h]; rfl
      rw [List.getElem?_take_of_lt (by omega)] at h1
      rw [drop_get (by omega : k < l.length)]
      congr 1
      rw [List.getElem?_eq_getElem (by omega)] at h1; exact Option.some.inj h1
    have ih := dnamed2 i n r hd hn ha g (k + 1) (drop_next h)
    unfold big at hl
    unfold DN2 at ih ⊢
    rw [dnamed_2_eq, if_pos (decide_eq_true (by omega)), elem_kF hd', atI_zero, elem_name hx, elem_kF hd, atI_zero, elem_name hn, beq_lists]
    by_cases he : strN m.strings x = strN m.strings n
    · rw [if_pos (decide_eq_true he), if_pos ⟨x, by simp, he⟩]
    · rw [if_neg (by simpa using he), show ((k : Nat) : Int) + 1 = ((k + 1 : Nat) : Int) by omega, wN (by omega), ih]
      simp [he]
theorem dnamed1 : ∀ (rest : List Int) (i : Nat) (seen : List ByteArray), l.drop i = rest → i ≤ l.length → (∀ x ∈ l.take i, isName m.strings x = true) → (∀ s, s ∈ seen ↔ ∃ x ∈ l.take i, strN m.strings x = s) →
    DN1 m l i = some (.ret (I (namesR m.strings rest seen)), [])
  | [], i, seen, hd, hi, ha, hs => by
    have := done_of_drop hd
    unfold DN1
    rw [dnamed_1_eq, if_neg (by simp; omega)]; rfl
  | n :: rest, i, seen, hd, hi, ha, hs => by
    have hlt := lt_of_drop hd
    unfold DN1
    rw [dnamed_1_eq, if_pos (decide_eq_true (by omega)), elem_kF hd, atI_zero]
    unfold namesR
    rw [show m.strings[n.toNat]?.getD default = strN m.strings n from rfl]
    by_cases hn : isName m.strings n = true
    · have hin := isName_in hn
      rw [if_pos (by simp; omega), elem_kF hd, atI_zero, if_pos (by simp; omega), elem_kF hd, atI_zero, elem_name hn]
      have h2 : (strN m.strings n).data.toList ≠ [] ∧ (strN m.strings n).size ≤ 40 := by
        obtain ⟨j, hj, hjl, hjs⟩ := name_in hn
        unfold isName at hn
        rw [show n.toNat = j by omega, hjs] at hn
        simpa [hj] using hn
      rw [if_pos (by rw [beq_lists]; simp only [decide_eq_false_iff_not]; intro e; rw [e] at h2; exact h2.1 rfl), elem_kF hd, atI_zero, elem_name hn, if_neg (by simp; omega), if_neg (by simp [hn])]
      have e := dnamed2 m l hl i n rest hd hn ha (l.take i) 0 rfl
      refine e.trans ?_
      have ht : l.take (i + 1) = l.take i ++ [n] := by
        rw [List.take_add_one, ← List.head?_drop, hd]; rfl
      by_cases he : ∃ x ∈ l.take i, strN m.strings x = strN m.strings n
      · rw [if_pos he, if_pos (show strN m.strings n ∈ seen from (hs _).2 he)]
      · rw [if_neg he, if_neg (show ¬ strN m.strings n ∈ seen from fun q => he ((hs _).1 q))]
        refine dnamed1 rest (i + 1) (strN m.strings n :: seen) (drop_next hd) (by omega) ?_ ?_
        · intro x hx
          rw [ht] at hx
          rcases List.mem_append.1 hx with q | q
          · exact ha x q
          · rw [List.mem_singleton.1 q]; exact hn
        · intro s
          rw [ht, List.mem_cons, hs s]
          constructor
          · rintro (rfl | ⟨x, hx, rfl⟩)
            · exact ⟨n, by simp, rfl⟩
            · exact ⟨x, by simp [hx], rfl⟩
          · rintro ⟨x, hx, rfl⟩
            rcases List.mem_append.1 hx with q | q
            · exact .inr ⟨x, q, rfl⟩
            · rw [List.mem_singleton.1 q]; exact .inl rfl
    · rw [if_pos (show isName m.strings n = false by simpa using hn)]
      by_cases h0 : n < 0
      · rw [if_neg (by simpa using h0)]
      rw [if_pos (by simpa using h0), elem_kF hd, atI_zero]
      by_cases h1 : (m.strings.length : Int) ≤ n
      · rw [if_neg (by simpa using h1)]
      rw [if_pos (by simp; omega), elem_kF hd, atI_zero]
      obtain ⟨j, rfl⟩ : ∃ j : Nat, n = j := ⟨n.toNat, by omega⟩
      have hj : j < m.strings.length := by omega
      rw [elem_sF (drop_get hj), atS_zero, elem_kF hd, atI_zero, elem_sF (drop_get hj), atS_zero]
      have hg : m.strings[j]? = some m.strings[j] := List.getElem?_eq_getElem _
      unfold isName at hn
      rw [Int.toNat_natCast, hg] at hn
      generalize m.strings[j] = s at *
      by_cases hz : s.data.toList = []
      · rw [if_neg (by rw [beq_lists]; simp only [decide_eq_false_iff_not, Classical.not_not]; cases s with | mk d => cases d; simp at hz; rw [hz])]
      · rw [if_pos (by rw [beq_lists]; simp only [decide_eq_false_iff_not]; intro e; rw [e] at hz; exact hz rfl)]
        rw [if_pos (by simp [hz] at hn; simp; omega)]
theorem dnamed_core : dnamed_0 m.strings.length (sF m.strings) m.globals.length (kF .i64 m.globals) m.funcs.length (funsF m.funcs) m.entries.length (kF .i64 m.entries) l.length (kF .i64 l) = some (.ret (I (namesR m.strings l [])), []) := by
  rw [dnamed_eq]
  exact dnamed1 m l hl l 0 [] rfl (by omega) (by simp) (by simp)
theorem dnamed_spec (h0 : H) : run w0 32 [.agg (modV m), .f (.lst l.length (kF .i64 l))] h0 = some (.ret (I (namesR m.strings l [])), h0) := by
  rw [dnamed_run, dnamed_core m l hl, withH_true]
theorem dnamed_own : run w0 32 [.agg (modV m), .ref 0 0 l.length 1] [.fz (kF .i64 l)] = some (.ret (I (namesR m.strings l [])), [.fz (kF .i64 l)]) := by
  rw [dnamed_vr0_z, if_pos (by simp), List.drop_zero, List.take_of_length_le (by simp), dnamed_core m l hl, withH_scal _ _ _ _ rfl]
end
end Go.Proofs.Ytjefolfbdohkcaa
