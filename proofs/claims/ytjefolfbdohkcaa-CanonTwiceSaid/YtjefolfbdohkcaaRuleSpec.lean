/-
  What each function of layer 6 answers.
-/
import Derived.Test.YtjefolfbdohkcaaEqCanon
import Derived.Test.YtjefolfbdohkcaaRules
set_option autoImplicit false
set_option linter.unusedVariables false
set_option linter.unusedSimpArgs false
namespace Go.Proofs.Ytjefolfbdohkcaa
open Go Go.Abs
theorem ckname_spec (m : Mod) (n : Int) (h0 : H) : run w0 75 [.agg (modV m), N .i64 n] h0 = some (.ret (B (isName m.strings n)), h0) := by
  rw [ckname_run, ckname_eq]
  by_cases h1 : 0 ≤ n
  · by_cases h2 : n < m.strings.length
    · obtain ⟨i, rfl⟩ : ∃ i : Nat, n = i := ⟨n.toNat, by omega⟩
      have hd := drop_get (l := m.strings) (i := i) (by omega)
      have hg : m.strings[i]? = some (m.strings[i]'(by omega)) := List.getElem?_eq_getElem _
      rw [if_pos (by simp), if_pos (by simpa using h2), elem_sF hd, atS_zero, elem_sF hd, atS_zero]
      generalize m.strings[i]'(by omega) = s at *
      have e : (s.toList == ByteArray.toList ⟨#[]⟩) = decide (s.data.toList = []) := by rw [ba_toList, ba_toList, Bool.eq_iff_iff, beq_iff_eq, decide_eq_true_iff]
      unfold isName
      rw [e, Int.toNat_natCast, hg]
      by_cases h3 : s.data.toList = []
      · rw [if_neg (by simp [h3]), withH_true]; simp [h3]
      · rw [if_pos (by simp [h3]), withH_true]
        have : decide ((s.size : Int) ≤ 40) = decide (s.size ≤ 40) := by rw [decide_eq_decide]; omega
        simp [h3, this]
    · rw [if_pos (by simpa using h1), if_neg (by simpa using h2), withH_true]
      unfold isName
      rw [List.getElem?_eq_none (by omega)]; simp
  · rw [if_neg (by simpa using h1), withH_true]
    unfold isName
    rw [decide_eq_false h1]; rfl
theorem isName_at {ss : List ByteArray} {n : Int} (h : isName ss n = true) : ∃ i : Nat, n = i ∧ i < ss.length := by
  unfold isName at h
  simp only [Bool.and_eq_true, decide_eq_true_eq] at h
  obtain ⟨h1, h2⟩ := h
  refine ⟨n.toNat, by omega, ?_⟩
  rcases Nat.lt_or_ge n.toNat ss.length with h | h
  · exact h
  · rw [List.getElem?_eq_none h] at h2; cases h2
theorem names_loop (m : Mod) (l : List Int) (hl : l.length < 4611686018427387904) : ∀ (rest : List Int) (i : Nat) (es : List (Value × F)) (seen : List ByteArray), l.drop i = rest → i ≤ l.length → (∀ s : ByteArray, mfind (.string s) es = if s ∈ seen then some (.s (.bool true)) else none) →
    cknames_1 m.strings.length (sF m.strings) m.globals.length (kF .i64 m.globals) m.funcs.length (funsF m.funcs) m.entries.length (kF .i64 m.entries) l.length (kF .i64 l) l.length i es = some (.ret (I (namesR m.strings rest seen)), [])
  | [], i, es, seen, hd, hi, he => by
    have := done_of_drop hd
    rw [cknames_1_eq, if_neg (by simp; omega)]; rfl
  | n :: rest, i, es, seen, hd, hi, he => by
    have hlt := lt_of_drop hd
    rw [cknames_1_eq, if_pos (by simp; omega), elem_kF hd, atI_zero, ckname_spec m n, pB_some]
    unfold namesR
    cases hn : isName m.strings n
    · rw [if_pos (by simp), if_pos rfl]
    · rw [if_neg (by simp), if_neg (by simp)]
      obtain ⟨j, rfl, hj⟩ := isName_at hn
      have hs := drop_get hj
      have hg : m.strings[j]? = some m.strings[j] := List.getElem?_eq_getElem _
      rw [elem_sF hs, atS_zero, he, elem_sF hs, atS_zero, Int.toNat_natCast, hg]
      simp only [Option.getD_some]
      by_cases hm : m.strings[j] ∈ seen
      · rw [if_pos hm, if_pos hm]; simp [F.bool?]
      · rw [if_neg hm, if_neg hm]
        simp only [Option.getD_none, F.bool?, Option.bind_some]
        rw [if_neg (by simp), wrap_i64 (by omega) (by omega)]
        have := names_loop m l hl rest (i + 1) (mput (.string m.strings[j]) (.s (.bool true)) es) (m.strings[j] :: seen) (drop_next hd) (by omega) (fun s => by
          rw [mfind_put_str, he]
          by_cases h : s = m.strings[j]
          · subst h; simp
          · rw [if_neg h]; simp [h])
        rw [show ((i : Int) + 1) = ((i + 1 : Nat) : Int) by omega]
        exact this
theorem cknames_spec (m : Mod) (l : List Int) (hl : l.length < 4611686018427387904) (h0 : H) : run w0 56 [.agg (modV m), .f (.lst l.length (kF .i64 l))] h0 = some (.ret (I (namesR m.strings l [])), h0) := by
  rw [cknames_run, cknames_eq]
  have := names_loop m l hl l 0 [] [] rfl (by omega) (by simp [mfind])
  have h : cknames_1 m.strings.length (sF m.strings) m.globals.length (kF .i64 m.globals) m.funcs.length (funsF m.funcs) m.entries.length (kF .i64 m.entries) l.length (kF .i64 l) l.length 0 [] = _ := this
  rw [h, withH_true]
/-! ### all statements, in order -/
theorem flats_ge (d : Nat) : ∀ (n : Nat) (l : List MStmt), l.length ≤ (flats d n l).length
  | _, [] => by simp
  | n, s :: r => by
    rw [flats_cons]
    split
    · have := flats_ge d (n + 1 + (flats (d + 1) (n + 1) s.body).length) r
      simp only [List.length_cons, List.length_append]; omega
    · have := flats_ge d (n + 1) r
      simp only [List.length_cons]; omega
theorem item_cells (l : List MItem) (x : MItem) : itemsF l ++ ([.s (.int .i64 (x.n : Int)), .s (.int .i64 (x.deep : Int)), .s (.int .u8 x.s.kind), .s (.int .u8 x.s.a.k), .s (.int .i64 x.s.a.id), .s (.int .u8 x.s.b.k), .s (.int .i64 x.s.b.id), .lst x.s.args.length (refsF x.s.args), .lst x.s.body.length (stmtsF x.s.body)] : List F) = itemsF (l ++ [x]) := by
  rw [itemsF, itemsF, List.flatMap_append]
  simp [MItem.F, MStmt.F_eq]
theorem mflat_loop : ∀ (N : Nat) (body : List MStmt) (hb : body.length < 4611686018427387904) (rest : List MStmt) (i d : Nat) (l : List MItem) (hs : SizeOf.sizeOf rest ≤ N) (hd : body.drop i = rest) (hi : i ≤ body.length) (h1 : l.length + (flats d l.length rest).length ≤ big) (h2 : d ≤ 1000),
    mflat_1 l.length d body.length (stmtsF body) body.length i (itemsF l) = some (.ret (.ref 0 0 (l ++ flats d l.length rest).length 9), [.fz (itemsF (l ++ flats d l.length rest))]) := by
  intro N
  induction N with
  | zero => intro body hb rest i d l hs; cases rest <;> simp at hs
  | succ N ih =>
  intro body hb rest i d l hs hd hi h1 h2
  have hl : (itemsF l).length = l.length * 9 := flat_len MItem.F_len l
  cases rest with
  | nil =>
    have := done_of_drop hd
    rw [mflat_1_eq, if_neg (by simp; omega), if_pos (by rw [hl]; omega), List.drop_zero, List.take_of_length_le (by rw [hl]; omega), flats_nil]
    simp
  | cons s r =>
    have hlt := lt_of_drop hd
    unfold big at h1
    have hsz : 1 ≤ (flats d l.length (s :: r)).length := by have := flats_ge d l.length (s :: r); simp at this; omega
    rw [mflat_1_eq, if_pos (by simp; omega), elem_next MStmt.F_len hd, MStmt.F_eq]
    simp only [List.cons_append, atI_zero, atI_succ, atL_zero, atL_succ, true_and]
    rw [if_pos (by omega), if_pos (by rw [hl]; omega), List.drop_zero, List.take_of_length_le (by rw [hl]; omega)]
    have hc := item_cells l ⟨l.length, d, s⟩
    dsimp only at hc
    rw [hc]
    have hl1 : (itemsF (l ++ [⟨l.length, d, s⟩])).length = (l.length + 1) * 9 := by rw [flat_len MItem.F_len]; simp
    have hl2 : (l ++ [(⟨l.length, d, s⟩ : MItem)]).length = l.length + 1 := by simp
    have plain : ((flats d (l.length + 1) r).length + 1 + l.length ≤ 1000000000000) → (if 0 + ((l.length + 1) * 9) ≤ (itemsF (l ++ [⟨l.length, d, s⟩])).length then mflat_1 (l.length + 1) d body.length (stmtsF body) body.length (IntKind.wrap .i64 ((i : Int) + 1)) (((itemsF (l ++ [⟨l.length, d, s⟩])).drop 0).take ((l.length + 1) * 9)) else none) = some (.ret (.ref 0 0 (l ++ (⟨l.length, d, s⟩ :: flats d (l.length + 1) r)).length 9), [.fz (itemsF (l ++ (⟨l.length, d, s⟩ :: flats d (l.length + 1) r)))]) := by
      intro hh
      rw [if_pos (by rw [hl1]; omega), List.drop_zero, List.take_of_length_le (by rw [hl1]; omega), wrap_i64 (by omega) (by omega)]
      have := ih body hb r (i + 1) d (l ++ [⟨l.length, d, s⟩]) (by simp at hs; omega) (drop_next hd) (by omega) (by rw [hl2]; unfold big; omega) h2
      rw [hl2] at this
      rw [show ((i : Int) + 1) = ((i + 1 : Nat) : Int) by omega, this]
      simp
    by_cases hc7 : s.kind = 7 ∧ d < 1000
    · obtain ⟨hk, hdd⟩ := hc7
      have fc : flats d l.length (s :: r) = _ := (flats_cons d l.length s r).trans (if_pos ⟨hk, hdd⟩)
      rw [fc] at h1 ⊢
      simp only [List.length_cons, List.length_append] at h1
      rw [if_pos (by simp [hk]), if_pos (by simp; omega), mflat_r2vv_dc7z, if_pos (by rw [hl1]; omega), List.drop_zero, List.take_of_length_le (by rw [hl1]; omega), mflat_eq, if_pos (by rw [hl1]; omega), List.drop_zero, List.take_of_length_le (by rw [hl1]; omega), wrap_i64 (by omega) (by omega)]
      have hbl := flats_ge (d + 1) (l.length + 1) s.body
      have in_ := ih s.body (by omega) s.body 0 (d + 1) (l ++ [⟨l.length, d, s⟩]) (by cases s; simp [MStmt.body] at hs ⊢; omega) rfl (by omega) (by rw [hl2]; unfold big; omega) (by omega)
      rw [hl2] at in_
      have in' : mflat_1 (l.length + 1) ((d : Int) + 1) s.body.length (stmtsF s.body) s.body.length 0 (itemsF (l ++ [⟨l.length, d, s⟩])) = _ := in_
      rw [in', graft_ref, pO_some]
      generalize hF : flats (d + 1) (l.length + 1) s.body = fl at *
      simp only [List.length_nil, List.length_cons, asRef, asFz, List.nil_append, List.cons_append, List.getElem?_cons_zero, List.getElem?_cons_succ, and_self, true_and, if_true, Option.bind_some, Nat.zero_add]
      have hl3 : (itemsF ((l ++ [(⟨l.length, d, s⟩ : MItem)]) ++ fl)).length = ((l ++ [(⟨l.length, d, s⟩ : MItem)]) ++ fl).length * 9 := flat_len MItem.F_len _
      have hl4 : ((l ++ [(⟨l.length, d, s⟩ : MItem)]) ++ fl).length = l.length + 1 + fl.length := by simp; omega
      rw [if_pos (by rw [hl3]; omega), List.drop_zero, List.take_of_length_le (by rw [hl3]; omega), wrap_i64 (by omega) (by omega)]
      have := ih body hb r (i + 1) d ((l ++ [⟨l.length, d, s⟩]) ++ fl) (by simp at hs; omega) (drop_next hd) (by omega) (by rw [hl4]; unfold big; omega) h2
      rw [show ((i : Int) + 1) = ((i + 1 : Nat) : Int) by omega, this, hl4]
      simp
    · have fc : flats d l.length (s :: r) = _ := (flats_cons d l.length s r).trans (if_neg hc7)
      rw [fc] at h1 ⊢
      simp only [List.length_cons] at h1
      by_cases hk : s.kind = 7
      · rw [if_pos (by simp [hk]), if_neg (by have : ¬ d < 1000 := fun h => hc7 ⟨hk, h⟩; simp; omega)]
        exact plain (by omega)
      · rw [if_neg (by simpa using hk)]
        exact plain (by omega)
theorem mFlat_spec (body : List MStmt) (hb : (flats 0 0 body).length ≤ big) (h0 : H) : run w0 43 [.f (.lst body.length (stmtsF body))] h0 = some (.ret (.f (.lst (flats 0 0 body).length (itemsF (flats 0 0 body)))), h0) := by
  have hge := flats_ge 0 0 body
  rw [mFlat_run, mFlat_eq, mflat_nvv_, mflat_eq, if_pos (by simp)]
  have := mflat_loop _ body (by unfold big at hb; omega) body 0 0 [] (Nat.le_refl _) rfl (by omega) (by simpa using hb) (by omega)
  have h : mflat_1 0 0 body.length (stmtsF body) body.length 0 (([] : List F).drop 0 |>.take (0 * 9)) = _ := this
  rw [h, graft_ref, pO_some]
  have hl : (itemsF (flats 0 0 body)).length = (flats 0 0 body).length * 9 := flat_len MItem.F_len _
  simp only [List.length_nil, List.length_cons, asRef, asFz, List.nil_append, List.cons_append, List.getElem?_cons_zero, List.getElem?_cons_succ, and_self, true_and, if_true, Option.bind_some, Nat.zero_add]
  rw [if_pos (by omega), List.drop_zero, List.take_of_length_le (by rw [hl]; omega), withH_true]
theorem mCount_spec (body : List MStmt) (hb : (flats 0 0 body).length ≤ big) (h0 : H) : run w0 57 [.f (.lst body.length (stmtsF body))] h0 = some (.ret (I (flats 0 0 body).length), h0) := by
  rw [mCount_run, mCount_eq, mFlat_spec body hb, pL_some, withH_true]
/-! ### references, kinds -/
theorem ibeq (a b : Int) : (a == b) = decide (a = b) := by rw [Bool.eq_iff_iff]; simp
theorem ruleVariable_spec (r : MRef) (h0 : H) : run w0 76 [.agg (refV r)] h0 = some (.ret (B (varR r)), h0) := by
  rw [ruleVariable_run, ruleVariable_eq]
  unfold varR
  by_cases h1 : r.k = 1
  · rw [if_neg (by simp [h1]), withH_true]; simp [h1]
  · rw [if_pos (by simpa using h1), withH_true]; simp [h1, ibeq]
theorem ckthere_spec (m : Mod) (f : MFun) (r : MRef) (h0 : H) : run w0 60 [.agg (modV m), .agg (funV f), .agg (refV r)] h0 = some (.ret (B (thereR m f r)), h0) := by
  rw [ckthere_run, ckthere_eq]
  unfold thereR
  by_cases e0 : r.k = 0
  · simp [e0, withH_true, ibeq]
  · rw [if_neg (by simpa using e0), if_neg e0]
    by_cases hi : 0 ≤ r.id
    · by_cases e1 : r.k = 1
      · rw [if_pos (by simp [e1]), if_pos (by simpa using hi), withH_true]; simp [e1, hi]
      · rw [if_neg (by simpa using e1)]
        by_cases e2 : r.k = 2
        · rw [if_pos (by simp [e2]), if_pos (by simpa using hi), withH_true]; simp [e2, hi]
        · rw [if_neg (by simpa using e2)]
          by_cases e3 : r.k = 3
          · rw [if_pos (by simp [e3]), if_pos (by simpa using hi), withH_true]; simp [e3, hi]
          · rw [if_neg (by simpa using e3), if_pos (by simpa using hi), withH_true]; simp [e1, e2, e3, hi]
    · by_cases e1 : r.k = 1
      · rw [if_pos (by simp [e1]), if_neg (by simpa using hi), withH_true]; simp [e1, hi]
      · rw [if_neg (by simpa using e1)]
        by_cases e2 : r.k = 2
        · rw [if_pos (by simp [e2]), if_neg (by simpa using hi), withH_true]; simp [e2, hi]
        · rw [if_neg (by simpa using e2)]
          by_cases e3 : r.k = 3
          · rw [if_pos (by simp [e3]), if_neg (by simpa using hi), withH_true]; simp [e3, hi]
          · rw [if_neg (by simpa using e3), if_neg (by simpa using hi), withH_true]; simp [e1, e2, e3, hi]
theorem kinds_loop (k : Int) (a b : MRef) (args : List MRef) (body : List MStmt) (z : Bool) (hl : args.length < 4611686018427387904) : ∀ (rest : List MRef) (i : Nat), args.drop i = rest → i ≤ args.length →
    rulekinds_1 k a.k a.id b.k b.id args.length (refsF args) body.length (stmtsF body) z args.length (refsF args) args.length i = some (.ret (B (decide ((∀ r ∈ rest, varR r = true) ∧ body = [] ∧ (z = true ∨ varR a = true) ∧ (varR b = true ∨ b.k = 3)))), [])
  | [], i, hd, hi => by
    have := done_of_drop hd
    rw [rulekinds_1_eq, if_neg (by simp; omega)]
    cases body with
    | nil =>
      rw [if_pos (by simp)]
      cases z
      · rw [if_pos rfl, ruleVariable_spec a, pB_some]
        cases ha : varR a
        · simp
        · rw [if_pos rfl, ruleVariable_spec b, pB_some]
          cases hb : varR b
          · rw [if_pos rfl]; simp [hb, ibeq]
          · rw [if_neg (by simp)]; simp
      · rw [if_neg (by simp), ruleVariable_spec b, pB_some]
        cases hb : varR b
        · rw [if_pos rfl]; simp [hb, ibeq]
        · rw [if_neg (by simp)]; simp
    | cons s r => rw [if_neg (by simp; omega)]; simp
  | r :: rest, i, hd, hi => by
    have hlt := lt_of_drop hd
    rw [rulekinds_1_eq, if_pos (by simp; omega), elem_next MRef.F_len hd]
    simp only [MRef.F, List.cons_append, atI_zero, atI_succ]
    rw [ruleVariable_spec r, pB_some]
    cases hr : varR r
    · rw [if_pos (by simp)]; simp [hr]
    · rw [if_neg (by simp), wrap_i64 (by omega) (by omega)]
      have := kinds_loop k a b args body z hl rest (i + 1) (drop_next hd) (by omega)
      rw [show ((i : Int) + 1) = ((i + 1 : Nat) : Int) by omega, this]
      simp [hr]
theorem rulekinds_spec (s : MStmt) (hl : s.args.length < 4611686018427387904) (h0 : H) : run w0 59 [.agg (stmtV s)] h0 = some (.ret (B (kindsR s)), h0) := by
  rw [rulekinds_run]
  suffices h : rulekinds_0 s.kind s.a.k s.a.id s.b.k s.b.id s.args.length (refsF s.args) s.body.length (stmtsF s.body) = some (.ret (B (kindsR s)), []) by rw [h, withH_true]
  obtain ⟨k, a, b, args, body⟩ := s
  have hz : ∀ r : MRef, ((r.k == 0) && ((r.id == 0) && true)) = decide (r = ⟨0, 0⟩) := by
    intro r; cases r; rw [Bool.eq_iff_iff]; simp
  rw [rulekinds_eq]
  simp only [MStmt.kind, MStmt.a, MStmt.b, MStmt.args, MStmt.body, ruleVariable_spec a, ruleVariable_spec b, pB_some, hz] at hl ⊢
  have hloop := kinds_loop k a b args body (decide (a = ⟨0, 0⟩)) hl args 0 rfl (by omega)
  have hloop' : rulekinds_1 k a.k a.id b.k b.id args.length (refsF args) body.length (stmtsF body) (decide (a = ⟨0, 0⟩)) args.length (refsF args) args.length 0 = _ := hloop
  simp only [hloop']
  have el : ((args.length : Int) == 0) = decide (args = []) := by cases args <;> simp; omega
  have eb : ((body.length : Int) == 0) = decide (body = []) := by cases body <;> simp; omega
  simp only [el, eb]
  unfold kindsR
  simp only [MStmt.kind, MStmt.a, MStmt.b, MStmt.args, MStmt.body]
  by_cases k1 : k = 1
  · subst k1; by_cases h1 : args = [] <;> by_cases h2 : body = [] <;> by_cases h3 : varR a = true <;> by_cases h4 : 1 ≤ b.k <;> simp [h1, h2, h3, h4]
    exact decide_eq_decide.2 Iff.rfl
  by_cases k2 : k = 2
  · subst k2; by_cases h1 : args = [] <;> by_cases h2 : body = [] <;> by_cases h3 : varR a = true <;> by_cases h4 : varR b = true <;> simp [h1, h2, h3, h4]
  by_cases k3 : k = 3
  · subst k3; by_cases h1 : args = [] <;> by_cases h2 : body = [] <;> by_cases h3 : varR a = true <;> by_cases h4 : varR b = true <;> simp [h1, h2, h3, h4]
  by_cases k4 : k = 4
  · subst k4; by_cases h1 : args = [] <;> by_cases h2 : body = [] <;> by_cases h3 : varR a = true <;> by_cases h4 : varR b = true <;> simp [h1, h2, h3, h4]
  by_cases k5 : k = 5
  · subst k5; by_cases h1 : args = []
    · simp [h1]
    · simp [h1]; rw [Bool.eq_iff_iff]; simp only [Bool.and_eq_true, Bool.or_eq_true, decide_eq_true_eq]; exact decide_eq_true_iff.symm
  by_cases k6 : k = 6
  · subst k6; by_cases h1 : args = [] <;> by_cases h2 : body = [] <;> by_cases h3 : a = ⟨0, 0⟩ <;> by_cases h4 : varR b = true <;> simp [h1, h2, h3, h4]
  by_cases k7 : k = 7
  · subst k7; by_cases h1 : args = [] <;> by_cases h3 : a = ⟨0, 0⟩ <;> by_cases h4 : b = ⟨0, 0⟩ <;> simp [h1, h3, h4]
  · simp [k1, k2, k3, k4, k5, k6, k7]
theorem thereR_fun {m : Mod} {f : MFun} {r : MRef} (h : thereR m f r = true) (hk : r.k = 3) : ∃ i : Nat, r.id = i ∧ i < m.funcs.length := by
  unfold thereR at h
  rw [hk] at h
  simp at h
  exact ⟨r.id.toNat, by omega, by omega⟩
theorem stmt_loop (m : Mod) (f : MFun) (s : MStmt) (hl : s.args.length < 4611686018427387904) (hb : thereR m f s.b = true) : ∀ (rest : List MRef) (i : Nat), s.args.drop i = rest → i ≤ s.args.length →
    ckstatement_1 m.strings.length (sF m.strings) m.globals.length (kF .i64 m.globals) m.funcs.length (funsF m.funcs) m.entries.length (kF .i64 m.entries) f.name f.params f.locals.length (kF .i64 f.locals) f.sites.length (kF .i64 f.sites) f.body.length (stmtsF f.body) s.kind s.a.k s.a.id s.b.k s.b.id s.args.length (refsF s.args) s.body.length (stmtsF s.body) s.args.length (refsF s.args) s.args.length i =
      some (.ret (I (if ∃ r ∈ rest, thereR m f r = false then 8 else if s.kind = 5 ∧ (6 < s.args.length ∨ s.b.k = 3 ∧ (s.args.length : Int) ≠ (m.funcs[s.b.id.toNat]?.getD default).params) then 9 else 0)), [])
  | [], i, hd, hi => by
    have := done_of_drop hd
    rw [ckstatement_1_eq, if_neg (by simp; omega)]
    by_cases k5 : s.kind = 5
    · rw [if_pos (by simp [k5])]
      by_cases h6 : 6 < s.args.length
      · rw [if_neg (by simp; omega)]; simp [k5, h6]
      · rw [if_pos (by simp; omega)]
        by_cases k3 : s.b.k = 3
        · obtain ⟨j, hj, hjl⟩ := thereR_fun hb k3
          have hg : m.funcs[j]? = some m.funcs[j] := List.getElem?_eq_getElem _
          rw [if_pos (by simp [k3]), hj, elem_next MFun.F_len (drop_get hjl)]
          simp only [MFun.F, List.cons_append, List.drop_succ_cons, List.drop_zero, atI_zero, Int.toNat_natCast, hg, Option.getD_some]
          by_cases hp : (s.args.length : Int) = m.funcs[j].params
          · rw [if_neg (by simp [hp])]; simp [k5, h6, k3, hp]
          · rw [if_pos (by simp [hp])]; simp [k5, h6, k3, hp]
        · rw [if_neg (by simpa using k3)]; simp [k5, h6, k3]
    · rw [if_neg (by simpa using k5)]; simp [k5]
  | r :: rest, i, hd, hi => by
    have hlt := lt_of_drop hd
    rw [ckstatement_1_eq, if_pos (by simp; omega), elem_next MRef.F_len hd]
    simp only [MRef.F, List.cons_append, atI_zero, atI_succ]
    rw [ckthere_spec m f r, pB_some]
    cases hr : thereR m f r
    · rw [if_pos (by simp)]; simp [hr]
    · rw [if_neg (by simp), wrap_i64 (by omega) (by omega)]
      have := stmt_loop m f s hl hb rest (i + 1) (drop_next hd) (by omega)
      rw [show ((i : Int) + 1) = ((i + 1 : Nat) : Int) by omega, this]
      simp [hr]
theorem ckstatement_spec (m : Mod) (f : MFun) (d : Nat) (s : MStmt) (hl : s.args.length < 4611686018427387904) (h0 : H) : run w0 44 [.agg (modV m), .agg (funV f), I d, .agg (stmtV s)] h0 = some (.ret (I (stmtR m f d s)), h0) := by
  rw [ckstatement_run, ckstatement_eq]
  unfold stmtR
  by_cases hd : 8 < d
  · rw [if_pos (by simp; omega), if_pos hd, withH_true]
  · rw [if_neg (by simp; omega), if_neg hd, rulekinds_spec s hl, pB_some]
    cases hk : kindsR s
    · rw [if_pos (by simp), if_pos rfl, withH_true]
    · rw [if_neg (by simp), if_neg (by simp), ckthere_spec m f s.a, pB_some]
      cases ha : thereR m f s.a
      · rw [if_neg (by simp), withH_true]; simp
      · rw [if_pos (by simp), ckthere_spec m f s.b, pB_some]
        cases hb : thereR m f s.b
        · rw [if_pos (by simp), withH_true]; simp
        · rw [if_neg (by simp)]
          have := stmt_loop m f s hl hb s.args 0 rfl (by omega)
          rw [show ((0 : Nat) : Int) = 0 from rfl] at this
          rw [this, withH_true]
          simp
theorem ckfunction_spec (m : Mod) (f : MFun) (hb : (flats 0 0 f.body).length ≤ big) (h0 : H) : run w0 42 [.agg (modV m), .agg (funV f)] h0 = some (.ret (I (funR m f)), h0) := by
  rw [ckfunction_run, ckfunction_eq]
  unfold funR
  by_cases h1 : 40 < f.locals.length
  · rw [if_neg (by simp; omega), withH_true, if_pos (.inl h1)]
  rw [if_pos (by simp; omega)]
  by_cases h2 : 40 < f.sites.length
  · rw [if_neg (by simp; omega), withH_true, if_pos (.inr (.inl h2))]
  rw [if_pos (by simp; omega), mCount_spec f.body hb, pI_some]
  by_cases h3 : 400 < (flats 0 0 f.body).length
  · rw [if_pos (by simp; omega), withH_true, if_pos (.inr (.inr h3))]
  rw [if_neg (by simp; omega), if_neg (show ¬ (40 < f.locals.length ∨ 40 < f.sites.length ∨ 400 < (flats 0 0 f.body).length) by omega)]
  by_cases h4 : f.params < 0
  · rw [if_neg (by simp; omega), withH_true, if_pos (.inl h4)]
  rw [if_pos (by simp; omega)]
  by_cases h5 : (f.locals.length : Int) < f.params
  · rw [if_neg (by simp; omega), withH_true, if_pos (.inr (.inl h5))]
  rw [if_pos (by simp; omega)]
  by_cases h6 : 6 < f.params
  · rw [if_pos (by simp; omega), withH_true, if_pos (.inr (.inr h6))]
  rw [if_neg (by simp; omega), if_neg (show ¬ (f.params < 0 ∨ (f.locals.length : Int) < f.params ∨ 6 < f.params) by omega), cknames_spec m f.locals (by omega), pI_some]
  by_cases h7 : 0 < namesR m.strings f.locals []
  · rw [if_pos (by simp; omega), withH_true, if_pos h7]
  rw [if_neg (by simp; omega), if_neg h7, cknames_spec m f.sites (by omega), pI_some, withH_true]
/-! ### the whole module -/
noncomputable abbrev W1 (m : Mod) (i : Int) (c : List F) : R := ckwhole_1 m.strings.length (sF m.strings) m.globals.length (kF .i64 m.globals) m.funcs.length (funsF m.funcs) m.entries.length (kF .i64 m.entries) m.strings.length (sF m.strings) m.globals.length (kF .i64 m.globals) m.funcs.length (funsF m.funcs) m.entries.length (kF .i64 m.entries) m.funcs.length m.funcs.length (funsF m.funcs) m.funcs.length i c
noncomputable abbrev W2 (m : Mod) (c : List F) : R := ckwhole_2 m.strings.length (sF m.strings) m.globals.length (kF .i64 m.globals) m.funcs.length (funsF m.funcs) m.entries.length (kF .i64 m.entries) m.strings.length (sF m.strings) m.globals.length (kF .i64 m.globals) m.funcs.length (funsF m.funcs) m.entries.length (kF .i64 m.entries) m.funcs.length c
theorem whole1 (m : Mod) (hl : m.funcs.length ≤ 40) : ∀ (rest : List MFun) (i : Nat) (pre : List Int) (t : List F), m.funcs.drop i = rest → i ≤ m.funcs.length → pre.length = i → t.length = rest.length →
    W1 m i (kF .i64 pre ++ t) = W2 m (kF .i64 (pre ++ rest.map (·.name)))
  | [], i, pre, t, hd, hi, hp, ht => by
    have := done_of_drop hd
    have : t = [] := List.eq_nil_of_length_eq_zero ht
    subst this
    rw [W1, ckwhole_1_eq, if_neg (by simp; omega), if_pos (by simp; omega), List.drop_zero, List.take_of_length_le (by simp; omega)]
    simp
  | f :: rest, i, pre, t, hd, hi, hp, ht => by
    have hlt := lt_of_drop hd
    obtain ⟨x, t, rfl⟩ : ∃ x t', t = x :: t' := by cases t with
      | nil => cases ht
      | cons x t => exact ⟨x, t, rfl⟩
    simp only [List.length_cons] at ht
    have hrest : rest.length + 1 + i = m.funcs.length := by have := congrArg List.length hd; simp at this; omega
    rw [W1, ckwhole_1_eq, if_pos (by simp; omega), elem_next MFun.F_len hd]
    simp only [MFun.F, List.cons_append, atI_zero, atI_succ, atL_zero, atL_succ, true_and]
    rw [if_pos (by omega), if_pos (by simp; omega)]
    have hset : (kF .i64 pre ++ x :: t).set (0 + (Int.toNat (i : Int)) * 1) (.s (.int .i64 f.name)) = kF .i64 (pre ++ [f.name]) ++ t := by
      rw [Int.toNat_natCast, Nat.zero_add, Nat.mul_one, List.set_append_right _ _ (by simp; omega), kF_length, hp, Nat.sub_self, List.set_cons_zero, kF_append]
      simp [kF]
    rw [hset, if_pos (by simp; omega), List.drop_zero, List.take_of_length_le (by simp; omega), wrap_i64 (by omega) (by omega)]
    have := whole1 m hl rest (i + 1) (pre ++ [f.name]) t (drop_next hd) (by omega) (by simp [hp]) (by omega)
    rw [show ((i : Int) + 1) = ((i + 1 : Nat) : Int) by omega]
    rw [W1] at this
    rw [this]
    simp
theorem whole4 (m : Mod) (hl : m.entries.length ≤ 40) (nm : List Int) : ∀ (rest : List Int) (i : Nat) (es : List (Value × F)) (seen : List Int), m.entries.drop i = rest → i ≤ m.entries.length → (∀ s : Int, mfind (.int .i64 s) es = if s ∈ seen then some (.s (.bool true)) else none) →
    ckwhole_4 m.strings.length (sF m.strings) m.globals.length (kF .i64 m.globals) m.funcs.length (funsF m.funcs) m.entries.length (kF .i64 m.entries) m.entries.length (kF .i64 m.entries) m.entries.length i es = some (.ret (I (entriesR m.funcs.length rest seen)), [])
  | [], i, es, seen, hd, hi, he => by
    have := done_of_drop hd
    rw [ckwhole_4_eq, if_neg (by simp; omega)]; rfl
  | n :: rest, i, es, seen, hd, hi, he => by
    have hlt := lt_of_drop hd
    rw [ckwhole_4_eq, if_pos (by simp; omega), elem_kF hd, atI_zero]
    unfold entriesR
    by_cases h0 : n < 0
    · rw [if_neg (by simpa using h0), if_pos (.inl h0)]
    · rw [if_pos (by simpa using h0)]
      by_cases h1 : (m.funcs.length : Int) ≤ n
      · rw [if_pos (by simpa using h1), if_pos (.inr h1)]
      · rw [if_neg (by simpa using h1), if_neg (by omega), he]
        by_cases hm : n ∈ seen
        · rw [if_pos hm, if_pos hm]; simp [F.bool?]
        · rw [if_neg hm, if_neg hm]
          simp only [Option.getD_none, F.bool?, Option.bind_some]
          rw [if_neg (by simp), wrap_i64 (by omega) (by omega)]
          have := whole4 m hl nm rest (i + 1) (mput (.int .i64 n) (.s (.bool true)) es) (n :: seen) (drop_next hd) (by omega) (fun s => by
            rw [mfind_put_int, he]
            by_cases h : s = n
            · subst h; simp
            · rw [if_neg h]; simp [h])
          rw [show ((i : Int) + 1) = ((i + 1 : Nat) : Int) by omega]
          exact this
theorem repl_one {α : Type} (x : α) (n : Nat) : repl [x] n = List.replicate n x := by
  induction n with
  | zero => rfl
  | succ n ih => simp [repl, ih, List.replicate_succ]
theorem ckwhole_spec (m : Mod) (h0 : H) : run w0 40 [.agg (modV m)] h0 = some (.ret (I (wholeR m)), h0) := by
  rw [ckwhole_run, ckwhole_eq]
  unfold wholeR
  by_cases h1 : 40 < m.globals.length
  · rw [if_neg (by simp; omega), withH_true, if_pos (.inl h1)]
  rw [if_pos (by simp; omega)]
  by_cases h2 : 40 < m.funcs.length
  · rw [if_neg (by simp; omega), withH_true, if_pos (.inr (.inl h2))]
  rw [if_pos (by simp; omega)]
  by_cases h3 : 40 < m.entries.length
  · rw [if_pos (by simp; omega), withH_true, if_pos (.inr (.inr h3))]
  rw [if_neg (by simp; omega), if_neg (show ¬ (40 < m.globals.length ∨ 40 < m.funcs.length ∨ 40 < m.entries.length) by omega), if_pos ⟨rfl, by omega, by omega, by omega, by omega⟩]
  rw [if_pos (by rw [repl_one]; simp), List.drop_zero, Int.toNat_natCast, repl_one, List.take_of_length_le (by simp)]
  have e1 := whole1 m (by omega) m.funcs 0 [] (List.replicate m.funcs.length (.s (.int .i64 0))) rfl (by omega) rfl (by simp)
  have e1' : ckwhole_1 m.strings.length (sF m.strings) m.globals.length (kF .i64 m.globals) m.funcs.length (funsF m.funcs) m.entries.length (kF .i64 m.entries) m.strings.length (sF m.strings) m.globals.length (kF .i64 m.globals) m.funcs.length (funsF m.funcs) m.entries.length (kF .i64 m.entries) m.funcs.length m.funcs.length (funsF m.funcs) m.funcs.length 0 (List.replicate m.funcs.length (.s (.int .i64 0))) = _ := e1
  rw [e1', W2, ckwhole_2_eq, List.nil_append]
  have hnl : (m.funcs.map (·.name)).length = m.funcs.length := by simp
  rw [← hnl]
  have q0 : ∀ K : List F → R, elem (.lst 2 [F.lst m.globals.length (kF .i64 m.globals), F.lst (m.funcs.map (·.name)).length (kF .i64 (m.funcs.map (·.name)))]) 0 1 K = K [F.lst m.globals.length (kF .i64 m.globals), F.lst (m.funcs.map (·.name)).length (kF .i64 (m.funcs.map (·.name)))] := fun K => by
    rw [elem_in (by omega) (by omega)]; rfl
  have q1 : ∀ K : List F → R, elem (.lst 2 [F.lst m.globals.length (kF .i64 m.globals), F.lst (m.funcs.map (·.name)).length (kF .i64 (m.funcs.map (·.name)))]) 1 1 K = K [F.lst (m.funcs.map (·.name)).length (kF .i64 (m.funcs.map (·.name)))] := fun K => by
    rw [elem_in (by omega) (by omega)]; rfl
  rw [ckwhole_3_eq, if_pos (by simp), q0, atL_zero]
  rw [hnl, cknames_spec m m.globals (by omega), pI_some, ← hnl]
  by_cases h4 : 0 < namesR m.strings m.globals []
  · rw [if_pos (by simp; omega), withH_true, if_pos h4]
  rw [if_neg (by simp; omega), if_neg h4, show IntKind.wrap .i64 (0 + 1) = 1 from rfl, ckwhole_3_eq, if_pos (by simp), q1, atL_zero]
  rw [hnl]
  have := cknames_spec m (m.funcs.map (·.name)) (by simp; omega) []
  rw [hnl] at this
  rw [this, pI_some]
  by_cases h5 : 0 < namesR m.strings (m.funcs.map (·.name)) []
  · rw [if_pos (by simp; omega), withH_true, if_pos h5]
  rw [if_neg (by simp; omega), if_neg h5, show IntKind.wrap .i64 (1 + 1) = 2 from rfl, ckwhole_3_eq, if_neg (by simp)]
  have e4 := whole4 m (by omega) [] m.entries 0 [] [] rfl (by omega) (by simp [mfind])
  rw [show ((0 : Nat) : Int) = 0 from rfl] at e4
  rw [e4, withH_true]
/-! ### strings -/
def usedOf (l : List MFun) : List Int := l.flatMap fun f => f.name :: (f.locals ++ f.sites)
theorem rulefault_spec (n f s : Int) (h0 : H) : run w0 41 [I n, I f, I s] h0 = some (.ret (.agg (faultV (some (n, f, s)))), h0) := by
  rw [rulefault_run, rulefault_eq, withH_true]; rfl
theorem rulefine_spec (h0 : H) : run w0 45 [] h0 = some (.ret (.agg (faultV none)), h0) := by
  rw [rulefine_run, rulefine_eq, withH_true]; rfl
noncomputable abbrev T1 (m : Mod) (i : Int) : R := ruleTree_1 m.strings.length (sF m.strings) m.globals.length (kF .i64 m.globals) m.funcs.length (funsF m.funcs) m.entries.length (kF .i64 m.entries) m.funcs.length (funsF m.funcs) m.funcs.length i 0 0 0 0 0 0 0
noncomputable abbrev T2 (m : Mod) (f : MFun) (i : Int) (its : List MItem) (j : Int) : R := ruleTree_2 m.strings.length (sF m.strings) m.globals.length (kF .i64 m.globals) m.funcs.length (funsF m.funcs) m.entries.length (kF .i64 m.entries) i f.name f.params f.locals.length (kF .i64 f.locals) f.sites.length (kF .i64 f.sites) f.body.length (stmtsF f.body) m.funcs.length (funsF m.funcs) m.funcs.length i its.length (itemsF its) its.length j 0 0 0 0 0 0 0
theorem items_loop (m : Mod) (f : MFun) (i : Nat) (hi : i < 4611686018427387904) (its : List MItem) (hl : its.length ≤ big) (hargs : ∀ x ∈ its, x.s.args.length < 4611686018427387904) : ∀ (rest : List MItem) (j : Nat), its.drop j = rest → j ≤ its.length →
    T2 m f i its j = match stmtsR m f rest with
      | some (n, s) => some (.ret (.agg (faultV (some (n, i, s)))), [])
      | none => T1 m ((i + 1 : Nat) : Int)
  | [], j, hd, hj => by
    have := done_of_drop hd
    rw [T2, ruleTree_2_eq, if_neg (by simp; omega), wrap_i64 (by omega) (by omega), show ((i : Int) + 1) = ((i + 1 : Nat) : Int) by omega]
    rfl
  | x :: rest, j, hd, hj => by
    have hlt := lt_of_drop hd
    have hx : x ∈ its := by rw [← List.take_append_drop j its, hd]; simp
    unfold big at hl
    rw [T2, ruleTree_2_eq, if_pos (by simp; omega), elem_next MItem.F_len hd]
    simp only [MItem.F, MStmt.F_eq, List.cons_append, List.nil_append, atI_zero, atI_succ, atL_zero, atL_succ]
    rw [ckstatement_spec m f x.deep x.s (hargs x hx), pI_some]
    unfold stmtsR
    by_cases h : 0 < stmtR m f x.deep x.s
    · rw [if_pos (by simp; omega), rulefault_spec, pA_some, if_pos h]
      simp only [faultV, cI, List.getElem?_cons_zero, List.getElem?_cons_succ, Option.bind_some, V.int?, V.f?, F.int?, if_true, List.length_cons, List.length_nil]
    · rw [if_neg (by simp; omega), if_neg h, wrap_i64 (by omega) (by omega)]
      have := items_loop m f i hi its (by unfold big; omega) hargs rest (j + 1) (drop_next hd) (by omega)
      rw [show ((j : Int) + 1) = ((j + 1 : Nat) : Int) by omega]
      exact this
def argsOk (m : Mod) : Prop := ∀ f ∈ m.funcs, (flats 0 0 f.body).length ≤ big ∧ ∀ x ∈ flats 0 0 f.body, x.s.args.length < 4611686018427387904
theorem funs_loop (m : Mod) (hl : m.funcs.length ≤ big) (ha : argsOk m) : ∀ (rest : List MFun) (i : Nat), m.funcs.drop i = rest → i ≤ m.funcs.length → T1 m i = some (.ret (.agg (faultV (funsR m i rest))), [])
  | [], i, hd, hi => by
    have := done_of_drop hd
    rw [T1, ruleTree_1_eq, if_neg (by simp; omega), rulefine_spec, pA_some]
    simp only [faultV, cI, List.getElem?_cons_zero, List.getElem?_cons_succ, Option.bind_some, V.int?, V.f?, F.int?, if_true, List.length_cons, List.length_nil, funsR]
  | f :: rest, i, hd, hi => by
    have hlt := lt_of_drop hd
    have hf : f ∈ m.funcs := by rw [← List.take_append_drop i m.funcs, hd]; simp
    obtain ⟨hb, hargs⟩ := ha f hf
    have hl' := hl
    unfold big at hl'
    rw [T1, ruleTree_1_eq, if_pos (by simp; omega), elem_next MFun.F_len hd]
    simp only [MFun.F, List.cons_append, List.nil_append, atI_zero, atI_succ, atL_zero, atL_succ]
    rw [ckfunction_spec m f hb, pI_some]
    unfold funsR
    by_cases h : 0 < funR m f
    · rw [if_pos (by simp; omega), rulefault_spec, pA_some, if_pos h]
      simp only [faultV, cI, List.getElem?_cons_zero, List.getElem?_cons_succ, Option.bind_some, V.int?, V.f?, F.int?, if_true, List.length_cons, List.length_nil]
    · rw [if_neg (by simp; omega), if_neg h, mFlat_spec f.body hb, pL_some]
      have h2 := items_loop m f i (by omega) (flats 0 0 f.body) hb hargs (flats 0 0 f.body) 0 rfl (by omega)
      rw [T2, show ((0 : Nat) : Int) = 0 from rfl] at h2
      rw [h2]
      cases stmtsR m f (flats 0 0 f.body) with
      | some x => rfl
      | none =>
        dsimp only
        exact funs_loop m hl ha rest (i + 1) (drop_next hd) (by omega)
theorem ruleTree_core (m : Mod) (hl : m.funcs.length ≤ big) (ha : argsOk m) : ruleTree_0 m.strings.length (sF m.strings) m.globals.length (kF .i64 m.globals) m.funcs.length (funsF m.funcs) m.entries.length (kF .i64 m.entries) = some (.ret (.agg (faultV (treeR m))), []) := by
  rw [ruleTree_eq, ckwhole_spec m, pI_some]
  unfold treeR
  by_cases h : 0 < wholeR m
  · rw [if_pos (by simp; omega), rulefault_spec, pA_some, if_pos h]
    simp only [faultV, cI, List.getElem?_cons_zero, List.getElem?_cons_succ, Option.bind_some, V.int?, V.f?, F.int?, if_true, List.length_cons, List.length_nil]
  · rw [if_neg (by simp; omega), if_neg h]
    have := funs_loop m hl ha m.funcs 0 rfl (by omega)
    rw [T1, show ((0 : Nat) : Int) = 0 from rfl] at this
    exact this
theorem namesR_names {ss : List ByteArray} : ∀ {l : List Int} {seen : List ByteArray}, ¬ 0 < namesR ss l seen → ∀ n ∈ l, isName ss n = true
  | [], _, _, n, hn => by simp at hn
  | a :: r, seen, h, n, hn => by
    unfold namesR at h
    cases ha : isName ss a
    · rw [ha, if_pos rfl] at h; omega
    · rw [ha, if_neg (by simp)] at h
      split at h
      · omega
      · rcases List.mem_cons.1 hn with rfl | hn
        · exact ha
        · exact namesR_names h n hn
theorem isName_in {ss : List ByteArray} {n : Int} (h : isName ss n = true) : 0 ≤ n ∧ n < ss.length := by
  obtain ⟨i, rfl, hi⟩ := isName_at h; omega
theorem funsR_none {m : Mod} : ∀ {l : List MFun} {i : Nat}, funsR m i l = none → ∀ f ∈ l, ¬ 0 < funR m f ∧ stmtsR m f (flats 0 0 f.body) = none
  | [], _, _, f, hf => by simp at hf
  | g :: r, i, h, f, hf => by
    unfold funsR at h
    split at h
    · cases h
    · rename_i h1
      split at h
      · cases h
      · rename_i h2
        rcases List.mem_cons.1 hf with rfl | hf
        · exact ⟨h1, h2⟩
        · exact funsR_none h f hf
theorem tree_used {m : Mod} (h : treeR m = none) : (usedR m).length ≤ 4000 ∧ ∀ n ∈ usedR m, 0 ≤ n ∧ n < m.strings.length := by
  unfold treeR at h
  split at h
  · cases h
  rename_i hw
  have hf := funsR_none h
  unfold wholeR at hw
  split at hw
  · omega
  rename_i h1
  split at hw
  · omega
  rename_i h2
  split at hw
  · omega
  rename_i h3
  have h40 : ∀ f ∈ m.funcs, f.locals.length ≤ 40 ∧ f.sites.length ≤ 40 ∧ (∀ n ∈ f.locals, isName m.strings n = true) ∧ ∀ n ∈ f.sites, isName m.strings n = true := by
    intro f hm
    have := (hf f hm).1
    unfold funR at this
    split at this
    · omega
    split at this
    · omega
    split at this
    · omega
    rename_i a b c
    exact ⟨by omega, by omega, namesR_names c, namesR_names this⟩
  constructor
  · have hfl : m.funcs.length ≤ 40 := by omega
    have : (m.funcs.flatMap fun f => f.name :: (f.locals ++ f.sites)).length ≤ m.funcs.length * 81 := by
      generalize m.funcs = l at h40
      clear hf hw h1 h2 h3 hfl h
      induction l with
      | nil => simp
      | cons f l ih =>
        have := h40 f (by simp)
        have := ih fun g hg => h40 g (by simp [hg])
        simp only [List.flatMap_cons, List.length_append, List.length_cons] at this ⊢
        omega
    simp only [usedR, List.length_append]
    omega
  · intro n hn
    simp only [usedR, List.mem_append, List.mem_flatMap, List.mem_cons] at hn
    rcases hn with hn | ⟨f, hm, rfl | hn | hn⟩
    · exact isName_in (namesR_names h2 n hn)
    · exact isName_in (namesR_names h3 _ (List.mem_map.2 ⟨f, hm, rfl⟩))
    · exact isName_in ((h40 f hm).2.2.1 n hn)
    · exact isName_in ((h40 f hm).2.2.2 n hn)
end Go.Proofs.Ytjefolfbdohkcaa
