/-
  The one way to say a module without a fault breaks no rule.
-/
import Derived.Test.YtjefolfbdohkcaaCanSame
set_option autoImplicit false
set_option linter.unusedVariables false
set_option linter.unusedSimpArgs false
namespace Go.Proofs.Ytjefolfbdohkcaa
open Go Go.Abs
/-- a number, and another in another row: one string -/
def SameAt (L S0 : List ByteArray) (num : Int → Int) (x : Int) : Prop := 0 ≤ x ∧ 0 ≤ num x ∧ L[(num x).toNat]? = S0[x.toNat]?
theorem sameAt {m : Abs.Mod} {x : Int} (hx : x ∈ usedR m) (hu : 0 ≤ x ∧ x < m.strings.length) : SameAt (canonS m) m.strings (numI (canonS m) m.strings) x := by
  obtain ⟨i, p, s, rfl, h1, h2, h3⟩ := val_of hx hu
  refine ⟨by omega, by omega, ?_⟩
  rw [h3]
  simp only [Int.toNat_natCast]
  rw [h1, h2.at_]
theorem isName_same {L S0 : List ByteArray} {num : Int → Int} {x : Int} (h : SameAt L S0 num x) : isName L (num x) = isName S0 x := by
  obtain ⟨h1, h2, h3⟩ := h
  unfold isName
  rw [h3]; simp [h1, h2]
theorem namesR_same {L S0 : List ByteArray} {num : Int → Int} : ∀ (l : List Int) (seen : List ByteArray), (∀ x ∈ l, SameAt L S0 num x) → namesR L (l.map num) seen = namesR S0 l seen
  | [], _, _ => rfl
  | x :: r, seen, h => by
    have hx := h x (by simp)
    simp only [List.map_cons, namesR]
    rw [isName_same hx, hx.2.2]
    split
    · rfl
    · split
      · rfl
      · exact namesR_same r _ fun y hy => h y (by simp [hy])
section
variable {m : Abs.Mod} (hu : ∀ x ∈ usedR m, 0 ≤ x ∧ x < m.strings.length)
include hu
theorem same_names (l : List Int) (hl : ∀ x ∈ l, x ∈ usedR m) : namesR (canonS m) (l.map (numI (canonS m) m.strings)) [] = namesR m.strings l [] :=
  namesR_same l [] fun x hx => sameAt (hl x hx) (hu x (hl x hx))
theorem whole_canon : wholeR (canonM m) = wholeR m := by
  unfold wholeR
  have e1 := same_names hu m.globals (fun x hx => List.mem_append_left _ hx)
  have e2 := same_names hu (m.funcs.map (·.name)) (fun x hx => by
    obtain ⟨f, hf, rfl⟩ := List.mem_map.1 hx
    exact usedR_mem hf (by simp [usedF]))
  have e3 : (canonM m).funcs.map (·.name) = (m.funcs.map (·.name)).map (numI (canonS m) m.strings) := by
    simp [canonM, canonF]
  rw [e3]
  show (if 40 < (m.globals.map _).length ∨ 40 < (m.funcs.map _).length ∨ 40 < m.entries.length then 2 else if 0 < namesR (canonS m) (m.globals.map _) [] then namesR (canonS m) (m.globals.map _) [] else if 0 < namesR (canonS m) _ [] then namesR (canonS m) _ [] else entriesR (m.funcs.map _).length m.entries []) = _
  rw [e1, e2]
  simp only [List.length_map]
omit hu in
theorem there_canon (f : MFun) (r : MRef) : thereR (canonM m) (canonF (canonS m) m.strings f) r = thereR m f r := by
  unfold thereR
  simp only [canonM, canonF, List.length_map]
omit hu in
theorem stmt_canon (f : MFun) (d : Nat) (s : MStmt) : stmtR (canonM m) (canonF (canonS m) m.strings f) d s = stmtR m f d s := by
  unfold stmtR
  have e : ∀ k : Nat, ((canonM m).funcs[k]?.getD default).params = (m.funcs[k]?.getD default).params := by
    intro k
    simp only [canonM, List.getElem?_map]
    cases m.funcs[k]? <;> rfl
  simp only [there_canon, e]
omit hu in
theorem stmts_canon (f : MFun) : ∀ l : List MItem, stmtsR (canonM m) (canonF (canonS m) m.strings f) l = stmtsR m f l
  | [] => rfl
  | x :: r => by simp only [stmtsR, stmt_canon, stmts_canon f r]
theorem fun_canon {f : MFun} (hf : f ∈ m.funcs) : funR (canonM m) (canonF (canonS m) m.strings f) = funR m f := by
  unfold funR
  have e1 := same_names hu f.locals (fun x hx => usedR_mem hf (by simp [usedF, hx]))
  have e2 := same_names hu f.sites (fun x hx => usedR_mem hf (by simp [usedF, hx]))
  simp only [canonM, canonF, List.length_map, e1, e2]
theorem funs_canon : ∀ (l : List MFun) (i : Nat), (∀ f ∈ l, f ∈ m.funcs) → funsR (canonM m) i (l.map (canonF (canonS m) m.strings)) = funsR m i l
  | [], _, _ => rfl
  | f :: r, i, h => by
    simp only [List.map_cons, funsR]
    rw [fun_canon hu (h f (by simp)), stmts_canon, funs_canon r (i + 1) fun g hg => h g (by simp [hg])]
    rfl
theorem tree_canon : treeR (canonM m) = treeR m := by
  unfold treeR
  rw [whole_canon hu]
  show (if _ then _ else funsR (canonM m) 0 (m.funcs.map _)) = _
  rw [funs_canon hu m.funcs 0 fun f hf => hf]
end
theorem used_canon (m : Abs.Mod) : usedR (canonM m) = (usedR m).map (numI (canonS m) m.strings) := by
  simp only [usedR, canonM, List.map_append]
  congr 1
  rw [List.flatMap_map, List.map_flatMap]
  congr 1
  funext f
  simp [canonF]
theorem sortR_of (used : List Int) : ∀ (l : List ByteArray) (i : Nat) (p : Option ByteArray), l.Pairwise ltB → (∀ q, p = some q → ∀ x ∈ l, ltB q x) → (∀ k : Nat, k < l.length → ((i + k : Nat) : Int) ∈ used) → sortR used i p l = true
  | [], _, _, _, _, _ => rfl
  | s :: r, i, p, h, hp, hk => by
    obtain ⟨h1, h2⟩ := List.pairwise_cons.1 h
    have h0 : (i : Int) ∈ used := by simpa using hk 0 (by simp)
    have ih := sortR_of used r (i + 1) (some s) h2 (fun q e x hx => by cases e; exact h1 x hx) (fun k hk' => by rw [show i + 1 + k = i + (k + 1) by omega]; exact hk (k + 1) (by simpa using hk'))
    unfold sortR
    rw [ih]
    cases p with
    | none => simp [h0]
    | some q =>
      have := hp q rfl s (by simp)
      simp only [Bool.and_true, Bool.and_eq_true, decide_eq_true_eq]
      exact ⟨h0, by rw [less_eq]; exact decide_eq_true this⟩
theorem canon_sorted {m : Abs.Mod} (hu : ∀ x ∈ usedR m, 0 ≤ x ∧ x < m.strings.length) : sortedR (canonM m) = true := by
  unfold sortedR
  refine sortR_of _ _ 0 none (canonS_sorted m) (fun q e => by cases e) fun k hk => ?_
  have hk' : k < (canonS m).length := hk
  have hm : (canonS m)[k] ∈ canonS m := List.getElem_mem hk'
  obtain ⟨i, h1, h2⟩ := (canonS_mem m _).1 hm
  rw [used_canon, List.mem_map]
  refine ⟨i, h2, ?_⟩
  obtain ⟨j, p, s, e1, e2, e3, e4⟩ := val_of h2 (hu _ h2)
  have hij : i = j := by omega
  subst hij
  rw [h1] at e2
  cases e2
  rw [e4]
  have hp := e3.at_
  -- one place
  have : p = k := by
    rcases Nat.lt_trichotomy p k with h | h | h
    · exact absurd hp (sorted_first (canonS_sorted m) (List.getElem?_eq_getElem hk') h)
    · exact h
    · exact absurd (List.getElem?_eq_getElem hk') (sorted_first (canonS_sorted m) hp h)
  omega
theorem canon_check {m : Abs.Mod} (ht : treeR m = none) : checkR (canonM m) = none := by
  have hu := (tree_used ht).2
  unfold checkR
  rw [tree_canon hu, ht]
  simp [canon_sorted hu]
theorem tree_pos {m : Abs.Mod} {n f s : Int} (h : treeR m = some (n, f, s)) : 0 < n := by
  unfold treeR at h
  split at h
  · rename_i hp; cases h; exact hp
  · have stm : ∀ (f' : MFun) (l : List MItem) (a : Int) (b : Nat), stmtsR m f' l = some (a, b) → 0 < a := by
      intro f' l
      induction l with
      | nil => intro a b e; cases e
      | cons x r ih =>
        intro a b e
        unfold stmtsR at e
        split at e
        · rename_i hp; cases e; exact hp
        · exact ih a b e
    have fun_ : ∀ (l : List MFun) (i : Nat), funsR m i l = some (n, f, s) → 0 < n := by
      intro l
      induction l with
      | nil => intro i e; cases e
      | cons x r ih =>
        intro i e
        unfold funsR at e
        split at e
        · rename_i hp; cases e; exact hp
        · split at e
          · rename_i a b hq; cases e; exact stm _ _ _ _ hq
          · exact ih _ e
    exact fun_ _ _ h
/-- what bounds a module's bounds its canonical one -/
theorem okC_canon {m : Abs.Mod} (hm : okC m) : okC (canonM m) := by
  obtain ⟨hs, hg, hf, he, hfs⟩ := hm
  have hl : (canonS m).length ≤ m.strings.length := by have := canonL_len (usedR m) m.strings 0 []; simpa [canonS] using this
  refine ⟨by show (canonS m).length ≤ _; omega, by simpa [canonM] using hg, by simpa [canonM] using hf, he, fun f hf' => ?_⟩
  obtain ⟨g, hg', rfl⟩ := List.mem_map.1 (show f ∈ m.funcs.map (canonF (canonS m) m.strings) from hf')
  obtain ⟨a, b, c, d⟩ := hfs g hg'
  exact ⟨by simpa [canonF] using a, by simpa [canonF] using b, c, d⟩
theorem argsOk_canon {m : Abs.Mod} (ha : argsOk m) : argsOk (canonM m) := fun f hf => by
  obtain ⟨g, hg', rfl⟩ := List.mem_map.1 (show f ∈ m.funcs.map (canonF (canonS m) m.strings) from hf)
  exact ha g hg'
end Go.Proofs.Ytjefolfbdohkcaa
/-
  Modules whose strings stand otherwise: they're said one way.
-/
namespace Go.Proofs.Ytjefolfbdohkcaa
open Go Go.Abs
section
variable {m : Abs.Mod} {S : List ByteArray} {g : Int → Int} (hs : ∀ x ∈ usedR m, SameAt S m.strings g x)
include hs
end
/-! ### what's said the one way stays -/
end Go.Proofs.Ytjefolfbdohkcaa
