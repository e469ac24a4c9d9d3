/-
  The one way to say a module without a fault breaks no rule.
-/
import Derived.Test.YtjefolfbdohkcaaCanSame
set_option autoImplicit false
set_option linter.unusedVariables false
set_option linter.unusedSimpArgs false
namespace Go.Proofs.Ytjefolfbdohkcaa
open Go Go.Abs
/-- a number, and another in another row: one string -/
def SameAt (L S0 : List ByteArray) (num : Int → Int) (x : Int) : Prop := 0 ≤ x ∧ 0 ≤ num x ∧ L[(num x).toNat]? = S0[x.toNat]?
theorem sameAt {m : Abs.Mod} {x : Int} (hx : x ∈ usedR m) (hu : 0 ≤ x ∧ x < m.strings.length) : SameAt (canonS m) m.strings (numI (canonS m) m.strings) x := by
  obtain ⟨i, p, s, rfl, h1, h2, h3⟩ := val_of hx hu
  refine ⟨by omega, by omega, ?_⟩
  rw [h3]
  simp only [Int.toNat_natCast]
  rw [h1, h2.at_]
theorem isName_same {L S0 : List ByteArray} {num : Int → Int} {x : Int} (h : SameAt L S0 num x) : isName L (num x) = isName S0 x := by
  obtain ⟨h1, h2, h3⟩ := h
  unfold isName
  rw [h3]; simp [h1, h2]
theorem namesR_same {L S0 : List ByteArray} {num : Int → Int} : ∀ (l : List Int) (seen : List ByteArray), (∀ x ∈ l, SameAt L S0 num x) → namesR L (l.map num) seen = namesR S0 l seen
  | [], _, _ => rfl
  | x :: r, seen, h => by
    have hx := h x (by simp)
    simp only [List.map_cons, namesR]
    rw [isName_same hx, hx.2.2]
    split
    · rfl
    · split
      · rfl
      · exact namesR_same r _ fun y hy => h y (by simp [hy])
section
variable {m : Abs.Mod} (hu : ∀ x ∈ usedR m, 0 ≤ x ∧ x < m.strings.length)
include hu
theorem same_names (l : List Int) (hl : ∀ x ∈ l, x ∈ usedR m) : namesR (canonS m) (l.map (numI (canonS m) m.strings)) [] = namesR m.strings l [] :=
  namesR_same l [] fun x hx => sameAt (hl x hx) (hu x (hl x hx))
omit hu in
theorem there_canon (f : MFun) (r : MRef) : thereR (canonM m) (canonF (canonS m) m.strings f) r = thereR m f r := by
  unfold thereR
  simp only [canonM, canonF, List.length_map]
omit hu in
theorem stmt_canon (f : MFun) (d : Nat) (s : MStmt) : stmtR (canonM m) (canonF (canonS m) m.strings f) d s = stmtR m f d s := by
  unfold stmtR
  have e : ∀ k : Nat, ((canonM m).funcs[k]?.getD default).params = (m.funcs[k]?.getD default).params := by
    intro k
    simp only [canonM, List.getElem?_map]
    cases m.funcs[k]? <;> rfl
  simp only [there_canon, e]
omit hu in
theorem stmts_canon (f : MFun) : ∀ l : List MItem, stmtsR (canonM m) (canonF (canonS m) m.strings f) l = stmtsR m f l
  | [] => rfl
  | x :: r => by simp only [stmtsR, stmt_canon, stmts_canon f r]
theorem fun_canon {f : MFun} (hf : f ∈ m.funcs) : funR (canonM m) (canonF (canonS m) m.strings f) = funR m f := by
  unfold funR
  have e1 := same_names hu f.locals (fun x hx => usedR_mem hf (by simp [usedF, hx]))
  have e2 := same_names hu f.sites (fun x hx => usedR_mem hf (by simp [usedF, hx]))
  simp only [canonM, canonF, List.length_map, e1, e2]
theorem funs_canon : ∀ (l : List MFun) (i : Nat), (∀ f ∈ l, f ∈ m.funcs) → funsR (canonM m) i (l.map (canonF (canonS m) m.strings)) = funsR m i l
  | [], _, _ => rfl
  | f :: r, i, h => by
    simp only [List.map_cons, funsR]
    rw [fun_canon hu (h f (by simp)), stmts_canon, funs_canon r (i + 1) fun g hg => h g (by simp [hg])]
    rfl
end
end Go.Proofs.Ytjefolfbdohkcaa
/-
  Modules whose strings stand otherwise: they're said one way.
-/
namespace Go.Proofs.Ytjefolfbdohkcaa
open Go Go.Abs
section
variable {m : Abs.Mod} {S : List ByteArray} {g : Int → Int} (hs : ∀ x ∈ usedR m, SameAt S m.strings g x)
include hs
theorem mv_names (l : List Int) (hl : ∀ x ∈ l, x ∈ usedR m) : namesR S (l.map g) [] = namesR m.strings l [] := namesR_same l [] fun x hx => hs x (hl x hx)
theorem mv_whole : wholeR (saidM S g m) = wholeR m := by
  unfold wholeR
  have e1 := mv_names hs m.globals (fun x hx => List.mem_append_left _ hx)
  have e2 := mv_names hs (m.funcs.map (·.name)) (fun x hx => by
    obtain ⟨f, hf, rfl⟩ := List.mem_map.1 hx
    exact usedR_mem hf (by simp [usedF]))
  have e3 : (saidM S g m).funcs.map (·.name) = (m.funcs.map (·.name)).map g := by simp [saidM, mapF]
  rw [e3]
  show (if 40 < (m.globals.map _).length ∨ 40 < (m.funcs.map _).length ∨ 40 < m.entries.length then 2 else if 0 < namesR S (m.globals.map _) [] then namesR S (m.globals.map _) [] else if 0 < namesR S _ [] then namesR S _ [] else entriesR (m.funcs.map _).length m.entries []) = _
  rw [e1, e2]
  simp only [List.length_map]
omit hs in
theorem mv_there (f : MFun) (r : MRef) : thereR (saidM S g m) (mapF g f) r = thereR m f r := by
  unfold thereR
  simp only [saidM, mapF, List.length_map]
omit hs in
theorem mv_stmt (f : MFun) (d : Nat) (s : MStmt) : stmtR (saidM S g m) (mapF g f) d s = stmtR m f d s := by
  unfold stmtR
  have e : ∀ k : Nat, ((saidM S g m).funcs[k]?.getD default).params = (m.funcs[k]?.getD default).params := by
    intro k
    simp only [saidM, List.getElem?_map]
    cases m.funcs[k]? <;> rfl
  simp only [mv_there, e]
omit hs in
theorem mv_stmts (f : MFun) : ∀ l : List MItem, stmtsR (saidM S g m) (mapF g f) l = stmtsR m f l
  | [] => rfl
  | x :: r => by simp only [stmtsR, mv_stmt, mv_stmts f r]
theorem mv_fun {f : MFun} (hf : f ∈ m.funcs) : funR (saidM S g m) (mapF g f) = funR m f := by
  unfold funR
  have e1 := mv_names hs f.locals (fun x hx => usedR_mem hf (by simp [usedF, hx]))
  have e2 := mv_names hs f.sites (fun x hx => usedR_mem hf (by simp [usedF, hx]))
  simp only [saidM, mapF, List.length_map, e1, e2]
theorem mv_funs : ∀ (l : List MFun) (i : Nat), (∀ f ∈ l, f ∈ m.funcs) → funsR (saidM S g m) i (l.map (mapF g)) = funsR m i l
  | [], _, _ => rfl
  | f :: r, i, h => by
    simp only [List.map_cons, funsR]
    rw [mv_fun hs (h f (by simp)), mv_stmts, mv_funs r (i + 1) fun q hq => h q (by simp [hq])]
    rfl
theorem mv_tree : treeR (saidM S g m) = treeR m := by
  unfold treeR
  rw [mv_whole hs]
  show (if _ then _ else funsR (saidM S g m) 0 (m.funcs.map _)) = _
  rw [mv_funs hs m.funcs 0 fun f hf => hf]
omit hs in
theorem mv_used : usedR (saidM S g m) = (usedR m).map g := by
  simp only [usedR, saidM, List.map_append]
  congr 1
  rw [List.flatMap_map, List.map_flatMap]
  congr 1
  funext f
  simp [mapF]
theorem mv_row (hu : ∀ x ∈ usedR m, 0 ≤ x ∧ x < m.strings.length) : canonS (saidM S g m) = canonS m := by
  refine uniq _ _ (canonS_sorted _) (canonS_sorted _) fun x => ?_
  rw [canonS_mem, canonS_mem, mv_used]
  constructor
  · rintro ⟨k, h1, h2⟩
    obtain ⟨y, hy, e⟩ := List.mem_map.1 h2
    obtain ⟨a, b, c⟩ := hs y hy
    refine ⟨y.toNat, ?_, by rw [show ((y.toNat : Nat) : Int) = y by omega]; exact hy⟩
    rw [← c, e, Int.toNat_natCast]; exact h1
  · rintro ⟨k, h1, h2⟩
    obtain ⟨a, b, c⟩ := hs k h2
    refine ⟨(g k).toNat, ?_, List.mem_map.2 ⟨k, h2, by omega⟩⟩
    show S[(g k).toNat]? = _
    rw [c]; simpa using h1
theorem mv_canon (hu : ∀ x ∈ usedR m, 0 ≤ x ∧ x < m.strings.length) : canonM (saidM S g m) = canonM m := by
  have e := mv_row hs hu
  have key : ∀ x ∈ usedR m, numI (canonS m) S (g x) = numI (canonS m) m.strings x := by
    intro x hx
    obtain ⟨a, b, c⟩ := hs x hx
    unfold numI
    rw [List.getD_eq_getElem?_getD, List.getD_eq_getElem?_getD, c]
  unfold canonM
  rw [e]
  simp only [saidM, List.map_map]
  congr 1
  · exact List.map_congr_left fun x hx => key x (List.mem_append_left _ hx)
  · refine List.map_congr_left fun f hf => ?_
    have hk : ∀ x ∈ usedF f, numI (canonS m) S (g x) = numI (canonS m) m.strings x := fun x hx => key x (usedR_mem hf hx)
    simp only [Function.comp, canonF, mapF, List.map_map]
    congr 1
    · exact hk _ (by simp [usedF])
    · exact List.map_congr_left fun x hx => hk x (by simp [usedF, hx])
    · exact List.map_congr_left fun x hx => hk x (by simp [usedF, hx])
end
/-! ### what's said the one way stays -/
theorem sortR_sorted {used : List Int} : ∀ {ss : List ByteArray} {i : Nat} {p : Option ByteArray}, sortR used i p ss = true → ss.Pairwise ltB ∧ (∀ q, p = some q → ∀ x ∈ ss, ltB q x) ∧ ∀ k : Nat, k < ss.length → ((i + k : Nat) : Int) ∈ used
  | [], i, p, h => ⟨by simp, by simp, by simp⟩
  | s :: r, i, p, h => by
    simp only [sortR, Bool.and_eq_true, decide_eq_true_eq] at h
    obtain ⟨⟨h1, h2⟩, h3⟩ := h
    obtain ⟨a, b, c⟩ := sortR_sorted h3
    refine ⟨List.pairwise_cons.2 ⟨b s rfl, a⟩, fun q e x hx => ?_, fun k hk => ?_⟩
    · subst e
      have hq : ltB q s := by
        have h2' : Op.bytesLess q.toList s.toList = true := h2
        rw [less_eq] at h2'; exact (show dl q < dl s from of_decide_eq_true h2')
      rcases List.mem_cons.1 hx with e | e
      · subst e; exact hq
      · exact ltB_trans hq (b s rfl x e)
    · cases k with
      | zero => simpa using h1
      | succ k => rw [show i + (k + 1) = i + 1 + k by omega]; exact c k (by simpa using hk)
theorem canon_stays {m : Abs.Mod} (hu : ∀ x ∈ usedR m, 0 ≤ x ∧ x < m.strings.length) (hs : sortedR m = true) : canonM m = m := by
  obtain ⟨h1, _, h3⟩ := sortR_sorted hs
  have hS : canonS m = m.strings := by
    refine uniq _ _ (canonS_sorted m) h1 fun x => ?_
    rw [canonS_mem]
    constructor
    · rintro ⟨k, a, _⟩; exact List.mem_of_getElem? a
    · intro hx
      obtain ⟨k, hk, e⟩ := List.getElem_of_mem hx
      exact ⟨k, by rw [List.getElem?_eq_getElem hk, e], by have := h3 k hk; simpa using this⟩
  have key : ∀ x ∈ usedR m, numI m.strings m.strings x = x := by
    intro x hx
    obtain ⟨a, b⟩ := hu x hx
    have hk : x.toNat < m.strings.length := by omega
    have hp : m.strings[x.toNat]? = some m.strings[x.toNat] := List.getElem?_eq_getElem hk
    have hg : m.strings.getD x.toNat default = m.strings[x.toNat] := by simp [hk]
    rw [numI, hg, numB_at _ 0 x.toNat hp (fun q hq => sorted_first h1 hp hq)]
    omega
  unfold canonM
  rw [hS]
  have e1 : m.globals.map (numI m.strings m.strings) = m.globals := by
    conv => rhs; rw [← List.map_id m.globals]
    exact List.map_congr_left fun x hx => key x (List.mem_append_left _ hx)
  have e2 : m.funcs.map (canonF m.strings m.strings) = m.funcs := by
    conv => rhs; rw [← List.map_id m.funcs]
    refine List.map_congr_left fun f hf => ?_
    have hk : ∀ x ∈ usedF f, numI m.strings m.strings x = x := fun x hx => key x (usedR_mem hf hx)
    have l1 : f.locals.map (numI m.strings m.strings) = f.locals := by
      conv => rhs; rw [← List.map_id f.locals]
      exact List.map_congr_left fun x hx => hk x (by simp [usedF, hx])
    have l2 : f.sites.map (numI m.strings m.strings) = f.sites := by
      conv => rhs; rw [← List.map_id f.sites]
      exact List.map_congr_left fun x hx => hk x (by simp [usedF, hx])
    simp only [canonF, id]
    rw [hk f.name (by simp [usedF]), l1, l2]
  rw [e1, e2]
end Go.Proofs.Ytjefolfbdohkcaa
