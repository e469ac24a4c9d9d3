/-
  Modules that are made of numbers break no rule.
-/
import Derived.Test.YtjefolfbdohkcaaMakes
set_option autoImplicit false
set_option linter.unusedVariables false
namespace Go.Abs
open Go
/-! ### all but statements -/
def strip (f : MFun) : MFun := { f with body := [] }
theorem modify_strip (h : MFun → MFun) (hh : ∀ f, strip (h f) = strip f) : ∀ (fs : List MFun) (j : Nat), (fs.modify j h).map strip = fs.map strip
  | [], j => by cases j <;> rfl
  | f :: fs, 0 => by simp [hh]
  | f :: fs, j + 1 => by simp [modify_strip h hh fs j]
theorem bodyM_strip (m : Mod) (len : Nat) : ∀ (acts : List MAct) (i : Nat) (fs : List MFun), (bodyM m len i acts fs).map strip = fs.map strip
  | [], i, fs => rfl
  | x :: r, i, fs => by
    unfold bodyM
    dsimp only
    rw [bodyM_strip m len r]
    exact modify_strip (fun f => { f with body := f.body ++ [putM m f x] }) (fun _ => rfl) _ _
theorem bodyM_len (m : Mod) (len : Nat) (acts : List MAct) (i : Nat) (fs : List MFun) : (bodyM m len i acts fs).length = fs.length := by
  have := congrArg List.length (bodyM_strip m len acts i fs)
  simpa using this
theorem usedR_strip {a b : Mod} (hg : a.globals = b.globals) (hf : a.funcs.map strip = b.funcs.map strip) : usedR a = usedR b := by
  have key : ∀ l : List MFun, (l.flatMap fun f => f.name :: (f.locals ++ f.sites)) = (l.map strip).flatMap fun f => f.name :: (f.locals ++ f.sites) := fun l => by
    rw [List.flatMap_map]; rfl
  unfold usedR
  rw [hg, key a.funcs, key b.funcs, hf]
theorem canonS_strip {a b : Mod} (hs : a.strings = b.strings) (hg : a.globals = b.globals) (hf : a.funcs.map strip = b.funcs.map strip) : canonS a = canonS b := by
  unfold canonS; rw [hs, usedR_strip hg hf]
/-- a module's frame -/
def bare (m : Mod) : Mod := { m with funcs := m.funcs.map strip }
theorem bare_canon (m : Mod) : bare (canonM m) = canonM (bare m) := by
  have h1 : canonS (bare m) = canonS m := canonS_strip rfl rfl (by unfold bare; rw [List.map_map]; rfl)
  have h2 : (bare m).strings = m.strings := rfl
  unfold canonM
  rw [h1, h2]
  unfold bare
  dsimp only
  rw [List.map_map, List.map_map]
  rfl
theorem names_strip (l : List MFun) : l.map (·.name) = (l.map strip).map (·.name) := by rw [List.map_map]; rfl
theorem params_strip (l : List MFun) : l.map (·.params) = (l.map strip).map (·.params) := by rw [List.map_map]; rfl
theorem wholeR_bare (m : Mod) : wholeR m = wholeR (bare m) := by
  unfold wholeR bare
  dsimp only
  rw [names_strip m.funcs, List.length_map]
theorem sortedR_bare (m : Mod) : sortedR m = sortedR (bare m) := by
  have : usedR m = usedR (bare m) := usedR_strip rfl (by unfold bare; rw [List.map_map]; rfl)
  unfold sortedR
  rw [this]
  rfl
/-! ### a frame is one of few -/
theorem frame_red (g f e : Nat) : frameM g f e = { frameM (g % 4 + 4 * (g / 4 % 3)) (f % 4 + 4 * (f / 4 % 4)) 0 with entries := entR e 0 (funN f) } := by
  have hG : globN (g % 4 + 4 * (g / 4 % 3)) = globN g := by unfold globN; omega
  have hs : (g % 4 + 4 * (g / 4 % 3)) / 4 % 3 = g / 4 % 3 := by omega
  have hS : globS (g % 4 + 4 * (g / 4 % 3)) = globS g := by unfold globS; rw [hG, hs]
  have hN : funN (f % 4 + 4 * (f / 4 % 4)) = funN f := by unfold funN; omega
  have hP : ∀ i, parN (f % 4 + 4 * (f / 4 % 4)) i = parN f i := fun i => by unfold parN; omega
  have hL : ∀ i, locN (f % 4 + 4 * (f / 4 % 4)) i = locN f i := fun i => by unfold locN; rw [hP]
  have hLS : ∀ i, locS (f % 4 + 4 * (f / 4 % 4)) i = locS f i := fun i => by unfold locS; rw [hL]
  have hF : ∀ i a, fun0 (f % 4 + 4 * (f / 4 % 4)) i a = fun0 f i a := fun i a => by unfold fun0; rw [hP, hL]
  have hSF : ∀ n i, strF (f % 4 + 4 * (f / 4 % 4)) i n = strF f i n := by
    intro n
    induction n with
    | zero => intro i; rfl
    | succ n ih => intro i; unfold strF; rw [hLS, ih]
  have hFF : ∀ n i a, funF0 (f % 4 + 4 * (f / 4 % 4)) i a n = funF0 f i a n := by
    intro n
    induction n with
    | zero => intro i a; rfl
    | succ n ih => intro i a; unfold funF0; rw [hF, hL, ih]
  unfold frameM
  rw [hS, hN, hSF, hG, hFF]
def inB (m : Mod) : Bool := (usedR m).all fun n => decide (0 ≤ n) && decide (n < m.strings.length)
def rowB (f : MFun) : Bool := decide (1 ≤ f.locals.length) && decide (f.locals.length ≤ 6) && decide (1 ≤ f.sites.length) && decide (f.sites.length ≤ 2) && decide (0 ≤ f.params) && decide (f.params ≤ 3) && decide (f.params ≤ f.locals.length)
/-- what is asked of a frame -/
def goodB (m : Mod) : Bool :=
  inB m && decide (m.strings.length ≤ 100) && decide (m.globals.length ≤ 3) && decide (1 ≤ m.funcs.length) && decide (m.funcs.length ≤ 4) && m.funcs.all rowB &&
  decide (namesR (canonM m).strings (canonM m).globals [] = 0) && decide (namesR (canonM m).strings ((canonM m).funcs.map (·.name)) [] = 0) && sortedR (canonM m) && decide ((canonM m).strings.length ≤ 100) &&
  (canonM m).funcs.all fun f => decide (namesR (canonM m).strings f.locals [] = 0) && decide (namesR (canonM m).strings f.sites [] = 0)
set_option maxRecDepth 100000 in
theorem good0 : ((List.range 3).all fun g => (List.range 16).all fun f => goodB (frameM g f 0)) = true := by decide +kernel
set_option maxRecDepth 100000 in
theorem good3 : ((List.range' 3 3).all fun g => (List.range 16).all fun f => goodB (frameM g f 0)) = true := by decide +kernel
set_option maxRecDepth 100000 in
theorem good6 : ((List.range' 6 3).all fun g => (List.range 16).all fun f => goodB (frameM g f 0)) = true := by decide +kernel
set_option maxRecDepth 100000 in
theorem good9 : ((List.range' 9 3).all fun g => (List.range 16).all fun f => goodB (frameM g f 0)) = true := by decide +kernel
theorem good_few (g f : Nat) (hg : g < 12) (hf : f < 16) : goodB (frameM g f 0) = true := by
  have pick : ∀ (l : List Nat), (l.all fun g => (List.range 16).all fun f => goodB (frameM g f 0)) = true → g ∈ l → goodB (frameM g f 0) = true := fun l h hm =>
    List.all_eq_true.1 (List.all_eq_true.1 h g hm) f (List.mem_range.2 hf)
  rcases (by omega : g < 3 ∨ (3 ≤ g ∧ g < 6) ∨ (6 ≤ g ∧ g < 9) ∨ (9 ≤ g ∧ g < 12)) with h | h | h | h
  · exact pick _ good0 (List.mem_range.2 h)
  · exact pick _ good3 (List.mem_range'_1.2 (by omega))
  · exact pick _ good6 (List.mem_range'_1.2 (by omega))
  · exact pick _ good9 (List.mem_range'_1.2 (by omega))
theorem good_ent (m : Mod) (e : List Int) : goodB { m with entries := e } = goodB m := rfl
theorem good_all (g f e : Nat) : goodB (frameM g f e) = true := by
  rw [frame_red, good_ent]
  exact good_few _ _ (by omega) (by omega)
theorem entries_ok (e : Nat) : ∀ n, n ≤ 4 → entriesR n (entR e 0 n) [] = 0 ∧ (entR e 0 n).length ≤ 4 := by
  have red : ∀ n, n ≤ 4 → entR e 0 n = entR (e % 16) 0 n := by
    intro n hn
    unfold entR
    congr 1
    apply List.filter_congr
    intro i hi
    have hi' : i < 4 := by have := List.mem_range'_1.1 hi; omega
    have : e % 16 / 2 ^ i % 2 = e / 2 ^ i % 2 := by
      rcases (by omega : i = 0 ∨ i = 1 ∨ i = 2 ∨ i = 3) with rfl | rfl | rfl | rfl <;> simp <;> omega
    rw [this]
  have all : ((List.range 16).all fun e => (List.range 5).all fun n => decide (entriesR n (entR e 0 n) [] = 0) && decide ((entR e 0 n).length ≤ 4)) = true := by decide +kernel
  intro n hn
  rw [red n hn]
  have := List.all_eq_true.1 (List.all_eq_true.1 all (e % 16) (List.mem_range.2 (Nat.mod_lt _ (by omega)))) n (List.mem_range.2 (by omega))
  simpa using this
end Go.Abs
