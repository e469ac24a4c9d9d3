/-
  Statements that are made of numbers break no rule.
-/
import Derived.Test.YtjefolfbdohkcaaMakeOk
set_option autoImplicit false
set_option linter.unusedVariables false
namespace Go.Abs
open Go
/-- where a statement stands: m: its module; f: its function -/
structure InM (m : Mod) (f : MFun) (G L S : Nat) (ps : List Int) : Prop where
  g : m.globals.length = G
  l : f.locals.length = L
  s : f.sites.length = S
  p : m.funcs.map (·.params) = ps
  l0 : 0 < L
  s0 : 0 < S
  n0 : 0 < ps.length
  pr : ∀ p ∈ ps, 0 ≤ p ∧ p ≤ 6
section
variable {m : Mod} {f : MFun} {G L S : Nat} {ps : List Int}
/-- a statement, with what is in it -/
def fineS (m : Mod) (f : MFun) (s : MStmt) : Prop := stmtR m f 0 s = 0 ∧ s.args.length ≤ 6 ∧ s.body.length ≤ 2 ∧ ∀ t ∈ s.body, stmtR m f 1 t = 0 ∧ t.kind ≠ 7 ∧ t.args.length ≤ 6
end
end Go.Abs
/-
  Modules that are made of numbers, whole: none breaks a rule; there is little of each.
-/
namespace Go.Abs
open Go
section
variable (g f e : Nat) (acts : List MAct)
/-- goodB, part by part -/
structure FineM (m : Mod) : Prop where
  used : ∀ n ∈ usedR m, 0 ≤ n ∧ n < m.strings.length
  strings : m.strings.length ≤ 100
  globals : m.globals.length ≤ 3
  funcs1 : 1 ≤ m.funcs.length
  funcs : m.funcs.length ≤ 4
  rows : ∀ f ∈ m.funcs, 1 ≤ f.locals.length ∧ f.locals.length ≤ 6 ∧ 1 ≤ f.sites.length ∧ f.sites.length ≤ 2 ∧ 0 ≤ f.params ∧ f.params ≤ 3 ∧ f.params ≤ f.locals.length
  nameG : namesR (canonM m).strings (canonM m).globals [] = 0
  nameF : namesR (canonM m).strings ((canonM m).funcs.map (·.name)) [] = 0
  sorted : sortedR (canonM m) = true
  stringsC : (canonM m).strings.length ≤ 100
  names : ∀ f ∈ (canonM m).funcs, namesR (canonM m).strings f.locals [] = 0 ∧ namesR (canonM m).strings f.sites [] = 0
/-- little of each -/
structure Small (m : Mod) (n : Nat) : Prop where
  strings : m.strings.length ≤ 100
  globals : m.globals.length ≤ 3
  funcs1 : 1 ≤ m.funcs.length
  funcs : m.funcs.length ≤ 4
  entries : m.entries.length ≤ 4
  rows : ∀ f ∈ m.funcs, 1 ≤ f.locals.length ∧ f.locals.length ≤ 6 ∧ 1 ≤ f.sites.length ∧ f.sites.length ≤ 2 ∧ 0 ≤ f.params ∧ f.params ≤ 3 ∧ f.params ≤ f.locals.length
  bodies : ∀ f ∈ m.funcs, f.body.length ≤ n ∧ (flats 0 0 f.body).length ≤ 3 * n ∧ (∀ y ∈ flats 0 0 f.body, y.s.args.length ≤ 6) ∧ ∀ s ∈ f.body, fineS m f s
end
end Go.Abs
