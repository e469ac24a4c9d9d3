/-
  The rules of modules, in plain words.
-/
import Derived.Test.YtjefolfbdohkcaaMods
set_option autoImplicit false
set_option linter.unusedVariables false
namespace Go.Abs
open Go
/-- all statements, in order; d: in how many blocks; n: how many are ahead -/
def flats (d : Nat) : Nat → List MStmt → List MItem
  | _, [] => []
  | n, s :: r =>
    if s.kind = 7 ∧ d < 1000 then
      let l := flats (d + 1) (n + 1) s.body
      ⟨n, d, s⟩ :: (l ++ flats d (n + 1 + l.length) r)
    else ⟨n, d, s⟩ :: flats d (n + 1) r
  termination_by n l => SizeOf.sizeOf l
  decreasing_by
    all_goals (cases s; simp [MStmt.body]; try omega)
theorem flats_nil (d n : Nat) : flats d n [] = [] := by rw [flats]
theorem flats_cons (d n : Nat) (s : MStmt) (r : List MStmt) : flats d n (s :: r) = if s.kind = 7 ∧ d < 1000 then ⟨n, d, s⟩ :: (flats (d + 1) (n + 1) s.body ++ flats d (n + 1 + (flats (d + 1) (n + 1) s.body).length) r) else ⟨n, d, s⟩ :: flats d (n + 1) r := by
  rw [flats]
def isName (ss : List ByteArray) (n : Int) : Bool :=
  decide (0 ≤ n) && match ss[n.toNat]? with
    | some s => decide (s.data.toList ≠ []) && decide (s.size ≤ 40)
    | none => false
/-- seen: names that were there -/
def namesR (ss : List ByteArray) : List Int → List ByteArray → Int
  | [], _ => 0
  | n :: r, seen => if isName ss n = false then 1 else if (ss[n.toNat]?.getD default) ∈ seen then 3 else namesR ss r ((ss[n.toNat]?.getD default) :: seen)
def entriesR (k : Nat) : List Int → List Int → Int
  | [], _ => 0
  | e :: r, seen => if e < 0 ∨ (k : Int) ≤ e then 5 else if e ∈ seen then 3 else entriesR k r (e :: seen)
def wholeR (m : Mod) : Int :=
  if 40 < m.globals.length ∨ 40 < m.funcs.length ∨ 40 < m.entries.length then 2
  else if 0 < namesR m.strings m.globals [] then namesR m.strings m.globals []
  else if 0 < namesR m.strings (m.funcs.map (·.name)) [] then namesR m.strings (m.funcs.map (·.name)) []
  else entriesR m.funcs.length m.entries []
def funR (m : Mod) (f : MFun) : Int :=
  if 40 < f.locals.length ∨ 40 < f.sites.length ∨ 400 < (flats 0 0 f.body).length then 2
  else if f.params < 0 ∨ (f.locals.length : Int) < f.params ∨ 6 < f.params then 4
  else if 0 < namesR m.strings f.locals [] then namesR m.strings f.locals []
  else namesR m.strings f.sites []
def thereR (m : Mod) (f : MFun) (r : MRef) : Bool :=
  if r.k = 0 then decide (r.id = 0)
  else decide (0 ≤ r.id) && decide (r.id < (if r.k = 1 then f.locals.length else if r.k = 2 then m.globals.length else if r.k = 3 then m.funcs.length else f.sites.length : Nat))
def varR (r : MRef) : Bool := decide (r.k = 1 ∨ r.k = 2)
def kindsR (s : MStmt) : Bool :=
  if s.kind = 1 then decide (s.args = [] ∧ s.body = [] ∧ varR s.a = true ∧ 1 ≤ s.b.k ∧ s.b.k ≤ 4)
  else if s.kind = 2 ∨ s.kind = 3 ∨ s.kind = 4 then decide (s.args = [] ∧ s.body = [] ∧ varR s.a = true ∧ varR s.b = true)
  else if s.kind = 5 then decide ((∀ r ∈ s.args, varR r = true) ∧ s.body = [] ∧ (s.a = ⟨0, 0⟩ ∨ varR s.a = true) ∧ (varR s.b = true ∨ s.b.k = 3))
  else if s.kind = 6 then decide (s.args = [] ∧ s.body = [] ∧ s.a = ⟨0, 0⟩ ∧ varR s.b = true)
  else if s.kind = 7 then decide (s.a = ⟨0, 0⟩ ∧ s.b = ⟨0, 0⟩ ∧ s.args = [])
  else false
def stmtR (m : Mod) (f : MFun) (deep : Nat) (s : MStmt) : Int :=
  if 8 < deep then 6
  else if kindsR s = false then 7
  else if thereR m f s.a = false ∨ thereR m f s.b = false ∨ ∃ r ∈ s.args, thereR m f r = false then 8
  else if s.kind = 5 ∧ (6 < s.args.length ∨ s.b.k = 3 ∧ (s.args.length : Int) ≠ (m.funcs[s.b.id.toNat]?.getD default).params) then 9
  else 0
def stmtsR (m : Mod) (f : MFun) : List MItem → Option (Int × Nat)
  | [] => none
  | x :: r => if 0 < stmtR m f x.deep x.s then some (stmtR m f x.deep x.s, x.n) else stmtsR m f r
/-- rule, function, statement -/
def funsR (m : Mod) : Nat → List MFun → Option (Int × Int × Int)
  | _, [] => none
  | i, f :: r => if 0 < funR m f then some (funR m f, i, -1) else match stmtsR m f (flats 0 0 f.body) with
    | some (n, s) => some (n, i, s)
    | none => funsR m (i + 1) r
def treeR (m : Mod) : Option (Int × Int × Int) := if 0 < wholeR m then some (wholeR m, -1, -1) else funsR m 0 m.funcs
def usedR (m : Mod) : List Int := m.globals ++ m.funcs.flatMap fun f => f.name :: (f.locals ++ f.sites)
/-- from the i-th string on; before: the one ahead -/
def sortR (used : List Int) : Nat → Option ByteArray → List ByteArray → Bool
  | _, _, [] => true
  | i, p, s :: r => decide ((i : Int) ∈ used) && (match p with
    | none => true
    | some p => Op.bytesLess p.toList s.toList) && sortR used (i + 1) (some s) r
def sortedR (m : Mod) : Bool := sortR (usedR m) 0 none m.strings
def faultV : Option (Int × Int × Int) → List V
  | none => [I 0, I 0, I 0, I 0, I 0, I (-1), I (-1)]
  | some (n, f, s) => [I 8, I 0, I 0, I 0, I n, I f, I s]
def big : Nat := 1000000000000
end Go.Abs
