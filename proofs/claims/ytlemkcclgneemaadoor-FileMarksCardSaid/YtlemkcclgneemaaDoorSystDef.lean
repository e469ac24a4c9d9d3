/-
  Systems, as plain data; their rules.
-/
import Derived.Test.YtlemkcclgneemaaDoorMods
set_option autoImplicit false
set_option linter.unusedVariables false
namespace Go.Abs
open Go

/-! ### systems -/
structure MCell where
  fn : Bool
  var : Int
  args : List Int
  deriving DecidableEq, Inhabited
structure MCon where
  kind : Int
  a : Int
  b : Int
  args : List Int
  deriving DecidableEq, Inhabited
structure MSys where
  vars : Int
  cells : List MCell
  cons : List MCon
  deriving DecidableEq, Inhabited
def MCell.F (c : MCell) : List F := [.s (.bool c.fn), .s (.int .i64 c.var), .lst c.args.length (kF .i64 c.args)]
def MCon.F (c : MCon) : List F := [.s (.int .u8 c.kind), .s (.int .i64 c.a), .s (.int .i64 c.b), .lst c.args.length (kF .i64 c.args)]
abbrev cellsF (l : List MCell) : List F := l.flatMap MCell.F
abbrev consF (l : List MCon) : List F := l.flatMap MCon.F
abbrev cellV (c : MCell) : List V := [B c.fn, N .i64 c.var, .f (.lst c.args.length (kF .i64 c.args))]
abbrev conV (c : MCon) : List V := [N .u8 c.kind, N .i64 c.a, N .i64 c.b, .f (.lst c.args.length (kF .i64 c.args))]
abbrev sysV (s : MSys) : List V := [N .i64 s.vars, .f (.lst s.cells.length (cellsF s.cells)), .f (.lst s.cons.length (consF s.cons))]
theorem MCell.F_len (c : MCell) : c.F.length = 3 := rfl
theorem MCon.F_len (c : MCon) : c.F.length = 4 := rfl
def inR (n least below : Int) : Bool := decide (least ≤ n) && decide (n < below)
def cellR (vars : Int) (c : MCell) : Bool := c.args.all (fun n => inR n 0 vars) && (inR c.var 0 vars && (decide (c.args.length ≤ 6) && (c.fn || decide (c.args.length = 0))))
def conR (vars : Int) (cells : Nat) (c : MCon) : Bool :=
  if c.kind = 1 then inR c.a 0 vars && (inR c.b 0 cells && decide (c.args.length = 0))
  else if c.kind = 2 ∨ c.kind = 3 ∨ c.kind = 4 then inR c.a 0 vars && (inR c.b 0 vars && decide (c.args.length = 0))
  else if c.kind = 5 then c.args.all (fun n => inR n (-1) vars) && (inR c.a (-1) vars && (inR c.b 0 vars && decide (c.args.length ≤ 6)))
  else false
def rightR (s : MSys) : Bool := decide (0 ≤ s.vars ∧ s.vars ≤ 16384 ∧ s.cells.length ≤ 16384 ∧ s.cons.length ≤ 131072) && (s.cells.all (cellR s.vars) && s.cons.all (conR s.vars s.cells.length))

end Go.Abs
