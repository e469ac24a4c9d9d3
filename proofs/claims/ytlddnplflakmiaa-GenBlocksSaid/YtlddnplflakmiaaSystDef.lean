/-
  Systems, as plain data; their rules.
-/
import Derived.Test.YtlddnplflakmiaaMods
set_option autoImplicit false
set_option linter.unusedVariables false
namespace Go.Abs
open Go
/-! ### systems -/
structure MCell where
  fn : Bool
  var : Int
  args : List Int
  deriving DecidableEq, Inhabited
structure MCon where
  kind : Int
  a : Int
  b : Int
  args : List Int
  deriving DecidableEq, Inhabited
structure MSys where
  vars : Int
  cells : List MCell
  cons : List MCon
  deriving DecidableEq, Inhabited
def MCell.F (c : MCell) : List F := [.s (.bool c.fn), .s (.int .i64 c.var), .lst c.args.length (kF .i64 c.args)]
def MCon.F (c : MCon) : List F := [.s (.int .u8 c.kind), .s (.int .i64 c.a), .s (.int .i64 c.b), .lst c.args.length (kF .i64 c.args)]
abbrev cellsF (l : List MCell) : List F := l.flatMap MCell.F
abbrev consF (l : List MCon) : List F := l.flatMap MCon.F
abbrev cellV (c : MCell) : List V := [B c.fn, N .i64 c.var, .f (.lst c.args.length (kF .i64 c.args))]
abbrev sysV (s : MSys) : List V := [N .i64 s.vars, .f (.lst s.cells.length (cellsF s.cells)), .f (.lst s.cons.length (consF s.cons))]
theorem MCell.F_len (c : MCell) : c.F.length = 3 := rfl
theorem MCon.F_len (c : MCon) : c.F.length = 4 := rfl
end Go.Abs
