/-
  NARROWER THAN 'FOR EVERY INPUT', by the rows' own cells (each row's printed sentence says how): CanonRaw: loops.
  DERIVED. THE GIVEN ROWS OF THIS SEAT. 5 by the template 'for every input the law returns true; each argument reads behind the call as it read before'; 0 by the template 'total and deterministic' (their statements: YtjefolfbdohkcaaTotals.lean).
  GIVEN WITH THE SEED: the statements are not yours to turn. If you find one false, say at which input.
  Laid BY PROGRAM, IN A SANDBOX (cutbox-rows.mjs): the forced cells as the released guide's own fill.sh prints them over the translation 83f590df2f00deba… (all of the seat's roots in one cut). By AI agents, Wed Nov 11 2026. No macro, syntax, notation, axiom, sorry.
-/
import Derived.Test.YtjefolfbdohkcaaChecked
import GoSem.Claim
import GoSem.ClaimJoined
import GoSem.ClaimMapViews
import Derived.JoinedTies
import Derived.KernelRfl
namespace Go.Proofs.Ytjefolfbdohkcaa
/- THE CELL 'sum', in the pinned program and in every row, IS THE sha256 OF THE DUMP (.gsa) THAT YtjefolfbdohkcaaProg.lean LOADS. Nothing in Lean hashes anything: it is a label: what it is worth is what the hold of that sum in a sandbox is worth. -/
noncomputable def Try.pinned : Pinned := { name := "ytjefolfbdohkcaa", sum := "83f590df2f00deba0f9eb66cda56a2044fdf477380ef8539b6d3fe6e178357c2", checked := Try.checked }
namespace Rows
def none {H : Type} : Left H := { results := [], args := [] }

/-- 'weathervanelaw07.CanonOf': WHATEVER THE INPUT: true; the input reads as it did. -/
def canonOfSpec : ChangeSpec := { name := "canonOf", fn := fun _ => fun
  | [d1, d2, d3] => { results := [.lit (.bool true)], args := [d1, d2, d3] }
  | _ => none }
def canonOfRow : OpenClaim := { program := "ytjefolfbdohkcaa", sum := "83f590df2f00deba0f9eb66cda56a2044fdf477380ef8539b6d3fe6e178357c2", func := "weathervane/weathervanelaw07.CanonOf", spec := "canonOf", unfollowed := true, recurses := true, apart := false }
def CanonOfSaid : Prop := canonOfRow.holds Try.pinned (OpenSpec.ofChange canonOfSpec)

/-- ITS FALSE NEIGHBOUR: 'it returns false'. Refute it at one input. -/
def canonOfWrong : ChangeSpec := { name := "canonOf", fn := fun _ => fun
  | [d1, d2, d3] => { results := [.lit (.bool false)], args := [d1, d2, d3] }
  | _ => none }
def CanonOfWrongFalsely : Prop := canonOfRow.holds Try.pinned (OpenSpec.ofChange canonOfWrong)

/-- 'weathervanelaw07.CanonRaw': WHATEVER THE INPUT: true; the input reads as it did. -/
def canonRawSpec : ChangeSpec := { name := "canonRaw", fn := fun _ => fun
  | [d] => { results := [.lit (.bool true)], args := [d] }
  | _ => none }
def canonRawRow : OpenClaim := { program := "ytjefolfbdohkcaa", sum := "83f590df2f00deba0f9eb66cda56a2044fdf477380ef8539b6d3fe6e178357c2", func := "weathervane/weathervanelaw07.CanonRaw", spec := "canonRaw", unfollowed := true, recurses := true, loops := true, apart := false }
def CanonRawSaid : Prop := canonRawRow.holds Try.pinned (OpenSpec.ofChange canonRawSpec)

/-- ITS FALSE NEIGHBOUR: 'it returns false'. Refute it at one input. -/
def canonRawWrong : ChangeSpec := { name := "canonRaw", fn := fun _ => fun
  | [d] => { results := [.lit (.bool false)], args := [d] }
  | _ => none }
def CanonRawWrongFalsely : Prop := canonRawRow.holds Try.pinned (OpenSpec.ofChange canonRawWrong)

/-- 'weathervanelaw07.CanonKeeps': WHATEVER THE INPUT: true; the input reads as it did. -/
def canonKeepsSpec : ChangeSpec := { name := "canonKeeps", fn := fun _ => fun
  | [d1, d2, d3] => { results := [.lit (.bool true)], args := [d1, d2, d3] }
  | _ => none }
def canonKeepsRow : OpenClaim := { program := "ytjefolfbdohkcaa", sum := "83f590df2f00deba0f9eb66cda56a2044fdf477380ef8539b6d3fe6e178357c2", func := "weathervane/weathervanelaw07.CanonKeeps", spec := "canonKeeps", unfollowed := true, recurses := true, apart := false }
def CanonKeepsSaid : Prop := canonKeepsRow.holds Try.pinned (OpenSpec.ofChange canonKeepsSpec)

/-- ITS FALSE NEIGHBOUR: 'it returns false'. Refute it at one input. -/
def canonKeepsWrong : ChangeSpec := { name := "canonKeeps", fn := fun _ => fun
  | [d1, d2, d3] => { results := [.lit (.bool false)], args := [d1, d2, d3] }
  | _ => none }
def CanonKeepsWrongFalsely : Prop := canonKeepsRow.holds Try.pinned (OpenSpec.ofChange canonKeepsWrong)

/-- 'weathervanelaw07.CanonTwice': WHATEVER THE INPUT: true; the input reads as it did. -/
def canonTwiceSpec : ChangeSpec := { name := "canonTwice", fn := fun _ => fun
  | [d1, d2, d3] => { results := [.lit (.bool true)], args := [d1, d2, d3] }
  | _ => none }
def canonTwiceRow : OpenClaim := { program := "ytjefolfbdohkcaa", sum := "83f590df2f00deba0f9eb66cda56a2044fdf477380ef8539b6d3fe6e178357c2", func := "weathervane/weathervanelaw07.CanonTwice", spec := "canonTwice", unfollowed := true, recurses := true, apart := false }
def CanonTwiceSaid : Prop := canonTwiceRow.holds Try.pinned (OpenSpec.ofChange canonTwiceSpec)

/-- ITS FALSE NEIGHBOUR: 'it returns false'. Refute it at one input. -/
def canonTwiceWrong : ChangeSpec := { name := "canonTwice", fn := fun _ => fun
  | [d1, d2, d3] => { results := [.lit (.bool false)], args := [d1, d2, d3] }
  | _ => none }
def CanonTwiceWrongFalsely : Prop := canonTwiceRow.holds Try.pinned (OpenSpec.ofChange canonTwiceWrong)

/-- 'weathervanelaw07.CanonTables': WHATEVER THE INPUT: true; the input reads as it did. -/
def canonTablesSpec : ChangeSpec := { name := "canonTables", fn := fun _ => fun
  | [d] => { results := [.lit (.bool true)], args := [d] }
  | _ => none }
def canonTablesRow : OpenClaim := { program := "ytjefolfbdohkcaa", sum := "83f590df2f00deba0f9eb66cda56a2044fdf477380ef8539b6d3fe6e178357c2", func := "weathervane/weathervanelaw07.CanonTables", spec := "canonTables", unfollowed := true, recurses := true, apart := false }
def CanonTablesSaid : Prop := canonTablesRow.holds Try.pinned (OpenSpec.ofChange canonTablesSpec)

/-- ITS FALSE NEIGHBOUR: 'it returns false'. Refute it at one input. -/
def canonTablesWrong : ChangeSpec := { name := "canonTables", fn := fun _ => fun
  | [d] => { results := [.lit (.bool false)], args := [d] }
  | _ => none }
def CanonTablesWrongFalsely : Prop := canonTablesRow.holds Try.pinned (OpenSpec.ofChange canonTablesWrong)

/- THE SECOND FORM. 'bulk': how many values and letters a reading holds, each counted each time it is reached (what is shared counts as often as it is met; a slice's spare places count too). A statement '..UptoSaid' is the law's where the arguments, and the package variables that the reading takes, are together of bulk at most 1048576: NARROWER than '..Said'. Prove '..Said' where nothing that the law and all that it calls make is longer than what came in: it says more and counts as full. Else prove '..UptoSaid'. A law counts once. -/
mutual
def uptoBulk {H : Type} : DataW H → Nat
  | .lit (.string bytes) => bytes.length + 1
  | .lit _ => 1
  | .nil => 1
  | .ptr d => uptoBulk d + 1
  | .slice elems spare => uptoBulkAll elems + uptoBulkAll spare + 1
  | .agg parts => uptoBulkAll parts + 1
  | .iface _ d => uptoBulk d + 1
  | .map entries => uptoBulkEntries entries + 1
  | .held _ => 1
def uptoBulkAll {H : Type} : List (DataW H) → Nat
  | [] => 0
  | d :: r => uptoBulk d + uptoBulkAll r
def uptoBulkEntries {H : Type} : List (Lit × DataW H) → Nat
  | [] => 0
  | x :: r => uptoBulkEntry x + uptoBulkEntries r
def uptoBulkEntry {H : Type} : Lit × DataW H → Nat
  | (.string bytes, d) => bytes.length + uptoBulk d + 1
  | (_, d) => uptoBulk d + 1
 end
def uptoSmall : (H : Type) → List (DataW H) → Bool := fun _ ds => decide (uptoBulkAll ds ≤ 1048576)
def OpenSpec.upto (s : _root_.Go.ChangeSpec) : _root_.Go.OpenSpec := { _root_.Go.OpenSpec.ofChange s with cond := some uptoSmall }

/-- 'weathervanelaw07.CanonOf', WHERE WHAT IT READS IS OF BULK AT MOST 1048576: true; the input reads as it did. -/
def canonOfUptoRow : OpenClaim := { program := "ytjefolfbdohkcaa", sum := "83f590df2f00deba0f9eb66cda56a2044fdf477380ef8539b6d3fe6e178357c2", func := "weathervane/weathervanelaw07.CanonOf", spec := "canonOf", unfollowed := true, recurses := true, apart := false, narrowed := true }
def CanonOfUptoSaid : Prop := canonOfUptoRow.holds Try.pinned (OpenSpec.upto canonOfSpec)

/-- 'weathervanelaw07.CanonRaw', WHERE WHAT IT READS IS OF BULK AT MOST 1048576: true; the input reads as it did. -/
def canonRawUptoRow : OpenClaim := { program := "ytjefolfbdohkcaa", sum := "83f590df2f00deba0f9eb66cda56a2044fdf477380ef8539b6d3fe6e178357c2", func := "weathervane/weathervanelaw07.CanonRaw", spec := "canonRaw", unfollowed := true, recurses := true, loops := true, apart := false, narrowed := true }
def CanonRawUptoSaid : Prop := canonRawUptoRow.holds Try.pinned (OpenSpec.upto canonRawSpec)

/-- 'weathervanelaw07.CanonKeeps', WHERE WHAT IT READS IS OF BULK AT MOST 1048576: true; the input reads as it did. -/
def canonKeepsUptoRow : OpenClaim := { program := "ytjefolfbdohkcaa", sum := "83f590df2f00deba0f9eb66cda56a2044fdf477380ef8539b6d3fe6e178357c2", func := "weathervane/weathervanelaw07.CanonKeeps", spec := "canonKeeps", unfollowed := true, recurses := true, apart := false, narrowed := true }
def CanonKeepsUptoSaid : Prop := canonKeepsUptoRow.holds Try.pinned (OpenSpec.upto canonKeepsSpec)

/-- 'weathervanelaw07.CanonTwice', WHERE WHAT IT READS IS OF BULK AT MOST 1048576: true; the input reads as it did. -/
def canonTwiceUptoRow : OpenClaim := { program := "ytjefolfbdohkcaa", sum := "83f590df2f00deba0f9eb66cda56a2044fdf477380ef8539b6d3fe6e178357c2", func := "weathervane/weathervanelaw07.CanonTwice", spec := "canonTwice", unfollowed := true, recurses := true, apart := false, narrowed := true }
def CanonTwiceUptoSaid : Prop := canonTwiceUptoRow.holds Try.pinned (OpenSpec.upto canonTwiceSpec)

/-- 'weathervanelaw07.CanonTables', WHERE WHAT IT READS IS OF BULK AT MOST 1048576: true; the input reads as it did. -/
def canonTablesUptoRow : OpenClaim := { program := "ytjefolfbdohkcaa", sum := "83f590df2f00deba0f9eb66cda56a2044fdf477380ef8539b6d3fe6e178357c2", func := "weathervane/weathervanelaw07.CanonTables", spec := "canonTables", unfollowed := true, recurses := true, apart := false, narrowed := true }
def CanonTablesUptoSaid : Prop := canonTablesUptoRow.holds Try.pinned (OpenSpec.upto canonTablesSpec)

end Rows
end Go.Proofs.Ytjefolfbdohkcaa
