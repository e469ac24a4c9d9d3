/-
  No cell of these rows narrows 'for every input' (looked for: loops, veiled, ifaces, maps, wideKeys, modest, calm, conditions, laid).
  DERIVED. THE GIVEN ROWS OF THIS SEAT. 5 by the template 'for every input the law returns true; each argument reads behind the call as it read before'; 0 by the template 'total and deterministic' (their statements: YtojnkpaholkpnaaTotals.lean).
  GIVEN WITH THE SEED: the statements are not yours to turn. If you find one false, say at which input.
  Laid BY PROGRAM, IN A SANDBOX (cutbox-rows.mjs): the forced cells as the released guide's own fill.sh prints them over the translation d18ee5cf0e19ab41… (all of the seat's roots in one cut). By AI agents, Wed Nov 11 2026. No macro, syntax, notation, axiom, sorry.
-/
import Derived.Test.YtojnkpaholkpnaaChecked
import GoSem.Claim
import GoSem.ClaimJoined
import GoSem.ClaimMapViews
import Derived.JoinedTies
import Derived.KernelRfl
namespace Go.Proofs.Ytojnkpaholkpnaa
/- THE CELL 'sum', in the pinned program and in every row, IS THE sha256 OF THE DUMP (.gsa) THAT YtojnkpaholkpnaaProg.lean LOADS. Nothing in Lean hashes anything: it is a label: what it is worth is what the hold of that sum in a sandbox is worth. -/
noncomputable def Try.pinned : Pinned := { name := "ytojnkpaholkpnaa", sum := "d18ee5cf0e19ab4183ec6fb13b1b9a2004c8a81a20b478825d6637d23e88b8b4", checked := Try.checked }
namespace Rows
def none {H : Type} : Left H := { results := [], args := [] }

/-- 'weathervanelaw06.RuleDrafts': WHATEVER THE INPUT: true; the input reads as it did. -/
def ruleDraftsSpec : ChangeSpec := { name := "ruleDrafts", fn := fun _ => fun
  | [d] => { results := [.lit (.bool true)], args := [d] }
  | _ => none }
def ruleDraftsRow : OpenClaim := { program := "ytojnkpaholkpnaa", sum := "d18ee5cf0e19ab4183ec6fb13b1b9a2004c8a81a20b478825d6637d23e88b8b4", func := "weathervane/weathervanelaw06.RuleDrafts", spec := "ruleDrafts", recurses := true, apart := false }
def RuleDraftsSaid : Prop := ruleDraftsRow.holds Try.pinned (OpenSpec.ofChange ruleDraftsSpec)

/-- ITS FALSE NEIGHBOUR: 'it returns false'. Refute it at one input. -/
def ruleDraftsWrong : ChangeSpec := { name := "ruleDrafts", fn := fun _ => fun
  | [d] => { results := [.lit (.bool false)], args := [d] }
  | _ => none }
def RuleDraftsWrongFalsely : Prop := ruleDraftsRow.holds Try.pinned (OpenSpec.ofChange ruleDraftsWrong)

/-- 'weathervanelaw06.RuleNear': WHATEVER THE INPUT: true; the input reads as it did. -/
def ruleNearSpec : ChangeSpec := { name := "ruleNear", fn := fun _ => fun
  | [d1, d2, d3, d4, d5] => { results := [.lit (.bool true)], args := [d1, d2, d3, d4, d5] }
  | _ => none }
def ruleNearRow : OpenClaim := { program := "ytojnkpaholkpnaa", sum := "d18ee5cf0e19ab4183ec6fb13b1b9a2004c8a81a20b478825d6637d23e88b8b4", func := "weathervane/weathervanelaw06.RuleNear", spec := "ruleNear", recurses := true, apart := false }
def RuleNearSaid : Prop := ruleNearRow.holds Try.pinned (OpenSpec.ofChange ruleNearSpec)

/-- ITS FALSE NEIGHBOUR: 'it returns false'. Refute it at one input. -/
def ruleNearWrong : ChangeSpec := { name := "ruleNear", fn := fun _ => fun
  | [d1, d2, d3, d4, d5] => { results := [.lit (.bool false)], args := [d1, d2, d3, d4, d5] }
  | _ => none }
def RuleNearWrongFalsely : Prop := ruleNearRow.holds Try.pinned (OpenSpec.ofChange ruleNearWrong)

/-- 'weathervanelaw06.RuleBounds': WHATEVER THE INPUT: true; the input reads as it did. -/
def ruleBoundsSpec : ChangeSpec := { name := "ruleBounds", fn := fun _ => fun
  | [d1, d2] => { results := [.lit (.bool true)], args := [d1, d2] }
  | _ => none }
def ruleBoundsRow : OpenClaim := { program := "ytojnkpaholkpnaa", sum := "d18ee5cf0e19ab4183ec6fb13b1b9a2004c8a81a20b478825d6637d23e88b8b4", func := "weathervane/weathervanelaw06.RuleBounds", spec := "ruleBounds", recurses := true, apart := false }
def RuleBoundsSaid : Prop := ruleBoundsRow.holds Try.pinned (OpenSpec.ofChange ruleBoundsSpec)

/-- ITS FALSE NEIGHBOUR: 'it returns false'. Refute it at one input. -/
def ruleBoundsWrong : ChangeSpec := { name := "ruleBounds", fn := fun _ => fun
  | [d1, d2] => { results := [.lit (.bool false)], args := [d1, d2] }
  | _ => none }
def RuleBoundsWrongFalsely : Prop := ruleBoundsRow.holds Try.pinned (OpenSpec.ofChange ruleBoundsWrong)

/-- 'weathervanelaw06.RuleUsed': WHATEVER THE INPUT: true; the input reads as it did. -/
def ruleUsedSpec : ChangeSpec := { name := "ruleUsed", fn := fun _ => fun
  | [d1, d2] => { results := [.lit (.bool true)], args := [d1, d2] }
  | _ => none }
def ruleUsedRow : OpenClaim := { program := "ytojnkpaholkpnaa", sum := "d18ee5cf0e19ab4183ec6fb13b1b9a2004c8a81a20b478825d6637d23e88b8b4", func := "weathervane/weathervanelaw06.RuleUsed", spec := "ruleUsed", recurses := true, apart := false }
def RuleUsedSaid : Prop := ruleUsedRow.holds Try.pinned (OpenSpec.ofChange ruleUsedSpec)

/-- ITS FALSE NEIGHBOUR: 'it returns false'. Refute it at one input. -/
def ruleUsedWrong : ChangeSpec := { name := "ruleUsed", fn := fun _ => fun
  | [d1, d2] => { results := [.lit (.bool false)], args := [d1, d2] }
  | _ => none }
def RuleUsedWrongFalsely : Prop := ruleUsedRow.holds Try.pinned (OpenSpec.ofChange ruleUsedWrong)

/-- 'weathervanelaw06.RuleArity': WHATEVER THE INPUT: true; the input reads as it did. -/
def ruleAritySpec : ChangeSpec := { name := "ruleArity", fn := fun _ => fun
  | [d1, d2, d3] => { results := [.lit (.bool true)], args := [d1, d2, d3] }
  | _ => none }
def ruleArityRow : OpenClaim := { program := "ytojnkpaholkpnaa", sum := "d18ee5cf0e19ab4183ec6fb13b1b9a2004c8a81a20b478825d6637d23e88b8b4", func := "weathervane/weathervanelaw06.RuleArity", spec := "ruleArity", recurses := true, apart := false }
def RuleAritySaid : Prop := ruleArityRow.holds Try.pinned (OpenSpec.ofChange ruleAritySpec)

/-- ITS FALSE NEIGHBOUR: 'it returns false'. Refute it at one input. -/
def ruleArityWrong : ChangeSpec := { name := "ruleArity", fn := fun _ => fun
  | [d1, d2, d3] => { results := [.lit (.bool false)], args := [d1, d2, d3] }
  | _ => none }
def RuleArityWrongFalsely : Prop := ruleArityRow.holds Try.pinned (OpenSpec.ofChange ruleArityWrong)

/- THE SECOND FORM. 'bulk': how many values and letters a reading holds, each counted each time it is reached (what is shared counts as often as it is met; a slice's spare places count too). A statement '..UptoSaid' is the law's where the arguments, and the package variables that the reading takes, are together of bulk at most 1048576: NARROWER than '..Said'. Prove '..Said' where nothing that the law and all that it calls make is longer than what came in: it says more and counts as full. Else prove '..UptoSaid'. A law counts once. -/
mutual
def uptoBulk {H : Type} : DataW H → Nat
  | .lit (.string bytes) => bytes.length + 1
  | .lit _ => 1
  | .nil => 1
  | .ptr d => uptoBulk d + 1
  | .slice elems spare => uptoBulkAll elems + uptoBulkAll spare + 1
  | .agg parts => uptoBulkAll parts + 1
  | .iface _ d => uptoBulk d + 1
  | .map entries => uptoBulkEntries entries + 1
  | .held _ => 1
def uptoBulkAll {H : Type} : List (DataW H) → Nat
  | [] => 0
  | d :: r => uptoBulk d + uptoBulkAll r
def uptoBulkEntries {H : Type} : List (Lit × DataW H) → Nat
  | [] => 0
  | x :: r => uptoBulkEntry x + uptoBulkEntries r
def uptoBulkEntry {H : Type} : Lit × DataW H → Nat
  | (.string bytes, d) => bytes.length + uptoBulk d + 1
  | (_, d) => uptoBulk d + 1
 end
def uptoSmall : (H : Type) → List (DataW H) → Bool := fun _ ds => decide (uptoBulkAll ds ≤ 1048576)
def OpenSpec.upto (s : _root_.Go.ChangeSpec) : _root_.Go.OpenSpec := { _root_.Go.OpenSpec.ofChange s with cond := some uptoSmall }

/-- 'weathervanelaw06.RuleDrafts', WHERE WHAT IT READS IS OF BULK AT MOST 1048576: true; the input reads as it did. -/
def ruleDraftsUptoRow : OpenClaim := { program := "ytojnkpaholkpnaa", sum := "d18ee5cf0e19ab4183ec6fb13b1b9a2004c8a81a20b478825d6637d23e88b8b4", func := "weathervane/weathervanelaw06.RuleDrafts", spec := "ruleDrafts", recurses := true, apart := false, narrowed := true }
def RuleDraftsUptoSaid : Prop := ruleDraftsUptoRow.holds Try.pinned (OpenSpec.upto ruleDraftsSpec)

/-- 'weathervanelaw06.RuleNear', WHERE WHAT IT READS IS OF BULK AT MOST 1048576: true; the input reads as it did. -/
def ruleNearUptoRow : OpenClaim := { program := "ytojnkpaholkpnaa", sum := "d18ee5cf0e19ab4183ec6fb13b1b9a2004c8a81a20b478825d6637d23e88b8b4", func := "weathervane/weathervanelaw06.RuleNear", spec := "ruleNear", recurses := true, apart := false, narrowed := true }
def RuleNearUptoSaid : Prop := ruleNearUptoRow.holds Try.pinned (OpenSpec.upto ruleNearSpec)

/-- 'weathervanelaw06.RuleBounds', WHERE WHAT IT READS IS OF BULK AT MOST 1048576: true; the input reads as it did. -/
def ruleBoundsUptoRow : OpenClaim := { program := "ytojnkpaholkpnaa", sum := "d18ee5cf0e19ab4183ec6fb13b1b9a2004c8a81a20b478825d6637d23e88b8b4", func := "weathervane/weathervanelaw06.RuleBounds", spec := "ruleBounds", recurses := true, apart := false, narrowed := true }
def RuleBoundsUptoSaid : Prop := ruleBoundsUptoRow.holds Try.pinned (OpenSpec.upto ruleBoundsSpec)

/-- 'weathervanelaw06.RuleUsed', WHERE WHAT IT READS IS OF BULK AT MOST 1048576: true; the input reads as it did. -/
def ruleUsedUptoRow : OpenClaim := { program := "ytojnkpaholkpnaa", sum := "d18ee5cf0e19ab4183ec6fb13b1b9a2004c8a81a20b478825d6637d23e88b8b4", func := "weathervane/weathervanelaw06.RuleUsed", spec := "ruleUsed", recurses := true, apart := false, narrowed := true }
def RuleUsedUptoSaid : Prop := ruleUsedUptoRow.holds Try.pinned (OpenSpec.upto ruleUsedSpec)

/-- 'weathervanelaw06.RuleArity', WHERE WHAT IT READS IS OF BULK AT MOST 1048576: true; the input reads as it did. -/
def ruleArityUptoRow : OpenClaim := { program := "ytojnkpaholkpnaa", sum := "d18ee5cf0e19ab4183ec6fb13b1b9a2004c8a81a20b478825d6637d23e88b8b4", func := "weathervane/weathervanelaw06.RuleArity", spec := "ruleArity", recurses := true, apart := false, narrowed := true }
def RuleArityUptoSaid : Prop := ruleArityUptoRow.holds Try.pinned (OpenSpec.upto ruleAritySpec)

end Rows
end Go.Proofs.Ytojnkpaholkpnaa
