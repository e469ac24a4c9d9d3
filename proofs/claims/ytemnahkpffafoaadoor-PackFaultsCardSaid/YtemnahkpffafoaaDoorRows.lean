/-
  NARROWER THAN 'FOR EVERY INPUT', by the rows' own cells (each row's printed sentence says how): PackBytes: laid · PackReads: laid · PackFaults: laid · PackSums: laid · PackMarks: laid.
  DERIVED. THE GIVEN ROWS OF THIS SEAT. 5 by the template 'for every input the law returns true; each argument reads behind the call as it read before'; 0 by the template 'total and deterministic' (their statements: YtemnahkpffafoaaDoorTotals.lean).
  GIVEN WITH THE SEED: the statements are not yours to turn. If you find one false, say at which input.
  Laid BY PROGRAM, IN A SANDBOX (cutbox-rows.mjs): the forced cells as the released guide's own fill.sh prints them over the translation a1307ab7bce73400… (all of the seat's roots in one cut). By AI agents, Wed Nov 11 2026. No macro, syntax, notation, axiom, sorry.
-/
import Derived.Test.YtemnahkpffafoaaDoorChecked
import GoSem.Claim
import GoSem.ClaimJoined
import GoSem.ClaimMapViews
import Derived.JoinedTies
import Derived.KernelRfl
namespace Go.Proofs.YtemnahkpffafoaaDoor
/- THE CELL 'sum', in the pinned program and in every row, IS THE sha256 OF THE DUMP (.gsa) THAT YtemnahkpffafoaaDoorProg.lean LOADS. Nothing in Lean hashes anything: it is a label: what it is worth is what the hold of that sum in a sandbox is worth. -/
noncomputable def Tryd.pinned : Pinned := { name := "ytemnahkpffafoaadoor", sum := "a1307ab7bce734007a0780f11dabc234a77becca22fecf0170d9c105d9d97510", checked := Tryd.checked }
namespace Rows
def none {H : Type} : Left H := { results := [], args := [] }

/- WHAT THE LISTED PACKAGE-LEVEL VARIABLES READ AS WHEN THE CALL BEGINS. Each datum BY PROGRAM (the guide's laid-datum.mjs) off the statement by which the dump's own 'gosem.cut.vars' lays the variable. In a bare row this is a premise. The card (YtemnahkpffafoaaDoorCards.lean) ties it to the program's text. -/
def laid_weathervane_sum_lines {H : Type} : DataW H := .agg [.lit (.int .u32 0), .lit (.int .u32 79764919), .lit (.int .u32 159529838), .lit (.int .u32 222504665), .lit (.int .u32 319059676), .lit (.int .u32 398814059), .lit (.int .u32 445009330), .lit (.int .u32 507990021), .lit (.int .u32 638119352), .lit (.int .u32 583659535), .lit (.int .u32 797628118), .lit (.int .u32 726387553), .lit (.int .u32 890018660), .lit (.int .u32 835552979), .lit (.int .u32 1015980042), .lit (.int .u32 944750013)]

/-- 'weathervanelaw11.PackBytes': WHATEVER THE INPUT: true; the input reads as it did. -/
def packBytesSpec : ChangeSpec := { name := "packBytes", fn := fun _ => fun
  | [d] => { results := [.lit (.bool true)], args := [d] }
  | _ => none }
def packBytesRow : OpenClaim := { program := "ytemnahkpffafoaadoor", sum := "a1307ab7bce734007a0780f11dabc234a77becca22fecf0170d9c105d9d97510", func := "weathervane/weathervanelaw11.PackBytes", spec := "packBytes", recurses := true, named := ["weathervane/sum.lines"], apart := false, laid := [("weathervane/sum.lines", laid_weathervane_sum_lines)] }
def PackBytesSaid : Prop := packBytesRow.holds Tryd.pinned (OpenSpec.ofChange packBytesSpec)

/-- ITS FALSE NEIGHBOUR: 'it returns false'. Refute it at one input. -/
def packBytesWrong : ChangeSpec := { name := "packBytes", fn := fun _ => fun
  | [d] => { results := [.lit (.bool false)], args := [d] }
  | _ => none }
def PackBytesWrongFalsely : Prop := packBytesRow.holds Tryd.pinned (OpenSpec.ofChange packBytesWrong)

/-- 'weathervanelaw11.PackReads': WHATEVER THE INPUT: true; the input reads as it did. -/
def packReadsSpec : ChangeSpec := { name := "packReads", fn := fun _ => fun
  | [d1, d2, d3, d4, d5, d6] => { results := [.lit (.bool true)], args := [d1, d2, d3, d4, d5, d6] }
  | _ => none }
def packReadsRow : OpenClaim := { program := "ytemnahkpffafoaadoor", sum := "a1307ab7bce734007a0780f11dabc234a77becca22fecf0170d9c105d9d97510", func := "weathervane/weathervanelaw11.PackReads", spec := "packReads", recurses := true, named := ["weathervane/sum.lines"], apart := false, laid := [("weathervane/sum.lines", laid_weathervane_sum_lines)] }
def PackReadsSaid : Prop := packReadsRow.holds Tryd.pinned (OpenSpec.ofChange packReadsSpec)

/-- ITS FALSE NEIGHBOUR: 'it returns false'. Refute it at one input. -/
def packReadsWrong : ChangeSpec := { name := "packReads", fn := fun _ => fun
  | [d1, d2, d3, d4, d5, d6] => { results := [.lit (.bool false)], args := [d1, d2, d3, d4, d5, d6] }
  | _ => none }
def PackReadsWrongFalsely : Prop := packReadsRow.holds Tryd.pinned (OpenSpec.ofChange packReadsWrong)

/-- 'weathervanelaw11.PackFaults': WHATEVER THE INPUT: true; the input reads as it did. -/
def packFaultsSpec : ChangeSpec := { name := "packFaults", fn := fun _ => fun
  | [d1, d2, d3] => { results := [.lit (.bool true)], args := [d1, d2, d3] }
  | _ => none }
def packFaultsRow : OpenClaim := { program := "ytemnahkpffafoaadoor", sum := "a1307ab7bce734007a0780f11dabc234a77becca22fecf0170d9c105d9d97510", func := "weathervane/weathervanelaw11.PackFaults", spec := "packFaults", recurses := true, named := ["weathervane/sum.lines"], apart := false, laid := [("weathervane/sum.lines", laid_weathervane_sum_lines)] }
def PackFaultsSaid : Prop := packFaultsRow.holds Tryd.pinned (OpenSpec.ofChange packFaultsSpec)

/-- ITS FALSE NEIGHBOUR: 'it returns false'. Refute it at one input. -/
def packFaultsWrong : ChangeSpec := { name := "packFaults", fn := fun _ => fun
  | [d1, d2, d3] => { results := [.lit (.bool false)], args := [d1, d2, d3] }
  | _ => none }
def PackFaultsWrongFalsely : Prop := packFaultsRow.holds Tryd.pinned (OpenSpec.ofChange packFaultsWrong)

/-- 'weathervanelaw11.PackSums': WHATEVER THE INPUT: true; the input reads as it did. -/
def packSumsSpec : ChangeSpec := { name := "packSums", fn := fun _ => fun
  | [d1, d2, d3, d4] => { results := [.lit (.bool true)], args := [d1, d2, d3, d4] }
  | _ => none }
def packSumsRow : OpenClaim := { program := "ytemnahkpffafoaadoor", sum := "a1307ab7bce734007a0780f11dabc234a77becca22fecf0170d9c105d9d97510", func := "weathervane/weathervanelaw11.PackSums", spec := "packSums", recurses := true, named := ["weathervane/sum.lines"], apart := false, laid := [("weathervane/sum.lines", laid_weathervane_sum_lines)] }
def PackSumsSaid : Prop := packSumsRow.holds Tryd.pinned (OpenSpec.ofChange packSumsSpec)

/-- ITS FALSE NEIGHBOUR: 'it returns false'. Refute it at one input. -/
def packSumsWrong : ChangeSpec := { name := "packSums", fn := fun _ => fun
  | [d1, d2, d3, d4] => { results := [.lit (.bool false)], args := [d1, d2, d3, d4] }
  | _ => none }
def PackSumsWrongFalsely : Prop := packSumsRow.holds Tryd.pinned (OpenSpec.ofChange packSumsWrong)

/-- 'weathervanelaw11.PackMarks': WHATEVER THE INPUT: true; the input reads as it did. -/
def packMarksSpec : ChangeSpec := { name := "packMarks", fn := fun _ => fun
  | [d1, d2, d3] => { results := [.lit (.bool true)], args := [d1, d2, d3] }
  | _ => none }
def packMarksRow : OpenClaim := { program := "ytemnahkpffafoaadoor", sum := "a1307ab7bce734007a0780f11dabc234a77becca22fecf0170d9c105d9d97510", func := "weathervane/weathervanelaw11.PackMarks", spec := "packMarks", recurses := true, named := ["weathervane/sum.lines"], apart := false, laid := [("weathervane/sum.lines", laid_weathervane_sum_lines)] }
def PackMarksSaid : Prop := packMarksRow.holds Tryd.pinned (OpenSpec.ofChange packMarksSpec)

/-- ITS FALSE NEIGHBOUR: 'it returns false'. Refute it at one input. -/
def packMarksWrong : ChangeSpec := { name := "packMarks", fn := fun _ => fun
  | [d1, d2, d3] => { results := [.lit (.bool false)], args := [d1, d2, d3] }
  | _ => none }
def PackMarksWrongFalsely : Prop := packMarksRow.holds Tryd.pinned (OpenSpec.ofChange packMarksWrong)

/- THE SECOND FORM. 'bulk': how many values and letters a reading holds, each counted each time it is reached (what is shared counts as often as it is met; a slice's spare places count too). A statement '..UptoSaid' is the law's where the arguments, and the package variables that the reading takes, are together of bulk at most 1048576: NARROWER than '..Said'. Prove '..Said' where nothing that the law and all that it calls make is longer than what came in: it says more and counts as full. Else prove '..UptoSaid'. A law counts once. -/
mutual
def uptoBulk {H : Type} : DataW H → Nat
  | .lit (.string bytes) => bytes.length + 1
  | .lit _ => 1
  | .nil => 1
  | .ptr d => uptoBulk d + 1
  | .slice elems spare => uptoBulkAll elems + uptoBulkAll spare + 1
  | .agg parts => uptoBulkAll parts + 1
  | .iface _ d => uptoBulk d + 1
  | .map entries => uptoBulkEntries entries + 1
  | .held _ => 1
def uptoBulkAll {H : Type} : List (DataW H) → Nat
  | [] => 0
  | d :: r => uptoBulk d + uptoBulkAll r
def uptoBulkEntries {H : Type} : List (Lit × DataW H) → Nat
  | [] => 0
  | x :: r => uptoBulkEntry x + uptoBulkEntries r
def uptoBulkEntry {H : Type} : Lit × DataW H → Nat
  | (.string bytes, d) => bytes.length + uptoBulk d + 1
  | (_, d) => uptoBulk d + 1
 end
def uptoSmall : (H : Type) → List (DataW H) → Bool := fun _ ds => decide (uptoBulkAll ds ≤ 1048576)
def OpenSpec.upto (s : _root_.Go.ChangeSpec) : _root_.Go.OpenSpec := { _root_.Go.OpenSpec.ofChange s with cond := some uptoSmall }

/-- 'weathervanelaw11.PackBytes', WHERE WHAT IT READS IS OF BULK AT MOST 1048576: true; the input reads as it did. -/
def packBytesUptoRow : OpenClaim := { program := "ytemnahkpffafoaadoor", sum := "a1307ab7bce734007a0780f11dabc234a77becca22fecf0170d9c105d9d97510", func := "weathervane/weathervanelaw11.PackBytes", spec := "packBytes", recurses := true, named := ["weathervane/sum.lines"], apart := false, laid := [("weathervane/sum.lines", laid_weathervane_sum_lines)], narrowed := true }
def PackBytesUptoSaid : Prop := packBytesUptoRow.holds Tryd.pinned (OpenSpec.upto packBytesSpec)

/-- 'weathervanelaw11.PackReads', WHERE WHAT IT READS IS OF BULK AT MOST 1048576: true; the input reads as it did. -/
def packReadsUptoRow : OpenClaim := { program := "ytemnahkpffafoaadoor", sum := "a1307ab7bce734007a0780f11dabc234a77becca22fecf0170d9c105d9d97510", func := "weathervane/weathervanelaw11.PackReads", spec := "packReads", recurses := true, named := ["weathervane/sum.lines"], apart := false, laid := [("weathervane/sum.lines", laid_weathervane_sum_lines)], narrowed := true }
def PackReadsUptoSaid : Prop := packReadsUptoRow.holds Tryd.pinned (OpenSpec.upto packReadsSpec)

/-- 'weathervanelaw11.PackFaults', WHERE WHAT IT READS IS OF BULK AT MOST 1048576: true; the input reads as it did. -/
def packFaultsUptoRow : OpenClaim := { program := "ytemnahkpffafoaadoor", sum := "a1307ab7bce734007a0780f11dabc234a77becca22fecf0170d9c105d9d97510", func := "weathervane/weathervanelaw11.PackFaults", spec := "packFaults", recurses := true, named := ["weathervane/sum.lines"], apart := false, laid := [("weathervane/sum.lines", laid_weathervane_sum_lines)], narrowed := true }
def PackFaultsUptoSaid : Prop := packFaultsUptoRow.holds Tryd.pinned (OpenSpec.upto packFaultsSpec)

/-- 'weathervanelaw11.PackSums', WHERE WHAT IT READS IS OF BULK AT MOST 1048576: true; the input reads as it did. -/
def packSumsUptoRow : OpenClaim := { program := "ytemnahkpffafoaadoor", sum := "a1307ab7bce734007a0780f11dabc234a77becca22fecf0170d9c105d9d97510", func := "weathervane/weathervanelaw11.PackSums", spec := "packSums", recurses := true, named := ["weathervane/sum.lines"], apart := false, laid := [("weathervane/sum.lines", laid_weathervane_sum_lines)], narrowed := true }
def PackSumsUptoSaid : Prop := packSumsUptoRow.holds Tryd.pinned (OpenSpec.upto packSumsSpec)

/-- 'weathervanelaw11.PackMarks', WHERE WHAT IT READS IS OF BULK AT MOST 1048576: true; the input reads as it did. -/
def packMarksUptoRow : OpenClaim := { program := "ytemnahkpffafoaadoor", sum := "a1307ab7bce734007a0780f11dabc234a77becca22fecf0170d9c105d9d97510", func := "weathervane/weathervanelaw11.PackMarks", spec := "packMarks", recurses := true, named := ["weathervane/sum.lines"], apart := false, laid := [("weathervane/sum.lines", laid_weathervane_sum_lines)], narrowed := true }
def PackMarksUptoSaid : Prop := packMarksUptoRow.holds Tryd.pinned (OpenSpec.upto packMarksSpec)

end Rows
end Go.Proofs.YtemnahkpffafoaaDoor
