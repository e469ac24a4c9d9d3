/-
  NARROWER THAN 'FOR EVERY INPUT', by the rows' own cells (each row's printed sentence says how): FileBytes: laid · FileRaw: laid · FileReads: laid · FileApart: laid · FileMarks: laid.
  DERIVED. THE GIVEN ROWS OF THIS SEAT. 5 by the template 'for every input the law returns true; each argument reads behind the call as it read before'; 0 by the template 'total and deterministic' (their statements: YtlemkcclgneemaaDoorTotals.lean).
  GIVEN WITH THE SEED: the statements are not yours to turn. If you find one false, say at which input.
  Laid BY PROGRAM, IN A SANDBOX (cutbox-rows.mjs): the forced cells as the released guide's own fill.sh prints them over the translation 6644307f8069cfa2… (all of the seat's roots in one cut). By AI agents, Wed Nov 11 2026. No macro, syntax, notation, axiom, sorry.
-/
import Derived.Test.YtlemkcclgneemaaDoorChecked
import GoSem.Claim
import GoSem.ClaimJoined
import GoSem.ClaimMapViews
import Derived.JoinedTies
import Derived.KernelRfl
namespace Go.Proofs.YtlemkcclgneemaaDoor
/- THE CELL 'sum', in the pinned program and in every row, IS THE sha256 OF THE DUMP (.gsa) THAT YtlemkcclgneemaaDoorProg.lean LOADS. Nothing in Lean hashes anything: it is a label: what it is worth is what the hold of that sum in a sandbox is worth. -/
noncomputable def Tryd.pinned : Pinned := { name := "ytlemkcclgneemaadoor", sum := "6644307f8069cfa23968b958b4d96c2feffe0114c4d5ceccf72bb6bd5d1ff583", checked := Tryd.checked }
namespace Rows
def none {H : Type} : Left H := { results := [], args := [] }

/- WHAT THE LISTED PACKAGE-LEVEL VARIABLES READ AS WHEN THE CALL BEGINS. Each datum BY PROGRAM (the guide's laid-datum.mjs) off the statement by which the dump's own 'gosem.cut.vars' lays the variable. In a bare row this is a premise. The card (YtlemkcclgneemaaDoorCards.lean) ties it to the program's text. -/
def laid_weathervane_sum_lines {H : Type} : DataW H := .agg [.lit (.int .u32 0), .lit (.int .u32 79764919), .lit (.int .u32 159529838), .lit (.int .u32 222504665), .lit (.int .u32 319059676), .lit (.int .u32 398814059), .lit (.int .u32 445009330), .lit (.int .u32 507990021), .lit (.int .u32 638119352), .lit (.int .u32 583659535), .lit (.int .u32 797628118), .lit (.int .u32 726387553), .lit (.int .u32 890018660), .lit (.int .u32 835552979), .lit (.int .u32 1015980042), .lit (.int .u32 944750013)]

/-- 'weathervanelaw13.FileBytes': WHATEVER THE INPUT: true; the input reads as it did. -/
def fileBytesSpec : ChangeSpec := { name := "fileBytes", fn := fun _ => fun
  | [d] => { results := [.lit (.bool true)], args := [d] }
  | _ => none }
def fileBytesRow : OpenClaim := { program := "ytlemkcclgneemaadoor", sum := "6644307f8069cfa23968b958b4d96c2feffe0114c4d5ceccf72bb6bd5d1ff583", func := "weathervane/weathervanelaw13.FileBytes", spec := "fileBytes", recurses := true, named := ["weathervane/sum.lines"], apart := false, laid := [("weathervane/sum.lines", laid_weathervane_sum_lines)] }
def FileBytesSaid : Prop := fileBytesRow.holds Tryd.pinned (OpenSpec.ofChange fileBytesSpec)

/-- ITS FALSE NEIGHBOUR: 'it returns false'. Refute it at one input. -/
def fileBytesWrong : ChangeSpec := { name := "fileBytes", fn := fun _ => fun
  | [d] => { results := [.lit (.bool false)], args := [d] }
  | _ => none }
def FileBytesWrongFalsely : Prop := fileBytesRow.holds Tryd.pinned (OpenSpec.ofChange fileBytesWrong)

/-- 'weathervanelaw13.FileRaw': WHATEVER THE INPUT: true; the input reads as it did. -/
def fileRawSpec : ChangeSpec := { name := "fileRaw", fn := fun _ => fun
  | [d] => { results := [.lit (.bool true)], args := [d] }
  | _ => none }
def fileRawRow : OpenClaim := { program := "ytlemkcclgneemaadoor", sum := "6644307f8069cfa23968b958b4d96c2feffe0114c4d5ceccf72bb6bd5d1ff583", func := "weathervane/weathervanelaw13.FileRaw", spec := "fileRaw", named := ["weathervane/sum.lines"], apart := false, laid := [("weathervane/sum.lines", laid_weathervane_sum_lines)] }
def FileRawSaid : Prop := fileRawRow.holds Tryd.pinned (OpenSpec.ofChange fileRawSpec)

/-- ITS FALSE NEIGHBOUR: 'it returns false'. Refute it at one input. -/
def fileRawWrong : ChangeSpec := { name := "fileRaw", fn := fun _ => fun
  | [d] => { results := [.lit (.bool false)], args := [d] }
  | _ => none }
def FileRawWrongFalsely : Prop := fileRawRow.holds Tryd.pinned (OpenSpec.ofChange fileRawWrong)

/-- 'weathervanelaw13.FileReads': WHATEVER THE INPUT: true; the input reads as it did. -/
def fileReadsSpec : ChangeSpec := { name := "fileReads", fn := fun _ => fun
  | [d1, d2, d3, d4, d5, d6] => { results := [.lit (.bool true)], args := [d1, d2, d3, d4, d5, d6] }
  | _ => none }
def fileReadsRow : OpenClaim := { program := "ytlemkcclgneemaadoor", sum := "6644307f8069cfa23968b958b4d96c2feffe0114c4d5ceccf72bb6bd5d1ff583", func := "weathervane/weathervanelaw13.FileReads", spec := "fileReads", recurses := true, named := ["weathervane/sum.lines"], apart := false, laid := [("weathervane/sum.lines", laid_weathervane_sum_lines)] }
def FileReadsSaid : Prop := fileReadsRow.holds Tryd.pinned (OpenSpec.ofChange fileReadsSpec)

/-- ITS FALSE NEIGHBOUR: 'it returns false'. Refute it at one input. -/
def fileReadsWrong : ChangeSpec := { name := "fileReads", fn := fun _ => fun
  | [d1, d2, d3, d4, d5, d6] => { results := [.lit (.bool false)], args := [d1, d2, d3, d4, d5, d6] }
  | _ => none }
def FileReadsWrongFalsely : Prop := fileReadsRow.holds Tryd.pinned (OpenSpec.ofChange fileReadsWrong)

/-- 'weathervanelaw13.FileApart': WHATEVER THE INPUT: true; the input reads as it did. -/
def fileApartSpec : ChangeSpec := { name := "fileApart", fn := fun _ => fun
  | [d1, d2, d3] => { results := [.lit (.bool true)], args := [d1, d2, d3] }
  | _ => none }
def fileApartRow : OpenClaim := { program := "ytlemkcclgneemaadoor", sum := "6644307f8069cfa23968b958b4d96c2feffe0114c4d5ceccf72bb6bd5d1ff583", func := "weathervane/weathervanelaw13.FileApart", spec := "fileApart", named := ["weathervane/sum.lines"], apart := false, laid := [("weathervane/sum.lines", laid_weathervane_sum_lines)] }
def FileApartSaid : Prop := fileApartRow.holds Tryd.pinned (OpenSpec.ofChange fileApartSpec)

/-- ITS FALSE NEIGHBOUR: 'it returns false'. Refute it at one input. -/
def fileApartWrong : ChangeSpec := { name := "fileApart", fn := fun _ => fun
  | [d1, d2, d3] => { results := [.lit (.bool false)], args := [d1, d2, d3] }
  | _ => none }
def FileApartWrongFalsely : Prop := fileApartRow.holds Tryd.pinned (OpenSpec.ofChange fileApartWrong)

/-- 'weathervanelaw13.FileMarks': WHATEVER THE INPUT: true; the input reads as it did. -/
def fileMarksSpec : ChangeSpec := { name := "fileMarks", fn := fun _ => fun
  | [d1, d2, d3] => { results := [.lit (.bool true)], args := [d1, d2, d3] }
  | _ => none }
def fileMarksRow : OpenClaim := { program := "ytlemkcclgneemaadoor", sum := "6644307f8069cfa23968b958b4d96c2feffe0114c4d5ceccf72bb6bd5d1ff583", func := "weathervane/weathervanelaw13.FileMarks", spec := "fileMarks", recurses := true, named := ["weathervane/sum.lines"], apart := false, laid := [("weathervane/sum.lines", laid_weathervane_sum_lines)] }
def FileMarksSaid : Prop := fileMarksRow.holds Tryd.pinned (OpenSpec.ofChange fileMarksSpec)

/-- ITS FALSE NEIGHBOUR: 'it returns false'. Refute it at one input. -/
def fileMarksWrong : ChangeSpec := { name := "fileMarks", fn := fun _ => fun
  | [d1, d2, d3] => { results := [.lit (.bool false)], args := [d1, d2, d3] }
  | _ => none }
def FileMarksWrongFalsely : Prop := fileMarksRow.holds Tryd.pinned (OpenSpec.ofChange fileMarksWrong)

/- THE SECOND FORM. 'bulk': how many values and letters a reading holds, each counted each time it is reached (what is shared counts as often as it is met; a slice's spare places count too). A statement '..UptoSaid' is the law's where the arguments, and the package variables that the reading takes, are together of bulk at most 1048576: NARROWER than '..Said'. Prove '..Said' where nothing that the law and all that it calls make is longer than what came in: it says more and counts as full. Else prove '..UptoSaid'. A law counts once. -/
mutual
def uptoBulk {H : Type} : DataW H → Nat
  | .lit (.string bytes) => bytes.length + 1
  | .lit _ => 1
  | .nil => 1
  | .ptr d => uptoBulk d + 1
  | .slice elems spare => uptoBulkAll elems + uptoBulkAll spare + 1
  | .agg parts => uptoBulkAll parts + 1
  | .iface _ d => uptoBulk d + 1
  | .map entries => uptoBulkEntries entries + 1
  | .held _ => 1
def uptoBulkAll {H : Type} : List (DataW H) → Nat
  | [] => 0
  | d :: r => uptoBulk d + uptoBulkAll r
def uptoBulkEntries {H : Type} : List (Lit × DataW H) → Nat
  | [] => 0
  | x :: r => uptoBulkEntry x + uptoBulkEntries r
def uptoBulkEntry {H : Type} : Lit × DataW H → Nat
  | (.string bytes, d) => bytes.length + uptoBulk d + 1
  | (_, d) => uptoBulk d + 1
 end
def uptoSmall : (H : Type) → List (DataW H) → Bool := fun _ ds => decide (uptoBulkAll ds ≤ 1048576)
def OpenSpec.upto (s : _root_.Go.ChangeSpec) : _root_.Go.OpenSpec := { _root_.Go.OpenSpec.ofChange s with cond := some uptoSmall }

/-- 'weathervanelaw13.FileBytes', WHERE WHAT IT READS IS OF BULK AT MOST 1048576: true; the input reads as it did. -/
def fileBytesUptoRow : OpenClaim := { program := "ytlemkcclgneemaadoor", sum := "6644307f8069cfa23968b958b4d96c2feffe0114c4d5ceccf72bb6bd5d1ff583", func := "weathervane/weathervanelaw13.FileBytes", spec := "fileBytes", recurses := true, named := ["weathervane/sum.lines"], apart := false, laid := [("weathervane/sum.lines", laid_weathervane_sum_lines)], narrowed := true }
def FileBytesUptoSaid : Prop := fileBytesUptoRow.holds Tryd.pinned (OpenSpec.upto fileBytesSpec)

/-- 'weathervanelaw13.FileRaw', WHERE WHAT IT READS IS OF BULK AT MOST 1048576: true; the input reads as it did. -/
def fileRawUptoRow : OpenClaim := { program := "ytlemkcclgneemaadoor", sum := "6644307f8069cfa23968b958b4d96c2feffe0114c4d5ceccf72bb6bd5d1ff583", func := "weathervane/weathervanelaw13.FileRaw", spec := "fileRaw", named := ["weathervane/sum.lines"], apart := false, laid := [("weathervane/sum.lines", laid_weathervane_sum_lines)], narrowed := true }
def FileRawUptoSaid : Prop := fileRawUptoRow.holds Tryd.pinned (OpenSpec.upto fileRawSpec)

/-- 'weathervanelaw13.FileReads', WHERE WHAT IT READS IS OF BULK AT MOST 1048576: true; the input reads as it did. -/
def fileReadsUptoRow : OpenClaim := { program := "ytlemkcclgneemaadoor", sum := "6644307f8069cfa23968b958b4d96c2feffe0114c4d5ceccf72bb6bd5d1ff583", func := "weathervane/weathervanelaw13.FileReads", spec := "fileReads", recurses := true, named := ["weathervane/sum.lines"], apart := false, laid := [("weathervane/sum.lines", laid_weathervane_sum_lines)], narrowed := true }
def FileReadsUptoSaid : Prop := fileReadsUptoRow.holds Tryd.pinned (OpenSpec.upto fileReadsSpec)

/-- 'weathervanelaw13.FileApart', WHERE WHAT IT READS IS OF BULK AT MOST 1048576: true; the input reads as it did. -/
def fileApartUptoRow : OpenClaim := { program := "ytlemkcclgneemaadoor", sum := "6644307f8069cfa23968b958b4d96c2feffe0114c4d5ceccf72bb6bd5d1ff583", func := "weathervane/weathervanelaw13.FileApart", spec := "fileApart", named := ["weathervane/sum.lines"], apart := false, laid := [("weathervane/sum.lines", laid_weathervane_sum_lines)], narrowed := true }
def FileApartUptoSaid : Prop := fileApartUptoRow.holds Tryd.pinned (OpenSpec.upto fileApartSpec)

/-- 'weathervanelaw13.FileMarks', WHERE WHAT IT READS IS OF BULK AT MOST 1048576: true; the input reads as it did. -/
def fileMarksUptoRow : OpenClaim := { program := "ytlemkcclgneemaadoor", sum := "6644307f8069cfa23968b958b4d96c2feffe0114c4d5ceccf72bb6bd5d1ff583", func := "weathervane/weathervanelaw13.FileMarks", spec := "fileMarks", recurses := true, named := ["weathervane/sum.lines"], apart := false, laid := [("weathervane/sum.lines", laid_weathervane_sum_lines)], narrowed := true }
def FileMarksUptoSaid : Prop := fileMarksUptoRow.holds Tryd.pinned (OpenSpec.upto fileMarksSpec)

end Rows
end Go.Proofs.YtlemkcclgneemaaDoor
