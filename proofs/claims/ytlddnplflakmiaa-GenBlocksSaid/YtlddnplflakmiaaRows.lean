/-
  No cell of these rows narrows 'for every input' (looked for: loops, veiled, ifaces, maps, wideKeys, modest, calm, conditions, laid).
  DERIVED. THE GIVEN ROWS OF THIS SEAT. 5 by the template 'for every input the law returns true; each argument reads behind the call as it read before'; 0 by the template 'total and deterministic' (their statements: YtlddnplflakmiaaTotals.lean).
  GIVEN WITH THE SEED: the statements are not yours to turn. If you find one false, say at which input.
  Laid BY PROGRAM, IN A SANDBOX (cutbox-rows.mjs): the forced cells as the released guide's own fill.sh prints them over the translation 1392e7726f91d134… (all of the seat's roots in one cut). By AI agents, Wed Nov 11 2026. No macro, syntax, notation, axiom, sorry.
-/
import Derived.Test.YtlddnplflakmiaaChecked
import GoSem.Claim
import GoSem.ClaimJoined
import GoSem.ClaimMapViews
import Derived.JoinedTies
import Derived.KernelRfl
namespace Go.Proofs.Ytlddnplflakmiaa
/- THE CELL 'sum', in the pinned program and in every row, IS THE sha256 OF THE DUMP (.gsa) THAT YtlddnplflakmiaaProg.lean LOADS. Nothing in Lean hashes anything: it is a label: what it is worth is what the hold of that sum in a sandbox is worth. -/
noncomputable def Try.pinned : Pinned := { name := "ytlddnplflakmiaa", sum := "1392e7726f91d13427408dfd44cd7625c77c5d699fb0f7615ebf1f973d8c85ae", checked := Try.checked }
namespace Rows
def none {H : Type} : Left H := { results := [], args := [] }

/-- 'weathervanelaw14.GenSystems': WHATEVER THE INPUT: true; the input reads as it did. -/
def genSystemsSpec : ChangeSpec := { name := "genSystems", fn := fun _ => fun
  | [d] => { results := [.lit (.bool true)], args := [d] }
  | _ => none }
def genSystemsRow : OpenClaim := { program := "ytlddnplflakmiaa", sum := "1392e7726f91d13427408dfd44cd7625c77c5d699fb0f7615ebf1f973d8c85ae", func := "weathervane/weathervanelaw14.GenSystems", spec := "genSystems", recurses := true, apart := false }
def GenSystemsSaid : Prop := genSystemsRow.holds Try.pinned (OpenSpec.ofChange genSystemsSpec)

/-- ITS FALSE NEIGHBOUR: 'it returns false'. Refute it at one input. -/
def genSystemsWrong : ChangeSpec := { name := "genSystems", fn := fun _ => fun
  | [d] => { results := [.lit (.bool false)], args := [d] }
  | _ => none }
def GenSystemsWrongFalsely : Prop := genSystemsRow.holds Try.pinned (OpenSpec.ofChange genSystemsWrong)

/-- 'weathervanelaw14.GenFaults': WHATEVER THE INPUT: true; the input reads as it did. -/
def genFaultsSpec : ChangeSpec := { name := "genFaults", fn := fun _ => fun
  | [d1, d2] => { results := [.lit (.bool true)], args := [d1, d2] }
  | _ => none }
def genFaultsRow : OpenClaim := { program := "ytlddnplflakmiaa", sum := "1392e7726f91d13427408dfd44cd7625c77c5d699fb0f7615ebf1f973d8c85ae", func := "weathervane/weathervanelaw14.GenFaults", spec := "genFaults", recurses := true, apart := false }
def GenFaultsSaid : Prop := genFaultsRow.holds Try.pinned (OpenSpec.ofChange genFaultsSpec)

/-- ITS FALSE NEIGHBOUR: 'it returns false'. Refute it at one input. -/
def genFaultsWrong : ChangeSpec := { name := "genFaults", fn := fun _ => fun
  | [d1, d2] => { results := [.lit (.bool false)], args := [d1, d2] }
  | _ => none }
def GenFaultsWrongFalsely : Prop := genFaultsRow.holds Try.pinned (OpenSpec.ofChange genFaultsWrong)

/-- 'weathervanelaw14.GenBlocks': WHATEVER THE INPUT: true; the input reads as it did. -/
def genBlocksSpec : ChangeSpec := { name := "genBlocks", fn := fun _ => fun
  | [d1, d2] => { results := [.lit (.bool true)], args := [d1, d2] }
  | _ => none }
def genBlocksRow : OpenClaim := { program := "ytlddnplflakmiaa", sum := "1392e7726f91d13427408dfd44cd7625c77c5d699fb0f7615ebf1f973d8c85ae", func := "weathervane/weathervanelaw14.GenBlocks", spec := "genBlocks", recurses := true, apart := false }
def GenBlocksSaid : Prop := genBlocksRow.holds Try.pinned (OpenSpec.ofChange genBlocksSpec)

/-- ITS FALSE NEIGHBOUR: 'it returns false'. Refute it at one input. -/
def genBlocksWrong : ChangeSpec := { name := "genBlocks", fn := fun _ => fun
  | [d1, d2] => { results := [.lit (.bool false)], args := [d1, d2] }
  | _ => none }
def GenBlocksWrongFalsely : Prop := genBlocksRow.holds Try.pinned (OpenSpec.ofChange genBlocksWrong)

/-- 'weathervanelaw14.GenCalls': WHATEVER THE INPUT: true; the input reads as it did. -/
def genCallsSpec : ChangeSpec := { name := "genCalls", fn := fun _ => fun
  | [d1, d2, d3] => { results := [.lit (.bool true)], args := [d1, d2, d3] }
  | _ => none }
def genCallsRow : OpenClaim := { program := "ytlddnplflakmiaa", sum := "1392e7726f91d13427408dfd44cd7625c77c5d699fb0f7615ebf1f973d8c85ae", func := "weathervane/weathervanelaw14.GenCalls", spec := "genCalls", recurses := true, apart := false }
def GenCallsSaid : Prop := genCallsRow.holds Try.pinned (OpenSpec.ofChange genCallsSpec)

/-- ITS FALSE NEIGHBOUR: 'it returns false'. Refute it at one input. -/
def genCallsWrong : ChangeSpec := { name := "genCalls", fn := fun _ => fun
  | [d1, d2, d3] => { results := [.lit (.bool false)], args := [d1, d2, d3] }
  | _ => none }
def GenCallsWrongFalsely : Prop := genCallsRow.holds Try.pinned (OpenSpec.ofChange genCallsWrong)

/-- 'weathervanelaw14.GenMaps': WHATEVER THE INPUT: true; the input reads as it did. -/
def genMapsSpec : ChangeSpec := { name := "genMaps", fn := fun _ => fun
  | [d1, d2, d3, d4] => { results := [.lit (.bool true)], args := [d1, d2, d3, d4] }
  | _ => none }
def genMapsRow : OpenClaim := { program := "ytlddnplflakmiaa", sum := "1392e7726f91d13427408dfd44cd7625c77c5d699fb0f7615ebf1f973d8c85ae", func := "weathervane/weathervanelaw14.GenMaps", spec := "genMaps", recurses := true, apart := false }
def GenMapsSaid : Prop := genMapsRow.holds Try.pinned (OpenSpec.ofChange genMapsSpec)

/-- ITS FALSE NEIGHBOUR: 'it returns false'. Refute it at one input. -/
def genMapsWrong : ChangeSpec := { name := "genMaps", fn := fun _ => fun
  | [d1, d2, d3, d4] => { results := [.lit (.bool false)], args := [d1, d2, d3, d4] }
  | _ => none }
def GenMapsWrongFalsely : Prop := genMapsRow.holds Try.pinned (OpenSpec.ofChange genMapsWrong)

/- THE SECOND FORM. 'bulk': how many values and letters a reading holds, each counted each time it is reached (what is shared counts as often as it is met; a slice's spare places count too). A statement '..UptoSaid' is the law's where the arguments, and the package variables that the reading takes, are together of bulk at most 1048576: NARROWER than '..Said'. Prove '..Said' where nothing that the law and all that it calls make is longer than what came in: it says more and counts as full. Else prove '..UptoSaid'. A law counts once. -/
mutual
def uptoBulk {H : Type} : DataW H → Nat
  | .lit (.string bytes) => bytes.length + 1
  | .lit _ => 1
  | .nil => 1
  | .ptr d => uptoBulk d + 1
  | .slice elems spare => uptoBulkAll elems + uptoBulkAll spare + 1
  | .agg parts => uptoBulkAll parts + 1
  | .iface _ d => uptoBulk d + 1
  | .map entries => uptoBulkEntries entries + 1
  | .held _ => 1
def uptoBulkAll {H : Type} : List (DataW H) → Nat
  | [] => 0
  | d :: r => uptoBulk d + uptoBulkAll r
def uptoBulkEntries {H : Type} : List (Lit × DataW H) → Nat
  | [] => 0
  | x :: r => uptoBulkEntry x + uptoBulkEntries r
def uptoBulkEntry {H : Type} : Lit × DataW H → Nat
  | (.string bytes, d) => bytes.length + uptoBulk d + 1
  | (_, d) => uptoBulk d + 1
 end
def uptoSmall : (H : Type) → List (DataW H) → Bool := fun _ ds => decide (uptoBulkAll ds ≤ 1048576)
def OpenSpec.upto (s : _root_.Go.ChangeSpec) : _root_.Go.OpenSpec := { _root_.Go.OpenSpec.ofChange s with cond := some uptoSmall }

/-- 'weathervanelaw14.GenSystems', WHERE WHAT IT READS IS OF BULK AT MOST 1048576: true; the input reads as it did. -/
def genSystemsUptoRow : OpenClaim := { program := "ytlddnplflakmiaa", sum := "1392e7726f91d13427408dfd44cd7625c77c5d699fb0f7615ebf1f973d8c85ae", func := "weathervane/weathervanelaw14.GenSystems", spec := "genSystems", recurses := true, apart := false, narrowed := true }
def GenSystemsUptoSaid : Prop := genSystemsUptoRow.holds Try.pinned (OpenSpec.upto genSystemsSpec)

/-- 'weathervanelaw14.GenFaults', WHERE WHAT IT READS IS OF BULK AT MOST 1048576: true; the input reads as it did. -/
def genFaultsUptoRow : OpenClaim := { program := "ytlddnplflakmiaa", sum := "1392e7726f91d13427408dfd44cd7625c77c5d699fb0f7615ebf1f973d8c85ae", func := "weathervane/weathervanelaw14.GenFaults", spec := "genFaults", recurses := true, apart := false, narrowed := true }
def GenFaultsUptoSaid : Prop := genFaultsUptoRow.holds Try.pinned (OpenSpec.upto genFaultsSpec)

/-- 'weathervanelaw14.GenBlocks', WHERE WHAT IT READS IS OF BULK AT MOST 1048576: true; the input reads as it did. -/
def genBlocksUptoRow : OpenClaim := { program := "ytlddnplflakmiaa", sum := "1392e7726f91d13427408dfd44cd7625c77c5d699fb0f7615ebf1f973d8c85ae", func := "weathervane/weathervanelaw14.GenBlocks", spec := "genBlocks", recurses := true, apart := false, narrowed := true }
def GenBlocksUptoSaid : Prop := genBlocksUptoRow.holds Try.pinned (OpenSpec.upto genBlocksSpec)

/-- 'weathervanelaw14.GenCalls', WHERE WHAT IT READS IS OF BULK AT MOST 1048576: true; the input reads as it did. -/
def genCallsUptoRow : OpenClaim := { program := "ytlddnplflakmiaa", sum := "1392e7726f91d13427408dfd44cd7625c77c5d699fb0f7615ebf1f973d8c85ae", func := "weathervane/weathervanelaw14.GenCalls", spec := "genCalls", recurses := true, apart := false, narrowed := true }
def GenCallsUptoSaid : Prop := genCallsUptoRow.holds Try.pinned (OpenSpec.upto genCallsSpec)

/-- 'weathervanelaw14.GenMaps', WHERE WHAT IT READS IS OF BULK AT MOST 1048576: true; the input reads as it did. -/
def genMapsUptoRow : OpenClaim := { program := "ytlddnplflakmiaa", sum := "1392e7726f91d13427408dfd44cd7625c77c5d699fb0f7615ebf1f973d8c85ae", func := "weathervane/weathervanelaw14.GenMaps", spec := "genMaps", recurses := true, apart := false, narrowed := true }
def GenMapsUptoSaid : Prop := genMapsUptoRow.holds Try.pinned (OpenSpec.upto genMapsSpec)

end Rows
end Go.Proofs.Ytlddnplflakmiaa
