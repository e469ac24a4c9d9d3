/-
  No cell of these rows narrows 'for every input' (looked for: loops, veiled, ifaces, maps, wideKeys, modest, calm, conditions, laid).
  DERIVED. THE GIVEN ROWS OF THIS SEAT. 7 by the template 'for every input the law returns true; each argument reads behind the call as it read before'; 0 by the template 'total and deterministic' (their statements: YtjhojfedimbpiaaTotals.lean).
  GIVEN WITH THE SEED: the statements are not yours to turn. If you find one false, say at which input.
  Laid BY PROGRAM, IN A SANDBOX (cutbox-rows.mjs): the forced cells as the released guide's own fill.sh prints them over the translation 033e5a5669e31f70… (all of the seat's roots in one cut). By AI agents, Wed Nov 11 2026. No macro, syntax, notation, axiom, sorry.
-/
import Derived.Test.YtjhojfedimbpiaaChecked
import GoSem.Claim
import GoSem.ClaimJoined
import GoSem.ClaimMapViews
import Derived.JoinedTies
import Derived.KernelRfl
namespace Go.Proofs.Ytjhojfedimbpiaa
/- THE CELL 'sum', in the pinned program and in every row, IS THE sha256 OF THE DUMP (.gsa) THAT YtjhojfedimbpiaaProg.lean LOADS. Nothing in Lean hashes anything: it is a label: what it is worth is what the hold of that sum in a sandbox is worth. -/
noncomputable def Try.pinned : Pinned := { name := "ytjhojfedimbpiaa", sum := "033e5a5669e31f7055f4feb925a504f298e9c128139c6f041daeac3a7c4e696b", checked := Try.checked }
namespace Rows
def none {H : Type} : Left H := { results := [], args := [] }

/-- 'weathervanelaw01.CoilOrders': WHATEVER THE INPUT: true; the input reads as it did. -/
def coilOrdersSpec : ChangeSpec := { name := "coilOrders", fn := fun _ => fun
  | [d1, d2, d3] => { results := [.lit (.bool true)], args := [d1, d2, d3] }
  | _ => none }
def coilOrdersRow : OpenClaim := { program := "ytjhojfedimbpiaa", sum := "033e5a5669e31f7055f4feb925a504f298e9c128139c6f041daeac3a7c4e696b", func := "weathervane/weathervanelaw01.CoilOrders", spec := "coilOrders", apart := false }
def CoilOrdersSaid : Prop := coilOrdersRow.holds Try.pinned (OpenSpec.ofChange coilOrdersSpec)

/-- ITS FALSE NEIGHBOUR: 'it returns false'. Refute it at one input. -/
def coilOrdersWrong : ChangeSpec := { name := "coilOrders", fn := fun _ => fun
  | [d1, d2, d3] => { results := [.lit (.bool false)], args := [d1, d2, d3] }
  | _ => none }
def CoilOrdersWrongFalsely : Prop := coilOrdersRow.holds Try.pinned (OpenSpec.ofChange coilOrdersWrong)

/-- 'weathervanelaw01.CoilZigs': WHATEVER THE INPUT: true; the input reads as it did. -/
def coilZigsSpec : ChangeSpec := { name := "coilZigs", fn := fun _ => fun
  | [d1, d2] => { results := [.lit (.bool true)], args := [d1, d2] }
  | _ => none }
def coilZigsRow : OpenClaim := { program := "ytjhojfedimbpiaa", sum := "033e5a5669e31f7055f4feb925a504f298e9c128139c6f041daeac3a7c4e696b", func := "weathervane/weathervanelaw01.CoilZigs", spec := "coilZigs", apart := false }
def CoilZigsSaid : Prop := coilZigsRow.holds Try.pinned (OpenSpec.ofChange coilZigsSpec)

/-- ITS FALSE NEIGHBOUR: 'it returns false'. Refute it at one input. -/
def coilZigsWrong : ChangeSpec := { name := "coilZigs", fn := fun _ => fun
  | [d1, d2] => { results := [.lit (.bool false)], args := [d1, d2] }
  | _ => none }
def CoilZigsWrongFalsely : Prop := coilZigsRow.holds Try.pinned (OpenSpec.ofChange coilZigsWrong)

/-- 'weathervanelaw01.CoilSizes': WHATEVER THE INPUT: true; the input reads as it did. -/
def coilSizesSpec : ChangeSpec := { name := "coilSizes", fn := fun _ => fun
  | [d] => { results := [.lit (.bool true)], args := [d] }
  | _ => none }
def coilSizesRow : OpenClaim := { program := "ytjhojfedimbpiaa", sum := "033e5a5669e31f7055f4feb925a504f298e9c128139c6f041daeac3a7c4e696b", func := "weathervane/weathervanelaw01.CoilSizes", spec := "coilSizes", apart := false }
def CoilSizesSaid : Prop := coilSizesRow.holds Try.pinned (OpenSpec.ofChange coilSizesSpec)

/-- ITS FALSE NEIGHBOUR: 'it returns false'. Refute it at one input. -/
def coilSizesWrong : ChangeSpec := { name := "coilSizes", fn := fun _ => fun
  | [d] => { results := [.lit (.bool false)], args := [d] }
  | _ => none }
def CoilSizesWrongFalsely : Prop := coilSizesRow.holds Try.pinned (OpenSpec.ofChange coilSizesWrong)

/-- 'weathervanelaw01.CoilPuts': WHATEVER THE INPUT: true; the input reads as it did. -/
def coilPutsSpec : ChangeSpec := { name := "coilPuts", fn := fun _ => fun
  | [d1, d2, d3] => { results := [.lit (.bool true)], args := [d1, d2, d3] }
  | _ => none }
def coilPutsRow : OpenClaim := { program := "ytjhojfedimbpiaa", sum := "033e5a5669e31f7055f4feb925a504f298e9c128139c6f041daeac3a7c4e696b", func := "weathervane/weathervanelaw01.CoilPuts", spec := "coilPuts", recurses := true, apart := false }
def CoilPutsSaid : Prop := coilPutsRow.holds Try.pinned (OpenSpec.ofChange coilPutsSpec)

/-- ITS FALSE NEIGHBOUR: 'it returns false'. Refute it at one input. -/
def coilPutsWrong : ChangeSpec := { name := "coilPuts", fn := fun _ => fun
  | [d1, d2, d3] => { results := [.lit (.bool false)], args := [d1, d2, d3] }
  | _ => none }
def CoilPutsWrongFalsely : Prop := coilPutsRow.holds Try.pinned (OpenSpec.ofChange coilPutsWrong)

/-- 'weathervanelaw01.CoilRows': WHATEVER THE INPUT: true; the input reads as it did. -/
def coilRowsSpec : ChangeSpec := { name := "coilRows", fn := fun _ => fun
  | [d1, d2] => { results := [.lit (.bool true)], args := [d1, d2] }
  | _ => none }
def coilRowsRow : OpenClaim := { program := "ytjhojfedimbpiaa", sum := "033e5a5669e31f7055f4feb925a504f298e9c128139c6f041daeac3a7c4e696b", func := "weathervane/weathervanelaw01.CoilRows", spec := "coilRows", apart := false }
def CoilRowsSaid : Prop := coilRowsRow.holds Try.pinned (OpenSpec.ofChange coilRowsSpec)

/-- ITS FALSE NEIGHBOUR: 'it returns false'. Refute it at one input. -/
def coilRowsWrong : ChangeSpec := { name := "coilRows", fn := fun _ => fun
  | [d1, d2] => { results := [.lit (.bool false)], args := [d1, d2] }
  | _ => none }
def CoilRowsWrongFalsely : Prop := coilRowsRow.holds Try.pinned (OpenSpec.ofChange coilRowsWrong)

/-- 'weathervanelaw01.CoilCuts': WHATEVER THE INPUT: true; the input reads as it did. -/
def coilCutsSpec : ChangeSpec := { name := "coilCuts", fn := fun _ => fun
  | [d1, d2, d3] => { results := [.lit (.bool true)], args := [d1, d2, d3] }
  | _ => none }
def coilCutsRow : OpenClaim := { program := "ytjhojfedimbpiaa", sum := "033e5a5669e31f7055f4feb925a504f298e9c128139c6f041daeac3a7c4e696b", func := "weathervane/weathervanelaw01.CoilCuts", spec := "coilCuts", recurses := true, apart := false }
def CoilCutsSaid : Prop := coilCutsRow.holds Try.pinned (OpenSpec.ofChange coilCutsSpec)

/-- ITS FALSE NEIGHBOUR: 'it returns false'. Refute it at one input. -/
def coilCutsWrong : ChangeSpec := { name := "coilCuts", fn := fun _ => fun
  | [d1, d2, d3] => { results := [.lit (.bool false)], args := [d1, d2, d3] }
  | _ => none }
def CoilCutsWrongFalsely : Prop := coilCutsRow.holds Try.pinned (OpenSpec.ofChange coilCutsWrong)

/-- 'weathervanelaw01.CoilTexts': WHATEVER THE INPUT: true; the input reads as it did. -/
def coilTextsSpec : ChangeSpec := { name := "coilTexts", fn := fun _ => fun
  | [d1, d2] => { results := [.lit (.bool true)], args := [d1, d2] }
  | _ => none }
def coilTextsRow : OpenClaim := { program := "ytjhojfedimbpiaa", sum := "033e5a5669e31f7055f4feb925a504f298e9c128139c6f041daeac3a7c4e696b", func := "weathervane/weathervanelaw01.CoilTexts", spec := "coilTexts", recurses := true, apart := false }
def CoilTextsSaid : Prop := coilTextsRow.holds Try.pinned (OpenSpec.ofChange coilTextsSpec)

/-- ITS FALSE NEIGHBOUR: 'it returns false'. Refute it at one input. -/
def coilTextsWrong : ChangeSpec := { name := "coilTexts", fn := fun _ => fun
  | [d1, d2] => { results := [.lit (.bool false)], args := [d1, d2] }
  | _ => none }
def CoilTextsWrongFalsely : Prop := coilTextsRow.holds Try.pinned (OpenSpec.ofChange coilTextsWrong)

/- THE SECOND FORM. 'bulk': how many values and letters a reading holds, each counted each time it is reached (what is shared counts as often as it is met; a slice's spare places count too). A statement '..UptoSaid' is the law's where the arguments, and the package variables that the reading takes, are together of bulk at most 1048576: NARROWER than '..Said'. Prove '..Said' where nothing that the law and all that it calls make is longer than what came in: it says more and counts as full. Else prove '..UptoSaid'. A law counts once. -/
mutual
def uptoBulk {H : Type} : DataW H → Nat
  | .lit (.string bytes) => bytes.length + 1
  | .lit _ => 1
  | .nil => 1
  | .ptr d => uptoBulk d + 1
  | .slice elems spare => uptoBulkAll elems + uptoBulkAll spare + 1
  | .agg parts => uptoBulkAll parts + 1
  | .iface _ d => uptoBulk d + 1
  | .map entries => uptoBulkEntries entries + 1
  | .held _ => 1
def uptoBulkAll {H : Type} : List (DataW H) → Nat
  | [] => 0
  | d :: r => uptoBulk d + uptoBulkAll r
def uptoBulkEntries {H : Type} : List (Lit × DataW H) → Nat
  | [] => 0
  | x :: r => uptoBulkEntry x + uptoBulkEntries r
def uptoBulkEntry {H : Type} : Lit × DataW H → Nat
  | (.string bytes, d) => bytes.length + uptoBulk d + 1
  | (_, d) => uptoBulk d + 1
 end
def uptoSmall : (H : Type) → List (DataW H) → Bool := fun _ ds => decide (uptoBulkAll ds ≤ 1048576)
def OpenSpec.upto (s : _root_.Go.ChangeSpec) : _root_.Go.OpenSpec := { _root_.Go.OpenSpec.ofChange s with cond := some uptoSmall }

/-- 'weathervanelaw01.CoilOrders', WHERE WHAT IT READS IS OF BULK AT MOST 1048576: true; the input reads as it did. -/
def coilOrdersUptoRow : OpenClaim := { program := "ytjhojfedimbpiaa", sum := "033e5a5669e31f7055f4feb925a504f298e9c128139c6f041daeac3a7c4e696b", func := "weathervane/weathervanelaw01.CoilOrders", spec := "coilOrders", apart := false, narrowed := true }
def CoilOrdersUptoSaid : Prop := coilOrdersUptoRow.holds Try.pinned (OpenSpec.upto coilOrdersSpec)

/-- 'weathervanelaw01.CoilZigs', WHERE WHAT IT READS IS OF BULK AT MOST 1048576: true; the input reads as it did. -/
def coilZigsUptoRow : OpenClaim := { program := "ytjhojfedimbpiaa", sum := "033e5a5669e31f7055f4feb925a504f298e9c128139c6f041daeac3a7c4e696b", func := "weathervane/weathervanelaw01.CoilZigs", spec := "coilZigs", apart := false, narrowed := true }
def CoilZigsUptoSaid : Prop := coilZigsUptoRow.holds Try.pinned (OpenSpec.upto coilZigsSpec)

/-- 'weathervanelaw01.CoilSizes', WHERE WHAT IT READS IS OF BULK AT MOST 1048576: true; the input reads as it did. -/
def coilSizesUptoRow : OpenClaim := { program := "ytjhojfedimbpiaa", sum := "033e5a5669e31f7055f4feb925a504f298e9c128139c6f041daeac3a7c4e696b", func := "weathervane/weathervanelaw01.CoilSizes", spec := "coilSizes", apart := false, narrowed := true }
def CoilSizesUptoSaid : Prop := coilSizesUptoRow.holds Try.pinned (OpenSpec.upto coilSizesSpec)

/-- 'weathervanelaw01.CoilPuts', WHERE WHAT IT READS IS OF BULK AT MOST 1048576: true; the input reads as it did. -/
def coilPutsUptoRow : OpenClaim := { program := "ytjhojfedimbpiaa", sum := "033e5a5669e31f7055f4feb925a504f298e9c128139c6f041daeac3a7c4e696b", func := "weathervane/weathervanelaw01.CoilPuts", spec := "coilPuts", recurses := true, apart := false, narrowed := true }
def CoilPutsUptoSaid : Prop := coilPutsUptoRow.holds Try.pinned (OpenSpec.upto coilPutsSpec)

/-- 'weathervanelaw01.CoilRows', WHERE WHAT IT READS IS OF BULK AT MOST 1048576: true; the input reads as it did. -/
def coilRowsUptoRow : OpenClaim := { program := "ytjhojfedimbpiaa", sum := "033e5a5669e31f7055f4feb925a504f298e9c128139c6f041daeac3a7c4e696b", func := "weathervane/weathervanelaw01.CoilRows", spec := "coilRows", apart := false, narrowed := true }
def CoilRowsUptoSaid : Prop := coilRowsUptoRow.holds Try.pinned (OpenSpec.upto coilRowsSpec)

/-- 'weathervanelaw01.CoilCuts', WHERE WHAT IT READS IS OF BULK AT MOST 1048576: true; the input reads as it did. -/
def coilCutsUptoRow : OpenClaim := { program := "ytjhojfedimbpiaa", sum := "033e5a5669e31f7055f4feb925a504f298e9c128139c6f041daeac3a7c4e696b", func := "weathervane/weathervanelaw01.CoilCuts", spec := "coilCuts", recurses := true, apart := false, narrowed := true }
def CoilCutsUptoSaid : Prop := coilCutsUptoRow.holds Try.pinned (OpenSpec.upto coilCutsSpec)

/-- 'weathervanelaw01.CoilTexts', WHERE WHAT IT READS IS OF BULK AT MOST 1048576: true; the input reads as it did. -/
def coilTextsUptoRow : OpenClaim := { program := "ytjhojfedimbpiaa", sum := "033e5a5669e31f7055f4feb925a504f298e9c128139c6f041daeac3a7c4e696b", func := "weathervane/weathervanelaw01.CoilTexts", spec := "coilTexts", recurses := true, apart := false, narrowed := true }
def CoilTextsUptoSaid : Prop := coilTextsUptoRow.holds Try.pinned (OpenSpec.upto coilTextsSpec)

end Rows
end Go.Proofs.Ytjhojfedimbpiaa
