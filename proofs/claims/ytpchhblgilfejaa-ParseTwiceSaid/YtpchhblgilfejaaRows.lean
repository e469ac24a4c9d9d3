/-
  No cell of these rows narrows 'for every input' (looked for: loops, veiled, ifaces, maps, wideKeys, modest, calm, conditions, laid).
  DERIVED. THE GIVEN ROWS OF THIS SEAT. 4 by the template 'for every input the law returns true; each argument reads behind the call as it read before'; 0 by the template 'total and deterministic' (their statements: YtpchhblgilfejaaTotals.lean).
  GIVEN WITH THE SEED: the statements are not yours to turn. If you find one false, say at which input.
  Laid BY PROGRAM, IN A SANDBOX (cutbox-rows.mjs): the forced cells as the released guide's own fill.sh prints them over the translation 7edf234ff6c72f32… (all of the seat's roots in one cut). By AI agents, Wed Nov 11 2026. No macro, syntax, notation, axiom, sorry.
-/
import Derived.Test.YtpchhblgilfejaaChecked
import GoSem.Claim
import GoSem.ClaimJoined
import GoSem.ClaimMapViews
import Derived.JoinedTies
import Derived.KernelRfl
namespace Go.Proofs.Ytpchhblgilfejaa
/- THE CELL 'sum', in the pinned program and in every row, IS THE sha256 OF THE DUMP (.gsa) THAT YtpchhblgilfejaaProg.lean LOADS. Nothing in Lean hashes anything: it is a label: what it is worth is what the hold of that sum in a sandbox is worth. -/
noncomputable def Try.pinned : Pinned := { name := "ytpchhblgilfejaa", sum := "7edf234ff6c72f32397854f757062f20fe19c4d338618f4525395d81d3e244fa", checked := Try.checked }
namespace Rows
def none {H : Type} : Left H := { results := [], args := [] }

/-- 'weathervanelaw09.ParseDeep': WHATEVER THE INPUT: true; the input reads as it did. -/
def parseDeepSpec : ChangeSpec := { name := "parseDeep", fn := fun _ => fun
  | [d] => { results := [.lit (.bool true)], args := [d] }
  | _ => none }
def parseDeepRow : OpenClaim := { program := "ytpchhblgilfejaa", sum := "7edf234ff6c72f32397854f757062f20fe19c4d338618f4525395d81d3e244fa", func := "weathervane/weathervanelaw09.ParseDeep", spec := "parseDeep", inPlace := ["internal/bytealg.IndexByteString", "internal/bytealg.IndexString"], unfollowed := true, recurses := true, named := ["internal/bytealg.MaxLen"], apart := false }
def ParseDeepSaid : Prop := parseDeepRow.holds Try.pinned (OpenSpec.ofChange parseDeepSpec)

/-- ITS FALSE NEIGHBOUR: 'it returns false'. Refute it at one input. -/
def parseDeepWrong : ChangeSpec := { name := "parseDeep", fn := fun _ => fun
  | [d] => { results := [.lit (.bool false)], args := [d] }
  | _ => none }
def ParseDeepWrongFalsely : Prop := parseDeepRow.holds Try.pinned (OpenSpec.ofChange parseDeepWrong)

/-- 'weathervanelaw09.ParseNames': WHATEVER THE INPUT: true; the input reads as it did. -/
def parseNamesSpec : ChangeSpec := { name := "parseNames", fn := fun _ => fun
  | [d1, d2] => { results := [.lit (.bool true)], args := [d1, d2] }
  | _ => none }
def parseNamesRow : OpenClaim := { program := "ytpchhblgilfejaa", sum := "7edf234ff6c72f32397854f757062f20fe19c4d338618f4525395d81d3e244fa", func := "weathervane/weathervanelaw09.ParseNames", spec := "parseNames", inPlace := ["internal/bytealg.IndexByteString", "internal/bytealg.IndexString"], unfollowed := true, recurses := true, named := ["internal/bytealg.MaxLen"], apart := false }
def ParseNamesSaid : Prop := parseNamesRow.holds Try.pinned (OpenSpec.ofChange parseNamesSpec)

/-- ITS FALSE NEIGHBOUR: 'it returns false'. Refute it at one input. -/
def parseNamesWrong : ChangeSpec := { name := "parseNames", fn := fun _ => fun
  | [d1, d2] => { results := [.lit (.bool false)], args := [d1, d2] }
  | _ => none }
def ParseNamesWrongFalsely : Prop := parseNamesRow.holds Try.pinned (OpenSpec.ofChange parseNamesWrong)

/-- 'weathervanelaw09.ParseAhead': WHATEVER THE INPUT: true; the input reads as it did. -/
def parseAheadSpec : ChangeSpec := { name := "parseAhead", fn := fun _ => fun
  | [d] => { results := [.lit (.bool true)], args := [d] }
  | _ => none }
def parseAheadRow : OpenClaim := { program := "ytpchhblgilfejaa", sum := "7edf234ff6c72f32397854f757062f20fe19c4d338618f4525395d81d3e244fa", func := "weathervane/weathervanelaw09.ParseAhead", spec := "parseAhead", inPlace := ["internal/bytealg.IndexByteString", "internal/bytealg.IndexString"], unfollowed := true, recurses := true, named := ["internal/bytealg.MaxLen"], apart := false }
def ParseAheadSaid : Prop := parseAheadRow.holds Try.pinned (OpenSpec.ofChange parseAheadSpec)

/-- ITS FALSE NEIGHBOUR: 'it returns false'. Refute it at one input. -/
def parseAheadWrong : ChangeSpec := { name := "parseAhead", fn := fun _ => fun
  | [d] => { results := [.lit (.bool false)], args := [d] }
  | _ => none }
def ParseAheadWrongFalsely : Prop := parseAheadRow.holds Try.pinned (OpenSpec.ofChange parseAheadWrong)

/-- 'weathervanelaw09.ParseTwice': WHATEVER THE INPUT: true; the input reads as it did. -/
def parseTwiceSpec : ChangeSpec := { name := "parseTwice", fn := fun _ => fun
  | [d] => { results := [.lit (.bool true)], args := [d] }
  | _ => none }
def parseTwiceRow : OpenClaim := { program := "ytpchhblgilfejaa", sum := "7edf234ff6c72f32397854f757062f20fe19c4d338618f4525395d81d3e244fa", func := "weathervane/weathervanelaw09.ParseTwice", spec := "parseTwice", inPlace := ["internal/bytealg.IndexByteString", "internal/bytealg.IndexString"], unfollowed := true, recurses := true, named := ["internal/bytealg.MaxLen"], apart := false }
def ParseTwiceSaid : Prop := parseTwiceRow.holds Try.pinned (OpenSpec.ofChange parseTwiceSpec)

/-- ITS FALSE NEIGHBOUR: 'it returns false'. Refute it at one input. -/
def parseTwiceWrong : ChangeSpec := { name := "parseTwice", fn := fun _ => fun
  | [d] => { results := [.lit (.bool false)], args := [d] }
  | _ => none }
def ParseTwiceWrongFalsely : Prop := parseTwiceRow.holds Try.pinned (OpenSpec.ofChange parseTwiceWrong)

/- THE SECOND FORM. 'bulk': how many values and letters a reading holds, each counted each time it is reached (what is shared counts as often as it is met; a slice's spare places count too). A statement '..UptoSaid' is the law's where the arguments, and the package variables that the reading takes, are together of bulk at most 1048576: NARROWER than '..Said'. Prove '..Said' where nothing that the law and all that it calls make is longer than what came in: it says more and counts as full. Else prove '..UptoSaid'. A law counts once. -/
mutual
def uptoBulk {H : Type} : DataW H → Nat
  | .lit (.string bytes) => bytes.length + 1
  | .lit _ => 1
  | .nil => 1
  | .ptr d => uptoBulk d + 1
  | .slice elems spare => uptoBulkAll elems + uptoBulkAll spare + 1
  | .agg parts => uptoBulkAll parts + 1
  | .iface _ d => uptoBulk d + 1
  | .map entries => uptoBulkEntries entries + 1
  | .held _ => 1
def uptoBulkAll {H : Type} : List (DataW H) → Nat
  | [] => 0
  | d :: r => uptoBulk d + uptoBulkAll r
def uptoBulkEntries {H : Type} : List (Lit × DataW H) → Nat
  | [] => 0
  | x :: r => uptoBulkEntry x + uptoBulkEntries r
def uptoBulkEntry {H : Type} : Lit × DataW H → Nat
  | (.string bytes, d) => bytes.length + uptoBulk d + 1
  | (_, d) => uptoBulk d + 1
 end
def uptoSmall : (H : Type) → List (DataW H) → Bool := fun _ ds => decide (uptoBulkAll ds ≤ 1048576)
def OpenSpec.upto (s : _root_.Go.ChangeSpec) : _root_.Go.OpenSpec := { _root_.Go.OpenSpec.ofChange s with cond := some uptoSmall }

/-- 'weathervanelaw09.ParseDeep', WHERE WHAT IT READS IS OF BULK AT MOST 1048576: true; the input reads as it did. -/
def parseDeepUptoRow : OpenClaim := { program := "ytpchhblgilfejaa", sum := "7edf234ff6c72f32397854f757062f20fe19c4d338618f4525395d81d3e244fa", func := "weathervane/weathervanelaw09.ParseDeep", spec := "parseDeep", inPlace := ["internal/bytealg.IndexByteString", "internal/bytealg.IndexString"], unfollowed := true, recurses := true, named := ["internal/bytealg.MaxLen"], apart := false, narrowed := true }
def ParseDeepUptoSaid : Prop := parseDeepUptoRow.holds Try.pinned (OpenSpec.upto parseDeepSpec)

/-- 'weathervanelaw09.ParseNames', WHERE WHAT IT READS IS OF BULK AT MOST 1048576: true; the input reads as it did. -/
def parseNamesUptoRow : OpenClaim := { program := "ytpchhblgilfejaa", sum := "7edf234ff6c72f32397854f757062f20fe19c4d338618f4525395d81d3e244fa", func := "weathervane/weathervanelaw09.ParseNames", spec := "parseNames", inPlace := ["internal/bytealg.IndexByteString", "internal/bytealg.IndexString"], unfollowed := true, recurses := true, named := ["internal/bytealg.MaxLen"], apart := false, narrowed := true }
def ParseNamesUptoSaid : Prop := parseNamesUptoRow.holds Try.pinned (OpenSpec.upto parseNamesSpec)

/-- 'weathervanelaw09.ParseAhead', WHERE WHAT IT READS IS OF BULK AT MOST 1048576: true; the input reads as it did. -/
def parseAheadUptoRow : OpenClaim := { program := "ytpchhblgilfejaa", sum := "7edf234ff6c72f32397854f757062f20fe19c4d338618f4525395d81d3e244fa", func := "weathervane/weathervanelaw09.ParseAhead", spec := "parseAhead", inPlace := ["internal/bytealg.IndexByteString", "internal/bytealg.IndexString"], unfollowed := true, recurses := true, named := ["internal/bytealg.MaxLen"], apart := false, narrowed := true }
def ParseAheadUptoSaid : Prop := parseAheadUptoRow.holds Try.pinned (OpenSpec.upto parseAheadSpec)

/-- 'weathervanelaw09.ParseTwice', WHERE WHAT IT READS IS OF BULK AT MOST 1048576: true; the input reads as it did. -/
def parseTwiceUptoRow : OpenClaim := { program := "ytpchhblgilfejaa", sum := "7edf234ff6c72f32397854f757062f20fe19c4d338618f4525395d81d3e244fa", func := "weathervane/weathervanelaw09.ParseTwice", spec := "parseTwice", inPlace := ["internal/bytealg.IndexByteString", "internal/bytealg.IndexString"], unfollowed := true, recurses := true, named := ["internal/bytealg.MaxLen"], apart := false, narrowed := true }
def ParseTwiceUptoSaid : Prop := parseTwiceUptoRow.holds Try.pinned (OpenSpec.upto parseTwiceSpec)

end Rows
end Go.Proofs.Ytpchhblgilfejaa
