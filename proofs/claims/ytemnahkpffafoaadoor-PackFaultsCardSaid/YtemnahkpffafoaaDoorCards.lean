/-
  DERIVED. GIVEN WITH THE SEED: THE CARDS: each row of YtemnahkpffafoaaDoorRows.lean that lists a variable, with what it lists TIED to the program's text (the seventh form; the later family's looks); each row that meets fmt, with fmt's text TOLD by the authors' own Lean function (tested against real Go, not proved from fmt's source: count such statements apart). THE CARD IS WHAT COUNTS. Prove the row's statement (the work); the ties are given (YtemnahkpffafoaaDoorTie.lean); close each card by the builder's one call (the guide's Derived/Test/ToyasCard.lean, 'card_holds'). Laid BY PROGRAM, IN A SANDBOX (cutbox-door.mjs). By AI agents, Wed Nov 11 2026. No macro, syntax, notation, axiom, sorry.
-/
import Derived.Test.YtemnahkpffafoaaDoorRows
import GoSem.ClaimSeven
namespace Go.Proofs.YtemnahkpffafoaaDoor
namespace Rows

/-- THE TIED CARD OF 'weathervanelaw11.PackBytes'. -/
def packBytesCard : Claim7 := { stood := { row := packBytesRow, standIns := [], harness := (true, "245bdcade3ac4d9c5ac37e69903479bd29274de92f7fcc9d29f5735a0378a5e9"), looks := false }, kinds := [], alts := [], laidByText := true, laidKinds := [.data], laidTests := true, laidLooks := .later }
def PackBytesCardSaid : Prop := Claim7.holds Tryd.pinned (.plain (OpenSpec.ofChange packBytesSpec)) packBytesCard

/-- THE TIED CARD OF 'weathervanelaw11.PackReads'. -/
def packReadsCard : Claim7 := { stood := { row := packReadsRow, standIns := [], harness := (true, "245bdcade3ac4d9c5ac37e69903479bd29274de92f7fcc9d29f5735a0378a5e9"), looks := false }, kinds := [], alts := [], laidByText := true, laidKinds := [.data], laidTests := true, laidLooks := .later }
def PackReadsCardSaid : Prop := Claim7.holds Tryd.pinned (.plain (OpenSpec.ofChange packReadsSpec)) packReadsCard

/-- THE TIED CARD OF 'weathervanelaw11.PackFaults'. -/
def packFaultsCard : Claim7 := { stood := { row := packFaultsRow, standIns := [], harness := (true, "245bdcade3ac4d9c5ac37e69903479bd29274de92f7fcc9d29f5735a0378a5e9"), looks := false }, kinds := [], alts := [], laidByText := true, laidKinds := [.data], laidTests := true, laidLooks := .later }
def PackFaultsCardSaid : Prop := Claim7.holds Tryd.pinned (.plain (OpenSpec.ofChange packFaultsSpec)) packFaultsCard

/-- THE TIED CARD OF 'weathervanelaw11.PackSums'. -/
def packSumsCard : Claim7 := { stood := { row := packSumsRow, standIns := [], harness := (true, "245bdcade3ac4d9c5ac37e69903479bd29274de92f7fcc9d29f5735a0378a5e9"), looks := false }, kinds := [], alts := [], laidByText := true, laidKinds := [.data], laidTests := true, laidLooks := .later }
def PackSumsCardSaid : Prop := Claim7.holds Tryd.pinned (.plain (OpenSpec.ofChange packSumsSpec)) packSumsCard

/-- THE TIED CARD OF 'weathervanelaw11.PackMarks'. -/
def packMarksCard : Claim7 := { stood := { row := packMarksRow, standIns := [], harness := (true, "245bdcade3ac4d9c5ac37e69903479bd29274de92f7fcc9d29f5735a0378a5e9"), looks := false }, kinds := [], alts := [], laidByText := true, laidKinds := [.data], laidTests := true, laidLooks := .later }
def PackMarksCardSaid : Prop := Claim7.holds Tryd.pinned (.plain (OpenSpec.ofChange packMarksSpec)) packMarksCard

/-- THE SECOND FORM's CARD OF 'weathervanelaw11.PackBytes'. -/
def packBytesUptoCard : Claim7 := { stood := { row := packBytesUptoRow, standIns := [], harness := (true, "245bdcade3ac4d9c5ac37e69903479bd29274de92f7fcc9d29f5735a0378a5e9"), looks := false }, kinds := [], alts := [], laidByText := true, laidKinds := [.data], laidTests := true, laidLooks := .later }
def PackBytesUptoCardSaid : Prop := Claim7.holds Tryd.pinned (.plain (OpenSpec.upto packBytesSpec)) packBytesUptoCard

/-- THE SECOND FORM's CARD OF 'weathervanelaw11.PackReads'. -/
def packReadsUptoCard : Claim7 := { stood := { row := packReadsUptoRow, standIns := [], harness := (true, "245bdcade3ac4d9c5ac37e69903479bd29274de92f7fcc9d29f5735a0378a5e9"), looks := false }, kinds := [], alts := [], laidByText := true, laidKinds := [.data], laidTests := true, laidLooks := .later }
def PackReadsUptoCardSaid : Prop := Claim7.holds Tryd.pinned (.plain (OpenSpec.upto packReadsSpec)) packReadsUptoCard

/-- THE SECOND FORM's CARD OF 'weathervanelaw11.PackFaults'. -/
def packFaultsUptoCard : Claim7 := { stood := { row := packFaultsUptoRow, standIns := [], harness := (true, "245bdcade3ac4d9c5ac37e69903479bd29274de92f7fcc9d29f5735a0378a5e9"), looks := false }, kinds := [], alts := [], laidByText := true, laidKinds := [.data], laidTests := true, laidLooks := .later }
def PackFaultsUptoCardSaid : Prop := Claim7.holds Tryd.pinned (.plain (OpenSpec.upto packFaultsSpec)) packFaultsUptoCard

/-- THE SECOND FORM's CARD OF 'weathervanelaw11.PackSums'. -/
def packSumsUptoCard : Claim7 := { stood := { row := packSumsUptoRow, standIns := [], harness := (true, "245bdcade3ac4d9c5ac37e69903479bd29274de92f7fcc9d29f5735a0378a5e9"), looks := false }, kinds := [], alts := [], laidByText := true, laidKinds := [.data], laidTests := true, laidLooks := .later }
def PackSumsUptoCardSaid : Prop := Claim7.holds Tryd.pinned (.plain (OpenSpec.upto packSumsSpec)) packSumsUptoCard

/-- THE SECOND FORM's CARD OF 'weathervanelaw11.PackMarks'. -/
def packMarksUptoCard : Claim7 := { stood := { row := packMarksUptoRow, standIns := [], harness := (true, "245bdcade3ac4d9c5ac37e69903479bd29274de92f7fcc9d29f5735a0378a5e9"), looks := false }, kinds := [], alts := [], laidByText := true, laidKinds := [.data], laidTests := true, laidLooks := .later }
def PackMarksUptoCardSaid : Prop := Claim7.holds Tryd.pinned (.plain (OpenSpec.upto packMarksSpec)) packMarksUptoCard
end Rows
end Go.Proofs.YtemnahkpffafoaaDoor
