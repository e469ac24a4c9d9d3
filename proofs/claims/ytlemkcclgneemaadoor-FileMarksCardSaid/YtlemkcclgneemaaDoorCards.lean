/-
  DERIVED. GIVEN WITH THE SEED: THE CARDS: each row of YtlemkcclgneemaaDoorRows.lean that lists a variable, with what it lists TIED to the program's text (the seventh form; the later family's looks); each row that meets fmt, with fmt's text TOLD by the authors' own Lean function (tested against real Go, not proved from fmt's source: count such statements apart). THE CARD IS WHAT COUNTS. Prove the row's statement (the work); the ties are given (YtlemkcclgneemaaDoorTie.lean); close each card by the builder's one call (the guide's Derived/Test/ToyasCard.lean, 'card_holds'). Laid BY PROGRAM, IN A SANDBOX (cutbox-door.mjs). By AI agents, Wed Nov 11 2026. No macro, syntax, notation, axiom, sorry.
-/
import Derived.Test.YtlemkcclgneemaaDoorRows
import GoSem.ClaimSeven
namespace Go.Proofs.YtlemkcclgneemaaDoor
namespace Rows

/-- THE TIED CARD OF 'weathervanelaw13.FileBytes'. -/
def fileBytesCard : Claim7 := { stood := { row := fileBytesRow, standIns := [], harness := (true, "d9d19c67ab579e8d00ba6bad896b8481908b993b4fadf333d4df92785d2a9e67"), looks := false }, kinds := [], alts := [], laidByText := true, laidKinds := [.data], laidTests := true, laidLooks := .later }
def FileBytesCardSaid : Prop := Claim7.holds Tryd.pinned (.plain (OpenSpec.ofChange fileBytesSpec)) fileBytesCard

/-- THE TIED CARD OF 'weathervanelaw13.FileRaw'. -/
def fileRawCard : Claim7 := { stood := { row := fileRawRow, standIns := [], harness := (true, "d9d19c67ab579e8d00ba6bad896b8481908b993b4fadf333d4df92785d2a9e67"), looks := false }, kinds := [], alts := [], laidByText := true, laidKinds := [.data], laidTests := true, laidLooks := .later }
def FileRawCardSaid : Prop := Claim7.holds Tryd.pinned (.plain (OpenSpec.ofChange fileRawSpec)) fileRawCard

/-- THE TIED CARD OF 'weathervanelaw13.FileReads'. -/
def fileReadsCard : Claim7 := { stood := { row := fileReadsRow, standIns := [], harness := (true, "d9d19c67ab579e8d00ba6bad896b8481908b993b4fadf333d4df92785d2a9e67"), looks := false }, kinds := [], alts := [], laidByText := true, laidKinds := [.data], laidTests := true, laidLooks := .later }
def FileReadsCardSaid : Prop := Claim7.holds Tryd.pinned (.plain (OpenSpec.ofChange fileReadsSpec)) fileReadsCard

/-- THE TIED CARD OF 'weathervanelaw13.FileApart'. -/
def fileApartCard : Claim7 := { stood := { row := fileApartRow, standIns := [], harness := (true, "d9d19c67ab579e8d00ba6bad896b8481908b993b4fadf333d4df92785d2a9e67"), looks := false }, kinds := [], alts := [], laidByText := true, laidKinds := [.data], laidTests := true, laidLooks := .later }
def FileApartCardSaid : Prop := Claim7.holds Tryd.pinned (.plain (OpenSpec.ofChange fileApartSpec)) fileApartCard

/-- THE TIED CARD OF 'weathervanelaw13.FileMarks'. -/
def fileMarksCard : Claim7 := { stood := { row := fileMarksRow, standIns := [], harness := (true, "d9d19c67ab579e8d00ba6bad896b8481908b993b4fadf333d4df92785d2a9e67"), looks := false }, kinds := [], alts := [], laidByText := true, laidKinds := [.data], laidTests := true, laidLooks := .later }
def FileMarksCardSaid : Prop := Claim7.holds Tryd.pinned (.plain (OpenSpec.ofChange fileMarksSpec)) fileMarksCard

/-- THE SECOND FORM's CARD OF 'weathervanelaw13.FileBytes'. -/
def fileBytesUptoCard : Claim7 := { stood := { row := fileBytesUptoRow, standIns := [], harness := (true, "d9d19c67ab579e8d00ba6bad896b8481908b993b4fadf333d4df92785d2a9e67"), looks := false }, kinds := [], alts := [], laidByText := true, laidKinds := [.data], laidTests := true, laidLooks := .later }
def FileBytesUptoCardSaid : Prop := Claim7.holds Tryd.pinned (.plain (OpenSpec.upto fileBytesSpec)) fileBytesUptoCard

/-- THE SECOND FORM's CARD OF 'weathervanelaw13.FileRaw'. -/
def fileRawUptoCard : Claim7 := { stood := { row := fileRawUptoRow, standIns := [], harness := (true, "d9d19c67ab579e8d00ba6bad896b8481908b993b4fadf333d4df92785d2a9e67"), looks := false }, kinds := [], alts := [], laidByText := true, laidKinds := [.data], laidTests := true, laidLooks := .later }
def FileRawUptoCardSaid : Prop := Claim7.holds Tryd.pinned (.plain (OpenSpec.upto fileRawSpec)) fileRawUptoCard

/-- THE SECOND FORM's CARD OF 'weathervanelaw13.FileReads'. -/
def fileReadsUptoCard : Claim7 := { stood := { row := fileReadsUptoRow, standIns := [], harness := (true, "d9d19c67ab579e8d00ba6bad896b8481908b993b4fadf333d4df92785d2a9e67"), looks := false }, kinds := [], alts := [], laidByText := true, laidKinds := [.data], laidTests := true, laidLooks := .later }
def FileReadsUptoCardSaid : Prop := Claim7.holds Tryd.pinned (.plain (OpenSpec.upto fileReadsSpec)) fileReadsUptoCard

/-- THE SECOND FORM's CARD OF 'weathervanelaw13.FileApart'. -/
def fileApartUptoCard : Claim7 := { stood := { row := fileApartUptoRow, standIns := [], harness := (true, "d9d19c67ab579e8d00ba6bad896b8481908b993b4fadf333d4df92785d2a9e67"), looks := false }, kinds := [], alts := [], laidByText := true, laidKinds := [.data], laidTests := true, laidLooks := .later }
def FileApartUptoCardSaid : Prop := Claim7.holds Tryd.pinned (.plain (OpenSpec.upto fileApartSpec)) fileApartUptoCard

/-- THE SECOND FORM's CARD OF 'weathervanelaw13.FileMarks'. -/
def fileMarksUptoCard : Claim7 := { stood := { row := fileMarksUptoRow, standIns := [], harness := (true, "d9d19c67ab579e8d00ba6bad896b8481908b993b4fadf333d4df92785d2a9e67"), looks := false }, kinds := [], alts := [], laidByText := true, laidKinds := [.data], laidTests := true, laidLooks := .later }
def FileMarksUptoCardSaid : Prop := Claim7.holds Tryd.pinned (.plain (OpenSpec.upto fileMarksSpec)) fileMarksUptoCard
end Rows
end Go.Proofs.YtlemkcclgneemaaDoor
