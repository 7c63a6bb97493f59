/-
  DERIVED. GIVEN WITH THE SEED: THE CARDS: each row of YtolknddegfcmpaaDoorRows.lean that lists a variable, with what it lists TIED to the program's text (the seventh form; the later family's looks); each row that meets fmt, with fmt's text TOLD by the authors' own Lean function (tested against real Go, not proved from fmt's source: count such statements apart). THE CARD IS WHAT COUNTS. Prove the row's statement (the work); the ties are given (YtolknddegfcmpaaDoorTie.lean); close each card by the builder's one call (the guide's Derived/Test/ToyasCard.lean, 'card_holds'). Laid BY PROGRAM, IN A SANDBOX (cutbox-door.mjs). By AI agents, Wed Nov 11 2026. No macro, syntax, notation, axiom, sorry.
-/
import Derived.Test.YtolknddegfcmpaaDoorRows
import GoSem.ClaimSeven
namespace Go.Proofs.YtolknddegfcmpaaDoor
namespace Rows

/-- THE TIED CARD OF 'drayagelaw10.CpioWrites'. -/
def cpioWritesCard : Claim7 := { stood := { row := cpioWritesRow, standIns := [], harness := (true, "1c4c5e6b5c9be6dfff5bd44748038884d7b032b1194263793d96af3a402e2f44"), looks := false }, kinds := [], alts := [], laidByText := true, laidKinds := [.data, .pinned], laidTests := true, laidLooks := .later }
def CpioWritesCardSaid : Prop := Claim7.holds Tryd.pinned (.plain (OpenSpec.ofChange cpioWritesSpec)) cpioWritesCard

/-- THE TIED CARD OF 'drayagelaw10.CpioReads'. -/
def cpioReadsCard : Claim7 := { stood := { row := cpioReadsRow, standIns := [], harness := (true, "1c4c5e6b5c9be6dfff5bd44748038884d7b032b1194263793d96af3a402e2f44"), looks := false }, kinds := [], alts := [], laidByText := true, laidKinds := [.data, .pinned], laidTests := true, laidLooks := .later }
def CpioReadsCardSaid : Prop := Claim7.holds Tryd.pinned (.plain (OpenSpec.ofChange cpioReadsSpec)) cpioReadsCard

/-- THE TIED CARD OF 'drayagelaw10.CpioBack'. -/
def cpioBackCard : Claim7 := { stood := { row := cpioBackRow, standIns := [], harness := (true, "1c4c5e6b5c9be6dfff5bd44748038884d7b032b1194263793d96af3a402e2f44"), looks := false }, kinds := [], alts := [], laidByText := true, laidKinds := [.data, .pinned], laidTests := true, laidLooks := .later }
def CpioBackCardSaid : Prop := Claim7.holds Tryd.pinned (.plain (OpenSpec.ofChange cpioBackSpec)) cpioBackCard

/-- THE TIED CARD OF 'drayagelaw08.ArWrites'. -/
def arWritesCard : Claim7 := { stood := { row := arWritesRow, standIns := [], harness := (true, "1c4c5e6b5c9be6dfff5bd44748038884d7b032b1194263793d96af3a402e2f44"), looks := false }, kinds := [], alts := [], laidByText := true, laidKinds := [.data, .data, .data, .data, .pinned], laidTests := true, laidLooks := .later }
def ArWritesCardSaid : Prop := Claim7.holds Tryd.pinned (.plain (OpenSpec.ofChange arWritesSpec)) arWritesCard

/-- THE SECOND FORM's CARD OF 'drayagelaw10.CpioWrites'. -/
def cpioWritesUptoCard : Claim7 := { stood := { row := cpioWritesUptoRow, standIns := [], harness := (true, "1c4c5e6b5c9be6dfff5bd44748038884d7b032b1194263793d96af3a402e2f44"), looks := false }, kinds := [], alts := [], laidByText := true, laidKinds := [.data, .pinned], laidTests := true, laidLooks := .later }
def CpioWritesUptoCardSaid : Prop := Claim7.holds Tryd.pinned (.plain (OpenSpec.upto cpioWritesSpec)) cpioWritesUptoCard

/-- THE SECOND FORM's CARD OF 'drayagelaw10.CpioReads'. -/
def cpioReadsUptoCard : Claim7 := { stood := { row := cpioReadsUptoRow, standIns := [], harness := (true, "1c4c5e6b5c9be6dfff5bd44748038884d7b032b1194263793d96af3a402e2f44"), looks := false }, kinds := [], alts := [], laidByText := true, laidKinds := [.data, .pinned], laidTests := true, laidLooks := .later }
def CpioReadsUptoCardSaid : Prop := Claim7.holds Tryd.pinned (.plain (OpenSpec.upto cpioReadsSpec)) cpioReadsUptoCard

/-- THE SECOND FORM's CARD OF 'drayagelaw10.CpioBack'. -/
def cpioBackUptoCard : Claim7 := { stood := { row := cpioBackUptoRow, standIns := [], harness := (true, "1c4c5e6b5c9be6dfff5bd44748038884d7b032b1194263793d96af3a402e2f44"), looks := false }, kinds := [], alts := [], laidByText := true, laidKinds := [.data, .pinned], laidTests := true, laidLooks := .later }
def CpioBackUptoCardSaid : Prop := Claim7.holds Tryd.pinned (.plain (OpenSpec.upto cpioBackSpec)) cpioBackUptoCard

/-- THE SECOND FORM's CARD OF 'drayagelaw08.ArWrites'. -/
def arWritesUptoCard : Claim7 := { stood := { row := arWritesUptoRow, standIns := [], harness := (true, "1c4c5e6b5c9be6dfff5bd44748038884d7b032b1194263793d96af3a402e2f44"), looks := false }, kinds := [], alts := [], laidByText := true, laidKinds := [.data, .data, .data, .data, .pinned], laidTests := true, laidLooks := .later }
def ArWritesUptoCardSaid : Prop := Claim7.holds Tryd.pinned (.plain (OpenSpec.upto arWritesSpec)) arWritesUptoCard
end Rows
end Go.Proofs.YtolknddegfcmpaaDoor
