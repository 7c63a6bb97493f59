/-
  DERIVED. GIVEN WITH THE SEED: THE CARDS: each row of YtpheifdpjcppdaaGreatDoorRows.lean that lists a variable, with what it lists TIED to the program's text (the seventh form; the later family's looks); each row that meets fmt, with fmt's text TOLD by the authors' own Lean function (tested against real Go, not proved from fmt's source: count such statements apart). THE CARD IS WHAT COUNTS. Prove the row's statement (the work); the ties are given (YtpheifdpjcppdaaGreatDoorTie.lean); close each card by the builder's one call (the guide's Derived/Test/ToyasCard.lean, 'card_holds'). Laid BY PROGRAM, IN A SANDBOX (cutbox-door.mjs). By AI agents, Wed Nov 11 2026. No macro, syntax, notation, axiom, sorry.
-/
import Derived.Test.YtpheifdpjcppdaaGreatDoorRows
import GoSem.ClaimSeven
namespace Go.Proofs.YtpheifdpjcppdaaGreatDoor
namespace Rows

/-- THE TIED CARD OF 'drayagelaw09.TarWrites'. -/
def tarWritesCard : Claim7 := { stood := { row := tarWritesRow, standIns := [], harness := (true, "2225f25b93ffc52241c4340372f362f05cb98b7f0638a74b72f5206a2928a7b0"), looks := false }, kinds := [], alts := [], laidByText := true, laidKinds := [.data, .data, .data, .data, .pinned], laidTests := true, laidLooks := .later }
def TarWritesCardSaid : Prop := Claim7.holds Tryz.pinned (.plain (OpenSpec.ofChange tarWritesSpec)) tarWritesCard

/-- THE TIED CARD OF 'drayagelaw09.TarReads'. -/
def tarReadsCard : Claim7 := { stood := { row := tarReadsRow, standIns := [], harness := (true, "2225f25b93ffc52241c4340372f362f05cb98b7f0638a74b72f5206a2928a7b0"), looks := false }, kinds := [], alts := [], laidByText := true, laidKinds := [.data, .data, .data, .data, .pinned], laidTests := true, laidLooks := .later }
def TarReadsCardSaid : Prop := Claim7.holds Tryz.pinned (.plain (OpenSpec.ofChange tarReadsSpec)) tarReadsCard

/-- THE TIED CARD OF 'drayagelaw09.TarBack'. -/
def tarBackCard : Claim7 := { stood := { row := tarBackRow, standIns := [], harness := (true, "2225f25b93ffc52241c4340372f362f05cb98b7f0638a74b72f5206a2928a7b0"), looks := false }, kinds := [], alts := [], laidByText := true, laidKinds := [.data, .data, .data, .data, .pinned], laidTests := true, laidLooks := .later }
def TarBackCardSaid : Prop := Claim7.holds Tryz.pinned (.plain (OpenSpec.ofChange tarBackSpec)) tarBackCard

/-- THE TIED CARD OF 'drayagelaw09.TarSums'. -/
def tarSumsCard : Claim7 := { stood := { row := tarSumsRow, standIns := [], harness := (true, "2225f25b93ffc52241c4340372f362f05cb98b7f0638a74b72f5206a2928a7b0"), looks := false }, kinds := [], alts := [], laidByText := true, laidKinds := [.data, .data, .data, .data, .pinned], laidTests := true, laidLooks := .later }
def TarSumsCardSaid : Prop := Claim7.holds Tryz.pinned (.plain (OpenSpec.ofChange tarSumsSpec)) tarSumsCard

/-- THE SECOND FORM's CARD OF 'drayagelaw09.TarWrites'. -/
def tarWritesUptoCard : Claim7 := { stood := { row := tarWritesUptoRow, standIns := [], harness := (true, "2225f25b93ffc52241c4340372f362f05cb98b7f0638a74b72f5206a2928a7b0"), looks := false }, kinds := [], alts := [], laidByText := true, laidKinds := [.data, .data, .data, .data, .pinned], laidTests := true, laidLooks := .later }
def TarWritesUptoCardSaid : Prop := Claim7.holds Tryz.pinned (.plain (OpenSpec.upto tarWritesSpec)) tarWritesUptoCard

/-- THE SECOND FORM's CARD OF 'drayagelaw09.TarReads'. -/
def tarReadsUptoCard : Claim7 := { stood := { row := tarReadsUptoRow, standIns := [], harness := (true, "2225f25b93ffc52241c4340372f362f05cb98b7f0638a74b72f5206a2928a7b0"), looks := false }, kinds := [], alts := [], laidByText := true, laidKinds := [.data, .data, .data, .data, .pinned], laidTests := true, laidLooks := .later }
def TarReadsUptoCardSaid : Prop := Claim7.holds Tryz.pinned (.plain (OpenSpec.upto tarReadsSpec)) tarReadsUptoCard

/-- THE SECOND FORM's CARD OF 'drayagelaw09.TarBack'. -/
def tarBackUptoCard : Claim7 := { stood := { row := tarBackUptoRow, standIns := [], harness := (true, "2225f25b93ffc52241c4340372f362f05cb98b7f0638a74b72f5206a2928a7b0"), looks := false }, kinds := [], alts := [], laidByText := true, laidKinds := [.data, .data, .data, .data, .pinned], laidTests := true, laidLooks := .later }
def TarBackUptoCardSaid : Prop := Claim7.holds Tryz.pinned (.plain (OpenSpec.upto tarBackSpec)) tarBackUptoCard

/-- THE SECOND FORM's CARD OF 'drayagelaw09.TarSums'. -/
def tarSumsUptoCard : Claim7 := { stood := { row := tarSumsUptoRow, standIns := [], harness := (true, "2225f25b93ffc52241c4340372f362f05cb98b7f0638a74b72f5206a2928a7b0"), looks := false }, kinds := [], alts := [], laidByText := true, laidKinds := [.data, .data, .data, .data, .pinned], laidTests := true, laidLooks := .later }
def TarSumsUptoCardSaid : Prop := Claim7.holds Tryz.pinned (.plain (OpenSpec.upto tarSumsSpec)) tarSumsUptoCard
end Rows
end Go.Proofs.YtpheifdpjcppdaaGreatDoor
