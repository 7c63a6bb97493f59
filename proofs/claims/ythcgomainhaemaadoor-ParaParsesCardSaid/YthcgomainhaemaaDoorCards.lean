/-
  DERIVED. GIVEN WITH THE SEED: THE CARDS: each row of YthcgomainhaemaaDoorRows.lean that lists a variable, with what it lists TIED to the program's text (the seventh form; the later family's looks); each row that meets fmt, with fmt's text TOLD by the authors' own Lean function (tested against real Go, not proved from fmt's source: count such statements apart). THE CARD IS WHAT COUNTS. Prove the row's statement (the work); the ties are given (YthcgomainhaemaaDoorTie.lean); close each card by the builder's one call (the guide's Derived/Test/ToyasCard.lean, 'card_holds'). Laid BY PROGRAM, IN A SANDBOX (cutbox-door.mjs). By AI agents, Wed Nov 11 2026. No macro, syntax, notation, axiom, sorry.
-/
import Derived.Test.YthcgomainhaemaaDoorRows
import GoSem.ClaimSeven
namespace Go.Proofs.YthcgomainhaemaaDoor
namespace Rows

/-- THE TIED CARD OF 'drayagelaw18.ParaPrints'. -/
def paraPrintsCard : Claim7 := { stood := { row := paraPrintsRow, standIns := [], harness := (true, "5f8005962b9ca135fca017e800dd7ab214e9a49b9b08da4d09de452ba309ca3e"), looks := false }, kinds := [], alts := [], laidByText := true, laidKinds := [.data, .pinned], laidTests := true, laidLooks := .later }
def ParaPrintsCardSaid : Prop := Claim7.holds Tryd.pinned (.plain (OpenSpec.ofChange paraPrintsSpec)) paraPrintsCard

/-- THE TIED CARD OF 'drayagelaw18.ParaParses'. -/
def paraParsesCard : Claim7 := { stood := { row := paraParsesRow, standIns := [], harness := (true, "5f8005962b9ca135fca017e800dd7ab214e9a49b9b08da4d09de452ba309ca3e"), looks := false }, kinds := [], alts := [], laidByText := true, laidKinds := [.data, .pinned], laidTests := true, laidLooks := .later }
def ParaParsesCardSaid : Prop := Claim7.holds Tryd.pinned (.plain (OpenSpec.ofChange paraParsesSpec)) paraParsesCard

/-- THE TIED CARD OF 'drayagelaw18.ParaMost'. -/
def paraMostCard : Claim7 := { stood := { row := paraMostRow, standIns := [], harness := (true, "5f8005962b9ca135fca017e800dd7ab214e9a49b9b08da4d09de452ba309ca3e"), looks := false }, kinds := [], alts := [], laidByText := true, laidKinds := [.data, .pinned], laidTests := true, laidLooks := .later }
def ParaMostCardSaid : Prop := Claim7.holds Tryd.pinned (.plain (OpenSpec.ofChange paraMostSpec)) paraMostCard

/-- THE TIED CARD OF 'drayagelaw18.ParaBack'. -/
def paraBackCard : Claim7 := { stood := { row := paraBackRow, standIns := [], harness := (true, "5f8005962b9ca135fca017e800dd7ab214e9a49b9b08da4d09de452ba309ca3e"), looks := false }, kinds := [], alts := [], laidByText := true, laidKinds := [.data, .pinned], laidTests := true, laidLooks := .later }
def ParaBackCardSaid : Prop := Claim7.holds Tryd.pinned (.plain (OpenSpec.ofChange paraBackSpec)) paraBackCard

/-- THE SECOND FORM's CARD OF 'drayagelaw18.ParaPrints'. -/
def paraPrintsUptoCard : Claim7 := { stood := { row := paraPrintsUptoRow, standIns := [], harness := (true, "5f8005962b9ca135fca017e800dd7ab214e9a49b9b08da4d09de452ba309ca3e"), looks := false }, kinds := [], alts := [], laidByText := true, laidKinds := [.data, .pinned], laidTests := true, laidLooks := .later }
def ParaPrintsUptoCardSaid : Prop := Claim7.holds Tryd.pinned (.plain (OpenSpec.upto paraPrintsSpec)) paraPrintsUptoCard

/-- THE SECOND FORM's CARD OF 'drayagelaw18.ParaParses'. -/
def paraParsesUptoCard : Claim7 := { stood := { row := paraParsesUptoRow, standIns := [], harness := (true, "5f8005962b9ca135fca017e800dd7ab214e9a49b9b08da4d09de452ba309ca3e"), looks := false }, kinds := [], alts := [], laidByText := true, laidKinds := [.data, .pinned], laidTests := true, laidLooks := .later }
def ParaParsesUptoCardSaid : Prop := Claim7.holds Tryd.pinned (.plain (OpenSpec.upto paraParsesSpec)) paraParsesUptoCard

/-- THE SECOND FORM's CARD OF 'drayagelaw18.ParaMost'. -/
def paraMostUptoCard : Claim7 := { stood := { row := paraMostUptoRow, standIns := [], harness := (true, "5f8005962b9ca135fca017e800dd7ab214e9a49b9b08da4d09de452ba309ca3e"), looks := false }, kinds := [], alts := [], laidByText := true, laidKinds := [.data, .pinned], laidTests := true, laidLooks := .later }
def ParaMostUptoCardSaid : Prop := Claim7.holds Tryd.pinned (.plain (OpenSpec.upto paraMostSpec)) paraMostUptoCard

/-- THE SECOND FORM's CARD OF 'drayagelaw18.ParaBack'. -/
def paraBackUptoCard : Claim7 := { stood := { row := paraBackUptoRow, standIns := [], harness := (true, "5f8005962b9ca135fca017e800dd7ab214e9a49b9b08da4d09de452ba309ca3e"), looks := false }, kinds := [], alts := [], laidByText := true, laidKinds := [.data, .pinned], laidTests := true, laidLooks := .later }
def ParaBackUptoCardSaid : Prop := Claim7.holds Tryd.pinned (.plain (OpenSpec.upto paraBackSpec)) paraBackUptoCard
end Rows
end Go.Proofs.YthcgomainhaemaaDoor
