/-
  DERIVED. GIVEN WITH THE SEED: THE CARDS: each row of YtjdcegogkafmoaaDoorRows.lean that lists a variable, with what it lists TIED to the program's text (the seventh form; the later family's looks); each row that meets fmt, with fmt's text TOLD by the authors' own Lean function (tested against real Go, not proved from fmt's source: count such statements apart). THE CARD IS WHAT COUNTS. Prove the row's statement (the work); the ties are given (YtjdcegogkafmoaaDoorTie.lean); close each card by the builder's one call (the guide's Derived/Test/ToyasCard.lean, 'card_holds'). Laid BY PROGRAM, IN A SANDBOX (cutbox-door.mjs). By AI agents, Wed Nov 11 2026. No macro, syntax, notation, axiom, sorry.
-/
import Derived.Test.YtjdcegogkafmoaaDoorRows
import GoSem.ClaimSeven
namespace Go.Proofs.YtjdcegogkafmoaaDoor
namespace Rows

/-- THE TIED CARD OF 'drayagelaw15.RdepParses'. -/
def rdepParsesCard : Claim7 := { stood := { row := rdepParsesRow, standIns := [], harness := (true, "4c320257f2cff4f3587ba9c5ce12fdceef9fa5bcae2594371481ee31bdbee472"), looks := false }, kinds := [], alts := [], laidByText := true, laidKinds := [.data, .data, .data], laidTests := true, laidLooks := .later }
def RdepParsesCardSaid : Prop := Claim7.holds Tryd.pinned (.plain (OpenSpec.ofChange rdepParsesSpec)) rdepParsesCard

/-- THE TIED CARD OF 'drayagelaw15.RdepBack'. -/
def rdepBackCard : Claim7 := { stood := { row := rdepBackRow, standIns := [], harness := (true, "4c320257f2cff4f3587ba9c5ce12fdceef9fa5bcae2594371481ee31bdbee472"), looks := false }, kinds := [], alts := [], laidByText := true, laidKinds := [.data, .data, .data], laidTests := true, laidLooks := .later }
def RdepBackCardSaid : Prop := Claim7.holds Tryd.pinned (.plain (OpenSpec.ofChange rdepBackSpec)) rdepBackCard

/-- THE SECOND FORM's CARD OF 'drayagelaw15.RdepParses'. -/
def rdepParsesUptoCard : Claim7 := { stood := { row := rdepParsesUptoRow, standIns := [], harness := (true, "4c320257f2cff4f3587ba9c5ce12fdceef9fa5bcae2594371481ee31bdbee472"), looks := false }, kinds := [], alts := [], laidByText := true, laidKinds := [.data, .data, .data], laidTests := true, laidLooks := .later }
def RdepParsesUptoCardSaid : Prop := Claim7.holds Tryd.pinned (.plain (OpenSpec.upto rdepParsesSpec)) rdepParsesUptoCard

/-- THE SECOND FORM's CARD OF 'drayagelaw15.RdepBack'. -/
def rdepBackUptoCard : Claim7 := { stood := { row := rdepBackUptoRow, standIns := [], harness := (true, "4c320257f2cff4f3587ba9c5ce12fdceef9fa5bcae2594371481ee31bdbee472"), looks := false }, kinds := [], alts := [], laidByText := true, laidKinds := [.data, .data, .data], laidTests := true, laidLooks := .later }
def RdepBackUptoCardSaid : Prop := Claim7.holds Tryd.pinned (.plain (OpenSpec.upto rdepBackSpec)) rdepBackUptoCard
end Rows
end Go.Proofs.YtjdcegogkafmoaaDoor
