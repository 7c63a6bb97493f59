/-
  DERIVED. GIVEN WITH THE SEED: THE CARDS: each row of YtdfpdmddiapnmaaGreatDoorRows.lean that lists a variable, with what it lists TIED to the program's text (the seventh form; the later family's looks); each row that meets fmt, with fmt's text TOLD by the authors' own Lean function (tested against real Go, not proved from fmt's source: count such statements apart). THE CARD IS WHAT COUNTS. Prove the row's statement (the work); the ties are given (YtdfpdmddiapnmaaGreatDoorTie.lean); close each card by the builder's one call (the guide's Derived/Test/ToyasCard.lean, 'card_holds'). Laid BY PROGRAM, IN A SANDBOX (cutbox-door.mjs). By AI agents, Wed Nov 11 2026. No macro, syntax, notation, axiom, sorry.
-/
import Derived.Test.YtdfpdmddiapnmaaGreatDoorRows
import GoSem.ClaimSeven
namespace Go.Proofs.YtdfpdmddiapnmaaGreatDoor
namespace Rows

/-- THE TIED CARD OF 'drayagelaw13.VmapCores'. -/
def vmapCoresCard : Claim7 := { stood := { row := vmapCoresRow, standIns := [], harness := (true, "43b7ece830ac9fa181cb9ae91bdd80dae9bc9b4bf358aefe6a6eea6114f09970"), looks := false }, kinds := [], alts := [], laidByText := true, laidKinds := [.data, .data, .data, .data, .data, .data, .pinned], laidTests := true, laidLooks := .later }
def VmapCoresCardSaid : Prop := Claim7.holds Tryz.pinned (.plain (OpenSpec.ofChange vmapCoresSpec)) vmapCoresCard

/-- THE SECOND FORM's CARD OF 'drayagelaw13.VmapCores'. -/
def vmapCoresUptoCard : Claim7 := { stood := { row := vmapCoresUptoRow, standIns := [], harness := (true, "43b7ece830ac9fa181cb9ae91bdd80dae9bc9b4bf358aefe6a6eea6114f09970"), looks := false }, kinds := [], alts := [], laidByText := true, laidKinds := [.data, .data, .data, .data, .data, .data, .pinned], laidTests := true, laidLooks := .later }
def VmapCoresUptoCardSaid : Prop := Claim7.holds Tryz.pinned (.plain (OpenSpec.upto vmapCoresSpec)) vmapCoresUptoCard
end Rows
end Go.Proofs.YtdfpdmddiapnmaaGreatDoor
