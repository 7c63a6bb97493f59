/-
  DERIVED. GIVEN WITH THE SEED: THE CARDS: each row of YtfpdlmddakgilaaGreatDoorRows.lean that lists a variable, with what it lists TIED to the program's text (the seventh form; the later family's looks); each row that meets fmt, with fmt's text TOLD by the authors' own Lean function (tested against real Go, not proved from fmt's source: count such statements apart). THE CARD IS WHAT COUNTS. Prove the row's statement (the work); the ties are given (YtfpdlmddakgilaaGreatDoorTie.lean); close each card by the builder's one call (the guide's Derived/Test/ToyasCard.lean, 'card_holds'). Laid BY PROGRAM, IN A SANDBOX (cutbox-door.mjs). By AI agents, Wed Nov 11 2026. No macro, syntax, notation, axiom, sorry.
-/
import Derived.Test.YtfpdlmddakgilaaGreatDoorRows
import GoSem.ClaimSeven
namespace Go.Proofs.YtfpdlmddakgilaaGreatDoor
namespace Rows

/-- THE TIED CARD OF 'drayagelaw16.AdepPrints'. -/
def adepPrintsCard : Claim7 := { stood := { row := adepPrintsRow, standIns := [], harness := (true, "c04276b987f127c74f0b475675fd688375f712c8743d39d13e13b16ee1ddd635"), looks := true }, kinds := [], alts := [], laidByText := true, laidKinds := [.handle, .data, .data], laidTests := true, laidLooks := .later }
def AdepPrintsCardSaid : Prop := Claim7.holds Tryz.pinned (.plain (OpenSpec.ofChange adepPrintsSpec)) adepPrintsCard

/-- THE SECOND FORM's CARD OF 'drayagelaw16.AdepPrints'. -/
def adepPrintsUptoCard : Claim7 := { stood := { row := adepPrintsUptoRow, standIns := [], harness := (true, "c04276b987f127c74f0b475675fd688375f712c8743d39d13e13b16ee1ddd635"), looks := true }, kinds := [], alts := [], laidByText := true, laidKinds := [.handle, .data, .data], laidTests := true, laidLooks := .later }
def AdepPrintsUptoCardSaid : Prop := Claim7.holds Tryz.pinned (.plain (OpenSpec.upto adepPrintsSpec)) adepPrintsUptoCard
end Rows
end Go.Proofs.YtfpdlmddakgilaaGreatDoor
