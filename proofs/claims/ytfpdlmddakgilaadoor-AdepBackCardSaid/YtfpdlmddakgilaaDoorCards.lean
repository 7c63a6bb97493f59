/-
  DERIVED. GIVEN WITH THE SEED: THE CARDS: each row of YtfpdlmddakgilaaDoorRows.lean that lists a variable, with what it lists TIED to the program's text (the seventh form; the later family's looks); each row that meets fmt, with fmt's text TOLD by the authors' own Lean function (tested against real Go, not proved from fmt's source: count such statements apart). THE CARD IS WHAT COUNTS. Prove the row's statement (the work); the ties are given (YtfpdlmddakgilaaDoorTie.lean); close each card by the builder's one call (the guide's Derived/Test/ToyasCard.lean, 'card_holds'). Laid BY PROGRAM, IN A SANDBOX (cutbox-door.mjs). By AI agents, Wed Nov 11 2026. No macro, syntax, notation, axiom, sorry.
-/
import Derived.Test.YtfpdlmddakgilaaDoorRows
import GoSem.ClaimSeven
namespace Go.Proofs.YtfpdlmddakgilaaDoor
namespace Rows

/-- THE TIED CARD OF 'drayagelaw16.AdepParses'. -/
def adepParsesCard : Claim7 := { stood := { row := adepParsesRow, standIns := [], harness := (true, "a7f9abafcb74482bf03c7394d3aa953ac1bcaa1f03d26ecfdd292adabe2cbd68"), looks := true }, kinds := [], alts := [], laidByText := true, laidKinds := [.handle, .data, .data], laidTests := true, laidLooks := .later }
def AdepParsesCardSaid : Prop := Claim7.holds Tryd.pinned (.plain (OpenSpec.ofChange adepParsesSpec)) adepParsesCard

/-- THE TIED CARD OF 'drayagelaw16.AdepBack'. -/
def adepBackCard : Claim7 := { stood := { row := adepBackRow, standIns := [], harness := (true, "a7f9abafcb74482bf03c7394d3aa953ac1bcaa1f03d26ecfdd292adabe2cbd68"), looks := true }, kinds := [], alts := [], laidByText := true, laidKinds := [.handle, .data, .data], laidTests := true, laidLooks := .later }
def AdepBackCardSaid : Prop := Claim7.holds Tryd.pinned (.plain (OpenSpec.ofChange adepBackSpec)) adepBackCard

/-- THE SECOND FORM's CARD OF 'drayagelaw16.AdepParses'. -/
def adepParsesUptoCard : Claim7 := { stood := { row := adepParsesUptoRow, standIns := [], harness := (true, "a7f9abafcb74482bf03c7394d3aa953ac1bcaa1f03d26ecfdd292adabe2cbd68"), looks := true }, kinds := [], alts := [], laidByText := true, laidKinds := [.handle, .data, .data], laidTests := true, laidLooks := .later }
def AdepParsesUptoCardSaid : Prop := Claim7.holds Tryd.pinned (.plain (OpenSpec.upto adepParsesSpec)) adepParsesUptoCard

/-- THE SECOND FORM's CARD OF 'drayagelaw16.AdepBack'. -/
def adepBackUptoCard : Claim7 := { stood := { row := adepBackUptoRow, standIns := [], harness := (true, "a7f9abafcb74482bf03c7394d3aa953ac1bcaa1f03d26ecfdd292adabe2cbd68"), looks := true }, kinds := [], alts := [], laidByText := true, laidKinds := [.handle, .data, .data], laidTests := true, laidLooks := .later }
def AdepBackUptoCardSaid : Prop := Claim7.holds Tryd.pinned (.plain (OpenSpec.upto adepBackSpec)) adepBackUptoCard
end Rows
end Go.Proofs.YtfpdlmddakgilaaDoor
