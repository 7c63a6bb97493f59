/-
  DERIVED. GIVEN WITH THE SEED: THE CARDS: each row of YtdnncbhbajciaaaDoorRows.lean that lists a variable, with what it lists TIED to the program's text (the seventh form; the later family's looks); each row that meets fmt, with fmt's text TOLD by the authors' own Lean function (tested against real Go, not proved from fmt's source: count such statements apart). THE CARD IS WHAT COUNTS. Prove the row's statement (the work); the ties are given (YtdnncbhbajciaaaDoorTie.lean); close each card by the builder's one call (the guide's Derived/Test/ToyasCard.lean, 'card_holds'). Laid BY PROGRAM, IN A SANDBOX (cutbox-door.mjs). By AI agents, Wed Nov 11 2026. No macro, syntax, notation, axiom, sorry.
-/
import Derived.Test.YtdnncbhbajciaaaDoorRows
import GoSem.ClaimSeven
namespace Go.Proofs.YtdnncbhbajciaaaDoor
namespace Rows

/-- THE TIED CARD OF 'drayagelaw12.VersionChecks'. -/
def versionChecksCard : Claim7 := { stood := { row := versionChecksRow, standIns := [], harness := (true, "a64369027bf07ae33ad6e647879477104b5eb5229c36362cfb042b38496298db"), looks := true }, kinds := [], alts := [], laidByText := true, laidKinds := [.data, .data, .pinned], laidTests := true, laidLooks := .later }
def VersionChecksCardSaid : Prop := Claim7.holds Tryd.pinned (.plain (OpenSpec.ofChange versionChecksSpec)) versionChecksCard

/-- THE TIED CARD OF 'drayagelaw12.VersionOrder'. -/
def versionOrderCard : Claim7 := { stood := { row := versionOrderRow, standIns := [], harness := (true, "a64369027bf07ae33ad6e647879477104b5eb5229c36362cfb042b38496298db"), looks := true }, kinds := [], alts := [], laidByText := true, laidKinds := [.data, .data, .pinned], laidTests := true, laidLooks := .later }
def VersionOrderCardSaid : Prop := Claim7.holds Tryd.pinned (.plain (OpenSpec.ofChange versionOrderSpec)) versionOrderCard

/-- THE TIED CARD OF 'drayagelaw14.DdepPrints'. -/
def ddepPrintsCard : Claim7 := { stood := { row := ddepPrintsRow, standIns := [], harness := (true, "a64369027bf07ae33ad6e647879477104b5eb5229c36362cfb042b38496298db"), looks := true }, kinds := [], alts := [], laidByText := true, laidKinds := [.data, .data], laidTests := true, laidLooks := .later }
def DdepPrintsCardSaid : Prop := Claim7.holds Tryd.pinned (.plain (OpenSpec.ofChange ddepPrintsSpec)) ddepPrintsCard

/-- THE TIED CARD OF 'drayagelaw14.DdepParses'. -/
def ddepParsesCard : Claim7 := { stood := { row := ddepParsesRow, standIns := [], harness := (true, "a64369027bf07ae33ad6e647879477104b5eb5229c36362cfb042b38496298db"), looks := true }, kinds := [], alts := [], laidByText := true, laidKinds := [.data, .data], laidTests := true, laidLooks := .later }
def DdepParsesCardSaid : Prop := Claim7.holds Tryd.pinned (.plain (OpenSpec.ofChange ddepParsesSpec)) ddepParsesCard

/-- THE TIED CARD OF 'drayagelaw14.DdepBack'. -/
def ddepBackCard : Claim7 := { stood := { row := ddepBackRow, standIns := [], harness := (true, "a64369027bf07ae33ad6e647879477104b5eb5229c36362cfb042b38496298db"), looks := true }, kinds := [], alts := [], laidByText := true, laidKinds := [.data, .data], laidTests := true, laidLooks := .later }
def DdepBackCardSaid : Prop := Claim7.holds Tryd.pinned (.plain (OpenSpec.ofChange ddepBackSpec)) ddepBackCard

/-- THE TIED CARD OF 'drayagelaw16.AdepParses'. -/
def adepParsesCard : Claim7 := { stood := { row := adepParsesRow, standIns := [], harness := (true, "a64369027bf07ae33ad6e647879477104b5eb5229c36362cfb042b38496298db"), looks := true }, kinds := [], alts := [], laidByText := true, laidKinds := [.handle, .data, .data], laidTests := true, laidLooks := .later }
def AdepParsesCardSaid : Prop := Claim7.holds Tryd.pinned (.plain (OpenSpec.ofChange adepParsesSpec)) adepParsesCard

/-- THE TIED CARD OF 'drayagelaw16.AdepBack'. -/
def adepBackCard : Claim7 := { stood := { row := adepBackRow, standIns := [], harness := (true, "a64369027bf07ae33ad6e647879477104b5eb5229c36362cfb042b38496298db"), looks := true }, kinds := [], alts := [], laidByText := true, laidKinds := [.handle, .data, .data], laidTests := true, laidLooks := .later }
def AdepBackCardSaid : Prop := Claim7.holds Tryd.pinned (.plain (OpenSpec.ofChange adepBackSpec)) adepBackCard

/-- THE SECOND FORM's CARD OF 'drayagelaw12.VersionChecks'. -/
def versionChecksUptoCard : Claim7 := { stood := { row := versionChecksUptoRow, standIns := [], harness := (true, "a64369027bf07ae33ad6e647879477104b5eb5229c36362cfb042b38496298db"), looks := true }, kinds := [], alts := [], laidByText := true, laidKinds := [.data, .data, .pinned], laidTests := true, laidLooks := .later }
def VersionChecksUptoCardSaid : Prop := Claim7.holds Tryd.pinned (.plain (OpenSpec.upto versionChecksSpec)) versionChecksUptoCard

/-- THE SECOND FORM's CARD OF 'drayagelaw12.VersionOrder'. -/
def versionOrderUptoCard : Claim7 := { stood := { row := versionOrderUptoRow, standIns := [], harness := (true, "a64369027bf07ae33ad6e647879477104b5eb5229c36362cfb042b38496298db"), looks := true }, kinds := [], alts := [], laidByText := true, laidKinds := [.data, .data, .pinned], laidTests := true, laidLooks := .later }
def VersionOrderUptoCardSaid : Prop := Claim7.holds Tryd.pinned (.plain (OpenSpec.upto versionOrderSpec)) versionOrderUptoCard

/-- THE SECOND FORM's CARD OF 'drayagelaw14.DdepPrints'. -/
def ddepPrintsUptoCard : Claim7 := { stood := { row := ddepPrintsUptoRow, standIns := [], harness := (true, "a64369027bf07ae33ad6e647879477104b5eb5229c36362cfb042b38496298db"), looks := true }, kinds := [], alts := [], laidByText := true, laidKinds := [.data, .data], laidTests := true, laidLooks := .later }
def DdepPrintsUptoCardSaid : Prop := Claim7.holds Tryd.pinned (.plain (OpenSpec.upto ddepPrintsSpec)) ddepPrintsUptoCard

/-- THE SECOND FORM's CARD OF 'drayagelaw14.DdepParses'. -/
def ddepParsesUptoCard : Claim7 := { stood := { row := ddepParsesUptoRow, standIns := [], harness := (true, "a64369027bf07ae33ad6e647879477104b5eb5229c36362cfb042b38496298db"), looks := true }, kinds := [], alts := [], laidByText := true, laidKinds := [.data, .data], laidTests := true, laidLooks := .later }
def DdepParsesUptoCardSaid : Prop := Claim7.holds Tryd.pinned (.plain (OpenSpec.upto ddepParsesSpec)) ddepParsesUptoCard

/-- THE SECOND FORM's CARD OF 'drayagelaw14.DdepBack'. -/
def ddepBackUptoCard : Claim7 := { stood := { row := ddepBackUptoRow, standIns := [], harness := (true, "a64369027bf07ae33ad6e647879477104b5eb5229c36362cfb042b38496298db"), looks := true }, kinds := [], alts := [], laidByText := true, laidKinds := [.data, .data], laidTests := true, laidLooks := .later }
def DdepBackUptoCardSaid : Prop := Claim7.holds Tryd.pinned (.plain (OpenSpec.upto ddepBackSpec)) ddepBackUptoCard

/-- THE SECOND FORM's CARD OF 'drayagelaw16.AdepParses'. -/
def adepParsesUptoCard : Claim7 := { stood := { row := adepParsesUptoRow, standIns := [], harness := (true, "a64369027bf07ae33ad6e647879477104b5eb5229c36362cfb042b38496298db"), looks := true }, kinds := [], alts := [], laidByText := true, laidKinds := [.handle, .data, .data], laidTests := true, laidLooks := .later }
def AdepParsesUptoCardSaid : Prop := Claim7.holds Tryd.pinned (.plain (OpenSpec.upto adepParsesSpec)) adepParsesUptoCard

/-- THE SECOND FORM's CARD OF 'drayagelaw16.AdepBack'. -/
def adepBackUptoCard : Claim7 := { stood := { row := adepBackUptoRow, standIns := [], harness := (true, "a64369027bf07ae33ad6e647879477104b5eb5229c36362cfb042b38496298db"), looks := true }, kinds := [], alts := [], laidByText := true, laidKinds := [.handle, .data, .data], laidTests := true, laidLooks := .later }
def AdepBackUptoCardSaid : Prop := Claim7.holds Tryd.pinned (.plain (OpenSpec.upto adepBackSpec)) adepBackUptoCard
end Rows
end Go.Proofs.YtdnncbhbajciaaaDoor
