/-
  DERIVED. GIVEN WITH THE SEED: THE CARDS: each row of YtjhikglgaoncjaaDoorRows.lean that lists a variable, with what it lists TIED to the program's text (the seventh form; the later family's looks); each row that meets fmt, with fmt's text TOLD by the authors' own Lean function (tested against real Go, not proved from fmt's source: count such statements apart). THE CARD IS WHAT COUNTS. Prove the row's statement (the work); the ties are given (YtjhikglgaoncjaaDoorTie.lean); close each card by the builder's one call (the guide's Derived/Test/ToyasCard.lean, 'card_holds'). Laid BY PROGRAM, IN A SANDBOX (cutbox-door.mjs). By AI agents, Wed Nov 11 2026. No macro, syntax, notation, axiom, sorry.
-/
import Derived.Test.YtjhikglgaoncjaaDoorRows
import GoSem.ClaimSeven
namespace Go.Proofs.YtjhikglgaoncjaaDoor
namespace Rows

/-- THE TIED CARD OF 'drayagelaw07.EntryChecks'. -/
def entryChecksCard : Claim7 := { stood := { row := entryChecksRow, standIns := [], harness := (true, "8f5680fc5dcb57348eedc3ee5ca0dbf94dbbb32d45cb8911b2641c64c67db199"), looks := false }, kinds := [], alts := [], laidByText := true, laidKinds := [.data, .pinned], laidTests := true, laidLooks := .later }
def EntryChecksCardSaid : Prop := Claim7.holds Tryd.pinned (.plain (OpenSpec.ofChange entryChecksSpec)) entryChecksCard

/-- THE TIED CARD OF 'drayagelaw07.EntryLimits'. -/
def entryLimitsCard : Claim7 := { stood := { row := entryLimitsRow, standIns := [], harness := (true, "8f5680fc5dcb57348eedc3ee5ca0dbf94dbbb32d45cb8911b2641c64c67db199"), looks := false }, kinds := [], alts := [], laidByText := true, laidKinds := [.data, .pinned], laidTests := true, laidLooks := .later }
def EntryLimitsCardSaid : Prop := Claim7.holds Tryd.pinned (.plain (OpenSpec.ofChange entryLimitsSpec)) entryLimitsCard

/-- THE TIED CARD OF 'drayagelaw07.EntryCanon'. -/
def entryCanonCard : Claim7 := { stood := { row := entryCanonRow, standIns := [], harness := (true, "8f5680fc5dcb57348eedc3ee5ca0dbf94dbbb32d45cb8911b2641c64c67db199"), looks := false }, kinds := [], alts := [], laidByText := true, laidKinds := [.data, .pinned], laidTests := true, laidLooks := .later }
def EntryCanonCardSaid : Prop := Claim7.holds Tryd.pinned (.plain (OpenSpec.ofChange entryCanonSpec)) entryCanonCard

/-- THE TIED CARD OF 'drayagelaw07.EntryOne'. -/
def entryOneCard : Claim7 := { stood := { row := entryOneRow, standIns := [], harness := (true, "8f5680fc5dcb57348eedc3ee5ca0dbf94dbbb32d45cb8911b2641c64c67db199"), looks := false }, kinds := [], alts := [], laidByText := true, laidKinds := [.data, .pinned], laidTests := true, laidLooks := .later }
def EntryOneCardSaid : Prop := Claim7.holds Tryd.pinned (.plain (OpenSpec.ofChange entryOneSpec)) entryOneCard

/-- THE TIED CARD OF 'drayagelaw07.EntryPaths'. -/
def entryPathsCard : Claim7 := { stood := { row := entryPathsRow, standIns := [], harness := (true, "8f5680fc5dcb57348eedc3ee5ca0dbf94dbbb32d45cb8911b2641c64c67db199"), looks := false }, kinds := [], alts := [], laidByText := true, laidKinds := [.data, .pinned], laidTests := true, laidLooks := .later }
def EntryPathsCardSaid : Prop := Claim7.holds Tryd.pinned (.plain (OpenSpec.ofChange entryPathsSpec)) entryPathsCard

/-- THE TIED CARD OF 'drayagelaw07.EntryKeeps'. -/
def entryKeepsCard : Claim7 := { stood := { row := entryKeepsRow, standIns := [], harness := (true, "8f5680fc5dcb57348eedc3ee5ca0dbf94dbbb32d45cb8911b2641c64c67db199"), looks := false }, kinds := [], alts := [], laidByText := true, laidKinds := [.data, .pinned], laidTests := true, laidLooks := .later }
def EntryKeepsCardSaid : Prop := Claim7.holds Tryd.pinned (.plain (OpenSpec.ofChange entryKeepsSpec)) entryKeepsCard

/-- THE SECOND FORM's CARD OF 'drayagelaw07.EntryChecks'. -/
def entryChecksUptoCard : Claim7 := { stood := { row := entryChecksUptoRow, standIns := [], harness := (true, "8f5680fc5dcb57348eedc3ee5ca0dbf94dbbb32d45cb8911b2641c64c67db199"), looks := false }, kinds := [], alts := [], laidByText := true, laidKinds := [.data, .pinned], laidTests := true, laidLooks := .later }
def EntryChecksUptoCardSaid : Prop := Claim7.holds Tryd.pinned (.plain (OpenSpec.upto entryChecksSpec)) entryChecksUptoCard

/-- THE SECOND FORM's CARD OF 'drayagelaw07.EntryLimits'. -/
def entryLimitsUptoCard : Claim7 := { stood := { row := entryLimitsUptoRow, standIns := [], harness := (true, "8f5680fc5dcb57348eedc3ee5ca0dbf94dbbb32d45cb8911b2641c64c67db199"), looks := false }, kinds := [], alts := [], laidByText := true, laidKinds := [.data, .pinned], laidTests := true, laidLooks := .later }
def EntryLimitsUptoCardSaid : Prop := Claim7.holds Tryd.pinned (.plain (OpenSpec.upto entryLimitsSpec)) entryLimitsUptoCard

/-- THE SECOND FORM's CARD OF 'drayagelaw07.EntryCanon'. -/
def entryCanonUptoCard : Claim7 := { stood := { row := entryCanonUptoRow, standIns := [], harness := (true, "8f5680fc5dcb57348eedc3ee5ca0dbf94dbbb32d45cb8911b2641c64c67db199"), looks := false }, kinds := [], alts := [], laidByText := true, laidKinds := [.data, .pinned], laidTests := true, laidLooks := .later }
def EntryCanonUptoCardSaid : Prop := Claim7.holds Tryd.pinned (.plain (OpenSpec.upto entryCanonSpec)) entryCanonUptoCard

/-- THE SECOND FORM's CARD OF 'drayagelaw07.EntryOne'. -/
def entryOneUptoCard : Claim7 := { stood := { row := entryOneUptoRow, standIns := [], harness := (true, "8f5680fc5dcb57348eedc3ee5ca0dbf94dbbb32d45cb8911b2641c64c67db199"), looks := false }, kinds := [], alts := [], laidByText := true, laidKinds := [.data, .pinned], laidTests := true, laidLooks := .later }
def EntryOneUptoCardSaid : Prop := Claim7.holds Tryd.pinned (.plain (OpenSpec.upto entryOneSpec)) entryOneUptoCard

/-- THE SECOND FORM's CARD OF 'drayagelaw07.EntryPaths'. -/
def entryPathsUptoCard : Claim7 := { stood := { row := entryPathsUptoRow, standIns := [], harness := (true, "8f5680fc5dcb57348eedc3ee5ca0dbf94dbbb32d45cb8911b2641c64c67db199"), looks := false }, kinds := [], alts := [], laidByText := true, laidKinds := [.data, .pinned], laidTests := true, laidLooks := .later }
def EntryPathsUptoCardSaid : Prop := Claim7.holds Tryd.pinned (.plain (OpenSpec.upto entryPathsSpec)) entryPathsUptoCard

/-- THE SECOND FORM's CARD OF 'drayagelaw07.EntryKeeps'. -/
def entryKeepsUptoCard : Claim7 := { stood := { row := entryKeepsUptoRow, standIns := [], harness := (true, "8f5680fc5dcb57348eedc3ee5ca0dbf94dbbb32d45cb8911b2641c64c67db199"), looks := false }, kinds := [], alts := [], laidByText := true, laidKinds := [.data, .pinned], laidTests := true, laidLooks := .later }
def EntryKeepsUptoCardSaid : Prop := Claim7.holds Tryd.pinned (.plain (OpenSpec.upto entryKeepsSpec)) entryKeepsUptoCard
end Rows
end Go.Proofs.YtjhikglgaoncjaaDoor
