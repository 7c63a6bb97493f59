/-
  DERIVED. GIVEN WITH THE SEED: THE CARDS: each row of YtdfpdmddiapnmaaDoorRows.lean that lists a variable, with what it lists TIED to the program's text (the seventh form; the later family's looks); each row that meets fmt, with fmt's text TOLD by the authors' own Lean function (tested against real Go, not proved from fmt's source: count such statements apart). THE CARD IS WHAT COUNTS. Prove the row's statement (the work); the ties are given (YtdfpdmddiapnmaaDoorTie.lean); close each card by the builder's one call (the guide's Derived/Test/ToyasCard.lean, 'card_holds'). Laid BY PROGRAM, IN A SANDBOX (cutbox-door.mjs). By AI agents, Wed Nov 11 2026. No macro, syntax, notation, axiom, sorry.
-/
import Derived.Test.YtdfpdmddiapnmaaDoorRows
import GoSem.ClaimSeven
namespace Go.Proofs.YtdfpdmddiapnmaaDoor
namespace Rows

/-- THE TIED CARD OF 'drayagelaw13.VmapTranslates'. -/
def vmapTranslatesCard : Claim7 := { stood := { row := vmapTranslatesRow, standIns := [], harness := (true, "8a8ee4d0a5547bda8a0e779347689320466410f987c689209e31250d9d5a860c"), looks := false }, kinds := [], alts := [], laidByText := true, laidKinds := [.data, .data, .data, .data, .data, .data, .pinned], laidTests := true, laidLooks := .later }
def VmapTranslatesCardSaid : Prop := Claim7.holds Tryd.pinned (.plain (OpenSpec.ofChange vmapTranslatesSpec)) vmapTranslatesCard

/-- THE TIED CARD OF 'drayagelaw13.VmapBack'. -/
def vmapBackCard : Claim7 := { stood := { row := vmapBackRow, standIns := [], harness := (true, "8a8ee4d0a5547bda8a0e779347689320466410f987c689209e31250d9d5a860c"), looks := false }, kinds := [], alts := [], laidByText := true, laidKinds := [.data, .data, .data, .data, .data, .data, .pinned], laidTests := true, laidLooks := .later }
def VmapBackCardSaid : Prop := Claim7.holds Tryd.pinned (.plain (OpenSpec.ofChange vmapBackSpec)) vmapBackCard

/-- THE TIED CARD OF 'drayagelaw13.VmapCompares'. -/
def vmapComparesCard : Claim7 := { stood := { row := vmapComparesRow, standIns := [], harness := (true, "8a8ee4d0a5547bda8a0e779347689320466410f987c689209e31250d9d5a860c"), looks := false }, kinds := [], alts := [], laidByText := true, laidKinds := [.data, .data, .data, .data, .data, .data, .pinned], laidTests := true, laidLooks := .later }
def VmapComparesCardSaid : Prop := Claim7.holds Tryd.pinned (.plain (OpenSpec.ofChange vmapComparesSpec)) vmapComparesCard

/-- THE TIED CARD OF 'drayagelaw13.VmapOrder'. -/
def vmapOrderCard : Claim7 := { stood := { row := vmapOrderRow, standIns := [], harness := (true, "8a8ee4d0a5547bda8a0e779347689320466410f987c689209e31250d9d5a860c"), looks := false }, kinds := [], alts := [], laidByText := true, laidKinds := [.data, .data, .data, .data, .data, .data, .pinned], laidTests := true, laidLooks := .later }
def VmapOrderCardSaid : Prop := Claim7.holds Tryd.pinned (.plain (OpenSpec.ofChange vmapOrderSpec)) vmapOrderCard

/-- THE SECOND FORM's CARD OF 'drayagelaw13.VmapTranslates'. -/
def vmapTranslatesUptoCard : Claim7 := { stood := { row := vmapTranslatesUptoRow, standIns := [], harness := (true, "8a8ee4d0a5547bda8a0e779347689320466410f987c689209e31250d9d5a860c"), looks := false }, kinds := [], alts := [], laidByText := true, laidKinds := [.data, .data, .data, .data, .data, .data, .pinned], laidTests := true, laidLooks := .later }
def VmapTranslatesUptoCardSaid : Prop := Claim7.holds Tryd.pinned (.plain (OpenSpec.upto vmapTranslatesSpec)) vmapTranslatesUptoCard

/-- THE SECOND FORM's CARD OF 'drayagelaw13.VmapBack'. -/
def vmapBackUptoCard : Claim7 := { stood := { row := vmapBackUptoRow, standIns := [], harness := (true, "8a8ee4d0a5547bda8a0e779347689320466410f987c689209e31250d9d5a860c"), looks := false }, kinds := [], alts := [], laidByText := true, laidKinds := [.data, .data, .data, .data, .data, .data, .pinned], laidTests := true, laidLooks := .later }
def VmapBackUptoCardSaid : Prop := Claim7.holds Tryd.pinned (.plain (OpenSpec.upto vmapBackSpec)) vmapBackUptoCard

/-- THE SECOND FORM's CARD OF 'drayagelaw13.VmapCompares'. -/
def vmapComparesUptoCard : Claim7 := { stood := { row := vmapComparesUptoRow, standIns := [], harness := (true, "8a8ee4d0a5547bda8a0e779347689320466410f987c689209e31250d9d5a860c"), looks := false }, kinds := [], alts := [], laidByText := true, laidKinds := [.data, .data, .data, .data, .data, .data, .pinned], laidTests := true, laidLooks := .later }
def VmapComparesUptoCardSaid : Prop := Claim7.holds Tryd.pinned (.plain (OpenSpec.upto vmapComparesSpec)) vmapComparesUptoCard

/-- THE SECOND FORM's CARD OF 'drayagelaw13.VmapOrder'. -/
def vmapOrderUptoCard : Claim7 := { stood := { row := vmapOrderUptoRow, standIns := [], harness := (true, "8a8ee4d0a5547bda8a0e779347689320466410f987c689209e31250d9d5a860c"), looks := false }, kinds := [], alts := [], laidByText := true, laidKinds := [.data, .data, .data, .data, .data, .data, .pinned], laidTests := true, laidLooks := .later }
def VmapOrderUptoCardSaid : Prop := Claim7.holds Tryd.pinned (.plain (OpenSpec.upto vmapOrderSpec)) vmapOrderUptoCard
end Rows
end Go.Proofs.YtdfpdmddiapnmaaDoor
