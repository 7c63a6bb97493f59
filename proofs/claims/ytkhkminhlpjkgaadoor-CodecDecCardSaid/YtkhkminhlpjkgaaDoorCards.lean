/-
  DERIVED. GIVEN WITH THE SEED: THE CARDS: each row of YtkhkminhlpjkgaaDoorRows.lean that lists a variable, with what it lists TIED to the program's text (the seventh form; the later family's looks); each row that meets fmt, with fmt's text TOLD by the authors' own Lean function (tested against real Go, not proved from fmt's source: count such statements apart). THE CARD IS WHAT COUNTS. Prove the row's statement (the work); the ties are given (YtkhkminhlpjkgaaDoorTie.lean); close each card by the builder's one call (the guide's Derived/Test/ToyasCard.lean, 'card_holds'). Laid BY PROGRAM, IN A SANDBOX (cutbox-door.mjs). By AI agents, Wed Nov 11 2026. No macro, syntax, notation, axiom, sorry.
-/
import Derived.Test.YtkhkminhlpjkgaaDoorRows
import GoSem.ClaimSeven
namespace Go.Proofs.YtkhkminhlpjkgaaDoor
namespace Rows

/-- THE TIED CARD OF 'drayagelaw01.CodecHex'. -/
def codecHexCard : Claim7 := { stood := { row := codecHexRow, standIns := [], harness := (true, "7ec3dd9e6ffb77c03afc0dfde31a2061d0288a7d264f319db7e54f3d8c6a8633"), looks := false }, kinds := [], alts := [], laidByText := true, laidKinds := [.data, .pinned], laidTests := true, laidLooks := .later }
def CodecHexCardSaid : Prop := Claim7.holds Tryd.pinned (.plain (OpenSpec.ofChange codecHexSpec)) codecHexCard

/-- THE TIED CARD OF 'drayagelaw01.CodecBase64'. -/
def codecBase64Card : Claim7 := { stood := { row := codecBase64Row, standIns := [], harness := (true, "7ec3dd9e6ffb77c03afc0dfde31a2061d0288a7d264f319db7e54f3d8c6a8633"), looks := false }, kinds := [], alts := [], laidByText := true, laidKinds := [.data, .pinned], laidTests := true, laidLooks := .later }
def CodecBase64CardSaid : Prop := Claim7.holds Tryd.pinned (.plain (OpenSpec.ofChange codecBase64Spec)) codecBase64Card

/-- THE TIED CARD OF 'drayagelaw01.CodecKeeps'. -/
def codecKeepsCard : Claim7 := { stood := { row := codecKeepsRow, standIns := [], harness := (true, "7ec3dd9e6ffb77c03afc0dfde31a2061d0288a7d264f319db7e54f3d8c6a8633"), looks := false }, kinds := [], alts := [], laidByText := true, laidKinds := [.data, .pinned], laidTests := true, laidLooks := .later }
def CodecKeepsCardSaid : Prop := Claim7.holds Tryd.pinned (.plain (OpenSpec.ofChange codecKeepsSpec)) codecKeepsCard

/-- THE TIED CARD OF 'drayagelaw01.CodecHex8'. -/
def codecHex8Card : Claim7 := { stood := { row := codecHex8Row, standIns := [], harness := (true, "7ec3dd9e6ffb77c03afc0dfde31a2061d0288a7d264f319db7e54f3d8c6a8633"), looks := false }, kinds := [], alts := [], laidByText := true, laidKinds := [.data, .pinned], laidTests := true, laidLooks := .later }
def CodecHex8CardSaid : Prop := Claim7.holds Tryd.pinned (.plain (OpenSpec.ofChange codecHex8Spec)) codecHex8Card

/-- THE TIED CARD OF 'drayagelaw01.CodecBytes'. -/
def codecBytesCard : Claim7 := { stood := { row := codecBytesRow, standIns := [], harness := (true, "7ec3dd9e6ffb77c03afc0dfde31a2061d0288a7d264f319db7e54f3d8c6a8633"), looks := false }, kinds := [], alts := [], laidByText := true, laidKinds := [.data, .pinned], laidTests := true, laidLooks := .later }
def CodecBytesCardSaid : Prop := Claim7.holds Tryd.pinned (.plain (OpenSpec.ofChange codecBytesSpec)) codecBytesCard

/-- THE TIED CARD OF 'drayagelaw01.CodecDec'. -/
def codecDecCard : Claim7 := { stood := { row := codecDecRow, standIns := [], harness := (true, "7ec3dd9e6ffb77c03afc0dfde31a2061d0288a7d264f319db7e54f3d8c6a8633"), looks := false }, kinds := [], alts := [], laidByText := true, laidKinds := [.data, .data, .data, .data, .pinned], laidTests := true, laidLooks := .later }
def CodecDecCardSaid : Prop := Claim7.holds Tryd.pinned (.plain (OpenSpec.ofChange codecDecSpec)) codecDecCard

/-- THE SECOND FORM's CARD OF 'drayagelaw01.CodecHex'. -/
def codecHexUptoCard : Claim7 := { stood := { row := codecHexUptoRow, standIns := [], harness := (true, "7ec3dd9e6ffb77c03afc0dfde31a2061d0288a7d264f319db7e54f3d8c6a8633"), looks := false }, kinds := [], alts := [], laidByText := true, laidKinds := [.data, .pinned], laidTests := true, laidLooks := .later }
def CodecHexUptoCardSaid : Prop := Claim7.holds Tryd.pinned (.plain (OpenSpec.upto codecHexSpec)) codecHexUptoCard

/-- THE SECOND FORM's CARD OF 'drayagelaw01.CodecBase64'. -/
def codecBase64UptoCard : Claim7 := { stood := { row := codecBase64UptoRow, standIns := [], harness := (true, "7ec3dd9e6ffb77c03afc0dfde31a2061d0288a7d264f319db7e54f3d8c6a8633"), looks := false }, kinds := [], alts := [], laidByText := true, laidKinds := [.data, .pinned], laidTests := true, laidLooks := .later }
def CodecBase64UptoCardSaid : Prop := Claim7.holds Tryd.pinned (.plain (OpenSpec.upto codecBase64Spec)) codecBase64UptoCard

/-- THE SECOND FORM's CARD OF 'drayagelaw01.CodecKeeps'. -/
def codecKeepsUptoCard : Claim7 := { stood := { row := codecKeepsUptoRow, standIns := [], harness := (true, "7ec3dd9e6ffb77c03afc0dfde31a2061d0288a7d264f319db7e54f3d8c6a8633"), looks := false }, kinds := [], alts := [], laidByText := true, laidKinds := [.data, .pinned], laidTests := true, laidLooks := .later }
def CodecKeepsUptoCardSaid : Prop := Claim7.holds Tryd.pinned (.plain (OpenSpec.upto codecKeepsSpec)) codecKeepsUptoCard

/-- THE SECOND FORM's CARD OF 'drayagelaw01.CodecHex8'. -/
def codecHex8UptoCard : Claim7 := { stood := { row := codecHex8UptoRow, standIns := [], harness := (true, "7ec3dd9e6ffb77c03afc0dfde31a2061d0288a7d264f319db7e54f3d8c6a8633"), looks := false }, kinds := [], alts := [], laidByText := true, laidKinds := [.data, .pinned], laidTests := true, laidLooks := .later }
def CodecHex8UptoCardSaid : Prop := Claim7.holds Tryd.pinned (.plain (OpenSpec.upto codecHex8Spec)) codecHex8UptoCard

/-- THE SECOND FORM's CARD OF 'drayagelaw01.CodecBytes'. -/
def codecBytesUptoCard : Claim7 := { stood := { row := codecBytesUptoRow, standIns := [], harness := (true, "7ec3dd9e6ffb77c03afc0dfde31a2061d0288a7d264f319db7e54f3d8c6a8633"), looks := false }, kinds := [], alts := [], laidByText := true, laidKinds := [.data, .pinned], laidTests := true, laidLooks := .later }
def CodecBytesUptoCardSaid : Prop := Claim7.holds Tryd.pinned (.plain (OpenSpec.upto codecBytesSpec)) codecBytesUptoCard

/-- THE SECOND FORM's CARD OF 'drayagelaw01.CodecDec'. -/
def codecDecUptoCard : Claim7 := { stood := { row := codecDecUptoRow, standIns := [], harness := (true, "7ec3dd9e6ffb77c03afc0dfde31a2061d0288a7d264f319db7e54f3d8c6a8633"), looks := false }, kinds := [], alts := [], laidByText := true, laidKinds := [.data, .data, .data, .data, .pinned], laidTests := true, laidLooks := .later }
def CodecDecUptoCardSaid : Prop := Claim7.holds Tryd.pinned (.plain (OpenSpec.upto codecDecSpec)) codecDecUptoCard
end Rows
end Go.Proofs.YtkhkminhlpjkgaaDoor
