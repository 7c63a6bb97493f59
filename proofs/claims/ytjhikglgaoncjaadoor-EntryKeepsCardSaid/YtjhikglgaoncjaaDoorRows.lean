/-
  NARROWER THAN 'FOR EVERY INPUT', by the rows' own cells (each row's printed sentence says how): EntryChecks: laid · EntryLimits: laid · EntryCanon: laid · EntryOne: laid · EntryPaths: laid · EntryKeeps: laid.
  DERIVED. THE GIVEN ROWS OF THIS SEAT. 6 by the template 'for every input the law returns true; each argument reads behind the call as it read before'; 0 by the template 'total and deterministic' (their statements: YtjhikglgaoncjaaDoorTotals.lean).
  GIVEN WITH THE SEED: the statements are not yours to turn. If you find one false, say at which input.
  Laid BY PROGRAM, IN A SANDBOX (cutbox-rows.mjs): the forced cells as the released guide's own fill.sh prints them over the translation 0128581b821e2d37… (all of the seat's roots in one cut). By AI agents, Wed Nov 11 2026. No macro, syntax, notation, axiom, sorry.
-/
import Derived.Test.YtjhikglgaoncjaaDoorChecked
import GoSem.PinnedTables
import GoSem.Claim
import GoSem.ClaimJoined
import GoSem.ClaimMapViews
import Derived.JoinedTies
import Derived.KernelRfl
namespace Go.Proofs.YtjhikglgaoncjaaDoor
/- THE CELL 'sum', in the pinned program and in every row, IS THE sha256 OF THE DUMP (.gsa) THAT YtjhikglgaoncjaaDoorProg.lean LOADS. Nothing in Lean hashes anything: it is a label: what it is worth is what the hold of that sum in a sandbox is worth. -/
noncomputable def Tryd.pinned : Pinned := { name := "ytjhikglgaoncjaadoor", sum := "0128581b821e2d37f1ed6d1fe4e7ade96f05de9a2d1eaa279d7f17c90a72e620", checked := Tryd.checked }
namespace Rows
def none {H : Type} : Left H := { results := [], args := [] }

/- WHAT THE LISTED PACKAGE-LEVEL VARIABLES READ AS WHEN THE CALL BEGINS. Each datum BY PROGRAM (the guide's laid-datum.mjs) off the statement by which the dump's own 'gosem.cut.vars' lays the variable. In a bare row this is a premise. The card (YtjhikglgaoncjaaDoorCards.lean) ties it to the program's text. -/
def laid_unicode_utf8_acceptRanges {H : Type} : DataW H := .agg [.agg [.lit (.int .u8 128), .lit (.int .u8 191)], .agg [.lit (.int .u8 160), .lit (.int .u8 191)], .agg [.lit (.int .u8 128), .lit (.int .u8 159)], .agg [.lit (.int .u8 144), .lit (.int .u8 191)], .agg [.lit (.int .u8 128), .lit (.int .u8 143)], .agg [.lit (.int .u8 0), .lit (.int .u8 0)], .agg [.lit (.int .u8 0), .lit (.int .u8 0)], .agg [.lit (.int .u8 0), .lit (.int .u8 0)], .agg [.lit (.int .u8 0), .lit (.int .u8 0)], .agg [.lit (.int .u8 0), .lit (.int .u8 0)], .agg [.lit (.int .u8 0), .lit (.int .u8 0)], .agg [.lit (.int .u8 0), .lit (.int .u8 0)], .agg [.lit (.int .u8 0), .lit (.int .u8 0)], .agg [.lit (.int .u8 0), .lit (.int .u8 0)], .agg [.lit (.int .u8 0), .lit (.int .u8 0)], .agg [.lit (.int .u8 0), .lit (.int .u8 0)]]
/-- One of Go's own tables, pinned by name: the form's constant. -/
def laid_unicode_utf8_first : DataW Unit := Go.Pinned.utf8First

/-- 'drayagelaw07.EntryChecks': WHATEVER THE INPUT: true; the input reads as it did. -/
def entryChecksSpec : ChangeSpec := { name := "entryChecks", fn := fun _ => fun
  | [d1, d2] => { results := [.lit (.bool true)], args := [d1, d2] }
  | _ => none }
def entryChecksRow : OpenClaim := { program := "ytjhikglgaoncjaadoor", sum := "0128581b821e2d37f1ed6d1fe4e7ade96f05de9a2d1eaa279d7f17c90a72e620", func := "drayage/drayagelaw07.EntryChecks", spec := "entryChecks", inPlace := ["internal/bytealg.IndexByteString", "internal/bytealg.IndexString", "internal/bytealg.CountString"], unfollowed := true, recurses := true, named := ["internal/bytealg.MaxLen", "unicode/utf8.first", "unicode/utf8.acceptRanges"], apart := false, laid := [("unicode/utf8.acceptRanges", laid_unicode_utf8_acceptRanges), ("unicode/utf8.first", laid_unicode_utf8_first)] }
def EntryChecksSaid : Prop := entryChecksRow.holds Tryd.pinned (OpenSpec.ofChange entryChecksSpec)

/-- ITS FALSE NEIGHBOUR: 'it returns false'. Refute it at one input. -/
def entryChecksWrong : ChangeSpec := { name := "entryChecks", fn := fun _ => fun
  | [d1, d2] => { results := [.lit (.bool false)], args := [d1, d2] }
  | _ => none }
def EntryChecksWrongFalsely : Prop := entryChecksRow.holds Tryd.pinned (OpenSpec.ofChange entryChecksWrong)

/-- 'drayagelaw07.EntryLimits': WHATEVER THE INPUT: true; the input reads as it did. -/
def entryLimitsSpec : ChangeSpec := { name := "entryLimits", fn := fun _ => fun
  | [d] => { results := [.lit (.bool true)], args := [d] }
  | _ => none }
def entryLimitsRow : OpenClaim := { program := "ytjhikglgaoncjaadoor", sum := "0128581b821e2d37f1ed6d1fe4e7ade96f05de9a2d1eaa279d7f17c90a72e620", func := "drayage/drayagelaw07.EntryLimits", spec := "entryLimits", inPlace := ["internal/bytealg.IndexByteString", "internal/bytealg.IndexString", "internal/bytealg.CountString"], unfollowed := true, recurses := true, named := ["internal/bytealg.MaxLen", "unicode/utf8.first", "unicode/utf8.acceptRanges"], apart := false, laid := [("unicode/utf8.acceptRanges", laid_unicode_utf8_acceptRanges), ("unicode/utf8.first", laid_unicode_utf8_first)] }
def EntryLimitsSaid : Prop := entryLimitsRow.holds Tryd.pinned (OpenSpec.ofChange entryLimitsSpec)

/-- ITS FALSE NEIGHBOUR: 'it returns false'. Refute it at one input. -/
def entryLimitsWrong : ChangeSpec := { name := "entryLimits", fn := fun _ => fun
  | [d] => { results := [.lit (.bool false)], args := [d] }
  | _ => none }
def EntryLimitsWrongFalsely : Prop := entryLimitsRow.holds Tryd.pinned (OpenSpec.ofChange entryLimitsWrong)

/-- 'drayagelaw07.EntryCanon': WHATEVER THE INPUT: true; the input reads as it did. -/
def entryCanonSpec : ChangeSpec := { name := "entryCanon", fn := fun _ => fun
  | [d] => { results := [.lit (.bool true)], args := [d] }
  | _ => none }
def entryCanonRow : OpenClaim := { program := "ytjhikglgaoncjaadoor", sum := "0128581b821e2d37f1ed6d1fe4e7ade96f05de9a2d1eaa279d7f17c90a72e620", func := "drayage/drayagelaw07.EntryCanon", spec := "entryCanon", inPlace := ["internal/bytealg.IndexByteString", "internal/bytealg.IndexString", "internal/bytealg.CountString"], unfollowed := true, recurses := true, named := ["internal/bytealg.MaxLen", "unicode/utf8.first", "unicode/utf8.acceptRanges"], apart := false, laid := [("unicode/utf8.acceptRanges", laid_unicode_utf8_acceptRanges), ("unicode/utf8.first", laid_unicode_utf8_first)] }
def EntryCanonSaid : Prop := entryCanonRow.holds Tryd.pinned (OpenSpec.ofChange entryCanonSpec)

/-- ITS FALSE NEIGHBOUR: 'it returns false'. Refute it at one input. -/
def entryCanonWrong : ChangeSpec := { name := "entryCanon", fn := fun _ => fun
  | [d] => { results := [.lit (.bool false)], args := [d] }
  | _ => none }
def EntryCanonWrongFalsely : Prop := entryCanonRow.holds Tryd.pinned (OpenSpec.ofChange entryCanonWrong)

/-- 'drayagelaw07.EntryOne': WHATEVER THE INPUT: true; the input reads as it did. -/
def entryOneSpec : ChangeSpec := { name := "entryOne", fn := fun _ => fun
  | [d1, d2] => { results := [.lit (.bool true)], args := [d1, d2] }
  | _ => none }
def entryOneRow : OpenClaim := { program := "ytjhikglgaoncjaadoor", sum := "0128581b821e2d37f1ed6d1fe4e7ade96f05de9a2d1eaa279d7f17c90a72e620", func := "drayage/drayagelaw07.EntryOne", spec := "entryOne", inPlace := ["internal/bytealg.IndexByteString", "internal/bytealg.IndexString", "internal/bytealg.CountString"], unfollowed := true, recurses := true, named := ["internal/bytealg.MaxLen", "unicode/utf8.first", "unicode/utf8.acceptRanges"], apart := false, laid := [("unicode/utf8.acceptRanges", laid_unicode_utf8_acceptRanges), ("unicode/utf8.first", laid_unicode_utf8_first)] }
def EntryOneSaid : Prop := entryOneRow.holds Tryd.pinned (OpenSpec.ofChange entryOneSpec)

/-- ITS FALSE NEIGHBOUR: 'it returns false'. Refute it at one input. -/
def entryOneWrong : ChangeSpec := { name := "entryOne", fn := fun _ => fun
  | [d1, d2] => { results := [.lit (.bool false)], args := [d1, d2] }
  | _ => none }
def EntryOneWrongFalsely : Prop := entryOneRow.holds Tryd.pinned (OpenSpec.ofChange entryOneWrong)

/-- 'drayagelaw07.EntryPaths': WHATEVER THE INPUT: true; the input reads as it did. -/
def entryPathsSpec : ChangeSpec := { name := "entryPaths", fn := fun _ => fun
  | [d] => { results := [.lit (.bool true)], args := [d] }
  | _ => none }
def entryPathsRow : OpenClaim := { program := "ytjhikglgaoncjaadoor", sum := "0128581b821e2d37f1ed6d1fe4e7ade96f05de9a2d1eaa279d7f17c90a72e620", func := "drayage/drayagelaw07.EntryPaths", spec := "entryPaths", inPlace := ["internal/bytealg.IndexByteString", "internal/bytealg.IndexString", "internal/bytealg.CountString"], unfollowed := true, recurses := true, named := ["internal/bytealg.MaxLen", "unicode/utf8.first", "unicode/utf8.acceptRanges"], apart := false, laid := [("unicode/utf8.acceptRanges", laid_unicode_utf8_acceptRanges), ("unicode/utf8.first", laid_unicode_utf8_first)] }
def EntryPathsSaid : Prop := entryPathsRow.holds Tryd.pinned (OpenSpec.ofChange entryPathsSpec)

/-- ITS FALSE NEIGHBOUR: 'it returns false'. Refute it at one input. -/
def entryPathsWrong : ChangeSpec := { name := "entryPaths", fn := fun _ => fun
  | [d] => { results := [.lit (.bool false)], args := [d] }
  | _ => none }
def EntryPathsWrongFalsely : Prop := entryPathsRow.holds Tryd.pinned (OpenSpec.ofChange entryPathsWrong)

/-- 'drayagelaw07.EntryKeeps': WHATEVER THE INPUT: true; the input reads as it did. -/
def entryKeepsSpec : ChangeSpec := { name := "entryKeeps", fn := fun _ => fun
  | [d1, d2] => { results := [.lit (.bool true)], args := [d1, d2] }
  | _ => none }
def entryKeepsRow : OpenClaim := { program := "ytjhikglgaoncjaadoor", sum := "0128581b821e2d37f1ed6d1fe4e7ade96f05de9a2d1eaa279d7f17c90a72e620", func := "drayage/drayagelaw07.EntryKeeps", spec := "entryKeeps", inPlace := ["internal/bytealg.IndexByteString", "internal/bytealg.IndexString", "internal/bytealg.CountString"], unfollowed := true, recurses := true, named := ["internal/bytealg.MaxLen", "unicode/utf8.first", "unicode/utf8.acceptRanges"], apart := false, laid := [("unicode/utf8.acceptRanges", laid_unicode_utf8_acceptRanges), ("unicode/utf8.first", laid_unicode_utf8_first)] }
def EntryKeepsSaid : Prop := entryKeepsRow.holds Tryd.pinned (OpenSpec.ofChange entryKeepsSpec)

/-- ITS FALSE NEIGHBOUR: 'it returns false'. Refute it at one input. -/
def entryKeepsWrong : ChangeSpec := { name := "entryKeeps", fn := fun _ => fun
  | [d1, d2] => { results := [.lit (.bool false)], args := [d1, d2] }
  | _ => none }
def EntryKeepsWrongFalsely : Prop := entryKeepsRow.holds Tryd.pinned (OpenSpec.ofChange entryKeepsWrong)

/- THE SECOND FORM. 'bulk': how many values and letters a reading holds, each counted each time it is reached (what is shared counts as often as it is met; a slice's spare places count too). A statement '..UptoSaid' is the law's where the arguments, and the package variables that the reading takes, are together of bulk at most 1048576: NARROWER than '..Said'. Prove '..Said' where nothing that the law and all that it calls make is longer than what came in: it says more and counts as full. Else prove '..UptoSaid'. A law counts once. -/
mutual
def uptoBulk {H : Type} : DataW H → Nat
  | .lit (.string bytes) => bytes.length + 1
  | .lit _ => 1
  | .nil => 1
  | .ptr d => uptoBulk d + 1
  | .slice elems spare => uptoBulkAll elems + uptoBulkAll spare + 1
  | .agg parts => uptoBulkAll parts + 1
  | .iface _ d => uptoBulk d + 1
  | .map entries => uptoBulkEntries entries + 1
  | .held _ => 1
def uptoBulkAll {H : Type} : List (DataW H) → Nat
  | [] => 0
  | d :: r => uptoBulk d + uptoBulkAll r
def uptoBulkEntries {H : Type} : List (Lit × DataW H) → Nat
  | [] => 0
  | x :: r => uptoBulkEntry x + uptoBulkEntries r
def uptoBulkEntry {H : Type} : Lit × DataW H → Nat
  | (.string bytes, d) => bytes.length + uptoBulk d + 1
  | (_, d) => uptoBulk d + 1
 end
def uptoSmall : (H : Type) → List (DataW H) → Bool := fun _ ds => decide (uptoBulkAll ds ≤ 1048576)
def OpenSpec.upto (s : _root_.Go.ChangeSpec) : _root_.Go.OpenSpec := { _root_.Go.OpenSpec.ofChange s with cond := some uptoSmall }

/-- 'drayagelaw07.EntryChecks', WHERE WHAT IT READS IS OF BULK AT MOST 1048576: true; the input reads as it did. -/
def entryChecksUptoRow : OpenClaim := { program := "ytjhikglgaoncjaadoor", sum := "0128581b821e2d37f1ed6d1fe4e7ade96f05de9a2d1eaa279d7f17c90a72e620", func := "drayage/drayagelaw07.EntryChecks", spec := "entryChecks", inPlace := ["internal/bytealg.IndexByteString", "internal/bytealg.IndexString", "internal/bytealg.CountString"], unfollowed := true, recurses := true, named := ["internal/bytealg.MaxLen", "unicode/utf8.first", "unicode/utf8.acceptRanges"], apart := false, laid := [("unicode/utf8.acceptRanges", laid_unicode_utf8_acceptRanges), ("unicode/utf8.first", laid_unicode_utf8_first)], narrowed := true }
def EntryChecksUptoSaid : Prop := entryChecksUptoRow.holds Tryd.pinned (OpenSpec.upto entryChecksSpec)

/-- 'drayagelaw07.EntryLimits', WHERE WHAT IT READS IS OF BULK AT MOST 1048576: true; the input reads as it did. -/
def entryLimitsUptoRow : OpenClaim := { program := "ytjhikglgaoncjaadoor", sum := "0128581b821e2d37f1ed6d1fe4e7ade96f05de9a2d1eaa279d7f17c90a72e620", func := "drayage/drayagelaw07.EntryLimits", spec := "entryLimits", inPlace := ["internal/bytealg.IndexByteString", "internal/bytealg.IndexString", "internal/bytealg.CountString"], unfollowed := true, recurses := true, named := ["internal/bytealg.MaxLen", "unicode/utf8.first", "unicode/utf8.acceptRanges"], apart := false, laid := [("unicode/utf8.acceptRanges", laid_unicode_utf8_acceptRanges), ("unicode/utf8.first", laid_unicode_utf8_first)], narrowed := true }
def EntryLimitsUptoSaid : Prop := entryLimitsUptoRow.holds Tryd.pinned (OpenSpec.upto entryLimitsSpec)

/-- 'drayagelaw07.EntryCanon', WHERE WHAT IT READS IS OF BULK AT MOST 1048576: true; the input reads as it did. -/
def entryCanonUptoRow : OpenClaim := { program := "ytjhikglgaoncjaadoor", sum := "0128581b821e2d37f1ed6d1fe4e7ade96f05de9a2d1eaa279d7f17c90a72e620", func := "drayage/drayagelaw07.EntryCanon", spec := "entryCanon", inPlace := ["internal/bytealg.IndexByteString", "internal/bytealg.IndexString", "internal/bytealg.CountString"], unfollowed := true, recurses := true, named := ["internal/bytealg.MaxLen", "unicode/utf8.first", "unicode/utf8.acceptRanges"], apart := false, laid := [("unicode/utf8.acceptRanges", laid_unicode_utf8_acceptRanges), ("unicode/utf8.first", laid_unicode_utf8_first)], narrowed := true }
def EntryCanonUptoSaid : Prop := entryCanonUptoRow.holds Tryd.pinned (OpenSpec.upto entryCanonSpec)

/-- 'drayagelaw07.EntryOne', WHERE WHAT IT READS IS OF BULK AT MOST 1048576: true; the input reads as it did. -/
def entryOneUptoRow : OpenClaim := { program := "ytjhikglgaoncjaadoor", sum := "0128581b821e2d37f1ed6d1fe4e7ade96f05de9a2d1eaa279d7f17c90a72e620", func := "drayage/drayagelaw07.EntryOne", spec := "entryOne", inPlace := ["internal/bytealg.IndexByteString", "internal/bytealg.IndexString", "internal/bytealg.CountString"], unfollowed := true, recurses := true, named := ["internal/bytealg.MaxLen", "unicode/utf8.first", "unicode/utf8.acceptRanges"], apart := false, laid := [("unicode/utf8.acceptRanges", laid_unicode_utf8_acceptRanges), ("unicode/utf8.first", laid_unicode_utf8_first)], narrowed := true }
def EntryOneUptoSaid : Prop := entryOneUptoRow.holds Tryd.pinned (OpenSpec.upto entryOneSpec)

/-- 'drayagelaw07.EntryPaths', WHERE WHAT IT READS IS OF BULK AT MOST 1048576: true; the input reads as it did. -/
def entryPathsUptoRow : OpenClaim := { program := "ytjhikglgaoncjaadoor", sum := "0128581b821e2d37f1ed6d1fe4e7ade96f05de9a2d1eaa279d7f17c90a72e620", func := "drayage/drayagelaw07.EntryPaths", spec := "entryPaths", inPlace := ["internal/bytealg.IndexByteString", "internal/bytealg.IndexString", "internal/bytealg.CountString"], unfollowed := true, recurses := true, named := ["internal/bytealg.MaxLen", "unicode/utf8.first", "unicode/utf8.acceptRanges"], apart := false, laid := [("unicode/utf8.acceptRanges", laid_unicode_utf8_acceptRanges), ("unicode/utf8.first", laid_unicode_utf8_first)], narrowed := true }
def EntryPathsUptoSaid : Prop := entryPathsUptoRow.holds Tryd.pinned (OpenSpec.upto entryPathsSpec)

/-- 'drayagelaw07.EntryKeeps', WHERE WHAT IT READS IS OF BULK AT MOST 1048576: true; the input reads as it did. -/
def entryKeepsUptoRow : OpenClaim := { program := "ytjhikglgaoncjaadoor", sum := "0128581b821e2d37f1ed6d1fe4e7ade96f05de9a2d1eaa279d7f17c90a72e620", func := "drayage/drayagelaw07.EntryKeeps", spec := "entryKeeps", inPlace := ["internal/bytealg.IndexByteString", "internal/bytealg.IndexString", "internal/bytealg.CountString"], unfollowed := true, recurses := true, named := ["internal/bytealg.MaxLen", "unicode/utf8.first", "unicode/utf8.acceptRanges"], apart := false, laid := [("unicode/utf8.acceptRanges", laid_unicode_utf8_acceptRanges), ("unicode/utf8.first", laid_unicode_utf8_first)], narrowed := true }
def EntryKeepsUptoSaid : Prop := entryKeepsUptoRow.holds Tryd.pinned (OpenSpec.upto entryKeepsSpec)

end Rows
end Go.Proofs.YtjhikglgaoncjaaDoor
