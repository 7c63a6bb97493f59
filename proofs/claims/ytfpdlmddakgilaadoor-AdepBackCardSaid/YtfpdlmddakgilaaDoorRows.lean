/-
  NARROWER THAN 'FOR EVERY INPUT', by the rows' own cells (each row's printed sentence says how): AdepParses: laid · AdepBack: laid.
  DERIVED. THE GIVEN ROWS OF THIS SEAT. 2 by the template 'for every input the law returns true; each argument reads behind the call as it read before'; 0 by the template 'total and deterministic' (their statements: YtfpdlmddakgilaaDoorTotals.lean).
  GIVEN WITH THE SEED: the statements are not yours to turn. If you find one false, say at which input.
  Laid BY PROGRAM, IN A SANDBOX (cutbox-rows.mjs): the forced cells as the released guide's own fill.sh prints them over the translation fe3f3c5ef1641dfd… (all of the seat's roots in one cut). By AI agents, Wed Nov 11 2026. No macro, syntax, notation, axiom, sorry.
-/
import Derived.Test.YtfpdlmddakgilaaDoorChecked
import GoSem.Claim
import GoSem.ClaimJoined
import GoSem.ClaimMapViews
import Derived.JoinedTies
import Derived.KernelRfl
namespace Go.Proofs.YtfpdlmddakgilaaDoor
/- THE CELL 'sum', in the pinned program and in every row, IS THE sha256 OF THE DUMP (.gsa) THAT YtfpdlmddakgilaaDoorProg.lean LOADS. Nothing in Lean hashes anything: it is a label: what it is worth is what the hold of that sum in a sandbox is worth. -/
noncomputable def Tryd.pinned : Pinned := { name := "ytfpdlmddakgilaadoor", sum := "fe3f3c5ef1641dfd221fcf1e60ee11d693cc7bc45cc4a53a41bb3e84185c5ae9", checked := Tryd.checked }
namespace Rows
def none {H : Type} : Left H := { results := [], args := [] }

/- WHAT THE LISTED PACKAGE-LEVEL VARIABLES READ AS WHEN THE CALL BEGINS. Each datum BY PROGRAM (the guide's laid-datum.mjs) off the statement by which the dump's own 'gosem.cut.vars' lays the variable. In a bare row this is a premise. The card (YtfpdlmddakgilaaDoorCards.lean) ties it to the program's text. -/
def laid_errors_errorType {H : Type} : DataW H := .iface "internal/reflectlite.rtype" (.agg [.ptr (.lit (.string [101, 114, 114, 111, 114]))])
def laid_drayage_version_words {H : Type} : DataW H := .agg [.lit (.string [97, 108, 112, 104, 97]), .lit (.string [98, 101, 116, 97]), .lit (.string [112, 114, 101]), .lit (.string [114, 99]), .lit (.string [99, 118, 115]), .lit (.string [115, 118, 110]), .lit (.string [103, 105, 116]), .lit (.string [104, 103]), .lit (.string [112])]
def laid_drayage_adep_signs {H : Type} : DataW H := .agg [.lit (.string []), .lit (.string [60]), .lit (.string [60, 61]), .lit (.string [61]), .lit (.string [62, 61]), .lit (.string [62]), .lit (.string [126])]

/-- 'drayagelaw16.AdepParses': WHATEVER THE INPUT: true; the input reads as it did. -/
def adepParsesSpec : ChangeSpec := { name := "adepParses", fn := fun _ => fun
  | [d] => { results := [.lit (.bool true)], args := [d] }
  | _ => none }
def adepParsesRow : OpenClaim := { program := "ytfpdlmddakgilaadoor", sum := "fe3f3c5ef1641dfd221fcf1e60ee11d693cc7bc45cc4a53a41bb3e84185c5ae9", func := "drayage/drayagelaw16.AdepParses", spec := "adepParses", inPlace := ["internal/bytealg.IndexByteString", "internal/bytealg.IndexString", "internal/reflectlite.ValueOf", "(internal/reflectlite.Value).Type", "(internal/reflectlite.Value).IsNil", "internal/reflectlite.TypeOf", "(internal/reflectlite.Value).Elem", "(internal/reflectlite.Value).Set", "internal/abi.NoEscape", "internal/bytealg.MakeNoZero"], unfollowed := true, recurses := true, named := ["internal/bytealg.MaxLen", "drayage/adep.signs", "drayage/version.words", "errors.errorType"], apart := false, laid := [("errors.errorType", laid_errors_errorType), ("drayage/version.words", laid_drayage_version_words), ("drayage/adep.signs", laid_drayage_adep_signs)] }
def AdepParsesSaid : Prop := adepParsesRow.holds Tryd.pinned (OpenSpec.ofChange adepParsesSpec)

/-- ITS FALSE NEIGHBOUR: 'it returns false'. Refute it at one input. -/
def adepParsesWrong : ChangeSpec := { name := "adepParses", fn := fun _ => fun
  | [d] => { results := [.lit (.bool false)], args := [d] }
  | _ => none }
def AdepParsesWrongFalsely : Prop := adepParsesRow.holds Tryd.pinned (OpenSpec.ofChange adepParsesWrong)

/-- 'drayagelaw16.AdepBack': WHATEVER THE INPUT: true; the input reads as it did. -/
def adepBackSpec : ChangeSpec := { name := "adepBack", fn := fun _ => fun
  | [d1, d2] => { results := [.lit (.bool true)], args := [d1, d2] }
  | _ => none }
def adepBackRow : OpenClaim := { program := "ytfpdlmddakgilaadoor", sum := "fe3f3c5ef1641dfd221fcf1e60ee11d693cc7bc45cc4a53a41bb3e84185c5ae9", func := "drayage/drayagelaw16.AdepBack", spec := "adepBack", inPlace := ["internal/bytealg.IndexByteString", "internal/bytealg.IndexString", "internal/reflectlite.ValueOf", "(internal/reflectlite.Value).Type", "(internal/reflectlite.Value).IsNil", "internal/reflectlite.TypeOf", "(internal/reflectlite.Value).Elem", "(internal/reflectlite.Value).Set", "internal/abi.NoEscape", "internal/bytealg.MakeNoZero"], unfollowed := true, recurses := true, named := ["internal/bytealg.MaxLen", "drayage/adep.signs", "drayage/version.words", "errors.errorType"], apart := false, laid := [("errors.errorType", laid_errors_errorType), ("drayage/version.words", laid_drayage_version_words), ("drayage/adep.signs", laid_drayage_adep_signs)] }
def AdepBackSaid : Prop := adepBackRow.holds Tryd.pinned (OpenSpec.ofChange adepBackSpec)

/-- ITS FALSE NEIGHBOUR: 'it returns false'. Refute it at one input. -/
def adepBackWrong : ChangeSpec := { name := "adepBack", fn := fun _ => fun
  | [d1, d2] => { results := [.lit (.bool false)], args := [d1, d2] }
  | _ => none }
def AdepBackWrongFalsely : Prop := adepBackRow.holds Tryd.pinned (OpenSpec.ofChange adepBackWrong)

/- THE SECOND FORM. 'bulk': how many values and letters a reading holds, each counted each time it is reached (what is shared counts as often as it is met; a slice's spare places count too). A statement '..UptoSaid' is the law's where the arguments, and the package variables that the reading takes, are together of bulk at most 1048576: NARROWER than '..Said'. Prove '..Said' where nothing that the law and all that it calls make is longer than what came in: it says more and counts as full. Else prove '..UptoSaid'. A law counts once. -/
mutual
def uptoBulk {H : Type} : DataW H → Nat
  | .lit (.string bytes) => bytes.length + 1
  | .lit _ => 1
  | .nil => 1
  | .ptr d => uptoBulk d + 1
  | .slice elems spare => uptoBulkAll elems + uptoBulkAll spare + 1
  | .agg parts => uptoBulkAll parts + 1
  | .iface _ d => uptoBulk d + 1
  | .map entries => uptoBulkEntries entries + 1
  | .held _ => 1
def uptoBulkAll {H : Type} : List (DataW H) → Nat
  | [] => 0
  | d :: r => uptoBulk d + uptoBulkAll r
def uptoBulkEntries {H : Type} : List (Lit × DataW H) → Nat
  | [] => 0
  | x :: r => uptoBulkEntry x + uptoBulkEntries r
def uptoBulkEntry {H : Type} : Lit × DataW H → Nat
  | (.string bytes, d) => bytes.length + uptoBulk d + 1
  | (_, d) => uptoBulk d + 1
 end
def uptoSmall : (H : Type) → List (DataW H) → Bool := fun _ ds => decide (uptoBulkAll ds ≤ 1048576)
def OpenSpec.upto (s : _root_.Go.ChangeSpec) : _root_.Go.OpenSpec := { _root_.Go.OpenSpec.ofChange s with cond := some uptoSmall }

/-- 'drayagelaw16.AdepParses', WHERE WHAT IT READS IS OF BULK AT MOST 1048576: true; the input reads as it did. -/
def adepParsesUptoRow : OpenClaim := { program := "ytfpdlmddakgilaadoor", sum := "fe3f3c5ef1641dfd221fcf1e60ee11d693cc7bc45cc4a53a41bb3e84185c5ae9", func := "drayage/drayagelaw16.AdepParses", spec := "adepParses", inPlace := ["internal/bytealg.IndexByteString", "internal/bytealg.IndexString", "internal/reflectlite.ValueOf", "(internal/reflectlite.Value).Type", "(internal/reflectlite.Value).IsNil", "internal/reflectlite.TypeOf", "(internal/reflectlite.Value).Elem", "(internal/reflectlite.Value).Set", "internal/abi.NoEscape", "internal/bytealg.MakeNoZero"], unfollowed := true, recurses := true, named := ["internal/bytealg.MaxLen", "drayage/adep.signs", "drayage/version.words", "errors.errorType"], apart := false, laid := [("errors.errorType", laid_errors_errorType), ("drayage/version.words", laid_drayage_version_words), ("drayage/adep.signs", laid_drayage_adep_signs)], narrowed := true }
def AdepParsesUptoSaid : Prop := adepParsesUptoRow.holds Tryd.pinned (OpenSpec.upto adepParsesSpec)

/-- 'drayagelaw16.AdepBack', WHERE WHAT IT READS IS OF BULK AT MOST 1048576: true; the input reads as it did. -/
def adepBackUptoRow : OpenClaim := { program := "ytfpdlmddakgilaadoor", sum := "fe3f3c5ef1641dfd221fcf1e60ee11d693cc7bc45cc4a53a41bb3e84185c5ae9", func := "drayage/drayagelaw16.AdepBack", spec := "adepBack", inPlace := ["internal/bytealg.IndexByteString", "internal/bytealg.IndexString", "internal/reflectlite.ValueOf", "(internal/reflectlite.Value).Type", "(internal/reflectlite.Value).IsNil", "internal/reflectlite.TypeOf", "(internal/reflectlite.Value).Elem", "(internal/reflectlite.Value).Set", "internal/abi.NoEscape", "internal/bytealg.MakeNoZero"], unfollowed := true, recurses := true, named := ["internal/bytealg.MaxLen", "drayage/adep.signs", "drayage/version.words", "errors.errorType"], apart := false, laid := [("errors.errorType", laid_errors_errorType), ("drayage/version.words", laid_drayage_version_words), ("drayage/adep.signs", laid_drayage_adep_signs)], narrowed := true }
def AdepBackUptoSaid : Prop := adepBackUptoRow.holds Tryd.pinned (OpenSpec.upto adepBackSpec)

end Rows
end Go.Proofs.YtfpdlmddakgilaaDoor
