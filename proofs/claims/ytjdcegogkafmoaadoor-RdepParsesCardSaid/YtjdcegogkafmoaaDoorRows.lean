/-
  NARROWER THAN 'FOR EVERY INPUT', by the rows' own cells (each row's printed sentence says how): RdepParses: laid · RdepBack: loops, laid.
  DERIVED. THE GIVEN ROWS OF THIS SEAT. 2 by the template 'for every input the law returns true; each argument reads behind the call as it read before'; 0 by the template 'total and deterministic' (their statements: YtjdcegogkafmoaaDoorTotals.lean).
  GIVEN WITH THE SEED: the statements are not yours to turn. If you find one false, say at which input.
  Laid BY PROGRAM, IN A SANDBOX (cutbox-rows.mjs): the forced cells as the released guide's own fill.sh prints them over the translation 4d87ca71d0be7245… (all of the seat's roots in one cut). By AI agents, Wed Nov 11 2026. No macro, syntax, notation, axiom, sorry.
-/
import Derived.Test.YtjdcegogkafmoaaDoorChecked
import GoSem.Claim
import GoSem.ClaimJoined
import GoSem.ClaimMapViews
import Derived.JoinedTies
import Derived.KernelRfl
namespace Go.Proofs.YtjdcegogkafmoaaDoor
/- THE CELL 'sum', in the pinned program and in every row, IS THE sha256 OF THE DUMP (.gsa) THAT YtjdcegogkafmoaaDoorProg.lean LOADS. Nothing in Lean hashes anything: it is a label: what it is worth is what the hold of that sum in a sandbox is worth. -/
noncomputable def Tryd.pinned : Pinned := { name := "ytjdcegogkafmoaadoor", sum := "4d87ca71d0be7245084d70c0e3ccdcb1784b2ae15ae5b81c4d56a641a9b6e202", checked := Tryd.checked }
namespace Rows
def none {H : Type} : Left H := { results := [], args := [] }

/- WHAT THE LISTED PACKAGE-LEVEL VARIABLES READ AS WHEN THE CALL BEGINS. Each datum BY PROGRAM (the guide's laid-datum.mjs) off the statement by which the dump's own 'gosem.cut.vars' lays the variable. In a bare row this is a premise. The card (YtjdcegogkafmoaaDoorCards.lean) ties it to the program's text. -/
def laid_drayage_version_words {H : Type} : DataW H := .agg [.lit (.string [97, 108, 112, 104, 97]), .lit (.string [98, 101, 116, 97]), .lit (.string [112, 114, 101]), .lit (.string [114, 99]), .lit (.string [99, 118, 115]), .lit (.string [115, 118, 110]), .lit (.string [103, 105, 116]), .lit (.string [104, 103]), .lit (.string [112])]
def laid_drayage_rdep_signs {H : Type} : DataW H := .agg [.lit (.string []), .lit (.string [60]), .lit (.string [60, 61]), .lit (.string [61]), .lit (.string [62, 61]), .lit (.string [62])]
def laid_drayage_rdep_words {H : Type} : DataW H := .agg [.lit (.string [97, 110, 100]), .lit (.string [111, 114]), .lit (.string [105, 102]), .lit (.string [117, 110, 108, 101, 115, 115]), .lit (.string [119, 105, 116, 104]), .lit (.string [119, 105, 116, 104, 111, 117, 116])]

/-- 'drayagelaw15.RdepParses': WHATEVER THE INPUT: true; the input reads as it did. -/
def rdepParsesSpec : ChangeSpec := { name := "rdepParses", fn := fun _ => fun
  | [d] => { results := [.lit (.bool true)], args := [d] }
  | _ => none }
def rdepParsesRow : OpenClaim := { program := "ytjdcegogkafmoaadoor", sum := "4d87ca71d0be7245084d70c0e3ccdcb1784b2ae15ae5b81c4d56a641a9b6e202", func := "drayage/drayagelaw15.RdepParses", spec := "rdepParses", inPlace := ["internal/bytealg.IndexByteString", "internal/bytealg.IndexString"], unfollowed := true, recurses := true, named := ["drayage/rdep.words", "drayage/rdep.signs", "internal/bytealg.MaxLen", "drayage/version.words"], plainKeys := false, apart := false, laid := [("drayage/version.words", laid_drayage_version_words), ("drayage/rdep.signs", laid_drayage_rdep_signs), ("drayage/rdep.words", laid_drayage_rdep_words)] }
def RdepParsesSaid : Prop := rdepParsesRow.holds Tryd.pinned (OpenSpec.ofChange rdepParsesSpec)

/-- ITS FALSE NEIGHBOUR: 'it returns false'. Refute it at one input. -/
def rdepParsesWrong : ChangeSpec := { name := "rdepParses", fn := fun _ => fun
  | [d] => { results := [.lit (.bool false)], args := [d] }
  | _ => none }
def RdepParsesWrongFalsely : Prop := rdepParsesRow.holds Tryd.pinned (OpenSpec.ofChange rdepParsesWrong)

/-- 'drayagelaw15.RdepBack': WHATEVER THE INPUT: true; the input reads as it did. -/
def rdepBackSpec : ChangeSpec := { name := "rdepBack", fn := fun _ => fun
  | [d1, d2] => { results := [.lit (.bool true)], args := [d1, d2] }
  | _ => none }
def rdepBackRow : OpenClaim := { program := "ytjdcegogkafmoaadoor", sum := "4d87ca71d0be7245084d70c0e3ccdcb1784b2ae15ae5b81c4d56a641a9b6e202", func := "drayage/drayagelaw15.RdepBack", spec := "rdepBack", inPlace := ["internal/bytealg.IndexByteString", "internal/bytealg.IndexString"], unfollowed := true, recurses := true, named := ["drayage/rdep.words", "drayage/rdep.signs", "internal/bytealg.MaxLen", "drayage/version.words"], loops := true, plainKeys := false, apart := false, laid := [("drayage/version.words", laid_drayage_version_words), ("drayage/rdep.signs", laid_drayage_rdep_signs), ("drayage/rdep.words", laid_drayage_rdep_words)] }
def RdepBackSaid : Prop := rdepBackRow.holds Tryd.pinned (OpenSpec.ofChange rdepBackSpec)

/-- ITS FALSE NEIGHBOUR: 'it returns false'. Refute it at one input. -/
def rdepBackWrong : ChangeSpec := { name := "rdepBack", fn := fun _ => fun
  | [d1, d2] => { results := [.lit (.bool false)], args := [d1, d2] }
  | _ => none }
def RdepBackWrongFalsely : Prop := rdepBackRow.holds Tryd.pinned (OpenSpec.ofChange rdepBackWrong)

/- THE SECOND FORM. 'bulk': how many values and letters a reading holds, each counted each time it is reached (what is shared counts as often as it is met; a slice's spare places count too). A statement '..UptoSaid' is the law's where the arguments, and the package variables that the reading takes, are together of bulk at most 1048576: NARROWER than '..Said'. Prove '..Said' where nothing that the law and all that it calls make is longer than what came in: it says more and counts as full. Else prove '..UptoSaid'. A law counts once. -/
mutual
def uptoBulk {H : Type} : DataW H → Nat
  | .lit (.string bytes) => bytes.length + 1
  | .lit _ => 1
  | .nil => 1
  | .ptr d => uptoBulk d + 1
  | .slice elems spare => uptoBulkAll elems + uptoBulkAll spare + 1
  | .agg parts => uptoBulkAll parts + 1
  | .iface _ d => uptoBulk d + 1
  | .map entries => uptoBulkEntries entries + 1
  | .held _ => 1
def uptoBulkAll {H : Type} : List (DataW H) → Nat
  | [] => 0
  | d :: r => uptoBulk d + uptoBulkAll r
def uptoBulkEntries {H : Type} : List (Lit × DataW H) → Nat
  | [] => 0
  | x :: r => uptoBulkEntry x + uptoBulkEntries r
def uptoBulkEntry {H : Type} : Lit × DataW H → Nat
  | (.string bytes, d) => bytes.length + uptoBulk d + 1
  | (_, d) => uptoBulk d + 1
 end
def uptoSmall : (H : Type) → List (DataW H) → Bool := fun _ ds => decide (uptoBulkAll ds ≤ 1048576)
def OpenSpec.upto (s : _root_.Go.ChangeSpec) : _root_.Go.OpenSpec := { _root_.Go.OpenSpec.ofChange s with cond := some uptoSmall }

/-- 'drayagelaw15.RdepParses', WHERE WHAT IT READS IS OF BULK AT MOST 1048576: true; the input reads as it did. -/
def rdepParsesUptoRow : OpenClaim := { program := "ytjdcegogkafmoaadoor", sum := "4d87ca71d0be7245084d70c0e3ccdcb1784b2ae15ae5b81c4d56a641a9b6e202", func := "drayage/drayagelaw15.RdepParses", spec := "rdepParses", inPlace := ["internal/bytealg.IndexByteString", "internal/bytealg.IndexString"], unfollowed := true, recurses := true, named := ["drayage/rdep.words", "drayage/rdep.signs", "internal/bytealg.MaxLen", "drayage/version.words"], plainKeys := false, apart := false, laid := [("drayage/version.words", laid_drayage_version_words), ("drayage/rdep.signs", laid_drayage_rdep_signs), ("drayage/rdep.words", laid_drayage_rdep_words)], narrowed := true }
def RdepParsesUptoSaid : Prop := rdepParsesUptoRow.holds Tryd.pinned (OpenSpec.upto rdepParsesSpec)

/-- 'drayagelaw15.RdepBack', WHERE WHAT IT READS IS OF BULK AT MOST 1048576: true; the input reads as it did. -/
def rdepBackUptoRow : OpenClaim := { program := "ytjdcegogkafmoaadoor", sum := "4d87ca71d0be7245084d70c0e3ccdcb1784b2ae15ae5b81c4d56a641a9b6e202", func := "drayage/drayagelaw15.RdepBack", spec := "rdepBack", inPlace := ["internal/bytealg.IndexByteString", "internal/bytealg.IndexString"], unfollowed := true, recurses := true, named := ["drayage/rdep.words", "drayage/rdep.signs", "internal/bytealg.MaxLen", "drayage/version.words"], loops := true, plainKeys := false, apart := false, laid := [("drayage/version.words", laid_drayage_version_words), ("drayage/rdep.signs", laid_drayage_rdep_signs), ("drayage/rdep.words", laid_drayage_rdep_words)], narrowed := true }
def RdepBackUptoSaid : Prop := rdepBackUptoRow.holds Tryd.pinned (OpenSpec.upto rdepBackSpec)

end Rows
end Go.Proofs.YtjdcegogkafmoaaDoor
