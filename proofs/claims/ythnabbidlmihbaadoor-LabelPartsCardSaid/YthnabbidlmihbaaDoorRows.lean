/-
  NARROWER THAN 'FOR EVERY INPUT', by the rows' own cells (each row's printed sentence says how): LabelFolds: laid · LabelParts: laid.
  DERIVED. THE GIVEN ROWS OF THIS SEAT. 2 by the template 'for every input the law returns true; each argument reads behind the call as it read before'; 0 by the template 'total and deterministic' (their statements: YthnabbidlmihbaaDoorTotals.lean).
  GIVEN WITH THE SEED: the statements are not yours to turn. If you find one false, say at which input.
  Laid BY PROGRAM, IN A SANDBOX (cutbox-rows.mjs): the forced cells as the released guide's own fill.sh prints them over the translation 350e4e1a18ac76df… (all of the seat's roots in one cut). By AI agents, Wed Nov 11 2026. No macro, syntax, notation, axiom, sorry.
-/
import Derived.Test.YthnabbidlmihbaaDoorChecked
import GoSem.Claim
import GoSem.ClaimJoined
import GoSem.ClaimMapViews
import Derived.JoinedTies
import Derived.KernelRfl
namespace Go.Proofs.YthnabbidlmihbaaDoor
/- THE CELL 'sum', in the pinned program and in every row, IS THE sha256 OF THE DUMP (.gsa) THAT YthnabbidlmihbaaDoorProg.lean LOADS. Nothing in Lean hashes anything: it is a label: what it is worth is what the hold of that sum in a sandbox is worth. -/
noncomputable def Tryd.pinned : Pinned := { name := "ythnabbidlmihbaadoor", sum := "350e4e1a18ac76df4feda8a70c7ffb6303f6da220a940ee0326b7c52d60b6d3b", checked := Tryd.checked }
namespace Rows
def none {H : Type} : Left H := { results := [], args := [] }

/- WHAT THE LISTED PACKAGE-LEVEL VARIABLES READ AS WHEN THE CALL BEGINS. Each datum BY PROGRAM (the guide's laid-datum.mjs) off the statement by which the dump's own 'gosem.cut.vars' lays the variable. In a bare row this is a premise. The card (YthnabbidlmihbaaDoorCards.lean) ties it to the program's text. -/
def laid_errors_errorType {H : Type} : DataW H := .iface "internal/reflectlite.rtype" (.agg [.ptr (.lit (.string [101, 114, 114, 111, 114]))])

/-- 'gatepostlaw06.LabelFolds': WHATEVER THE INPUT: true; the input reads as it did. -/
def labelFoldsSpec : ChangeSpec := { name := "labelFolds", fn := fun _ => fun
  | [d] => { results := [.lit (.bool true)], args := [d] }
  | _ => none }
def labelFoldsRow : OpenClaim := { program := "ythnabbidlmihbaadoor", sum := "350e4e1a18ac76df4feda8a70c7ffb6303f6da220a940ee0326b7c52d60b6d3b", func := "gatepost/gatepostlaw06.LabelFolds", spec := "labelFolds", inPlace := ["internal/bytealg.IndexByteString", "slices.overlaps[rune]", "internal/abi.NoEscape", "internal/bytealg.MakeNoZero", "internal/reflectlite.TypeOf", "internal/reflectlite.ValueOf", "(internal/reflectlite.Value).Type", "(internal/reflectlite.Value).IsNil", "(internal/reflectlite.Value).Elem", "(internal/reflectlite.Value).Set"], unfollowed := true, recurses := true, named := ["errors.errorType"], apart := false, laid := [("errors.errorType", laid_errors_errorType)] }
def LabelFoldsSaid : Prop := labelFoldsRow.holds Tryd.pinned (OpenSpec.ofChange labelFoldsSpec)

/-- ITS FALSE NEIGHBOUR: 'it returns false'. Refute it at one input. -/
def labelFoldsWrong : ChangeSpec := { name := "labelFolds", fn := fun _ => fun
  | [d] => { results := [.lit (.bool false)], args := [d] }
  | _ => none }
def LabelFoldsWrongFalsely : Prop := labelFoldsRow.holds Tryd.pinned (OpenSpec.ofChange labelFoldsWrong)

/-- 'gatepostlaw06.LabelParts': WHATEVER THE INPUT: true; the input reads as it did. -/
def labelPartsSpec : ChangeSpec := { name := "labelParts", fn := fun _ => fun
  | [d1, d2] => { results := [.lit (.bool true)], args := [d1, d2] }
  | _ => none }
def labelPartsRow : OpenClaim := { program := "ythnabbidlmihbaadoor", sum := "350e4e1a18ac76df4feda8a70c7ffb6303f6da220a940ee0326b7c52d60b6d3b", func := "gatepost/gatepostlaw06.LabelParts", spec := "labelParts", inPlace := ["internal/bytealg.IndexByteString", "slices.overlaps[rune]", "internal/abi.NoEscape", "internal/bytealg.MakeNoZero", "internal/reflectlite.TypeOf", "internal/reflectlite.ValueOf", "(internal/reflectlite.Value).Type", "(internal/reflectlite.Value).IsNil", "(internal/reflectlite.Value).Elem", "(internal/reflectlite.Value).Set"], unfollowed := true, recurses := true, named := ["errors.errorType"], apart := false, laid := [("errors.errorType", laid_errors_errorType)] }
def LabelPartsSaid : Prop := labelPartsRow.holds Tryd.pinned (OpenSpec.ofChange labelPartsSpec)

/-- ITS FALSE NEIGHBOUR: 'it returns false'. Refute it at one input. -/
def labelPartsWrong : ChangeSpec := { name := "labelParts", fn := fun _ => fun
  | [d1, d2] => { results := [.lit (.bool false)], args := [d1, d2] }
  | _ => none }
def LabelPartsWrongFalsely : Prop := labelPartsRow.holds Tryd.pinned (OpenSpec.ofChange labelPartsWrong)

/- THE SECOND FORM. 'bulk': how many values and letters a reading holds, each counted each time it is reached (what is shared counts as often as it is met; a slice's spare places count too). A statement '..UptoSaid' is the law's where the arguments, and the package variables that the reading takes, are together of bulk at most 1048576: NARROWER than '..Said'. Prove '..Said' where nothing that the law and all that it calls make is longer than what came in: it says more and counts as full. Else prove '..UptoSaid'. A law counts once. -/
mutual
def uptoBulk {H : Type} : DataW H → Nat
  | .lit (.string bytes) => bytes.length + 1
  | .lit _ => 1
  | .nil => 1
  | .ptr d => uptoBulk d + 1
  | .slice elems spare => uptoBulkAll elems + uptoBulkAll spare + 1
  | .agg parts => uptoBulkAll parts + 1
  | .iface _ d => uptoBulk d + 1
  | .map entries => uptoBulkEntries entries + 1
  | .held _ => 1
def uptoBulkAll {H : Type} : List (DataW H) → Nat
  | [] => 0
  | d :: r => uptoBulk d + uptoBulkAll r
def uptoBulkEntries {H : Type} : List (Lit × DataW H) → Nat
  | [] => 0
  | x :: r => uptoBulkEntry x + uptoBulkEntries r
def uptoBulkEntry {H : Type} : Lit × DataW H → Nat
  | (.string bytes, d) => bytes.length + uptoBulk d + 1
  | (_, d) => uptoBulk d + 1
 end
def uptoSmall : (H : Type) → List (DataW H) → Bool := fun _ ds => decide (uptoBulkAll ds ≤ 1048576)
def OpenSpec.upto (s : _root_.Go.ChangeSpec) : _root_.Go.OpenSpec := { _root_.Go.OpenSpec.ofChange s with cond := some uptoSmall }

/-- 'gatepostlaw06.LabelFolds', WHERE WHAT IT READS IS OF BULK AT MOST 1048576: true; the input reads as it did. -/
def labelFoldsUptoRow : OpenClaim := { program := "ythnabbidlmihbaadoor", sum := "350e4e1a18ac76df4feda8a70c7ffb6303f6da220a940ee0326b7c52d60b6d3b", func := "gatepost/gatepostlaw06.LabelFolds", spec := "labelFolds", inPlace := ["internal/bytealg.IndexByteString", "slices.overlaps[rune]", "internal/abi.NoEscape", "internal/bytealg.MakeNoZero", "internal/reflectlite.TypeOf", "internal/reflectlite.ValueOf", "(internal/reflectlite.Value).Type", "(internal/reflectlite.Value).IsNil", "(internal/reflectlite.Value).Elem", "(internal/reflectlite.Value).Set"], unfollowed := true, recurses := true, named := ["errors.errorType"], apart := false, laid := [("errors.errorType", laid_errors_errorType)], narrowed := true }
def LabelFoldsUptoSaid : Prop := labelFoldsUptoRow.holds Tryd.pinned (OpenSpec.upto labelFoldsSpec)

/-- 'gatepostlaw06.LabelParts', WHERE WHAT IT READS IS OF BULK AT MOST 1048576: true; the input reads as it did. -/
def labelPartsUptoRow : OpenClaim := { program := "ythnabbidlmihbaadoor", sum := "350e4e1a18ac76df4feda8a70c7ffb6303f6da220a940ee0326b7c52d60b6d3b", func := "gatepost/gatepostlaw06.LabelParts", spec := "labelParts", inPlace := ["internal/bytealg.IndexByteString", "slices.overlaps[rune]", "internal/abi.NoEscape", "internal/bytealg.MakeNoZero", "internal/reflectlite.TypeOf", "internal/reflectlite.ValueOf", "(internal/reflectlite.Value).Type", "(internal/reflectlite.Value).IsNil", "(internal/reflectlite.Value).Elem", "(internal/reflectlite.Value).Set"], unfollowed := true, recurses := true, named := ["errors.errorType"], apart := false, laid := [("errors.errorType", laid_errors_errorType)], narrowed := true }
def LabelPartsUptoSaid : Prop := labelPartsUptoRow.holds Tryd.pinned (OpenSpec.upto labelPartsSpec)

end Rows
end Go.Proofs.YthnabbidlmihbaaDoor
