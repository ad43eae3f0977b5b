/-
  No cell of these rows narrows 'for every input' (looked for: loops, veiled, ifaces, maps, wideKeys, modest, calm, conditions, laid).
  DERIVED. THE GIVEN ROWS OF THIS SEAT. 4 by the template 'for every input the law returns true; each argument reads behind the call as it read before'; 0 by the template 'total and deterministic' (their statements: YtbcceecocjpnpaaTotals.lean).
  GIVEN WITH THE SEED: the statements are not yours to turn. If you find one false, say at which input.
  Laid BY PROGRAM, IN A SANDBOX (cutbox-rows.mjs): the forced cells as the released guide's own fill.sh prints them over the translation b6233e98d3f3c5a1… (all of the seat's roots in one cut). By AI agents, Wed Nov 11 2026. No macro, syntax, notation, axiom, sorry.
-/
import Derived.Test.YtbcceecocjpnpaaChecked
import GoSem.Claim
import GoSem.ClaimJoined
import GoSem.ClaimMapViews
import Derived.JoinedTies
import Derived.KernelRfl
namespace Go.Proofs.Ytbcceecocjpnpaa
/- THE CELL 'sum', in the pinned program and in every row, IS THE sha256 OF THE DUMP (.gsa) THAT YtbcceecocjpnpaaProg.lean LOADS. Nothing in Lean hashes anything: it is a label: what it is worth is what the hold of that sum in a sandbox is worth. -/
noncomputable def Try.pinned : Pinned := { name := "ytbcceecocjpnpaa", sum := "b6233e98d3f3c5a11a9b534b54331ea47dead216a74f025760756411da96178d", checked := Try.checked }
namespace Rows
def none {H : Type} : Left H := { results := [], args := [] }

/-- 'gatepostlaw05.FoldMaps': WHATEVER THE INPUT: true; the input reads as it did. -/
def foldMapsSpec : ChangeSpec := { name := "foldMaps", fn := fun _ => fun
  | [d] => { results := [.lit (.bool true)], args := [d] }
  | _ => none }
def foldMapsRow : OpenClaim := { program := "ytbcceecocjpnpaa", sum := "b6233e98d3f3c5a11a9b534b54331ea47dead216a74f025760756411da96178d", func := "gatepost/gatepostlaw05.FoldMaps", spec := "foldMaps", inPlace := ["internal/reflectlite.TypeOf"], unfollowed := true, recurses := true, apart := false }
def FoldMapsSaid : Prop := foldMapsRow.holds Try.pinned (OpenSpec.ofChange foldMapsSpec)

/-- ITS FALSE NEIGHBOUR: 'it returns false'. Refute it at one input. -/
def foldMapsWrong : ChangeSpec := { name := "foldMaps", fn := fun _ => fun
  | [d] => { results := [.lit (.bool false)], args := [d] }
  | _ => none }
def FoldMapsWrongFalsely : Prop := foldMapsRow.holds Try.pinned (OpenSpec.ofChange foldMapsWrong)

/-- 'gatepostlaw05.FoldOnce': WHATEVER THE INPUT: true; the input reads as it did. -/
def foldOnceSpec : ChangeSpec := { name := "foldOnce", fn := fun _ => fun
  | [d] => { results := [.lit (.bool true)], args := [d] }
  | _ => none }
def foldOnceRow : OpenClaim := { program := "ytbcceecocjpnpaa", sum := "b6233e98d3f3c5a11a9b534b54331ea47dead216a74f025760756411da96178d", func := "gatepost/gatepostlaw05.FoldOnce", spec := "foldOnce", inPlace := ["internal/reflectlite.TypeOf"], unfollowed := true, recurses := true, apart := false }
def FoldOnceSaid : Prop := foldOnceRow.holds Try.pinned (OpenSpec.ofChange foldOnceSpec)

/-- ITS FALSE NEIGHBOUR: 'it returns false'. Refute it at one input. -/
def foldOnceWrong : ChangeSpec := { name := "foldOnce", fn := fun _ => fun
  | [d] => { results := [.lit (.bool false)], args := [d] }
  | _ => none }
def FoldOnceWrongFalsely : Prop := foldOnceRow.holds Try.pinned (OpenSpec.ofChange foldOnceWrong)

/-- 'gatepostlaw05.FoldCapitals': WHATEVER THE INPUT: true; the input reads as it did. -/
def foldCapitalsSpec : ChangeSpec := { name := "foldCapitals", fn := fun _ => fun
  | [d] => { results := [.lit (.bool true)], args := [d] }
  | _ => none }
def foldCapitalsRow : OpenClaim := { program := "ytbcceecocjpnpaa", sum := "b6233e98d3f3c5a11a9b534b54331ea47dead216a74f025760756411da96178d", func := "gatepost/gatepostlaw05.FoldCapitals", spec := "foldCapitals", inPlace := ["internal/reflectlite.TypeOf"], unfollowed := true, recurses := true, apart := false }
def FoldCapitalsSaid : Prop := foldCapitalsRow.holds Try.pinned (OpenSpec.ofChange foldCapitalsSpec)

/-- ITS FALSE NEIGHBOUR: 'it returns false'. Refute it at one input. -/
def foldCapitalsWrong : ChangeSpec := { name := "foldCapitals", fn := fun _ => fun
  | [d] => { results := [.lit (.bool false)], args := [d] }
  | _ => none }
def FoldCapitalsWrongFalsely : Prop := foldCapitalsRow.holds Try.pinned (OpenSpec.ofChange foldCapitalsWrong)

/-- 'gatepostlaw05.FoldJoins': WHATEVER THE INPUT: true; the input reads as it did. -/
def foldJoinsSpec : ChangeSpec := { name := "foldJoins", fn := fun _ => fun
  | [d1, d2] => { results := [.lit (.bool true)], args := [d1, d2] }
  | _ => none }
def foldJoinsRow : OpenClaim := { program := "ytbcceecocjpnpaa", sum := "b6233e98d3f3c5a11a9b534b54331ea47dead216a74f025760756411da96178d", func := "gatepost/gatepostlaw05.FoldJoins", spec := "foldJoins", inPlace := ["internal/reflectlite.TypeOf"], unfollowed := true, recurses := true, apart := false }
def FoldJoinsSaid : Prop := foldJoinsRow.holds Try.pinned (OpenSpec.ofChange foldJoinsSpec)

/-- ITS FALSE NEIGHBOUR: 'it returns false'. Refute it at one input. -/
def foldJoinsWrong : ChangeSpec := { name := "foldJoins", fn := fun _ => fun
  | [d1, d2] => { results := [.lit (.bool false)], args := [d1, d2] }
  | _ => none }
def FoldJoinsWrongFalsely : Prop := foldJoinsRow.holds Try.pinned (OpenSpec.ofChange foldJoinsWrong)

/- THE SECOND FORM. 'bulk': how many values and letters a reading holds, each counted each time it is reached (what is shared counts as often as it is met; a slice's spare places count too). A statement '..UptoSaid' is the law's where the arguments, and the package variables that the reading takes, are together of bulk at most 1048576: NARROWER than '..Said'. Prove '..Said' where nothing that the law and all that it calls make is longer than what came in: it says more and counts as full. Else prove '..UptoSaid'. A law counts once. -/
mutual
def uptoBulk {H : Type} : DataW H → Nat
  | .lit (.string bytes) => bytes.length + 1
  | .lit _ => 1
  | .nil => 1
  | .ptr d => uptoBulk d + 1
  | .slice elems spare => uptoBulkAll elems + uptoBulkAll spare + 1
  | .agg parts => uptoBulkAll parts + 1
  | .iface _ d => uptoBulk d + 1
  | .map entries => uptoBulkEntries entries + 1
  | .held _ => 1
def uptoBulkAll {H : Type} : List (DataW H) → Nat
  | [] => 0
  | d :: r => uptoBulk d + uptoBulkAll r
def uptoBulkEntries {H : Type} : List (Lit × DataW H) → Nat
  | [] => 0
  | x :: r => uptoBulkEntry x + uptoBulkEntries r
def uptoBulkEntry {H : Type} : Lit × DataW H → Nat
  | (.string bytes, d) => bytes.length + uptoBulk d + 1
  | (_, d) => uptoBulk d + 1
 end
def uptoSmall : (H : Type) → List (DataW H) → Bool := fun _ ds => decide (uptoBulkAll ds ≤ 1048576)
def OpenSpec.upto (s : _root_.Go.ChangeSpec) : _root_.Go.OpenSpec := { _root_.Go.OpenSpec.ofChange s with cond := some uptoSmall }

/-- 'gatepostlaw05.FoldMaps', WHERE WHAT IT READS IS OF BULK AT MOST 1048576: true; the input reads as it did. -/
def foldMapsUptoRow : OpenClaim := { program := "ytbcceecocjpnpaa", sum := "b6233e98d3f3c5a11a9b534b54331ea47dead216a74f025760756411da96178d", func := "gatepost/gatepostlaw05.FoldMaps", spec := "foldMaps", inPlace := ["internal/reflectlite.TypeOf"], unfollowed := true, recurses := true, apart := false, narrowed := true }
def FoldMapsUptoSaid : Prop := foldMapsUptoRow.holds Try.pinned (OpenSpec.upto foldMapsSpec)

/-- 'gatepostlaw05.FoldOnce', WHERE WHAT IT READS IS OF BULK AT MOST 1048576: true; the input reads as it did. -/
def foldOnceUptoRow : OpenClaim := { program := "ytbcceecocjpnpaa", sum := "b6233e98d3f3c5a11a9b534b54331ea47dead216a74f025760756411da96178d", func := "gatepost/gatepostlaw05.FoldOnce", spec := "foldOnce", inPlace := ["internal/reflectlite.TypeOf"], unfollowed := true, recurses := true, apart := false, narrowed := true }
def FoldOnceUptoSaid : Prop := foldOnceUptoRow.holds Try.pinned (OpenSpec.upto foldOnceSpec)

/-- 'gatepostlaw05.FoldCapitals', WHERE WHAT IT READS IS OF BULK AT MOST 1048576: true; the input reads as it did. -/
def foldCapitalsUptoRow : OpenClaim := { program := "ytbcceecocjpnpaa", sum := "b6233e98d3f3c5a11a9b534b54331ea47dead216a74f025760756411da96178d", func := "gatepost/gatepostlaw05.FoldCapitals", spec := "foldCapitals", inPlace := ["internal/reflectlite.TypeOf"], unfollowed := true, recurses := true, apart := false, narrowed := true }
def FoldCapitalsUptoSaid : Prop := foldCapitalsUptoRow.holds Try.pinned (OpenSpec.upto foldCapitalsSpec)

/-- 'gatepostlaw05.FoldJoins', WHERE WHAT IT READS IS OF BULK AT MOST 1048576: true; the input reads as it did. -/
def foldJoinsUptoRow : OpenClaim := { program := "ytbcceecocjpnpaa", sum := "b6233e98d3f3c5a11a9b534b54331ea47dead216a74f025760756411da96178d", func := "gatepost/gatepostlaw05.FoldJoins", spec := "foldJoins", inPlace := ["internal/reflectlite.TypeOf"], unfollowed := true, recurses := true, apart := false, narrowed := true }
def FoldJoinsUptoSaid : Prop := foldJoinsUptoRow.holds Try.pinned (OpenSpec.upto foldJoinsSpec)

end Rows
end Go.Proofs.Ytbcceecocjpnpaa
