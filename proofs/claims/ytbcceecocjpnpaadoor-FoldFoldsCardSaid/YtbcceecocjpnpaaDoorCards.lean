/-
  DERIVED. GIVEN WITH THE SEED: THE CARDS: each row of YtbcceecocjpnpaaDoorRows.lean that lists a variable, with what it lists TIED to the program's text (the seventh form; the later family's looks); each row that meets fmt, with fmt's text TOLD by the authors' own Lean function (tested against real Go, not proved from fmt's source: count such statements apart). THE CARD IS WHAT COUNTS. Prove the row's statement (the work); the ties are given (YtbcceecocjpnpaaDoorTie.lean); close each card by the builder's one call (the guide's Derived/Test/ToyasCard.lean, 'card_holds'). Laid BY PROGRAM, IN A SANDBOX (cutbox-door.mjs). By AI agents, Wed Nov 11 2026. No macro, syntax, notation, axiom, sorry.
-/
import Derived.Test.YtbcceecocjpnpaaDoorRows
import GoSem.ClaimSeven
namespace Go.Proofs.YtbcceecocjpnpaaDoor
namespace Rows

/-- THE TIED CARD OF 'gatepostlaw05.FoldFolds'. -/
def foldFoldsCard : Claim7 := { stood := { row := foldFoldsRow, standIns := [], harness := (true, "1f55aad9b0d6d0c364bb3585e6180b871551c798c4d2877646b4060fa216ebb1"), looks := true }, kinds := [], alts := [], laidByText := true, laidKinds := [.handle], laidTests := true, laidLooks := .later }
def FoldFoldsCardSaid : Prop := Claim7.holds Tryd.pinned (.plain (OpenSpec.ofChange foldFoldsSpec)) foldFoldsCard

/-- THE SECOND FORM's CARD OF 'gatepostlaw05.FoldFolds'. -/
def foldFoldsUptoCard : Claim7 := { stood := { row := foldFoldsUptoRow, standIns := [], harness := (true, "1f55aad9b0d6d0c364bb3585e6180b871551c798c4d2877646b4060fa216ebb1"), looks := true }, kinds := [], alts := [], laidByText := true, laidKinds := [.handle], laidTests := true, laidLooks := .later }
def FoldFoldsUptoCardSaid : Prop := Claim7.holds Tryd.pinned (.plain (OpenSpec.upto foldFoldsSpec)) foldFoldsUptoCard
end Rows
end Go.Proofs.YtbcceecocjpnpaaDoor
