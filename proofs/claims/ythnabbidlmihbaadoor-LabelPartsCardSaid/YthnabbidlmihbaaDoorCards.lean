/-
  DERIVED. GIVEN WITH THE SEED: THE CARDS: each row of YthnabbidlmihbaaDoorRows.lean that lists a variable, with what it lists TIED to the program's text (the seventh form; the later family's looks); each row that meets fmt, with fmt's text TOLD by the authors' own Lean function (tested against real Go, not proved from fmt's source: count such statements apart). THE CARD IS WHAT COUNTS. Prove the row's statement (the work); the ties are given (YthnabbidlmihbaaDoorTie.lean); close each card by the builder's one call (the guide's Derived/Test/ToyasCard.lean, 'card_holds'). Laid BY PROGRAM, IN A SANDBOX (cutbox-door.mjs). By AI agents, Wed Nov 11 2026. No macro, syntax, notation, axiom, sorry.
-/
import Derived.Test.YthnabbidlmihbaaDoorRows
import GoSem.ClaimSeven
namespace Go.Proofs.YthnabbidlmihbaaDoor
namespace Rows

/-- THE TIED CARD OF 'gatepostlaw06.LabelFolds'. -/
def labelFoldsCard : Claim7 := { stood := { row := labelFoldsRow, standIns := [], harness := (true, "489a40d1cabb15571f6077f889e6c12df11cf0430b8158fb268e9683f1736607"), looks := true }, kinds := [], alts := [], laidByText := true, laidKinds := [.handle], laidTests := true, laidLooks := .later }
def LabelFoldsCardSaid : Prop := Claim7.holds Tryd.pinned (.plain (OpenSpec.ofChange labelFoldsSpec)) labelFoldsCard

/-- THE TIED CARD OF 'gatepostlaw06.LabelParts'. -/
def labelPartsCard : Claim7 := { stood := { row := labelPartsRow, standIns := [], harness := (true, "489a40d1cabb15571f6077f889e6c12df11cf0430b8158fb268e9683f1736607"), looks := true }, kinds := [], alts := [], laidByText := true, laidKinds := [.handle], laidTests := true, laidLooks := .later }
def LabelPartsCardSaid : Prop := Claim7.holds Tryd.pinned (.plain (OpenSpec.ofChange labelPartsSpec)) labelPartsCard

/-- THE SECOND FORM's CARD OF 'gatepostlaw06.LabelFolds'. -/
def labelFoldsUptoCard : Claim7 := { stood := { row := labelFoldsUptoRow, standIns := [], harness := (true, "489a40d1cabb15571f6077f889e6c12df11cf0430b8158fb268e9683f1736607"), looks := true }, kinds := [], alts := [], laidByText := true, laidKinds := [.handle], laidTests := true, laidLooks := .later }
def LabelFoldsUptoCardSaid : Prop := Claim7.holds Tryd.pinned (.plain (OpenSpec.upto labelFoldsSpec)) labelFoldsUptoCard

/-- THE SECOND FORM's CARD OF 'gatepostlaw06.LabelParts'. -/
def labelPartsUptoCard : Claim7 := { stood := { row := labelPartsUptoRow, standIns := [], harness := (true, "489a40d1cabb15571f6077f889e6c12df11cf0430b8158fb268e9683f1736607"), looks := true }, kinds := [], alts := [], laidByText := true, laidKinds := [.handle], laidTests := true, laidLooks := .later }
def LabelPartsUptoCardSaid : Prop := Claim7.holds Tryd.pinned (.plain (OpenSpec.upto labelPartsSpec)) labelPartsUptoCard
end Rows
end Go.Proofs.YthnabbidlmihbaaDoor
