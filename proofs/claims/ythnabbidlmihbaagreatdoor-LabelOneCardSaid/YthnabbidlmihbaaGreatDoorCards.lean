/-
  DERIVED. GIVEN WITH THE SEED: THE CARDS: each row of YthnabbidlmihbaaGreatDoorRows.lean that lists a variable, with what it lists TIED to the program's text (the seventh form; the later family's looks); each row that meets fmt, with fmt's text TOLD by the authors' own Lean function (tested against real Go, not proved from fmt's source: count such statements apart). THE CARD IS WHAT COUNTS. Prove the row's statement (the work); the ties are given (YthnabbidlmihbaaGreatDoorTie.lean); close each card by the builder's one call (the guide's Derived/Test/ToyasCard.lean, 'card_holds'). Laid BY PROGRAM, IN A SANDBOX (cutbox-door.mjs). By AI agents, Wed Nov 11 2026. No macro, syntax, notation, axiom, sorry.
-/
import Derived.Test.YthnabbidlmihbaaGreatDoorRows
import GoSem.ClaimSeven
namespace Go.Proofs.YthnabbidlmihbaaGreatDoor
namespace Rows

/-- THE TIED CARD OF 'gatepostlaw06.LabelOne'. -/
def labelOneCard : Claim7 := { stood := { row := labelOneRow, standIns := [], harness := (true, "57e8756077ddfe91a33eb3b8c4caf873c7f2a4c4b0291a9cb700b40640ca62e4"), looks := true }, kinds := [], alts := [], laidByText := true, laidKinds := [.handle], laidTests := true, laidLooks := .later }
def LabelOneCardSaid : Prop := Claim7.holds Tryz.pinned (.plain (OpenSpec.ofChange labelOneSpec)) labelOneCard

/-- THE TIED CARD OF 'gatepostlaw06.LabelAll'. -/
def labelAllCard : Claim7 := { stood := { row := labelAllRow, standIns := [], harness := (true, "57e8756077ddfe91a33eb3b8c4caf873c7f2a4c4b0291a9cb700b40640ca62e4"), looks := true }, kinds := [], alts := [], laidByText := true, laidKinds := [.handle], laidTests := true, laidLooks := .later }
def LabelAllCardSaid : Prop := Claim7.holds Tryz.pinned (.plain (OpenSpec.ofChange labelAllSpec)) labelAllCard

/-- THE SECOND FORM's CARD OF 'gatepostlaw06.LabelOne'. -/
def labelOneUptoCard : Claim7 := { stood := { row := labelOneUptoRow, standIns := [], harness := (true, "57e8756077ddfe91a33eb3b8c4caf873c7f2a4c4b0291a9cb700b40640ca62e4"), looks := true }, kinds := [], alts := [], laidByText := true, laidKinds := [.handle], laidTests := true, laidLooks := .later }
def LabelOneUptoCardSaid : Prop := Claim7.holds Tryz.pinned (.plain (OpenSpec.upto labelOneSpec)) labelOneUptoCard

/-- THE SECOND FORM's CARD OF 'gatepostlaw06.LabelAll'. -/
def labelAllUptoCard : Claim7 := { stood := { row := labelAllUptoRow, standIns := [], harness := (true, "57e8756077ddfe91a33eb3b8c4caf873c7f2a4c4b0291a9cb700b40640ca62e4"), looks := true }, kinds := [], alts := [], laidByText := true, laidKinds := [.handle], laidTests := true, laidLooks := .later }
def LabelAllUptoCardSaid : Prop := Claim7.holds Tryz.pinned (.plain (OpenSpec.upto labelAllSpec)) labelAllUptoCard
end Rows
end Go.Proofs.YthnabbidlmihbaaGreatDoor
