/-
  DERIVED. GIVEN WITH THE SEED: THE CARDS: each row of YtkggplnigjlegaaGreatDoorRows.lean that lists a variable, with what it lists TIED to the program's text (the seventh form; the later family's looks); each row that meets fmt, with fmt's text TOLD by the authors' own Lean function (tested against real Go, not proved from fmt's source: count such statements apart). THE CARD IS WHAT COUNTS. Prove the row's statement (the work); the ties are given (YtkggplnigjlegaaGreatDoorTie.lean); close each card by the builder's one call (the guide's Derived/Test/ToyasCard.lean, 'card_holds'). Laid BY PROGRAM, IN A SANDBOX (cutbox-door.mjs). By AI agents, Wed Nov 11 2026. No macro, syntax, notation, axiom, sorry.
-/
import Derived.Test.YtkggplnigjlegaaGreatDoorRows
import GoSem.ClaimSeven
namespace Go.Proofs.YtkggplnigjlegaaGreatDoor
namespace Rows

/-- THE TIED CARD OF 'gatepostlaw15.RulesParse'. -/
def rulesParseCard : Claim7 := { stood := { row := rulesParseRow, standIns := [], harness := (true, "9299eec39bfaf99dc3b03daa9f589abf49bd9a433a28e7d4d5de1def48a4ee1a"), looks := false }, kinds := [], alts := [], laidByText := true, laidKinds := [.data, .pinned], laidTests := true, laidLooks := .later }
def RulesParseCardSaid : Prop := Claim7.holds Tryz.pinned (.plain (OpenSpec.ofChange rulesParseSpec)) rulesParseCard

/-- THE SECOND FORM's CARD OF 'gatepostlaw15.RulesParse'. -/
def rulesParseUptoCard : Claim7 := { stood := { row := rulesParseUptoRow, standIns := [], harness := (true, "9299eec39bfaf99dc3b03daa9f589abf49bd9a433a28e7d4d5de1def48a4ee1a"), looks := false }, kinds := [], alts := [], laidByText := true, laidKinds := [.data, .pinned], laidTests := true, laidLooks := .later }
def RulesParseUptoCardSaid : Prop := Claim7.holds Tryz.pinned (.plain (OpenSpec.upto rulesParseSpec)) rulesParseUptoCard
end Rows
end Go.Proofs.YtkggplnigjlegaaGreatDoor
