/-
  DERIVED. GIVEN WITH THE SEED: THE CARDS: each row of YtkggplnigjlegaaDoorRows.lean that lists a variable, with what it lists TIED to the program's text (the seventh form; the later family's looks); each row that meets fmt, with fmt's text TOLD by the authors' own Lean function (tested against real Go, not proved from fmt's source: count such statements apart). THE CARD IS WHAT COUNTS. Prove the row's statement (the work); the ties are given (YtkggplnigjlegaaDoorTie.lean); close each card by the builder's one call (the guide's Derived/Test/ToyasCard.lean, 'card_holds'). Laid BY PROGRAM, IN A SANDBOX (cutbox-door.mjs). By AI agents, Wed Nov 11 2026. No macro, syntax, notation, axiom, sorry.
-/
import Derived.Test.YtkggplnigjlegaaDoorRows
import GoSem.ClaimSeven
namespace Go.Proofs.YtkggplnigjlegaaDoor
namespace Rows

/-- THE TIED CARD OF 'gatepostlaw15.RulesTexts'. -/
def rulesTextsCard : Claim7 := { stood := { row := rulesTextsRow, standIns := [], harness := (true, "f9c1e05ded5ed5684d73179e6740bf423631ea15623fc168ebfba5a6808f7b9b"), looks := false }, kinds := [], alts := [], laidByText := true, laidKinds := [.data, .pinned], laidTests := true, laidLooks := .later }
def RulesTextsCardSaid : Prop := Claim7.holds Tryd.pinned (.plain (OpenSpec.ofChange rulesTextsSpec)) rulesTextsCard

/-- THE TIED CARD OF 'gatepostlaw15.RulesBack'. -/
def rulesBackCard : Claim7 := { stood := { row := rulesBackRow, standIns := [], harness := (true, "f9c1e05ded5ed5684d73179e6740bf423631ea15623fc168ebfba5a6808f7b9b"), looks := false }, kinds := [], alts := [], laidByText := true, laidKinds := [.data, .pinned], laidTests := true, laidLooks := .later }
def RulesBackCardSaid : Prop := Claim7.holds Tryd.pinned (.plain (OpenSpec.ofChange rulesBackSpec)) rulesBackCard

/-- THE TIED CARD OF 'gatepostlaw15.RulesJoin'. -/
def rulesJoinCard : Claim7 := { stood := { row := rulesJoinRow, standIns := [], harness := (true, "f9c1e05ded5ed5684d73179e6740bf423631ea15623fc168ebfba5a6808f7b9b"), looks := false }, kinds := [], alts := [], laidByText := true, laidKinds := [.data, .pinned], laidTests := true, laidLooks := .later }
def RulesJoinCardSaid : Prop := Claim7.holds Tryd.pinned (.plain (OpenSpec.ofChange rulesJoinSpec)) rulesJoinCard

/-- THE SECOND FORM's CARD OF 'gatepostlaw15.RulesTexts'. -/
def rulesTextsUptoCard : Claim7 := { stood := { row := rulesTextsUptoRow, standIns := [], harness := (true, "f9c1e05ded5ed5684d73179e6740bf423631ea15623fc168ebfba5a6808f7b9b"), looks := false }, kinds := [], alts := [], laidByText := true, laidKinds := [.data, .pinned], laidTests := true, laidLooks := .later }
def RulesTextsUptoCardSaid : Prop := Claim7.holds Tryd.pinned (.plain (OpenSpec.upto rulesTextsSpec)) rulesTextsUptoCard

/-- THE SECOND FORM's CARD OF 'gatepostlaw15.RulesBack'. -/
def rulesBackUptoCard : Claim7 := { stood := { row := rulesBackUptoRow, standIns := [], harness := (true, "f9c1e05ded5ed5684d73179e6740bf423631ea15623fc168ebfba5a6808f7b9b"), looks := false }, kinds := [], alts := [], laidByText := true, laidKinds := [.data, .pinned], laidTests := true, laidLooks := .later }
def RulesBackUptoCardSaid : Prop := Claim7.holds Tryd.pinned (.plain (OpenSpec.upto rulesBackSpec)) rulesBackUptoCard

/-- THE SECOND FORM's CARD OF 'gatepostlaw15.RulesJoin'. -/
def rulesJoinUptoCard : Claim7 := { stood := { row := rulesJoinUptoRow, standIns := [], harness := (true, "f9c1e05ded5ed5684d73179e6740bf423631ea15623fc168ebfba5a6808f7b9b"), looks := false }, kinds := [], alts := [], laidByText := true, laidKinds := [.data, .pinned], laidTests := true, laidLooks := .later }
def RulesJoinUptoCardSaid : Prop := Claim7.holds Tryd.pinned (.plain (OpenSpec.upto rulesJoinSpec)) rulesJoinUptoCard
end Rows
end Go.Proofs.YtkggplnigjlegaaDoor
