/-
  DERIVED. GIVEN WITH THE SEED: THE CARDS: each row of YtdjjmoenpjlfeaaGreatDoorRows.lean that lists a variable, with what it lists TIED to the program's text (the seventh form; the later family's looks); each row that meets fmt, with fmt's text TOLD by the authors' own Lean function (tested against real Go, not proved from fmt's source: count such statements apart). THE CARD IS WHAT COUNTS. Prove the row's statement (the work); the ties are given (YtdjjmoenpjlfeaaGreatDoorTie.lean); close each card by the builder's one call (the guide's Derived/Test/ToyasCard.lean, 'card_holds'). Laid BY PROGRAM, IN A SANDBOX (cutbox-door.mjs). By AI agents, Wed Nov 11 2026. No macro, syntax, notation, axiom, sorry.
-/
import Derived.Test.YtdjjmoenpjlfeaaGreatDoorRows
import GoSem.ClaimSeven
namespace Go.Proofs.YtdjjmoenpjlfeaaGreatDoor
namespace Rows

/-- THE TIED CARD OF 'kalendstop.TopJournalsKeepLetters'. -/
def topJournalsKeepLettersCard : Claim7 := { stood := { row := topJournalsKeepLettersRow, standIns := [], harness := (true, "9b5bfea923c1d0e58a3c93b4d7fd8d2c43ee0bed69bd3b53d773ab732c78f2f7"), looks := true }, kinds := [], alts := [], laidByText := true, laidKinds := [.data], laidTests := true, laidLooks := .later }
def TopJournalsKeepLettersCardSaid : Prop := Claim7.holds Tryz.pinned (.plain (OpenSpec.ofChange topJournalsKeepLettersSpec)) topJournalsKeepLettersCard

/-- THE SECOND FORM's CARD OF 'kalendstop.TopJournalsKeepLetters'. -/
def topJournalsKeepLettersUptoCard : Claim7 := { stood := { row := topJournalsKeepLettersUptoRow, standIns := [], harness := (true, "9b5bfea923c1d0e58a3c93b4d7fd8d2c43ee0bed69bd3b53d773ab732c78f2f7"), looks := true }, kinds := [], alts := [], laidByText := true, laidKinds := [.data], laidTests := true, laidLooks := .later }
def TopJournalsKeepLettersUptoCardSaid : Prop := Claim7.holds Tryz.pinned (.plain (OpenSpec.upto topJournalsKeepLettersSpec)) topJournalsKeepLettersUptoCard
end Rows
end Go.Proofs.YtdjjmoenpjlfeaaGreatDoor
