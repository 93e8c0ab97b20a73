/-
  DERIVED. GIVEN WITH THE SEED: THE CARDS: each row of YtbbeldmcdjjnbaaGreatDoorRows.lean that lists a variable, with what it lists TIED to the program's text (the seventh form; the later family's looks); each row that meets fmt, with fmt's text TOLD by the authors' own Lean function (tested against real Go, not proved from fmt's source: count such statements apart). THE CARD IS WHAT COUNTS. Prove the row's statement (the work); the ties are given (YtbbeldmcdjjnbaaGreatDoorTie.lean); close each card by the builder's one call (the guide's Derived/Test/ToyasCard.lean, 'card_holds'). Laid BY PROGRAM, IN A SANDBOX (cutbox-door.mjs). By AI agents, Wed Nov 11 2026. No macro, syntax, notation, axiom, sorry.
-/
import Derived.Test.YtbbeldmcdjjnbaaGreatDoorRows
import GoSem.ClaimSeven
namespace Go.Proofs.YtbbeldmcdjjnbaaGreatDoor
namespace Rows

/-- THE TIED CARD OF 'kalendstop.TopStricterPoliciesTellLess'. -/
def topStricterPoliciesTellLessCard : Claim7 := { stood := { row := topStricterPoliciesTellLessRow, standIns := [], harness := (true, "ea4d2a537d220d07d8cee1b6db03caebdd6f98509a72cae135dbdee946886ce6"), looks := false }, kinds := [], alts := [], laidByText := true, laidKinds := [.data], laidTests := true, laidLooks := .later }
def TopStricterPoliciesTellLessCardSaid : Prop := Claim7.holds Tryz.pinned (.plain (OpenSpec.ofChange topStricterPoliciesTellLessSpec)) topStricterPoliciesTellLessCard

/-- THE SECOND FORM's CARD OF 'kalendstop.TopStricterPoliciesTellLess'. -/
def topStricterPoliciesTellLessUptoCard : Claim7 := { stood := { row := topStricterPoliciesTellLessUptoRow, standIns := [], harness := (true, "ea4d2a537d220d07d8cee1b6db03caebdd6f98509a72cae135dbdee946886ce6"), looks := false }, kinds := [], alts := [], laidByText := true, laidKinds := [.data], laidTests := true, laidLooks := .later }
def TopStricterPoliciesTellLessUptoCardSaid : Prop := Claim7.holds Tryz.pinned (.plain (OpenSpec.upto topStricterPoliciesTellLessSpec)) topStricterPoliciesTellLessUptoCard
end Rows
end Go.Proofs.YtbbeldmcdjjnbaaGreatDoor
