/-
  DERIVED. GIVEN WITH THE SEED: THE CARDS: each row of YthbecdbmifchiaaGreatDoorRows.lean that lists a variable, with what it lists TIED to the program's text (the seventh form; the later family's looks); each row that meets fmt, with fmt's text TOLD by the authors' own Lean function (tested against real Go, not proved from fmt's source: count such statements apart). THE CARD IS WHAT COUNTS. Prove the row's statement (the work); the ties are given (YthbecdbmifchiaaGreatDoorTie.lean); close each card by the builder's one call (the guide's Derived/Test/ToyasCard.lean, 'card_holds'). Laid BY PROGRAM, IN A SANDBOX (cutbox-door.mjs). By AI agents, Wed Nov 11 2026. No macro, syntax, notation, axiom, sorry.
-/
import Derived.Test.YthbecdbmifchiaaGreatDoorRows
import GoSem.ClaimSeven
namespace Go.Proofs.YthbecdbmifchiaaGreatDoor
namespace Rows

/-- THE TIED CARD OF 'kalendslaw07.GrammarMeaning'. -/
def grammarMeaningCard : Claim7 := { stood := { row := grammarMeaningRow, standIns := [], harness := (true, "46e777649d1762ac306aa04ae8bbdd3a89499560336f6433a4285f3c25a6bf3b"), looks := true }, kinds := [], alts := [], laidByText := true, laidKinds := [.data, .data, .data, .data, .sentinel, .sentinel, .pinned], laidTests := true, laidLooks := .later }
def GrammarMeaningCardSaid : Prop := Claim7.holds Tryz.pinned (.plain (OpenSpec.ofChange grammarMeaningSpec)) grammarMeaningCard

/-- THE TIED CARD OF 'kalendslaw07.GrammarLists'. -/
def grammarListsCard : Claim7 := { stood := { row := grammarListsRow, standIns := [], harness := (true, "46e777649d1762ac306aa04ae8bbdd3a89499560336f6433a4285f3c25a6bf3b"), looks := true }, kinds := [], alts := [], laidByText := true, laidKinds := [.data, .data, .data, .data, .sentinel, .sentinel, .pinned], laidTests := true, laidLooks := .later }
def GrammarListsCardSaid : Prop := Claim7.holds Tryz.pinned (.plain (OpenSpec.ofChange grammarListsSpec)) grammarListsCard

/-- THE SECOND FORM's CARD OF 'kalendslaw07.GrammarMeaning'. -/
def grammarMeaningUptoCard : Claim7 := { stood := { row := grammarMeaningUptoRow, standIns := [], harness := (true, "46e777649d1762ac306aa04ae8bbdd3a89499560336f6433a4285f3c25a6bf3b"), looks := true }, kinds := [], alts := [], laidByText := true, laidKinds := [.data, .data, .data, .data, .sentinel, .sentinel, .pinned], laidTests := true, laidLooks := .later }
def GrammarMeaningUptoCardSaid : Prop := Claim7.holds Tryz.pinned (.plain (OpenSpec.upto grammarMeaningSpec)) grammarMeaningUptoCard

/-- THE SECOND FORM's CARD OF 'kalendslaw07.GrammarLists'. -/
def grammarListsUptoCard : Claim7 := { stood := { row := grammarListsUptoRow, standIns := [], harness := (true, "46e777649d1762ac306aa04ae8bbdd3a89499560336f6433a4285f3c25a6bf3b"), looks := true }, kinds := [], alts := [], laidByText := true, laidKinds := [.data, .data, .data, .data, .sentinel, .sentinel, .pinned], laidTests := true, laidLooks := .later }
def GrammarListsUptoCardSaid : Prop := Claim7.holds Tryz.pinned (.plain (OpenSpec.upto grammarListsSpec)) grammarListsUptoCard
end Rows
end Go.Proofs.YthbecdbmifchiaaGreatDoor
