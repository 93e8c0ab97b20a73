/-
  DERIVED. GIVEN WITH THE SEED: THE CARDS: each row of YthhphphdbgkdgaaDoorRows.lean that lists a variable, with what it lists TIED to the program's text (the seventh form; the later family's looks); each row that meets fmt, with fmt's text TOLD by the authors' own Lean function (tested against real Go, not proved from fmt's source: count such statements apart). THE CARD IS WHAT COUNTS. Prove the row's statement (the work); the ties are given (YthhphphdbgkdgaaDoorTie.lean); close each card by the builder's one call (the guide's Derived/Test/ToyasCard.lean, 'card_holds'). Laid BY PROGRAM, IN A SANDBOX (cutbox-door.mjs). By AI agents, Wed Nov 11 2026. No macro, syntax, notation, axiom, sorry.
-/
import Derived.Test.YthhphphdbgkdgaaDoorRows
import GoSem.ClaimSeven
namespace Go.Proofs.YthhphphdbgkdgaaDoor
namespace Rows

/-- THE TIED CARD OF 'kalendslaw23.JournalPurity'. -/
def journalPurityCard : Claim7 := { stood := { row := journalPurityRow, standIns := [], harness := (true, "df6a6cd6ce70580849501bb70cd7f356c107b93448d148119d5bb588f4435f36"), looks := false }, kinds := [], alts := [], laidByText := true, laidKinds := [.data], laidTests := true, laidLooks := .later }
def JournalPurityCardSaid : Prop := Claim7.holds Tryd.pinned (.plain (OpenSpec.ofChange journalPuritySpec)) journalPurityCard

/-- THE SECOND FORM's CARD OF 'kalendslaw23.JournalPurity'. -/
def journalPurityUptoCard : Claim7 := { stood := { row := journalPurityUptoRow, standIns := [], harness := (true, "df6a6cd6ce70580849501bb70cd7f356c107b93448d148119d5bb588f4435f36"), looks := false }, kinds := [], alts := [], laidByText := true, laidKinds := [.data], laidTests := true, laidLooks := .later }
def JournalPurityUptoCardSaid : Prop := Claim7.holds Tryd.pinned (.plain (OpenSpec.upto journalPuritySpec)) journalPurityUptoCard
end Rows
end Go.Proofs.YthhphphdbgkdgaaDoor
