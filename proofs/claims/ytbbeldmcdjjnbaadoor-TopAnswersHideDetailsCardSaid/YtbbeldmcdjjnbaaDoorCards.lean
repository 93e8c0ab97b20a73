/-
  DERIVED. GIVEN WITH THE SEED: THE CARDS: each row of YtbbeldmcdjjnbaaDoorRows.lean that lists a variable, with what it lists TIED to the program's text (the seventh form; the later family's looks); each row that meets fmt, with fmt's text TOLD by the authors' own Lean function (tested against real Go, not proved from fmt's source: count such statements apart). THE CARD IS WHAT COUNTS. Prove the row's statement (the work); the ties are given (YtbbeldmcdjjnbaaDoorTie.lean); close each card by the builder's one call (the guide's Derived/Test/ToyasCard.lean, 'card_holds'). Laid BY PROGRAM, IN A SANDBOX (cutbox-door.mjs). By AI agents, Wed Nov 11 2026. No macro, syntax, notation, axiom, sorry.
-/
import Derived.Test.YtbbeldmcdjjnbaaDoorRows
import GoSem.ClaimSeven
namespace Go.Proofs.YtbbeldmcdjjnbaaDoor
namespace Rows

/-- THE TIED CARD OF 'kalendstop.TopAnswersHideDetails'. -/
def topAnswersHideDetailsCard : Claim7 := { stood := { row := topAnswersHideDetailsRow, standIns := [], harness := (true, "ec1ad09e6fb661a0f935c8e1a6068091186e1fcbf0c63f13ee9dfd74a2a74da7"), looks := false }, kinds := [], alts := [], laidByText := true, laidKinds := [.data], laidTests := true, laidLooks := .later }
def TopAnswersHideDetailsCardSaid : Prop := Claim7.holds Tryd.pinned (.plain (OpenSpec.ofChange topAnswersHideDetailsSpec)) topAnswersHideDetailsCard

/-- THE SECOND FORM's CARD OF 'kalendstop.TopAnswersHideDetails'. -/
def topAnswersHideDetailsUptoCard : Claim7 := { stood := { row := topAnswersHideDetailsUptoRow, standIns := [], harness := (true, "ec1ad09e6fb661a0f935c8e1a6068091186e1fcbf0c63f13ee9dfd74a2a74da7"), looks := false }, kinds := [], alts := [], laidByText := true, laidKinds := [.data], laidTests := true, laidLooks := .later }
def TopAnswersHideDetailsUptoCardSaid : Prop := Claim7.holds Tryd.pinned (.plain (OpenSpec.upto topAnswersHideDetailsSpec)) topAnswersHideDetailsUptoCard
end Rows
end Go.Proofs.YtbbeldmcdjjnbaaDoor
