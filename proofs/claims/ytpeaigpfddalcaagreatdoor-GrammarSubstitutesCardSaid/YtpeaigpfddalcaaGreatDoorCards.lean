/-
  DERIVED. GIVEN WITH THE SEED: THE CARDS: each row of YtpeaigpfddalcaaGreatDoorRows.lean that lists a variable, with what it lists TIED to the program's text (the seventh form; the later family's looks); each row that meets fmt, with fmt's text TOLD by the authors' own Lean function (tested against real Go, not proved from fmt's source: count such statements apart). THE CARD IS WHAT COUNTS. Prove the row's statement (the work); the ties are given (YtpeaigpfddalcaaGreatDoorTie.lean); close each card by the builder's one call (the guide's Derived/Test/ToyasCard.lean, 'card_holds'). Laid BY PROGRAM, IN A SANDBOX (cutbox-door.mjs). By AI agents, Wed Nov 11 2026. No macro, syntax, notation, axiom, sorry.
-/
import Derived.Test.YtpeaigpfddalcaaGreatDoorRows
import GoSem.ClaimSeven
namespace Go.Proofs.YtpeaigpfddalcaaGreatDoor
namespace Rows

/-- THE TIED CARD OF 'kalendslaw07.GrammarParseMatchesReference'. -/
def grammarParseMatchesReferenceCard : Claim7 := { stood := { row := grammarParseMatchesReferenceRow, standIns := [], harness := (true, "f3dc0648b220c03b6f5bfa5b86199d18c12069ec53fb667842257fdda05ce2b9"), looks := true }, kinds := [], alts := [], laidByText := true, laidKinds := [.data, .data, .data, .data, .sentinel, .sentinel, .pinned], laidTests := true, laidLooks := .later }
def GrammarParseMatchesReferenceCardSaid : Prop := Claim7.holds Tryz.pinned (.plain (OpenSpec.ofChange grammarParseMatchesReferenceSpec)) grammarParseMatchesReferenceCard

/-- THE TIED CARD OF 'kalendslaw07.GrammarFormatMatchesReference'. -/
def grammarFormatMatchesReferenceCard : Claim7 := { stood := { row := grammarFormatMatchesReferenceRow, standIns := [], harness := (true, "f3dc0648b220c03b6f5bfa5b86199d18c12069ec53fb667842257fdda05ce2b9"), looks := true }, kinds := [], alts := [], laidByText := true, laidKinds := [.data, .data, .data, .data, .sentinel, .sentinel, .pinned], laidTests := true, laidLooks := .later }
def GrammarFormatMatchesReferenceCardSaid : Prop := Claim7.holds Tryz.pinned (.plain (OpenSpec.ofChange grammarFormatMatchesReferenceSpec)) grammarFormatMatchesReferenceCard

/-- THE TIED CARD OF 'kalendslaw07.GrammarRoundTrip'. -/
def grammarRoundTripCard : Claim7 := { stood := { row := grammarRoundTripRow, standIns := [], harness := (true, "f3dc0648b220c03b6f5bfa5b86199d18c12069ec53fb667842257fdda05ce2b9"), looks := true }, kinds := [], alts := [], laidByText := true, laidKinds := [.data, .data, .data, .data, .sentinel, .sentinel, .pinned], laidTests := true, laidLooks := .later }
def GrammarRoundTripCardSaid : Prop := Claim7.holds Tryz.pinned (.plain (OpenSpec.ofChange grammarRoundTripSpec)) grammarRoundTripCard

/-- THE TIED CARD OF 'kalendslaw07.GrammarCanonical'. -/
def grammarCanonicalCard : Claim7 := { stood := { row := grammarCanonicalRow, standIns := [], harness := (true, "f3dc0648b220c03b6f5bfa5b86199d18c12069ec53fb667842257fdda05ce2b9"), looks := true }, kinds := [], alts := [], laidByText := true, laidKinds := [.data, .data, .data, .data, .sentinel, .sentinel, .pinned], laidTests := true, laidLooks := .later }
def GrammarCanonicalCardSaid : Prop := Claim7.holds Tryz.pinned (.plain (OpenSpec.ofChange grammarCanonicalSpec)) grammarCanonicalCard

/-- THE TIED CARD OF 'kalendslaw07.GrammarLayout'. -/
def grammarLayoutCard : Claim7 := { stood := { row := grammarLayoutRow, standIns := [], harness := (true, "f3dc0648b220c03b6f5bfa5b86199d18c12069ec53fb667842257fdda05ce2b9"), looks := true }, kinds := [], alts := [], laidByText := true, laidKinds := [.data, .data, .data, .data, .sentinel, .sentinel, .pinned], laidTests := true, laidLooks := .later }
def GrammarLayoutCardSaid : Prop := Claim7.holds Tryz.pinned (.plain (OpenSpec.ofChange grammarLayoutSpec)) grammarLayoutCard

/-- THE TIED CARD OF 'kalendslaw07.GrammarFirstError'. -/
def grammarFirstErrorCard : Claim7 := { stood := { row := grammarFirstErrorRow, standIns := [], harness := (true, "f3dc0648b220c03b6f5bfa5b86199d18c12069ec53fb667842257fdda05ce2b9"), looks := true }, kinds := [], alts := [], laidByText := true, laidKinds := [.data, .data, .data, .data, .sentinel, .sentinel, .pinned], laidTests := true, laidLooks := .later }
def GrammarFirstErrorCardSaid : Prop := Claim7.holds Tryz.pinned (.plain (OpenSpec.ofChange grammarFirstErrorSpec)) grammarFirstErrorCard

/-- THE TIED CARD OF 'kalendslaw07.GrammarLibraries'. -/
def grammarLibrariesCard : Claim7 := { stood := { row := grammarLibrariesRow, standIns := [], harness := (true, "f3dc0648b220c03b6f5bfa5b86199d18c12069ec53fb667842257fdda05ce2b9"), looks := true }, kinds := [], alts := [], laidByText := true, laidKinds := [.data, .data, .data, .data, .sentinel, .sentinel, .pinned], laidTests := true, laidLooks := .later }
def GrammarLibrariesCardSaid : Prop := Claim7.holds Tryz.pinned (.plain (OpenSpec.ofChange grammarLibrariesSpec)) grammarLibrariesCard

/-- THE TIED CARD OF 'kalendslaw07.GrammarLines'. -/
def grammarLinesCard : Claim7 := { stood := { row := grammarLinesRow, standIns := [], harness := (true, "f3dc0648b220c03b6f5bfa5b86199d18c12069ec53fb667842257fdda05ce2b9"), looks := true }, kinds := [], alts := [], laidByText := true, laidKinds := [.data, .data, .data, .data, .sentinel, .sentinel, .pinned], laidTests := true, laidLooks := .later }
def GrammarLinesCardSaid : Prop := Claim7.holds Tryz.pinned (.plain (OpenSpec.ofChange grammarLinesSpec)) grammarLinesCard

/-- THE TIED CARD OF 'kalendslaw07.GrammarValid'. -/
def grammarValidCard : Claim7 := { stood := { row := grammarValidRow, standIns := [], harness := (true, "f3dc0648b220c03b6f5bfa5b86199d18c12069ec53fb667842257fdda05ce2b9"), looks := true }, kinds := [], alts := [], laidByText := true, laidKinds := [.data, .data, .data, .data, .sentinel, .sentinel, .pinned], laidTests := true, laidLooks := .later }
def GrammarValidCardSaid : Prop := Claim7.holds Tryz.pinned (.plain (OpenSpec.ofChange grammarValidSpec)) grammarValidCard

/-- THE TIED CARD OF 'kalendslaw07.GrammarSubstitutes'. -/
def grammarSubstitutesCard : Claim7 := { stood := { row := grammarSubstitutesRow, standIns := [], harness := (true, "f3dc0648b220c03b6f5bfa5b86199d18c12069ec53fb667842257fdda05ce2b9"), looks := true }, kinds := [], alts := [], laidByText := true, laidKinds := [.data, .data, .data, .data, .sentinel, .sentinel, .pinned], laidTests := true, laidLooks := .later }
def GrammarSubstitutesCardSaid : Prop := Claim7.holds Tryz.pinned (.plain (OpenSpec.ofChange grammarSubstitutesSpec)) grammarSubstitutesCard

/-- THE TIED CARD OF 'kalendslaw07.GrammarMeaning'. -/
def grammarMeaningCard : Claim7 := { stood := { row := grammarMeaningRow, standIns := [], harness := (true, "f3dc0648b220c03b6f5bfa5b86199d18c12069ec53fb667842257fdda05ce2b9"), looks := true }, kinds := [], alts := [], laidByText := true, laidKinds := [.data, .data, .data, .data, .sentinel, .sentinel, .pinned], laidTests := true, laidLooks := .later }
def GrammarMeaningCardSaid : Prop := Claim7.holds Tryz.pinned (.plain (OpenSpec.ofChange grammarMeaningSpec)) grammarMeaningCard

/-- THE TIED CARD OF 'kalendslaw07.GrammarLists'. -/
def grammarListsCard : Claim7 := { stood := { row := grammarListsRow, standIns := [], harness := (true, "f3dc0648b220c03b6f5bfa5b86199d18c12069ec53fb667842257fdda05ce2b9"), looks := true }, kinds := [], alts := [], laidByText := true, laidKinds := [.data, .data, .data, .data, .sentinel, .sentinel, .pinned], laidTests := true, laidLooks := .later }
def GrammarListsCardSaid : Prop := Claim7.holds Tryz.pinned (.plain (OpenSpec.ofChange grammarListsSpec)) grammarListsCard

/-- THE SECOND FORM's CARD OF 'kalendslaw07.GrammarParseMatchesReference'. -/
def grammarParseMatchesReferenceUptoCard : Claim7 := { stood := { row := grammarParseMatchesReferenceUptoRow, standIns := [], harness := (true, "f3dc0648b220c03b6f5bfa5b86199d18c12069ec53fb667842257fdda05ce2b9"), looks := true }, kinds := [], alts := [], laidByText := true, laidKinds := [.data, .data, .data, .data, .sentinel, .sentinel, .pinned], laidTests := true, laidLooks := .later }
def GrammarParseMatchesReferenceUptoCardSaid : Prop := Claim7.holds Tryz.pinned (.plain (OpenSpec.upto grammarParseMatchesReferenceSpec)) grammarParseMatchesReferenceUptoCard

/-- THE SECOND FORM's CARD OF 'kalendslaw07.GrammarFormatMatchesReference'. -/
def grammarFormatMatchesReferenceUptoCard : Claim7 := { stood := { row := grammarFormatMatchesReferenceUptoRow, standIns := [], harness := (true, "f3dc0648b220c03b6f5bfa5b86199d18c12069ec53fb667842257fdda05ce2b9"), looks := true }, kinds := [], alts := [], laidByText := true, laidKinds := [.data, .data, .data, .data, .sentinel, .sentinel, .pinned], laidTests := true, laidLooks := .later }
def GrammarFormatMatchesReferenceUptoCardSaid : Prop := Claim7.holds Tryz.pinned (.plain (OpenSpec.upto grammarFormatMatchesReferenceSpec)) grammarFormatMatchesReferenceUptoCard

/-- THE SECOND FORM's CARD OF 'kalendslaw07.GrammarRoundTrip'. -/
def grammarRoundTripUptoCard : Claim7 := { stood := { row := grammarRoundTripUptoRow, standIns := [], harness := (true, "f3dc0648b220c03b6f5bfa5b86199d18c12069ec53fb667842257fdda05ce2b9"), looks := true }, kinds := [], alts := [], laidByText := true, laidKinds := [.data, .data, .data, .data, .sentinel, .sentinel, .pinned], laidTests := true, laidLooks := .later }
def GrammarRoundTripUptoCardSaid : Prop := Claim7.holds Tryz.pinned (.plain (OpenSpec.upto grammarRoundTripSpec)) grammarRoundTripUptoCard

/-- THE SECOND FORM's CARD OF 'kalendslaw07.GrammarCanonical'. -/
def grammarCanonicalUptoCard : Claim7 := { stood := { row := grammarCanonicalUptoRow, standIns := [], harness := (true, "f3dc0648b220c03b6f5bfa5b86199d18c12069ec53fb667842257fdda05ce2b9"), looks := true }, kinds := [], alts := [], laidByText := true, laidKinds := [.data, .data, .data, .data, .sentinel, .sentinel, .pinned], laidTests := true, laidLooks := .later }
def GrammarCanonicalUptoCardSaid : Prop := Claim7.holds Tryz.pinned (.plain (OpenSpec.upto grammarCanonicalSpec)) grammarCanonicalUptoCard

/-- THE SECOND FORM's CARD OF 'kalendslaw07.GrammarLayout'. -/
def grammarLayoutUptoCard : Claim7 := { stood := { row := grammarLayoutUptoRow, standIns := [], harness := (true, "f3dc0648b220c03b6f5bfa5b86199d18c12069ec53fb667842257fdda05ce2b9"), looks := true }, kinds := [], alts := [], laidByText := true, laidKinds := [.data, .data, .data, .data, .sentinel, .sentinel, .pinned], laidTests := true, laidLooks := .later }
def GrammarLayoutUptoCardSaid : Prop := Claim7.holds Tryz.pinned (.plain (OpenSpec.upto grammarLayoutSpec)) grammarLayoutUptoCard

/-- THE SECOND FORM's CARD OF 'kalendslaw07.GrammarFirstError'. -/
def grammarFirstErrorUptoCard : Claim7 := { stood := { row := grammarFirstErrorUptoRow, standIns := [], harness := (true, "f3dc0648b220c03b6f5bfa5b86199d18c12069ec53fb667842257fdda05ce2b9"), looks := true }, kinds := [], alts := [], laidByText := true, laidKinds := [.data, .data, .data, .data, .sentinel, .sentinel, .pinned], laidTests := true, laidLooks := .later }
def GrammarFirstErrorUptoCardSaid : Prop := Claim7.holds Tryz.pinned (.plain (OpenSpec.upto grammarFirstErrorSpec)) grammarFirstErrorUptoCard

/-- THE SECOND FORM's CARD OF 'kalendslaw07.GrammarLibraries'. -/
def grammarLibrariesUptoCard : Claim7 := { stood := { row := grammarLibrariesUptoRow, standIns := [], harness := (true, "f3dc0648b220c03b6f5bfa5b86199d18c12069ec53fb667842257fdda05ce2b9"), looks := true }, kinds := [], alts := [], laidByText := true, laidKinds := [.data, .data, .data, .data, .sentinel, .sentinel, .pinned], laidTests := true, laidLooks := .later }
def GrammarLibrariesUptoCardSaid : Prop := Claim7.holds Tryz.pinned (.plain (OpenSpec.upto grammarLibrariesSpec)) grammarLibrariesUptoCard

/-- THE SECOND FORM's CARD OF 'kalendslaw07.GrammarLines'. -/
def grammarLinesUptoCard : Claim7 := { stood := { row := grammarLinesUptoRow, standIns := [], harness := (true, "f3dc0648b220c03b6f5bfa5b86199d18c12069ec53fb667842257fdda05ce2b9"), looks := true }, kinds := [], alts := [], laidByText := true, laidKinds := [.data, .data, .data, .data, .sentinel, .sentinel, .pinned], laidTests := true, laidLooks := .later }
def GrammarLinesUptoCardSaid : Prop := Claim7.holds Tryz.pinned (.plain (OpenSpec.upto grammarLinesSpec)) grammarLinesUptoCard

/-- THE SECOND FORM's CARD OF 'kalendslaw07.GrammarValid'. -/
def grammarValidUptoCard : Claim7 := { stood := { row := grammarValidUptoRow, standIns := [], harness := (true, "f3dc0648b220c03b6f5bfa5b86199d18c12069ec53fb667842257fdda05ce2b9"), looks := true }, kinds := [], alts := [], laidByText := true, laidKinds := [.data, .data, .data, .data, .sentinel, .sentinel, .pinned], laidTests := true, laidLooks := .later }
def GrammarValidUptoCardSaid : Prop := Claim7.holds Tryz.pinned (.plain (OpenSpec.upto grammarValidSpec)) grammarValidUptoCard

/-- THE SECOND FORM's CARD OF 'kalendslaw07.GrammarSubstitutes'. -/
def grammarSubstitutesUptoCard : Claim7 := { stood := { row := grammarSubstitutesUptoRow, standIns := [], harness := (true, "f3dc0648b220c03b6f5bfa5b86199d18c12069ec53fb667842257fdda05ce2b9"), looks := true }, kinds := [], alts := [], laidByText := true, laidKinds := [.data, .data, .data, .data, .sentinel, .sentinel, .pinned], laidTests := true, laidLooks := .later }
def GrammarSubstitutesUptoCardSaid : Prop := Claim7.holds Tryz.pinned (.plain (OpenSpec.upto grammarSubstitutesSpec)) grammarSubstitutesUptoCard

/-- THE SECOND FORM's CARD OF 'kalendslaw07.GrammarMeaning'. -/
def grammarMeaningUptoCard : Claim7 := { stood := { row := grammarMeaningUptoRow, standIns := [], harness := (true, "f3dc0648b220c03b6f5bfa5b86199d18c12069ec53fb667842257fdda05ce2b9"), looks := true }, kinds := [], alts := [], laidByText := true, laidKinds := [.data, .data, .data, .data, .sentinel, .sentinel, .pinned], laidTests := true, laidLooks := .later }
def GrammarMeaningUptoCardSaid : Prop := Claim7.holds Tryz.pinned (.plain (OpenSpec.upto grammarMeaningSpec)) grammarMeaningUptoCard

/-- THE SECOND FORM's CARD OF 'kalendslaw07.GrammarLists'. -/
def grammarListsUptoCard : Claim7 := { stood := { row := grammarListsUptoRow, standIns := [], harness := (true, "f3dc0648b220c03b6f5bfa5b86199d18c12069ec53fb667842257fdda05ce2b9"), looks := true }, kinds := [], alts := [], laidByText := true, laidKinds := [.data, .data, .data, .data, .sentinel, .sentinel, .pinned], laidTests := true, laidLooks := .later }
def GrammarListsUptoCardSaid : Prop := Claim7.holds Tryz.pinned (.plain (OpenSpec.upto grammarListsSpec)) grammarListsUptoCard
end Rows
end Go.Proofs.YtpeaigpfddalcaaGreatDoor
