/-
  DERIVED. GIVEN WITH THE SEED: THE CARDS: each row of YthkhgpbjfcmopaaGreatDoorRows.lean that lists a variable, with what it lists TIED to the program's text (the seventh form; the later family's looks); each row that meets fmt, with fmt's text TOLD by the authors' own Lean function (tested against real Go, not proved from fmt's source: count such statements apart). THE CARD IS WHAT COUNTS. Prove the row's statement (the work); the ties are given (YthkhgpbjfcmopaaGreatDoorTie.lean); close each card by the builder's one call (the guide's Derived/Test/ToyasCard.lean, 'card_holds'). Laid BY PROGRAM, IN A SANDBOX (cutbox-door.mjs). By AI agents, Wed Nov 11 2026. No macro, syntax, notation, axiom, sorry.
-/
import Derived.Test.YthkhgpbjfcmopaaGreatDoorRows
import GoSem.ClaimSeven
namespace Go.Proofs.YthkhgpbjfcmopaaGreatDoor
namespace Rows

/-- THE TIED CARD OF 'kalendslaw25.PolicyMatchesReference'. -/
def policyMatchesReferenceCard : Claim7 := { stood := { row := policyMatchesReferenceRow, standIns := [], harness := (true, "cb91407983c9542a7a71c33a87ecc609b3e7f9f6db3f54652a92018c407ee6cc"), looks := true }, kinds := [], alts := [], laidByText := true, laidKinds := [.data, .data, .data, .data, .sentinel, .sentinel, .pinned], laidTests := true, laidLooks := .later }
def PolicyMatchesReferenceCardSaid : Prop := Claim7.holds Tryz.pinned (.plain (OpenSpec.ofChange policyMatchesReferenceSpec)) policyMatchesReferenceCard

/-- THE TIED CARD OF 'kalendslaw25.PolicyMadeMatchesReference'. -/
def policyMadeMatchesReferenceCard : Claim7 := { stood := { row := policyMadeMatchesReferenceRow, standIns := [], harness := (true, "cb91407983c9542a7a71c33a87ecc609b3e7f9f6db3f54652a92018c407ee6cc"), looks := true }, kinds := [], alts := [], laidByText := true, laidKinds := [.data, .data, .data, .data, .sentinel, .sentinel, .pinned], laidTests := true, laidLooks := .later }
def PolicyMadeMatchesReferenceCardSaid : Prop := Claim7.holds Tryz.pinned (.plain (OpenSpec.ofChange policyMadeMatchesReferenceSpec)) policyMadeMatchesReferenceCard

/-- THE TIED CARD OF 'kalendslaw25.PolicyParseMatchesReference'. -/
def policyParseMatchesReferenceCard : Claim7 := { stood := { row := policyParseMatchesReferenceRow, standIns := [], harness := (true, "cb91407983c9542a7a71c33a87ecc609b3e7f9f6db3f54652a92018c407ee6cc"), looks := true }, kinds := [], alts := [], laidByText := true, laidKinds := [.data, .data, .data, .data, .sentinel, .sentinel, .pinned], laidTests := true, laidLooks := .later }
def PolicyParseMatchesReferenceCardSaid : Prop := Claim7.holds Tryz.pinned (.plain (OpenSpec.ofChange policyParseMatchesReferenceSpec)) policyParseMatchesReferenceCard

/-- THE TIED CARD OF 'kalendslaw25.PolicyFirstGrantDecides'. -/
def policyFirstGrantDecidesCard : Claim7 := { stood := { row := policyFirstGrantDecidesRow, standIns := [], harness := (true, "cb91407983c9542a7a71c33a87ecc609b3e7f9f6db3f54652a92018c407ee6cc"), looks := true }, kinds := [], alts := [], laidByText := true, laidKinds := [.data, .data, .data, .data, .sentinel, .sentinel, .pinned], laidTests := true, laidLooks := .later }
def PolicyFirstGrantDecidesCardSaid : Prop := Claim7.holds Tryz.pinned (.plain (OpenSpec.ofChange policyFirstGrantDecidesSpec)) policyFirstGrantDecidesCard

/-- THE TIED CARD OF 'kalendslaw25.PolicyMonotone'. -/
def policyMonotoneCard : Claim7 := { stood := { row := policyMonotoneRow, standIns := [], harness := (true, "cb91407983c9542a7a71c33a87ecc609b3e7f9f6db3f54652a92018c407ee6cc"), looks := true }, kinds := [], alts := [], laidByText := true, laidKinds := [.data, .data, .data, .data, .sentinel, .sentinel, .pinned], laidTests := true, laidLooks := .later }
def PolicyMonotoneCardSaid : Prop := Claim7.holds Tryz.pinned (.plain (OpenSpec.ofChange policyMonotoneSpec)) policyMonotoneCard

/-- THE TIED CARD OF 'kalendslaw25.PolicyStricterIsPreorder'. -/
def policyStricterIsPreorderCard : Claim7 := { stood := { row := policyStricterIsPreorderRow, standIns := [], harness := (true, "cb91407983c9542a7a71c33a87ecc609b3e7f9f6db3f54652a92018c407ee6cc"), looks := true }, kinds := [], alts := [], laidByText := true, laidKinds := [.data, .data, .data, .data, .sentinel, .sentinel, .pinned], laidTests := true, laidLooks := .later }
def PolicyStricterIsPreorderCardSaid : Prop := Claim7.holds Tryz.pinned (.plain (OpenSpec.ofChange policyStricterIsPreorderSpec)) policyStricterIsPreorderCard

/-- THE TIED CARD OF 'kalendslaw25.PolicyStricterAllowsLess'. -/
def policyStricterAllowsLessCard : Claim7 := { stood := { row := policyStricterAllowsLessRow, standIns := [], harness := (true, "cb91407983c9542a7a71c33a87ecc609b3e7f9f6db3f54652a92018c407ee6cc"), looks := true }, kinds := [], alts := [], laidByText := true, laidKinds := [.data, .data, .data, .data, .sentinel, .sentinel, .pinned], laidTests := true, laidLooks := .later }
def PolicyStricterAllowsLessCardSaid : Prop := Claim7.holds Tryz.pinned (.plain (OpenSpec.ofChange policyStricterAllowsLessSpec)) policyStricterAllowsLessCard

/-- THE TIED CARD OF 'kalendslaw25.PolicyDroppedGrants'. -/
def policyDroppedGrantsCard : Claim7 := { stood := { row := policyDroppedGrantsRow, standIns := [], harness := (true, "cb91407983c9542a7a71c33a87ecc609b3e7f9f6db3f54652a92018c407ee6cc"), looks := true }, kinds := [], alts := [], laidByText := true, laidKinds := [.data, .data, .data, .data, .sentinel, .sentinel, .pinned], laidTests := true, laidLooks := .later }
def PolicyDroppedGrantsCardSaid : Prop := Claim7.holds Tryz.pinned (.plain (OpenSpec.ofChange policyDroppedGrantsSpec)) policyDroppedGrantsCard

/-- THE TIED CARD OF 'kalendslaw25.PolicyTextRoundTrip'. -/
def policyTextRoundTripCard : Claim7 := { stood := { row := policyTextRoundTripRow, standIns := [], harness := (true, "cb91407983c9542a7a71c33a87ecc609b3e7f9f6db3f54652a92018c407ee6cc"), looks := true }, kinds := [], alts := [], laidByText := true, laidKinds := [.data, .data, .data, .data, .sentinel, .sentinel, .pinned], laidTests := true, laidLooks := .later }
def PolicyTextRoundTripCardSaid : Prop := Claim7.holds Tryz.pinned (.plain (OpenSpec.ofChange policyTextRoundTripSpec)) policyTextRoundTripCard

/-- THE TIED CARD OF 'kalendslaw25.PolicyTeamsAreASet'. -/
def policyTeamsAreASetCard : Claim7 := { stood := { row := policyTeamsAreASetRow, standIns := [], harness := (true, "cb91407983c9542a7a71c33a87ecc609b3e7f9f6db3f54652a92018c407ee6cc"), looks := true }, kinds := [], alts := [], laidByText := true, laidKinds := [.data, .data, .data, .data, .sentinel, .sentinel, .pinned], laidTests := true, laidLooks := .later }
def PolicyTeamsAreASetCardSaid : Prop := Claim7.holds Tryz.pinned (.plain (OpenSpec.ofChange policyTeamsAreASetSpec)) policyTeamsAreASetCard

/-- THE TIED CARD OF 'kalendstop.TopStricterPoliciesTellLess'. -/
def topStricterPoliciesTellLessCard : Claim7 := { stood := { row := topStricterPoliciesTellLessRow, standIns := [], harness := (true, "cb91407983c9542a7a71c33a87ecc609b3e7f9f6db3f54652a92018c407ee6cc"), looks := true }, kinds := [], alts := [], laidByText := true, laidKinds := [.data], laidTests := true, laidLooks := .later }
def TopStricterPoliciesTellLessCardSaid : Prop := Claim7.holds Tryz.pinned (.plain (OpenSpec.ofChange topStricterPoliciesTellLessSpec)) topStricterPoliciesTellLessCard

/-- THE SECOND FORM's CARD OF 'kalendslaw25.PolicyMatchesReference'. -/
def policyMatchesReferenceUptoCard : Claim7 := { stood := { row := policyMatchesReferenceUptoRow, standIns := [], harness := (true, "cb91407983c9542a7a71c33a87ecc609b3e7f9f6db3f54652a92018c407ee6cc"), looks := true }, kinds := [], alts := [], laidByText := true, laidKinds := [.data, .data, .data, .data, .sentinel, .sentinel, .pinned], laidTests := true, laidLooks := .later }
def PolicyMatchesReferenceUptoCardSaid : Prop := Claim7.holds Tryz.pinned (.plain (OpenSpec.upto policyMatchesReferenceSpec)) policyMatchesReferenceUptoCard

/-- THE SECOND FORM's CARD OF 'kalendslaw25.PolicyMadeMatchesReference'. -/
def policyMadeMatchesReferenceUptoCard : Claim7 := { stood := { row := policyMadeMatchesReferenceUptoRow, standIns := [], harness := (true, "cb91407983c9542a7a71c33a87ecc609b3e7f9f6db3f54652a92018c407ee6cc"), looks := true }, kinds := [], alts := [], laidByText := true, laidKinds := [.data, .data, .data, .data, .sentinel, .sentinel, .pinned], laidTests := true, laidLooks := .later }
def PolicyMadeMatchesReferenceUptoCardSaid : Prop := Claim7.holds Tryz.pinned (.plain (OpenSpec.upto policyMadeMatchesReferenceSpec)) policyMadeMatchesReferenceUptoCard

/-- THE SECOND FORM's CARD OF 'kalendslaw25.PolicyParseMatchesReference'. -/
def policyParseMatchesReferenceUptoCard : Claim7 := { stood := { row := policyParseMatchesReferenceUptoRow, standIns := [], harness := (true, "cb91407983c9542a7a71c33a87ecc609b3e7f9f6db3f54652a92018c407ee6cc"), looks := true }, kinds := [], alts := [], laidByText := true, laidKinds := [.data, .data, .data, .data, .sentinel, .sentinel, .pinned], laidTests := true, laidLooks := .later }
def PolicyParseMatchesReferenceUptoCardSaid : Prop := Claim7.holds Tryz.pinned (.plain (OpenSpec.upto policyParseMatchesReferenceSpec)) policyParseMatchesReferenceUptoCard

/-- THE SECOND FORM's CARD OF 'kalendslaw25.PolicyFirstGrantDecides'. -/
def policyFirstGrantDecidesUptoCard : Claim7 := { stood := { row := policyFirstGrantDecidesUptoRow, standIns := [], harness := (true, "cb91407983c9542a7a71c33a87ecc609b3e7f9f6db3f54652a92018c407ee6cc"), looks := true }, kinds := [], alts := [], laidByText := true, laidKinds := [.data, .data, .data, .data, .sentinel, .sentinel, .pinned], laidTests := true, laidLooks := .later }
def PolicyFirstGrantDecidesUptoCardSaid : Prop := Claim7.holds Tryz.pinned (.plain (OpenSpec.upto policyFirstGrantDecidesSpec)) policyFirstGrantDecidesUptoCard

/-- THE SECOND FORM's CARD OF 'kalendslaw25.PolicyMonotone'. -/
def policyMonotoneUptoCard : Claim7 := { stood := { row := policyMonotoneUptoRow, standIns := [], harness := (true, "cb91407983c9542a7a71c33a87ecc609b3e7f9f6db3f54652a92018c407ee6cc"), looks := true }, kinds := [], alts := [], laidByText := true, laidKinds := [.data, .data, .data, .data, .sentinel, .sentinel, .pinned], laidTests := true, laidLooks := .later }
def PolicyMonotoneUptoCardSaid : Prop := Claim7.holds Tryz.pinned (.plain (OpenSpec.upto policyMonotoneSpec)) policyMonotoneUptoCard

/-- THE SECOND FORM's CARD OF 'kalendslaw25.PolicyStricterIsPreorder'. -/
def policyStricterIsPreorderUptoCard : Claim7 := { stood := { row := policyStricterIsPreorderUptoRow, standIns := [], harness := (true, "cb91407983c9542a7a71c33a87ecc609b3e7f9f6db3f54652a92018c407ee6cc"), looks := true }, kinds := [], alts := [], laidByText := true, laidKinds := [.data, .data, .data, .data, .sentinel, .sentinel, .pinned], laidTests := true, laidLooks := .later }
def PolicyStricterIsPreorderUptoCardSaid : Prop := Claim7.holds Tryz.pinned (.plain (OpenSpec.upto policyStricterIsPreorderSpec)) policyStricterIsPreorderUptoCard

/-- THE SECOND FORM's CARD OF 'kalendslaw25.PolicyStricterAllowsLess'. -/
def policyStricterAllowsLessUptoCard : Claim7 := { stood := { row := policyStricterAllowsLessUptoRow, standIns := [], harness := (true, "cb91407983c9542a7a71c33a87ecc609b3e7f9f6db3f54652a92018c407ee6cc"), looks := true }, kinds := [], alts := [], laidByText := true, laidKinds := [.data, .data, .data, .data, .sentinel, .sentinel, .pinned], laidTests := true, laidLooks := .later }
def PolicyStricterAllowsLessUptoCardSaid : Prop := Claim7.holds Tryz.pinned (.plain (OpenSpec.upto policyStricterAllowsLessSpec)) policyStricterAllowsLessUptoCard

/-- THE SECOND FORM's CARD OF 'kalendslaw25.PolicyDroppedGrants'. -/
def policyDroppedGrantsUptoCard : Claim7 := { stood := { row := policyDroppedGrantsUptoRow, standIns := [], harness := (true, "cb91407983c9542a7a71c33a87ecc609b3e7f9f6db3f54652a92018c407ee6cc"), looks := true }, kinds := [], alts := [], laidByText := true, laidKinds := [.data, .data, .data, .data, .sentinel, .sentinel, .pinned], laidTests := true, laidLooks := .later }
def PolicyDroppedGrantsUptoCardSaid : Prop := Claim7.holds Tryz.pinned (.plain (OpenSpec.upto policyDroppedGrantsSpec)) policyDroppedGrantsUptoCard

/-- THE SECOND FORM's CARD OF 'kalendslaw25.PolicyTextRoundTrip'. -/
def policyTextRoundTripUptoCard : Claim7 := { stood := { row := policyTextRoundTripUptoRow, standIns := [], harness := (true, "cb91407983c9542a7a71c33a87ecc609b3e7f9f6db3f54652a92018c407ee6cc"), looks := true }, kinds := [], alts := [], laidByText := true, laidKinds := [.data, .data, .data, .data, .sentinel, .sentinel, .pinned], laidTests := true, laidLooks := .later }
def PolicyTextRoundTripUptoCardSaid : Prop := Claim7.holds Tryz.pinned (.plain (OpenSpec.upto policyTextRoundTripSpec)) policyTextRoundTripUptoCard

/-- THE SECOND FORM's CARD OF 'kalendslaw25.PolicyTeamsAreASet'. -/
def policyTeamsAreASetUptoCard : Claim7 := { stood := { row := policyTeamsAreASetUptoRow, standIns := [], harness := (true, "cb91407983c9542a7a71c33a87ecc609b3e7f9f6db3f54652a92018c407ee6cc"), looks := true }, kinds := [], alts := [], laidByText := true, laidKinds := [.data, .data, .data, .data, .sentinel, .sentinel, .pinned], laidTests := true, laidLooks := .later }
def PolicyTeamsAreASetUptoCardSaid : Prop := Claim7.holds Tryz.pinned (.plain (OpenSpec.upto policyTeamsAreASetSpec)) policyTeamsAreASetUptoCard

/-- THE SECOND FORM's CARD OF 'kalendstop.TopStricterPoliciesTellLess'. -/
def topStricterPoliciesTellLessUptoCard : Claim7 := { stood := { row := topStricterPoliciesTellLessUptoRow, standIns := [], harness := (true, "cb91407983c9542a7a71c33a87ecc609b3e7f9f6db3f54652a92018c407ee6cc"), looks := true }, kinds := [], alts := [], laidByText := true, laidKinds := [.data], laidTests := true, laidLooks := .later }
def TopStricterPoliciesTellLessUptoCardSaid : Prop := Claim7.holds Tryz.pinned (.plain (OpenSpec.upto topStricterPoliciesTellLessSpec)) topStricterPoliciesTellLessUptoCard
end Rows
end Go.Proofs.YthkhgpbjfcmopaaGreatDoor
