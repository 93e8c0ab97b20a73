/-
  DERIVED. GIVEN WITH THE SEED: THE CARDS: each row of YtpepbnieocdpbaaDoorRows.lean that lists a variable, with what it lists TIED to the program's text (the seventh form; the later family's looks); each row that meets fmt, with fmt's text TOLD by the authors' own Lean function (tested against real Go, not proved from fmt's source: count such statements apart). THE CARD IS WHAT COUNTS. Prove the row's statement (the work); the ties are given (YtpepbnieocdpbaaDoorTie.lean); close each card by the builder's one call (the guide's Derived/Test/ToyasCard.lean, 'card_holds'). Laid BY PROGRAM, IN A SANDBOX (cutbox-door.mjs). By AI agents, Wed Nov 11 2026. No macro, syntax, notation, axiom, sorry.
-/
import Derived.Test.YtpepbnieocdpbaaDoorRows
import GoSem.ClaimSeven
namespace Go.Proofs.YtpepbnieocdpbaaDoor
namespace Rows

/-- THE TIED CARD OF 'kalendslaw03.DigestMatchesReference'. -/
def digestMatchesReferenceCard : Claim7 := { stood := { row := digestMatchesReferenceRow, standIns := [], harness := (true, "97d615ed82b09b56629595c818ee66ac747fe842d9014a0782f598d29604ddf9"), looks := false }, kinds := [], alts := [], laidByText := true, laidKinds := [.data], laidTests := true, laidLooks := .later }
def DigestMatchesReferenceCardSaid : Prop := Claim7.holds Tryd.pinned (.plain (OpenSpec.ofChange digestMatchesReferenceSpec)) digestMatchesReferenceCard

/-- THE TIED CARD OF 'kalendslaw03.DigestUnhexMatchesReference'. -/
def digestUnhexMatchesReferenceCard : Claim7 := { stood := { row := digestUnhexMatchesReferenceRow, standIns := [], harness := (true, "97d615ed82b09b56629595c818ee66ac747fe842d9014a0782f598d29604ddf9"), looks := false }, kinds := [], alts := [], laidByText := true, laidKinds := [.data], laidTests := true, laidLooks := .later }
def DigestUnhexMatchesReferenceCardSaid : Prop := Claim7.holds Tryd.pinned (.plain (OpenSpec.ofChange digestUnhexMatchesReferenceSpec)) digestUnhexMatchesReferenceCard

/-- THE TIED CARD OF 'kalendslaw03.DigestLengths'. -/
def digestLengthsCard : Claim7 := { stood := { row := digestLengthsRow, standIns := [], harness := (true, "97d615ed82b09b56629595c818ee66ac747fe842d9014a0782f598d29604ddf9"), looks := false }, kinds := [], alts := [], laidByText := true, laidKinds := [.data], laidTests := true, laidLooks := .later }
def DigestLengthsCardSaid : Prop := Claim7.holds Tryd.pinned (.plain (OpenSpec.ofChange digestLengthsSpec)) digestLengthsCard

/-- THE TIED CARD OF 'kalendslaw03.DigestKeyedIsNested'. -/
def digestKeyedIsNestedCard : Claim7 := { stood := { row := digestKeyedIsNestedRow, standIns := [], harness := (true, "97d615ed82b09b56629595c818ee66ac747fe842d9014a0782f598d29604ddf9"), looks := false }, kinds := [], alts := [], laidByText := true, laidKinds := [.data], laidTests := true, laidLooks := .later }
def DigestKeyedIsNestedCardSaid : Prop := Claim7.holds Tryd.pinned (.plain (OpenSpec.ofChange digestKeyedIsNestedSpec)) digestKeyedIsNestedCard

/-- THE TIED CARD OF 'kalendslaw03.DigestFieldsAreInjective'. -/
def digestFieldsAreInjectiveCard : Claim7 := { stood := { row := digestFieldsAreInjectiveRow, standIns := [], harness := (true, "97d615ed82b09b56629595c818ee66ac747fe842d9014a0782f598d29604ddf9"), looks := false }, kinds := [], alts := [], laidByText := true, laidKinds := [.data], laidTests := true, laidLooks := .later }
def DigestFieldsAreInjectiveCardSaid : Prop := Claim7.holds Tryd.pinned (.plain (OpenSpec.ofChange digestFieldsAreInjectiveSpec)) digestFieldsAreInjectiveCard

/-- THE TIED CARD OF 'kalendslaw03.DigestSplits'. -/
def digestSplitsCard : Claim7 := { stood := { row := digestSplitsRow, standIns := [], harness := (true, "97d615ed82b09b56629595c818ee66ac747fe842d9014a0782f598d29604ddf9"), looks := false }, kinds := [], alts := [], laidByText := true, laidKinds := [.data], laidTests := true, laidLooks := .later }
def DigestSplitsCardSaid : Prop := Claim7.holds Tryd.pinned (.plain (OpenSpec.ofChange digestSplitsSpec)) digestSplitsCard

/-- THE TIED CARD OF 'kalendslaw03.DigestNotation'. -/
def digestNotationCard : Claim7 := { stood := { row := digestNotationRow, standIns := [], harness := (true, "97d615ed82b09b56629595c818ee66ac747fe842d9014a0782f598d29604ddf9"), looks := false }, kinds := [], alts := [], laidByText := true, laidKinds := [.data], laidTests := true, laidLooks := .later }
def DigestNotationCardSaid : Prop := Claim7.holds Tryd.pinned (.plain (OpenSpec.ofChange digestNotationSpec)) digestNotationCard

/-- THE TIED CARD OF 'kalendslaw03.DigestChanges'. -/
def digestChangesCard : Claim7 := { stood := { row := digestChangesRow, standIns := [], harness := (true, "97d615ed82b09b56629595c818ee66ac747fe842d9014a0782f598d29604ddf9"), looks := false }, kinds := [], alts := [], laidByText := true, laidKinds := [.data], laidTests := true, laidLooks := .later }
def DigestChangesCardSaid : Prop := Claim7.holds Tryd.pinned (.plain (OpenSpec.ofChange digestChangesSpec)) digestChangesCard

/-- THE TIED CARD OF 'kalendslaw03.DigestPurity'. -/
def digestPurityCard : Claim7 := { stood := { row := digestPurityRow, standIns := [], harness := (true, "97d615ed82b09b56629595c818ee66ac747fe842d9014a0782f598d29604ddf9"), looks := false }, kinds := [], alts := [], laidByText := true, laidKinds := [.data], laidTests := true, laidLooks := .later }
def DigestPurityCardSaid : Prop := Claim7.holds Tryd.pinned (.plain (OpenSpec.ofChange digestPuritySpec)) digestPurityCard

/-- THE SECOND FORM's CARD OF 'kalendslaw03.DigestMatchesReference'. -/
def digestMatchesReferenceUptoCard : Claim7 := { stood := { row := digestMatchesReferenceUptoRow, standIns := [], harness := (true, "97d615ed82b09b56629595c818ee66ac747fe842d9014a0782f598d29604ddf9"), looks := false }, kinds := [], alts := [], laidByText := true, laidKinds := [.data], laidTests := true, laidLooks := .later }
def DigestMatchesReferenceUptoCardSaid : Prop := Claim7.holds Tryd.pinned (.plain (OpenSpec.upto digestMatchesReferenceSpec)) digestMatchesReferenceUptoCard

/-- THE SECOND FORM's CARD OF 'kalendslaw03.DigestUnhexMatchesReference'. -/
def digestUnhexMatchesReferenceUptoCard : Claim7 := { stood := { row := digestUnhexMatchesReferenceUptoRow, standIns := [], harness := (true, "97d615ed82b09b56629595c818ee66ac747fe842d9014a0782f598d29604ddf9"), looks := false }, kinds := [], alts := [], laidByText := true, laidKinds := [.data], laidTests := true, laidLooks := .later }
def DigestUnhexMatchesReferenceUptoCardSaid : Prop := Claim7.holds Tryd.pinned (.plain (OpenSpec.upto digestUnhexMatchesReferenceSpec)) digestUnhexMatchesReferenceUptoCard

/-- THE SECOND FORM's CARD OF 'kalendslaw03.DigestLengths'. -/
def digestLengthsUptoCard : Claim7 := { stood := { row := digestLengthsUptoRow, standIns := [], harness := (true, "97d615ed82b09b56629595c818ee66ac747fe842d9014a0782f598d29604ddf9"), looks := false }, kinds := [], alts := [], laidByText := true, laidKinds := [.data], laidTests := true, laidLooks := .later }
def DigestLengthsUptoCardSaid : Prop := Claim7.holds Tryd.pinned (.plain (OpenSpec.upto digestLengthsSpec)) digestLengthsUptoCard

/-- THE SECOND FORM's CARD OF 'kalendslaw03.DigestKeyedIsNested'. -/
def digestKeyedIsNestedUptoCard : Claim7 := { stood := { row := digestKeyedIsNestedUptoRow, standIns := [], harness := (true, "97d615ed82b09b56629595c818ee66ac747fe842d9014a0782f598d29604ddf9"), looks := false }, kinds := [], alts := [], laidByText := true, laidKinds := [.data], laidTests := true, laidLooks := .later }
def DigestKeyedIsNestedUptoCardSaid : Prop := Claim7.holds Tryd.pinned (.plain (OpenSpec.upto digestKeyedIsNestedSpec)) digestKeyedIsNestedUptoCard

/-- THE SECOND FORM's CARD OF 'kalendslaw03.DigestFieldsAreInjective'. -/
def digestFieldsAreInjectiveUptoCard : Claim7 := { stood := { row := digestFieldsAreInjectiveUptoRow, standIns := [], harness := (true, "97d615ed82b09b56629595c818ee66ac747fe842d9014a0782f598d29604ddf9"), looks := false }, kinds := [], alts := [], laidByText := true, laidKinds := [.data], laidTests := true, laidLooks := .later }
def DigestFieldsAreInjectiveUptoCardSaid : Prop := Claim7.holds Tryd.pinned (.plain (OpenSpec.upto digestFieldsAreInjectiveSpec)) digestFieldsAreInjectiveUptoCard

/-- THE SECOND FORM's CARD OF 'kalendslaw03.DigestSplits'. -/
def digestSplitsUptoCard : Claim7 := { stood := { row := digestSplitsUptoRow, standIns := [], harness := (true, "97d615ed82b09b56629595c818ee66ac747fe842d9014a0782f598d29604ddf9"), looks := false }, kinds := [], alts := [], laidByText := true, laidKinds := [.data], laidTests := true, laidLooks := .later }
def DigestSplitsUptoCardSaid : Prop := Claim7.holds Tryd.pinned (.plain (OpenSpec.upto digestSplitsSpec)) digestSplitsUptoCard

/-- THE SECOND FORM's CARD OF 'kalendslaw03.DigestNotation'. -/
def digestNotationUptoCard : Claim7 := { stood := { row := digestNotationUptoRow, standIns := [], harness := (true, "97d615ed82b09b56629595c818ee66ac747fe842d9014a0782f598d29604ddf9"), looks := false }, kinds := [], alts := [], laidByText := true, laidKinds := [.data], laidTests := true, laidLooks := .later }
def DigestNotationUptoCardSaid : Prop := Claim7.holds Tryd.pinned (.plain (OpenSpec.upto digestNotationSpec)) digestNotationUptoCard

/-- THE SECOND FORM's CARD OF 'kalendslaw03.DigestChanges'. -/
def digestChangesUptoCard : Claim7 := { stood := { row := digestChangesUptoRow, standIns := [], harness := (true, "97d615ed82b09b56629595c818ee66ac747fe842d9014a0782f598d29604ddf9"), looks := false }, kinds := [], alts := [], laidByText := true, laidKinds := [.data], laidTests := true, laidLooks := .later }
def DigestChangesUptoCardSaid : Prop := Claim7.holds Tryd.pinned (.plain (OpenSpec.upto digestChangesSpec)) digestChangesUptoCard

/-- THE SECOND FORM's CARD OF 'kalendslaw03.DigestPurity'. -/
def digestPurityUptoCard : Claim7 := { stood := { row := digestPurityUptoRow, standIns := [], harness := (true, "97d615ed82b09b56629595c818ee66ac747fe842d9014a0782f598d29604ddf9"), looks := false }, kinds := [], alts := [], laidByText := true, laidKinds := [.data], laidTests := true, laidLooks := .later }
def DigestPurityUptoCardSaid : Prop := Claim7.holds Tryd.pinned (.plain (OpenSpec.upto digestPuritySpec)) digestPurityUptoCard
end Rows
end Go.Proofs.YtpepbnieocdpbaaDoor
