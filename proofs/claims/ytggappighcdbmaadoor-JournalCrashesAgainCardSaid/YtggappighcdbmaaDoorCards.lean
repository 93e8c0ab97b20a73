/-
  DERIVED. GIVEN WITH THE SEED: THE CARDS: each row of YtggappighcdbmaaDoorRows.lean that lists a variable, with what it lists TIED to the program's text (the seventh form; the later family's looks); each row that meets fmt, with fmt's text TOLD by the authors' own Lean function (tested against real Go, not proved from fmt's source: count such statements apart). THE CARD IS WHAT COUNTS. Prove the row's statement (the work); the ties are given (YtggappighcdbmaaDoorTie.lean); close each card by the builder's one call (the guide's Derived/Test/ToyasCard.lean, 'card_holds'). Laid BY PROGRAM, IN A SANDBOX (cutbox-door.mjs). By AI agents, Wed Nov 11 2026. No macro, syntax, notation, axiom, sorry.
-/
import Derived.Test.YtggappighcdbmaaDoorRows
import GoSem.ClaimSeven
namespace Go.Proofs.YtggappighcdbmaaDoor
namespace Rows

/-- THE TIED CARD OF 'kalendslaw23.JournalSequence'. -/
def journalSequenceCard : Claim7 := { stood := { row := journalSequenceRow, standIns := [], harness := (true, "4685c97a2d92f257b1190f615544600964c4bfb10ac698ae2524efa7bbf5fe0a"), looks := false }, kinds := [], alts := [], laidByText := true, laidKinds := [.data], laidTests := true, laidLooks := .later }
def JournalSequenceCardSaid : Prop := Claim7.holds Tryd.pinned (.plain (OpenSpec.ofChange journalSequenceSpec)) journalSequenceCard

/-- THE TIED CARD OF 'kalendslaw23.JournalDurability'. -/
def journalDurabilityCard : Claim7 := { stood := { row := journalDurabilityRow, standIns := [], harness := (true, "4685c97a2d92f257b1190f615544600964c4bfb10ac698ae2524efa7bbf5fe0a"), looks := false }, kinds := [], alts := [], laidByText := true, laidKinds := [.data], laidTests := true, laidLooks := .later }
def JournalDurabilityCardSaid : Prop := Claim7.holds Tryd.pinned (.plain (OpenSpec.ofChange journalDurabilitySpec)) journalDurabilityCard

/-- THE TIED CARD OF 'kalendslaw23.JournalTornByte'. -/
def journalTornByteCard : Claim7 := { stood := { row := journalTornByteRow, standIns := [], harness := (true, "4685c97a2d92f257b1190f615544600964c4bfb10ac698ae2524efa7bbf5fe0a"), looks := false }, kinds := [], alts := [], laidByText := true, laidKinds := [.data], laidTests := true, laidLooks := .later }
def JournalTornByteCardSaid : Prop := Claim7.holds Tryd.pinned (.plain (OpenSpec.ofChange journalTornByteSpec)) journalTornByteCard

/-- THE TIED CARD OF 'kalendslaw23.JournalLimits'. -/
def journalLimitsCard : Claim7 := { stood := { row := journalLimitsRow, standIns := [], harness := (true, "4685c97a2d92f257b1190f615544600964c4bfb10ac698ae2524efa7bbf5fe0a"), looks := false }, kinds := [], alts := [], laidByText := true, laidKinds := [.data], laidTests := true, laidLooks := .later }
def JournalLimitsCardSaid : Prop := Claim7.holds Tryd.pinned (.plain (OpenSpec.ofChange journalLimitsSpec)) journalLimitsCard

/-- THE TIED CARD OF 'kalendslaw23.JournalMatchesReference'. -/
def journalMatchesReferenceCard : Claim7 := { stood := { row := journalMatchesReferenceRow, standIns := [], harness := (true, "4685c97a2d92f257b1190f615544600964c4bfb10ac698ae2524efa7bbf5fe0a"), looks := false }, kinds := [], alts := [], laidByText := true, laidKinds := [.data], laidTests := true, laidLooks := .later }
def JournalMatchesReferenceCardSaid : Prop := Claim7.holds Tryd.pinned (.plain (OpenSpec.ofChange journalMatchesReferenceSpec)) journalMatchesReferenceCard

/-- THE TIED CARD OF 'kalendslaw23.JournalMadeMatchesReference'. -/
def journalMadeMatchesReferenceCard : Claim7 := { stood := { row := journalMadeMatchesReferenceRow, standIns := [], harness := (true, "4685c97a2d92f257b1190f615544600964c4bfb10ac698ae2524efa7bbf5fe0a"), looks := false }, kinds := [], alts := [], laidByText := true, laidKinds := [.data], laidTests := true, laidLooks := .later }
def JournalMadeMatchesReferenceCardSaid : Prop := Claim7.holds Tryd.pinned (.plain (OpenSpec.ofChange journalMadeMatchesReferenceSpec)) journalMadeMatchesReferenceCard

/-- THE TIED CARD OF 'kalendslaw23.JournalContinues'. -/
def journalContinuesCard : Claim7 := { stood := { row := journalContinuesRow, standIns := [], harness := (true, "4685c97a2d92f257b1190f615544600964c4bfb10ac698ae2524efa7bbf5fe0a"), looks := false }, kinds := [], alts := [], laidByText := true, laidKinds := [.data], laidTests := true, laidLooks := .later }
def JournalContinuesCardSaid : Prop := Claim7.holds Tryd.pinned (.plain (OpenSpec.ofChange journalContinuesSpec)) journalContinuesCard

/-- THE TIED CARD OF 'kalendslaw23.JournalCrashesAgain'. -/
def journalCrashesAgainCard : Claim7 := { stood := { row := journalCrashesAgainRow, standIns := [], harness := (true, "4685c97a2d92f257b1190f615544600964c4bfb10ac698ae2524efa7bbf5fe0a"), looks := false }, kinds := [], alts := [], laidByText := true, laidKinds := [.data], laidTests := true, laidLooks := .later }
def JournalCrashesAgainCardSaid : Prop := Claim7.holds Tryd.pinned (.plain (OpenSpec.ofChange journalCrashesAgainSpec)) journalCrashesAgainCard

/-- THE TIED CARD OF 'kalendslaw23.JournalPurity'. -/
def journalPurityCard : Claim7 := { stood := { row := journalPurityRow, standIns := [], harness := (true, "4685c97a2d92f257b1190f615544600964c4bfb10ac698ae2524efa7bbf5fe0a"), looks := false }, kinds := [], alts := [], laidByText := true, laidKinds := [.data], laidTests := true, laidLooks := .later }
def JournalPurityCardSaid : Prop := Claim7.holds Tryd.pinned (.plain (OpenSpec.ofChange journalPuritySpec)) journalPurityCard

/-- THE SECOND FORM's CARD OF 'kalendslaw23.JournalSequence'. -/
def journalSequenceUptoCard : Claim7 := { stood := { row := journalSequenceUptoRow, standIns := [], harness := (true, "4685c97a2d92f257b1190f615544600964c4bfb10ac698ae2524efa7bbf5fe0a"), looks := false }, kinds := [], alts := [], laidByText := true, laidKinds := [.data], laidTests := true, laidLooks := .later }
def JournalSequenceUptoCardSaid : Prop := Claim7.holds Tryd.pinned (.plain (OpenSpec.upto journalSequenceSpec)) journalSequenceUptoCard

/-- THE SECOND FORM's CARD OF 'kalendslaw23.JournalDurability'. -/
def journalDurabilityUptoCard : Claim7 := { stood := { row := journalDurabilityUptoRow, standIns := [], harness := (true, "4685c97a2d92f257b1190f615544600964c4bfb10ac698ae2524efa7bbf5fe0a"), looks := false }, kinds := [], alts := [], laidByText := true, laidKinds := [.data], laidTests := true, laidLooks := .later }
def JournalDurabilityUptoCardSaid : Prop := Claim7.holds Tryd.pinned (.plain (OpenSpec.upto journalDurabilitySpec)) journalDurabilityUptoCard

/-- THE SECOND FORM's CARD OF 'kalendslaw23.JournalTornByte'. -/
def journalTornByteUptoCard : Claim7 := { stood := { row := journalTornByteUptoRow, standIns := [], harness := (true, "4685c97a2d92f257b1190f615544600964c4bfb10ac698ae2524efa7bbf5fe0a"), looks := false }, kinds := [], alts := [], laidByText := true, laidKinds := [.data], laidTests := true, laidLooks := .later }
def JournalTornByteUptoCardSaid : Prop := Claim7.holds Tryd.pinned (.plain (OpenSpec.upto journalTornByteSpec)) journalTornByteUptoCard

/-- THE SECOND FORM's CARD OF 'kalendslaw23.JournalLimits'. -/
def journalLimitsUptoCard : Claim7 := { stood := { row := journalLimitsUptoRow, standIns := [], harness := (true, "4685c97a2d92f257b1190f615544600964c4bfb10ac698ae2524efa7bbf5fe0a"), looks := false }, kinds := [], alts := [], laidByText := true, laidKinds := [.data], laidTests := true, laidLooks := .later }
def JournalLimitsUptoCardSaid : Prop := Claim7.holds Tryd.pinned (.plain (OpenSpec.upto journalLimitsSpec)) journalLimitsUptoCard

/-- THE SECOND FORM's CARD OF 'kalendslaw23.JournalMatchesReference'. -/
def journalMatchesReferenceUptoCard : Claim7 := { stood := { row := journalMatchesReferenceUptoRow, standIns := [], harness := (true, "4685c97a2d92f257b1190f615544600964c4bfb10ac698ae2524efa7bbf5fe0a"), looks := false }, kinds := [], alts := [], laidByText := true, laidKinds := [.data], laidTests := true, laidLooks := .later }
def JournalMatchesReferenceUptoCardSaid : Prop := Claim7.holds Tryd.pinned (.plain (OpenSpec.upto journalMatchesReferenceSpec)) journalMatchesReferenceUptoCard

/-- THE SECOND FORM's CARD OF 'kalendslaw23.JournalMadeMatchesReference'. -/
def journalMadeMatchesReferenceUptoCard : Claim7 := { stood := { row := journalMadeMatchesReferenceUptoRow, standIns := [], harness := (true, "4685c97a2d92f257b1190f615544600964c4bfb10ac698ae2524efa7bbf5fe0a"), looks := false }, kinds := [], alts := [], laidByText := true, laidKinds := [.data], laidTests := true, laidLooks := .later }
def JournalMadeMatchesReferenceUptoCardSaid : Prop := Claim7.holds Tryd.pinned (.plain (OpenSpec.upto journalMadeMatchesReferenceSpec)) journalMadeMatchesReferenceUptoCard

/-- THE SECOND FORM's CARD OF 'kalendslaw23.JournalContinues'. -/
def journalContinuesUptoCard : Claim7 := { stood := { row := journalContinuesUptoRow, standIns := [], harness := (true, "4685c97a2d92f257b1190f615544600964c4bfb10ac698ae2524efa7bbf5fe0a"), looks := false }, kinds := [], alts := [], laidByText := true, laidKinds := [.data], laidTests := true, laidLooks := .later }
def JournalContinuesUptoCardSaid : Prop := Claim7.holds Tryd.pinned (.plain (OpenSpec.upto journalContinuesSpec)) journalContinuesUptoCard

/-- THE SECOND FORM's CARD OF 'kalendslaw23.JournalCrashesAgain'. -/
def journalCrashesAgainUptoCard : Claim7 := { stood := { row := journalCrashesAgainUptoRow, standIns := [], harness := (true, "4685c97a2d92f257b1190f615544600964c4bfb10ac698ae2524efa7bbf5fe0a"), looks := false }, kinds := [], alts := [], laidByText := true, laidKinds := [.data], laidTests := true, laidLooks := .later }
def JournalCrashesAgainUptoCardSaid : Prop := Claim7.holds Tryd.pinned (.plain (OpenSpec.upto journalCrashesAgainSpec)) journalCrashesAgainUptoCard

/-- THE SECOND FORM's CARD OF 'kalendslaw23.JournalPurity'. -/
def journalPurityUptoCard : Claim7 := { stood := { row := journalPurityUptoRow, standIns := [], harness := (true, "4685c97a2d92f257b1190f615544600964c4bfb10ac698ae2524efa7bbf5fe0a"), looks := false }, kinds := [], alts := [], laidByText := true, laidKinds := [.data], laidTests := true, laidLooks := .later }
def JournalPurityUptoCardSaid : Prop := Claim7.holds Tryd.pinned (.plain (OpenSpec.upto journalPuritySpec)) journalPurityUptoCard
end Rows
end Go.Proofs.YtggappighcdbmaaDoor
