/-
  NARROWER THAN 'FOR EVERY INPUT', by the rows' own cells (each row's printed sentence says how): JournalSequence: laid · JournalDurability: laid · JournalTornByte: laid · JournalLimits: laid · JournalMatchesReference: laid · JournalMadeMatchesReference: laid · JournalContinues: laid · JournalCrashesAgain: laid · JournalPurity: laid.
  DERIVED. THE GIVEN ROWS OF THIS SEAT. 9 by the template 'for every input the law returns true; each argument reads behind the call as it read before'; 0 by the template 'total and deterministic' (their statements: YtggappighcdbmaaDoorTotals.lean).
  GIVEN WITH THE SEED: the statements are not yours to turn. If you find one false, say at which input.
  Laid BY PROGRAM, IN A SANDBOX (cutbox-rows.mjs): the forced cells as the released guide's own fill.sh prints them over the translation cff1e729fc7af777… (all of the seat's roots in one cut). By AI agents, Wed Nov 11 2026. No macro, syntax, notation, axiom, sorry.
-/
import Derived.Test.YtggappighcdbmaaDoorChecked
import GoSem.Claim
import GoSem.ClaimJoined
import GoSem.ClaimMapViews
import Derived.JoinedTies
import Derived.KernelRfl
namespace Go.Proofs.YtggappighcdbmaaDoor
/- THE CELL 'sum', in the pinned program and in every row, IS THE sha256 OF THE DUMP (.gsa) THAT YtggappighcdbmaaDoorProg.lean LOADS. Nothing in Lean hashes anything: it is a label: what it is worth is what the hold of that sum in a sandbox is worth. -/
noncomputable def Tryd.pinned : Pinned := { name := "ytggappighcdbmaadoor", sum := "cff1e729fc7af777da55267028b2668ab0f751cc96a45c8856044e0fbc217d49", checked := Tryd.checked }
namespace Rows
def none {H : Type} : Left H := { results := [], args := [] }

/- WHAT THE LISTED PACKAGE-LEVEL VARIABLES READ AS WHEN THE CALL BEGINS. Each datum BY PROGRAM (the guide's laid-datum.mjs) off the statement by which the dump's own 'gosem.cut.vars' lays the variable. In a bare row this is a premise. The card (YtggappighcdbmaaDoorCards.lean) ties it to the program's text. -/
def laid_kalends_digest_rounds {H : Type} : DataW H := .agg [.lit (.int .u32 1116352408), .lit (.int .u32 1899447441), .lit (.int .u32 3049323471), .lit (.int .u32 3921009573), .lit (.int .u32 961987163), .lit (.int .u32 1508970993), .lit (.int .u32 2453635748), .lit (.int .u32 2870763221), .lit (.int .u32 3624381080), .lit (.int .u32 310598401), .lit (.int .u32 607225278), .lit (.int .u32 1426881987), .lit (.int .u32 1925078388), .lit (.int .u32 2162078206), .lit (.int .u32 2614888103), .lit (.int .u32 3248222580), .lit (.int .u32 3835390401), .lit (.int .u32 4022224774), .lit (.int .u32 264347078), .lit (.int .u32 604807628), .lit (.int .u32 770255983), .lit (.int .u32 1249150122), .lit (.int .u32 1555081692), .lit (.int .u32 1996064986), .lit (.int .u32 2554220882), .lit (.int .u32 2821834349), .lit (.int .u32 2952996808), .lit (.int .u32 3210313671), .lit (.int .u32 3336571891), .lit (.int .u32 3584528711), .lit (.int .u32 113926993), .lit (.int .u32 338241895), .lit (.int .u32 666307205), .lit (.int .u32 773529912), .lit (.int .u32 1294757372), .lit (.int .u32 1396182291), .lit (.int .u32 1695183700), .lit (.int .u32 1986661051), .lit (.int .u32 2177026350), .lit (.int .u32 2456956037), .lit (.int .u32 2730485921), .lit (.int .u32 2820302411), .lit (.int .u32 3259730800), .lit (.int .u32 3345764771), .lit (.int .u32 3516065817), .lit (.int .u32 3600352804), .lit (.int .u32 4094571909), .lit (.int .u32 275423344), .lit (.int .u32 430227734), .lit (.int .u32 506948616), .lit (.int .u32 659060556), .lit (.int .u32 883997877), .lit (.int .u32 958139571), .lit (.int .u32 1322822218), .lit (.int .u32 1537002063), .lit (.int .u32 1747873779), .lit (.int .u32 1955562222), .lit (.int .u32 2024104815), .lit (.int .u32 2227730452), .lit (.int .u32 2361852424), .lit (.int .u32 2428436474), .lit (.int .u32 2756734187), .lit (.int .u32 3204031479), .lit (.int .u32 3329325298)]

/-- 'kalendslaw23.JournalSequence': WHATEVER THE INPUT: true; the input reads as it did. -/
def journalSequenceSpec : ChangeSpec := { name := "journalSequence", fn := fun _ => fun
  | [d1, d2] => { results := [.lit (.bool true)], args := [d1, d2] }
  | _ => none }
def journalSequenceRow : OpenClaim := { program := "ytggappighcdbmaadoor", sum := "cff1e729fc7af777da55267028b2668ab0f751cc96a45c8856044e0fbc217d49", func := "kalends/kalendslaw23.JournalSequence", spec := "journalSequence", unfollowed := true, recurses := true, named := ["kalends/digest.rounds"], apart := false, laid := [("kalends/digest.rounds", laid_kalends_digest_rounds)] }
def JournalSequenceSaid : Prop := journalSequenceRow.holds Tryd.pinned (OpenSpec.ofChange journalSequenceSpec)

/-- ITS FALSE NEIGHBOUR: 'it returns false'. Refute it at one input. -/
def journalSequenceWrong : ChangeSpec := { name := "journalSequence", fn := fun _ => fun
  | [d1, d2] => { results := [.lit (.bool false)], args := [d1, d2] }
  | _ => none }
def JournalSequenceWrongFalsely : Prop := journalSequenceRow.holds Tryd.pinned (OpenSpec.ofChange journalSequenceWrong)

/-- 'kalendslaw23.JournalDurability': WHATEVER THE INPUT: true; the input reads as it did. -/
def journalDurabilitySpec : ChangeSpec := { name := "journalDurability", fn := fun _ => fun
  | [d1, d2, d3] => { results := [.lit (.bool true)], args := [d1, d2, d3] }
  | _ => none }
def journalDurabilityRow : OpenClaim := { program := "ytggappighcdbmaadoor", sum := "cff1e729fc7af777da55267028b2668ab0f751cc96a45c8856044e0fbc217d49", func := "kalends/kalendslaw23.JournalDurability", spec := "journalDurability", unfollowed := true, recurses := true, named := ["kalends/digest.rounds"], apart := false, laid := [("kalends/digest.rounds", laid_kalends_digest_rounds)] }
def JournalDurabilitySaid : Prop := journalDurabilityRow.holds Tryd.pinned (OpenSpec.ofChange journalDurabilitySpec)

/-- ITS FALSE NEIGHBOUR: 'it returns false'. Refute it at one input. -/
def journalDurabilityWrong : ChangeSpec := { name := "journalDurability", fn := fun _ => fun
  | [d1, d2, d3] => { results := [.lit (.bool false)], args := [d1, d2, d3] }
  | _ => none }
def JournalDurabilityWrongFalsely : Prop := journalDurabilityRow.holds Tryd.pinned (OpenSpec.ofChange journalDurabilityWrong)

/-- 'kalendslaw23.JournalTornByte': WHATEVER THE INPUT: true; the input reads as it did. -/
def journalTornByteSpec : ChangeSpec := { name := "journalTornByte", fn := fun _ => fun
  | [d1, d2, d3] => { results := [.lit (.bool true)], args := [d1, d2, d3] }
  | _ => none }
def journalTornByteRow : OpenClaim := { program := "ytggappighcdbmaadoor", sum := "cff1e729fc7af777da55267028b2668ab0f751cc96a45c8856044e0fbc217d49", func := "kalends/kalendslaw23.JournalTornByte", spec := "journalTornByte", unfollowed := true, recurses := true, named := ["kalends/digest.rounds"], apart := false, laid := [("kalends/digest.rounds", laid_kalends_digest_rounds)] }
def JournalTornByteSaid : Prop := journalTornByteRow.holds Tryd.pinned (OpenSpec.ofChange journalTornByteSpec)

/-- ITS FALSE NEIGHBOUR: 'it returns false'. Refute it at one input. -/
def journalTornByteWrong : ChangeSpec := { name := "journalTornByte", fn := fun _ => fun
  | [d1, d2, d3] => { results := [.lit (.bool false)], args := [d1, d2, d3] }
  | _ => none }
def JournalTornByteWrongFalsely : Prop := journalTornByteRow.holds Tryd.pinned (OpenSpec.ofChange journalTornByteWrong)

/-- 'kalendslaw23.JournalLimits': WHATEVER THE INPUT: true; the input reads as it did. -/
def journalLimitsSpec : ChangeSpec := { name := "journalLimits", fn := fun _ => fun
  | [d1, d2] => { results := [.lit (.bool true)], args := [d1, d2] }
  | _ => none }
def journalLimitsRow : OpenClaim := { program := "ytggappighcdbmaadoor", sum := "cff1e729fc7af777da55267028b2668ab0f751cc96a45c8856044e0fbc217d49", func := "kalends/kalendslaw23.JournalLimits", spec := "journalLimits", unfollowed := true, recurses := true, named := ["kalends/digest.rounds"], apart := false, laid := [("kalends/digest.rounds", laid_kalends_digest_rounds)] }
def JournalLimitsSaid : Prop := journalLimitsRow.holds Tryd.pinned (OpenSpec.ofChange journalLimitsSpec)

/-- ITS FALSE NEIGHBOUR: 'it returns false'. Refute it at one input. -/
def journalLimitsWrong : ChangeSpec := { name := "journalLimits", fn := fun _ => fun
  | [d1, d2] => { results := [.lit (.bool false)], args := [d1, d2] }
  | _ => none }
def JournalLimitsWrongFalsely : Prop := journalLimitsRow.holds Tryd.pinned (OpenSpec.ofChange journalLimitsWrong)

/-- 'kalendslaw23.JournalMatchesReference': WHATEVER THE INPUT: true; the input reads as it did. -/
def journalMatchesReferenceSpec : ChangeSpec := { name := "journalMatchesReference", fn := fun _ => fun
  | [d1, d2, d3] => { results := [.lit (.bool true)], args := [d1, d2, d3] }
  | _ => none }
def journalMatchesReferenceRow : OpenClaim := { program := "ytggappighcdbmaadoor", sum := "cff1e729fc7af777da55267028b2668ab0f751cc96a45c8856044e0fbc217d49", func := "kalends/kalendslaw23.JournalMatchesReference", spec := "journalMatchesReference", unfollowed := true, recurses := true, named := ["kalends/digest.rounds"], apart := false, laid := [("kalends/digest.rounds", laid_kalends_digest_rounds)] }
def JournalMatchesReferenceSaid : Prop := journalMatchesReferenceRow.holds Tryd.pinned (OpenSpec.ofChange journalMatchesReferenceSpec)

/-- ITS FALSE NEIGHBOUR: 'it returns false'. Refute it at one input. -/
def journalMatchesReferenceWrong : ChangeSpec := { name := "journalMatchesReference", fn := fun _ => fun
  | [d1, d2, d3] => { results := [.lit (.bool false)], args := [d1, d2, d3] }
  | _ => none }
def JournalMatchesReferenceWrongFalsely : Prop := journalMatchesReferenceRow.holds Tryd.pinned (OpenSpec.ofChange journalMatchesReferenceWrong)

/-- 'kalendslaw23.JournalMadeMatchesReference': WHATEVER THE INPUT: true; the input reads as it did. -/
def journalMadeMatchesReferenceSpec : ChangeSpec := { name := "journalMadeMatchesReference", fn := fun _ => fun
  | [d1, d2, d3] => { results := [.lit (.bool true)], args := [d1, d2, d3] }
  | _ => none }
def journalMadeMatchesReferenceRow : OpenClaim := { program := "ytggappighcdbmaadoor", sum := "cff1e729fc7af777da55267028b2668ab0f751cc96a45c8856044e0fbc217d49", func := "kalends/kalendslaw23.JournalMadeMatchesReference", spec := "journalMadeMatchesReference", unfollowed := true, recurses := true, named := ["kalends/digest.rounds"], apart := false, laid := [("kalends/digest.rounds", laid_kalends_digest_rounds)] }
def JournalMadeMatchesReferenceSaid : Prop := journalMadeMatchesReferenceRow.holds Tryd.pinned (OpenSpec.ofChange journalMadeMatchesReferenceSpec)

/-- ITS FALSE NEIGHBOUR: 'it returns false'. Refute it at one input. -/
def journalMadeMatchesReferenceWrong : ChangeSpec := { name := "journalMadeMatchesReference", fn := fun _ => fun
  | [d1, d2, d3] => { results := [.lit (.bool false)], args := [d1, d2, d3] }
  | _ => none }
def JournalMadeMatchesReferenceWrongFalsely : Prop := journalMadeMatchesReferenceRow.holds Tryd.pinned (OpenSpec.ofChange journalMadeMatchesReferenceWrong)

/-- 'kalendslaw23.JournalContinues': WHATEVER THE INPUT: true; the input reads as it did. -/
def journalContinuesSpec : ChangeSpec := { name := "journalContinues", fn := fun _ => fun
  | [d1, d2, d3] => { results := [.lit (.bool true)], args := [d1, d2, d3] }
  | _ => none }
def journalContinuesRow : OpenClaim := { program := "ytggappighcdbmaadoor", sum := "cff1e729fc7af777da55267028b2668ab0f751cc96a45c8856044e0fbc217d49", func := "kalends/kalendslaw23.JournalContinues", spec := "journalContinues", unfollowed := true, recurses := true, named := ["kalends/digest.rounds"], apart := false, laid := [("kalends/digest.rounds", laid_kalends_digest_rounds)] }
def JournalContinuesSaid : Prop := journalContinuesRow.holds Tryd.pinned (OpenSpec.ofChange journalContinuesSpec)

/-- ITS FALSE NEIGHBOUR: 'it returns false'. Refute it at one input. -/
def journalContinuesWrong : ChangeSpec := { name := "journalContinues", fn := fun _ => fun
  | [d1, d2, d3] => { results := [.lit (.bool false)], args := [d1, d2, d3] }
  | _ => none }
def JournalContinuesWrongFalsely : Prop := journalContinuesRow.holds Tryd.pinned (OpenSpec.ofChange journalContinuesWrong)

/-- 'kalendslaw23.JournalCrashesAgain': WHATEVER THE INPUT: true; the input reads as it did. -/
def journalCrashesAgainSpec : ChangeSpec := { name := "journalCrashesAgain", fn := fun _ => fun
  | [d1, d2] => { results := [.lit (.bool true)], args := [d1, d2] }
  | _ => none }
def journalCrashesAgainRow : OpenClaim := { program := "ytggappighcdbmaadoor", sum := "cff1e729fc7af777da55267028b2668ab0f751cc96a45c8856044e0fbc217d49", func := "kalends/kalendslaw23.JournalCrashesAgain", spec := "journalCrashesAgain", unfollowed := true, recurses := true, named := ["kalends/digest.rounds"], apart := false, laid := [("kalends/digest.rounds", laid_kalends_digest_rounds)] }
def JournalCrashesAgainSaid : Prop := journalCrashesAgainRow.holds Tryd.pinned (OpenSpec.ofChange journalCrashesAgainSpec)

/-- ITS FALSE NEIGHBOUR: 'it returns false'. Refute it at one input. -/
def journalCrashesAgainWrong : ChangeSpec := { name := "journalCrashesAgain", fn := fun _ => fun
  | [d1, d2] => { results := [.lit (.bool false)], args := [d1, d2] }
  | _ => none }
def JournalCrashesAgainWrongFalsely : Prop := journalCrashesAgainRow.holds Tryd.pinned (OpenSpec.ofChange journalCrashesAgainWrong)

/-- 'kalendslaw23.JournalPurity': WHATEVER THE INPUT: true; the input reads as it did. -/
def journalPuritySpec : ChangeSpec := { name := "journalPurity", fn := fun _ => fun
  | [d1, d2] => { results := [.lit (.bool true)], args := [d1, d2] }
  | _ => none }
def journalPurityRow : OpenClaim := { program := "ytggappighcdbmaadoor", sum := "cff1e729fc7af777da55267028b2668ab0f751cc96a45c8856044e0fbc217d49", func := "kalends/kalendslaw23.JournalPurity", spec := "journalPurity", unfollowed := true, recurses := true, named := ["kalends/digest.rounds"], apart := false, laid := [("kalends/digest.rounds", laid_kalends_digest_rounds)] }
def JournalPuritySaid : Prop := journalPurityRow.holds Tryd.pinned (OpenSpec.ofChange journalPuritySpec)

/-- ITS FALSE NEIGHBOUR: 'it returns false'. Refute it at one input. -/
def journalPurityWrong : ChangeSpec := { name := "journalPurity", fn := fun _ => fun
  | [d1, d2] => { results := [.lit (.bool false)], args := [d1, d2] }
  | _ => none }
def JournalPurityWrongFalsely : Prop := journalPurityRow.holds Tryd.pinned (OpenSpec.ofChange journalPurityWrong)

/- THE SECOND FORM. 'bulk': how many values and letters a reading holds, each counted each time it is reached (what is shared counts as often as it is met; a slice's spare places count too). A statement '..UptoSaid' is the law's where the arguments, and the package variables that the reading takes, are together of bulk at most 1048576: NARROWER than '..Said'. Prove '..Said' where nothing that the law and all that it calls make is longer than what came in: it says more and counts as full. Else prove '..UptoSaid'. A law counts once. -/
mutual
def uptoBulk {H : Type} : DataW H → Nat
  | .lit (.string bytes) => bytes.length + 1
  | .lit _ => 1
  | .nil => 1
  | .ptr d => uptoBulk d + 1
  | .slice elems spare => uptoBulkAll elems + uptoBulkAll spare + 1
  | .agg parts => uptoBulkAll parts + 1
  | .iface _ d => uptoBulk d + 1
  | .map entries => uptoBulkEntries entries + 1
  | .held _ => 1
def uptoBulkAll {H : Type} : List (DataW H) → Nat
  | [] => 0
  | d :: r => uptoBulk d + uptoBulkAll r
def uptoBulkEntries {H : Type} : List (Lit × DataW H) → Nat
  | [] => 0
  | x :: r => uptoBulkEntry x + uptoBulkEntries r
def uptoBulkEntry {H : Type} : Lit × DataW H → Nat
  | (.string bytes, d) => bytes.length + uptoBulk d + 1
  | (_, d) => uptoBulk d + 1
 end
def uptoSmall : (H : Type) → List (DataW H) → Bool := fun _ ds => decide (uptoBulkAll ds ≤ 1048576)
def OpenSpec.upto (s : _root_.Go.ChangeSpec) : _root_.Go.OpenSpec := { _root_.Go.OpenSpec.ofChange s with cond := some uptoSmall }

/-- 'kalendslaw23.JournalSequence', WHERE WHAT IT READS IS OF BULK AT MOST 1048576: true; the input reads as it did. -/
def journalSequenceUptoRow : OpenClaim := { program := "ytggappighcdbmaadoor", sum := "cff1e729fc7af777da55267028b2668ab0f751cc96a45c8856044e0fbc217d49", func := "kalends/kalendslaw23.JournalSequence", spec := "journalSequence", unfollowed := true, recurses := true, named := ["kalends/digest.rounds"], apart := false, laid := [("kalends/digest.rounds", laid_kalends_digest_rounds)], narrowed := true }
def JournalSequenceUptoSaid : Prop := journalSequenceUptoRow.holds Tryd.pinned (OpenSpec.upto journalSequenceSpec)

/-- 'kalendslaw23.JournalDurability', WHERE WHAT IT READS IS OF BULK AT MOST 1048576: true; the input reads as it did. -/
def journalDurabilityUptoRow : OpenClaim := { program := "ytggappighcdbmaadoor", sum := "cff1e729fc7af777da55267028b2668ab0f751cc96a45c8856044e0fbc217d49", func := "kalends/kalendslaw23.JournalDurability", spec := "journalDurability", unfollowed := true, recurses := true, named := ["kalends/digest.rounds"], apart := false, laid := [("kalends/digest.rounds", laid_kalends_digest_rounds)], narrowed := true }
def JournalDurabilityUptoSaid : Prop := journalDurabilityUptoRow.holds Tryd.pinned (OpenSpec.upto journalDurabilitySpec)

/-- 'kalendslaw23.JournalTornByte', WHERE WHAT IT READS IS OF BULK AT MOST 1048576: true; the input reads as it did. -/
def journalTornByteUptoRow : OpenClaim := { program := "ytggappighcdbmaadoor", sum := "cff1e729fc7af777da55267028b2668ab0f751cc96a45c8856044e0fbc217d49", func := "kalends/kalendslaw23.JournalTornByte", spec := "journalTornByte", unfollowed := true, recurses := true, named := ["kalends/digest.rounds"], apart := false, laid := [("kalends/digest.rounds", laid_kalends_digest_rounds)], narrowed := true }
def JournalTornByteUptoSaid : Prop := journalTornByteUptoRow.holds Tryd.pinned (OpenSpec.upto journalTornByteSpec)

/-- 'kalendslaw23.JournalLimits', WHERE WHAT IT READS IS OF BULK AT MOST 1048576: true; the input reads as it did. -/
def journalLimitsUptoRow : OpenClaim := { program := "ytggappighcdbmaadoor", sum := "cff1e729fc7af777da55267028b2668ab0f751cc96a45c8856044e0fbc217d49", func := "kalends/kalendslaw23.JournalLimits", spec := "journalLimits", unfollowed := true, recurses := true, named := ["kalends/digest.rounds"], apart := false, laid := [("kalends/digest.rounds", laid_kalends_digest_rounds)], narrowed := true }
def JournalLimitsUptoSaid : Prop := journalLimitsUptoRow.holds Tryd.pinned (OpenSpec.upto journalLimitsSpec)

/-- 'kalendslaw23.JournalMatchesReference', WHERE WHAT IT READS IS OF BULK AT MOST 1048576: true; the input reads as it did. -/
def journalMatchesReferenceUptoRow : OpenClaim := { program := "ytggappighcdbmaadoor", sum := "cff1e729fc7af777da55267028b2668ab0f751cc96a45c8856044e0fbc217d49", func := "kalends/kalendslaw23.JournalMatchesReference", spec := "journalMatchesReference", unfollowed := true, recurses := true, named := ["kalends/digest.rounds"], apart := false, laid := [("kalends/digest.rounds", laid_kalends_digest_rounds)], narrowed := true }
def JournalMatchesReferenceUptoSaid : Prop := journalMatchesReferenceUptoRow.holds Tryd.pinned (OpenSpec.upto journalMatchesReferenceSpec)

/-- 'kalendslaw23.JournalMadeMatchesReference', WHERE WHAT IT READS IS OF BULK AT MOST 1048576: true; the input reads as it did. -/
def journalMadeMatchesReferenceUptoRow : OpenClaim := { program := "ytggappighcdbmaadoor", sum := "cff1e729fc7af777da55267028b2668ab0f751cc96a45c8856044e0fbc217d49", func := "kalends/kalendslaw23.JournalMadeMatchesReference", spec := "journalMadeMatchesReference", unfollowed := true, recurses := true, named := ["kalends/digest.rounds"], apart := false, laid := [("kalends/digest.rounds", laid_kalends_digest_rounds)], narrowed := true }
def JournalMadeMatchesReferenceUptoSaid : Prop := journalMadeMatchesReferenceUptoRow.holds Tryd.pinned (OpenSpec.upto journalMadeMatchesReferenceSpec)

/-- 'kalendslaw23.JournalContinues', WHERE WHAT IT READS IS OF BULK AT MOST 1048576: true; the input reads as it did. -/
def journalContinuesUptoRow : OpenClaim := { program := "ytggappighcdbmaadoor", sum := "cff1e729fc7af777da55267028b2668ab0f751cc96a45c8856044e0fbc217d49", func := "kalends/kalendslaw23.JournalContinues", spec := "journalContinues", unfollowed := true, recurses := true, named := ["kalends/digest.rounds"], apart := false, laid := [("kalends/digest.rounds", laid_kalends_digest_rounds)], narrowed := true }
def JournalContinuesUptoSaid : Prop := journalContinuesUptoRow.holds Tryd.pinned (OpenSpec.upto journalContinuesSpec)

/-- 'kalendslaw23.JournalCrashesAgain', WHERE WHAT IT READS IS OF BULK AT MOST 1048576: true; the input reads as it did. -/
def journalCrashesAgainUptoRow : OpenClaim := { program := "ytggappighcdbmaadoor", sum := "cff1e729fc7af777da55267028b2668ab0f751cc96a45c8856044e0fbc217d49", func := "kalends/kalendslaw23.JournalCrashesAgain", spec := "journalCrashesAgain", unfollowed := true, recurses := true, named := ["kalends/digest.rounds"], apart := false, laid := [("kalends/digest.rounds", laid_kalends_digest_rounds)], narrowed := true }
def JournalCrashesAgainUptoSaid : Prop := journalCrashesAgainUptoRow.holds Tryd.pinned (OpenSpec.upto journalCrashesAgainSpec)

/-- 'kalendslaw23.JournalPurity', WHERE WHAT IT READS IS OF BULK AT MOST 1048576: true; the input reads as it did. -/
def journalPurityUptoRow : OpenClaim := { program := "ytggappighcdbmaadoor", sum := "cff1e729fc7af777da55267028b2668ab0f751cc96a45c8856044e0fbc217d49", func := "kalends/kalendslaw23.JournalPurity", spec := "journalPurity", unfollowed := true, recurses := true, named := ["kalends/digest.rounds"], apart := false, laid := [("kalends/digest.rounds", laid_kalends_digest_rounds)], narrowed := true }
def JournalPurityUptoSaid : Prop := journalPurityUptoRow.holds Tryd.pinned (OpenSpec.upto journalPuritySpec)

end Rows
end Go.Proofs.YtggappighcdbmaaDoor
