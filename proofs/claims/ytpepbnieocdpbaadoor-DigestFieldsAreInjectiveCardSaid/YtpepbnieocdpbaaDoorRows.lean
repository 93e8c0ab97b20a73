/-
  NARROWER THAN 'FOR EVERY INPUT', by the rows' own cells (each row's printed sentence says how): DigestMatchesReference: laid · DigestUnhexMatchesReference: laid · DigestLengths: laid · DigestKeyedIsNested: laid · DigestFieldsAreInjective: laid · DigestSplits: laid · DigestNotation: laid · DigestChanges: laid · DigestPurity: laid.
  DERIVED. THE GIVEN ROWS OF THIS SEAT. 9 by the template 'for every input the law returns true; each argument reads behind the call as it read before'; 0 by the template 'total and deterministic' (their statements: YtpepbnieocdpbaaDoorTotals.lean).
  GIVEN WITH THE SEED: the statements are not yours to turn. If you find one false, say at which input.
  Laid BY PROGRAM, IN A SANDBOX (cutbox-rows.mjs): the forced cells as the released guide's own fill.sh prints them over the translation 62990046565a8803… (all of the seat's roots in one cut). By AI agents, Wed Nov 11 2026. No macro, syntax, notation, axiom, sorry.
-/
import Derived.Test.YtpepbnieocdpbaaDoorChecked
import GoSem.Claim
import GoSem.ClaimJoined
import GoSem.ClaimMapViews
import Derived.JoinedTies
import Derived.KernelRfl
namespace Go.Proofs.YtpepbnieocdpbaaDoor
/- THE CELL 'sum', in the pinned program and in every row, IS THE sha256 OF THE DUMP (.gsa) THAT YtpepbnieocdpbaaDoorProg.lean LOADS. Nothing in Lean hashes anything: it is a label: what it is worth is what the hold of that sum in a sandbox is worth. -/
noncomputable def Tryd.pinned : Pinned := { name := "ytpepbnieocdpbaadoor", sum := "62990046565a8803b9f30e7cfa5e621c48e5a3c36f214cd4d13a18f5b891562d", checked := Tryd.checked }
namespace Rows
def none {H : Type} : Left H := { results := [], args := [] }

/- WHAT THE LISTED PACKAGE-LEVEL VARIABLES READ AS WHEN THE CALL BEGINS. Each datum BY PROGRAM (the guide's laid-datum.mjs) off the statement by which the dump's own 'gosem.cut.vars' lays the variable. In a bare row this is a premise. The card (YtpepbnieocdpbaaDoorCards.lean) ties it to the program's text. -/
def laid_kalends_digest_rounds {H : Type} : DataW H := .agg [.lit (.int .u32 1116352408), .lit (.int .u32 1899447441), .lit (.int .u32 3049323471), .lit (.int .u32 3921009573), .lit (.int .u32 961987163), .lit (.int .u32 1508970993), .lit (.int .u32 2453635748), .lit (.int .u32 2870763221), .lit (.int .u32 3624381080), .lit (.int .u32 310598401), .lit (.int .u32 607225278), .lit (.int .u32 1426881987), .lit (.int .u32 1925078388), .lit (.int .u32 2162078206), .lit (.int .u32 2614888103), .lit (.int .u32 3248222580), .lit (.int .u32 3835390401), .lit (.int .u32 4022224774), .lit (.int .u32 264347078), .lit (.int .u32 604807628), .lit (.int .u32 770255983), .lit (.int .u32 1249150122), .lit (.int .u32 1555081692), .lit (.int .u32 1996064986), .lit (.int .u32 2554220882), .lit (.int .u32 2821834349), .lit (.int .u32 2952996808), .lit (.int .u32 3210313671), .lit (.int .u32 3336571891), .lit (.int .u32 3584528711), .lit (.int .u32 113926993), .lit (.int .u32 338241895), .lit (.int .u32 666307205), .lit (.int .u32 773529912), .lit (.int .u32 1294757372), .lit (.int .u32 1396182291), .lit (.int .u32 1695183700), .lit (.int .u32 1986661051), .lit (.int .u32 2177026350), .lit (.int .u32 2456956037), .lit (.int .u32 2730485921), .lit (.int .u32 2820302411), .lit (.int .u32 3259730800), .lit (.int .u32 3345764771), .lit (.int .u32 3516065817), .lit (.int .u32 3600352804), .lit (.int .u32 4094571909), .lit (.int .u32 275423344), .lit (.int .u32 430227734), .lit (.int .u32 506948616), .lit (.int .u32 659060556), .lit (.int .u32 883997877), .lit (.int .u32 958139571), .lit (.int .u32 1322822218), .lit (.int .u32 1537002063), .lit (.int .u32 1747873779), .lit (.int .u32 1955562222), .lit (.int .u32 2024104815), .lit (.int .u32 2227730452), .lit (.int .u32 2361852424), .lit (.int .u32 2428436474), .lit (.int .u32 2756734187), .lit (.int .u32 3204031479), .lit (.int .u32 3329325298)]

/-- 'kalendslaw03.DigestMatchesReference': WHATEVER THE INPUT: true; the input reads as it did. -/
def digestMatchesReferenceSpec : ChangeSpec := { name := "digestMatchesReference", fn := fun _ => fun
  | [d1, d2, d3] => { results := [.lit (.bool true)], args := [d1, d2, d3] }
  | _ => none }
def digestMatchesReferenceRow : OpenClaim := { program := "ytpepbnieocdpbaadoor", sum := "62990046565a8803b9f30e7cfa5e621c48e5a3c36f214cd4d13a18f5b891562d", func := "kalends/kalendslaw03.DigestMatchesReference", spec := "digestMatchesReference", unfollowed := true, recurses := true, named := ["kalends/digest.rounds"], apart := false, laid := [("kalends/digest.rounds", laid_kalends_digest_rounds)] }
def DigestMatchesReferenceSaid : Prop := digestMatchesReferenceRow.holds Tryd.pinned (OpenSpec.ofChange digestMatchesReferenceSpec)

/-- ITS FALSE NEIGHBOUR: 'it returns false'. Refute it at one input. -/
def digestMatchesReferenceWrong : ChangeSpec := { name := "digestMatchesReference", fn := fun _ => fun
  | [d1, d2, d3] => { results := [.lit (.bool false)], args := [d1, d2, d3] }
  | _ => none }
def DigestMatchesReferenceWrongFalsely : Prop := digestMatchesReferenceRow.holds Tryd.pinned (OpenSpec.ofChange digestMatchesReferenceWrong)

/-- 'kalendslaw03.DigestUnhexMatchesReference': WHATEVER THE INPUT: true; the input reads as it did. -/
def digestUnhexMatchesReferenceSpec : ChangeSpec := { name := "digestUnhexMatchesReference", fn := fun _ => fun
  | [d] => { results := [.lit (.bool true)], args := [d] }
  | _ => none }
def digestUnhexMatchesReferenceRow : OpenClaim := { program := "ytpepbnieocdpbaadoor", sum := "62990046565a8803b9f30e7cfa5e621c48e5a3c36f214cd4d13a18f5b891562d", func := "kalends/kalendslaw03.DigestUnhexMatchesReference", spec := "digestUnhexMatchesReference", unfollowed := true, recurses := true, named := ["kalends/digest.rounds"], apart := false, laid := [("kalends/digest.rounds", laid_kalends_digest_rounds)] }
def DigestUnhexMatchesReferenceSaid : Prop := digestUnhexMatchesReferenceRow.holds Tryd.pinned (OpenSpec.ofChange digestUnhexMatchesReferenceSpec)

/-- ITS FALSE NEIGHBOUR: 'it returns false'. Refute it at one input. -/
def digestUnhexMatchesReferenceWrong : ChangeSpec := { name := "digestUnhexMatchesReference", fn := fun _ => fun
  | [d] => { results := [.lit (.bool false)], args := [d] }
  | _ => none }
def DigestUnhexMatchesReferenceWrongFalsely : Prop := digestUnhexMatchesReferenceRow.holds Tryd.pinned (OpenSpec.ofChange digestUnhexMatchesReferenceWrong)

/-- 'kalendslaw03.DigestLengths': WHATEVER THE INPUT: true; the input reads as it did. -/
def digestLengthsSpec : ChangeSpec := { name := "digestLengths", fn := fun _ => fun
  | [d1, d2] => { results := [.lit (.bool true)], args := [d1, d2] }
  | _ => none }
def digestLengthsRow : OpenClaim := { program := "ytpepbnieocdpbaadoor", sum := "62990046565a8803b9f30e7cfa5e621c48e5a3c36f214cd4d13a18f5b891562d", func := "kalends/kalendslaw03.DigestLengths", spec := "digestLengths", unfollowed := true, recurses := true, named := ["kalends/digest.rounds"], apart := false, laid := [("kalends/digest.rounds", laid_kalends_digest_rounds)] }
def DigestLengthsSaid : Prop := digestLengthsRow.holds Tryd.pinned (OpenSpec.ofChange digestLengthsSpec)

/-- ITS FALSE NEIGHBOUR: 'it returns false'. Refute it at one input. -/
def digestLengthsWrong : ChangeSpec := { name := "digestLengths", fn := fun _ => fun
  | [d1, d2] => { results := [.lit (.bool false)], args := [d1, d2] }
  | _ => none }
def DigestLengthsWrongFalsely : Prop := digestLengthsRow.holds Tryd.pinned (OpenSpec.ofChange digestLengthsWrong)

/-- 'kalendslaw03.DigestKeyedIsNested': WHATEVER THE INPUT: true; the input reads as it did. -/
def digestKeyedIsNestedSpec : ChangeSpec := { name := "digestKeyedIsNested", fn := fun _ => fun
  | [d1, d2] => { results := [.lit (.bool true)], args := [d1, d2] }
  | _ => none }
def digestKeyedIsNestedRow : OpenClaim := { program := "ytpepbnieocdpbaadoor", sum := "62990046565a8803b9f30e7cfa5e621c48e5a3c36f214cd4d13a18f5b891562d", func := "kalends/kalendslaw03.DigestKeyedIsNested", spec := "digestKeyedIsNested", unfollowed := true, recurses := true, named := ["kalends/digest.rounds"], apart := false, laid := [("kalends/digest.rounds", laid_kalends_digest_rounds)] }
def DigestKeyedIsNestedSaid : Prop := digestKeyedIsNestedRow.holds Tryd.pinned (OpenSpec.ofChange digestKeyedIsNestedSpec)

/-- ITS FALSE NEIGHBOUR: 'it returns false'. Refute it at one input. -/
def digestKeyedIsNestedWrong : ChangeSpec := { name := "digestKeyedIsNested", fn := fun _ => fun
  | [d1, d2] => { results := [.lit (.bool false)], args := [d1, d2] }
  | _ => none }
def DigestKeyedIsNestedWrongFalsely : Prop := digestKeyedIsNestedRow.holds Tryd.pinned (OpenSpec.ofChange digestKeyedIsNestedWrong)

/-- 'kalendslaw03.DigestFieldsAreInjective': WHATEVER THE INPUT: true; the input reads as it did. -/
def digestFieldsAreInjectiveSpec : ChangeSpec := { name := "digestFieldsAreInjective", fn := fun _ => fun
  | [d1, d2] => { results := [.lit (.bool true)], args := [d1, d2] }
  | _ => none }
def digestFieldsAreInjectiveRow : OpenClaim := { program := "ytpepbnieocdpbaadoor", sum := "62990046565a8803b9f30e7cfa5e621c48e5a3c36f214cd4d13a18f5b891562d", func := "kalends/kalendslaw03.DigestFieldsAreInjective", spec := "digestFieldsAreInjective", unfollowed := true, recurses := true, named := ["kalends/digest.rounds"], apart := false, laid := [("kalends/digest.rounds", laid_kalends_digest_rounds)] }
def DigestFieldsAreInjectiveSaid : Prop := digestFieldsAreInjectiveRow.holds Tryd.pinned (OpenSpec.ofChange digestFieldsAreInjectiveSpec)

/-- ITS FALSE NEIGHBOUR: 'it returns false'. Refute it at one input. -/
def digestFieldsAreInjectiveWrong : ChangeSpec := { name := "digestFieldsAreInjective", fn := fun _ => fun
  | [d1, d2] => { results := [.lit (.bool false)], args := [d1, d2] }
  | _ => none }
def DigestFieldsAreInjectiveWrongFalsely : Prop := digestFieldsAreInjectiveRow.holds Tryd.pinned (OpenSpec.ofChange digestFieldsAreInjectiveWrong)

/-- 'kalendslaw03.DigestSplits': WHATEVER THE INPUT: true; the input reads as it did. -/
def digestSplitsSpec : ChangeSpec := { name := "digestSplits", fn := fun _ => fun
  | [d1, d2, d3] => { results := [.lit (.bool true)], args := [d1, d2, d3] }
  | _ => none }
def digestSplitsRow : OpenClaim := { program := "ytpepbnieocdpbaadoor", sum := "62990046565a8803b9f30e7cfa5e621c48e5a3c36f214cd4d13a18f5b891562d", func := "kalends/kalendslaw03.DigestSplits", spec := "digestSplits", unfollowed := true, recurses := true, named := ["kalends/digest.rounds"], apart := false, laid := [("kalends/digest.rounds", laid_kalends_digest_rounds)] }
def DigestSplitsSaid : Prop := digestSplitsRow.holds Tryd.pinned (OpenSpec.ofChange digestSplitsSpec)

/-- ITS FALSE NEIGHBOUR: 'it returns false'. Refute it at one input. -/
def digestSplitsWrong : ChangeSpec := { name := "digestSplits", fn := fun _ => fun
  | [d1, d2, d3] => { results := [.lit (.bool false)], args := [d1, d2, d3] }
  | _ => none }
def DigestSplitsWrongFalsely : Prop := digestSplitsRow.holds Tryd.pinned (OpenSpec.ofChange digestSplitsWrong)

/-- 'kalendslaw03.DigestNotation': WHATEVER THE INPUT: true; the input reads as it did. -/
def digestNotationSpec : ChangeSpec := { name := "digestNotation", fn := fun _ => fun
  | [d1, d2] => { results := [.lit (.bool true)], args := [d1, d2] }
  | _ => none }
def digestNotationRow : OpenClaim := { program := "ytpepbnieocdpbaadoor", sum := "62990046565a8803b9f30e7cfa5e621c48e5a3c36f214cd4d13a18f5b891562d", func := "kalends/kalendslaw03.DigestNotation", spec := "digestNotation", unfollowed := true, recurses := true, named := ["kalends/digest.rounds"], apart := false, laid := [("kalends/digest.rounds", laid_kalends_digest_rounds)] }
def DigestNotationSaid : Prop := digestNotationRow.holds Tryd.pinned (OpenSpec.ofChange digestNotationSpec)

/-- ITS FALSE NEIGHBOUR: 'it returns false'. Refute it at one input. -/
def digestNotationWrong : ChangeSpec := { name := "digestNotation", fn := fun _ => fun
  | [d1, d2] => { results := [.lit (.bool false)], args := [d1, d2] }
  | _ => none }
def DigestNotationWrongFalsely : Prop := digestNotationRow.holds Tryd.pinned (OpenSpec.ofChange digestNotationWrong)

/-- 'kalendslaw03.DigestChanges': WHATEVER THE INPUT: true; the input reads as it did. -/
def digestChangesSpec : ChangeSpec := { name := "digestChanges", fn := fun _ => fun
  | [d1, d2, d3] => { results := [.lit (.bool true)], args := [d1, d2, d3] }
  | _ => none }
def digestChangesRow : OpenClaim := { program := "ytpepbnieocdpbaadoor", sum := "62990046565a8803b9f30e7cfa5e621c48e5a3c36f214cd4d13a18f5b891562d", func := "kalends/kalendslaw03.DigestChanges", spec := "digestChanges", unfollowed := true, recurses := true, named := ["kalends/digest.rounds"], apart := false, laid := [("kalends/digest.rounds", laid_kalends_digest_rounds)] }
def DigestChangesSaid : Prop := digestChangesRow.holds Tryd.pinned (OpenSpec.ofChange digestChangesSpec)

/-- ITS FALSE NEIGHBOUR: 'it returns false'. Refute it at one input. -/
def digestChangesWrong : ChangeSpec := { name := "digestChanges", fn := fun _ => fun
  | [d1, d2, d3] => { results := [.lit (.bool false)], args := [d1, d2, d3] }
  | _ => none }
def DigestChangesWrongFalsely : Prop := digestChangesRow.holds Tryd.pinned (OpenSpec.ofChange digestChangesWrong)

/-- 'kalendslaw03.DigestPurity': WHATEVER THE INPUT: true; the input reads as it did. -/
def digestPuritySpec : ChangeSpec := { name := "digestPurity", fn := fun _ => fun
  | [d1, d2, d3] => { results := [.lit (.bool true)], args := [d1, d2, d3] }
  | _ => none }
def digestPurityRow : OpenClaim := { program := "ytpepbnieocdpbaadoor", sum := "62990046565a8803b9f30e7cfa5e621c48e5a3c36f214cd4d13a18f5b891562d", func := "kalends/kalendslaw03.DigestPurity", spec := "digestPurity", unfollowed := true, recurses := true, named := ["kalends/digest.rounds"], apart := false, laid := [("kalends/digest.rounds", laid_kalends_digest_rounds)] }
def DigestPuritySaid : Prop := digestPurityRow.holds Tryd.pinned (OpenSpec.ofChange digestPuritySpec)

/-- ITS FALSE NEIGHBOUR: 'it returns false'. Refute it at one input. -/
def digestPurityWrong : ChangeSpec := { name := "digestPurity", fn := fun _ => fun
  | [d1, d2, d3] => { results := [.lit (.bool false)], args := [d1, d2, d3] }
  | _ => none }
def DigestPurityWrongFalsely : Prop := digestPurityRow.holds Tryd.pinned (OpenSpec.ofChange digestPurityWrong)

/- THE SECOND FORM. 'bulk': how many values and letters a reading holds, each counted each time it is reached (what is shared counts as often as it is met; a slice's spare places count too). A statement '..UptoSaid' is the law's where the arguments, and the package variables that the reading takes, are together of bulk at most 1048576: NARROWER than '..Said'. Prove '..Said' where nothing that the law and all that it calls make is longer than what came in: it says more and counts as full. Else prove '..UptoSaid'. A law counts once. -/
mutual
def uptoBulk {H : Type} : DataW H → Nat
  | .lit (.string bytes) => bytes.length + 1
  | .lit _ => 1
  | .nil => 1
  | .ptr d => uptoBulk d + 1
  | .slice elems spare => uptoBulkAll elems + uptoBulkAll spare + 1
  | .agg parts => uptoBulkAll parts + 1
  | .iface _ d => uptoBulk d + 1
  | .map entries => uptoBulkEntries entries + 1
  | .held _ => 1
def uptoBulkAll {H : Type} : List (DataW H) → Nat
  | [] => 0
  | d :: r => uptoBulk d + uptoBulkAll r
def uptoBulkEntries {H : Type} : List (Lit × DataW H) → Nat
  | [] => 0
  | x :: r => uptoBulkEntry x + uptoBulkEntries r
def uptoBulkEntry {H : Type} : Lit × DataW H → Nat
  | (.string bytes, d) => bytes.length + uptoBulk d + 1
  | (_, d) => uptoBulk d + 1
 end
def uptoSmall : (H : Type) → List (DataW H) → Bool := fun _ ds => decide (uptoBulkAll ds ≤ 1048576)
def OpenSpec.upto (s : _root_.Go.ChangeSpec) : _root_.Go.OpenSpec := { _root_.Go.OpenSpec.ofChange s with cond := some uptoSmall }

/-- 'kalendslaw03.DigestMatchesReference', WHERE WHAT IT READS IS OF BULK AT MOST 1048576: true; the input reads as it did. -/
def digestMatchesReferenceUptoRow : OpenClaim := { program := "ytpepbnieocdpbaadoor", sum := "62990046565a8803b9f30e7cfa5e621c48e5a3c36f214cd4d13a18f5b891562d", func := "kalends/kalendslaw03.DigestMatchesReference", spec := "digestMatchesReference", unfollowed := true, recurses := true, named := ["kalends/digest.rounds"], apart := false, laid := [("kalends/digest.rounds", laid_kalends_digest_rounds)], narrowed := true }
def DigestMatchesReferenceUptoSaid : Prop := digestMatchesReferenceUptoRow.holds Tryd.pinned (OpenSpec.upto digestMatchesReferenceSpec)

/-- 'kalendslaw03.DigestUnhexMatchesReference', WHERE WHAT IT READS IS OF BULK AT MOST 1048576: true; the input reads as it did. -/
def digestUnhexMatchesReferenceUptoRow : OpenClaim := { program := "ytpepbnieocdpbaadoor", sum := "62990046565a8803b9f30e7cfa5e621c48e5a3c36f214cd4d13a18f5b891562d", func := "kalends/kalendslaw03.DigestUnhexMatchesReference", spec := "digestUnhexMatchesReference", unfollowed := true, recurses := true, named := ["kalends/digest.rounds"], apart := false, laid := [("kalends/digest.rounds", laid_kalends_digest_rounds)], narrowed := true }
def DigestUnhexMatchesReferenceUptoSaid : Prop := digestUnhexMatchesReferenceUptoRow.holds Tryd.pinned (OpenSpec.upto digestUnhexMatchesReferenceSpec)

/-- 'kalendslaw03.DigestLengths', WHERE WHAT IT READS IS OF BULK AT MOST 1048576: true; the input reads as it did. -/
def digestLengthsUptoRow : OpenClaim := { program := "ytpepbnieocdpbaadoor", sum := "62990046565a8803b9f30e7cfa5e621c48e5a3c36f214cd4d13a18f5b891562d", func := "kalends/kalendslaw03.DigestLengths", spec := "digestLengths", unfollowed := true, recurses := true, named := ["kalends/digest.rounds"], apart := false, laid := [("kalends/digest.rounds", laid_kalends_digest_rounds)], narrowed := true }
def DigestLengthsUptoSaid : Prop := digestLengthsUptoRow.holds Tryd.pinned (OpenSpec.upto digestLengthsSpec)

/-- 'kalendslaw03.DigestKeyedIsNested', WHERE WHAT IT READS IS OF BULK AT MOST 1048576: true; the input reads as it did. -/
def digestKeyedIsNestedUptoRow : OpenClaim := { program := "ytpepbnieocdpbaadoor", sum := "62990046565a8803b9f30e7cfa5e621c48e5a3c36f214cd4d13a18f5b891562d", func := "kalends/kalendslaw03.DigestKeyedIsNested", spec := "digestKeyedIsNested", unfollowed := true, recurses := true, named := ["kalends/digest.rounds"], apart := false, laid := [("kalends/digest.rounds", laid_kalends_digest_rounds)], narrowed := true }
def DigestKeyedIsNestedUptoSaid : Prop := digestKeyedIsNestedUptoRow.holds Tryd.pinned (OpenSpec.upto digestKeyedIsNestedSpec)

/-- 'kalendslaw03.DigestFieldsAreInjective', WHERE WHAT IT READS IS OF BULK AT MOST 1048576: true; the input reads as it did. -/
def digestFieldsAreInjectiveUptoRow : OpenClaim := { program := "ytpepbnieocdpbaadoor", sum := "62990046565a8803b9f30e7cfa5e621c48e5a3c36f214cd4d13a18f5b891562d", func := "kalends/kalendslaw03.DigestFieldsAreInjective", spec := "digestFieldsAreInjective", unfollowed := true, recurses := true, named := ["kalends/digest.rounds"], apart := false, laid := [("kalends/digest.rounds", laid_kalends_digest_rounds)], narrowed := true }
def DigestFieldsAreInjectiveUptoSaid : Prop := digestFieldsAreInjectiveUptoRow.holds Tryd.pinned (OpenSpec.upto digestFieldsAreInjectiveSpec)

/-- 'kalendslaw03.DigestSplits', WHERE WHAT IT READS IS OF BULK AT MOST 1048576: true; the input reads as it did. -/
def digestSplitsUptoRow : OpenClaim := { program := "ytpepbnieocdpbaadoor", sum := "62990046565a8803b9f30e7cfa5e621c48e5a3c36f214cd4d13a18f5b891562d", func := "kalends/kalendslaw03.DigestSplits", spec := "digestSplits", unfollowed := true, recurses := true, named := ["kalends/digest.rounds"], apart := false, laid := [("kalends/digest.rounds", laid_kalends_digest_rounds)], narrowed := true }
def DigestSplitsUptoSaid : Prop := digestSplitsUptoRow.holds Tryd.pinned (OpenSpec.upto digestSplitsSpec)

/-- 'kalendslaw03.DigestNotation', WHERE WHAT IT READS IS OF BULK AT MOST 1048576: true; the input reads as it did. -/
def digestNotationUptoRow : OpenClaim := { program := "ytpepbnieocdpbaadoor", sum := "62990046565a8803b9f30e7cfa5e621c48e5a3c36f214cd4d13a18f5b891562d", func := "kalends/kalendslaw03.DigestNotation", spec := "digestNotation", unfollowed := true, recurses := true, named := ["kalends/digest.rounds"], apart := false, laid := [("kalends/digest.rounds", laid_kalends_digest_rounds)], narrowed := true }
def DigestNotationUptoSaid : Prop := digestNotationUptoRow.holds Tryd.pinned (OpenSpec.upto digestNotationSpec)

/-- 'kalendslaw03.DigestChanges', WHERE WHAT IT READS IS OF BULK AT MOST 1048576: true; the input reads as it did. -/
def digestChangesUptoRow : OpenClaim := { program := "ytpepbnieocdpbaadoor", sum := "62990046565a8803b9f30e7cfa5e621c48e5a3c36f214cd4d13a18f5b891562d", func := "kalends/kalendslaw03.DigestChanges", spec := "digestChanges", unfollowed := true, recurses := true, named := ["kalends/digest.rounds"], apart := false, laid := [("kalends/digest.rounds", laid_kalends_digest_rounds)], narrowed := true }
def DigestChangesUptoSaid : Prop := digestChangesUptoRow.holds Tryd.pinned (OpenSpec.upto digestChangesSpec)

/-- 'kalendslaw03.DigestPurity', WHERE WHAT IT READS IS OF BULK AT MOST 1048576: true; the input reads as it did. -/
def digestPurityUptoRow : OpenClaim := { program := "ytpepbnieocdpbaadoor", sum := "62990046565a8803b9f30e7cfa5e621c48e5a3c36f214cd4d13a18f5b891562d", func := "kalends/kalendslaw03.DigestPurity", spec := "digestPurity", unfollowed := true, recurses := true, named := ["kalends/digest.rounds"], apart := false, laid := [("kalends/digest.rounds", laid_kalends_digest_rounds)], narrowed := true }
def DigestPurityUptoSaid : Prop := digestPurityUptoRow.holds Tryd.pinned (OpenSpec.upto digestPuritySpec)

end Rows
end Go.Proofs.YtpepbnieocdpbaaDoor
