/-
  NARROWER THAN 'FOR EVERY INPUT', by the rows' own cells (each row's printed sentence says how): PolicyMatchesReference: laid · PolicyMadeMatchesReference: laid · PolicyParseMatchesReference: laid · PolicyFirstGrantDecides: laid · PolicyMonotone: laid · PolicyStricterIsPreorder: laid · PolicyStricterAllowsLess: laid · PolicyDroppedGrants: laid · PolicyTextRoundTrip: laid · PolicyTeamsAreASet: laid · TopStricterPoliciesTellLess: laid.
  DERIVED. THE GIVEN ROWS OF THIS SEAT. 11 by the template 'for every input the law returns true; each argument reads behind the call as it read before'; 0 by the template 'total and deterministic' (their statements: YthkhgpbjfcmopaaGreatDoorTotals.lean).
  GIVEN WITH THE SEED: the statements are not yours to turn. If you find one false, say at which input.
  Laid BY PROGRAM, IN A SANDBOX (cutbox-rows.mjs): the forced cells as the released guide's own fill.sh prints them over the translation 51982405197d637b… (all of the seat's roots in one cut). By AI agents, Wed Nov 11 2026. No macro, syntax, notation, axiom, sorry.
-/
import Derived.Test.YthkhgpbjfcmopaaGreatDoorChecked
import GoSem.PinnedTables
import GoSem.Claim
import GoSem.ClaimJoined
import GoSem.ClaimMapViews
import Derived.JoinedTies
import Derived.KernelRfl
namespace Go.Proofs.YthkhgpbjfcmopaaGreatDoor
/- THE CELL 'sum', in the pinned program and in every row, IS THE sha256 OF THE DUMP (.gsa) THAT YthkhgpbjfcmopaaGreatDoorProg.lean LOADS. Nothing in Lean hashes anything: it is a label: what it is worth is what the hold of that sum in a sandbox is worth. -/
noncomputable def Tryz.pinned : Pinned := { name := "ythkhgpbjfcmopaagreatdoor", sum := "51982405197d637bdd0c26777400ac4445fd5bcd0589fabb4d574bc87ba12095", checked := Tryz.checked }
namespace Rows
def none {H : Type} : Left H := { results := [], args := [] }

/- WHAT THE LISTED PACKAGE-LEVEL VARIABLES READ AS WHEN THE CALL BEGINS. Each datum BY PROGRAM (the guide's laid-datum.mjs) off the statement by which the dump's own 'gosem.cut.vars' lays the variable. In a bare row this is a premise. The card (YthkhgpbjfcmopaaGreatDoorCards.lean) ties it to the program's text. -/
def laid_math_bits_deBruijn32tab {H : Type} : DataW H := .agg [.lit (.int .u8 0), .lit (.int .u8 1), .lit (.int .u8 28), .lit (.int .u8 2), .lit (.int .u8 29), .lit (.int .u8 14), .lit (.int .u8 24), .lit (.int .u8 3), .lit (.int .u8 30), .lit (.int .u8 22), .lit (.int .u8 20), .lit (.int .u8 15), .lit (.int .u8 25), .lit (.int .u8 17), .lit (.int .u8 4), .lit (.int .u8 8), .lit (.int .u8 31), .lit (.int .u8 27), .lit (.int .u8 13), .lit (.int .u8 23), .lit (.int .u8 21), .lit (.int .u8 19), .lit (.int .u8 16), .lit (.int .u8 7), .lit (.int .u8 26), .lit (.int .u8 12), .lit (.int .u8 18), .lit (.int .u8 6), .lit (.int .u8 11), .lit (.int .u8 5), .lit (.int .u8 10), .lit (.int .u8 9)]
def laid_math_bits_deBruijn64tab {H : Type} : DataW H := .agg [.lit (.int .u8 0), .lit (.int .u8 1), .lit (.int .u8 56), .lit (.int .u8 2), .lit (.int .u8 57), .lit (.int .u8 49), .lit (.int .u8 28), .lit (.int .u8 3), .lit (.int .u8 61), .lit (.int .u8 58), .lit (.int .u8 42), .lit (.int .u8 50), .lit (.int .u8 38), .lit (.int .u8 29), .lit (.int .u8 17), .lit (.int .u8 4), .lit (.int .u8 62), .lit (.int .u8 47), .lit (.int .u8 59), .lit (.int .u8 36), .lit (.int .u8 45), .lit (.int .u8 43), .lit (.int .u8 51), .lit (.int .u8 22), .lit (.int .u8 53), .lit (.int .u8 39), .lit (.int .u8 33), .lit (.int .u8 30), .lit (.int .u8 24), .lit (.int .u8 18), .lit (.int .u8 12), .lit (.int .u8 5), .lit (.int .u8 63), .lit (.int .u8 55), .lit (.int .u8 48), .lit (.int .u8 27), .lit (.int .u8 60), .lit (.int .u8 41), .lit (.int .u8 37), .lit (.int .u8 16), .lit (.int .u8 46), .lit (.int .u8 35), .lit (.int .u8 44), .lit (.int .u8 21), .lit (.int .u8 52), .lit (.int .u8 32), .lit (.int .u8 23), .lit (.int .u8 11), .lit (.int .u8 54), .lit (.int .u8 26), .lit (.int .u8 40), .lit (.int .u8 15), .lit (.int .u8 34), .lit (.int .u8 20), .lit (.int .u8 31), .lit (.int .u8 10), .lit (.int .u8 25), .lit (.int .u8 14), .lit (.int .u8 19), .lit (.int .u8 9), .lit (.int .u8 13), .lit (.int .u8 8), .lit (.int .u8 7), .lit (.int .u8 6)]
def laid_internal_strconv_uint64pow10 {H : Type} : DataW H := .agg [.lit (.int .u64 1), .lit (.int .u64 10), .lit (.int .u64 100), .lit (.int .u64 1000), .lit (.int .u64 10000), .lit (.int .u64 100000), .lit (.int .u64 1000000), .lit (.int .u64 10000000), .lit (.int .u64 100000000), .lit (.int .u64 1000000000), .lit (.int .u64 10000000000), .lit (.int .u64 100000000000), .lit (.int .u64 1000000000000), .lit (.int .u64 10000000000000), .lit (.int .u64 100000000000000), .lit (.int .u64 1000000000000000), .lit (.int .u64 10000000000000000), .lit (.int .u64 100000000000000000), .lit (.int .u64 1000000000000000000), .lit (.int .u64 10000000000000000000)]
def laid_unicode_utf8_acceptRanges {H : Type} : DataW H := .agg [.agg [.lit (.int .u8 128), .lit (.int .u8 191)], .agg [.lit (.int .u8 160), .lit (.int .u8 191)], .agg [.lit (.int .u8 128), .lit (.int .u8 159)], .agg [.lit (.int .u8 144), .lit (.int .u8 191)], .agg [.lit (.int .u8 128), .lit (.int .u8 143)], .agg [.lit (.int .u8 0), .lit (.int .u8 0)], .agg [.lit (.int .u8 0), .lit (.int .u8 0)], .agg [.lit (.int .u8 0), .lit (.int .u8 0)], .agg [.lit (.int .u8 0), .lit (.int .u8 0)], .agg [.lit (.int .u8 0), .lit (.int .u8 0)], .agg [.lit (.int .u8 0), .lit (.int .u8 0)], .agg [.lit (.int .u8 0), .lit (.int .u8 0)], .agg [.lit (.int .u8 0), .lit (.int .u8 0)], .agg [.lit (.int .u8 0), .lit (.int .u8 0)], .agg [.lit (.int .u8 0), .lit (.int .u8 0)], .agg [.lit (.int .u8 0), .lit (.int .u8 0)]]
def laid_strconv_ErrRange {H : Type} : DataW H := .iface "*errors.errorString" (.ptr (.agg [.lit (.string [118, 97, 108, 117, 101, 32, 111, 117, 116, 32, 111, 102, 32, 114, 97, 110, 103, 101])]))
def laid_strconv_ErrSyntax {H : Type} : DataW H := .iface "*errors.errorString" (.ptr (.agg [.lit (.string [105, 110, 118, 97, 108, 105, 100, 32, 115, 121, 110, 116, 97, 120])]))
/-- One of Go's own tables, pinned by name: the form's constant. -/
def laid_unicode_utf8_first : DataW Unit := Go.Pinned.utf8First
def laid_kalends_digest_rounds {H : Type} : DataW H := .agg [.lit (.int .u32 1116352408), .lit (.int .u32 1899447441), .lit (.int .u32 3049323471), .lit (.int .u32 3921009573), .lit (.int .u32 961987163), .lit (.int .u32 1508970993), .lit (.int .u32 2453635748), .lit (.int .u32 2870763221), .lit (.int .u32 3624381080), .lit (.int .u32 310598401), .lit (.int .u32 607225278), .lit (.int .u32 1426881987), .lit (.int .u32 1925078388), .lit (.int .u32 2162078206), .lit (.int .u32 2614888103), .lit (.int .u32 3248222580), .lit (.int .u32 3835390401), .lit (.int .u32 4022224774), .lit (.int .u32 264347078), .lit (.int .u32 604807628), .lit (.int .u32 770255983), .lit (.int .u32 1249150122), .lit (.int .u32 1555081692), .lit (.int .u32 1996064986), .lit (.int .u32 2554220882), .lit (.int .u32 2821834349), .lit (.int .u32 2952996808), .lit (.int .u32 3210313671), .lit (.int .u32 3336571891), .lit (.int .u32 3584528711), .lit (.int .u32 113926993), .lit (.int .u32 338241895), .lit (.int .u32 666307205), .lit (.int .u32 773529912), .lit (.int .u32 1294757372), .lit (.int .u32 1396182291), .lit (.int .u32 1695183700), .lit (.int .u32 1986661051), .lit (.int .u32 2177026350), .lit (.int .u32 2456956037), .lit (.int .u32 2730485921), .lit (.int .u32 2820302411), .lit (.int .u32 3259730800), .lit (.int .u32 3345764771), .lit (.int .u32 3516065817), .lit (.int .u32 3600352804), .lit (.int .u32 4094571909), .lit (.int .u32 275423344), .lit (.int .u32 430227734), .lit (.int .u32 506948616), .lit (.int .u32 659060556), .lit (.int .u32 883997877), .lit (.int .u32 958139571), .lit (.int .u32 1322822218), .lit (.int .u32 1537002063), .lit (.int .u32 1747873779), .lit (.int .u32 1955562222), .lit (.int .u32 2024104815), .lit (.int .u32 2227730452), .lit (.int .u32 2361852424), .lit (.int .u32 2428436474), .lit (.int .u32 2756734187), .lit (.int .u32 3204031479), .lit (.int .u32 3329325298)]

/-- 'kalendslaw25.PolicyMatchesReference': WHATEVER THE INPUT: true; the input reads as it did. -/
def policyMatchesReferenceSpec : ChangeSpec := { name := "policyMatchesReference", fn := fun _ => fun
  | [d1, d2, d3] => { results := [.lit (.bool true)], args := [d1, d2, d3] }
  | _ => none }
def policyMatchesReferenceRow : OpenClaim := { program := "ythkhgpbjfcmopaagreatdoor", sum := "51982405197d637bdd0c26777400ac4445fd5bcd0589fabb4d574bc87ba12095", func := "kalends/kalendslaw25.PolicyMatchesReference", spec := "policyMatchesReference", inPlace := ["internal/bytealg.IndexByteString", "internal/bytealg.IndexString", "internal/abi.NoEscape"], unfollowed := true, recurses := true, named := ["unicode/utf8.first", "unicode/utf8.acceptRanges", "internal/bytealg.MaxLen", "strconv.ErrSyntax", "strconv.ErrRange", "internal/strconv.uint64pow10", "math/bits.deBruijn32tab", "math/bits.deBruijn64tab"], apart := false, laid := [("math/bits.deBruijn32tab", laid_math_bits_deBruijn32tab), ("math/bits.deBruijn64tab", laid_math_bits_deBruijn64tab), ("internal/strconv.uint64pow10", laid_internal_strconv_uint64pow10), ("unicode/utf8.acceptRanges", laid_unicode_utf8_acceptRanges), ("strconv.ErrRange", laid_strconv_ErrRange), ("strconv.ErrSyntax", laid_strconv_ErrSyntax), ("unicode/utf8.first", laid_unicode_utf8_first)] }
def PolicyMatchesReferenceSaid : Prop := policyMatchesReferenceRow.holds Tryz.pinned (OpenSpec.ofChange policyMatchesReferenceSpec)

/-- ITS FALSE NEIGHBOUR: 'it returns false'. Refute it at one input. -/
def policyMatchesReferenceWrong : ChangeSpec := { name := "policyMatchesReference", fn := fun _ => fun
  | [d1, d2, d3] => { results := [.lit (.bool false)], args := [d1, d2, d3] }
  | _ => none }
def PolicyMatchesReferenceWrongFalsely : Prop := policyMatchesReferenceRow.holds Tryz.pinned (OpenSpec.ofChange policyMatchesReferenceWrong)

/-- 'kalendslaw25.PolicyMadeMatchesReference': WHATEVER THE INPUT: true; the input reads as it did. -/
def policyMadeMatchesReferenceSpec : ChangeSpec := { name := "policyMadeMatchesReference", fn := fun _ => fun
  | [d1, d2, d3] => { results := [.lit (.bool true)], args := [d1, d2, d3] }
  | _ => none }
def policyMadeMatchesReferenceRow : OpenClaim := { program := "ythkhgpbjfcmopaagreatdoor", sum := "51982405197d637bdd0c26777400ac4445fd5bcd0589fabb4d574bc87ba12095", func := "kalends/kalendslaw25.PolicyMadeMatchesReference", spec := "policyMadeMatchesReference", inPlace := ["internal/bytealg.IndexByteString", "internal/bytealg.IndexString", "internal/abi.NoEscape"], unfollowed := true, recurses := true, named := ["unicode/utf8.first", "unicode/utf8.acceptRanges", "internal/bytealg.MaxLen", "strconv.ErrSyntax", "strconv.ErrRange", "internal/strconv.uint64pow10", "math/bits.deBruijn32tab", "math/bits.deBruijn64tab"], apart := false, laid := [("math/bits.deBruijn32tab", laid_math_bits_deBruijn32tab), ("math/bits.deBruijn64tab", laid_math_bits_deBruijn64tab), ("internal/strconv.uint64pow10", laid_internal_strconv_uint64pow10), ("unicode/utf8.acceptRanges", laid_unicode_utf8_acceptRanges), ("strconv.ErrRange", laid_strconv_ErrRange), ("strconv.ErrSyntax", laid_strconv_ErrSyntax), ("unicode/utf8.first", laid_unicode_utf8_first)] }
def PolicyMadeMatchesReferenceSaid : Prop := policyMadeMatchesReferenceRow.holds Tryz.pinned (OpenSpec.ofChange policyMadeMatchesReferenceSpec)

/-- ITS FALSE NEIGHBOUR: 'it returns false'. Refute it at one input. -/
def policyMadeMatchesReferenceWrong : ChangeSpec := { name := "policyMadeMatchesReference", fn := fun _ => fun
  | [d1, d2, d3] => { results := [.lit (.bool false)], args := [d1, d2, d3] }
  | _ => none }
def PolicyMadeMatchesReferenceWrongFalsely : Prop := policyMadeMatchesReferenceRow.holds Tryz.pinned (OpenSpec.ofChange policyMadeMatchesReferenceWrong)

/-- 'kalendslaw25.PolicyParseMatchesReference': WHATEVER THE INPUT: true; the input reads as it did. -/
def policyParseMatchesReferenceSpec : ChangeSpec := { name := "policyParseMatchesReference", fn := fun _ => fun
  | [d] => { results := [.lit (.bool true)], args := [d] }
  | _ => none }
def policyParseMatchesReferenceRow : OpenClaim := { program := "ythkhgpbjfcmopaagreatdoor", sum := "51982405197d637bdd0c26777400ac4445fd5bcd0589fabb4d574bc87ba12095", func := "kalends/kalendslaw25.PolicyParseMatchesReference", spec := "policyParseMatchesReference", inPlace := ["internal/bytealg.IndexByteString", "internal/bytealg.IndexString", "internal/abi.NoEscape"], unfollowed := true, recurses := true, named := ["unicode/utf8.first", "unicode/utf8.acceptRanges", "internal/bytealg.MaxLen", "strconv.ErrSyntax", "strconv.ErrRange", "internal/strconv.uint64pow10", "math/bits.deBruijn32tab", "math/bits.deBruijn64tab"], apart := false, laid := [("math/bits.deBruijn32tab", laid_math_bits_deBruijn32tab), ("math/bits.deBruijn64tab", laid_math_bits_deBruijn64tab), ("internal/strconv.uint64pow10", laid_internal_strconv_uint64pow10), ("unicode/utf8.acceptRanges", laid_unicode_utf8_acceptRanges), ("strconv.ErrRange", laid_strconv_ErrRange), ("strconv.ErrSyntax", laid_strconv_ErrSyntax), ("unicode/utf8.first", laid_unicode_utf8_first)] }
def PolicyParseMatchesReferenceSaid : Prop := policyParseMatchesReferenceRow.holds Tryz.pinned (OpenSpec.ofChange policyParseMatchesReferenceSpec)

/-- ITS FALSE NEIGHBOUR: 'it returns false'. Refute it at one input. -/
def policyParseMatchesReferenceWrong : ChangeSpec := { name := "policyParseMatchesReference", fn := fun _ => fun
  | [d] => { results := [.lit (.bool false)], args := [d] }
  | _ => none }
def PolicyParseMatchesReferenceWrongFalsely : Prop := policyParseMatchesReferenceRow.holds Tryz.pinned (OpenSpec.ofChange policyParseMatchesReferenceWrong)

/-- 'kalendslaw25.PolicyFirstGrantDecides': WHATEVER THE INPUT: true; the input reads as it did. -/
def policyFirstGrantDecidesSpec : ChangeSpec := { name := "policyFirstGrantDecides", fn := fun _ => fun
  | [d1, d2, d3] => { results := [.lit (.bool true)], args := [d1, d2, d3] }
  | _ => none }
def policyFirstGrantDecidesRow : OpenClaim := { program := "ythkhgpbjfcmopaagreatdoor", sum := "51982405197d637bdd0c26777400ac4445fd5bcd0589fabb4d574bc87ba12095", func := "kalends/kalendslaw25.PolicyFirstGrantDecides", spec := "policyFirstGrantDecides", inPlace := ["internal/bytealg.IndexByteString", "internal/bytealg.IndexString", "internal/abi.NoEscape"], unfollowed := true, recurses := true, named := ["unicode/utf8.first", "unicode/utf8.acceptRanges", "internal/bytealg.MaxLen", "strconv.ErrSyntax", "strconv.ErrRange", "internal/strconv.uint64pow10", "math/bits.deBruijn32tab", "math/bits.deBruijn64tab"], apart := false, laid := [("math/bits.deBruijn32tab", laid_math_bits_deBruijn32tab), ("math/bits.deBruijn64tab", laid_math_bits_deBruijn64tab), ("internal/strconv.uint64pow10", laid_internal_strconv_uint64pow10), ("unicode/utf8.acceptRanges", laid_unicode_utf8_acceptRanges), ("strconv.ErrRange", laid_strconv_ErrRange), ("strconv.ErrSyntax", laid_strconv_ErrSyntax), ("unicode/utf8.first", laid_unicode_utf8_first)] }
def PolicyFirstGrantDecidesSaid : Prop := policyFirstGrantDecidesRow.holds Tryz.pinned (OpenSpec.ofChange policyFirstGrantDecidesSpec)

/-- ITS FALSE NEIGHBOUR: 'it returns false'. Refute it at one input. -/
def policyFirstGrantDecidesWrong : ChangeSpec := { name := "policyFirstGrantDecides", fn := fun _ => fun
  | [d1, d2, d3] => { results := [.lit (.bool false)], args := [d1, d2, d3] }
  | _ => none }
def PolicyFirstGrantDecidesWrongFalsely : Prop := policyFirstGrantDecidesRow.holds Tryz.pinned (OpenSpec.ofChange policyFirstGrantDecidesWrong)

/-- 'kalendslaw25.PolicyMonotone': WHATEVER THE INPUT: true; the input reads as it did. -/
def policyMonotoneSpec : ChangeSpec := { name := "policyMonotone", fn := fun _ => fun
  | [d1, d2, d3] => { results := [.lit (.bool true)], args := [d1, d2, d3] }
  | _ => none }
def policyMonotoneRow : OpenClaim := { program := "ythkhgpbjfcmopaagreatdoor", sum := "51982405197d637bdd0c26777400ac4445fd5bcd0589fabb4d574bc87ba12095", func := "kalends/kalendslaw25.PolicyMonotone", spec := "policyMonotone", inPlace := ["internal/bytealg.IndexByteString", "internal/bytealg.IndexString", "internal/abi.NoEscape"], unfollowed := true, recurses := true, named := ["unicode/utf8.first", "unicode/utf8.acceptRanges", "internal/bytealg.MaxLen", "strconv.ErrSyntax", "strconv.ErrRange", "internal/strconv.uint64pow10", "math/bits.deBruijn32tab", "math/bits.deBruijn64tab"], apart := false, laid := [("math/bits.deBruijn32tab", laid_math_bits_deBruijn32tab), ("math/bits.deBruijn64tab", laid_math_bits_deBruijn64tab), ("internal/strconv.uint64pow10", laid_internal_strconv_uint64pow10), ("unicode/utf8.acceptRanges", laid_unicode_utf8_acceptRanges), ("strconv.ErrRange", laid_strconv_ErrRange), ("strconv.ErrSyntax", laid_strconv_ErrSyntax), ("unicode/utf8.first", laid_unicode_utf8_first)] }
def PolicyMonotoneSaid : Prop := policyMonotoneRow.holds Tryz.pinned (OpenSpec.ofChange policyMonotoneSpec)

/-- ITS FALSE NEIGHBOUR: 'it returns false'. Refute it at one input. -/
def policyMonotoneWrong : ChangeSpec := { name := "policyMonotone", fn := fun _ => fun
  | [d1, d2, d3] => { results := [.lit (.bool false)], args := [d1, d2, d3] }
  | _ => none }
def PolicyMonotoneWrongFalsely : Prop := policyMonotoneRow.holds Tryz.pinned (OpenSpec.ofChange policyMonotoneWrong)

/-- 'kalendslaw25.PolicyStricterIsPreorder': WHATEVER THE INPUT: true; the input reads as it did. -/
def policyStricterIsPreorderSpec : ChangeSpec := { name := "policyStricterIsPreorder", fn := fun _ => fun
  | [d1, d2, d3] => { results := [.lit (.bool true)], args := [d1, d2, d3] }
  | _ => none }
def policyStricterIsPreorderRow : OpenClaim := { program := "ythkhgpbjfcmopaagreatdoor", sum := "51982405197d637bdd0c26777400ac4445fd5bcd0589fabb4d574bc87ba12095", func := "kalends/kalendslaw25.PolicyStricterIsPreorder", spec := "policyStricterIsPreorder", inPlace := ["internal/bytealg.IndexByteString", "internal/bytealg.IndexString", "internal/abi.NoEscape"], unfollowed := true, recurses := true, named := ["unicode/utf8.first", "unicode/utf8.acceptRanges", "internal/bytealg.MaxLen", "strconv.ErrSyntax", "strconv.ErrRange", "internal/strconv.uint64pow10", "math/bits.deBruijn32tab", "math/bits.deBruijn64tab"], apart := false, laid := [("math/bits.deBruijn32tab", laid_math_bits_deBruijn32tab), ("math/bits.deBruijn64tab", laid_math_bits_deBruijn64tab), ("internal/strconv.uint64pow10", laid_internal_strconv_uint64pow10), ("unicode/utf8.acceptRanges", laid_unicode_utf8_acceptRanges), ("strconv.ErrRange", laid_strconv_ErrRange), ("strconv.ErrSyntax", laid_strconv_ErrSyntax), ("unicode/utf8.first", laid_unicode_utf8_first)] }
def PolicyStricterIsPreorderSaid : Prop := policyStricterIsPreorderRow.holds Tryz.pinned (OpenSpec.ofChange policyStricterIsPreorderSpec)

/-- ITS FALSE NEIGHBOUR: 'it returns false'. Refute it at one input. -/
def policyStricterIsPreorderWrong : ChangeSpec := { name := "policyStricterIsPreorder", fn := fun _ => fun
  | [d1, d2, d3] => { results := [.lit (.bool false)], args := [d1, d2, d3] }
  | _ => none }
def PolicyStricterIsPreorderWrongFalsely : Prop := policyStricterIsPreorderRow.holds Tryz.pinned (OpenSpec.ofChange policyStricterIsPreorderWrong)

/-- 'kalendslaw25.PolicyStricterAllowsLess': WHATEVER THE INPUT: true; the input reads as it did. -/
def policyStricterAllowsLessSpec : ChangeSpec := { name := "policyStricterAllowsLess", fn := fun _ => fun
  | [d1, d2, d3] => { results := [.lit (.bool true)], args := [d1, d2, d3] }
  | _ => none }
def policyStricterAllowsLessRow : OpenClaim := { program := "ythkhgpbjfcmopaagreatdoor", sum := "51982405197d637bdd0c26777400ac4445fd5bcd0589fabb4d574bc87ba12095", func := "kalends/kalendslaw25.PolicyStricterAllowsLess", spec := "policyStricterAllowsLess", inPlace := ["internal/bytealg.IndexByteString", "internal/bytealg.IndexString", "internal/abi.NoEscape"], unfollowed := true, recurses := true, named := ["unicode/utf8.first", "unicode/utf8.acceptRanges", "internal/bytealg.MaxLen", "strconv.ErrSyntax", "strconv.ErrRange", "internal/strconv.uint64pow10", "math/bits.deBruijn32tab", "math/bits.deBruijn64tab"], apart := false, laid := [("math/bits.deBruijn32tab", laid_math_bits_deBruijn32tab), ("math/bits.deBruijn64tab", laid_math_bits_deBruijn64tab), ("internal/strconv.uint64pow10", laid_internal_strconv_uint64pow10), ("unicode/utf8.acceptRanges", laid_unicode_utf8_acceptRanges), ("strconv.ErrRange", laid_strconv_ErrRange), ("strconv.ErrSyntax", laid_strconv_ErrSyntax), ("unicode/utf8.first", laid_unicode_utf8_first)] }
def PolicyStricterAllowsLessSaid : Prop := policyStricterAllowsLessRow.holds Tryz.pinned (OpenSpec.ofChange policyStricterAllowsLessSpec)

/-- ITS FALSE NEIGHBOUR: 'it returns false'. Refute it at one input. -/
def policyStricterAllowsLessWrong : ChangeSpec := { name := "policyStricterAllowsLess", fn := fun _ => fun
  | [d1, d2, d3] => { results := [.lit (.bool false)], args := [d1, d2, d3] }
  | _ => none }
def PolicyStricterAllowsLessWrongFalsely : Prop := policyStricterAllowsLessRow.holds Tryz.pinned (OpenSpec.ofChange policyStricterAllowsLessWrong)

/-- 'kalendslaw25.PolicyDroppedGrants': WHATEVER THE INPUT: true; the input reads as it did. -/
def policyDroppedGrantsSpec : ChangeSpec := { name := "policyDroppedGrants", fn := fun _ => fun
  | [d1, d2, d3] => { results := [.lit (.bool true)], args := [d1, d2, d3] }
  | _ => none }
def policyDroppedGrantsRow : OpenClaim := { program := "ythkhgpbjfcmopaagreatdoor", sum := "51982405197d637bdd0c26777400ac4445fd5bcd0589fabb4d574bc87ba12095", func := "kalends/kalendslaw25.PolicyDroppedGrants", spec := "policyDroppedGrants", inPlace := ["internal/bytealg.IndexByteString", "internal/bytealg.IndexString", "internal/abi.NoEscape"], unfollowed := true, recurses := true, named := ["unicode/utf8.first", "unicode/utf8.acceptRanges", "internal/bytealg.MaxLen", "strconv.ErrSyntax", "strconv.ErrRange", "internal/strconv.uint64pow10", "math/bits.deBruijn32tab", "math/bits.deBruijn64tab"], apart := false, laid := [("math/bits.deBruijn32tab", laid_math_bits_deBruijn32tab), ("math/bits.deBruijn64tab", laid_math_bits_deBruijn64tab), ("internal/strconv.uint64pow10", laid_internal_strconv_uint64pow10), ("unicode/utf8.acceptRanges", laid_unicode_utf8_acceptRanges), ("strconv.ErrRange", laid_strconv_ErrRange), ("strconv.ErrSyntax", laid_strconv_ErrSyntax), ("unicode/utf8.first", laid_unicode_utf8_first)] }
def PolicyDroppedGrantsSaid : Prop := policyDroppedGrantsRow.holds Tryz.pinned (OpenSpec.ofChange policyDroppedGrantsSpec)

/-- ITS FALSE NEIGHBOUR: 'it returns false'. Refute it at one input. -/
def policyDroppedGrantsWrong : ChangeSpec := { name := "policyDroppedGrants", fn := fun _ => fun
  | [d1, d2, d3] => { results := [.lit (.bool false)], args := [d1, d2, d3] }
  | _ => none }
def PolicyDroppedGrantsWrongFalsely : Prop := policyDroppedGrantsRow.holds Tryz.pinned (OpenSpec.ofChange policyDroppedGrantsWrong)

/-- 'kalendslaw25.PolicyTextRoundTrip': WHATEVER THE INPUT: true; the input reads as it did. -/
def policyTextRoundTripSpec : ChangeSpec := { name := "policyTextRoundTrip", fn := fun _ => fun
  | [d1, d2] => { results := [.lit (.bool true)], args := [d1, d2] }
  | _ => none }
def policyTextRoundTripRow : OpenClaim := { program := "ythkhgpbjfcmopaagreatdoor", sum := "51982405197d637bdd0c26777400ac4445fd5bcd0589fabb4d574bc87ba12095", func := "kalends/kalendslaw25.PolicyTextRoundTrip", spec := "policyTextRoundTrip", inPlace := ["internal/bytealg.IndexByteString", "internal/bytealg.IndexString", "internal/abi.NoEscape"], unfollowed := true, recurses := true, named := ["unicode/utf8.first", "unicode/utf8.acceptRanges", "internal/bytealg.MaxLen", "strconv.ErrSyntax", "strconv.ErrRange", "internal/strconv.uint64pow10", "math/bits.deBruijn32tab", "math/bits.deBruijn64tab"], apart := false, laid := [("math/bits.deBruijn32tab", laid_math_bits_deBruijn32tab), ("math/bits.deBruijn64tab", laid_math_bits_deBruijn64tab), ("internal/strconv.uint64pow10", laid_internal_strconv_uint64pow10), ("unicode/utf8.acceptRanges", laid_unicode_utf8_acceptRanges), ("strconv.ErrRange", laid_strconv_ErrRange), ("strconv.ErrSyntax", laid_strconv_ErrSyntax), ("unicode/utf8.first", laid_unicode_utf8_first)] }
def PolicyTextRoundTripSaid : Prop := policyTextRoundTripRow.holds Tryz.pinned (OpenSpec.ofChange policyTextRoundTripSpec)

/-- ITS FALSE NEIGHBOUR: 'it returns false'. Refute it at one input. -/
def policyTextRoundTripWrong : ChangeSpec := { name := "policyTextRoundTrip", fn := fun _ => fun
  | [d1, d2] => { results := [.lit (.bool false)], args := [d1, d2] }
  | _ => none }
def PolicyTextRoundTripWrongFalsely : Prop := policyTextRoundTripRow.holds Tryz.pinned (OpenSpec.ofChange policyTextRoundTripWrong)

/-- 'kalendslaw25.PolicyTeamsAreASet': WHATEVER THE INPUT: true; the input reads as it did. -/
def policyTeamsAreASetSpec : ChangeSpec := { name := "policyTeamsAreASet", fn := fun _ => fun
  | [d1, d2, d3] => { results := [.lit (.bool true)], args := [d1, d2, d3] }
  | _ => none }
def policyTeamsAreASetRow : OpenClaim := { program := "ythkhgpbjfcmopaagreatdoor", sum := "51982405197d637bdd0c26777400ac4445fd5bcd0589fabb4d574bc87ba12095", func := "kalends/kalendslaw25.PolicyTeamsAreASet", spec := "policyTeamsAreASet", inPlace := ["internal/bytealg.IndexByteString", "internal/bytealg.IndexString", "internal/abi.NoEscape"], unfollowed := true, recurses := true, named := ["unicode/utf8.first", "unicode/utf8.acceptRanges", "internal/bytealg.MaxLen", "strconv.ErrSyntax", "strconv.ErrRange", "internal/strconv.uint64pow10", "math/bits.deBruijn32tab", "math/bits.deBruijn64tab"], apart := false, laid := [("math/bits.deBruijn32tab", laid_math_bits_deBruijn32tab), ("math/bits.deBruijn64tab", laid_math_bits_deBruijn64tab), ("internal/strconv.uint64pow10", laid_internal_strconv_uint64pow10), ("unicode/utf8.acceptRanges", laid_unicode_utf8_acceptRanges), ("strconv.ErrRange", laid_strconv_ErrRange), ("strconv.ErrSyntax", laid_strconv_ErrSyntax), ("unicode/utf8.first", laid_unicode_utf8_first)] }
def PolicyTeamsAreASetSaid : Prop := policyTeamsAreASetRow.holds Tryz.pinned (OpenSpec.ofChange policyTeamsAreASetSpec)

/-- ITS FALSE NEIGHBOUR: 'it returns false'. Refute it at one input. -/
def policyTeamsAreASetWrong : ChangeSpec := { name := "policyTeamsAreASet", fn := fun _ => fun
  | [d1, d2, d3] => { results := [.lit (.bool false)], args := [d1, d2, d3] }
  | _ => none }
def PolicyTeamsAreASetWrongFalsely : Prop := policyTeamsAreASetRow.holds Tryz.pinned (OpenSpec.ofChange policyTeamsAreASetWrong)

/-- 'kalendstop.TopStricterPoliciesTellLess': WHATEVER THE INPUT: true; the input reads as it did. -/
def topStricterPoliciesTellLessSpec : ChangeSpec := { name := "topStricterPoliciesTellLess", fn := fun _ => fun
  | [d1, d2, d3] => { results := [.lit (.bool true)], args := [d1, d2, d3] }
  | _ => none }
def topStricterPoliciesTellLessRow : OpenClaim := { program := "ythkhgpbjfcmopaagreatdoor", sum := "51982405197d637bdd0c26777400ac4445fd5bcd0589fabb4d574bc87ba12095", func := "kalends/kalendstop.TopStricterPoliciesTellLess", spec := "topStricterPoliciesTellLess", unfollowed := true, recurses := true, named := ["kalends/digest.rounds"], apart := false, laid := [("kalends/digest.rounds", laid_kalends_digest_rounds)] }
def TopStricterPoliciesTellLessSaid : Prop := topStricterPoliciesTellLessRow.holds Tryz.pinned (OpenSpec.ofChange topStricterPoliciesTellLessSpec)

/-- ITS FALSE NEIGHBOUR: 'it returns false'. Refute it at one input. -/
def topStricterPoliciesTellLessWrong : ChangeSpec := { name := "topStricterPoliciesTellLess", fn := fun _ => fun
  | [d1, d2, d3] => { results := [.lit (.bool false)], args := [d1, d2, d3] }
  | _ => none }
def TopStricterPoliciesTellLessWrongFalsely : Prop := topStricterPoliciesTellLessRow.holds Tryz.pinned (OpenSpec.ofChange topStricterPoliciesTellLessWrong)

/- THE SECOND FORM. 'bulk': how many values and letters a reading holds, each counted each time it is reached (what is shared counts as often as it is met; a slice's spare places count too). A statement '..UptoSaid' is the law's where the arguments, and the package variables that the reading takes, are together of bulk at most 1048576: NARROWER than '..Said'. Prove '..Said' where nothing that the law and all that it calls make is longer than what came in: it says more and counts as full. Else prove '..UptoSaid'. A law counts once. -/
mutual
def uptoBulk {H : Type} : DataW H → Nat
  | .lit (.string bytes) => bytes.length + 1
  | .lit _ => 1
  | .nil => 1
  | .ptr d => uptoBulk d + 1
  | .slice elems spare => uptoBulkAll elems + uptoBulkAll spare + 1
  | .agg parts => uptoBulkAll parts + 1
  | .iface _ d => uptoBulk d + 1
  | .map entries => uptoBulkEntries entries + 1
  | .held _ => 1
def uptoBulkAll {H : Type} : List (DataW H) → Nat
  | [] => 0
  | d :: r => uptoBulk d + uptoBulkAll r
def uptoBulkEntries {H : Type} : List (Lit × DataW H) → Nat
  | [] => 0
  | x :: r => uptoBulkEntry x + uptoBulkEntries r
def uptoBulkEntry {H : Type} : Lit × DataW H → Nat
  | (.string bytes, d) => bytes.length + uptoBulk d + 1
  | (_, d) => uptoBulk d + 1
 end
def uptoSmall : (H : Type) → List (DataW H) → Bool := fun _ ds => decide (uptoBulkAll ds ≤ 1048576)
def OpenSpec.upto (s : _root_.Go.ChangeSpec) : _root_.Go.OpenSpec := { _root_.Go.OpenSpec.ofChange s with cond := some uptoSmall }

/-- 'kalendslaw25.PolicyMatchesReference', WHERE WHAT IT READS IS OF BULK AT MOST 1048576: true; the input reads as it did. -/
def policyMatchesReferenceUptoRow : OpenClaim := { program := "ythkhgpbjfcmopaagreatdoor", sum := "51982405197d637bdd0c26777400ac4445fd5bcd0589fabb4d574bc87ba12095", func := "kalends/kalendslaw25.PolicyMatchesReference", spec := "policyMatchesReference", inPlace := ["internal/bytealg.IndexByteString", "internal/bytealg.IndexString", "internal/abi.NoEscape"], unfollowed := true, recurses := true, named := ["unicode/utf8.first", "unicode/utf8.acceptRanges", "internal/bytealg.MaxLen", "strconv.ErrSyntax", "strconv.ErrRange", "internal/strconv.uint64pow10", "math/bits.deBruijn32tab", "math/bits.deBruijn64tab"], apart := false, laid := [("math/bits.deBruijn32tab", laid_math_bits_deBruijn32tab), ("math/bits.deBruijn64tab", laid_math_bits_deBruijn64tab), ("internal/strconv.uint64pow10", laid_internal_strconv_uint64pow10), ("unicode/utf8.acceptRanges", laid_unicode_utf8_acceptRanges), ("strconv.ErrRange", laid_strconv_ErrRange), ("strconv.ErrSyntax", laid_strconv_ErrSyntax), ("unicode/utf8.first", laid_unicode_utf8_first)], narrowed := true }
def PolicyMatchesReferenceUptoSaid : Prop := policyMatchesReferenceUptoRow.holds Tryz.pinned (OpenSpec.upto policyMatchesReferenceSpec)

/-- 'kalendslaw25.PolicyMadeMatchesReference', WHERE WHAT IT READS IS OF BULK AT MOST 1048576: true; the input reads as it did. -/
def policyMadeMatchesReferenceUptoRow : OpenClaim := { program := "ythkhgpbjfcmopaagreatdoor", sum := "51982405197d637bdd0c26777400ac4445fd5bcd0589fabb4d574bc87ba12095", func := "kalends/kalendslaw25.PolicyMadeMatchesReference", spec := "policyMadeMatchesReference", inPlace := ["internal/bytealg.IndexByteString", "internal/bytealg.IndexString", "internal/abi.NoEscape"], unfollowed := true, recurses := true, named := ["unicode/utf8.first", "unicode/utf8.acceptRanges", "internal/bytealg.MaxLen", "strconv.ErrSyntax", "strconv.ErrRange", "internal/strconv.uint64pow10", "math/bits.deBruijn32tab", "math/bits.deBruijn64tab"], apart := false, laid := [("math/bits.deBruijn32tab", laid_math_bits_deBruijn32tab), ("math/bits.deBruijn64tab", laid_math_bits_deBruijn64tab), ("internal/strconv.uint64pow10", laid_internal_strconv_uint64pow10), ("unicode/utf8.acceptRanges", laid_unicode_utf8_acceptRanges), ("strconv.ErrRange", laid_strconv_ErrRange), ("strconv.ErrSyntax", laid_strconv_ErrSyntax), ("unicode/utf8.first", laid_unicode_utf8_first)], narrowed := true }
def PolicyMadeMatchesReferenceUptoSaid : Prop := policyMadeMatchesReferenceUptoRow.holds Tryz.pinned (OpenSpec.upto policyMadeMatchesReferenceSpec)

/-- 'kalendslaw25.PolicyParseMatchesReference', WHERE WHAT IT READS IS OF BULK AT MOST 1048576: true; the input reads as it did. -/
def policyParseMatchesReferenceUptoRow : OpenClaim := { program := "ythkhgpbjfcmopaagreatdoor", sum := "51982405197d637bdd0c26777400ac4445fd5bcd0589fabb4d574bc87ba12095", func := "kalends/kalendslaw25.PolicyParseMatchesReference", spec := "policyParseMatchesReference", inPlace := ["internal/bytealg.IndexByteString", "internal/bytealg.IndexString", "internal/abi.NoEscape"], unfollowed := true, recurses := true, named := ["unicode/utf8.first", "unicode/utf8.acceptRanges", "internal/bytealg.MaxLen", "strconv.ErrSyntax", "strconv.ErrRange", "internal/strconv.uint64pow10", "math/bits.deBruijn32tab", "math/bits.deBruijn64tab"], apart := false, laid := [("math/bits.deBruijn32tab", laid_math_bits_deBruijn32tab), ("math/bits.deBruijn64tab", laid_math_bits_deBruijn64tab), ("internal/strconv.uint64pow10", laid_internal_strconv_uint64pow10), ("unicode/utf8.acceptRanges", laid_unicode_utf8_acceptRanges), ("strconv.ErrRange", laid_strconv_ErrRange), ("strconv.ErrSyntax", laid_strconv_ErrSyntax), ("unicode/utf8.first", laid_unicode_utf8_first)], narrowed := true }
def PolicyParseMatchesReferenceUptoSaid : Prop := policyParseMatchesReferenceUptoRow.holds Tryz.pinned (OpenSpec.upto policyParseMatchesReferenceSpec)

/-- 'kalendslaw25.PolicyFirstGrantDecides', WHERE WHAT IT READS IS OF BULK AT MOST 1048576: true; the input reads as it did. -/
def policyFirstGrantDecidesUptoRow : OpenClaim := { program := "ythkhgpbjfcmopaagreatdoor", sum := "51982405197d637bdd0c26777400ac4445fd5bcd0589fabb4d574bc87ba12095", func := "kalends/kalendslaw25.PolicyFirstGrantDecides", spec := "policyFirstGrantDecides", inPlace := ["internal/bytealg.IndexByteString", "internal/bytealg.IndexString", "internal/abi.NoEscape"], unfollowed := true, recurses := true, named := ["unicode/utf8.first", "unicode/utf8.acceptRanges", "internal/bytealg.MaxLen", "strconv.ErrSyntax", "strconv.ErrRange", "internal/strconv.uint64pow10", "math/bits.deBruijn32tab", "math/bits.deBruijn64tab"], apart := false, laid := [("math/bits.deBruijn32tab", laid_math_bits_deBruijn32tab), ("math/bits.deBruijn64tab", laid_math_bits_deBruijn64tab), ("internal/strconv.uint64pow10", laid_internal_strconv_uint64pow10), ("unicode/utf8.acceptRanges", laid_unicode_utf8_acceptRanges), ("strconv.ErrRange", laid_strconv_ErrRange), ("strconv.ErrSyntax", laid_strconv_ErrSyntax), ("unicode/utf8.first", laid_unicode_utf8_first)], narrowed := true }
def PolicyFirstGrantDecidesUptoSaid : Prop := policyFirstGrantDecidesUptoRow.holds Tryz.pinned (OpenSpec.upto policyFirstGrantDecidesSpec)

/-- 'kalendslaw25.PolicyMonotone', WHERE WHAT IT READS IS OF BULK AT MOST 1048576: true; the input reads as it did. -/
def policyMonotoneUptoRow : OpenClaim := { program := "ythkhgpbjfcmopaagreatdoor", sum := "51982405197d637bdd0c26777400ac4445fd5bcd0589fabb4d574bc87ba12095", func := "kalends/kalendslaw25.PolicyMonotone", spec := "policyMonotone", inPlace := ["internal/bytealg.IndexByteString", "internal/bytealg.IndexString", "internal/abi.NoEscape"], unfollowed := true, recurses := true, named := ["unicode/utf8.first", "unicode/utf8.acceptRanges", "internal/bytealg.MaxLen", "strconv.ErrSyntax", "strconv.ErrRange", "internal/strconv.uint64pow10", "math/bits.deBruijn32tab", "math/bits.deBruijn64tab"], apart := false, laid := [("math/bits.deBruijn32tab", laid_math_bits_deBruijn32tab), ("math/bits.deBruijn64tab", laid_math_bits_deBruijn64tab), ("internal/strconv.uint64pow10", laid_internal_strconv_uint64pow10), ("unicode/utf8.acceptRanges", laid_unicode_utf8_acceptRanges), ("strconv.ErrRange", laid_strconv_ErrRange), ("strconv.ErrSyntax", laid_strconv_ErrSyntax), ("unicode/utf8.first", laid_unicode_utf8_first)], narrowed := true }
def PolicyMonotoneUptoSaid : Prop := policyMonotoneUptoRow.holds Tryz.pinned (OpenSpec.upto policyMonotoneSpec)

/-- 'kalendslaw25.PolicyStricterIsPreorder', WHERE WHAT IT READS IS OF BULK AT MOST 1048576: true; the input reads as it did. -/
def policyStricterIsPreorderUptoRow : OpenClaim := { program := "ythkhgpbjfcmopaagreatdoor", sum := "51982405197d637bdd0c26777400ac4445fd5bcd0589fabb4d574bc87ba12095", func := "kalends/kalendslaw25.PolicyStricterIsPreorder", spec := "policyStricterIsPreorder", inPlace := ["internal/bytealg.IndexByteString", "internal/bytealg.IndexString", "internal/abi.NoEscape"], unfollowed := true, recurses := true, named := ["unicode/utf8.first", "unicode/utf8.acceptRanges", "internal/bytealg.MaxLen", "strconv.ErrSyntax", "strconv.ErrRange", "internal/strconv.uint64pow10", "math/bits.deBruijn32tab", "math/bits.deBruijn64tab"], apart := false, laid := [("math/bits.deBruijn32tab", laid_math_bits_deBruijn32tab), ("math/bits.deBruijn64tab", laid_math_bits_deBruijn64tab), ("internal/strconv.uint64pow10", laid_internal_strconv_uint64pow10), ("unicode/utf8.acceptRanges", laid_unicode_utf8_acceptRanges), ("strconv.ErrRange", laid_strconv_ErrRange), ("strconv.ErrSyntax", laid_strconv_ErrSyntax), ("unicode/utf8.first", laid_unicode_utf8_first)], narrowed := true }
def PolicyStricterIsPreorderUptoSaid : Prop := policyStricterIsPreorderUptoRow.holds Tryz.pinned (OpenSpec.upto policyStricterIsPreorderSpec)

/-- 'kalendslaw25.PolicyStricterAllowsLess', WHERE WHAT IT READS IS OF BULK AT MOST 1048576: true; the input reads as it did. -/
def policyStricterAllowsLessUptoRow : OpenClaim := { program := "ythkhgpbjfcmopaagreatdoor", sum := "51982405197d637bdd0c26777400ac4445fd5bcd0589fabb4d574bc87ba12095", func := "kalends/kalendslaw25.PolicyStricterAllowsLess", spec := "policyStricterAllowsLess", inPlace := ["internal/bytealg.IndexByteString", "internal/bytealg.IndexString", "internal/abi.NoEscape"], unfollowed := true, recurses := true, named := ["unicode/utf8.first", "unicode/utf8.acceptRanges", "internal/bytealg.MaxLen", "strconv.ErrSyntax", "strconv.ErrRange", "internal/strconv.uint64pow10", "math/bits.deBruijn32tab", "math/bits.deBruijn64tab"], apart := false, laid := [("math/bits.deBruijn32tab", laid_math_bits_deBruijn32tab), ("math/bits.deBruijn64tab", laid_math_bits_deBruijn64tab), ("internal/strconv.uint64pow10", laid_internal_strconv_uint64pow10), ("unicode/utf8.acceptRanges", laid_unicode_utf8_acceptRanges), ("strconv.ErrRange", laid_strconv_ErrRange), ("strconv.ErrSyntax", laid_strconv_ErrSyntax), ("unicode/utf8.first", laid_unicode_utf8_first)], narrowed := true }
def PolicyStricterAllowsLessUptoSaid : Prop := policyStricterAllowsLessUptoRow.holds Tryz.pinned (OpenSpec.upto policyStricterAllowsLessSpec)

/-- 'kalendslaw25.PolicyDroppedGrants', WHERE WHAT IT READS IS OF BULK AT MOST 1048576: true; the input reads as it did. -/
def policyDroppedGrantsUptoRow : OpenClaim := { program := "ythkhgpbjfcmopaagreatdoor", sum := "51982405197d637bdd0c26777400ac4445fd5bcd0589fabb4d574bc87ba12095", func := "kalends/kalendslaw25.PolicyDroppedGrants", spec := "policyDroppedGrants", inPlace := ["internal/bytealg.IndexByteString", "internal/bytealg.IndexString", "internal/abi.NoEscape"], unfollowed := true, recurses := true, named := ["unicode/utf8.first", "unicode/utf8.acceptRanges", "internal/bytealg.MaxLen", "strconv.ErrSyntax", "strconv.ErrRange", "internal/strconv.uint64pow10", "math/bits.deBruijn32tab", "math/bits.deBruijn64tab"], apart := false, laid := [("math/bits.deBruijn32tab", laid_math_bits_deBruijn32tab), ("math/bits.deBruijn64tab", laid_math_bits_deBruijn64tab), ("internal/strconv.uint64pow10", laid_internal_strconv_uint64pow10), ("unicode/utf8.acceptRanges", laid_unicode_utf8_acceptRanges), ("strconv.ErrRange", laid_strconv_ErrRange), ("strconv.ErrSyntax", laid_strconv_ErrSyntax), ("unicode/utf8.first", laid_unicode_utf8_first)], narrowed := true }
def PolicyDroppedGrantsUptoSaid : Prop := policyDroppedGrantsUptoRow.holds Tryz.pinned (OpenSpec.upto policyDroppedGrantsSpec)

/-- 'kalendslaw25.PolicyTextRoundTrip', WHERE WHAT IT READS IS OF BULK AT MOST 1048576: true; the input reads as it did. -/
def policyTextRoundTripUptoRow : OpenClaim := { program := "ythkhgpbjfcmopaagreatdoor", sum := "51982405197d637bdd0c26777400ac4445fd5bcd0589fabb4d574bc87ba12095", func := "kalends/kalendslaw25.PolicyTextRoundTrip", spec := "policyTextRoundTrip", inPlace := ["internal/bytealg.IndexByteString", "internal/bytealg.IndexString", "internal/abi.NoEscape"], unfollowed := true, recurses := true, named := ["unicode/utf8.first", "unicode/utf8.acceptRanges", "internal/bytealg.MaxLen", "strconv.ErrSyntax", "strconv.ErrRange", "internal/strconv.uint64pow10", "math/bits.deBruijn32tab", "math/bits.deBruijn64tab"], apart := false, laid := [("math/bits.deBruijn32tab", laid_math_bits_deBruijn32tab), ("math/bits.deBruijn64tab", laid_math_bits_deBruijn64tab), ("internal/strconv.uint64pow10", laid_internal_strconv_uint64pow10), ("unicode/utf8.acceptRanges", laid_unicode_utf8_acceptRanges), ("strconv.ErrRange", laid_strconv_ErrRange), ("strconv.ErrSyntax", laid_strconv_ErrSyntax), ("unicode/utf8.first", laid_unicode_utf8_first)], narrowed := true }
def PolicyTextRoundTripUptoSaid : Prop := policyTextRoundTripUptoRow.holds Tryz.pinned (OpenSpec.upto policyTextRoundTripSpec)

/-- 'kalendslaw25.PolicyTeamsAreASet', WHERE WHAT IT READS IS OF BULK AT MOST 1048576: true; the input reads as it did. -/
def policyTeamsAreASetUptoRow : OpenClaim := { program := "ythkhgpbjfcmopaagreatdoor", sum := "51982405197d637bdd0c26777400ac4445fd5bcd0589fabb4d574bc87ba12095", func := "kalends/kalendslaw25.PolicyTeamsAreASet", spec := "policyTeamsAreASet", inPlace := ["internal/bytealg.IndexByteString", "internal/bytealg.IndexString", "internal/abi.NoEscape"], unfollowed := true, recurses := true, named := ["unicode/utf8.first", "unicode/utf8.acceptRanges", "internal/bytealg.MaxLen", "strconv.ErrSyntax", "strconv.ErrRange", "internal/strconv.uint64pow10", "math/bits.deBruijn32tab", "math/bits.deBruijn64tab"], apart := false, laid := [("math/bits.deBruijn32tab", laid_math_bits_deBruijn32tab), ("math/bits.deBruijn64tab", laid_math_bits_deBruijn64tab), ("internal/strconv.uint64pow10", laid_internal_strconv_uint64pow10), ("unicode/utf8.acceptRanges", laid_unicode_utf8_acceptRanges), ("strconv.ErrRange", laid_strconv_ErrRange), ("strconv.ErrSyntax", laid_strconv_ErrSyntax), ("unicode/utf8.first", laid_unicode_utf8_first)], narrowed := true }
def PolicyTeamsAreASetUptoSaid : Prop := policyTeamsAreASetUptoRow.holds Tryz.pinned (OpenSpec.upto policyTeamsAreASetSpec)

/-- 'kalendstop.TopStricterPoliciesTellLess', WHERE WHAT IT READS IS OF BULK AT MOST 1048576: true; the input reads as it did. -/
def topStricterPoliciesTellLessUptoRow : OpenClaim := { program := "ythkhgpbjfcmopaagreatdoor", sum := "51982405197d637bdd0c26777400ac4445fd5bcd0589fabb4d574bc87ba12095", func := "kalends/kalendstop.TopStricterPoliciesTellLess", spec := "topStricterPoliciesTellLess", unfollowed := true, recurses := true, named := ["kalends/digest.rounds"], apart := false, laid := [("kalends/digest.rounds", laid_kalends_digest_rounds)], narrowed := true }
def TopStricterPoliciesTellLessUptoSaid : Prop := topStricterPoliciesTellLessUptoRow.holds Tryz.pinned (OpenSpec.upto topStricterPoliciesTellLessSpec)

end Rows
end Go.Proofs.YthkhgpbjfcmopaaGreatDoor
