/-
  NARROWER THAN 'FOR EVERY INPUT', by the rows' own cells (each row's printed sentence says how): MimeParts: laid · MimeQuotes: laid · MimeWithin: laid · MimeJoins: laid · MimeFinds: loops, laid · MimeTexts: loops, laid · MimeTypes: laid.
  DERIVED. THE GIVEN ROWS OF THIS SEAT. 7 by the template 'for every input the law returns true; each argument reads behind the call as it read before'; 0 by the template 'total and deterministic' (their statements: YtalgmnlclflllaaGreatDoorTotals.lean).
  GIVEN WITH THE SEED: the statements are not yours to turn. If you find one false, say at which input.
  Laid BY PROGRAM, IN A SANDBOX (cutbox-rows.mjs): the forced cells as the released guide's own fill.sh prints them over the translation 90399048f20d3e70… (all of the seat's roots in one cut). By AI agents, Wed Nov 11 2026. No macro, syntax, notation, axiom, sorry.
-/
import Derived.Test.YtalgmnlclflllaaGreatDoorChecked
import GoSem.PinnedTables
import GoSem.Claim
import GoSem.ClaimJoined
import GoSem.ClaimMapViews
import Derived.JoinedTies
import Derived.KernelRfl
namespace Go.Proofs.YtalgmnlclflllaaGreatDoor
/- THE CELL 'sum', in the pinned program and in every row, IS THE sha256 OF THE DUMP (.gsa) THAT YtalgmnlclflllaaGreatDoorProg.lean LOADS. Nothing in Lean hashes anything: it is a label: what it is worth is what the hold of that sum in a sandbox is worth. -/
noncomputable def Tryz.pinned : Pinned := { name := "ytalgmnlclflllaagreatdoor", sum := "90399048f20d3e70b64992dd8dba7319ccc25807e64e46f8c136e34f8a0aacf8", checked := Tryz.checked }
namespace Rows
def none {H : Type} : Left H := { results := [], args := [] }

/- WHAT THE LISTED PACKAGE-LEVEL VARIABLES READ AS WHEN THE CALL BEGINS. Each datum BY PROGRAM (the guide's laid-datum.mjs) off the statement by which the dump's own 'gosem.cut.vars' lays the variable. In a bare row this is a premise. The card (YtalgmnlclflllaaGreatDoorCards.lean) ties it to the program's text. -/
def laid_math_bits_deBruijn32tab {H : Type} : DataW H := .agg [.lit (.int .u8 0), .lit (.int .u8 1), .lit (.int .u8 28), .lit (.int .u8 2), .lit (.int .u8 29), .lit (.int .u8 14), .lit (.int .u8 24), .lit (.int .u8 3), .lit (.int .u8 30), .lit (.int .u8 22), .lit (.int .u8 20), .lit (.int .u8 15), .lit (.int .u8 25), .lit (.int .u8 17), .lit (.int .u8 4), .lit (.int .u8 8), .lit (.int .u8 31), .lit (.int .u8 27), .lit (.int .u8 13), .lit (.int .u8 23), .lit (.int .u8 21), .lit (.int .u8 19), .lit (.int .u8 16), .lit (.int .u8 7), .lit (.int .u8 26), .lit (.int .u8 12), .lit (.int .u8 18), .lit (.int .u8 6), .lit (.int .u8 11), .lit (.int .u8 5), .lit (.int .u8 10), .lit (.int .u8 9)]
def laid_math_bits_deBruijn64tab {H : Type} : DataW H := .agg [.lit (.int .u8 0), .lit (.int .u8 1), .lit (.int .u8 56), .lit (.int .u8 2), .lit (.int .u8 57), .lit (.int .u8 49), .lit (.int .u8 28), .lit (.int .u8 3), .lit (.int .u8 61), .lit (.int .u8 58), .lit (.int .u8 42), .lit (.int .u8 50), .lit (.int .u8 38), .lit (.int .u8 29), .lit (.int .u8 17), .lit (.int .u8 4), .lit (.int .u8 62), .lit (.int .u8 47), .lit (.int .u8 59), .lit (.int .u8 36), .lit (.int .u8 45), .lit (.int .u8 43), .lit (.int .u8 51), .lit (.int .u8 22), .lit (.int .u8 53), .lit (.int .u8 39), .lit (.int .u8 33), .lit (.int .u8 30), .lit (.int .u8 24), .lit (.int .u8 18), .lit (.int .u8 12), .lit (.int .u8 5), .lit (.int .u8 63), .lit (.int .u8 55), .lit (.int .u8 48), .lit (.int .u8 27), .lit (.int .u8 60), .lit (.int .u8 41), .lit (.int .u8 37), .lit (.int .u8 16), .lit (.int .u8 46), .lit (.int .u8 35), .lit (.int .u8 44), .lit (.int .u8 21), .lit (.int .u8 52), .lit (.int .u8 32), .lit (.int .u8 23), .lit (.int .u8 11), .lit (.int .u8 54), .lit (.int .u8 26), .lit (.int .u8 40), .lit (.int .u8 15), .lit (.int .u8 34), .lit (.int .u8 20), .lit (.int .u8 31), .lit (.int .u8 10), .lit (.int .u8 25), .lit (.int .u8 14), .lit (.int .u8 19), .lit (.int .u8 9), .lit (.int .u8 13), .lit (.int .u8 8), .lit (.int .u8 7), .lit (.int .u8 6)]
def laid_internal_strconv_uint64pow10 {H : Type} : DataW H := .agg [.lit (.int .u64 1), .lit (.int .u64 10), .lit (.int .u64 100), .lit (.int .u64 1000), .lit (.int .u64 10000), .lit (.int .u64 100000), .lit (.int .u64 1000000), .lit (.int .u64 10000000), .lit (.int .u64 100000000), .lit (.int .u64 1000000000), .lit (.int .u64 10000000000), .lit (.int .u64 100000000000), .lit (.int .u64 1000000000000), .lit (.int .u64 10000000000000), .lit (.int .u64 100000000000000), .lit (.int .u64 1000000000000000), .lit (.int .u64 10000000000000000), .lit (.int .u64 100000000000000000), .lit (.int .u64 1000000000000000000), .lit (.int .u64 10000000000000000000)]
def laid_unicode_utf8_acceptRanges {H : Type} : DataW H := .agg [.agg [.lit (.int .u8 128), .lit (.int .u8 191)], .agg [.lit (.int .u8 160), .lit (.int .u8 191)], .agg [.lit (.int .u8 128), .lit (.int .u8 159)], .agg [.lit (.int .u8 144), .lit (.int .u8 191)], .agg [.lit (.int .u8 128), .lit (.int .u8 143)], .agg [.lit (.int .u8 0), .lit (.int .u8 0)], .agg [.lit (.int .u8 0), .lit (.int .u8 0)], .agg [.lit (.int .u8 0), .lit (.int .u8 0)], .agg [.lit (.int .u8 0), .lit (.int .u8 0)], .agg [.lit (.int .u8 0), .lit (.int .u8 0)], .agg [.lit (.int .u8 0), .lit (.int .u8 0)], .agg [.lit (.int .u8 0), .lit (.int .u8 0)], .agg [.lit (.int .u8 0), .lit (.int .u8 0)], .agg [.lit (.int .u8 0), .lit (.int .u8 0)], .agg [.lit (.int .u8 0), .lit (.int .u8 0)], .agg [.lit (.int .u8 0), .lit (.int .u8 0)]]
def laid_postbag_api_ErrForm {H : Type} : DataW H := .iface "*errors.errorString" (.ptr (.agg [.lit (.string [112, 111, 115, 116, 98, 97, 103, 58, 32, 102, 111, 114, 109])]))
def laid_postbag_api_ErrFull {H : Type} : DataW H := .iface "*errors.errorString" (.ptr (.agg [.lit (.string [112, 111, 115, 116, 98, 97, 103, 58, 32, 102, 117, 108, 108])]))
/-- One of Go's own tables, pinned by name: the form's constant. -/
def laid_unicode_utf8_first : DataW Unit := Go.Pinned.utf8First
def laid_postbag_api_ErrRange {H : Type} : DataW H := .iface "*errors.errorString" (.ptr (.agg [.lit (.string [112, 111, 115, 116, 98, 97, 103, 58, 32, 114, 97, 110, 103, 101])]))
def laid_postbag_api_ErrLong {H : Type} : DataW H := .iface "*errors.errorString" (.ptr (.agg [.lit (.string [112, 111, 115, 116, 98, 97, 103, 58, 32, 108, 111, 110, 103])]))
def laid_postbag_api_ErrName {H : Type} : DataW H := .iface "*errors.errorString" (.ptr (.agg [.lit (.string [112, 111, 115, 116, 98, 97, 103, 58, 32, 110, 97, 109, 101])]))
def laid_postbag_api_ErrNone {H : Type} : DataW H := .iface "*errors.errorString" (.ptr (.agg [.lit (.string [112, 111, 115, 116, 98, 97, 103, 58, 32, 110, 111, 110, 101])]))
def laid_postbag_api_ErrExists {H : Type} : DataW H := .iface "*errors.errorString" (.ptr (.agg [.lit (.string [112, 111, 115, 116, 98, 97, 103, 58, 32, 101, 120, 105, 115, 116, 115])]))
def laid_postbag_api_ErrQuota {H : Type} : DataW H := .iface "*errors.errorString" (.ptr (.agg [.lit (.string [112, 111, 115, 116, 98, 97, 103, 58, 32, 113, 117, 111, 116, 97])]))
def laid_postbag_api_ErrPower {H : Type} : DataW H := .iface "*errors.errorString" (.ptr (.agg [.lit (.string [112, 111, 115, 116, 98, 97, 103, 58, 32, 112, 111, 119, 101, 114])]))
def laid_postbag_api_ErrState {H : Type} : DataW H := .iface "*errors.errorString" (.ptr (.agg [.lit (.string [112, 111, 115, 116, 98, 97, 103, 58, 32, 115, 116, 97, 116, 101])]))
def laid_postbag_api_ErrSum {H : Type} : DataW H := .iface "*errors.errorString" (.ptr (.agg [.lit (.string [112, 111, 115, 116, 98, 97, 103, 58, 32, 115, 117, 109])]))
def laid_postbag_api_ErrDepth {H : Type} : DataW H := .iface "*errors.errorString" (.ptr (.agg [.lit (.string [112, 111, 115, 116, 98, 97, 103, 58, 32, 100, 101, 112, 116, 104])]))
def laid_postbag_api_ErrUser {H : Type} : DataW H := .iface "*errors.errorString" (.ptr (.agg [.lit (.string [112, 111, 115, 116, 98, 97, 103, 58, 32, 117, 115, 101, 114])]))

/-- 'postbaglaw10.MimeParts': WHATEVER THE INPUT: true; the input reads as it did. -/
def mimePartsSpec : ChangeSpec := { name := "mimeParts", fn := fun _ => fun
  | [d] => { results := [.lit (.bool true)], args := [d] }
  | _ => none }
def mimePartsRow : OpenClaim := { program := "ytalgmnlclflllaagreatdoor", sum := "90399048f20d3e70b64992dd8dba7319ccc25807e64e46f8c136e34f8a0aacf8", func := "postbag/postbaglaw10.MimeParts", spec := "mimeParts", inPlace := ["internal/bytealg.IndexByteString", "internal/bytealg.IndexString", "internal/bytealg.CountString", "internal/abi.NoEscape", "internal/bytealg.MakeNoZero"], unfollowed := true, recurses := true, named := ["postbag/api.ErrForm", "unicode/utf8.first", "unicode/utf8.acceptRanges", "postbag/api.ErrFull", "internal/bytealg.MaxLen", "internal/strconv.uint64pow10", "math/bits.deBruijn32tab", "math/bits.deBruijn64tab"], apart := false, laid := [("math/bits.deBruijn32tab", laid_math_bits_deBruijn32tab), ("math/bits.deBruijn64tab", laid_math_bits_deBruijn64tab), ("internal/strconv.uint64pow10", laid_internal_strconv_uint64pow10), ("unicode/utf8.acceptRanges", laid_unicode_utf8_acceptRanges), ("postbag/api.ErrForm", laid_postbag_api_ErrForm), ("postbag/api.ErrFull", laid_postbag_api_ErrFull), ("unicode/utf8.first", laid_unicode_utf8_first)] }
def MimePartsSaid : Prop := mimePartsRow.holds Tryz.pinned (OpenSpec.ofChange mimePartsSpec)

/-- ITS FALSE NEIGHBOUR: 'it returns false'. Refute it at one input. -/
def mimePartsWrong : ChangeSpec := { name := "mimeParts", fn := fun _ => fun
  | [d] => { results := [.lit (.bool false)], args := [d] }
  | _ => none }
def MimePartsWrongFalsely : Prop := mimePartsRow.holds Tryz.pinned (OpenSpec.ofChange mimePartsWrong)

/-- 'postbaglaw10.MimeQuotes': WHATEVER THE INPUT: true; the input reads as it did. -/
def mimeQuotesSpec : ChangeSpec := { name := "mimeQuotes", fn := fun _ => fun
  | [d] => { results := [.lit (.bool true)], args := [d] }
  | _ => none }
def mimeQuotesRow : OpenClaim := { program := "ytalgmnlclflllaagreatdoor", sum := "90399048f20d3e70b64992dd8dba7319ccc25807e64e46f8c136e34f8a0aacf8", func := "postbag/postbaglaw10.MimeQuotes", spec := "mimeQuotes", inPlace := ["internal/bytealg.IndexByteString", "internal/bytealg.IndexString", "internal/bytealg.CountString", "internal/abi.NoEscape", "internal/bytealg.MakeNoZero"], unfollowed := true, recurses := true, named := ["postbag/api.ErrForm", "unicode/utf8.first", "unicode/utf8.acceptRanges", "postbag/api.ErrFull", "internal/bytealg.MaxLen", "internal/strconv.uint64pow10", "math/bits.deBruijn32tab", "math/bits.deBruijn64tab"], apart := false, laid := [("math/bits.deBruijn32tab", laid_math_bits_deBruijn32tab), ("math/bits.deBruijn64tab", laid_math_bits_deBruijn64tab), ("internal/strconv.uint64pow10", laid_internal_strconv_uint64pow10), ("unicode/utf8.acceptRanges", laid_unicode_utf8_acceptRanges), ("postbag/api.ErrForm", laid_postbag_api_ErrForm), ("postbag/api.ErrFull", laid_postbag_api_ErrFull), ("unicode/utf8.first", laid_unicode_utf8_first)] }
def MimeQuotesSaid : Prop := mimeQuotesRow.holds Tryz.pinned (OpenSpec.ofChange mimeQuotesSpec)

/-- ITS FALSE NEIGHBOUR: 'it returns false'. Refute it at one input. -/
def mimeQuotesWrong : ChangeSpec := { name := "mimeQuotes", fn := fun _ => fun
  | [d] => { results := [.lit (.bool false)], args := [d] }
  | _ => none }
def MimeQuotesWrongFalsely : Prop := mimeQuotesRow.holds Tryz.pinned (OpenSpec.ofChange mimeQuotesWrong)

/-- 'postbaglaw10.MimeWithin': WHATEVER THE INPUT: true; the input reads as it did. -/
def mimeWithinSpec : ChangeSpec := { name := "mimeWithin", fn := fun _ => fun
  | [d] => { results := [.lit (.bool true)], args := [d] }
  | _ => none }
def mimeWithinRow : OpenClaim := { program := "ytalgmnlclflllaagreatdoor", sum := "90399048f20d3e70b64992dd8dba7319ccc25807e64e46f8c136e34f8a0aacf8", func := "postbag/postbaglaw10.MimeWithin", spec := "mimeWithin", inPlace := ["internal/bytealg.IndexByteString", "internal/bytealg.IndexString", "internal/bytealg.CountString", "internal/abi.NoEscape", "internal/bytealg.MakeNoZero"], unfollowed := true, recurses := true, named := ["postbag/api.ErrForm", "unicode/utf8.first", "unicode/utf8.acceptRanges", "postbag/api.ErrFull", "internal/bytealg.MaxLen", "internal/strconv.uint64pow10", "math/bits.deBruijn32tab", "math/bits.deBruijn64tab"], apart := false, laid := [("math/bits.deBruijn32tab", laid_math_bits_deBruijn32tab), ("math/bits.deBruijn64tab", laid_math_bits_deBruijn64tab), ("internal/strconv.uint64pow10", laid_internal_strconv_uint64pow10), ("unicode/utf8.acceptRanges", laid_unicode_utf8_acceptRanges), ("postbag/api.ErrForm", laid_postbag_api_ErrForm), ("postbag/api.ErrFull", laid_postbag_api_ErrFull), ("unicode/utf8.first", laid_unicode_utf8_first)] }
def MimeWithinSaid : Prop := mimeWithinRow.holds Tryz.pinned (OpenSpec.ofChange mimeWithinSpec)

/-- ITS FALSE NEIGHBOUR: 'it returns false'. Refute it at one input. -/
def mimeWithinWrong : ChangeSpec := { name := "mimeWithin", fn := fun _ => fun
  | [d] => { results := [.lit (.bool false)], args := [d] }
  | _ => none }
def MimeWithinWrongFalsely : Prop := mimeWithinRow.holds Tryz.pinned (OpenSpec.ofChange mimeWithinWrong)

/-- 'postbaglaw10.MimeJoins': WHATEVER THE INPUT: true; the input reads as it did. -/
def mimeJoinsSpec : ChangeSpec := { name := "mimeJoins", fn := fun _ => fun
  | [d1, d2] => { results := [.lit (.bool true)], args := [d1, d2] }
  | _ => none }
def mimeJoinsRow : OpenClaim := { program := "ytalgmnlclflllaagreatdoor", sum := "90399048f20d3e70b64992dd8dba7319ccc25807e64e46f8c136e34f8a0aacf8", func := "postbag/postbaglaw10.MimeJoins", spec := "mimeJoins", inPlace := ["internal/bytealg.IndexByteString", "internal/bytealg.IndexString", "internal/bytealg.CountString", "internal/abi.NoEscape", "internal/bytealg.MakeNoZero"], unfollowed := true, recurses := true, named := ["postbag/api.ErrForm", "unicode/utf8.first", "unicode/utf8.acceptRanges", "postbag/api.ErrFull", "internal/bytealg.MaxLen", "internal/strconv.uint64pow10", "math/bits.deBruijn32tab", "math/bits.deBruijn64tab"], apart := false, laid := [("math/bits.deBruijn32tab", laid_math_bits_deBruijn32tab), ("math/bits.deBruijn64tab", laid_math_bits_deBruijn64tab), ("internal/strconv.uint64pow10", laid_internal_strconv_uint64pow10), ("unicode/utf8.acceptRanges", laid_unicode_utf8_acceptRanges), ("postbag/api.ErrForm", laid_postbag_api_ErrForm), ("postbag/api.ErrFull", laid_postbag_api_ErrFull), ("unicode/utf8.first", laid_unicode_utf8_first)] }
def MimeJoinsSaid : Prop := mimeJoinsRow.holds Tryz.pinned (OpenSpec.ofChange mimeJoinsSpec)

/-- ITS FALSE NEIGHBOUR: 'it returns false'. Refute it at one input. -/
def mimeJoinsWrong : ChangeSpec := { name := "mimeJoins", fn := fun _ => fun
  | [d1, d2] => { results := [.lit (.bool false)], args := [d1, d2] }
  | _ => none }
def MimeJoinsWrongFalsely : Prop := mimeJoinsRow.holds Tryz.pinned (OpenSpec.ofChange mimeJoinsWrong)

/-- 'postbaglaw10.MimeFinds': WHATEVER THE INPUT: true; the input reads as it did. -/
def mimeFindsSpec : ChangeSpec := { name := "mimeFinds", fn := fun _ => fun
  | [d1, d2] => { results := [.lit (.bool true)], args := [d1, d2] }
  | _ => none }
def mimeFindsRow : OpenClaim := { program := "ytalgmnlclflllaagreatdoor", sum := "90399048f20d3e70b64992dd8dba7319ccc25807e64e46f8c136e34f8a0aacf8", func := "postbag/postbaglaw10.MimeFinds", spec := "mimeFinds", inPlace := ["internal/bytealg.IndexByteString", "internal/bytealg.IndexString", "internal/bytealg.CountString", "internal/abi.NoEscape", "internal/bytealg.MakeNoZero"], unfollowed := true, recurses := true, named := ["postbag/api.ErrForm", "unicode/utf8.first", "unicode/utf8.acceptRanges", "postbag/api.ErrFull", "internal/bytealg.MaxLen", "internal/strconv.uint64pow10", "math/bits.deBruijn32tab", "math/bits.deBruijn64tab"], loops := true, apart := false, laid := [("math/bits.deBruijn32tab", laid_math_bits_deBruijn32tab), ("math/bits.deBruijn64tab", laid_math_bits_deBruijn64tab), ("internal/strconv.uint64pow10", laid_internal_strconv_uint64pow10), ("unicode/utf8.acceptRanges", laid_unicode_utf8_acceptRanges), ("postbag/api.ErrForm", laid_postbag_api_ErrForm), ("postbag/api.ErrFull", laid_postbag_api_ErrFull), ("unicode/utf8.first", laid_unicode_utf8_first)] }
def MimeFindsSaid : Prop := mimeFindsRow.holds Tryz.pinned (OpenSpec.ofChange mimeFindsSpec)

/-- ITS FALSE NEIGHBOUR: 'it returns false'. Refute it at one input. -/
def mimeFindsWrong : ChangeSpec := { name := "mimeFinds", fn := fun _ => fun
  | [d1, d2] => { results := [.lit (.bool false)], args := [d1, d2] }
  | _ => none }
def MimeFindsWrongFalsely : Prop := mimeFindsRow.holds Tryz.pinned (OpenSpec.ofChange mimeFindsWrong)

/-- 'postbaglaw10.MimeTexts': WHATEVER THE INPUT: true; the input reads as it did. -/
def mimeTextsSpec : ChangeSpec := { name := "mimeTexts", fn := fun _ => fun
  | [d1, d2] => { results := [.lit (.bool true)], args := [d1, d2] }
  | _ => none }
def mimeTextsRow : OpenClaim := { program := "ytalgmnlclflllaagreatdoor", sum := "90399048f20d3e70b64992dd8dba7319ccc25807e64e46f8c136e34f8a0aacf8", func := "postbag/postbaglaw10.MimeTexts", spec := "mimeTexts", inPlace := ["internal/bytealg.IndexByteString", "internal/bytealg.IndexString", "internal/bytealg.CountString", "internal/abi.NoEscape", "internal/bytealg.MakeNoZero"], unfollowed := true, recurses := true, named := ["postbag/api.ErrForm", "unicode/utf8.first", "unicode/utf8.acceptRanges", "postbag/api.ErrFull", "internal/bytealg.MaxLen", "internal/strconv.uint64pow10", "math/bits.deBruijn32tab", "math/bits.deBruijn64tab"], loops := true, apart := false, laid := [("math/bits.deBruijn32tab", laid_math_bits_deBruijn32tab), ("math/bits.deBruijn64tab", laid_math_bits_deBruijn64tab), ("internal/strconv.uint64pow10", laid_internal_strconv_uint64pow10), ("unicode/utf8.acceptRanges", laid_unicode_utf8_acceptRanges), ("postbag/api.ErrForm", laid_postbag_api_ErrForm), ("postbag/api.ErrFull", laid_postbag_api_ErrFull), ("unicode/utf8.first", laid_unicode_utf8_first)] }
def MimeTextsSaid : Prop := mimeTextsRow.holds Tryz.pinned (OpenSpec.ofChange mimeTextsSpec)

/-- ITS FALSE NEIGHBOUR: 'it returns false'. Refute it at one input. -/
def mimeTextsWrong : ChangeSpec := { name := "mimeTexts", fn := fun _ => fun
  | [d1, d2] => { results := [.lit (.bool false)], args := [d1, d2] }
  | _ => none }
def MimeTextsWrongFalsely : Prop := mimeTextsRow.holds Tryz.pinned (OpenSpec.ofChange mimeTextsWrong)

/-- 'postbaglaw10.MimeTypes': WHATEVER THE INPUT: true; the input reads as it did. -/
def mimeTypesSpec : ChangeSpec := { name := "mimeTypes", fn := fun _ => fun
  | [d] => { results := [.lit (.bool true)], args := [d] }
  | _ => none }
def mimeTypesRow : OpenClaim := { program := "ytalgmnlclflllaagreatdoor", sum := "90399048f20d3e70b64992dd8dba7319ccc25807e64e46f8c136e34f8a0aacf8", func := "postbag/postbaglaw10.MimeTypes", spec := "mimeTypes", inPlace := ["internal/bytealg.IndexByteString", "internal/bytealg.IndexString", "internal/bytealg.CountString", "internal/abi.NoEscape", "internal/bytealg.MakeNoZero", "internal/reflectlite.TypeOf"], unfollowed := true, recurses := true, named := ["postbag/api.ErrForm", "unicode/utf8.first", "unicode/utf8.acceptRanges", "postbag/api.ErrFull", "internal/bytealg.MaxLen", "internal/strconv.uint64pow10", "math/bits.deBruijn32tab", "math/bits.deBruijn64tab", "postbag/api.ErrRange", "postbag/api.ErrLong", "postbag/api.ErrName", "postbag/api.ErrNone", "postbag/api.ErrExists", "postbag/api.ErrQuota", "postbag/api.ErrPower", "postbag/api.ErrState", "postbag/api.ErrSum", "postbag/api.ErrDepth", "postbag/api.ErrUser"], apart := false, laid := [("math/bits.deBruijn32tab", laid_math_bits_deBruijn32tab), ("math/bits.deBruijn64tab", laid_math_bits_deBruijn64tab), ("internal/strconv.uint64pow10", laid_internal_strconv_uint64pow10), ("unicode/utf8.acceptRanges", laid_unicode_utf8_acceptRanges), ("postbag/api.ErrRange", laid_postbag_api_ErrRange), ("postbag/api.ErrForm", laid_postbag_api_ErrForm), ("postbag/api.ErrLong", laid_postbag_api_ErrLong), ("postbag/api.ErrName", laid_postbag_api_ErrName), ("postbag/api.ErrNone", laid_postbag_api_ErrNone), ("postbag/api.ErrExists", laid_postbag_api_ErrExists), ("postbag/api.ErrQuota", laid_postbag_api_ErrQuota), ("postbag/api.ErrPower", laid_postbag_api_ErrPower), ("postbag/api.ErrState", laid_postbag_api_ErrState), ("postbag/api.ErrSum", laid_postbag_api_ErrSum), ("postbag/api.ErrFull", laid_postbag_api_ErrFull), ("postbag/api.ErrDepth", laid_postbag_api_ErrDepth), ("postbag/api.ErrUser", laid_postbag_api_ErrUser), ("unicode/utf8.first", laid_unicode_utf8_first)] }
def MimeTypesSaid : Prop := mimeTypesRow.holds Tryz.pinned (OpenSpec.ofChange mimeTypesSpec)

/-- ITS FALSE NEIGHBOUR: 'it returns false'. Refute it at one input. -/
def mimeTypesWrong : ChangeSpec := { name := "mimeTypes", fn := fun _ => fun
  | [d] => { results := [.lit (.bool false)], args := [d] }
  | _ => none }
def MimeTypesWrongFalsely : Prop := mimeTypesRow.holds Tryz.pinned (OpenSpec.ofChange mimeTypesWrong)

/- THE SECOND FORM. 'bulk': how many values and letters a reading holds, each counted each time it is reached (what is shared counts as often as it is met; a slice's spare places count too). A statement '..UptoSaid' is the law's where the arguments, and the package variables that the reading takes, are together of bulk at most 1048576: NARROWER than '..Said'. Prove '..Said' where nothing that the law and all that it calls make is longer than what came in: it says more and counts as full. Else prove '..UptoSaid'. A law counts once. -/
mutual
def uptoBulk {H : Type} : DataW H → Nat
  | .lit (.string bytes) => bytes.length + 1
  | .lit _ => 1
  | .nil => 1
  | .ptr d => uptoBulk d + 1
  | .slice elems spare => uptoBulkAll elems + uptoBulkAll spare + 1
  | .agg parts => uptoBulkAll parts + 1
  | .iface _ d => uptoBulk d + 1
  | .map entries => uptoBulkEntries entries + 1
  | .held _ => 1
def uptoBulkAll {H : Type} : List (DataW H) → Nat
  | [] => 0
  | d :: r => uptoBulk d + uptoBulkAll r
def uptoBulkEntries {H : Type} : List (Lit × DataW H) → Nat
  | [] => 0
  | x :: r => uptoBulkEntry x + uptoBulkEntries r
def uptoBulkEntry {H : Type} : Lit × DataW H → Nat
  | (.string bytes, d) => bytes.length + uptoBulk d + 1
  | (_, d) => uptoBulk d + 1
 end
def uptoSmall : (H : Type) → List (DataW H) → Bool := fun _ ds => decide (uptoBulkAll ds ≤ 1048576)
def OpenSpec.upto (s : _root_.Go.ChangeSpec) : _root_.Go.OpenSpec := { _root_.Go.OpenSpec.ofChange s with cond := some uptoSmall }

/-- 'postbaglaw10.MimeParts', WHERE WHAT IT READS IS OF BULK AT MOST 1048576: true; the input reads as it did. -/
def mimePartsUptoRow : OpenClaim := { program := "ytalgmnlclflllaagreatdoor", sum := "90399048f20d3e70b64992dd8dba7319ccc25807e64e46f8c136e34f8a0aacf8", func := "postbag/postbaglaw10.MimeParts", spec := "mimeParts", inPlace := ["internal/bytealg.IndexByteString", "internal/bytealg.IndexString", "internal/bytealg.CountString", "internal/abi.NoEscape", "internal/bytealg.MakeNoZero"], unfollowed := true, recurses := true, named := ["postbag/api.ErrForm", "unicode/utf8.first", "unicode/utf8.acceptRanges", "postbag/api.ErrFull", "internal/bytealg.MaxLen", "internal/strconv.uint64pow10", "math/bits.deBruijn32tab", "math/bits.deBruijn64tab"], apart := false, laid := [("math/bits.deBruijn32tab", laid_math_bits_deBruijn32tab), ("math/bits.deBruijn64tab", laid_math_bits_deBruijn64tab), ("internal/strconv.uint64pow10", laid_internal_strconv_uint64pow10), ("unicode/utf8.acceptRanges", laid_unicode_utf8_acceptRanges), ("postbag/api.ErrForm", laid_postbag_api_ErrForm), ("postbag/api.ErrFull", laid_postbag_api_ErrFull), ("unicode/utf8.first", laid_unicode_utf8_first)], narrowed := true }
def MimePartsUptoSaid : Prop := mimePartsUptoRow.holds Tryz.pinned (OpenSpec.upto mimePartsSpec)

/-- 'postbaglaw10.MimeQuotes', WHERE WHAT IT READS IS OF BULK AT MOST 1048576: true; the input reads as it did. -/
def mimeQuotesUptoRow : OpenClaim := { program := "ytalgmnlclflllaagreatdoor", sum := "90399048f20d3e70b64992dd8dba7319ccc25807e64e46f8c136e34f8a0aacf8", func := "postbag/postbaglaw10.MimeQuotes", spec := "mimeQuotes", inPlace := ["internal/bytealg.IndexByteString", "internal/bytealg.IndexString", "internal/bytealg.CountString", "internal/abi.NoEscape", "internal/bytealg.MakeNoZero"], unfollowed := true, recurses := true, named := ["postbag/api.ErrForm", "unicode/utf8.first", "unicode/utf8.acceptRanges", "postbag/api.ErrFull", "internal/bytealg.MaxLen", "internal/strconv.uint64pow10", "math/bits.deBruijn32tab", "math/bits.deBruijn64tab"], apart := false, laid := [("math/bits.deBruijn32tab", laid_math_bits_deBruijn32tab), ("math/bits.deBruijn64tab", laid_math_bits_deBruijn64tab), ("internal/strconv.uint64pow10", laid_internal_strconv_uint64pow10), ("unicode/utf8.acceptRanges", laid_unicode_utf8_acceptRanges), ("postbag/api.ErrForm", laid_postbag_api_ErrForm), ("postbag/api.ErrFull", laid_postbag_api_ErrFull), ("unicode/utf8.first", laid_unicode_utf8_first)], narrowed := true }
def MimeQuotesUptoSaid : Prop := mimeQuotesUptoRow.holds Tryz.pinned (OpenSpec.upto mimeQuotesSpec)

/-- 'postbaglaw10.MimeWithin', WHERE WHAT IT READS IS OF BULK AT MOST 1048576: true; the input reads as it did. -/
def mimeWithinUptoRow : OpenClaim := { program := "ytalgmnlclflllaagreatdoor", sum := "90399048f20d3e70b64992dd8dba7319ccc25807e64e46f8c136e34f8a0aacf8", func := "postbag/postbaglaw10.MimeWithin", spec := "mimeWithin", inPlace := ["internal/bytealg.IndexByteString", "internal/bytealg.IndexString", "internal/bytealg.CountString", "internal/abi.NoEscape", "internal/bytealg.MakeNoZero"], unfollowed := true, recurses := true, named := ["postbag/api.ErrForm", "unicode/utf8.first", "unicode/utf8.acceptRanges", "postbag/api.ErrFull", "internal/bytealg.MaxLen", "internal/strconv.uint64pow10", "math/bits.deBruijn32tab", "math/bits.deBruijn64tab"], apart := false, laid := [("math/bits.deBruijn32tab", laid_math_bits_deBruijn32tab), ("math/bits.deBruijn64tab", laid_math_bits_deBruijn64tab), ("internal/strconv.uint64pow10", laid_internal_strconv_uint64pow10), ("unicode/utf8.acceptRanges", laid_unicode_utf8_acceptRanges), ("postbag/api.ErrForm", laid_postbag_api_ErrForm), ("postbag/api.ErrFull", laid_postbag_api_ErrFull), ("unicode/utf8.first", laid_unicode_utf8_first)], narrowed := true }
def MimeWithinUptoSaid : Prop := mimeWithinUptoRow.holds Tryz.pinned (OpenSpec.upto mimeWithinSpec)

/-- 'postbaglaw10.MimeJoins', WHERE WHAT IT READS IS OF BULK AT MOST 1048576: true; the input reads as it did. -/
def mimeJoinsUptoRow : OpenClaim := { program := "ytalgmnlclflllaagreatdoor", sum := "90399048f20d3e70b64992dd8dba7319ccc25807e64e46f8c136e34f8a0aacf8", func := "postbag/postbaglaw10.MimeJoins", spec := "mimeJoins", inPlace := ["internal/bytealg.IndexByteString", "internal/bytealg.IndexString", "internal/bytealg.CountString", "internal/abi.NoEscape", "internal/bytealg.MakeNoZero"], unfollowed := true, recurses := true, named := ["postbag/api.ErrForm", "unicode/utf8.first", "unicode/utf8.acceptRanges", "postbag/api.ErrFull", "internal/bytealg.MaxLen", "internal/strconv.uint64pow10", "math/bits.deBruijn32tab", "math/bits.deBruijn64tab"], apart := false, laid := [("math/bits.deBruijn32tab", laid_math_bits_deBruijn32tab), ("math/bits.deBruijn64tab", laid_math_bits_deBruijn64tab), ("internal/strconv.uint64pow10", laid_internal_strconv_uint64pow10), ("unicode/utf8.acceptRanges", laid_unicode_utf8_acceptRanges), ("postbag/api.ErrForm", laid_postbag_api_ErrForm), ("postbag/api.ErrFull", laid_postbag_api_ErrFull), ("unicode/utf8.first", laid_unicode_utf8_first)], narrowed := true }
def MimeJoinsUptoSaid : Prop := mimeJoinsUptoRow.holds Tryz.pinned (OpenSpec.upto mimeJoinsSpec)

/-- 'postbaglaw10.MimeFinds', WHERE WHAT IT READS IS OF BULK AT MOST 1048576: true; the input reads as it did. -/
def mimeFindsUptoRow : OpenClaim := { program := "ytalgmnlclflllaagreatdoor", sum := "90399048f20d3e70b64992dd8dba7319ccc25807e64e46f8c136e34f8a0aacf8", func := "postbag/postbaglaw10.MimeFinds", spec := "mimeFinds", inPlace := ["internal/bytealg.IndexByteString", "internal/bytealg.IndexString", "internal/bytealg.CountString", "internal/abi.NoEscape", "internal/bytealg.MakeNoZero"], unfollowed := true, recurses := true, named := ["postbag/api.ErrForm", "unicode/utf8.first", "unicode/utf8.acceptRanges", "postbag/api.ErrFull", "internal/bytealg.MaxLen", "internal/strconv.uint64pow10", "math/bits.deBruijn32tab", "math/bits.deBruijn64tab"], loops := true, apart := false, laid := [("math/bits.deBruijn32tab", laid_math_bits_deBruijn32tab), ("math/bits.deBruijn64tab", laid_math_bits_deBruijn64tab), ("internal/strconv.uint64pow10", laid_internal_strconv_uint64pow10), ("unicode/utf8.acceptRanges", laid_unicode_utf8_acceptRanges), ("postbag/api.ErrForm", laid_postbag_api_ErrForm), ("postbag/api.ErrFull", laid_postbag_api_ErrFull), ("unicode/utf8.first", laid_unicode_utf8_first)], narrowed := true }
def MimeFindsUptoSaid : Prop := mimeFindsUptoRow.holds Tryz.pinned (OpenSpec.upto mimeFindsSpec)

/-- 'postbaglaw10.MimeTexts', WHERE WHAT IT READS IS OF BULK AT MOST 1048576: true; the input reads as it did. -/
def mimeTextsUptoRow : OpenClaim := { program := "ytalgmnlclflllaagreatdoor", sum := "90399048f20d3e70b64992dd8dba7319ccc25807e64e46f8c136e34f8a0aacf8", func := "postbag/postbaglaw10.MimeTexts", spec := "mimeTexts", inPlace := ["internal/bytealg.IndexByteString", "internal/bytealg.IndexString", "internal/bytealg.CountString", "internal/abi.NoEscape", "internal/bytealg.MakeNoZero"], unfollowed := true, recurses := true, named := ["postbag/api.ErrForm", "unicode/utf8.first", "unicode/utf8.acceptRanges", "postbag/api.ErrFull", "internal/bytealg.MaxLen", "internal/strconv.uint64pow10", "math/bits.deBruijn32tab", "math/bits.deBruijn64tab"], loops := true, apart := false, laid := [("math/bits.deBruijn32tab", laid_math_bits_deBruijn32tab), ("math/bits.deBruijn64tab", laid_math_bits_deBruijn64tab), ("internal/strconv.uint64pow10", laid_internal_strconv_uint64pow10), ("unicode/utf8.acceptRanges", laid_unicode_utf8_acceptRanges), ("postbag/api.ErrForm", laid_postbag_api_ErrForm), ("postbag/api.ErrFull", laid_postbag_api_ErrFull), ("unicode/utf8.first", laid_unicode_utf8_first)], narrowed := true }
def MimeTextsUptoSaid : Prop := mimeTextsUptoRow.holds Tryz.pinned (OpenSpec.upto mimeTextsSpec)

/-- 'postbaglaw10.MimeTypes', WHERE WHAT IT READS IS OF BULK AT MOST 1048576: true; the input reads as it did. -/
def mimeTypesUptoRow : OpenClaim := { program := "ytalgmnlclflllaagreatdoor", sum := "90399048f20d3e70b64992dd8dba7319ccc25807e64e46f8c136e34f8a0aacf8", func := "postbag/postbaglaw10.MimeTypes", spec := "mimeTypes", inPlace := ["internal/bytealg.IndexByteString", "internal/bytealg.IndexString", "internal/bytealg.CountString", "internal/abi.NoEscape", "internal/bytealg.MakeNoZero", "internal/reflectlite.TypeOf"], unfollowed := true, recurses := true, named := ["postbag/api.ErrForm", "unicode/utf8.first", "unicode/utf8.acceptRanges", "postbag/api.ErrFull", "internal/bytealg.MaxLen", "internal/strconv.uint64pow10", "math/bits.deBruijn32tab", "math/bits.deBruijn64tab", "postbag/api.ErrRange", "postbag/api.ErrLong", "postbag/api.ErrName", "postbag/api.ErrNone", "postbag/api.ErrExists", "postbag/api.ErrQuota", "postbag/api.ErrPower", "postbag/api.ErrState", "postbag/api.ErrSum", "postbag/api.ErrDepth", "postbag/api.ErrUser"], apart := false, laid := [("math/bits.deBruijn32tab", laid_math_bits_deBruijn32tab), ("math/bits.deBruijn64tab", laid_math_bits_deBruijn64tab), ("internal/strconv.uint64pow10", laid_internal_strconv_uint64pow10), ("unicode/utf8.acceptRanges", laid_unicode_utf8_acceptRanges), ("postbag/api.ErrRange", laid_postbag_api_ErrRange), ("postbag/api.ErrForm", laid_postbag_api_ErrForm), ("postbag/api.ErrLong", laid_postbag_api_ErrLong), ("postbag/api.ErrName", laid_postbag_api_ErrName), ("postbag/api.ErrNone", laid_postbag_api_ErrNone), ("postbag/api.ErrExists", laid_postbag_api_ErrExists), ("postbag/api.ErrQuota", laid_postbag_api_ErrQuota), ("postbag/api.ErrPower", laid_postbag_api_ErrPower), ("postbag/api.ErrState", laid_postbag_api_ErrState), ("postbag/api.ErrSum", laid_postbag_api_ErrSum), ("postbag/api.ErrFull", laid_postbag_api_ErrFull), ("postbag/api.ErrDepth", laid_postbag_api_ErrDepth), ("postbag/api.ErrUser", laid_postbag_api_ErrUser), ("unicode/utf8.first", laid_unicode_utf8_first)], narrowed := true }
def MimeTypesUptoSaid : Prop := mimeTypesUptoRow.holds Tryz.pinned (OpenSpec.upto mimeTypesSpec)

end Rows
end Go.Proofs.YtalgmnlclflllaaGreatDoor
