/-
  NARROWER THAN 'FOR EVERY INPUT', by the rows' own cells (each row's printed sentence says how): HeaderBodies: laid · HeaderCounts: laid · HeaderFolds: laid · HeaderSame: laid · HeaderFields: laid · HeaderGets: laid · HeaderOnly: laid.
  DERIVED. THE GIVEN ROWS OF THIS SEAT. 7 by the template 'for every input the law returns true; each argument reads behind the call as it read before'; 0 by the template 'total and deterministic' (their statements: YtplmekfcnggigaaDoorTotals.lean).
  GIVEN WITH THE SEED: the statements are not yours to turn. If you find one false, say at which input.
  Laid BY PROGRAM, IN A SANDBOX (cutbox-rows.mjs): the forced cells as the released guide's own fill.sh prints them over the translation 8cf9891d97fc4cc9… (all of the seat's roots in one cut). By AI agents, Wed Nov 11 2026. No macro, syntax, notation, axiom, sorry.
-/
import Derived.Test.YtplmekfcnggigaaDoorChecked
import GoSem.PinnedTables
import GoSem.Claim
import GoSem.ClaimJoined
import GoSem.ClaimMapViews
import Derived.JoinedTies
import Derived.KernelRfl
namespace Go.Proofs.YtplmekfcnggigaaDoor
/- THE CELL 'sum', in the pinned program and in every row, IS THE sha256 OF THE DUMP (.gsa) THAT YtplmekfcnggigaaDoorProg.lean LOADS. Nothing in Lean hashes anything: it is a label: what it is worth is what the hold of that sum in a sandbox is worth. -/
noncomputable def Tryd.pinned : Pinned := { name := "ytplmekfcnggigaadoor", sum := "8cf9891d97fc4cc9d96a13a81fb9e1c68568a9848b770ce5adbc54f67c0f6dff", checked := Tryd.checked }
namespace Rows
def none {H : Type} : Left H := { results := [], args := [] }

/- WHAT THE LISTED PACKAGE-LEVEL VARIABLES READ AS WHEN THE CALL BEGINS. Each datum BY PROGRAM (the guide's laid-datum.mjs) off the statement by which the dump's own 'gosem.cut.vars' lays the variable. In a bare row this is a premise. The card (YtplmekfcnggigaaDoorCards.lean) ties it to the program's text. -/
def laid_unicode_utf8_acceptRanges {H : Type} : DataW H := .agg [.agg [.lit (.int .u8 128), .lit (.int .u8 191)], .agg [.lit (.int .u8 160), .lit (.int .u8 191)], .agg [.lit (.int .u8 128), .lit (.int .u8 159)], .agg [.lit (.int .u8 144), .lit (.int .u8 191)], .agg [.lit (.int .u8 128), .lit (.int .u8 143)], .agg [.lit (.int .u8 0), .lit (.int .u8 0)], .agg [.lit (.int .u8 0), .lit (.int .u8 0)], .agg [.lit (.int .u8 0), .lit (.int .u8 0)], .agg [.lit (.int .u8 0), .lit (.int .u8 0)], .agg [.lit (.int .u8 0), .lit (.int .u8 0)], .agg [.lit (.int .u8 0), .lit (.int .u8 0)], .agg [.lit (.int .u8 0), .lit (.int .u8 0)], .agg [.lit (.int .u8 0), .lit (.int .u8 0)], .agg [.lit (.int .u8 0), .lit (.int .u8 0)], .agg [.lit (.int .u8 0), .lit (.int .u8 0)], .agg [.lit (.int .u8 0), .lit (.int .u8 0)]]
def laid_postbag_api_ErrFull {H : Type} : DataW H := .iface "*errors.errorString" (.ptr (.agg [.lit (.string [112, 111, 115, 116, 98, 97, 103, 58, 32, 102, 117, 108, 108])]))
/-- One of Go's own tables, pinned by name: the form's constant. -/
def laid_unicode_utf8_first : DataW Unit := Go.Pinned.utf8First
def laid_postbag_api_ErrRange {H : Type} : DataW H := .iface "*errors.errorString" (.ptr (.agg [.lit (.string [112, 111, 115, 116, 98, 97, 103, 58, 32, 114, 97, 110, 103, 101])]))
def laid_postbag_api_ErrForm {H : Type} : DataW H := .iface "*errors.errorString" (.ptr (.agg [.lit (.string [112, 111, 115, 116, 98, 97, 103, 58, 32, 102, 111, 114, 109])]))
def laid_postbag_api_ErrLong {H : Type} : DataW H := .iface "*errors.errorString" (.ptr (.agg [.lit (.string [112, 111, 115, 116, 98, 97, 103, 58, 32, 108, 111, 110, 103])]))
def laid_postbag_api_ErrName {H : Type} : DataW H := .iface "*errors.errorString" (.ptr (.agg [.lit (.string [112, 111, 115, 116, 98, 97, 103, 58, 32, 110, 97, 109, 101])]))
def laid_postbag_api_ErrNone {H : Type} : DataW H := .iface "*errors.errorString" (.ptr (.agg [.lit (.string [112, 111, 115, 116, 98, 97, 103, 58, 32, 110, 111, 110, 101])]))
def laid_postbag_api_ErrExists {H : Type} : DataW H := .iface "*errors.errorString" (.ptr (.agg [.lit (.string [112, 111, 115, 116, 98, 97, 103, 58, 32, 101, 120, 105, 115, 116, 115])]))
def laid_postbag_api_ErrQuota {H : Type} : DataW H := .iface "*errors.errorString" (.ptr (.agg [.lit (.string [112, 111, 115, 116, 98, 97, 103, 58, 32, 113, 117, 111, 116, 97])]))
def laid_postbag_api_ErrPower {H : Type} : DataW H := .iface "*errors.errorString" (.ptr (.agg [.lit (.string [112, 111, 115, 116, 98, 97, 103, 58, 32, 112, 111, 119, 101, 114])]))
def laid_postbag_api_ErrState {H : Type} : DataW H := .iface "*errors.errorString" (.ptr (.agg [.lit (.string [112, 111, 115, 116, 98, 97, 103, 58, 32, 115, 116, 97, 116, 101])]))
def laid_postbag_api_ErrSum {H : Type} : DataW H := .iface "*errors.errorString" (.ptr (.agg [.lit (.string [112, 111, 115, 116, 98, 97, 103, 58, 32, 115, 117, 109])]))
def laid_postbag_api_ErrDepth {H : Type} : DataW H := .iface "*errors.errorString" (.ptr (.agg [.lit (.string [112, 111, 115, 116, 98, 97, 103, 58, 32, 100, 101, 112, 116, 104])]))
def laid_postbag_api_ErrUser {H : Type} : DataW H := .iface "*errors.errorString" (.ptr (.agg [.lit (.string [112, 111, 115, 116, 98, 97, 103, 58, 32, 117, 115, 101, 114])]))

/-- 'postbaglaw09.HeaderBodies': WHATEVER THE INPUT: true; the input reads as it did. -/
def headerBodiesSpec : ChangeSpec := { name := "headerBodies", fn := fun _ => fun
  | [d1, d2] => { results := [.lit (.bool true)], args := [d1, d2] }
  | _ => none }
def headerBodiesRow : OpenClaim := { program := "ytplmekfcnggigaadoor", sum := "8cf9891d97fc4cc9d96a13a81fb9e1c68568a9848b770ce5adbc54f67c0f6dff", func := "postbag/postbaglaw09.HeaderBodies", spec := "headerBodies", inPlace := ["internal/bytealg.IndexByteString", "internal/bytealg.IndexString"], unfollowed := true, recurses := true, named := ["postbag/api.ErrFull", "internal/bytealg.MaxLen", "unicode/utf8.first", "unicode/utf8.acceptRanges"], apart := false, laid := [("unicode/utf8.acceptRanges", laid_unicode_utf8_acceptRanges), ("postbag/api.ErrFull", laid_postbag_api_ErrFull), ("unicode/utf8.first", laid_unicode_utf8_first)] }
def HeaderBodiesSaid : Prop := headerBodiesRow.holds Tryd.pinned (OpenSpec.ofChange headerBodiesSpec)

/-- ITS FALSE NEIGHBOUR: 'it returns false'. Refute it at one input. -/
def headerBodiesWrong : ChangeSpec := { name := "headerBodies", fn := fun _ => fun
  | [d1, d2] => { results := [.lit (.bool false)], args := [d1, d2] }
  | _ => none }
def HeaderBodiesWrongFalsely : Prop := headerBodiesRow.holds Tryd.pinned (OpenSpec.ofChange headerBodiesWrong)

/-- 'postbaglaw09.HeaderCounts': WHATEVER THE INPUT: true; the input reads as it did. -/
def headerCountsSpec : ChangeSpec := { name := "headerCounts", fn := fun _ => fun
  | [d] => { results := [.lit (.bool true)], args := [d] }
  | _ => none }
def headerCountsRow : OpenClaim := { program := "ytplmekfcnggigaadoor", sum := "8cf9891d97fc4cc9d96a13a81fb9e1c68568a9848b770ce5adbc54f67c0f6dff", func := "postbag/postbaglaw09.HeaderCounts", spec := "headerCounts", inPlace := ["internal/bytealg.IndexByteString", "internal/bytealg.IndexString"], unfollowed := true, recurses := true, named := ["postbag/api.ErrFull", "internal/bytealg.MaxLen", "unicode/utf8.first", "unicode/utf8.acceptRanges"], apart := false, laid := [("unicode/utf8.acceptRanges", laid_unicode_utf8_acceptRanges), ("postbag/api.ErrFull", laid_postbag_api_ErrFull), ("unicode/utf8.first", laid_unicode_utf8_first)] }
def HeaderCountsSaid : Prop := headerCountsRow.holds Tryd.pinned (OpenSpec.ofChange headerCountsSpec)

/-- ITS FALSE NEIGHBOUR: 'it returns false'. Refute it at one input. -/
def headerCountsWrong : ChangeSpec := { name := "headerCounts", fn := fun _ => fun
  | [d] => { results := [.lit (.bool false)], args := [d] }
  | _ => none }
def HeaderCountsWrongFalsely : Prop := headerCountsRow.holds Tryd.pinned (OpenSpec.ofChange headerCountsWrong)

/-- 'postbaglaw09.HeaderFolds': WHATEVER THE INPUT: true; the input reads as it did. -/
def headerFoldsSpec : ChangeSpec := { name := "headerFolds", fn := fun _ => fun
  | [d] => { results := [.lit (.bool true)], args := [d] }
  | _ => none }
def headerFoldsRow : OpenClaim := { program := "ytplmekfcnggigaadoor", sum := "8cf9891d97fc4cc9d96a13a81fb9e1c68568a9848b770ce5adbc54f67c0f6dff", func := "postbag/postbaglaw09.HeaderFolds", spec := "headerFolds", inPlace := ["internal/bytealg.IndexByteString", "internal/bytealg.IndexString"], unfollowed := true, recurses := true, named := ["postbag/api.ErrFull", "internal/bytealg.MaxLen", "unicode/utf8.first", "unicode/utf8.acceptRanges"], apart := false, laid := [("unicode/utf8.acceptRanges", laid_unicode_utf8_acceptRanges), ("postbag/api.ErrFull", laid_postbag_api_ErrFull), ("unicode/utf8.first", laid_unicode_utf8_first)] }
def HeaderFoldsSaid : Prop := headerFoldsRow.holds Tryd.pinned (OpenSpec.ofChange headerFoldsSpec)

/-- ITS FALSE NEIGHBOUR: 'it returns false'. Refute it at one input. -/
def headerFoldsWrong : ChangeSpec := { name := "headerFolds", fn := fun _ => fun
  | [d] => { results := [.lit (.bool false)], args := [d] }
  | _ => none }
def HeaderFoldsWrongFalsely : Prop := headerFoldsRow.holds Tryd.pinned (OpenSpec.ofChange headerFoldsWrong)

/-- 'postbaglaw09.HeaderSame': WHATEVER THE INPUT: true; the input reads as it did. -/
def headerSameSpec : ChangeSpec := { name := "headerSame", fn := fun _ => fun
  | [d1, d2] => { results := [.lit (.bool true)], args := [d1, d2] }
  | _ => none }
def headerSameRow : OpenClaim := { program := "ytplmekfcnggigaadoor", sum := "8cf9891d97fc4cc9d96a13a81fb9e1c68568a9848b770ce5adbc54f67c0f6dff", func := "postbag/postbaglaw09.HeaderSame", spec := "headerSame", inPlace := ["internal/bytealg.IndexByteString", "internal/bytealg.IndexString"], unfollowed := true, recurses := true, named := ["postbag/api.ErrFull", "internal/bytealg.MaxLen", "unicode/utf8.first", "unicode/utf8.acceptRanges"], apart := false, laid := [("unicode/utf8.acceptRanges", laid_unicode_utf8_acceptRanges), ("postbag/api.ErrFull", laid_postbag_api_ErrFull), ("unicode/utf8.first", laid_unicode_utf8_first)] }
def HeaderSameSaid : Prop := headerSameRow.holds Tryd.pinned (OpenSpec.ofChange headerSameSpec)

/-- ITS FALSE NEIGHBOUR: 'it returns false'. Refute it at one input. -/
def headerSameWrong : ChangeSpec := { name := "headerSame", fn := fun _ => fun
  | [d1, d2] => { results := [.lit (.bool false)], args := [d1, d2] }
  | _ => none }
def HeaderSameWrongFalsely : Prop := headerSameRow.holds Tryd.pinned (OpenSpec.ofChange headerSameWrong)

/-- 'postbaglaw09.HeaderFields': WHATEVER THE INPUT: true; the input reads as it did. -/
def headerFieldsSpec : ChangeSpec := { name := "headerFields", fn := fun _ => fun
  | [d] => { results := [.lit (.bool true)], args := [d] }
  | _ => none }
def headerFieldsRow : OpenClaim := { program := "ytplmekfcnggigaadoor", sum := "8cf9891d97fc4cc9d96a13a81fb9e1c68568a9848b770ce5adbc54f67c0f6dff", func := "postbag/postbaglaw09.HeaderFields", spec := "headerFields", inPlace := ["internal/bytealg.IndexByteString", "internal/bytealg.IndexString", "internal/reflectlite.TypeOf"], unfollowed := true, recurses := true, named := ["postbag/api.ErrFull", "internal/bytealg.MaxLen", "unicode/utf8.first", "unicode/utf8.acceptRanges", "postbag/api.ErrRange", "postbag/api.ErrForm", "postbag/api.ErrLong", "postbag/api.ErrName", "postbag/api.ErrNone", "postbag/api.ErrExists", "postbag/api.ErrQuota", "postbag/api.ErrPower", "postbag/api.ErrState", "postbag/api.ErrSum", "postbag/api.ErrDepth", "postbag/api.ErrUser"], apart := false, laid := [("unicode/utf8.acceptRanges", laid_unicode_utf8_acceptRanges), ("postbag/api.ErrRange", laid_postbag_api_ErrRange), ("postbag/api.ErrForm", laid_postbag_api_ErrForm), ("postbag/api.ErrLong", laid_postbag_api_ErrLong), ("postbag/api.ErrName", laid_postbag_api_ErrName), ("postbag/api.ErrNone", laid_postbag_api_ErrNone), ("postbag/api.ErrExists", laid_postbag_api_ErrExists), ("postbag/api.ErrQuota", laid_postbag_api_ErrQuota), ("postbag/api.ErrPower", laid_postbag_api_ErrPower), ("postbag/api.ErrState", laid_postbag_api_ErrState), ("postbag/api.ErrSum", laid_postbag_api_ErrSum), ("postbag/api.ErrFull", laid_postbag_api_ErrFull), ("postbag/api.ErrDepth", laid_postbag_api_ErrDepth), ("postbag/api.ErrUser", laid_postbag_api_ErrUser), ("unicode/utf8.first", laid_unicode_utf8_first)] }
def HeaderFieldsSaid : Prop := headerFieldsRow.holds Tryd.pinned (OpenSpec.ofChange headerFieldsSpec)

/-- ITS FALSE NEIGHBOUR: 'it returns false'. Refute it at one input. -/
def headerFieldsWrong : ChangeSpec := { name := "headerFields", fn := fun _ => fun
  | [d] => { results := [.lit (.bool false)], args := [d] }
  | _ => none }
def HeaderFieldsWrongFalsely : Prop := headerFieldsRow.holds Tryd.pinned (OpenSpec.ofChange headerFieldsWrong)

/-- 'postbaglaw09.HeaderGets': WHATEVER THE INPUT: true; the input reads as it did. -/
def headerGetsSpec : ChangeSpec := { name := "headerGets", fn := fun _ => fun
  | [d1, d2] => { results := [.lit (.bool true)], args := [d1, d2] }
  | _ => none }
def headerGetsRow : OpenClaim := { program := "ytplmekfcnggigaadoor", sum := "8cf9891d97fc4cc9d96a13a81fb9e1c68568a9848b770ce5adbc54f67c0f6dff", func := "postbag/postbaglaw09.HeaderGets", spec := "headerGets", inPlace := ["internal/bytealg.IndexByteString", "internal/bytealg.IndexString"], unfollowed := true, recurses := true, named := ["postbag/api.ErrFull", "internal/bytealg.MaxLen", "unicode/utf8.first", "unicode/utf8.acceptRanges"], apart := false, laid := [("unicode/utf8.acceptRanges", laid_unicode_utf8_acceptRanges), ("postbag/api.ErrFull", laid_postbag_api_ErrFull), ("unicode/utf8.first", laid_unicode_utf8_first)] }
def HeaderGetsSaid : Prop := headerGetsRow.holds Tryd.pinned (OpenSpec.ofChange headerGetsSpec)

/-- ITS FALSE NEIGHBOUR: 'it returns false'. Refute it at one input. -/
def headerGetsWrong : ChangeSpec := { name := "headerGets", fn := fun _ => fun
  | [d1, d2] => { results := [.lit (.bool false)], args := [d1, d2] }
  | _ => none }
def HeaderGetsWrongFalsely : Prop := headerGetsRow.holds Tryd.pinned (OpenSpec.ofChange headerGetsWrong)

/-- 'postbaglaw09.HeaderOnly': WHATEVER THE INPUT: true; the input reads as it did. -/
def headerOnlySpec : ChangeSpec := { name := "headerOnly", fn := fun _ => fun
  | [d1, d2, d3] => { results := [.lit (.bool true)], args := [d1, d2, d3] }
  | _ => none }
def headerOnlyRow : OpenClaim := { program := "ytplmekfcnggigaadoor", sum := "8cf9891d97fc4cc9d96a13a81fb9e1c68568a9848b770ce5adbc54f67c0f6dff", func := "postbag/postbaglaw09.HeaderOnly", spec := "headerOnly", inPlace := ["internal/bytealg.IndexByteString", "internal/bytealg.IndexString", "internal/abi.NoEscape"], unfollowed := true, recurses := true, named := ["postbag/api.ErrFull", "internal/bytealg.MaxLen", "unicode/utf8.first", "unicode/utf8.acceptRanges"], apart := false, laid := [("unicode/utf8.acceptRanges", laid_unicode_utf8_acceptRanges), ("postbag/api.ErrFull", laid_postbag_api_ErrFull), ("unicode/utf8.first", laid_unicode_utf8_first)] }
def HeaderOnlySaid : Prop := headerOnlyRow.holds Tryd.pinned (OpenSpec.ofChange headerOnlySpec)

/-- ITS FALSE NEIGHBOUR: 'it returns false'. Refute it at one input. -/
def headerOnlyWrong : ChangeSpec := { name := "headerOnly", fn := fun _ => fun
  | [d1, d2, d3] => { results := [.lit (.bool false)], args := [d1, d2, d3] }
  | _ => none }
def HeaderOnlyWrongFalsely : Prop := headerOnlyRow.holds Tryd.pinned (OpenSpec.ofChange headerOnlyWrong)

/- THE SECOND FORM. 'bulk': how many values and letters a reading holds, each counted each time it is reached (what is shared counts as often as it is met; a slice's spare places count too). A statement '..UptoSaid' is the law's where the arguments, and the package variables that the reading takes, are together of bulk at most 1048576: NARROWER than '..Said'. Prove '..Said' where nothing that the law and all that it calls make is longer than what came in: it says more and counts as full. Else prove '..UptoSaid'. A law counts once. -/
mutual
def uptoBulk {H : Type} : DataW H → Nat
  | .lit (.string bytes) => bytes.length + 1
  | .lit _ => 1
  | .nil => 1
  | .ptr d => uptoBulk d + 1
  | .slice elems spare => uptoBulkAll elems + uptoBulkAll spare + 1
  | .agg parts => uptoBulkAll parts + 1
  | .iface _ d => uptoBulk d + 1
  | .map entries => uptoBulkEntries entries + 1
  | .held _ => 1
def uptoBulkAll {H : Type} : List (DataW H) → Nat
  | [] => 0
  | d :: r => uptoBulk d + uptoBulkAll r
def uptoBulkEntries {H : Type} : List (Lit × DataW H) → Nat
  | [] => 0
  | x :: r => uptoBulkEntry x + uptoBulkEntries r
def uptoBulkEntry {H : Type} : Lit × DataW H → Nat
  | (.string bytes, d) => bytes.length + uptoBulk d + 1
  | (_, d) => uptoBulk d + 1
 end
def uptoSmall : (H : Type) → List (DataW H) → Bool := fun _ ds => decide (uptoBulkAll ds ≤ 1048576)
def OpenSpec.upto (s : _root_.Go.ChangeSpec) : _root_.Go.OpenSpec := { _root_.Go.OpenSpec.ofChange s with cond := some uptoSmall }

/-- 'postbaglaw09.HeaderBodies', WHERE WHAT IT READS IS OF BULK AT MOST 1048576: true; the input reads as it did. -/
def headerBodiesUptoRow : OpenClaim := { program := "ytplmekfcnggigaadoor", sum := "8cf9891d97fc4cc9d96a13a81fb9e1c68568a9848b770ce5adbc54f67c0f6dff", func := "postbag/postbaglaw09.HeaderBodies", spec := "headerBodies", inPlace := ["internal/bytealg.IndexByteString", "internal/bytealg.IndexString"], unfollowed := true, recurses := true, named := ["postbag/api.ErrFull", "internal/bytealg.MaxLen", "unicode/utf8.first", "unicode/utf8.acceptRanges"], apart := false, laid := [("unicode/utf8.acceptRanges", laid_unicode_utf8_acceptRanges), ("postbag/api.ErrFull", laid_postbag_api_ErrFull), ("unicode/utf8.first", laid_unicode_utf8_first)], narrowed := true }
def HeaderBodiesUptoSaid : Prop := headerBodiesUptoRow.holds Tryd.pinned (OpenSpec.upto headerBodiesSpec)

/-- 'postbaglaw09.HeaderCounts', WHERE WHAT IT READS IS OF BULK AT MOST 1048576: true; the input reads as it did. -/
def headerCountsUptoRow : OpenClaim := { program := "ytplmekfcnggigaadoor", sum := "8cf9891d97fc4cc9d96a13a81fb9e1c68568a9848b770ce5adbc54f67c0f6dff", func := "postbag/postbaglaw09.HeaderCounts", spec := "headerCounts", inPlace := ["internal/bytealg.IndexByteString", "internal/bytealg.IndexString"], unfollowed := true, recurses := true, named := ["postbag/api.ErrFull", "internal/bytealg.MaxLen", "unicode/utf8.first", "unicode/utf8.acceptRanges"], apart := false, laid := [("unicode/utf8.acceptRanges", laid_unicode_utf8_acceptRanges), ("postbag/api.ErrFull", laid_postbag_api_ErrFull), ("unicode/utf8.first", laid_unicode_utf8_first)], narrowed := true }
def HeaderCountsUptoSaid : Prop := headerCountsUptoRow.holds Tryd.pinned (OpenSpec.upto headerCountsSpec)

/-- 'postbaglaw09.HeaderFolds', WHERE WHAT IT READS IS OF BULK AT MOST 1048576: true; the input reads as it did. -/
def headerFoldsUptoRow : OpenClaim := { program := "ytplmekfcnggigaadoor", sum := "8cf9891d97fc4cc9d96a13a81fb9e1c68568a9848b770ce5adbc54f67c0f6dff", func := "postbag/postbaglaw09.HeaderFolds", spec := "headerFolds", inPlace := ["internal/bytealg.IndexByteString", "internal/bytealg.IndexString"], unfollowed := true, recurses := true, named := ["postbag/api.ErrFull", "internal/bytealg.MaxLen", "unicode/utf8.first", "unicode/utf8.acceptRanges"], apart := false, laid := [("unicode/utf8.acceptRanges", laid_unicode_utf8_acceptRanges), ("postbag/api.ErrFull", laid_postbag_api_ErrFull), ("unicode/utf8.first", laid_unicode_utf8_first)], narrowed := true }
def HeaderFoldsUptoSaid : Prop := headerFoldsUptoRow.holds Tryd.pinned (OpenSpec.upto headerFoldsSpec)

/-- 'postbaglaw09.HeaderSame', WHERE WHAT IT READS IS OF BULK AT MOST 1048576: true; the input reads as it did. -/
def headerSameUptoRow : OpenClaim := { program := "ytplmekfcnggigaadoor", sum := "8cf9891d97fc4cc9d96a13a81fb9e1c68568a9848b770ce5adbc54f67c0f6dff", func := "postbag/postbaglaw09.HeaderSame", spec := "headerSame", inPlace := ["internal/bytealg.IndexByteString", "internal/bytealg.IndexString"], unfollowed := true, recurses := true, named := ["postbag/api.ErrFull", "internal/bytealg.MaxLen", "unicode/utf8.first", "unicode/utf8.acceptRanges"], apart := false, laid := [("unicode/utf8.acceptRanges", laid_unicode_utf8_acceptRanges), ("postbag/api.ErrFull", laid_postbag_api_ErrFull), ("unicode/utf8.first", laid_unicode_utf8_first)], narrowed := true }
def HeaderSameUptoSaid : Prop := headerSameUptoRow.holds Tryd.pinned (OpenSpec.upto headerSameSpec)

/-- 'postbaglaw09.HeaderFields', WHERE WHAT IT READS IS OF BULK AT MOST 1048576: true; the input reads as it did. -/
def headerFieldsUptoRow : OpenClaim := { program := "ytplmekfcnggigaadoor", sum := "8cf9891d97fc4cc9d96a13a81fb9e1c68568a9848b770ce5adbc54f67c0f6dff", func := "postbag/postbaglaw09.HeaderFields", spec := "headerFields", inPlace := ["internal/bytealg.IndexByteString", "internal/bytealg.IndexString", "internal/reflectlite.TypeOf"], unfollowed := true, recurses := true, named := ["postbag/api.ErrFull", "internal/bytealg.MaxLen", "unicode/utf8.first", "unicode/utf8.acceptRanges", "postbag/api.ErrRange", "postbag/api.ErrForm", "postbag/api.ErrLong", "postbag/api.ErrName", "postbag/api.ErrNone", "postbag/api.ErrExists", "postbag/api.ErrQuota", "postbag/api.ErrPower", "postbag/api.ErrState", "postbag/api.ErrSum", "postbag/api.ErrDepth", "postbag/api.ErrUser"], apart := false, laid := [("unicode/utf8.acceptRanges", laid_unicode_utf8_acceptRanges), ("postbag/api.ErrRange", laid_postbag_api_ErrRange), ("postbag/api.ErrForm", laid_postbag_api_ErrForm), ("postbag/api.ErrLong", laid_postbag_api_ErrLong), ("postbag/api.ErrName", laid_postbag_api_ErrName), ("postbag/api.ErrNone", laid_postbag_api_ErrNone), ("postbag/api.ErrExists", laid_postbag_api_ErrExists), ("postbag/api.ErrQuota", laid_postbag_api_ErrQuota), ("postbag/api.ErrPower", laid_postbag_api_ErrPower), ("postbag/api.ErrState", laid_postbag_api_ErrState), ("postbag/api.ErrSum", laid_postbag_api_ErrSum), ("postbag/api.ErrFull", laid_postbag_api_ErrFull), ("postbag/api.ErrDepth", laid_postbag_api_ErrDepth), ("postbag/api.ErrUser", laid_postbag_api_ErrUser), ("unicode/utf8.first", laid_unicode_utf8_first)], narrowed := true }
def HeaderFieldsUptoSaid : Prop := headerFieldsUptoRow.holds Tryd.pinned (OpenSpec.upto headerFieldsSpec)

/-- 'postbaglaw09.HeaderGets', WHERE WHAT IT READS IS OF BULK AT MOST 1048576: true; the input reads as it did. -/
def headerGetsUptoRow : OpenClaim := { program := "ytplmekfcnggigaadoor", sum := "8cf9891d97fc4cc9d96a13a81fb9e1c68568a9848b770ce5adbc54f67c0f6dff", func := "postbag/postbaglaw09.HeaderGets", spec := "headerGets", inPlace := ["internal/bytealg.IndexByteString", "internal/bytealg.IndexString"], unfollowed := true, recurses := true, named := ["postbag/api.ErrFull", "internal/bytealg.MaxLen", "unicode/utf8.first", "unicode/utf8.acceptRanges"], apart := false, laid := [("unicode/utf8.acceptRanges", laid_unicode_utf8_acceptRanges), ("postbag/api.ErrFull", laid_postbag_api_ErrFull), ("unicode/utf8.first", laid_unicode_utf8_first)], narrowed := true }
def HeaderGetsUptoSaid : Prop := headerGetsUptoRow.holds Tryd.pinned (OpenSpec.upto headerGetsSpec)

/-- 'postbaglaw09.HeaderOnly', WHERE WHAT IT READS IS OF BULK AT MOST 1048576: true; the input reads as it did. -/
def headerOnlyUptoRow : OpenClaim := { program := "ytplmekfcnggigaadoor", sum := "8cf9891d97fc4cc9d96a13a81fb9e1c68568a9848b770ce5adbc54f67c0f6dff", func := "postbag/postbaglaw09.HeaderOnly", spec := "headerOnly", inPlace := ["internal/bytealg.IndexByteString", "internal/bytealg.IndexString", "internal/abi.NoEscape"], unfollowed := true, recurses := true, named := ["postbag/api.ErrFull", "internal/bytealg.MaxLen", "unicode/utf8.first", "unicode/utf8.acceptRanges"], apart := false, laid := [("unicode/utf8.acceptRanges", laid_unicode_utf8_acceptRanges), ("postbag/api.ErrFull", laid_postbag_api_ErrFull), ("unicode/utf8.first", laid_unicode_utf8_first)], narrowed := true }
def HeaderOnlyUptoSaid : Prop := headerOnlyUptoRow.holds Tryd.pinned (OpenSpec.upto headerOnlySpec)

end Rows
end Go.Proofs.YtplmekfcnggigaaDoor
