/-
  NARROWER THAN 'FOR EVERY INPUT', by the rows' own cells (each row's printed sentence says how): LinesPieces: laid · LinesLong: laid · LinesPlays: laid · LinesSplits: laid.
  DERIVED. THE GIVEN ROWS OF THIS SEAT. 4 by the template 'for every input the law returns true; each argument reads behind the call as it read before'; 0 by the template 'total and deterministic' (their statements: YtglopeijohdobaaDoorTotals.lean).
  GIVEN WITH THE SEED: the statements are not yours to turn. If you find one false, say at which input.
  Laid BY PROGRAM, IN A SANDBOX (cutbox-rows.mjs): the forced cells as the released guide's own fill.sh prints them over the translation 43c31594a4634766… (all of the seat's roots in one cut). By AI agents, Wed Nov 11 2026. No macro, syntax, notation, axiom, sorry.
-/
import Derived.Test.YtglopeijohdobaaDoorChecked
import GoSem.Claim
import GoSem.ClaimJoined
import GoSem.ClaimMapViews
import Derived.JoinedTies
import Derived.KernelRfl
namespace Go.Proofs.YtglopeijohdobaaDoor
/- THE CELL 'sum', in the pinned program and in every row, IS THE sha256 OF THE DUMP (.gsa) THAT YtglopeijohdobaaDoorProg.lean LOADS. Nothing in Lean hashes anything: it is a label: what it is worth is what the hold of that sum in a sandbox is worth. -/
noncomputable def Tryd.pinned : Pinned := { name := "ytglopeijohdobaadoor", sum := "43c31594a46347665cbf555c35b252fb438f3ac0847f7d21eda8e22d4bdf93bd", checked := Tryd.checked }
namespace Rows
def none {H : Type} : Left H := { results := [], args := [] }

/- WHAT THE LISTED PACKAGE-LEVEL VARIABLES READ AS WHEN THE CALL BEGINS. Each datum BY PROGRAM (the guide's laid-datum.mjs) off the statement by which the dump's own 'gosem.cut.vars' lays the variable. In a bare row this is a premise. The card (YtglopeijohdobaaDoorCards.lean) ties it to the program's text. -/
def laid_postbag_api_ErrRange {H : Type} : DataW H := .iface "*errors.errorString" (.ptr (.agg [.lit (.string [112, 111, 115, 116, 98, 97, 103, 58, 32, 114, 97, 110, 103, 101])]))
def laid_postbag_api_ErrState {H : Type} : DataW H := .iface "*errors.errorString" (.ptr (.agg [.lit (.string [112, 111, 115, 116, 98, 97, 103, 58, 32, 115, 116, 97, 116, 101])]))
def laid_postbag_api_ErrForm {H : Type} : DataW H := .iface "*errors.errorString" (.ptr (.agg [.lit (.string [112, 111, 115, 116, 98, 97, 103, 58, 32, 102, 111, 114, 109])]))
def laid_postbag_api_ErrLong {H : Type} : DataW H := .iface "*errors.errorString" (.ptr (.agg [.lit (.string [112, 111, 115, 116, 98, 97, 103, 58, 32, 108, 111, 110, 103])]))
def laid_postbag_api_ErrName {H : Type} : DataW H := .iface "*errors.errorString" (.ptr (.agg [.lit (.string [112, 111, 115, 116, 98, 97, 103, 58, 32, 110, 97, 109, 101])]))
def laid_postbag_api_ErrNone {H : Type} : DataW H := .iface "*errors.errorString" (.ptr (.agg [.lit (.string [112, 111, 115, 116, 98, 97, 103, 58, 32, 110, 111, 110, 101])]))
def laid_postbag_api_ErrExists {H : Type} : DataW H := .iface "*errors.errorString" (.ptr (.agg [.lit (.string [112, 111, 115, 116, 98, 97, 103, 58, 32, 101, 120, 105, 115, 116, 115])]))
def laid_postbag_api_ErrQuota {H : Type} : DataW H := .iface "*errors.errorString" (.ptr (.agg [.lit (.string [112, 111, 115, 116, 98, 97, 103, 58, 32, 113, 117, 111, 116, 97])]))
def laid_postbag_api_ErrPower {H : Type} : DataW H := .iface "*errors.errorString" (.ptr (.agg [.lit (.string [112, 111, 115, 116, 98, 97, 103, 58, 32, 112, 111, 119, 101, 114])]))
def laid_postbag_api_ErrSum {H : Type} : DataW H := .iface "*errors.errorString" (.ptr (.agg [.lit (.string [112, 111, 115, 116, 98, 97, 103, 58, 32, 115, 117, 109])]))
def laid_postbag_api_ErrFull {H : Type} : DataW H := .iface "*errors.errorString" (.ptr (.agg [.lit (.string [112, 111, 115, 116, 98, 97, 103, 58, 32, 102, 117, 108, 108])]))
def laid_postbag_api_ErrDepth {H : Type} : DataW H := .iface "*errors.errorString" (.ptr (.agg [.lit (.string [112, 111, 115, 116, 98, 97, 103, 58, 32, 100, 101, 112, 116, 104])]))
def laid_postbag_api_ErrUser {H : Type} : DataW H := .iface "*errors.errorString" (.ptr (.agg [.lit (.string [112, 111, 115, 116, 98, 97, 103, 58, 32, 117, 115, 101, 114])]))

/-- 'postbaglaw02.LinesPieces': WHATEVER THE INPUT: true; the input reads as it did. -/
def linesPiecesSpec : ChangeSpec := { name := "linesPieces", fn := fun _ => fun
  | [d1, d2] => { results := [.lit (.bool true)], args := [d1, d2] }
  | _ => none }
def linesPiecesRow : OpenClaim := { program := "ytglopeijohdobaadoor", sum := "43c31594a46347665cbf555c35b252fb438f3ac0847f7d21eda8e22d4bdf93bd", func := "postbag/postbaglaw02.LinesPieces", spec := "linesPieces", inPlace := ["internal/bytealg.IndexByteString"], named := ["postbag/api.ErrRange", "postbag/api.ErrState"], apart := false, laid := [("postbag/api.ErrRange", laid_postbag_api_ErrRange), ("postbag/api.ErrState", laid_postbag_api_ErrState)] }
def LinesPiecesSaid : Prop := linesPiecesRow.holds Tryd.pinned (OpenSpec.ofChange linesPiecesSpec)

/-- ITS FALSE NEIGHBOUR: 'it returns false'. Refute it at one input. -/
def linesPiecesWrong : ChangeSpec := { name := "linesPieces", fn := fun _ => fun
  | [d1, d2] => { results := [.lit (.bool false)], args := [d1, d2] }
  | _ => none }
def LinesPiecesWrongFalsely : Prop := linesPiecesRow.holds Tryd.pinned (OpenSpec.ofChange linesPiecesWrong)

/-- 'postbaglaw02.LinesLong': WHATEVER THE INPUT: true; the input reads as it did. -/
def linesLongSpec : ChangeSpec := { name := "linesLong", fn := fun _ => fun
  | [d1, d2] => { results := [.lit (.bool true)], args := [d1, d2] }
  | _ => none }
def linesLongRow : OpenClaim := { program := "ytglopeijohdobaadoor", sum := "43c31594a46347665cbf555c35b252fb438f3ac0847f7d21eda8e22d4bdf93bd", func := "postbag/postbaglaw02.LinesLong", spec := "linesLong", inPlace := ["internal/bytealg.IndexByteString"], named := ["postbag/api.ErrRange", "postbag/api.ErrState"], apart := false, laid := [("postbag/api.ErrRange", laid_postbag_api_ErrRange), ("postbag/api.ErrState", laid_postbag_api_ErrState)] }
def LinesLongSaid : Prop := linesLongRow.holds Tryd.pinned (OpenSpec.ofChange linesLongSpec)

/-- ITS FALSE NEIGHBOUR: 'it returns false'. Refute it at one input. -/
def linesLongWrong : ChangeSpec := { name := "linesLong", fn := fun _ => fun
  | [d1, d2] => { results := [.lit (.bool false)], args := [d1, d2] }
  | _ => none }
def LinesLongWrongFalsely : Prop := linesLongRow.holds Tryd.pinned (OpenSpec.ofChange linesLongWrong)

/-- 'postbaglaw02.LinesPlays': WHATEVER THE INPUT: true; the input reads as it did. -/
def linesPlaysSpec : ChangeSpec := { name := "linesPlays", fn := fun _ => fun
  | [d] => { results := [.lit (.bool true)], args := [d] }
  | _ => none }
def linesPlaysRow : OpenClaim := { program := "ytglopeijohdobaadoor", sum := "43c31594a46347665cbf555c35b252fb438f3ac0847f7d21eda8e22d4bdf93bd", func := "postbag/postbaglaw02.LinesPlays", spec := "linesPlays", inPlace := ["internal/bytealg.IndexByteString", "internal/reflectlite.TypeOf"], unfollowed := true, recurses := true, named := ["postbag/api.ErrRange", "postbag/api.ErrState", "postbag/api.ErrForm", "postbag/api.ErrLong", "postbag/api.ErrName", "postbag/api.ErrNone", "postbag/api.ErrExists", "postbag/api.ErrQuota", "postbag/api.ErrPower", "postbag/api.ErrSum", "postbag/api.ErrFull", "postbag/api.ErrDepth", "postbag/api.ErrUser"], apart := false, laid := [("postbag/api.ErrRange", laid_postbag_api_ErrRange), ("postbag/api.ErrForm", laid_postbag_api_ErrForm), ("postbag/api.ErrLong", laid_postbag_api_ErrLong), ("postbag/api.ErrName", laid_postbag_api_ErrName), ("postbag/api.ErrNone", laid_postbag_api_ErrNone), ("postbag/api.ErrExists", laid_postbag_api_ErrExists), ("postbag/api.ErrQuota", laid_postbag_api_ErrQuota), ("postbag/api.ErrPower", laid_postbag_api_ErrPower), ("postbag/api.ErrState", laid_postbag_api_ErrState), ("postbag/api.ErrSum", laid_postbag_api_ErrSum), ("postbag/api.ErrFull", laid_postbag_api_ErrFull), ("postbag/api.ErrDepth", laid_postbag_api_ErrDepth), ("postbag/api.ErrUser", laid_postbag_api_ErrUser)] }
def LinesPlaysSaid : Prop := linesPlaysRow.holds Tryd.pinned (OpenSpec.ofChange linesPlaysSpec)

/-- ITS FALSE NEIGHBOUR: 'it returns false'. Refute it at one input. -/
def linesPlaysWrong : ChangeSpec := { name := "linesPlays", fn := fun _ => fun
  | [d] => { results := [.lit (.bool false)], args := [d] }
  | _ => none }
def LinesPlaysWrongFalsely : Prop := linesPlaysRow.holds Tryd.pinned (OpenSpec.ofChange linesPlaysWrong)

/-- 'postbaglaw02.LinesSplits': WHATEVER THE INPUT: true; the input reads as it did. -/
def linesSplitsSpec : ChangeSpec := { name := "linesSplits", fn := fun _ => fun
  | [d] => { results := [.lit (.bool true)], args := [d] }
  | _ => none }
def linesSplitsRow : OpenClaim := { program := "ytglopeijohdobaadoor", sum := "43c31594a46347665cbf555c35b252fb438f3ac0847f7d21eda8e22d4bdf93bd", func := "postbag/postbaglaw02.LinesSplits", spec := "linesSplits", inPlace := ["internal/bytealg.IndexByteString", "internal/abi.NoEscape", "internal/bytealg.MakeNoZero"], unfollowed := true, recurses := true, named := ["postbag/api.ErrRange", "postbag/api.ErrState"], apart := false, laid := [("postbag/api.ErrRange", laid_postbag_api_ErrRange), ("postbag/api.ErrState", laid_postbag_api_ErrState)] }
def LinesSplitsSaid : Prop := linesSplitsRow.holds Tryd.pinned (OpenSpec.ofChange linesSplitsSpec)

/-- ITS FALSE NEIGHBOUR: 'it returns false'. Refute it at one input. -/
def linesSplitsWrong : ChangeSpec := { name := "linesSplits", fn := fun _ => fun
  | [d] => { results := [.lit (.bool false)], args := [d] }
  | _ => none }
def LinesSplitsWrongFalsely : Prop := linesSplitsRow.holds Tryd.pinned (OpenSpec.ofChange linesSplitsWrong)

/- THE SECOND FORM. 'bulk': how many values and letters a reading holds, each counted each time it is reached (what is shared counts as often as it is met; a slice's spare places count too). A statement '..UptoSaid' is the law's where the arguments, and the package variables that the reading takes, are together of bulk at most 1048576: NARROWER than '..Said'. Prove '..Said' where nothing that the law and all that it calls make is longer than what came in: it says more and counts as full. Else prove '..UptoSaid'. A law counts once. -/
mutual
def uptoBulk {H : Type} : DataW H → Nat
  | .lit (.string bytes) => bytes.length + 1
  | .lit _ => 1
  | .nil => 1
  | .ptr d => uptoBulk d + 1
  | .slice elems spare => uptoBulkAll elems + uptoBulkAll spare + 1
  | .agg parts => uptoBulkAll parts + 1
  | .iface _ d => uptoBulk d + 1
  | .map entries => uptoBulkEntries entries + 1
  | .held _ => 1
def uptoBulkAll {H : Type} : List (DataW H) → Nat
  | [] => 0
  | d :: r => uptoBulk d + uptoBulkAll r
def uptoBulkEntries {H : Type} : List (Lit × DataW H) → Nat
  | [] => 0
  | x :: r => uptoBulkEntry x + uptoBulkEntries r
def uptoBulkEntry {H : Type} : Lit × DataW H → Nat
  | (.string bytes, d) => bytes.length + uptoBulk d + 1
  | (_, d) => uptoBulk d + 1
 end
def uptoSmall : (H : Type) → List (DataW H) → Bool := fun _ ds => decide (uptoBulkAll ds ≤ 1048576)
def OpenSpec.upto (s : _root_.Go.ChangeSpec) : _root_.Go.OpenSpec := { _root_.Go.OpenSpec.ofChange s with cond := some uptoSmall }

/-- 'postbaglaw02.LinesPieces', WHERE WHAT IT READS IS OF BULK AT MOST 1048576: true; the input reads as it did. -/
def linesPiecesUptoRow : OpenClaim := { program := "ytglopeijohdobaadoor", sum := "43c31594a46347665cbf555c35b252fb438f3ac0847f7d21eda8e22d4bdf93bd", func := "postbag/postbaglaw02.LinesPieces", spec := "linesPieces", inPlace := ["internal/bytealg.IndexByteString"], named := ["postbag/api.ErrRange", "postbag/api.ErrState"], apart := false, laid := [("postbag/api.ErrRange", laid_postbag_api_ErrRange), ("postbag/api.ErrState", laid_postbag_api_ErrState)], narrowed := true }
def LinesPiecesUptoSaid : Prop := linesPiecesUptoRow.holds Tryd.pinned (OpenSpec.upto linesPiecesSpec)

/-- 'postbaglaw02.LinesLong', WHERE WHAT IT READS IS OF BULK AT MOST 1048576: true; the input reads as it did. -/
def linesLongUptoRow : OpenClaim := { program := "ytglopeijohdobaadoor", sum := "43c31594a46347665cbf555c35b252fb438f3ac0847f7d21eda8e22d4bdf93bd", func := "postbag/postbaglaw02.LinesLong", spec := "linesLong", inPlace := ["internal/bytealg.IndexByteString"], named := ["postbag/api.ErrRange", "postbag/api.ErrState"], apart := false, laid := [("postbag/api.ErrRange", laid_postbag_api_ErrRange), ("postbag/api.ErrState", laid_postbag_api_ErrState)], narrowed := true }
def LinesLongUptoSaid : Prop := linesLongUptoRow.holds Tryd.pinned (OpenSpec.upto linesLongSpec)

/-- 'postbaglaw02.LinesPlays', WHERE WHAT IT READS IS OF BULK AT MOST 1048576: true; the input reads as it did. -/
def linesPlaysUptoRow : OpenClaim := { program := "ytglopeijohdobaadoor", sum := "43c31594a46347665cbf555c35b252fb438f3ac0847f7d21eda8e22d4bdf93bd", func := "postbag/postbaglaw02.LinesPlays", spec := "linesPlays", inPlace := ["internal/bytealg.IndexByteString", "internal/reflectlite.TypeOf"], unfollowed := true, recurses := true, named := ["postbag/api.ErrRange", "postbag/api.ErrState", "postbag/api.ErrForm", "postbag/api.ErrLong", "postbag/api.ErrName", "postbag/api.ErrNone", "postbag/api.ErrExists", "postbag/api.ErrQuota", "postbag/api.ErrPower", "postbag/api.ErrSum", "postbag/api.ErrFull", "postbag/api.ErrDepth", "postbag/api.ErrUser"], apart := false, laid := [("postbag/api.ErrRange", laid_postbag_api_ErrRange), ("postbag/api.ErrForm", laid_postbag_api_ErrForm), ("postbag/api.ErrLong", laid_postbag_api_ErrLong), ("postbag/api.ErrName", laid_postbag_api_ErrName), ("postbag/api.ErrNone", laid_postbag_api_ErrNone), ("postbag/api.ErrExists", laid_postbag_api_ErrExists), ("postbag/api.ErrQuota", laid_postbag_api_ErrQuota), ("postbag/api.ErrPower", laid_postbag_api_ErrPower), ("postbag/api.ErrState", laid_postbag_api_ErrState), ("postbag/api.ErrSum", laid_postbag_api_ErrSum), ("postbag/api.ErrFull", laid_postbag_api_ErrFull), ("postbag/api.ErrDepth", laid_postbag_api_ErrDepth), ("postbag/api.ErrUser", laid_postbag_api_ErrUser)], narrowed := true }
def LinesPlaysUptoSaid : Prop := linesPlaysUptoRow.holds Tryd.pinned (OpenSpec.upto linesPlaysSpec)

/-- 'postbaglaw02.LinesSplits', WHERE WHAT IT READS IS OF BULK AT MOST 1048576: true; the input reads as it did. -/
def linesSplitsUptoRow : OpenClaim := { program := "ytglopeijohdobaadoor", sum := "43c31594a46347665cbf555c35b252fb438f3ac0847f7d21eda8e22d4bdf93bd", func := "postbag/postbaglaw02.LinesSplits", spec := "linesSplits", inPlace := ["internal/bytealg.IndexByteString", "internal/abi.NoEscape", "internal/bytealg.MakeNoZero"], unfollowed := true, recurses := true, named := ["postbag/api.ErrRange", "postbag/api.ErrState"], apart := false, laid := [("postbag/api.ErrRange", laid_postbag_api_ErrRange), ("postbag/api.ErrState", laid_postbag_api_ErrState)], narrowed := true }
def LinesSplitsUptoSaid : Prop := linesSplitsUptoRow.holds Tryd.pinned (OpenSpec.upto linesSplitsSpec)

end Rows
end Go.Proofs.YtglopeijohdobaaDoor
