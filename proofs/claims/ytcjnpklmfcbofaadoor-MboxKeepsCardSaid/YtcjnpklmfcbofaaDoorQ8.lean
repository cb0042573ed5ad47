/- The reference's Encode. -/
import Derived.Test.YtcjnpklmfcbofaaDoorQ7
import Derived.Test.YtcjnpklmfcbofaaDoorAp
set_option linter.unusedVariables false
set_option linter.unusedSimpArgs false
namespace Go.Proofs.YtcjnpklmfcbofaaDoor
open Go.RowKit

def bg (s : List UInt8) (k : Nat) : Bool := decide (k = 0 ∨ s[k - 1]? = some 10)

theorem encR_at {s : List UInt8} {k : Nat} {c : UInt8} (hk : k < s.length) (hc : s[k] = c) : encR (bg s k) (s.drop k) = (if bg s k && looks (s.drop k) then [62] else []) ++ c :: encR (bg s (k + 1)) (s.drop (k + 1)) := by
  have e : s.drop k = c :: s.drop (k + 1) := by rw [List.drop_eq_getElem_cons hk, hc]
  have hb : bg s (k + 1) = (c == 10) := by
    unfold bg
    rw [Nat.add_sub_cancel, List.getElem?_eq_getElem hk, hc, Bool.eq_iff_iff]
    simp
  rw [hb]
  conv => lhs; rw [e, encR_cons, ← e]

end Go.Proofs.YtcjnpklmfcbofaaDoor
