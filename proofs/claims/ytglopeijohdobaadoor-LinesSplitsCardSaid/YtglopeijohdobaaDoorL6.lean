/- The law LinesSplits: its walk. -/
import Derived.Test.YtglopeijohdobaaDoorL3
import Derived.Test.YtglopeijohdobaaDoorSq
set_option linter.unusedVariables false
set_option linter.unusedSimpArgs false
namespace Go.Proofs.YtglopeijohdobaaDoor
open Go.RowKit

set_option maxRecDepth 100000 in
set_option maxHeartbeats 1000000 in
theorem linesSplits_list (s : List UInt8) (w : World) : Calls Tryd.prog 6 #[.string (bs s)] w fun e w' => e = .returned (.bool true) ∧ Below w.heap.size w w' := by
  by_cases hs : s.length ≤ 20000
  · have hs2 : s.length ≤ 1099511627776 := by omega
    have HS := Lib.hid hs2
    clear hs2
    have hll := linesOf_length s
    go_enter Tryd.func6, Tryd.ntmps6
    go_wp2_with (go_at_call 7; refine (alive_any _).mono ?_; rintro e w1 ⟨rfl, hb1⟩)
    refine (split_any s _ HS.out).mono ?_
    rintro e w2 ⟨v2, rfl, o2, b2⟩
    go_wp2_with fail
    refine (refSplit_any s _ HS.out).mono ?_
    rintro e w3 ⟨v3, rfl, o3, b3⟩
    go_wp2_with fail
    refine (same_yes _ _ _ _ (o2.strs.below b3) o3.strs (by omega)).mono ?_
    rintro e w4 ⟨rfl, b4⟩
    go_wp2_with fail
    refine (lineJoin_any _ _ _ ((o2.strs.below b3).below b4) (by omega) (by rw [linesOf_flatten]; omega)).mono ?_
    rintro e w5 ⟨rfl, b5⟩
    rw [linesOf_flatten]
    have hb : Below w.heap.size w w5 := hb1.trans ((b2.mono hb1.size).trans ((b3.mono (Nat.le_trans hb1.size b2.size)).trans ((b4.mono (Nat.le_trans (Nat.le_trans hb1.size b2.size) b3.size)).trans (b5.mono (Nat.le_trans (Nat.le_trans (Nat.le_trans hb1.size b2.size) b3.size) b4.size)))))
    go_wp2
    go_ret
    exact ⟨rfl, hb⟩
  · have hs' : 20000 < s.length := by omega
    go_enter Tryd.func6, Tryd.ntmps6
    go_wp2_with (go_at_call 7; refine (alive_any _).mono ?_; rintro e w1 ⟨rfl, hb1⟩)
    go_ret
    exact ⟨rfl, hb1⟩

theorem linesSplits_any (s : ByteArray) (w : World) (_ : s.size ≤ 9223372036854775807) : Calls Tryd.prog 6 #[.string s] w fun e w' => e = .returned (.bool true) ∧ Below w.heap.size w w' :=
  linesSplits_list s.data.toList w

end Go.Proofs.YtglopeijohdobaaDoor
