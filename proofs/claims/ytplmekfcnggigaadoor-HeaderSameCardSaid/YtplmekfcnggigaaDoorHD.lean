/- The law HeaderSame. -/
import Derived.Test.YtplmekfcnggigaaDoorSn
import Derived.Test.YtplmekfcnggigaaDoorH7
set_option linter.unusedVariables false
set_option linter.unusedSimpArgs false
namespace Go.Proofs.YtplmekfcnggigaaDoor
open Go.RowKit

set_option maxRecDepth 100000 in
set_option maxHeartbeats 1000000 in
theorem headerSame_list (a b : List UInt8) (w : World) : Calls Tryd.prog 6 #[.string (bs a), .string (bs b)] w fun e w' => e = .returned (.bool true) ∧ Below w.heap.size w w' := by
  go_enter Tryd.func6, Tryd.ntmps6
  go_wp2_with fail
  refine (alive_any _).mono ?_
  rintro e w1 ⟨rfl, hb1⟩
  by_cases ha : 5000 < a.length
  · have ha' : (5000 : Int) < a.length := by omega
    go_wp2
    go_ret
    exact ⟨rfl, hb1⟩
  · have ha' : ¬ (5000 : Int) < a.length := by omega
    by_cases hb : 5000 < b.length
    · have hb' : (5000 : Int) < b.length := by omega
      go_wp2
      go_ret
      exact ⟨rfl, hb1⟩
    · have hb' : ¬ (5000 : Int) < b.length := by omega
      have ha2 : a.length ≤ 1099511627776 := by omega
      have hb2 : b.length ≤ 1099511627776 := by omega
      go_wp2_with fail
      refine (hsame_any a b _ ha2 hb2).mono ?_
      rintro e w2 ⟨rfl, hc2⟩
      go_wp2_with fail
      refine (refSmall_any a _ ha2).mono ?_
      rintro e w3 ⟨rfl, hc3⟩
      go_wp2_with fail
      refine (refSmall_any b _ hb2).mono ?_
      rintro e w4 ⟨rfl, hc4⟩
      have hz2 := hb1.trans (hc2.mono hb1.size)
      have hz3 := hz2.trans (hc3.mono hz2.size)
      have hz4 := hz3.trans (hc4.mono hz3.size)
      go_wp2
      go_ret
      exact ⟨rfl, hz4⟩

theorem headerSame_any (s t : ByteArray) (w : World) (_ : s.size ≤ 9223372036854775807) (_ : t.size ≤ 9223372036854775807) : Calls Tryd.prog 6 #[.string s, .string t] w fun e w' => e = .returned (.bool true) ∧ Below w.heap.size w w' :=
  headerSame_list s.data.toList t.data.toList w

end Go.Proofs.YtplmekfcnggigaaDoor
