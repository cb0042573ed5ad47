/- The laws DatesYears, DatesNext: their walks. -/
import Derived.Test.YthkkdbpblajahaaDoorD2
namespace Go.Proofs.YthkkdbpblajahaaDoor
open Go.RowKit

theorem datesYears_any (y m : Int) (w : World) : Calls Tryd.prog 3 #[.int .i64 y, .int .i64 m] w fun e w' => e = .returned (.bool true) ∧ Below w.heap.size w w' := by
  go_enter Tryd.func3, Tryd.ntmps3
  go_wp2_with (first | (go_at_call 13; refine (alive_any _).mono ?_; rintro e w1 ⟨rfl, hb⟩) | (go_at_call 14; refine (leap_any _ _).mono ?_; rintro e w1 ⟨rfl, rfl⟩) | (go_at_call 15; refine (refLeap_any _ _).mono ?_; rintro e w1 ⟨rfl, rfl⟩) | (go_at_call 16; refine (days_any _ _ _).mono ?_; rintro e w1 ⟨rfl, rfl⟩) | (go_at_call 17; refine (refDays_any _ _ _).mono ?_; rintro e w2 ⟨rfl, hb2⟩))
  go_ret
  exact ⟨by simp, hb.trans (hb2.mono hb.size)⟩

end Go.Proofs.YthkkdbpblajahaaDoor
