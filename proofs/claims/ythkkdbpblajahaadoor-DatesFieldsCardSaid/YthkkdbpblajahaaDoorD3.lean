/- The laws DatesYears, DatesNext: their walks. -/
import Derived.Test.YthkkdbpblajahaaDoorD2
set_option linter.unusedVariables false
set_option linter.unusedSimpArgs false
namespace Go.Proofs.YthkkdbpblajahaaDoor
open Go.RowKit

theorem datesYears_any (y m : Int) (w : World) : Calls Tryd.prog 3 #[.int .i64 y, .int .i64 m] w fun e w' => e = .returned (.bool true) ∧ Below w.heap.size w w' := by
  go_enter Tryd.func3, Tryd.ntmps3
  go_wp2_with (first | (go_at_call 13; refine (alive_any _).mono ?_; rintro e w1 ⟨rfl, hb⟩) | (go_at_call 14; refine (leap_any _ _).mono ?_; rintro e w1 ⟨rfl, rfl⟩) | (go_at_call 15; refine (refLeap_any _ _).mono ?_; rintro e w1 ⟨rfl, rfl⟩) | (go_at_call 16; refine (days_any _ _ _).mono ?_; rintro e w1 ⟨rfl, rfl⟩) | (go_at_call 17; refine (refDays_any _ _ _).mono ?_; rintro e w2 ⟨rfl, hb2⟩))
  go_ret
  exact ⟨by simp, hb.trans (hb2.mono hb.size)⟩

theorem days_q (y m : Int) (w : World) : Calls Tryd.prog 16 #[.int .i64 y, .int .i64 m] w fun e w' => e = .returned (.int .i64 (Cal.dim y m)) ∧ w' = w := (days_any y m w).mono fun _ _ ⟨a, b⟩ => ⟨a, b.symm⟩

/-- a moment later -/
theorem datesNext_out (t : Int) (w : World) (h : t < 0 ∨ 4102358399 < t) : Calls Tryd.prog 4 #[.int .i64 t] w fun e w' => e = .returned (.bool true) ∧ Below w.heap.size w w' := by
  rcases h with h | h
  · go_enter Tryd.func4, Tryd.ntmps4
    go_wp2_with (first | (go_at_call 13; refine (alive_any _).mono ?_; rintro e w1 ⟨rfl, hb⟩))
    go_ret
    exact ⟨rfl, hb⟩
  · have d0 : decide (t < 0) = false := by simp; omega
    go_enter Tryd.func4, Tryd.ntmps4
    go_wp2_with (first | (go_at_call 13; refine (alive_any _).mono ?_; rintro e w1 ⟨rfl, hb⟩))
    go_ret
    exact ⟨rfl, hb⟩

set_option maxRecDepth 100000 in
set_option maxHeartbeats 4000000 in
theorem datesNext_in (t : Int) (w : World) (h0 : 0 ≤ t) (h1 : t ≤ 4102358399) : Calls Tryd.prog 4 #[.int .i64 t] w fun e w' => e = .returned (.bool true) ∧ Below w.heap.size w w' := by
  have d0 : decide (t < 0) = false := by simp; omega
  have d1 : decide (4102358399 < t) = false := by simp; omega
  go_enter Tryd.func4, Tryd.ntmps4
  go_wp2_with (go_at_call 13; refine (alive_any _).mono ?_; rintro e w1 ⟨rfl, hb⟩)
  refine (civil_in t _ h0 (by omega)).mono ?_
  rintro e w2 ⟨ya, ma, da, ha, mia, sa, wka, ca, rfl, rfl⟩
  go_wp2_with fail
  refine (civil_in (t + 1) _ (by omega) (by omega)).mono ?_
  rintro e w2 ⟨yb, mb, db, hhb, mib, sb, wkb, cb, rfl, rfl⟩
  go_wp2_with fail
  refine (civil_in (t + 86400) _ (by omega) (by omega)).mono ?_
  rintro e w2 ⟨yc, mc, dc, hc, mic, sc, wkc, cc, rfl, rfl⟩
  obtain ⟨ba1, ba2, ba3, ba4, ba5, ba6, ba7, ba8, ba9, ba10, ba11, ba12, ba13, ba14⟩ := Cal.civ7_bd h0 ca
  obtain ⟨rfl, rfl, rfl, rfl, hd⟩ := Cal.next_day h0 ca cc
  rcases Cal.next_sec h0 ca cb with ⟨hs, rfl, rfl, rfl, rfl, rfl, rfl, rfl⟩ | ⟨rfl, rfl, rfl⟩
  · clear hd
    go_wp2
    go_ret
    exact ⟨by simp, by repeat (first | exact hb | refine Below.drew ?_ | refine below_drewN ?_ _ | refine Below.alloc ?_ (by have := hb.size; simp <;> omega) _ | refine Below.setCell ?_ (by have := hb.size; simp <;> omega) _)⟩
  · rcases hd with ⟨hd1, rfl, rfl, rfl⟩ | ⟨rfl, rfl⟩
    · have n1 : ((da + 1 : Int) == 1) = false := beq_eq_false_iff_ne.2 (by omega)
      have n2 : ((da + 1 : Int) != 1) = true := by rw [bne_iff_ne]; omega
      go_wp2
      go_quiet ((go_at_call 16; exact Calls.quiet_of_same (days_q _ _ _)))
      go_wp2
      go_ret
      exact ⟨by simp, by repeat (first | exact hb | refine Below.drew ?_ | refine below_drewN ?_ _ | refine Below.alloc ?_ (by have := hb.size; simp <;> omega) _ | refine Below.setCell ?_ (by have := hb.size; simp <;> omega) _)⟩
    · go_wp2
      go_quiet ((go_at_call 16; exact Calls.quiet_of_same (days_q _ _ _)))
      go_wp2
      go_ret
      exact ⟨by simp, by repeat (first | exact hb | refine Below.drew ?_ | refine below_drewN ?_ _ | refine Below.alloc ?_ (by have := hb.size; simp <;> omega) _ | refine Below.setCell ?_ (by have := hb.size; simp <;> omega) _)⟩

theorem datesNext_any (t : Int) (w : World) : Calls Tryd.prog 4 #[.int .i64 t] w fun e w' => e = .returned (.bool true) ∧ Below w.heap.size w w' := by
  by_cases h : 0 ≤ t ∧ t ≤ 4102358399
  · exact datesNext_in t w h.1 h.2
  · exact datesNext_out t w (by omega)

end Go.Proofs.YthkkdbpblajahaaDoor
