/- The walks of the dates package's plain functions, and of the reference's. -/
import Derived.Test.YtcjnpklmfcbofaaDoorT
import Derived.Test.YtcjnpklmfcbofaaDoorDm
set_option linter.unusedVariables false
set_option linter.unusedSimpArgs false
namespace Go.Proofs.YtcjnpklmfcbofaaDoor
open Go.RowKit

theorem leap_any (y : Int) (w : World) : Calls Tryd.prog 68 #[.int .i64 y] w fun e w' => e = .returned (.bool (Cal.lp y)) ∧ w = w' := by
  by_cases c1 : y.tmod 4 = 0 <;> by_cases c2 : y.tmod 100 = 0 <;> by_cases c3 : y.tmod 400 = 0
  all_goals
    have hl : Hid (Cal.lp y = ((y.tmod 4 == 0 && y.tmod 100 != 0) || y.tmod 400 == 0)) := rfl
    go_enter Tryd.func68, Tryd.ntmps68
    go_wp2
    go_ret
    exact ⟨by rw [hl.out]; simp [c1, c2, c3], rfl⟩

theorem leap_yes (y : Int) (w : World) (h : Hid (Cal.lp y = true)) : Calls Tryd.prog 68 #[.int .i64 y] w fun e w' => e = .returned (.bool true) ∧ w = w' := by rw [← h.out]; exact leap_any y w
theorem leap_no (y : Int) (w : World) (h : Hid (¬ Cal.lp y = true)) : Calls Tryd.prog 68 #[.int .i64 y] w fun e w' => e = .returned (.bool false) ∧ w = w' := by rw [← Bool.eq_false_iff.2 h.out]; exact leap_any y w
theorem days_any (y m : Int) (w : World) : Calls Tryd.prog 60 #[.int .i64 y, .int .i64 m] w fun e w' => e = .returned (.int .i64 (Cal.dim y m)) ∧ w = w' := by
  by_cases h2 : m = 2
  · subst h2
    by_cases hl : Cal.lp y = true
    · have H := Lib.hid hl
      clear hl
      go_enter Tryd.func60, Tryd.ntmps60
      go_wp2_with (go_at_call 68; refine (leap_yes y _ H).mono ?_; rintro e w' ⟨rfl, rfl⟩)
      go_ret
      exact ⟨ret_int (by unfold Cal.dim; rw [if_pos rfl, if_pos H.out]), rfl⟩
    · have H := Lib.hid hl
      clear hl
      go_enter Tryd.func60, Tryd.ntmps60
      go_wp2_with (go_at_call 68; refine (leap_no y _ H).mono ?_; rintro e w' ⟨rfl, rfl⟩)
      go_ret
      exact ⟨ret_int (by unfold Cal.dim; rw [if_pos rfl, if_neg H.out]), rfl⟩
  · by_cases h : m = 1 ∨ m = 3 ∨ m = 4 ∨ m = 5 ∨ m = 6 ∨ m = 7 ∨ m = 8 ∨ m = 9 ∨ m = 10 ∨ m = 11 ∨ m = 12
    · rcases h with rfl | rfl | rfl | rfl | rfl | rfl | rfl | rfl | rfl | rfl | rfl
      all_goals
        clear h2
        go_enter Tryd.func60, Tryd.ntmps60
        go_wp2
        go_ret
        exact ⟨ret_int (by simp [Cal.dim]), rfl⟩
    · have H : Hid (Cal.dim y m = 0) := by
        show Cal.dim y m = 0
        unfold Cal.dim
        rw [if_neg (by omega), if_neg (by omega), if_neg (by omega)]
      have e1 : (m == 1) = false := beq_eq_false_iff_ne.2 (by omega)
      have e2 : (m == 2) = false := beq_eq_false_iff_ne.2 (by omega)
      have e3 : (m == 3) = false := beq_eq_false_iff_ne.2 (by omega)
      have e4 : (m == 4) = false := beq_eq_false_iff_ne.2 (by omega)
      have e5 : (m == 5) = false := beq_eq_false_iff_ne.2 (by omega)
      have e6 : (m == 6) = false := beq_eq_false_iff_ne.2 (by omega)
      have e7 : (m == 7) = false := beq_eq_false_iff_ne.2 (by omega)
      have e8 : (m == 8) = false := beq_eq_false_iff_ne.2 (by omega)
      have e9 : (m == 9) = false := beq_eq_false_iff_ne.2 (by omega)
      have e10 : (m == 10) = false := beq_eq_false_iff_ne.2 (by omega)
      have e11 : (m == 11) = false := beq_eq_false_iff_ne.2 (by omega)
      have e12 : (m == 12) = false := beq_eq_false_iff_ne.2 (by omega)
      clear h h2
      go_enter Tryd.func60, Tryd.ntmps60
      go_wp2
      go_ret
      exact ⟨ret_int H.out.symm, rfl⟩

theorem inRange_yes (t : Int) (w : World) (h0 : 0 ≤ t) (h1 : t ≤ 4102444799) : Calls Tryd.prog 59 #[.int .i64 t] w fun e w' => e = .returned (.bool true) ∧ w = w' := by
  go_enter Tryd.func59, Tryd.ntmps59
  go_wp2
  go_ret
  exact ⟨rfl, rfl⟩
theorem inRange_no (t : Int) (w : World) (h : t < 0 ∨ 4102444799 < t) : Calls Tryd.prog 59 #[.int .i64 t] w fun e w' => e = .returned (.bool false) ∧ w = w' := by
  rcases h with h | h
  · have d0 : decide (0 ≤ t) = false := by simp; omega
    go_enter Tryd.func59, Tryd.ntmps59
    go_wp2
    go_ret
    exact ⟨rfl, rfl⟩
  · have d0 : 0 ≤ t := by omega
    have d1 : decide (t ≤ 4102444799) = false := by simp; omega
    go_enter Tryd.func59, Tryd.ntmps59
    go_wp2
    go_ret
    exact ⟨rfl, rfl⟩

end Go.Proofs.YtcjnpklmfcbofaaDoor
