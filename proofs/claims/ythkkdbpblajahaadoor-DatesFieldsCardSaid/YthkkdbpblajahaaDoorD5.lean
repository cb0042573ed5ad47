/- Dates' moments: the walks of Moment, and of the reference's Right and Moment. -/
import Derived.Test.YthkkdbpblajahaaDoorD4
import Derived.Test.YthkkdbpblajahaaDoorD3
set_option linter.unusedVariables false
set_option linter.unusedSimpArgs false
namespace Go.Proofs.YthkkdbpblajahaaDoor
open Go.RowKit

/-- a right date -/
def Cal.right (y m d h mi s : Int) : Prop := (1970 ≤ y ∧ y ≤ 2099) ∧ (1 ≤ m ∧ m ≤ 12) ∧ (1 ≤ d ∧ d ≤ Cal.dim y m) ∧ (0 ≤ h ∧ h ≤ 23) ∧ (0 ≤ mi ∧ mi ≤ 59) ∧ (0 ≤ s ∧ s ≤ 59)

/-- a right date's moment -/
def Cal.mom (y m d h mi s : Int) : Int := Cal.dnum y m d * 86400 + h * 3600 + mi * 60 + s

theorem within_yes (n a b : Int) (w : World) (h0 : a ≤ n) (h1 : n ≤ b) : Calls Tryd.prog 41 #[.int .i64 n, .int .i64 a, .int .i64 b] w fun e w' => e = .returned (.bool true) ∧ w' = w := by
  go_enter Tryd.func41, Tryd.ntmps41
  go_wp2
  go_ret
  exact ⟨rfl, rfl⟩
theorem within_no (n a b : Int) (w : World) (h : n < a ∨ b < n) : Calls Tryd.prog 41 #[.int .i64 n, .int .i64 a, .int .i64 b] w fun e w' => e = .returned (.bool false) ∧ w' = w := by
  by_cases h0 : n < a
  · have d0 : decide (a ≤ n) = false := by simp; omega
    go_enter Tryd.func41, Tryd.ntmps41
    go_wp2
    go_ret
    exact ⟨rfl, rfl⟩
  · have d0 : a ≤ n := by omega
    have d1 : decide (n ≤ b) = false := by simp; omega
    go_enter Tryd.func41, Tryd.ntmps41
    go_wp2
    go_ret
    exact ⟨rfl, rfl⟩

set_option maxRecDepth 100000 in
set_option maxHeartbeats 4000000 in
theorem moment_bad (y m d h mi s wk : Int) (w : World) (a : Value) (hc : w.cell? ⟨0, 0, none⟩ = some a) (hr : ¬ Cal.right y m d h mi s) :
    Calls Tryd.prog 21 #[.agg #[.int .i64 y, .int .i64 m, .int .i64 d, .int .i64 h, .int .i64 mi, .int .i64 s, .int .i64 wk]] w fun e w' => e = .returned (.tuple #[.int .i64 0, a]) ∧ Below w.heap.size w w' := by
  have hA := fun o => cell_alloc hc o
  have hcase : ¬ (1970 ≤ y ∧ y ≤ 2099) ∨ (1970 ≤ y ∧ y ≤ 2099) ∧ (¬ (1 ≤ m ∧ m ≤ 12) ∨ (1 ≤ m ∧ m ≤ 12) ∧ (¬ (1 ≤ d ∧ d ≤ Cal.dim y m) ∨ (1 ≤ d ∧ d ≤ Cal.dim y m) ∧ (¬ (0 ≤ h ∧ h ≤ 23) ∨ (0 ≤ h ∧ h ≤ 23) ∧ (¬ (0 ≤ mi ∧ mi ≤ 59) ∨ (0 ≤ mi ∧ mi ≤ 59) ∧ ¬ (0 ≤ s ∧ s ≤ 59))))) := by
    unfold Cal.right at hr; omega
  clear hr
  rcases hcase with g | ⟨g1, g | ⟨g2, g | ⟨g3, g | ⟨g4, g | ⟨g5, g⟩⟩⟩⟩⟩
  all_goals
    go_enter Tryd.func21, Tryd.ntmps21
    go_wp2
    go_quiet ((first | (go_at_call 41; refine Calls.quiet_of_same (within_yes _ _ _ _ ?_ ?_) <;> omega) | (go_at_call 41; refine Calls.quiet_of_same (within_no _ _ _ _ ?_); omega) | (go_at_call 16; exact Calls.quiet_of_same (days_q _ _ _))))
    go_wp2
    go_quiet (fail)
    go_wp2
    go_ret2
    exact ⟨rfl, by repeat (first | (with_reducible exact Below.refl _ _) | (with_reducible refine below_drewN ?_ _) | (with_reducible refine Below.drew ?_) | (with_reducible refine Below.alloc ?_ (by simp <;> omega) _))⟩

set_option maxRecDepth 100000 in
set_option maxHeartbeats 4000000 in
theorem moment_good (y m d h mi s wk : Int) (w : World) (hr : Cal.right y m d h mi s) :
    Calls Tryd.prog 21 #[.agg #[.int .i64 y, .int .i64 m, .int .i64 d, .int .i64 h, .int .i64 mi, .int .i64 s, .int .i64 wk]] w fun e w' => e = .returned (.tuple #[.int .i64 (Cal.mom y m d h mi s), .nilIface]) ∧ Below w.heap.size w w' := by
  obtain ⟨⟨y0, y1⟩, ⟨m0, m1⟩, ⟨e0, e1⟩, ⟨h0, h1⟩, ⟨i0, i1⟩, ⟨s0, s1⟩⟩ := hr
  have hd := Cal.dim_01 y m
  go_enter Tryd.func21, Tryd.ntmps21
  go_wp2
  go_quiet ((first | (go_at_call 41; refine Calls.quiet_of_same (within_yes _ _ _ _ ?_ ?_) <;> omega) | (go_at_call 16; exact Calls.quiet_of_same (days_q _ _ _))))
  go_wp2
  go_loop [4, 5] (fun n k => ∃ z : Int, 1970 ≤ z ∧ z ≤ y ∧ n = .int .i64 (d - 1 + Cal.dby z) ∧ k = .int .i64 z) (fun _ k => (y - intOf k).toNat)
  case atStart => exact ⟨1970, by omega, y0, by rw [Cal.dby_0]; simp, rfl⟩
  case round =>
    obtain ⟨z, hz0, hz1, rfl, rfl⟩ := hrel
    have hb := Cal.dby_bd z hz0 (by omega)
    by_cases hlt : z < y
    · have hs := Lib.hid (Cal.dby_succ z hz0 (by omega))
      by_cases hl : Cal.lp z = true
      · have H := Lib.hid hl
        clear hl
        go_wp2_with (go_at_call 14; refine (leap_yes z _ H).mono ?_; rintro e w' ⟨rfl, rfl⟩)
        go_round
        case rel => exact ⟨z + 1, by omega, by omega, by rw [hs.out, if_pos H.out]; go_num, by go_num⟩
        case measure => simp [intOf]; omega
      · have H := Lib.hid hl
        clear hl
        go_wp2_with (go_at_call 14; refine (leap_no z _ H).mono ?_; rintro e w' ⟨rfl, rfl⟩)
        go_round
        case rel => exact ⟨z + 1, by omega, by omega, by rw [hs.out, if_neg H.out]; go_num, by go_num⟩
        case measure => simp [intOf]; omega
    · obtain rfl : z = y := by omega
      go_wp2
      go_loop [4, 6] (fun n k => ∃ j : Int, 1 ≤ j ∧ j ≤ m ∧ n = .int .i64 (d - 1 + Cal.dby z + Cal.cum z j) ∧ k = .int .i64 j) (fun _ k => (m - intOf k).toNat)
      case atStart => exact ⟨1, by omega, m0, by rw [Cal.cum_1]; simp, rfl⟩
      case round =>
        obtain ⟨j, hj0, hj1, rfl, rfl⟩ := hrel
        have hc := Cal.cum_bd z j hj0 (by omega)
        have hdj := Cal.dim_01 z j
        by_cases hjm : j < m
        · have hs := Lib.hid (Cal.cum_succ z j hj0 (by omega))
          go_wp2_with (go_at_call 16; refine (days_any _ _ _).mono ?_; rintro e w' ⟨rfl, rfl⟩)
          go_round
          case rel => exact ⟨j + 1, by omega, by omega, by rw [hs.out]; go_num, by go_num⟩
          case measure => simp [intOf]; omega
        · obtain rfl : j = m := by omega
          go_wp2
          go_ret2
          exact ⟨congrArg (fun v => Ending.returned (.tuple #[.int .i64 v, .nilIface])) (by unfold Cal.mom Cal.dnum; omega), by repeat (first | (with_reducible exact Below.refl _ _) | (with_reducible refine below_drewN ?_ _) | (with_reducible refine Below.drew ?_) | (with_reducible refine Below.alloc ?_ (by simp <;> omega) _))⟩

end Go.Proofs.YthkkdbpblajahaaDoor
