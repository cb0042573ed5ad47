/- The walk of dates.Civil, in range and out of it, and of the law's example. -/
import Derived.Test.YtcjnpklmfcbofaaDoorT
import Derived.Test.YtcjnpklmfcbofaaDoorD1
set_option linter.unusedVariables false
set_option linter.unusedSimpArgs false
namespace Go.Proofs.YtcjnpklmfcbofaaDoor
open Go.RowKit

/-- the block of a date -/
def civC (t y m d : Int) : Array Value := #[.int .i64 y, .int .i64 m, .int .i64 d, .int .i64 (t % 86400 / 3600), .int .i64 (t % 86400 / 60 % 60), .int .i64 (t % 60), .int .i64 ((t / 86400 + 4) % 7)]
def civV (t y m d : Int) : Value := .agg (civC t y m d)
def civ0 : Array Value := #[.int .i64 0, .int .i64 0, .int .i64 0, .int .i64 0, .int .i64 0, .int .i64 0, .int .i64 0]

/-- how a moment in range comes back: the date's parts, and the very world -/
def CivIn (t : Int) (w : World) (e : Ending) (w' : World) : Prop := ∃ y m d h mi s wk : Int, Cal.civ7 t y m d h mi s wk ∧ e = .returned (.tuple #[.agg #[.int .i64 y, .int .i64 m, .int .i64 d, .int .i64 h, .int .i64 mi, .int .i64 s, .int .i64 wk], .nilIface]) ∧
  (w.alloc (.cells #[.int .i64 y, .int .i64 m, .int .i64 d, .int .i64 h, .int .i64 mi, .int .i64 s, .int .i64 wk] 67)).alloc (.cells #[.int .i64 y, .int .i64 m, .int .i64 d, .int .i64 h, .int .i64 mi, .int .i64 s, .int .i64 wk] 67) = w'

set_option maxHeartbeats 1000000 in
theorem civil_in (t : Int) (w : World) (h0 : 0 ≤ t) (h1 : t ≤ 4102444799) : Calls Tryd.prog 47 #[.int .i64 t] w (CivIn t w) := by
  have hT0 : 0 ≤ t / 86400 := by omega
  have hT1 : t / 86400 ≤ 47481 := by omega
  go_enter Tryd.func47, Tryd.ntmps47
  go_wp2_with (first | (go_at_call 59; refine (inRange_yes t _ h0 h1).mono ?_; rintro e w' ⟨rfl, rfl⟩) | (go_at_call 60; refine (days_any _ _ _).mono ?_; rintro e w' ⟨rfl, rfl⟩))
  go_loopw [4, 7] (fun day n wr => ∃ y m : Int, 1970 ≤ y ∧ y ≤ 2099 ∧ 1 ≤ m ∧ m ≤ 12 ∧ 0 ≤ t / 86400 - Cal.dby y - Cal.cum y m ∧ day = .int .i64 (t / 86400 - Cal.dby y - Cal.cum y m) ∧ n = .int .i64 (Cal.dim y m) ∧ wr = (w.alloc (.cells civ0 67)).alloc (.cells (civC t y m 0) 67)) (fun day _ _ => (intOf day).toNat)
  case atStart => exact ⟨1970, 1, by omega, by omega, by omega, by omega, by rw [Cal.dby_0, Cal.cum_1]; omega, by rw [Cal.dby_0, Cal.cum_1]; simp, rfl, rfl⟩
  case round =>
    obtain ⟨y, m, hy0, hy1, hm0, hm1, hr, rfl, rfl, rfl⟩ := hrel
    have hb := Cal.dby_bd y hy0 (by omega)
    have hc := Cal.cum_bd y m hm0 (by omega)
    have hd0 := Cal.dim_lo y m hm0 hm1
    have hd1 := Cal.dim_01 y m
    have hcs := Lib.hid (Cal.cum_succ y m hm0 hm1)
    have hds := Lib.hid (Cal.dby_succ y hy0 hy1)
    have hc13 := Lib.hid (Cal.cum_13 y)
    unfold civC civ0
    by_cases hge : Cal.dim y m ≤ t / 86400 - Cal.dby y - Cal.cum y m
    · by_cases h12 : m < 12
      · have e12 : decide (12 < m + 1) = false := by simp; omega
        go_wp2_with (first | (go_at_call 60; refine (days_any _ _ _).mono ?_; rintro e w' ⟨rfl, rfl⟩))
        go_roundw
        case rel => exact ⟨y, m + 1, hy0, hy1, by omega, by omega, by rw [hcs.out]; omega, by rw [hcs.out]; go_num, rfl, rfl⟩
        case measure => simp [intOf]; omega
      · have em : m = 12 := by omega
        subst em
        have hn : Cal.dby (y + 1) ≤ t / 86400 := by
          have a := hcs.out
          have b := hds.out
          have c := hc13.out
          have a' : Cal.cum y 13 = Cal.cum y 12 + Cal.dim y 12 := a
          omega
        have hy2 : y + 1 ≤ 2099 := by
          rcases (by omega : y + 1 ≤ 2099 ∨ y = 2099) with h | h
          · exact h
          · subst h
            have : Cal.dby (2099 + 1) = 47482 := by decide
            omega
        have hq : Hid (t / 86400 - Cal.dby y - Cal.cum y 12 - Cal.dim y 12 = t / 86400 - Cal.dby (y + 1) - Cal.cum (y + 1) 1) := by
          have a := hcs.out
          have b := hds.out
          have c := hc13.out
          have a' : Cal.cum y 13 = Cal.cum y 12 + Cal.dim y 12 := a
          have d := Cal.cum_1 (y + 1)
          show _ = _
          omega
        go_wp2_with (first | (go_at_call 60; refine (days_any _ _ _).mono ?_; rintro e w' ⟨rfl, rfl⟩))
        go_roundw
        case rel => exact ⟨y + 1, 1, by omega, hy2, by omega, by omega, by rw [← hq.out]; omega, by rw [hq.out], rfl, rfl⟩
        case measure => simp [intOf]; omega
    · go_wp2
      refine bodyPost_ret (v := .tuple #[civV t y m (t / 86400 - Cal.dby y - Cal.cum y m + 1), .nilIface]) (by simp [results, Tryd.results47, go_sem, civV, civC]) rfl ⟨y, m, _, _, _, _, _, ⟨⟨hy0, hy1, hm0, hm1, by omega, by omega, by unfold Cal.dnum; omega⟩, rfl, rfl, rfl, rfl⟩, rfl, rfl⟩

theorem civil_out (t : Int) (w : World) (a : Value) (h : t < 0 ∨ 4102444799 < t) (hc : w.cell? ⟨2, 0, none⟩ = some a) :
    Calls Tryd.prog 47 #[.int .i64 t] w fun e w' => e = .returned (.tuple #[.agg civ0, a]) ∧ Below w.heap.size w w' := by
  have hA := fun o => cell_alloc hc o
  go_enter Tryd.func47, Tryd.ntmps47
  go_wp2_with (first | (go_at_call 59; refine (inRange_no t _ h).mono ?_; rintro e w' ⟨rfl, rfl⟩))
  go_region
  all_goals
    go_wp2
    refine bodyPost_ret (v := .tuple #[.agg civ0, a]) (by simp [results, Tryd.results47, go_sem, civ0]) rfl ⟨rfl, ?_⟩
    exact ((Below.refl _ _).alloc (Nat.le_refl _) _).drew

theorem CivIn.below {t : Int} {w : World} {e : Ending} {w' : World} (h : CivIn t w e w') : Below w.heap.size w w' := by
  obtain ⟨y, m, d, h, mi, s, wk, _, _, rfl⟩ := h
  exact ((Below.refl _ _).alloc (Nat.le_refl _) _).alloc (by simp) _

end Go.Proofs.YtcjnpklmfcbofaaDoor
