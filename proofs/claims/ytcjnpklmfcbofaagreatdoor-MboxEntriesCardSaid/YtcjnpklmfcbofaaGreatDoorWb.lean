/- Texts of one walk, merged: XDm XD1 XD2 XD4 XD3 XD5 XD6 XD9. -/
import Derived.Test.YtcjnpklmfcbofaaGreatDoorWa
import Derived.Deep.RegionWith
import Derived.Deep.LoopGhost
import Derived.Deep.RegionHeld3
import Derived.Test.YtcjnpklmfcbofaaGreatDoorShelf
import Derived.Lib.ItoaNum

/- Plain calendar facts for the dates package: no program in sight. -/
set_option linter.unusedVariables false
set_option linter.unusedSimpArgs false
section
set_option linter.unusedVariables false
set_option linter.unusedSimpArgs false
namespace Go.Proofs.YtcjnpklmfcbofaaGreatDoor.Cal

/-- years of 366 days -/
def lp (y : Int) : Bool := (y.tmod 4 == 0 && y.tmod 100 != 0) || y.tmod 400 == 0

/-- days of a month; 0: none -/
def dim (y m : Int) : Int :=
  if m = 2 then (if lp y = true then 29 else 28)
  else if m = 4 ∨ m = 6 ∨ m = 9 ∨ m = 11 then 30
  else if m = 1 ∨ m = 3 ∨ m = 5 ∨ m = 7 ∨ m = 8 ∨ m = 10 ∨ m = 12 then 31 else 0

/-- days ahead of a year, since 1970 (right up to 2100) -/
def dby (y : Int) : Int := 365 * (y - 1970) + (y - 1969) / 4

/-- days of a year's months ahead of a month -/
def cum (y m : Int) : Int :=
  if m = 1 then 0 else if m = 2 then 31 else
  (if lp y = true then 1 else 0) +
  (if m = 3 then 59 else if m = 4 then 90 else if m = 5 then 120 else if m = 6 then 151 else if m = 7 then 181 else if m = 8 then 212 else if m = 9 then 243 else if m = 10 then 273 else if m = 11 then 304 else if m = 12 then 334 else 365)

theorem lp_iff (y : Int) (h0 : 1970 ≤ y) (h1 : y ≤ 2099) : lp y = true ↔ y % 4 = 0 := by
  unfold lp
  rw [Int.tmod_eq_emod_of_nonneg (by omega), Int.tmod_eq_emod_of_nonneg (by omega), Int.tmod_eq_emod_of_nonneg (by omega)]
  simp only [Bool.or_eq_true, Bool.and_eq_true, beq_iff_eq, bne_iff_ne]
  omega

theorem dby_0 : dby 1970 = 0 := by decide

theorem dby_succ (y : Int) (h0 : 1970 ≤ y) (h1 : y ≤ 2099) : dby (y + 1) = dby y + 365 + (if lp y = true then 1 else 0) := by
  have h := lp_iff y h0 h1
  unfold dby
  by_cases c : lp y = true
  · have := h.1 c; rw [if_pos c]; omega
  · have : ¬ y % 4 = 0 := fun e => c (h.2 e)
    rw [if_neg c]; omega

theorem dim_01 (y m : Int) : 0 ≤ dim y m ∧ dim y m ≤ 31 := by
  unfold dim
  split
  · split <;> omega
  · split
    · omega
    · split <;> omega

theorem dim_lo (y m : Int) (h1 : 1 ≤ m) (h2 : m ≤ 12) : 28 ≤ dim y m := by
  unfold dim
  split
  · split <;> omega
  · split
    · omega
    · split <;> omega

theorem dim_out (y m : Int) (h : m < 1 ∨ 12 < m) : dim y m = 0 := by
  unfold dim
  rw [if_neg (by omega), if_neg (by omega), if_neg (by omega)]

theorem cum_succ (y m : Int) (h1 : 1 ≤ m) (h2 : m ≤ 12) : cum y (m + 1) = cum y m + dim y m := by
  rcases (by omega : m = 1 ∨ m = 2 ∨ m = 3 ∨ m = 4 ∨ m = 5 ∨ m = 6 ∨ m = 7 ∨ m = 8 ∨ m = 9 ∨ m = 10 ∨ m = 11 ∨ m = 12) with rfl | rfl | rfl | rfl | rfl | rfl | rfl | rfl | rfl | rfl | rfl | rfl <;>
    (by_cases c : lp y = true <;> simp [cum, dim, c])

theorem cum_1 (y : Int) : cum y 1 = 0 := by simp [cum]

theorem cum_13 (y : Int) : cum y 13 = 365 + (if lp y = true then 1 else 0) := by
  simp [cum]; omega

/-- the number of a day since 1970's first -/
def dnum (y m d : Int) : Int := dby y + cum y m + d - 1

theorem cum_bd (y m : Int) (h1 : 1 ≤ m) (h2 : m ≤ 13) : 0 ≤ cum y m ∧ cum y m ≤ 366 := by
  rcases (by omega : m = 1 ∨ m = 2 ∨ m = 3 ∨ m = 4 ∨ m = 5 ∨ m = 6 ∨ m = 7 ∨ m = 8 ∨ m = 9 ∨ m = 10 ∨ m = 11 ∨ m = 12 ∨ m = 13) with rfl | rfl | rfl | rfl | rfl | rfl | rfl | rfl | rfl | rfl | rfl | rfl | rfl <;>
    (by_cases c : lp y = true <;> simp [cum, c])

theorem dby_bd (y : Int) (h0 : 1970 ≤ y) (h1 : y ≤ 2100) : 0 ≤ dby y ∧ dby y ≤ 47482 := by
  unfold dby; omega

/-- what a date is of a moment -/
def civ (t y m d : Int) : Prop := 1970 ≤ y ∧ y ≤ 2099 ∧ 1 ≤ m ∧ m ≤ 12 ∧ 1 ≤ d ∧ d ≤ dim y m ∧ dnum y m d = t / 86400

/-- what a whole date is of a moment -/
def civ7 (t y m d h mi s wk : Int) : Prop := civ t y m d ∧ h = t % 86400 / 3600 ∧ mi = t % 86400 / 60 % 60 ∧ s = t % 60 ∧ wk = (t / 86400 + 4) % 7

theorem cum_mono (y a : Int) (h1 : 1 ≤ a) (n : Nat) : ∀ b : Int, b = a + n → b ≤ 13 → cum y a ≤ cum y b := by
  induction n with
  | zero => intro b hb _; obtain rfl : b = a := by omega
            exact Int.le_refl _
  | succ n ih =>
    intro b hb h13
    have h := ih (b - 1) (by omega) (by omega)
    have c := cum_succ y (b - 1) (by omega) (by omega)
    rw [show b - 1 + 1 = b by omega] at c
    have d := dim_01 y (b - 1)
    omega

/-- a day has one date -/
theorem civ_one {t t' y m d y' m' d' : Int} (h : civ t y m d) (h' : civ t' y' m' d') (e : t / 86400 = t' / 86400) : y' = y ∧ m' = m ∧ d' = d := by
  obtain ⟨a1, a2, a3, a4, a5, a6, a7⟩ := h
  obtain ⟨b1, b2, b3, b4, b5, b6, b7⟩ := h'
  unfold dnum at a7 b7
  have ca := cum_bd y m a3 (by omega)
  have cb := cum_bd y' m' b3 (by omega)
  have sa := cum_succ y m a3 a4
  have sb := cum_succ y' m' b3 b4
  have ma := cum_mono y (m + 1) (by omega) (12 - m).toNat 13 (by omega) (by omega)
  have mb := cum_mono y' (m' + 1) (by omega) (12 - m').toNat 13 (by omega) (by omega)
  have ta := cum_13 y
  have tb := cum_13 y'
  have da := dby_succ y a1 a2
  have db := dby_succ y' b1 b2
  have hy : y' = y := by
    rcases (by omega : y' = y ∨ y + 1 ≤ y' ∨ y' + 1 ≤ y) with h | h | h
    · exact h
    · have : dby (y + 1) ≤ dby y' := by unfold dby; omega
      omega
    · have : dby (y' + 1) ≤ dby y := by unfold dby; omega
      omega
  subst hy
  have hm : m' = m := by
    rcases (by omega : m' = m ∨ m + 1 ≤ m' ∨ m' + 1 ≤ m) with h | h | h
    · exact h
    · have := cum_mono y' (m + 1) (by omega) (m' - (m + 1)).toNat m' (by omega) (by omega)
      omega
    · have := cum_mono y' (m' + 1) (by omega) (m - (m' + 1)).toNat m (by omega) (by omega)
      omega
  subst hm
  exact ⟨rfl, rfl, by omega⟩

/-- the next day's date -/
theorem civ_next {t t' y m d y' m' d' : Int} (h : civ t y m d) (h' : civ t' y' m' d') (e : t' / 86400 = t / 86400 + 1) :
    (d < dim y m ∧ y' = y ∧ m' = m ∧ d' = d + 1) ∨ (d = dim y m ∧ d' = 1) := by
  have h0 := h
  obtain ⟨a1, a2, a3, a4, a5, a6, a7⟩ := h
  rcases (by omega : d < dim y m ∨ d = dim y m) with g | g
  · left
    have k : civ t' y m (d + 1) := ⟨a1, a2, a3, a4, by omega, by omega, by unfold dnum at a7 ⊢; omega⟩
    obtain ⟨r1, r2, r3⟩ := civ_one k h' rfl
    exact ⟨g, r1, r2, r3⟩
  · right
    refine ⟨g, ?_⟩
    have sa := cum_succ y m a3 a4
    unfold dnum at a7
    rcases (by omega : m < 12 ∨ m = 12) with c | c
    · have k : civ t' y (m + 1) 1 := ⟨a1, a2, by omega, by omega, by omega, by have := dim_lo y (m + 1) (by omega) (by omega); omega, by unfold dnum; omega⟩
      exact (civ_one k h' rfl).2.2
    · subst c
      have ta := cum_13 y
      have sa' : cum y 13 = cum y 12 + dim y 12 := sa
      have da := dby_succ y a1 a2
      have hy : y + 1 ≤ 2099 := by
        obtain ⟨b1, b2, b3, b4, b5, b6, b7⟩ := h'
        unfold dnum at b7
        have sb := cum_succ y' m' b3 b4
        have mb := cum_mono y' (m' + 1) (by omega) (12 - m').toNat 13 (by omega) (by omega)
        have tb := cum_13 y'
        have db := dby_succ y' b1 b2
        rcases (by omega : y + 1 ≤ 2099 ∨ y = 2099) with h | h
        · exact h
        · subst h
          have : dby (2099 + 1) = 47482 := by decide
          have : dby (y' + 1) ≤ 47482 := by unfold dby; omega
          omega
      have k : civ t' (y + 1) 1 1 := ⟨by omega, hy, by omega, by omega, by omega, by have := dim_lo (y + 1) 1 (by omega) (by omega); omega, by unfold dnum; rw [cum_1]; omega⟩
      exact (civ_one k h' rfl).2.2

/-- a day later: the same hour, the next day of the week -/
theorem next_day {t ya ma da ha mia sa wka yc mc dc hc mic sc wkc : Int} (h0 : 0 ≤ t) (ca : civ7 t ya ma da ha mia sa wka) (cc : civ7 (t + 86400) yc mc dc hc mic sc wkc) :
    wkc = (wka + 1) % 7 ∧ hc = ha ∧ mic = mia ∧ sc = sa ∧ ((da < dim ya ma ∧ yc = ya ∧ mc = ma ∧ dc = da + 1) ∨ (da = dim ya ma ∧ dc = 1)) := by
  obtain ⟨a1, a2, a3, a4, a5⟩ := ca
  obtain ⟨c1, c2, c3, c4, c5⟩ := cc
  exact ⟨by omega, by omega, by omega, by omega, civ_next a1 c1 (by omega)⟩

/-- a second later -/
theorem next_sec {t ya ma da ha mia sa wka yb mb db hb mib sb wkb : Int} (h0 : 0 ≤ t) (ca : civ7 t ya ma da ha mia sa wka) (cb : civ7 (t + 1) yb mb db hb mib sb wkb) :
    (sa < 59 ∧ yb = ya ∧ mb = ma ∧ db = da ∧ hb = ha ∧ mib = mia ∧ sb = sa + 1 ∧ wkb = wka) ∨ (sa = 59 ∧ sb = 0 ∧ mib = (mia + 1) % 60) := by
  obtain ⟨a1, a2, a3, a4, a5⟩ := ca
  obtain ⟨b1, b2, b3, b4, b5⟩ := cb
  rcases (by omega : t % 60 < 59 ∨ t % 60 = 59) with h | h
  · left
    have e : (t + 1) / 86400 = t / 86400 := by omega
    obtain ⟨r1, r2, r3⟩ := civ_one a1 b1 e.symm
    exact ⟨by omega, r1, r2, r3, by omega, by omega, by omega, by omega⟩
  · right
    exact ⟨by omega, by omega, by omega⟩

theorem civ7_bd {t y m d h mi s wk : Int} (h0 : 0 ≤ t) (c : civ7 t y m d h mi s wk) :
    1970 ≤ y ∧ y ≤ 2099 ∧ 1 ≤ m ∧ m ≤ 12 ∧ 1 ≤ d ∧ d ≤ 31 ∧ 0 ≤ h ∧ h ≤ 23 ∧ 0 ≤ mi ∧ mi ≤ 59 ∧ 0 ≤ s ∧ s ≤ 59 ∧ 0 ≤ wk ∧ wk ≤ 6 := by
  obtain ⟨⟨a1, a2, a3, a4, a5, a6, a7⟩, c2, c3, c4, c5⟩ := c
  have := dim_01 y m
  exact ⟨a1, a2, a3, a4, a5, by omega, by omega, by omega, by omega, by omega, by omega, by omega, by omega, by omega⟩

end Go.Proofs.YtcjnpklmfcbofaaGreatDoor.Cal
end

/- The walks of the dates package's plain functions, and of the reference's. -/
set_option linter.unusedVariables false
set_option linter.unusedSimpArgs false
section
namespace Go.Proofs.YtcjnpklmfcbofaaGreatDoor
open Go.RowKit

theorem leap_any (y : Int) (w : World) : Calls Tryz.prog 107 #[.int .i64 y] w fun e w' => e = .returned (.bool (Cal.lp y)) ∧ w = w' := by
  by_cases c1 : y.tmod 4 = 0 <;> by_cases c2 : y.tmod 100 = 0 <;> by_cases c3 : y.tmod 400 = 0
  all_goals
    have hl : Hid (Cal.lp y = ((y.tmod 4 == 0 && y.tmod 100 != 0) || y.tmod 400 == 0)) := rfl
    go_enter Tryz.func107, Tryz.ntmps107
    go_wp2
    go_ret
    exact ⟨by rw [hl.out]; simp [c1, c2, c3], rfl⟩

theorem refLeap_any (y : Int) (w : World) : Calls Tryz.prog 99 #[.int .i64 y] w fun e w' => e = .returned (.bool (Cal.lp y)) ∧ w = w' := by
  by_cases c1 : y.tmod 4 = 0 <;> by_cases c2 : y.tmod 100 = 0 <;> by_cases c3 : y.tmod 400 = 0
  all_goals
    have hl : Hid (Cal.lp y = ((y.tmod 4 == 0 && y.tmod 100 != 0) || y.tmod 400 == 0)) := rfl
    go_enter Tryz.func99, Tryz.ntmps99
    go_wp2
    go_ret
    exact ⟨by rw [hl.out]; simp [c1, c2, c3], rfl⟩

theorem leap_yes (y : Int) (w : World) (h : Hid (Cal.lp y = true)) : Calls Tryz.prog 107 #[.int .i64 y] w fun e w' => e = .returned (.bool true) ∧ w = w' := by rw [← h.out]; exact leap_any y w
theorem leap_no (y : Int) (w : World) (h : Hid (¬ Cal.lp y = true)) : Calls Tryz.prog 107 #[.int .i64 y] w fun e w' => e = .returned (.bool false) ∧ w = w' := by rw [← Bool.eq_false_iff.2 h.out]; exact leap_any y w
theorem refLeap_yes (y : Int) (w : World) (h : Hid (Cal.lp y = true)) : Calls Tryz.prog 99 #[.int .i64 y] w fun e w' => e = .returned (.bool true) ∧ w = w' := by rw [← h.out]; exact refLeap_any y w
theorem refLeap_no (y : Int) (w : World) (h : Hid (¬ Cal.lp y = true)) : Calls Tryz.prog 99 #[.int .i64 y] w fun e w' => e = .returned (.bool false) ∧ w = w' := by rw [← Bool.eq_false_iff.2 h.out]; exact refLeap_any y w

theorem days_any (y m : Int) (w : World) : Calls Tryz.prog 97 #[.int .i64 y, .int .i64 m] w fun e w' => e = .returned (.int .i64 (Cal.dim y m)) ∧ w = w' := by
  by_cases h2 : m = 2
  · subst h2
    by_cases hl : Cal.lp y = true
    · have H := Lib.hid hl
      clear hl
      go_enter Tryz.func97, Tryz.ntmps97
      go_wp2_with (go_at_call 107; refine (leap_yes y _ H).mono ?_; rintro e w' ⟨rfl, rfl⟩)
      go_ret
      exact ⟨ret_int (by unfold Cal.dim; rw [if_pos rfl, if_pos H.out]), rfl⟩
    · have H := Lib.hid hl
      clear hl
      go_enter Tryz.func97, Tryz.ntmps97
      go_wp2_with (go_at_call 107; refine (leap_no y _ H).mono ?_; rintro e w' ⟨rfl, rfl⟩)
      go_ret
      exact ⟨ret_int (by unfold Cal.dim; rw [if_pos rfl, if_neg H.out]), rfl⟩
  · by_cases h : m = 1 ∨ m = 3 ∨ m = 4 ∨ m = 5 ∨ m = 6 ∨ m = 7 ∨ m = 8 ∨ m = 9 ∨ m = 10 ∨ m = 11 ∨ m = 12
    · rcases h with rfl | rfl | rfl | rfl | rfl | rfl | rfl | rfl | rfl | rfl | rfl
      all_goals
        clear h2
        go_enter Tryz.func97, Tryz.ntmps97
        go_wp2
        go_ret
        exact ⟨ret_int (by simp [Cal.dim]), rfl⟩
    · have H : Hid (Cal.dim y m = 0) := by
        show Cal.dim y m = 0
        unfold Cal.dim
        rw [if_neg (by omega), if_neg (by omega), if_neg (by omega)]
      have e1 : (m == 1) = false := beq_eq_false_iff_ne.2 (by omega)
      have e2 : (m == 2) = false := beq_eq_false_iff_ne.2 (by omega)
      have e3 : (m == 3) = false := beq_eq_false_iff_ne.2 (by omega)
      have e4 : (m == 4) = false := beq_eq_false_iff_ne.2 (by omega)
      have e5 : (m == 5) = false := beq_eq_false_iff_ne.2 (by omega)
      have e6 : (m == 6) = false := beq_eq_false_iff_ne.2 (by omega)
      have e7 : (m == 7) = false := beq_eq_false_iff_ne.2 (by omega)
      have e8 : (m == 8) = false := beq_eq_false_iff_ne.2 (by omega)
      have e9 : (m == 9) = false := beq_eq_false_iff_ne.2 (by omega)
      have e10 : (m == 10) = false := beq_eq_false_iff_ne.2 (by omega)
      have e11 : (m == 11) = false := beq_eq_false_iff_ne.2 (by omega)
      have e12 : (m == 12) = false := beq_eq_false_iff_ne.2 (by omega)
      clear h h2
      go_enter Tryz.func97, Tryz.ntmps97
      go_wp2
      go_ret
      exact ⟨ret_int H.out.symm, rfl⟩

theorem inRange_yes (t : Int) (w : World) (h0 : 0 ≤ t) (h1 : t ≤ 4102444799) : Calls Tryz.prog 85 #[.int .i64 t] w fun e w' => e = .returned (.bool true) ∧ w = w' := by
  go_enter Tryz.func85, Tryz.ntmps85
  go_wp2
  go_ret
  exact ⟨rfl, rfl⟩
theorem inRange_no (t : Int) (w : World) (h : t < 0 ∨ 4102444799 < t) : Calls Tryz.prog 85 #[.int .i64 t] w fun e w' => e = .returned (.bool false) ∧ w = w' := by
  rcases h with h | h
  · have d0 : decide (0 ≤ t) = false := by simp; omega
    go_enter Tryz.func85, Tryz.ntmps85
    go_wp2
    go_ret
    exact ⟨rfl, rfl⟩
  · have d0 : 0 ≤ t := by omega
    have d1 : decide (t ≤ 4102444799) = false := by simp; omega
    go_enter Tryz.func85, Tryz.ntmps85
    go_wp2
    go_ret
    exact ⟨rfl, rfl⟩

end Go.Proofs.YtcjnpklmfcbofaaGreatDoor
end

/- The walk of dates.Civil, in range and out of it, and of the law's example. -/
set_option linter.unusedVariables false
set_option linter.unusedSimpArgs false
section
namespace Go.Proofs.YtcjnpklmfcbofaaGreatDoor
open Go.RowKit

/-- the block of a date -/
def civC (t y m d : Int) : Array Value := #[.int .i64 y, .int .i64 m, .int .i64 d, .int .i64 (t % 86400 / 3600), .int .i64 (t % 86400 / 60 % 60), .int .i64 (t % 60), .int .i64 ((t / 86400 + 4) % 7)]
def civV (t y m d : Int) : Value := .agg (civC t y m d)
def civ0 : Array Value := #[.int .i64 0, .int .i64 0, .int .i64 0, .int .i64 0, .int .i64 0, .int .i64 0, .int .i64 0]

/-- how a moment in range comes back: the date's parts, and the very world -/
def CivIn (t : Int) (w : World) (e : Ending) (w' : World) : Prop := ∃ y m d h mi s wk : Int, Cal.civ7 t y m d h mi s wk ∧ e = .returned (.tuple #[.agg #[.int .i64 y, .int .i64 m, .int .i64 d, .int .i64 h, .int .i64 mi, .int .i64 s, .int .i64 wk], .nilIface]) ∧
  (w.alloc (.cells #[.int .i64 y, .int .i64 m, .int .i64 d, .int .i64 h, .int .i64 mi, .int .i64 s, .int .i64 wk] 64)).alloc (.cells #[.int .i64 y, .int .i64 m, .int .i64 d, .int .i64 h, .int .i64 mi, .int .i64 s, .int .i64 wk] 64) = w'

set_option maxHeartbeats 1000000 in
theorem civil_in (t : Int) (w : World) (h0 : 0 ≤ t) (h1 : t ≤ 4102444799) : Calls Tryz.prog 74 #[.int .i64 t] w (CivIn t w) := by
  have hT0 : 0 ≤ t / 86400 := by omega
  have hT1 : t / 86400 ≤ 47481 := by omega
  go_enter Tryz.func74, Tryz.ntmps74
  go_wp2_with (first | (go_at_call 85; refine (inRange_yes t _ h0 h1).mono ?_; rintro e w' ⟨rfl, rfl⟩) | (go_at_call 97; refine (days_any _ _ _).mono ?_; rintro e w' ⟨rfl, rfl⟩))
  go_loopw [4, 7] (fun day n wr => ∃ y m : Int, 1970 ≤ y ∧ y ≤ 2099 ∧ 1 ≤ m ∧ m ≤ 12 ∧ 0 ≤ t / 86400 - Cal.dby y - Cal.cum y m ∧ day = .int .i64 (t / 86400 - Cal.dby y - Cal.cum y m) ∧ n = .int .i64 (Cal.dim y m) ∧ wr = (w.alloc (.cells civ0 64)).alloc (.cells (civC t y m 0) 64)) (fun day _ _ => (intOf day).toNat)
  case atStart => exact ⟨1970, 1, by omega, by omega, by omega, by omega, by rw [Cal.dby_0, Cal.cum_1]; omega, by rw [Cal.dby_0, Cal.cum_1]; simp, rfl, rfl⟩
  case round =>
    obtain ⟨y, m, hy0, hy1, hm0, hm1, hr, rfl, rfl, rfl⟩ := hrel
    have hb := Cal.dby_bd y hy0 (by omega)
    have hc := Cal.cum_bd y m hm0 (by omega)
    have hd0 := Cal.dim_lo y m hm0 hm1
    have hd1 := Cal.dim_01 y m
    have hcs := Lib.hid (Cal.cum_succ y m hm0 hm1)
    have hds := Lib.hid (Cal.dby_succ y hy0 hy1)
    have hc13 := Lib.hid (Cal.cum_13 y)
    unfold civC civ0
    by_cases hge : Cal.dim y m ≤ t / 86400 - Cal.dby y - Cal.cum y m
    · by_cases h12 : m < 12
      · have e12 : decide (12 < m + 1) = false := by simp; omega
        go_wp2_with (first | (go_at_call 97; refine (days_any _ _ _).mono ?_; rintro e w' ⟨rfl, rfl⟩))
        go_roundw
        case rel => exact ⟨y, m + 1, hy0, hy1, by omega, by omega, by rw [hcs.out]; omega, by rw [hcs.out]; go_num, rfl, rfl⟩
        case measure => simp [intOf]; omega
      · have em : m = 12 := by omega
        subst em
        have hn : Cal.dby (y + 1) ≤ t / 86400 := by
          have a := hcs.out
          have b := hds.out
          have c := hc13.out
          have a' : Cal.cum y 13 = Cal.cum y 12 + Cal.dim y 12 := a
          omega
        have hy2 : y + 1 ≤ 2099 := by
          rcases (by omega : y + 1 ≤ 2099 ∨ y = 2099) with h | h
          · exact h
          · subst h
            have : Cal.dby (2099 + 1) = 47482 := by decide
            omega
        have hq : Hid (t / 86400 - Cal.dby y - Cal.cum y 12 - Cal.dim y 12 = t / 86400 - Cal.dby (y + 1) - Cal.cum (y + 1) 1) := by
          have a := hcs.out
          have b := hds.out
          have c := hc13.out
          have a' : Cal.cum y 13 = Cal.cum y 12 + Cal.dim y 12 := a
          have d := Cal.cum_1 (y + 1)
          show _ = _
          omega
        go_wp2_with (first | (go_at_call 97; refine (days_any _ _ _).mono ?_; rintro e w' ⟨rfl, rfl⟩))
        go_roundw
        case rel => exact ⟨y + 1, 1, by omega, hy2, by omega, by omega, by rw [← hq.out]; omega, by rw [hq.out], rfl, rfl⟩
        case measure => simp [intOf]; omega
    · go_wp2
      refine bodyPost_ret (v := .tuple #[civV t y m (t / 86400 - Cal.dby y - Cal.cum y m + 1), .nilIface]) (by simp [results, Tryz.results74, go_sem, civV, civC]) rfl ⟨y, m, _, _, _, _, _, ⟨⟨hy0, hy1, hm0, hm1, by omega, by omega, by unfold Cal.dnum; omega⟩, rfl, rfl, rfl, rfl⟩, rfl, rfl⟩

theorem civil_out (t : Int) (w : World) (a : Value) (h : t < 0 ∨ 4102444799 < t) (hc : w.cell? ⟨1, 0, none⟩ = some a) :
    Calls Tryz.prog 74 #[.int .i64 t] w fun e w' => e = .returned (.tuple #[.agg civ0, a]) ∧ Below w.heap.size w w' := by
  have hA := fun o => cell_alloc hc o
  go_enter Tryz.func74, Tryz.ntmps74
  go_wp2_with (first | (go_at_call 85; refine (inRange_no t _ h).mono ?_; rintro e w' ⟨rfl, rfl⟩))
  go_region
  all_goals
    go_wp2
    refine bodyPost_ret (v := .tuple #[.agg civ0, a]) (by simp [results, Tryz.results74, go_sem, civ0]) rfl ⟨rfl, ?_⟩
    exact ((Below.refl _ _).alloc (Nat.le_refl _) _).drew

theorem CivIn.below {t : Int} {w : World} {e : Ending} {w' : World} (h : CivIn t w e w') : Below w.heap.size w w' := by
  obtain ⟨y, m, d, h, mi, s, wk, _, _, rfl⟩ := h
  exact ((Below.refl _ _).alloc (Nat.le_refl _) _).alloc (by simp) _

/-- the example's day -/
theorem alive_date {y m d h mi s wk : Int} (h0 : Cal.civ7 951782400 y m d h mi s wk) : y = 2000 ∧ m = 2 ∧ d = 29 ∧ h = 0 ∧ mi = 0 ∧ s = 0 ∧ wk = 2 := by
  obtain ⟨h1, e1, e2, e3, e4⟩ := h0
  have k : Cal.civ 951782400 2000 2 29 := ⟨by decide, by decide, by decide, by decide, by decide, by decide, by decide⟩
  obtain ⟨rfl, rfl, rfl⟩ := Cal.civ_one k h1 rfl
  exact ⟨rfl, rfl, rfl, by omega, by omega, by omega, by omega⟩

set_option maxHeartbeats 2000000 in
theorem refDays_any (y m : Int) (w : World) : Calls Tryz.prog 78 #[.int .i64 y, .int .i64 m] w fun e w' => e = .returned (.int .i64 (Cal.dim y m)) ∧ Below w.heap.size w w' := by
  rcases (by omega : m < 1 ∨ 12 < m ∨ m = 2 ∨ m = 1 ∨ m = 3 ∨ m = 4 ∨ m = 5 ∨ m = 6 ∨ m = 7 ∨ m = 8 ∨ m = 9 ∨ m = 10 ∨ m = 11 ∨ m = 12) with h | h | rfl | h
  · have H := Lib.hid (Cal.dim_out y m (Or.inl h))
    go_enter Tryz.func78, Tryz.ntmps78
    go_wp2
    go_ret
    exact ⟨ret_int H.out.symm, Below.refl _ _⟩
  · have H := Lib.hid (Cal.dim_out y m (Or.inr h))
    have d0 : decide (m < 1) = false := by simp; omega
    go_enter Tryz.func78, Tryz.ntmps78
    go_wp2
    go_ret
    exact ⟨ret_int H.out.symm, Below.refl _ _⟩
  · by_cases hl : Cal.lp y = true
    · have H := Lib.hid hl
      clear hl
      go_enter Tryz.func78, Tryz.ntmps78
      go_wp2_with (go_at_call 99; refine (refLeap_yes y _ H).mono ?_; rintro e w' ⟨rfl, rfl⟩)
      go_ret
      exact ⟨ret_int (by unfold Cal.dim; rw [if_pos rfl, if_pos H.out]), (Below.refl _ _).alloc (Nat.le_refl _) _⟩
    · have H := Lib.hid hl
      clear hl
      go_enter Tryz.func78, Tryz.ntmps78
      go_wp2_with (go_at_call 99; refine (refLeap_no y _ H).mono ?_; rintro e w' ⟨rfl, rfl⟩)
      go_ret
      exact ⟨ret_int (by unfold Cal.dim; rw [if_pos rfl, if_neg H.out]), (Below.refl _ _).alloc (Nat.le_refl _) _⟩
  · rcases h with rfl | rfl | rfl | rfl | rfl | rfl | rfl | rfl | rfl | rfl | rfl
    all_goals
      go_enter Tryz.func78, Tryz.ntmps78
      go_wp2
      go_ret
      exact ⟨ret_int (by simp [Cal.dim]), (Below.refl _ _).alloc (Nat.le_refl _) _⟩

end Go.Proofs.YtcjnpklmfcbofaaGreatDoor
end

/- The reference's date functions: before, Civil. -/
set_option linter.unusedVariables false
set_option linter.unusedSimpArgs false
section
namespace Go.Proofs.YtcjnpklmfcbofaaGreatDoor
open Go.RowKit

theorem Cal.dby_lo (y : Int) (h : 1970 ≤ y) (h2 : y ≤ 100000) : 0 ≤ Cal.dby y ∧ Cal.dby y ≤ 40000000 := by unfold Cal.dby; omega

set_option maxHeartbeats 1000000 in
theorem before_in (y : Int) (w : World) (h0 : 1970 ≤ y) (h1 : y ≤ 2100) : Calls Tryz.prog 77 #[.int .i64 y] w fun e w' => e = .returned (.int .i64 (Cal.dby y)) ∧ w' = w := by
  go_enter Tryz.func77, Tryz.ntmps77
  go_wp2
  go_loop [3, 4] (fun n k => ∃ z : Int, 1970 ≤ z ∧ z ≤ y ∧ n = .int .i64 (Cal.dby z) ∧ k = .int .i64 z) (fun _ k => (y - intOf k).toNat)
  case atStart => exact ⟨1970, by omega, h0, by rw [Cal.dby_0], rfl⟩
  case round =>
    obtain ⟨z, hz0, hz1, rfl, rfl⟩ := hrel
    have hb := Cal.dby_bd z hz0 (by omega)
    by_cases hlt : z < y
    · have hs := Lib.hid (Cal.dby_succ z hz0 (by omega))
      by_cases hl : Cal.lp z = true
      · have H := Lib.hid hl
        clear hl
        go_wp2_with (go_at_call 99; refine (refLeap_yes z _ H).mono ?_; rintro e w' ⟨rfl, rfl⟩)
        go_round
        case rel => exact ⟨z + 1, by omega, by omega, by rw [hs.out, if_pos H.out], by go_num⟩
        case measure => simp [intOf]; omega
      · have H := Lib.hid hl
        clear hl
        go_wp2_with (go_at_call 99; refine (refLeap_no z _ H).mono ?_; rintro e w' ⟨rfl, rfl⟩)
        go_round
        case rel => exact ⟨z + 1, by omega, by omega, by rw [hs.out, if_neg H.out]; simp, by go_num⟩
        case measure => simp [intOf]; omega
    · obtain rfl : z = y := by omega
      go_wp2
      go_ret
      exact ⟨rfl, rfl⟩

/-- behind a callee that makes blocks: a block of seven ints of ours lies as it lay -/
theorem blk_cell {w : World} {B : Nat} {cs : Array Value} {t : TypeId} (h : w.heap[B]? = some (.cells cs t (0, 0))) (i : Nat) : w.cell? ⟨B, i, none⟩ = cs[i]? := by
  simp [World.cell?, h]
theorem blk_free {w : World} {B : Nat} {cs : Array Value} {t : TypeId} (h : w.heap[B]? = some (.cells cs t (0, 0))) (i : Nat) : w.frozen? ⟨B, i, none⟩ = false := by
  simp [World.frozen?, h]
theorem blk_set {w : World} {B : Nat} {cs : Array Value} {t : TypeId} (h : w.heap[B]? = some (.cells cs t (0, 0))) (i : Nat) (v : Value) : (w.setCell ⟨B, i, none⟩ v).heap[B]? = some (.cells (cs.setIfInBounds i v) t (0, 0)) := by
  simp [World.setCell, Array.getElem?_modify, h]

/-- the cells of a date under way -/
def civA (y m d h mi s wk : Int) : Array Value := #[.int .i64 y, .int .i64 m, .int .i64 d, .int .i64 h, .int .i64 mi, .int .i64 s, .int .i64 wk]

theorem civA_cells {w : World} {B : Nat} {y m d h mi s wk : Int} {t : TypeId} (hk : w.heap[B]? = some (.cells (civA y m d h mi s wk) t (0, 0))) :
    w.cell? ⟨B, 0, none⟩ = some (.int .i64 y) ∧ w.cell? ⟨B, 1, none⟩ = some (.int .i64 m) ∧ w.cell? ⟨B, 2, none⟩ = some (.int .i64 d) ∧ w.cell? ⟨B, 3, none⟩ = some (.int .i64 h) ∧ w.cell? ⟨B, 4, none⟩ = some (.int .i64 mi) ∧ w.cell? ⟨B, 5, none⟩ = some (.int .i64 s) ∧ w.cell? ⟨B, 6, none⟩ = some (.int .i64 wk) ∧
    w.frozen? ⟨B, 0, none⟩ = false ∧ w.frozen? ⟨B, 1, none⟩ = false ∧ w.frozen? ⟨B, 2, none⟩ = false ∧ w.frozen? ⟨B, 3, none⟩ = false ∧ w.frozen? ⟨B, 4, none⟩ = false ∧ w.frozen? ⟨B, 5, none⟩ = false ∧ w.frozen? ⟨B, 6, none⟩ = false :=
  ⟨blk_cell hk 0, blk_cell hk 1, blk_cell hk 2, blk_cell hk 3, blk_cell hk 4, blk_cell hk 5, blk_cell hk 6, blk_free hk 0, blk_free hk 1, blk_free hk 2, blk_free hk 3, blk_free hk 4, blk_free hk 5, blk_free hk 6⟩

/-- how a moment in range comes back from the reference -/
def CivR (t : Int) (w : World) (e : Ending) (w' : World) : Prop := ∃ y m d h mi s wk : Int, Cal.civ7 t y m d h mi s wk ∧ e = .returned (.tuple #[.agg #[.int .i64 y, .int .i64 m, .int .i64 d, .int .i64 h, .int .i64 mi, .int .i64 s, .int .i64 wk], .bool true]) ∧ Below w.heap.size w w'

set_option maxRecDepth 100000 in
set_option maxHeartbeats 2000000 in
theorem refCivil_in (t : Int) (w : World) (h0 : 0 ≤ t) (h1 : t ≤ 4102444799) : Calls Tryz.prog 41 #[.int .i64 t] w (CivR t w) := by
  have hT0 : 0 ≤ t / 86400 := by omega
  have hT1 : t / 86400 ≤ 47481 := by omega
  have d0 : decide (t < 0) = false := by simp; omega
  have d1 : decide (4102444799 < t) = false := by simp; omega
  go_enter Tryz.func41, Tryz.ntmps41
  go_wp2
  go_loopg [21] 200 (fun kq _ wr => ∃ y : Int, 1970 ≤ y ∧ y ≤ 2099 ∧ Cal.dby y ≤ t / 86400 ∧ (2099 - y).toNat ≤ kq ∧ wr = (w.alloc (.cells (civA 0 0 0 0 0 0 0) 64)).alloc (.cells (civA y 1 0 0 0 0 ((t / 86400 + 4) % 7)) 64))
  case atStart => exact ⟨1970, by omega, by omega, by rw [Cal.dby_0]; omega, by omega, rfl⟩
  case round =>
    obtain ⟨y, hy0, hy1, hy2, hq, rfl⟩ := hrel
    have hb := Cal.dby_bd y hy0 (by omega)
    have hb1 := Cal.dby_bd (y + 1) (by omega) (by omega)
    unfold civA
    by_cases hn : Cal.dby (y + 1) ≤ t / 86400
    · have hy3 : y + 1 ≤ 2099 := by
        rcases (by omega : y + 1 ≤ 2099 ∨ y = 2099) with h | h
        · exact h
        · subst h
          have : Cal.dby (2099 + 1) = 47482 := by decide
          omega
      cases gk with
      | zero => omega
      | succ k1 =>
        go_wp2_with (go_at_call 77; refine (before_in _ _ (by omega) (by omega)).mono ?_; rintro e w' ⟨rfl, rfl⟩)
        go_roundg k1
        case measure => omega
        case rel => exact ⟨y + 1, by omega, by omega, hn, by omega, rfl⟩
    · have hsuc := Lib.hid (Cal.dby_succ y hy0 hy1)
      go_wp2_with (go_at_call 77; refine (before_in _ _ (by omega) (by omega)).mono ?_; rintro e w' ⟨rfl, rfl⟩)
      go_loopw [4] (fun v wr => ∃ m : Int, 1 ≤ m ∧ m ≤ 12 ∧ 0 ≤ t / 86400 - Cal.dby y - Cal.cum y m ∧ v = .int .i64 (t / 86400 - Cal.dby y - Cal.cum y m) ∧ wr.heap[w.heap.size]? = some (.cells (civA 0 0 0 0 0 0 0) 64 (0, 0)) ∧ wr.heap[w.heap.size + 1]? = some (.cells (civA y m 0 0 0 0 ((t / 86400 + 4) % 7)) 64 (0, 0)) ∧ Below w.heap.size w wr ∧ w.heap.size + 1 < wr.heap.size) (fun v _ => (intOf v).toNat)
      case atStart => exact ⟨1, by omega, by omega, by rw [Cal.cum_1]; omega, by rw [Cal.cum_1]; simp, (heap_old _ _ _ (by simp)).trans (heap_new _ _), (by have := heap_new (w.alloc (.cells (civA 0 0 0 0 0 0 0) 64)) (.cells (civA y 1 0 0 0 0 ((t / 86400 + 4) % 7)) 64); rw [size_alloc] at this; exact this), ((Below.refl _ _).alloc (Nat.le_refl _) _).alloc (by simp) _, by simp⟩
      case round =>
        obtain ⟨m, hm0, hm1, hr, rfl, hk0, hk1, hbw, hsz⟩ := hrel
        have hc := Cal.cum_bd y m hm0 (by omega)
        have hd0 := Cal.dim_lo y m hm0 hm1
        have hd1 := Cal.dim_01 y m
        have hcs := Lib.hid (Cal.cum_succ y m hm0 hm1)
        have hc13 := Lib.hid (Cal.cum_13 y)
        have H0 := Lib.hid hk0
        have H1 := Lib.hid hk1
        obtain ⟨c0, c1, c2, c3, c4, c5, c6, f0, f1, f2, f3, f4, f5, f6⟩ := civA_cells hk1
        clear hk0 hk1
        by_cases hge : Cal.dim y m ≤ t / 86400 - Cal.dby y - Cal.cum y m
        · have h12 : m < 12 := by
            rcases (by omega : m < 12 ∨ m = 12) with h | h
            · exact h
            · subst h
              have a := hcs.out
              have b := hsuc.out
              have c := hc13.out
              have a' : Cal.cum y 13 = Cal.cum y 12 + Cal.dim y 12 := a
              omega
          go_wp2_with fail
          refine (refDays_any _ _ _).mono ?_
          rintro e w1 ⟨rfl, hb1⟩
          have hz1 := hb1.size
          have K0 := Lib.hid ((hb1.block _ (by omega)).trans H0.out)
          have K1 := Lib.hid ((hb1.block _ (by omega)).trans H1.out)
          obtain ⟨c0, c1, c2, c3, c4, c5, c6, f0, f1, f2, f3, f4, f5, f6⟩ := civA_cells K1.out
          go_wp2_with fail
          refine (refDays_any _ _ _).mono ?_
          rintro e w2 ⟨rfl, hb2⟩
          have hz2 := hb2.size
          have L0 := Lib.hid ((hb2.block _ (by omega)).trans K0.out)
          have L1 := Lib.hid ((hb2.block _ (by omega)).trans K1.out)
          obtain ⟨c0, c1, c2, c3, c4, c5, c6, f0, f1, f2, f3, f4, f5, f6⟩ := civA_cells L1.out
          go_wp2
          go_roundw
          case rel => exact ⟨m + 1, by omega, by omega, by rw [hcs.out]; omega, by rw [hcs.out]; go_num, (Below.heap_setCell _ _ _ _ (by simp)).trans L0.out, blk_set L1.out 1 _, ((hbw.trans (hb1.mono (by omega))).trans (hb2.mono (by omega))).setCell (by simp) _, by simp [World.setCell]; omega⟩
          case measure => simp [intOf]; omega
        · go_wp2_with fail
          refine (refDays_any _ _ _).mono ?_
          rintro e w1 ⟨rfl, hb1⟩
          have hz1 := hb1.size
          have K0 := Lib.hid ((hb1.block _ (by omega)).trans H0.out)
          have K1 := Lib.hid ((hb1.block _ (by omega)).trans H1.out)
          obtain ⟨c0, c1, c2, c3, c4, c5, c6, f0, f1, f2, f3, f4, f5, f6⟩ := civA_cells K1.out
          obtain ⟨r0, r1, r2, r3, r4, r5, r6, g0, g1, g2, g3, g4, g5, g6⟩ := civA_cells K0.out
          go_wp2
          refine bodyPost_ret (v := .tuple #[.agg #[.int .i64 y, .int .i64 m, .int .i64 (t / 86400 - Cal.dby y - Cal.cum y m + 1), .int .i64 (t % 86400 / 3600), .int .i64 (t % 86400 % 3600 / 60), .int .i64 (t % 60), .int .i64 ((t / 86400 + 4) % 7)], .bool true]) (by simp [results, Tryz.results41, go_sem, r0, r1, r2, r3, r4, r5, r6, g0, g1, g2, g3, g4, g5, g6]) rfl ⟨y, m, _, _, _, _, _, ⟨⟨hy0, hy1, hm0, hm1, by omega, by omega, by unfold Cal.dnum; omega⟩, rfl, by omega, rfl, rfl⟩, rfl, ?_⟩
          have hB := hbw.trans (hb1.mono (by omega))
          repeat (first | (with_reducible exact hB) | (with_reducible refine Below.setCell ?_ (by simp) _))

theorem refCivil_out (t : Int) (w : World) (h : t < 0 ∨ 4102444799 < t) : Calls Tryz.prog 41 #[.int .i64 t] w fun e w' => e = .returned (.tuple #[.agg civ0, .bool false]) ∧ Below w.heap.size w w' := by
  rcases h with h | h
  · go_enter Tryz.func41, Tryz.ntmps41
    go_wp2
    refine bodyPost_ret (v := .tuple #[.agg civ0, .bool false]) (by simp [results, Tryz.results41, go_sem, civ0]) rfl ⟨rfl, ?_⟩
    exact (Below.refl _ _).alloc (Nat.le_refl _) _
  · have d0 : decide (t < 0) = false := by simp; omega
    go_enter Tryz.func41, Tryz.ntmps41
    go_wp2
    refine bodyPost_ret (v := .tuple #[.agg civ0, .bool false]) (by simp [results, Tryz.results41, go_sem, civ0]) rfl ⟨rfl, ?_⟩
    exact (Below.refl _ _).alloc (Nat.le_refl _) _

end Go.Proofs.YtcjnpklmfcbofaaGreatDoor
end

/- The laws DatesYears, DatesNext: their walks. -/
set_option linter.unusedVariables false
set_option linter.unusedSimpArgs false
section
namespace Go.Proofs.YtcjnpklmfcbofaaGreatDoor
open Go.RowKit

theorem days_q (y m : Int) (w : World) : Calls Tryz.prog 97 #[.int .i64 y, .int .i64 m] w fun e w' => e = .returned (.int .i64 (Cal.dim y m)) ∧ w' = w := (days_any y m w).mono fun _ _ ⟨a, b⟩ => ⟨a, b.symm⟩

end Go.Proofs.YtcjnpklmfcbofaaGreatDoor
end

/- Dates' moments: the walks of Moment, and of the reference's Right and Moment. -/
set_option linter.unusedVariables false
set_option linter.unusedSimpArgs false
section
namespace Go.Proofs.YtcjnpklmfcbofaaGreatDoor
open Go.RowKit

/-- a right date -/
def Cal.right (y m d h mi s : Int) : Prop := (1970 ≤ y ∧ y ≤ 2099) ∧ (1 ≤ m ∧ m ≤ 12) ∧ (1 ≤ d ∧ d ≤ Cal.dim y m) ∧ (0 ≤ h ∧ h ≤ 23) ∧ (0 ≤ mi ∧ mi ≤ 59) ∧ (0 ≤ s ∧ s ≤ 59)

/-- a right date's moment -/
def Cal.mom (y m d h mi s : Int) : Int := Cal.dnum y m d * 86400 + h * 3600 + mi * 60 + s

theorem within_yes (n a b : Int) (w : World) (h0 : a ≤ n) (h1 : n ≤ b) : Calls Tryz.prog 106 #[.int .i64 n, .int .i64 a, .int .i64 b] w fun e w' => e = .returned (.bool true) ∧ w' = w := by
  go_enter Tryz.func106, Tryz.ntmps106
  go_wp2
  go_ret
  exact ⟨rfl, rfl⟩
theorem within_no (n a b : Int) (w : World) (h : n < a ∨ b < n) : Calls Tryz.prog 106 #[.int .i64 n, .int .i64 a, .int .i64 b] w fun e w' => e = .returned (.bool false) ∧ w' = w := by
  by_cases h0 : n < a
  · have d0 : decide (a ≤ n) = false := by simp; omega
    go_enter Tryz.func106, Tryz.ntmps106
    go_wp2
    go_ret
    exact ⟨rfl, rfl⟩
  · have d0 : a ≤ n := by omega
    have d1 : decide (n ≤ b) = false := by simp; omega
    go_enter Tryz.func106, Tryz.ntmps106
    go_wp2
    go_ret
    exact ⟨rfl, rfl⟩

set_option maxRecDepth 100000 in
set_option maxHeartbeats 4000000 in
theorem moment_bad (y m d h mi s wk : Int) (w : World) (a : Value) (hc : w.cell? ⟨1, 0, none⟩ = some a) (hr : ¬ Cal.right y m d h mi s) :
    Calls Tryz.prog 84 #[.agg #[.int .i64 y, .int .i64 m, .int .i64 d, .int .i64 h, .int .i64 mi, .int .i64 s, .int .i64 wk]] w fun e w' => e = .returned (.tuple #[.int .i64 0, a]) ∧ Below w.heap.size w w' := by
  have hA := fun o => cell_alloc hc o
  have hcase : ¬ (1970 ≤ y ∧ y ≤ 2099) ∨ (1970 ≤ y ∧ y ≤ 2099) ∧ (¬ (1 ≤ m ∧ m ≤ 12) ∨ (1 ≤ m ∧ m ≤ 12) ∧ (¬ (1 ≤ d ∧ d ≤ Cal.dim y m) ∨ (1 ≤ d ∧ d ≤ Cal.dim y m) ∧ (¬ (0 ≤ h ∧ h ≤ 23) ∨ (0 ≤ h ∧ h ≤ 23) ∧ (¬ (0 ≤ mi ∧ mi ≤ 59) ∨ (0 ≤ mi ∧ mi ≤ 59) ∧ ¬ (0 ≤ s ∧ s ≤ 59))))) := by
    unfold Cal.right at hr; omega
  clear hr
  rcases hcase with g | ⟨g1, g | ⟨g2, g | ⟨g3, g | ⟨g4, g | ⟨g5, g⟩⟩⟩⟩⟩
  all_goals
    go_enter Tryz.func84, Tryz.ntmps84
    go_wp2
    go_quiet ((first | (go_at_call 106; refine Calls.quiet_of_same (within_yes _ _ _ _ ?_ ?_) <;> omega) | (go_at_call 106; refine Calls.quiet_of_same (within_no _ _ _ _ ?_); omega) | (go_at_call 97; exact Calls.quiet_of_same (days_q _ _ _))))
    go_wp2
    go_quiet (fail)
    go_wp2
    go_ret2
    exact ⟨rfl, by repeat (first | (with_reducible exact Below.refl _ _) | (with_reducible refine below_drewN ?_ _) | (with_reducible refine Below.drew ?_) | (with_reducible refine Below.alloc ?_ (by simp <;> omega) _))⟩

set_option maxRecDepth 100000 in
set_option maxHeartbeats 4000000 in
theorem moment_good (y m d h mi s wk : Int) (w : World) (hr : Cal.right y m d h mi s) :
    Calls Tryz.prog 84 #[.agg #[.int .i64 y, .int .i64 m, .int .i64 d, .int .i64 h, .int .i64 mi, .int .i64 s, .int .i64 wk]] w fun e w' => e = .returned (.tuple #[.int .i64 (Cal.mom y m d h mi s), .nilIface]) ∧ Below w.heap.size w w' := by
  obtain ⟨⟨y0, y1⟩, ⟨m0, m1⟩, ⟨e0, e1⟩, ⟨h0, h1⟩, ⟨i0, i1⟩, ⟨s0, s1⟩⟩ := hr
  have hd := Cal.dim_01 y m
  go_enter Tryz.func84, Tryz.ntmps84
  go_wp2
  go_quiet ((first | (go_at_call 106; refine Calls.quiet_of_same (within_yes _ _ _ _ ?_ ?_) <;> omega) | (go_at_call 97; exact Calls.quiet_of_same (days_q _ _ _))))
  go_wp2
  go_loop [4, 5] (fun n k => ∃ z : Int, 1970 ≤ z ∧ z ≤ y ∧ n = .int .i64 (d - 1 + Cal.dby z) ∧ k = .int .i64 z) (fun _ k => (y - intOf k).toNat)
  case atStart => exact ⟨1970, by omega, y0, by rw [Cal.dby_0]; simp, rfl⟩
  case round =>
    obtain ⟨z, hz0, hz1, rfl, rfl⟩ := hrel
    have hb := Cal.dby_bd z hz0 (by omega)
    by_cases hlt : z < y
    · have hs := Lib.hid (Cal.dby_succ z hz0 (by omega))
      by_cases hl : Cal.lp z = true
      · have H := Lib.hid hl
        clear hl
        go_wp2_with (go_at_call 107; refine (leap_yes z _ H).mono ?_; rintro e w' ⟨rfl, rfl⟩)
        go_round
        case rel => exact ⟨z + 1, by omega, by omega, by rw [hs.out, if_pos H.out]; go_num, by go_num⟩
        case measure => simp [intOf]; omega
      · have H := Lib.hid hl
        clear hl
        go_wp2_with (go_at_call 107; refine (leap_no z _ H).mono ?_; rintro e w' ⟨rfl, rfl⟩)
        go_round
        case rel => exact ⟨z + 1, by omega, by omega, by rw [hs.out, if_neg H.out]; go_num, by go_num⟩
        case measure => simp [intOf]; omega
    · obtain rfl : z = y := by omega
      go_wp2
      go_loop [4, 6] (fun n k => ∃ j : Int, 1 ≤ j ∧ j ≤ m ∧ n = .int .i64 (d - 1 + Cal.dby z + Cal.cum z j) ∧ k = .int .i64 j) (fun _ k => (m - intOf k).toNat)
      case atStart => exact ⟨1, by omega, m0, by rw [Cal.cum_1]; simp, rfl⟩
      case round =>
        obtain ⟨j, hj0, hj1, rfl, rfl⟩ := hrel
        have hc := Cal.cum_bd z j hj0 (by omega)
        have hdj := Cal.dim_01 z j
        by_cases hjm : j < m
        · have hs := Lib.hid (Cal.cum_succ z j hj0 (by omega))
          go_wp2_with (go_at_call 97; refine (days_any _ _ _).mono ?_; rintro e w' ⟨rfl, rfl⟩)
          go_round
          case rel => exact ⟨j + 1, by omega, by omega, by rw [hs.out]; go_num, by go_num⟩
          case measure => simp [intOf]; omega
        · obtain rfl : j = m := by omega
          go_wp2
          go_ret2
          exact ⟨congrArg (fun v => Ending.returned (.tuple #[.int .i64 v, .nilIface])) (by unfold Cal.mom Cal.dnum; omega), by repeat (first | (with_reducible exact Below.refl _ _) | (with_reducible refine below_drewN ?_ _) | (with_reducible refine Below.drew ?_) | (with_reducible refine Below.alloc ?_ (by simp <;> omega) _))⟩

end Go.Proofs.YtcjnpklmfcbofaaGreatDoor
end

/- The reference's Right and Moment. -/
set_option linter.unusedVariables false
set_option linter.unusedSimpArgs false
section
namespace Go.Proofs.YtcjnpklmfcbofaaGreatDoor
open Go.RowKit

set_option maxRecDepth 100000 in
set_option maxHeartbeats 4000000 in
theorem right_yes (y m d h mi s wk : Int) (w : World) (hr : Cal.right y m d h mi s) :
    Calls Tryz.prog 88 #[.agg #[.int .i64 y, .int .i64 m, .int .i64 d, .int .i64 h, .int .i64 mi, .int .i64 s, .int .i64 wk]] w fun e w' => e = .returned (.bool true) ∧ Below w.heap.size w w' := by
  obtain ⟨⟨y0, y1⟩, ⟨m0, m1⟩, ⟨e0, e1⟩, ⟨h0, h1⟩, ⟨i0, i1⟩, ⟨s0, s1⟩⟩ := hr
  have hd := Cal.dim_01 y m
  obtain ⟨W1, hW1⟩ : ∃ W1, w.alloc (.cells (civA y m d h mi s wk) 64) = W1 := ⟨_, rfl⟩
  have hk : W1.heap[w.heap.size]? = some (.cells (civA y m d h mi s wk) 64 (0, 0)) := by rw [← hW1]; exact heap_new _ _
  have hB : Below w.heap.size w W1 := by rw [← hW1]; exact (Below.refl _ _).alloc (Nat.le_refl _) _
  obtain ⟨c0, c1, c2, c3, c4, c5, c6, _⟩ := civA_cells hk
  have g0 := fun g : Grow W1 => g.cell c0
  have g1 := fun g : Grow W1 => g.cell c1
  have g2 := fun g : Grow W1 => g.cell c2
  have g3 := fun g : Grow W1 => g.cell c3
  have g4 := fun g : Grow W1 => g.cell c4
  have g5 := fun g : Grow W1 => g.cell c5
  unfold civA at hW1
  have HW := Lib.hid hW1
  clear hk c0 c1 c2 c3 c4 c5 c6 hW1
  go_enter Tryz.func88, Tryz.ntmps88
  go_wp2
  rw [HW.out]
  refine wp_region_grow (by kernel_rfl) (by kernel_rfl) ?_
  repeat (go_big_quiet_step ((go_at_call 78; exact grow_call (refDays_any _ _ _))))
  refine wpQuiet_nil ?_
  rintro _ ⟨gw, rfl⟩
  go_wp2
  go_ret
  exact ⟨rfl, hB.trans (gw.h.mono hB.size)⟩

set_option maxRecDepth 100000 in
set_option maxHeartbeats 8000000 in
theorem right_no (y m d h mi s wk : Int) (w : World) (hr : ¬ Cal.right y m d h mi s) :
    Calls Tryz.prog 88 #[.agg #[.int .i64 y, .int .i64 m, .int .i64 d, .int .i64 h, .int .i64 mi, .int .i64 s, .int .i64 wk]] w fun e w' => e = .returned (.bool false) ∧ Below w.heap.size w w' := by
  have hcase : ¬ (1970 ≤ y) ∨ (1970 ≤ y) ∧ (¬ (y ≤ 2099) ∨ (y ≤ 2099) ∧ (¬ (1 ≤ d) ∨ (1 ≤ d) ∧ (¬ (d ≤ Cal.dim y m) ∨ (d ≤ Cal.dim y m) ∧ (¬ (0 ≤ h) ∨ (0 ≤ h) ∧ (¬ (h ≤ 23) ∨ (h ≤ 23) ∧ (¬ (0 ≤ mi) ∨ (0 ≤ mi) ∧ (¬ (mi ≤ 59) ∨ (mi ≤ 59) ∧ (¬ (0 ≤ s) ∨ (0 ≤ s) ∧ (¬ (s ≤ 59)))))))))) := by
    have ho := Cal.dim_out y m
    unfold Cal.right at hr
    by_cases hm : 1 ≤ m ∧ m ≤ 12
    · omega
    · have := ho (by omega); omega
  clear hr
  have hd := Cal.dim_01 y m
  obtain ⟨W1, hW1⟩ : ∃ W1, w.alloc (.cells (civA y m d h mi s wk) 64) = W1 := ⟨_, rfl⟩
  have hk : W1.heap[w.heap.size]? = some (.cells (civA y m d h mi s wk) 64 (0, 0)) := by rw [← hW1]; exact heap_new _ _
  have hB : Below w.heap.size w W1 := by rw [← hW1]; exact (Below.refl _ _).alloc (Nat.le_refl _) _
  obtain ⟨c0, c1, c2, c3, c4, c5, c6, _⟩ := civA_cells hk
  have g0 := fun g : Grow W1 => g.cell c0
  have g1 := fun g : Grow W1 => g.cell c1
  have g2 := fun g : Grow W1 => g.cell c2
  have g3 := fun g : Grow W1 => g.cell c3
  have g4 := fun g : Grow W1 => g.cell c4
  have g5 := fun g : Grow W1 => g.cell c5
  unfold civA at hW1
  have HW := Lib.hid hW1
  clear hk c0 c1 c2 c3 c4 c5 c6 hW1
  rcases hcase with g | ⟨k0, (g | ⟨k1, (g | ⟨k2, (g | ⟨k3, (g | ⟨k4, (g | ⟨k5, (g | ⟨k6, (g | ⟨k7, (g | ⟨k8, g⟩)⟩)⟩)⟩)⟩)⟩)⟩)⟩)⟩
  · have n1 : decide (1970 ≤ y) = false := decide_eq_false g
    clear g
    go_enter Tryz.func88, Tryz.ntmps88
    go_wp2
    rw [HW.out]
    refine wp_region_grow (by kernel_rfl) (by kernel_rfl) ?_
    repeat (go_big_quiet_step ((go_at_call 78; exact grow_call (refDays_any _ _ _))))
    refine wpQuiet_nil ?_
    rintro _ ⟨gw, rfl⟩
    go_wp2
    go_ret
    exact ⟨rfl, hB.trans (gw.h.mono hB.size)⟩
  · have n1 : decide (y ≤ 2099) = false := decide_eq_false g
    clear g
    go_enter Tryz.func88, Tryz.ntmps88
    go_wp2
    rw [HW.out]
    refine wp_region_grow (by kernel_rfl) (by kernel_rfl) ?_
    repeat (go_big_quiet_step ((go_at_call 78; exact grow_call (refDays_any _ _ _))))
    refine wpQuiet_nil ?_
    rintro _ ⟨gw, rfl⟩
    go_wp2
    go_ret
    exact ⟨rfl, hB.trans (gw.h.mono hB.size)⟩
  · have n1 : decide (1 ≤ d) = false := decide_eq_false g
    clear g
    go_enter Tryz.func88, Tryz.ntmps88
    go_wp2
    rw [HW.out]
    refine wp_region_grow (by kernel_rfl) (by kernel_rfl) ?_
    repeat (go_big_quiet_step ((go_at_call 78; exact grow_call (refDays_any _ _ _))))
    refine wpQuiet_nil ?_
    rintro _ ⟨gw, rfl⟩
    go_wp2
    go_ret
    exact ⟨rfl, hB.trans (gw.h.mono hB.size)⟩
  · have n1 : decide (d ≤ Cal.dim y m) = false := decide_eq_false g
    clear g
    go_enter Tryz.func88, Tryz.ntmps88
    go_wp2
    rw [HW.out]
    refine wp_region_grow (by kernel_rfl) (by kernel_rfl) ?_
    repeat (go_big_quiet_step ((go_at_call 78; exact grow_call (refDays_any _ _ _))))
    refine wpQuiet_nil ?_
    rintro _ ⟨gw, rfl⟩
    go_wp2
    go_ret
    exact ⟨rfl, hB.trans (gw.h.mono hB.size)⟩
  · have n1 : decide (0 ≤ h) = false := decide_eq_false g
    clear g
    go_enter Tryz.func88, Tryz.ntmps88
    go_wp2
    rw [HW.out]
    refine wp_region_grow (by kernel_rfl) (by kernel_rfl) ?_
    repeat (go_big_quiet_step ((go_at_call 78; exact grow_call (refDays_any _ _ _))))
    refine wpQuiet_nil ?_
    rintro _ ⟨gw, rfl⟩
    go_wp2
    go_ret
    exact ⟨rfl, hB.trans (gw.h.mono hB.size)⟩
  · have n1 : decide (h ≤ 23) = false := decide_eq_false g
    clear g
    go_enter Tryz.func88, Tryz.ntmps88
    go_wp2
    rw [HW.out]
    refine wp_region_grow (by kernel_rfl) (by kernel_rfl) ?_
    repeat (go_big_quiet_step ((go_at_call 78; exact grow_call (refDays_any _ _ _))))
    refine wpQuiet_nil ?_
    rintro _ ⟨gw, rfl⟩
    go_wp2
    go_ret
    exact ⟨rfl, hB.trans (gw.h.mono hB.size)⟩
  · have n1 : decide (0 ≤ mi) = false := decide_eq_false g
    clear g
    go_enter Tryz.func88, Tryz.ntmps88
    go_wp2
    rw [HW.out]
    refine wp_region_grow (by kernel_rfl) (by kernel_rfl) ?_
    repeat (go_big_quiet_step ((go_at_call 78; exact grow_call (refDays_any _ _ _))))
    refine wpQuiet_nil ?_
    rintro _ ⟨gw, rfl⟩
    go_wp2
    go_ret
    exact ⟨rfl, hB.trans (gw.h.mono hB.size)⟩
  · have n1 : decide (mi ≤ 59) = false := decide_eq_false g
    clear g
    go_enter Tryz.func88, Tryz.ntmps88
    go_wp2
    rw [HW.out]
    refine wp_region_grow (by kernel_rfl) (by kernel_rfl) ?_
    repeat (go_big_quiet_step ((go_at_call 78; exact grow_call (refDays_any _ _ _))))
    refine wpQuiet_nil ?_
    rintro _ ⟨gw, rfl⟩
    go_wp2
    go_ret
    exact ⟨rfl, hB.trans (gw.h.mono hB.size)⟩
  · have n1 : decide (0 ≤ s) = false := decide_eq_false g
    clear g
    go_enter Tryz.func88, Tryz.ntmps88
    go_wp2
    rw [HW.out]
    refine wp_region_grow (by kernel_rfl) (by kernel_rfl) ?_
    repeat (go_big_quiet_step ((go_at_call 78; exact grow_call (refDays_any _ _ _))))
    refine wpQuiet_nil ?_
    rintro _ ⟨gw, rfl⟩
    go_wp2
    go_ret
    exact ⟨rfl, hB.trans (gw.h.mono hB.size)⟩
  · have n1 : decide (s ≤ 59) = false := decide_eq_false g
    clear g
    go_enter Tryz.func88, Tryz.ntmps88
    go_wp2
    rw [HW.out]
    refine wp_region_grow (by kernel_rfl) (by kernel_rfl) ?_
    repeat (go_big_quiet_step ((go_at_call 78; exact grow_call (refDays_any _ _ _))))
    refine wpQuiet_nil ?_
    rintro _ ⟨gw, rfl⟩
    go_wp2
    go_ret
    exact ⟨rfl, hB.trans (gw.h.mono hB.size)⟩

end Go.Proofs.YtcjnpklmfcbofaaGreatDoor
end

/- The dates' texts: two, month, week, clock. -/
set_option linter.unusedVariables false
set_option linter.unusedSimpArgs false
section
namespace Go.Proofs.YtcjnpklmfcbofaaGreatDoor
open Go.RowKit

def wkNames : List UInt8 := [83, 117, 110, 77, 111, 110, 84, 117, 101, 87, 101, 100, 84, 104, 117, 70, 114, 105, 83, 97, 116]
def moNames : List UInt8 := [74, 97, 110, 70, 101, 98, 77, 97, 114, 65, 112, 114, 77, 97, 121, 74, 117, 110, 74, 117, 108, 65, 117, 103, 83, 101, 112, 79, 99, 116, 78, 111, 118, 68, 101, 99]

/-- a day's name, a month's name -/
def weekL (wk : Int) : List UInt8 := (wkNames.drop (3 * wk.toNat)).take 3
def monthL (m : Int) : List UInt8 := (moNames.drop (3 * m.toNat - 3)).take 3
/-- a number in two places -/
def twoL (n : Int) (a : List UInt8) : List UInt8 := if n < 10 then a ++ Lib.decDigits n.toNat else Lib.decDigits n.toNat
def clockL (h mi s : Int) : List UInt8 := twoL h [48] ++ [58] ++ twoL mi [48] ++ [58] ++ twoL s [48]

theorem dec_len : ∀ n : Nat, n < 100 → (Lib.decDigits n).length ≤ 2 := by decide +kernel
theorem twoL_len (n : Int) (a : List UInt8) (h0 : 0 ≤ n) (h1 : n < 100) (ha : a.length ≤ 1) : (twoL n a).length ≤ 3 := by
  have := dec_len n.toNat (by omega)
  unfold twoL
  split
  · simp; omega
  · omega
theorem weekL_len (wk : Int) : (weekL wk).length ≤ 3 := by unfold weekL; rw [List.length_take]; omega
theorem monthL_len (m : Int) : (monthL m).length ≤ 3 := by unfold monthL; rw [List.length_take]; omega

theorem ret_str {a b : ByteArray} (h : a = b) : Ending.returned (.string a) = .returned (.string b) := by rw [h]

theorem itoa_two (n : Int) (w : World) (h0 : 0 ≤ n) (h1 : n < 100) : Calls Tryz.prog 36 #[.int .i64 n] w fun e w' => e = .returned (.string (bs (Lib.decDigits n.toNat))) ∧ w' = w := by
  have := Tryz.strconv_Itoa_small n.toNat (by omega) w
  rw [show ((n.toNat : Nat) : Int) = n by omega] at this
  exact this

theorem two_any (n : Int) (a : List UInt8) (w : World) (h0 : 0 ≤ n) (h1 : n < 100) (ha : a.length ≤ 1) : Calls Tryz.prog 34 #[.int .i64 n, .string (bs a)] w fun e w' => e = .returned (.string (bs (twoL n a))) ∧ w' = w := by
  have hd := dec_len n.toNat (by omega)
  by_cases h : n < 10
  · have ht : Hid (twoL n a = a ++ Lib.decDigits n.toNat) := if_pos h
    go_enter Tryz.func34, Tryz.ntmps34
    go_wp2_with (go_at_call 36; refine (itoa_two n _ h0 h1).mono ?_; rintro e w' ⟨rfl, rfl⟩)
    go_ret
    exact ⟨ret_str (by rw [ht.out, ← bs_append]), rfl⟩
  · have ht : Hid (twoL n a = Lib.decDigits n.toNat) := if_neg h
    go_enter Tryz.func34, Tryz.ntmps34
    go_wp2_with (go_at_call 36; refine (itoa_two n _ h0 h1).mono ?_; rintro e w' ⟨rfl, rfl⟩)
    go_ret
    exact ⟨ret_str (by rw [ht.out]), rfl⟩

theorem week_any (y m d h mi s wk : Int) (w : World) (h0 : 0 ≤ wk) (h1 : wk ≤ 6) : Calls Tryz.prog 32 #[.agg #[.int .i64 y, .int .i64 m, .int .i64 d, .int .i64 h, .int .i64 mi, .int .i64 s, .int .i64 wk]] w fun e w' => e = .returned (.string (bs (weekL wk))) ∧ Below w.heap.size w w' := by
  obtain ⟨k, rfl⟩ : ∃ k : Nat, wk = k := ⟨wk.toNat, by omega⟩
  rcases (by omega : k = 0 ∨ k = 1 ∨ k = 2 ∨ k = 3 ∨ k = 4 ∨ k = 5 ∨ k = 6) with rfl | rfl | rfl | rfl | rfl | rfl | rfl
  all_goals
    go_enter Tryz.func32, Tryz.ntmps32
    go_wp2
    go_ret
    exact ⟨rfl, (Below.refl _ _).alloc (Nat.le_refl _) _⟩

theorem month_any (y m d h mi s wk : Int) (w : World) (h0 : 1 ≤ m) (h1 : m ≤ 12) : Calls Tryz.prog 33 #[.agg #[.int .i64 y, .int .i64 m, .int .i64 d, .int .i64 h, .int .i64 mi, .int .i64 s, .int .i64 wk]] w fun e w' => e = .returned (.string (bs (monthL m))) ∧ Below w.heap.size w w' := by
  rcases (by omega : m = 1 ∨ m = 2 ∨ m = 3 ∨ m = 4 ∨ m = 5 ∨ m = 6 ∨ m = 7 ∨ m = 8 ∨ m = 9 ∨ m = 10 ∨ m = 11 ∨ m = 12) with rfl | rfl | rfl | rfl | rfl | rfl | rfl | rfl | rfl | rfl | rfl | rfl
  all_goals
    go_enter Tryz.func33, Tryz.ntmps33
    go_wp2
    go_ret
    exact ⟨rfl, (Below.refl _ _).alloc (Nat.le_refl _) _⟩

set_option maxHeartbeats 1000000 in
theorem clock_any (y m d h mi s wk : Int) (w : World) (h0 : 0 ≤ h) (h1 : h ≤ 23) (i0 : 0 ≤ mi) (i1 : mi ≤ 59) (s0 : 0 ≤ s) (s1 : s ≤ 59) : Calls Tryz.prog 35 #[.agg #[.int .i64 y, .int .i64 m, .int .i64 d, .int .i64 h, .int .i64 mi, .int .i64 s, .int .i64 wk]] w fun e w' => e = .returned (.string (bs (clockL h mi s))) ∧ Below w.heap.size w w' := by
  have l1 := twoL_len h [48] h0 (by omega) (by decide)
  have l2 := twoL_len mi [48] i0 (by omega) (by decide)
  have l3 := twoL_len s [48] s0 (by omega) (by decide)
  go_enter Tryz.func35, Tryz.ntmps35
  go_wp2
  go_quiet ((first | (go_at_call 34; refine Calls.quiet_of_same (two_any _ [48] _ ?_ ?_ ?_) <;> first | omega | decide)))
  go_wp2
  go_outline
  go_ret
  exact ⟨ret_str (by unfold clockL; simp only [← bs_append]), below_drewN ((Below.refl _ _).alloc (Nat.le_refl _) _) _⟩

end Go.Proofs.YtcjnpklmfcbofaaGreatDoor
end
