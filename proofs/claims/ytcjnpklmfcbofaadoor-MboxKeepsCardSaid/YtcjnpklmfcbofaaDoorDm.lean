/- Plain calendar facts for the dates package: no program in sight. -/
set_option linter.unusedVariables false
set_option linter.unusedSimpArgs false
namespace Go.Proofs.YtcjnpklmfcbofaaDoor.Cal

/-- years of 366 days -/
def lp (y : Int) : Bool := (y.tmod 4 == 0 && y.tmod 100 != 0) || y.tmod 400 == 0

/-- days of a month; 0: none -/
def dim (y m : Int) : Int :=
  if m = 2 then (if lp y = true then 29 else 28)
  else if m = 4 ∨ m = 6 ∨ m = 9 ∨ m = 11 then 30
  else if m = 1 ∨ m = 3 ∨ m = 5 ∨ m = 7 ∨ m = 8 ∨ m = 10 ∨ m = 12 then 31 else 0

/-- days ahead of a year, since 1970 (right up to 2100) -/
def dby (y : Int) : Int := 365 * (y - 1970) + (y - 1969) / 4

/-- days of a year's months ahead of a month -/
def cum (y m : Int) : Int :=
  if m = 1 then 0 else if m = 2 then 31 else
  (if lp y = true then 1 else 0) +
  (if m = 3 then 59 else if m = 4 then 90 else if m = 5 then 120 else if m = 6 then 151 else if m = 7 then 181 else if m = 8 then 212 else if m = 9 then 243 else if m = 10 then 273 else if m = 11 then 304 else if m = 12 then 334 else 365)

theorem lp_iff (y : Int) (h0 : 1970 ≤ y) (h1 : y ≤ 2099) : lp y = true ↔ y % 4 = 0 := by
  unfold lp
  rw [Int.tmod_eq_emod_of_nonneg (by omega), Int.tmod_eq_emod_of_nonneg (by omega), Int.tmod_eq_emod_of_nonneg (by omega)]
  simp only [Bool.or_eq_true, Bool.and_eq_true, beq_iff_eq, bne_iff_ne]
  omega

theorem dby_0 : dby 1970 = 0 := by decide

theorem dby_succ (y : Int) (h0 : 1970 ≤ y) (h1 : y ≤ 2099) : dby (y + 1) = dby y + 365 + (if lp y = true then 1 else 0) := by
  have h := lp_iff y h0 h1
  unfold dby
  by_cases c : lp y = true
  · have := h.1 c; rw [if_pos c]; omega
  · have : ¬ y % 4 = 0 := fun e => c (h.2 e)
    rw [if_neg c]; omega

theorem dim_01 (y m : Int) : 0 ≤ dim y m ∧ dim y m ≤ 31 := by
  unfold dim
  split
  · split <;> omega
  · split
    · omega
    · split <;> omega

theorem dim_lo (y m : Int) (h1 : 1 ≤ m) (h2 : m ≤ 12) : 28 ≤ dim y m := by
  unfold dim
  split
  · split <;> omega
  · split
    · omega
    · split <;> omega

theorem dim_out (y m : Int) (h : m < 1 ∨ 12 < m) : dim y m = 0 := by
  unfold dim
  rw [if_neg (by omega), if_neg (by omega), if_neg (by omega)]

theorem cum_succ (y m : Int) (h1 : 1 ≤ m) (h2 : m ≤ 12) : cum y (m + 1) = cum y m + dim y m := by
  rcases (by omega : m = 1 ∨ m = 2 ∨ m = 3 ∨ m = 4 ∨ m = 5 ∨ m = 6 ∨ m = 7 ∨ m = 8 ∨ m = 9 ∨ m = 10 ∨ m = 11 ∨ m = 12) with rfl | rfl | rfl | rfl | rfl | rfl | rfl | rfl | rfl | rfl | rfl | rfl <;>
    (by_cases c : lp y = true <;> simp [cum, dim, c])

theorem cum_1 (y : Int) : cum y 1 = 0 := by simp [cum]

theorem cum_13 (y : Int) : cum y 13 = 365 + (if lp y = true then 1 else 0) := by
  simp [cum]; omega

/-- the number of a day since 1970's first -/
def dnum (y m d : Int) : Int := dby y + cum y m + d - 1

theorem cum_bd (y m : Int) (h1 : 1 ≤ m) (h2 : m ≤ 13) : 0 ≤ cum y m ∧ cum y m ≤ 366 := by
  rcases (by omega : m = 1 ∨ m = 2 ∨ m = 3 ∨ m = 4 ∨ m = 5 ∨ m = 6 ∨ m = 7 ∨ m = 8 ∨ m = 9 ∨ m = 10 ∨ m = 11 ∨ m = 12 ∨ m = 13) with rfl | rfl | rfl | rfl | rfl | rfl | rfl | rfl | rfl | rfl | rfl | rfl | rfl <;>
    (by_cases c : lp y = true <;> simp [cum, c])

theorem dby_bd (y : Int) (h0 : 1970 ≤ y) (h1 : y ≤ 2100) : 0 ≤ dby y ∧ dby y ≤ 47482 := by
  unfold dby; omega

/-- what a date is of a moment -/
def civ (t y m d : Int) : Prop := 1970 ≤ y ∧ y ≤ 2099 ∧ 1 ≤ m ∧ m ≤ 12 ∧ 1 ≤ d ∧ d ≤ dim y m ∧ dnum y m d = t / 86400

/-- what a whole date is of a moment -/
def civ7 (t y m d h mi s wk : Int) : Prop := civ t y m d ∧ h = t % 86400 / 3600 ∧ mi = t % 86400 / 60 % 60 ∧ s = t % 60 ∧ wk = (t / 86400 + 4) % 7

theorem cum_mono (y a : Int) (h1 : 1 ≤ a) (n : Nat) : ∀ b : Int, b = a + n → b ≤ 13 → cum y a ≤ cum y b := by
  induction n with
  | zero => intro b hb _; obtain rfl : b = a := by omega
            exact Int.le_refl _
  | succ n ih =>
    intro b hb h13
    have h := ih (b - 1) (by omega) (by omega)
    have c := cum_succ y (b - 1) (by omega) (by omega)
    rw [show b - 1 + 1 = b by omega] at c
    have d := dim_01 y (b - 1)
    omega

/-- a day has one date -/
theorem civ_one {t t' y m d y' m' d' : Int} (h : civ t y m d) (h' : civ t' y' m' d') (e : t / 86400 = t' / 86400) : y' = y ∧ m' = m ∧ d' = d := by
  obtain ⟨a1, a2, a3, a4, a5, a6, a7⟩ := h
  obtain ⟨b1, b2, b3, b4, b5, b6, b7⟩ := h'
  unfold dnum at a7 b7
  have ca := cum_bd y m a3 (by omega)
  have cb := cum_bd y' m' b3 (by omega)
  have sa := cum_succ y m a3 a4
  have sb := cum_succ y' m' b3 b4
  have ma := cum_mono y (m + 1) (by omega) (12 - m).toNat 13 (by omega) (by omega)
  have mb := cum_mono y' (m' + 1) (by omega) (12 - m').toNat 13 (by omega) (by omega)
  have ta := cum_13 y
  have tb := cum_13 y'
  have da := dby_succ y a1 a2
  have db := dby_succ y' b1 b2
  have hy : y' = y := by
    rcases (by omega : y' = y ∨ y + 1 ≤ y' ∨ y' + 1 ≤ y) with h | h | h
    · exact h
    · have : dby (y + 1) ≤ dby y' := by unfold dby; omega
      omega
    · have : dby (y' + 1) ≤ dby y := by unfold dby; omega
      omega
  subst hy
  have hm : m' = m := by
    rcases (by omega : m' = m ∨ m + 1 ≤ m' ∨ m' + 1 ≤ m) with h | h | h
    · exact h
    · have := cum_mono y' (m + 1) (by omega) (m' - (m + 1)).toNat m' (by omega) (by omega)
      omega
    · have := cum_mono y' (m' + 1) (by omega) (m - (m' + 1)).toNat m (by omega) (by omega)
      omega
  subst hm
  exact ⟨rfl, rfl, by omega⟩

/-- the next day's date -/
theorem civ_next {t t' y m d y' m' d' : Int} (h : civ t y m d) (h' : civ t' y' m' d') (e : t' / 86400 = t / 86400 + 1) :
    (d < dim y m ∧ y' = y ∧ m' = m ∧ d' = d + 1) ∨ (d = dim y m ∧ d' = 1) := by
  have h0 := h
  obtain ⟨a1, a2, a3, a4, a5, a6, a7⟩ := h
  rcases (by omega : d < dim y m ∨ d = dim y m) with g | g
  · left
    have k : civ t' y m (d + 1) := ⟨a1, a2, a3, a4, by omega, by omega, by unfold dnum at a7 ⊢; omega⟩
    obtain ⟨r1, r2, r3⟩ := civ_one k h' rfl
    exact ⟨g, r1, r2, r3⟩
  · right
    refine ⟨g, ?_⟩
    have sa := cum_succ y m a3 a4
    unfold dnum at a7
    rcases (by omega : m < 12 ∨ m = 12) with c | c
    · have k : civ t' y (m + 1) 1 := ⟨a1, a2, by omega, by omega, by omega, by have := dim_lo y (m + 1) (by omega) (by omega); omega, by unfold dnum; omega⟩
      exact (civ_one k h' rfl).2.2
    · subst c
      have ta := cum_13 y
      have sa' : cum y 13 = cum y 12 + dim y 12 := sa
      have da := dby_succ y a1 a2
      have hy : y + 1 ≤ 2099 := by
        obtain ⟨b1, b2, b3, b4, b5, b6, b7⟩ := h'
        unfold dnum at b7
        have sb := cum_succ y' m' b3 b4
        have mb := cum_mono y' (m' + 1) (by omega) (12 - m').toNat 13 (by omega) (by omega)
        have tb := cum_13 y'
        have db := dby_succ y' b1 b2
        rcases (by omega : y + 1 ≤ 2099 ∨ y = 2099) with h | h
        · exact h
        · subst h
          have : dby (2099 + 1) = 47482 := by decide
          have : dby (y' + 1) ≤ 47482 := by unfold dby; omega
          omega
      have k : civ t' (y + 1) 1 1 := ⟨by omega, hy, by omega, by omega, by omega, by have := dim_lo (y + 1) 1 (by omega) (by omega); omega, by unfold dnum; rw [cum_1]; omega⟩
      exact (civ_one k h' rfl).2.2

/-- a day later: the same hour, the next day of the week -/
theorem next_day {t ya ma da ha mia sa wka yc mc dc hc mic sc wkc : Int} (h0 : 0 ≤ t) (ca : civ7 t ya ma da ha mia sa wka) (cc : civ7 (t + 86400) yc mc dc hc mic sc wkc) :
    wkc = (wka + 1) % 7 ∧ hc = ha ∧ mic = mia ∧ sc = sa ∧ ((da < dim ya ma ∧ yc = ya ∧ mc = ma ∧ dc = da + 1) ∨ (da = dim ya ma ∧ dc = 1)) := by
  obtain ⟨a1, a2, a3, a4, a5⟩ := ca
  obtain ⟨c1, c2, c3, c4, c5⟩ := cc
  exact ⟨by omega, by omega, by omega, by omega, civ_next a1 c1 (by omega)⟩

/-- a second later -/
theorem next_sec {t ya ma da ha mia sa wka yb mb db hb mib sb wkb : Int} (h0 : 0 ≤ t) (ca : civ7 t ya ma da ha mia sa wka) (cb : civ7 (t + 1) yb mb db hb mib sb wkb) :
    (sa < 59 ∧ yb = ya ∧ mb = ma ∧ db = da ∧ hb = ha ∧ mib = mia ∧ sb = sa + 1 ∧ wkb = wka) ∨ (sa = 59 ∧ sb = 0 ∧ mib = (mia + 1) % 60) := by
  obtain ⟨a1, a2, a3, a4, a5⟩ := ca
  obtain ⟨b1, b2, b3, b4, b5⟩ := cb
  rcases (by omega : t % 60 < 59 ∨ t % 60 = 59) with h | h
  · left
    have e : (t + 1) / 86400 = t / 86400 := by omega
    obtain ⟨r1, r2, r3⟩ := civ_one a1 b1 e.symm
    exact ⟨by omega, r1, r2, r3, by omega, by omega, by omega, by omega⟩
  · right
    exact ⟨by omega, by omega, by omega⟩

theorem civ7_bd {t y m d h mi s wk : Int} (h0 : 0 ≤ t) (c : civ7 t y m d h mi s wk) :
    1970 ≤ y ∧ y ≤ 2099 ∧ 1 ≤ m ∧ m ≤ 12 ∧ 1 ≤ d ∧ d ≤ 31 ∧ 0 ≤ h ∧ h ≤ 23 ∧ 0 ≤ mi ∧ mi ≤ 59 ∧ 0 ≤ s ∧ s ≤ 59 ∧ 0 ≤ wk ∧ wk ≤ 6 := by
  obtain ⟨⟨a1, a2, a3, a4, a5, a6, a7⟩, c2, c3, c4, c5⟩ := c
  have := dim_01 y m
  exact ⟨a1, a2, a3, a4, a5, by omega, by omega, by omega, by omega, by omega, by omega, by omega, by omega, by omega⟩

end Go.Proofs.YtcjnpklmfcbofaaDoor.Cal
