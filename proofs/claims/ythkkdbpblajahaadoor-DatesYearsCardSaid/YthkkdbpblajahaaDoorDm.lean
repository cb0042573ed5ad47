/- Plain calendar facts for the dates package: no program in sight. -/
namespace Go.Proofs.YthkkdbpblajahaaDoor.Cal

/-- years of 366 days -/
def lp (y : Int) : Bool := (y.tmod 4 == 0 && y.tmod 100 != 0) || y.tmod 400 == 0

/-- days of a month; 0: none -/
def dim (y m : Int) : Int :=
  if m = 2 then (if lp y = true then 29 else 28)
  else if m = 4 ∨ m = 6 ∨ m = 9 ∨ m = 11 then 30
  else if m = 1 ∨ m = 3 ∨ m = 5 ∨ m = 7 ∨ m = 8 ∨ m = 10 ∨ m = 12 then 31 else 0

/-- days ahead of a year, since 1970 (right up to 2100) -/
def dby (y : Int) : Int := 365 * (y - 1970) + (y - 1969) / 4

/-- days of a year's months ahead of a month -/
def cum (y m : Int) : Int :=
  if m = 1 then 0 else if m = 2 then 31 else
  (if lp y = true then 1 else 0) +
  (if m = 3 then 59 else if m = 4 then 90 else if m = 5 then 120 else if m = 6 then 151 else if m = 7 then 181 else if m = 8 then 212 else if m = 9 then 243 else if m = 10 then 273 else if m = 11 then 304 else if m = 12 then 334 else 365)

theorem lp_iff (y : Int) (h0 : 1970 ≤ y) (h1 : y ≤ 2099) : lp y = true ↔ y % 4 = 0 := by
  unfold lp
  rw [Int.tmod_eq_emod_of_nonneg (by omega), Int.tmod_eq_emod_of_nonneg (by omega), Int.tmod_eq_emod_of_nonneg (by omega)]
  simp only [Bool.or_eq_true, Bool.and_eq_true, beq_iff_eq, bne_iff_ne]
  omega

theorem dby_0 : dby 1970 = 0 := by decide

theorem dby_succ (y : Int) (h0 : 1970 ≤ y) (h1 : y ≤ 2099) : dby (y + 1) = dby y + 365 + (if lp y = true then 1 else 0) := by
  have h := lp_iff y h0 h1
  unfold dby
  by_cases c : lp y = true
  · have := h.1 c; rw [if_pos c]; omega
  · have : ¬ y % 4 = 0 := fun e => c (h.2 e)
    rw [if_neg c]; omega

theorem dim_01 (y m : Int) : 0 ≤ dim y m ∧ dim y m ≤ 31 := by
  unfold dim
  split
  · split <;> omega
  · split
    · omega
    · split <;> omega

theorem dim_lo (y m : Int) (h1 : 1 ≤ m) (h2 : m ≤ 12) : 28 ≤ dim y m := by
  unfold dim
  split
  · split <;> omega
  · split
    · omega
    · split <;> omega

theorem dim_out (y m : Int) (h : m < 1 ∨ 12 < m) : dim y m = 0 := by
  unfold dim
  rw [if_neg (by omega), if_neg (by omega), if_neg (by omega)]

theorem cum_succ (y m : Int) (h1 : 1 ≤ m) (h2 : m ≤ 12) : cum y (m + 1) = cum y m + dim y m := by
  rcases (by omega : m = 1 ∨ m = 2 ∨ m = 3 ∨ m = 4 ∨ m = 5 ∨ m = 6 ∨ m = 7 ∨ m = 8 ∨ m = 9 ∨ m = 10 ∨ m = 11 ∨ m = 12) with rfl | rfl | rfl | rfl | rfl | rfl | rfl | rfl | rfl | rfl | rfl | rfl <;>
    (by_cases c : lp y = true <;> simp [cum, dim, c])

theorem cum_1 (y : Int) : cum y 1 = 0 := by simp [cum]

theorem cum_13 (y : Int) : cum y 13 = 365 + (if lp y = true then 1 else 0) := by
  simp [cum]; omega

/-- the number of a day since 1970's first -/
def dnum (y m d : Int) : Int := dby y + cum y m + d - 1

theorem cum_bd (y m : Int) (h1 : 1 ≤ m) (h2 : m ≤ 13) : 0 ≤ cum y m ∧ cum y m ≤ 366 := by
  rcases (by omega : m = 1 ∨ m = 2 ∨ m = 3 ∨ m = 4 ∨ m = 5 ∨ m = 6 ∨ m = 7 ∨ m = 8 ∨ m = 9 ∨ m = 10 ∨ m = 11 ∨ m = 12 ∨ m = 13) with rfl | rfl | rfl | rfl | rfl | rfl | rfl | rfl | rfl | rfl | rfl | rfl | rfl <;>
    (by_cases c : lp y = true <;> simp [cum, c])

theorem dby_bd (y : Int) (h0 : 1970 ≤ y) (h1 : y ≤ 2100) : 0 ≤ dby y ∧ dby y ≤ 47482 := by
  unfold dby; omega

end Go.Proofs.YthkkdbpblajahaaDoor.Cal
