/- The reference's texts of a date. (digits: by the print of postbagref01.digits.) -/
import Derived.Test.YthkkdbpblajahaaDoorD10
import Derived.Test.YthkkdbpblajahaaDoorPdigitsx1
namespace Go.Proofs.YthkkdbpblajahaaDoor
open Go.RowKit

theorem digits_eq2 : ∀ n : Nat, n < 100 → Pdigits.postbagref01_digits.f 10 (n : Int) 2 48 = some (bs (twoL n [48])) := by decide +kernel
theorem digits_eq2s : ∀ n : Nat, n < 100 → Pdigits.postbagref01_digits.f 10 (n : Int) 2 32 = some (bs (twoL n [32])) := by decide +kernel
theorem digits_eq1 : ∀ n : Nat, n < 100 → Pdigits.postbagref01_digits.f 10 (n : Int) 1 48 = some (bs (Lib.decDigits n)) := by decide +kernel
theorem digits_eq4 : ∀ n : Nat, n < 130 → Pdigits.postbagref01_digits.f 10 ((1970 + n : Nat) : Int) 4 48 = some (bs (Lib.decDigits (1970 + n))) := by decide +kernel

theorem digits_two (n : Int) (w : World) (h0 : 0 ≤ n) (h1 : n < 100) : Calls Tryd.prog 65 #[.int .i64 n, .int .i64 2, .int .u8 48] w fun e w' => e = .returned (.string (bs (twoL n [48]))) ∧ Below w.heap.size w w' := by
  have h := digits_eq2 n.toNat (by omega)
  rw [show ((n.toNat : Nat) : Int) = n by omega] at h
  exact Pdigits.postbagref01_digits.calls 10 n 2 48 _ w h
theorem digits_twos (n : Int) (w : World) (h0 : 0 ≤ n) (h1 : n < 100) : Calls Tryd.prog 65 #[.int .i64 n, .int .i64 2, .int .u8 32] w fun e w' => e = .returned (.string (bs (twoL n [32]))) ∧ Below w.heap.size w w' := by
  have h := digits_eq2s n.toNat (by omega)
  rw [show ((n.toNat : Nat) : Int) = n by omega] at h
  exact Pdigits.postbagref01_digits.calls 10 n 2 32 _ w h
theorem digits_one (n : Int) (w : World) (h0 : 0 ≤ n) (h1 : n < 100) : Calls Tryd.prog 65 #[.int .i64 n, .int .i64 1, .int .u8 48] w fun e w' => e = .returned (.string (bs (Lib.decDigits n.toNat))) ∧ Below w.heap.size w w' := by
  have h := digits_eq1 n.toNat (by omega)
  rw [show ((n.toNat : Nat) : Int) = n by omega] at h
  exact Pdigits.postbagref01_digits.calls 10 n 1 48 _ w h
theorem digits_year (y : Int) (w : World) (h0 : 1970 ≤ y) (h1 : y ≤ 2099) : Calls Tryd.prog 65 #[.int .i64 y, .int .i64 4, .int .u8 48] w fun e w' => e = .returned (.string (bs (Lib.decDigits y.toNat))) ∧ Below w.heap.size w w' := by
  have h := digits_eq4 (y.toNat - 1970) (by omega)
  rw [show 1970 + (y.toNat - 1970) = y.toNat by omega, show ((y.toNat : Nat) : Int) = y by omega] at h
  exact Pdigits.postbagref01_digits.calls 10 y 4 48 _ w h

theorem refWeek_any (y m d h mi s wk : Int) (w : World) (h0 : 0 ≤ wk) (h1 : wk ≤ 6) : Calls Tryd.prog 64 #[.agg #[.int .i64 y, .int .i64 m, .int .i64 d, .int .i64 h, .int .i64 mi, .int .i64 s, .int .i64 wk]] w fun e w' => e = .returned (.string (bs (weekL wk))) ∧ Below w.heap.size w w' := by
  obtain ⟨k, rfl⟩ : ∃ k : Nat, wk = k := ⟨wk.toNat, by omega⟩
  rcases (by omega : k = 0 ∨ k = 1 ∨ k = 2 ∨ k = 3 ∨ k = 4 ∨ k = 5 ∨ k = 6) with rfl | rfl | rfl | rfl | rfl | rfl | rfl
  all_goals
    go_enter Tryd.func64, Tryd.ntmps64
    go_wp2
    go_ret
    exact ⟨rfl, (Below.refl _ _).alloc (Nat.le_refl _) _⟩

theorem refMonth_any (m : Int) (w : World) (h0 : 1 ≤ m) (h1 : m ≤ 12) : Calls Tryd.prog 66 #[.int .i64 m] w fun e w' => e = .returned (.string (bs (monthL m))) ∧ w' = w := by
  rcases (by omega : m = 1 ∨ m = 2 ∨ m = 3 ∨ m = 4 ∨ m = 5 ∨ m = 6 ∨ m = 7 ∨ m = 8 ∨ m = 9 ∨ m = 10 ∨ m = 11 ∨ m = 12) with rfl | rfl | rfl | rfl | rfl | rfl | rfl | rfl | rfl | rfl | rfl | rfl
  all_goals
    go_enter Tryd.func66, Tryd.ntmps66
    go_wp2
    go_ret
    exact ⟨rfl, rfl⟩

end Go.Proofs.YthkkdbpblajahaaDoor
