/- The dates' texts: two, month, week, clock. -/
import Derived.Test.YtcjnpklmfcbofaaDoorS
import Derived.Test.YtcjnpklmfcbofaaDoorShelf
import Derived.Lib.ItoaNum
import Derived.Test.YtcjnpklmfcbofaaDoorD4
set_option linter.unusedVariables false
set_option linter.unusedSimpArgs false
namespace Go.Proofs.YtcjnpklmfcbofaaDoor
open Go.RowKit

def wkNames : List UInt8 := [83, 117, 110, 77, 111, 110, 84, 117, 101, 87, 101, 100, 84, 104, 117, 70, 114, 105, 83, 97, 116]
def moNames : List UInt8 := [74, 97, 110, 70, 101, 98, 77, 97, 114, 65, 112, 114, 77, 97, 121, 74, 117, 110, 74, 117, 108, 65, 117, 103, 83, 101, 112, 79, 99, 116, 78, 111, 118, 68, 101, 99]

/-- a day's name, a month's name -/
def weekL (wk : Int) : List UInt8 := (wkNames.drop (3 * wk.toNat)).take 3
def monthL (m : Int) : List UInt8 := (moNames.drop (3 * m.toNat - 3)).take 3
/-- a number in two places -/
def twoL (n : Int) (a : List UInt8) : List UInt8 := if n < 10 then a ++ Lib.decDigits n.toNat else Lib.decDigits n.toNat
def clockL (h mi s : Int) : List UInt8 := twoL h [48] ++ [58] ++ twoL mi [48] ++ [58] ++ twoL s [48]

theorem dec_len : ∀ n : Nat, n < 100 → (Lib.decDigits n).length ≤ 2 := by decide +kernel
theorem twoL_len (n : Int) (a : List UInt8) (h0 : 0 ≤ n) (h1 : n < 100) (ha : a.length ≤ 1) : (twoL n a).length ≤ 3 := by
  have := dec_len n.toNat (by omega)
  unfold twoL
  split
  · simp; omega
  · omega
theorem weekL_len (wk : Int) : (weekL wk).length ≤ 3 := by unfold weekL; rw [List.length_take]; omega
theorem monthL_len (m : Int) : (monthL m).length ≤ 3 := by unfold monthL; rw [List.length_take]; omega

theorem ret_str {a b : ByteArray} (h : a = b) : Ending.returned (.string a) = .returned (.string b) := by rw [h]

theorem itoa_two (n : Int) (w : World) (h0 : 0 ≤ n) (h1 : n < 100) : Calls Tryd.prog 36 #[.int .i64 n] w fun e w' => e = .returned (.string (bs (Lib.decDigits n.toNat))) ∧ w' = w := by
  have := Tryd.strconv_Itoa_small n.toNat (by omega) w
  rw [show ((n.toNat : Nat) : Int) = n by omega] at this
  exact this

theorem two_any (n : Int) (a : List UInt8) (w : World) (h0 : 0 ≤ n) (h1 : n < 100) (ha : a.length ≤ 1) : Calls Tryd.prog 34 #[.int .i64 n, .string (bs a)] w fun e w' => e = .returned (.string (bs (twoL n a))) ∧ w' = w := by
  have hd := dec_len n.toNat (by omega)
  by_cases h : n < 10
  · have ht : Hid (twoL n a = a ++ Lib.decDigits n.toNat) := if_pos h
    go_enter Tryd.func34, Tryd.ntmps34
    go_wp2_with (go_at_call 36; refine (itoa_two n _ h0 h1).mono ?_; rintro e w' ⟨rfl, rfl⟩)
    go_ret
    exact ⟨ret_str (by rw [ht.out, ← bs_append]), rfl⟩
  · have ht : Hid (twoL n a = Lib.decDigits n.toNat) := if_neg h
    go_enter Tryd.func34, Tryd.ntmps34
    go_wp2_with (go_at_call 36; refine (itoa_two n _ h0 h1).mono ?_; rintro e w' ⟨rfl, rfl⟩)
    go_ret
    exact ⟨ret_str (by rw [ht.out]), rfl⟩

theorem week_any (y m d h mi s wk : Int) (w : World) (h0 : 0 ≤ wk) (h1 : wk ≤ 6) : Calls Tryd.prog 32 #[.agg #[.int .i64 y, .int .i64 m, .int .i64 d, .int .i64 h, .int .i64 mi, .int .i64 s, .int .i64 wk]] w fun e w' => e = .returned (.string (bs (weekL wk))) ∧ Below w.heap.size w w' := by
  obtain ⟨k, rfl⟩ : ∃ k : Nat, wk = k := ⟨wk.toNat, by omega⟩
  rcases (by omega : k = 0 ∨ k = 1 ∨ k = 2 ∨ k = 3 ∨ k = 4 ∨ k = 5 ∨ k = 6) with rfl | rfl | rfl | rfl | rfl | rfl | rfl
  all_goals
    go_enter Tryd.func32, Tryd.ntmps32
    go_wp2
    go_ret
    exact ⟨rfl, (Below.refl _ _).alloc (Nat.le_refl _) _⟩

theorem month_any (y m d h mi s wk : Int) (w : World) (h0 : 1 ≤ m) (h1 : m ≤ 12) : Calls Tryd.prog 33 #[.agg #[.int .i64 y, .int .i64 m, .int .i64 d, .int .i64 h, .int .i64 mi, .int .i64 s, .int .i64 wk]] w fun e w' => e = .returned (.string (bs (monthL m))) ∧ Below w.heap.size w w' := by
  rcases (by omega : m = 1 ∨ m = 2 ∨ m = 3 ∨ m = 4 ∨ m = 5 ∨ m = 6 ∨ m = 7 ∨ m = 8 ∨ m = 9 ∨ m = 10 ∨ m = 11 ∨ m = 12) with rfl | rfl | rfl | rfl | rfl | rfl | rfl | rfl | rfl | rfl | rfl | rfl
  all_goals
    go_enter Tryd.func33, Tryd.ntmps33
    go_wp2
    go_ret
    exact ⟨rfl, (Below.refl _ _).alloc (Nat.le_refl _) _⟩

set_option maxHeartbeats 1000000 in
theorem clock_any (y m d h mi s wk : Int) (w : World) (h0 : 0 ≤ h) (h1 : h ≤ 23) (i0 : 0 ≤ mi) (i1 : mi ≤ 59) (s0 : 0 ≤ s) (s1 : s ≤ 59) : Calls Tryd.prog 35 #[.agg #[.int .i64 y, .int .i64 m, .int .i64 d, .int .i64 h, .int .i64 mi, .int .i64 s, .int .i64 wk]] w fun e w' => e = .returned (.string (bs (clockL h mi s))) ∧ Below w.heap.size w w' := by
  have l1 := twoL_len h [48] h0 (by omega) (by decide)
  have l2 := twoL_len mi [48] i0 (by omega) (by decide)
  have l3 := twoL_len s [48] s0 (by omega) (by decide)
  go_enter Tryd.func35, Tryd.ntmps35
  go_wp2
  go_quiet ((first | (go_at_call 34; refine Calls.quiet_of_same (two_any _ [48] _ ?_ ?_ ?_) <;> first | omega | decide)))
  go_wp2
  go_outline
  go_ret
  exact ⟨ret_str (by unfold clockL; simp only [← bs_append]), below_drewN ((Below.refl _ _).alloc (Nat.le_refl _) _) _⟩

end Go.Proofs.YtcjnpklmfcbofaaDoor
