/- The reader's Expect and Stretch; the law's example. -/
import Derived.Test.YtglopeijohdobaaDoorL1
import Derived.Test.YtglopeijohdobaaDoorEr
import Derived.Lib.SlBytesConst
set_option linter.unusedVariables false
set_option linter.unusedSimpArgs false
namespace Go.Proofs.YtglopeijohdobaaDoor
open Go.RowKit

theorem expect_range (w : World) (b : Nat) (n : Int) (v : Value) (hc : w.cell? ⟨0, 0, none⟩ = some v) (hn : n < 1 ∨ 100000 < n) :
    Calls Tryd.prog 16 #[.pointer (some ⟨b, 0, none⟩), .int .i64 n] w fun e w' => e = .returned v ∧ w = w' := by
  rcases hn with h | h
  · go_enter Tryd.func16, Tryd.ntmps16
    go_wp2
    go_ret
    exact ⟨rfl, rfl⟩
  · have d0 : decide (n < 1) = false := by simp; omega
    go_enter Tryd.func16, Tryd.ntmps16
    go_wp2
    go_ret
    exact ⟨rfl, rfl⟩

theorem expect_state (w : World) (b : Nat) (h : List UInt8) (k n : Int) (v : Value) (hk : RdAt w b h k) (hc : w.cell? ⟨8, 0, none⟩ = some v) (h1 : 1 ≤ n) (h2 : n ≤ 100000) (h0 : 0 < k) :
    Calls Tryd.prog 16 #[.pointer (some ⟨b, 0, none⟩), .int .i64 n] w fun e w' => e = .returned v ∧ w = w' := by
  obtain ⟨c0, c1, f0, f1⟩ := rd_cells hk
  have d0 : decide (n < 1) = false := by simp; omega
  have d1 : decide (100000 < n) = false := by simp; omega
  clear hk
  go_enter Tryd.func16, Tryd.ntmps16
  go_wp2
  go_ret
  exact ⟨rfl, rfl⟩

theorem expect_ok (w : World) (b : Nat) (h : List UInt8) (k n : Int) (hk : RdAt w b h k) (h1 : 1 ≤ n) (h2 : n ≤ 100000) (h0 : k ≤ 0) :
    Calls Tryd.prog 16 #[.pointer (some ⟨b, 0, none⟩), .int .i64 n] w fun e w' => e = .returned .nilIface ∧ RdAt w' b h n ∧ Upd b w w' := by
  obtain ⟨c0, c1, f0, f1⟩ := rd_cells hk
  have d0 : decide (n < 1) = false := by simp; omega
  have d1 : decide (100000 < n) = false := by simp; omega
  have d2 : decide (0 < k) = false := by simp; omega
  go_enter Tryd.func16, Tryd.ntmps16
  go_wp2
  go_ret
  exact ⟨rfl, rd_set1 hk _, (Upd.refl b w).setCell 1 _⟩

theorem stretch_no (w : World) (b : Nat) (h : List UInt8) (k : Int) (hk : RdAt w b h k) (hs : k = 0 ∨ (h.length : Int) < k) (hl : h.length ≤ 140737488355328) :
    Calls Tryd.prog 18 #[.pointer (some ⟨b, 0, none⟩)] w fun e w' => e = .returned (.tuple #[.string (bs []), .bool false]) ∧ Below w.heap.size w w' := by
  obtain ⟨c0, c1, f0, f1⟩ := rd_cells hk
  clear hk
  rcases (by omega : k = 0 ∨ (k ≠ 0 ∧ (h.length : Int) < k)) with rfl | ⟨hk0, hlt⟩
  · go_enter Tryd.func18, Tryd.ntmps18
    go_wp2
    go_quiet (fail)
    go_wp2
    go_ret2
    exact ⟨rfl, below_drewN (Below.refl _ _) _⟩
  · have d0 : (k == 0) = false := beq_eq_false_iff_ne.2 hk0
    have d1 : decide ((h.length : Int) < k) = true := decide_eq_true hlt
    clear hk0
    go_enter Tryd.func18, Tryd.ntmps18
    go_wp2
    go_quiet (fail)
    go_wp2
    go_ret2
    exact ⟨rfl, below_drewN (Below.refl _ _) _⟩

set_option maxRecDepth 100000 in
theorem stretch_yes (w : World) (b : Nat) (h : List UInt8) (n : Nat) (hk : RdAt w b h n) (h0 : 0 < n) (hn : n ≤ h.length) (hl : h.length ≤ 140737488355328) :
    Calls Tryd.prog 18 #[.pointer (some ⟨b, 0, none⟩)] w fun e w' => e = .returned (.tuple #[.string (bs (h.take n)), .bool true]) ∧ RdAt w' b (h.drop n) 0 ∧ Upd b w w' := by
  obtain ⟨c0, c1, f0, f1⟩ := rd_cells hk
  have d0 : ((n : Int) == 0) = false := beq_eq_false_iff_ne.2 (by omega)
  have d1 : decide ((h.length : Int) < (n : Int)) = false := by simp; omega
  have d2 : decide (h.length < n) = false := by simp; omega
  have HL := Lib.hid hl
  go_enter Tryd.func18, Tryd.ntmps18
  go_wp2
  go_quiet (fail)
  go_wp2_with fail
  refine (take_any _ b h n n ?_ hn HL.out).mono ?_
  · exact hk
  rintro e w1 ⟨rfl, hk1, hu⟩
  obtain ⟨d0, d1, g0, g1⟩ := rd_cells hk1
  go_wp2
  go_ret2
  exact ⟨rfl, rd_set1 hk1 _, ((((Upd.refl b w).drewN _).trans hu).setCell 1 _)⟩

end Go.Proofs.YtglopeijohdobaaDoor
