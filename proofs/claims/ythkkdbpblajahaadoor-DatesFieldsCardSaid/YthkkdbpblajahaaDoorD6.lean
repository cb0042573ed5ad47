/- The reference's Right and Moment. -/
import Derived.Test.YthkkdbpblajahaaDoorD5
import Derived.Deep.RegionHeld3
set_option linter.unusedVariables false
set_option linter.unusedSimpArgs false
namespace Go.Proofs.YthkkdbpblajahaaDoor
open Go.RowKit

set_option maxRecDepth 100000 in
set_option maxHeartbeats 4000000 in
theorem right_yes (y m d h mi s wk : Int) (w : World) (hr : Cal.right y m d h mi s) :
    Calls Tryd.prog 22 #[.agg #[.int .i64 y, .int .i64 m, .int .i64 d, .int .i64 h, .int .i64 mi, .int .i64 s, .int .i64 wk]] w fun e w' => e = .returned (.bool true) ∧ Below w.heap.size w w' := by
  obtain ⟨⟨y0, y1⟩, ⟨m0, m1⟩, ⟨e0, e1⟩, ⟨h0, h1⟩, ⟨i0, i1⟩, ⟨s0, s1⟩⟩ := hr
  have hd := Cal.dim_01 y m
  obtain ⟨W1, hW1⟩ : ∃ W1, w.alloc (.cells (civA y m d h mi s wk) 27) = W1 := ⟨_, rfl⟩
  have hk : W1.heap[w.heap.size]? = some (.cells (civA y m d h mi s wk) 27 (0, 0)) := by rw [← hW1]; exact heap_new _ _
  have hB : Below w.heap.size w W1 := by rw [← hW1]; exact (Below.refl _ _).alloc (Nat.le_refl _) _
  obtain ⟨c0, c1, c2, c3, c4, c5, c6, _⟩ := civA_cells hk
  have g0 := fun g : Grow W1 => g.cell c0
  have g1 := fun g : Grow W1 => g.cell c1
  have g2 := fun g : Grow W1 => g.cell c2
  have g3 := fun g : Grow W1 => g.cell c3
  have g4 := fun g : Grow W1 => g.cell c4
  have g5 := fun g : Grow W1 => g.cell c5
  unfold civA at hW1
  have HW := Lib.hid hW1
  clear hk c0 c1 c2 c3 c4 c5 c6 hW1
  go_enter Tryd.func22, Tryd.ntmps22
  go_wp2
  rw [HW.out]
  refine wp_region_grow (by kernel_rfl) (by kernel_rfl) ?_
  repeat (go_big_quiet_step ((go_at_call 17; exact grow_call (refDays_any _ _ _))))
  refine wpQuiet_nil ?_
  rintro _ ⟨gw, rfl⟩
  go_wp2
  go_ret
  exact ⟨rfl, hB.trans (gw.h.mono hB.size)⟩

set_option maxRecDepth 100000 in
set_option maxHeartbeats 8000000 in
theorem right_no (y m d h mi s wk : Int) (w : World) (hr : ¬ Cal.right y m d h mi s) :
    Calls Tryd.prog 22 #[.agg #[.int .i64 y, .int .i64 m, .int .i64 d, .int .i64 h, .int .i64 mi, .int .i64 s, .int .i64 wk]] w fun e w' => e = .returned (.bool false) ∧ Below w.heap.size w w' := by
  have hcase : ¬ (1970 ≤ y) ∨ (1970 ≤ y) ∧ (¬ (y ≤ 2099) ∨ (y ≤ 2099) ∧ (¬ (1 ≤ d) ∨ (1 ≤ d) ∧ (¬ (d ≤ Cal.dim y m) ∨ (d ≤ Cal.dim y m) ∧ (¬ (0 ≤ h) ∨ (0 ≤ h) ∧ (¬ (h ≤ 23) ∨ (h ≤ 23) ∧ (¬ (0 ≤ mi) ∨ (0 ≤ mi) ∧ (¬ (mi ≤ 59) ∨ (mi ≤ 59) ∧ (¬ (0 ≤ s) ∨ (0 ≤ s) ∧ (¬ (s ≤ 59)))))))))) := by
    have ho := Cal.dim_out y m
    unfold Cal.right at hr
    by_cases hm : 1 ≤ m ∧ m ≤ 12
    · omega
    · have := ho (by omega); omega
  clear hr
  have hd := Cal.dim_01 y m
  obtain ⟨W1, hW1⟩ : ∃ W1, w.alloc (.cells (civA y m d h mi s wk) 27) = W1 := ⟨_, rfl⟩
  have hk : W1.heap[w.heap.size]? = some (.cells (civA y m d h mi s wk) 27 (0, 0)) := by rw [← hW1]; exact heap_new _ _
  have hB : Below w.heap.size w W1 := by rw [← hW1]; exact (Below.refl _ _).alloc (Nat.le_refl _) _
  obtain ⟨c0, c1, c2, c3, c4, c5, c6, _⟩ := civA_cells hk
  have g0 := fun g : Grow W1 => g.cell c0
  have g1 := fun g : Grow W1 => g.cell c1
  have g2 := fun g : Grow W1 => g.cell c2
  have g3 := fun g : Grow W1 => g.cell c3
  have g4 := fun g : Grow W1 => g.cell c4
  have g5 := fun g : Grow W1 => g.cell c5
  unfold civA at hW1
  have HW := Lib.hid hW1
  clear hk c0 c1 c2 c3 c4 c5 c6 hW1
  rcases hcase with g | ⟨k0, (g | ⟨k1, (g | ⟨k2, (g | ⟨k3, (g | ⟨k4, (g | ⟨k5, (g | ⟨k6, (g | ⟨k7, (g | ⟨k8, g⟩)⟩)⟩)⟩)⟩)⟩)⟩)⟩)⟩
  · have n1 : decide (1970 ≤ y) = false := decide_eq_false g
    clear g
    go_enter Tryd.func22, Tryd.ntmps22
    go_wp2
    rw [HW.out]
    refine wp_region_grow (by kernel_rfl) (by kernel_rfl) ?_
    repeat (go_big_quiet_step ((go_at_call 17; exact grow_call (refDays_any _ _ _))))
    refine wpQuiet_nil ?_
    rintro _ ⟨gw, rfl⟩
    go_wp2
    go_ret
    exact ⟨rfl, hB.trans (gw.h.mono hB.size)⟩
  · have n1 : decide (y ≤ 2099) = false := decide_eq_false g
    clear g
    go_enter Tryd.func22, Tryd.ntmps22
    go_wp2
    rw [HW.out]
    refine wp_region_grow (by kernel_rfl) (by kernel_rfl) ?_
    repeat (go_big_quiet_step ((go_at_call 17; exact grow_call (refDays_any _ _ _))))
    refine wpQuiet_nil ?_
    rintro _ ⟨gw, rfl⟩
    go_wp2
    go_ret
    exact ⟨rfl, hB.trans (gw.h.mono hB.size)⟩
  · have n1 : decide (1 ≤ d) = false := decide_eq_false g
    clear g
    go_enter Tryd.func22, Tryd.ntmps22
    go_wp2
    rw [HW.out]
    refine wp_region_grow (by kernel_rfl) (by kernel_rfl) ?_
    repeat (go_big_quiet_step ((go_at_call 17; exact grow_call (refDays_any _ _ _))))
    refine wpQuiet_nil ?_
    rintro _ ⟨gw, rfl⟩
    go_wp2
    go_ret
    exact ⟨rfl, hB.trans (gw.h.mono hB.size)⟩
  · have n1 : decide (d ≤ Cal.dim y m) = false := decide_eq_false g
    clear g
    go_enter Tryd.func22, Tryd.ntmps22
    go_wp2
    rw [HW.out]
    refine wp_region_grow (by kernel_rfl) (by kernel_rfl) ?_
    repeat (go_big_quiet_step ((go_at_call 17; exact grow_call (refDays_any _ _ _))))
    refine wpQuiet_nil ?_
    rintro _ ⟨gw, rfl⟩
    go_wp2
    go_ret
    exact ⟨rfl, hB.trans (gw.h.mono hB.size)⟩
  · have n1 : decide (0 ≤ h) = false := decide_eq_false g
    clear g
    go_enter Tryd.func22, Tryd.ntmps22
    go_wp2
    rw [HW.out]
    refine wp_region_grow (by kernel_rfl) (by kernel_rfl) ?_
    repeat (go_big_quiet_step ((go_at_call 17; exact grow_call (refDays_any _ _ _))))
    refine wpQuiet_nil ?_
    rintro _ ⟨gw, rfl⟩
    go_wp2
    go_ret
    exact ⟨rfl, hB.trans (gw.h.mono hB.size)⟩
  · have n1 : decide (h ≤ 23) = false := decide_eq_false g
    clear g
    go_enter Tryd.func22, Tryd.ntmps22
    go_wp2
    rw [HW.out]
    refine wp_region_grow (by kernel_rfl) (by kernel_rfl) ?_
    repeat (go_big_quiet_step ((go_at_call 17; exact grow_call (refDays_any _ _ _))))
    refine wpQuiet_nil ?_
    rintro _ ⟨gw, rfl⟩
    go_wp2
    go_ret
    exact ⟨rfl, hB.trans (gw.h.mono hB.size)⟩
  · have n1 : decide (0 ≤ mi) = false := decide_eq_false g
    clear g
    go_enter Tryd.func22, Tryd.ntmps22
    go_wp2
    rw [HW.out]
    refine wp_region_grow (by kernel_rfl) (by kernel_rfl) ?_
    repeat (go_big_quiet_step ((go_at_call 17; exact grow_call (refDays_any _ _ _))))
    refine wpQuiet_nil ?_
    rintro _ ⟨gw, rfl⟩
    go_wp2
    go_ret
    exact ⟨rfl, hB.trans (gw.h.mono hB.size)⟩
  · have n1 : decide (mi ≤ 59) = false := decide_eq_false g
    clear g
    go_enter Tryd.func22, Tryd.ntmps22
    go_wp2
    rw [HW.out]
    refine wp_region_grow (by kernel_rfl) (by kernel_rfl) ?_
    repeat (go_big_quiet_step ((go_at_call 17; exact grow_call (refDays_any _ _ _))))
    refine wpQuiet_nil ?_
    rintro _ ⟨gw, rfl⟩
    go_wp2
    go_ret
    exact ⟨rfl, hB.trans (gw.h.mono hB.size)⟩
  · have n1 : decide (0 ≤ s) = false := decide_eq_false g
    clear g
    go_enter Tryd.func22, Tryd.ntmps22
    go_wp2
    rw [HW.out]
    refine wp_region_grow (by kernel_rfl) (by kernel_rfl) ?_
    repeat (go_big_quiet_step ((go_at_call 17; exact grow_call (refDays_any _ _ _))))
    refine wpQuiet_nil ?_
    rintro _ ⟨gw, rfl⟩
    go_wp2
    go_ret
    exact ⟨rfl, hB.trans (gw.h.mono hB.size)⟩
  · have n1 : decide (s ≤ 59) = false := decide_eq_false g
    clear g
    go_enter Tryd.func22, Tryd.ntmps22
    go_wp2
    rw [HW.out]
    refine wp_region_grow (by kernel_rfl) (by kernel_rfl) ?_
    repeat (go_big_quiet_step ((go_at_call 17; exact grow_call (refDays_any _ _ _))))
    refine wpQuiet_nil ?_
    rintro _ ⟨gw, rfl⟩
    go_wp2
    go_ret
    exact ⟨rfl, hB.trans (gw.h.mono hB.size)⟩

end Go.Proofs.YthkkdbpblajahaaDoor
