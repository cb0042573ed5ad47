/- The reference's four texts of a moment. -/
import Derived.Test.YthkkdbpblajahaaDoorD11
namespace Go.Proofs.YthkkdbpblajahaaDoor
open Go.RowKit

set_option maxRecDepth 100000 in
set_option maxHeartbeats 2000000 in
theorem refClock_any (y m d h mi s wk : Int) (w : World) (h0 : 0 ≤ h) (h1 : h ≤ 23) (i0 : 0 ≤ mi) (i1 : mi ≤ 59) (s0 : 0 ≤ s) (s1 : s ≤ 59) : Calls Tryd.prog 67 #[.agg #[.int .i64 y, .int .i64 m, .int .i64 d, .int .i64 h, .int .i64 mi, .int .i64 s, .int .i64 wk]] w fun e w' => e = .returned (.string (bs (clockL h mi s))) ∧ Below w.heap.size w w' := by
  have l1 := twoL_len h [48] h0 (by omega) (by decide)
  have l2 := twoL_len mi [48] i0 (by omega) (by decide)
  have l3 := twoL_len s [48] s0 (by omega) (by decide)
  obtain ⟨W1, hW1⟩ : ∃ W1, w.alloc (.cells (civA y m d h mi s wk) 27) = W1 := ⟨_, rfl⟩
  have hk : W1.heap[w.heap.size]? = some (.cells (civA y m d h mi s wk) 27 (0, 0)) := by rw [← hW1]; exact heap_new _ _
  have hB : Below w.heap.size w W1 := by rw [← hW1]; exact (Below.refl _ _).alloc (Nat.le_refl _) _
  obtain ⟨c0, c1, c2, c3, c4, c5, c6, _⟩ := civA_cells hk
  have g3 := fun g : Grow W1 => g.cell c3
  have g4 := fun g : Grow W1 => g.cell c4
  have g5 := fun g : Grow W1 => g.cell c5
  unfold civA at hW1
  have HW := Lib.hid hW1
  clear hk c0 c1 c2 c3 c4 c5 c6 hW1
  go_enter Tryd.func67, Tryd.ntmps67
  go_wp2
  rw [HW.out]
  refine wp_region_grow (by kernel_rfl) (by kernel_rfl) ?_
  repeat (go_big_quiet_step ((go_at_call 65; exact grow_call (digits_two _ _ (by omega) (by omega)))))
  refine wpQuiet_nil ?_
  rintro _ ⟨gw, rfl⟩
  go_wp2
  go_ret
  exact ⟨ret_str (by unfold clockL; simp only [← bs_append]), hB.trans (gw.h.mono hB.size)⟩

/-- what the print of digits gives, as a wall to unification -/
structure DF (n k p : Int) (r : ByteArray) : Prop where
  out : Pdigits.postbagref01_digits.f 10 n k p = some r
theorem digits_df {n k p : Int} {r : ByteArray} (w : World) (h : DF n k p r) : Calls Tryd.prog 65 #[.int .i64 n, .int .i64 k, .int .u8 p] w fun e w' => e = .returned (.string r) ∧ Below w.heap.size w w' :=
  Pdigits.postbagref01_digits.calls 10 n k p _ w h.out

theorem digits_hy (y : Int) (h0 : 1970 ≤ y) (h1 : y ≤ 2099) : Pdigits.postbagref01_digits.f 10 y 4 48 = some (bs (Lib.decDigits y.toNat)) := by
  have h := digits_eq4 (y.toNat - 1970) (by omega)
  rwa [show 1970 + (y.toNat - 1970) = y.toNat by omega, show ((y.toNat : Nat) : Int) = y by omega] at h
theorem digits_eq2_h (n : Int) (h0 : 0 ≤ n) (h1 : n < 100) : Pdigits.postbagref01_digits.f 10 n 2 48 = some (bs (twoL n [48])) := by
  have h := digits_eq2 n.toNat (by omega)
  rwa [show ((n.toNat : Nat) : Int) = n by omega] at h
theorem digits_eq2s_h (n : Int) (h0 : 0 ≤ n) (h1 : n < 100) : Pdigits.postbagref01_digits.f 10 n 2 32 = some (bs (twoL n [32])) := by
  have h := digits_eq2s n.toNat (by omega)
  rwa [show ((n.toNat : Nat) : Int) = n by omega] at h
theorem digits_eq1_h (n : Int) (h0 : 0 ≤ n) (h1 : n < 100) : Pdigits.postbagref01_digits.f 10 n 1 48 = some (bs (Lib.decDigits n.toNat)) := by
  have h := digits_eq1 n.toNat (by omega)
  rwa [show ((n.toNat : Nat) : Int) = n by omega] at h

/-- how the reference's text of a moment in range comes back -/
def mailRef (t : Int) (w : World) (e : Ending) (w' : World) : Prop := ∃ y m d h mi s wk, Cal.civ7 t y m d h mi s wk ∧ e = .returned (.string (bs (mailL y m d h mi s wk))) ∧ Below w.heap.size w w'

set_option maxRecDepth 100000 in
set_option maxHeartbeats 4000000 in
theorem mail_ref (t : Int) (w : World) (t0 : 0 ≤ t) (t1 : t ≤ 4102444799) : Calls Tryd.prog 29 #[.int .i64 t] w (mailRef t w) := by
  go_enter Tryd.func29, Tryd.ntmps29
  go_wp2_with fail
  refine (refCivil_in t _ t0 t1).mono ?_
  rintro e w1 ⟨y, m, d, h, mi, s, wk, hcv, rfl, hb1⟩
  obtain ⟨y0, y1, m0, m1, d0, d1, h0, h1, i0, i1, s0, s1, k0, k1⟩ := Cal.civ7_bd t0 hcv
  have l1 := weekL_len wk
  have l2 := twoL_len d [48] (by omega) (by omega) (by decide)
  have l6 := dec_len d.toNat (by omega)
  have l3 := monthL_len m
  have l4 := yearL_len y y0 y1
  have l5 := clockL_len h mi s h0 h1 i0 i1 s0 s1
  have hz1 := hb1.size
  obtain ⟨W1, hW1⟩ : ∃ W1, w1.alloc (.cells (civA y m d h mi s wk) 27) = W1 := ⟨_, rfl⟩
  have hk : W1.heap[w1.heap.size]? = some (.cells (civA y m d h mi s wk) 27 (0, 0)) := by rw [← hW1]; exact heap_new _ _
  have hB : Below w.heap.size w W1 := by rw [← hW1]; exact hb1.alloc hz1 _
  obtain ⟨c0, c1, c2, c3, c4, c5, c6, _⟩ := civA_cells hk
  have g0 := fun g : Grow W1 => g.cell c0
  have g1 := fun g : Grow W1 => g.cell c1
  have g2 := fun g : Grow W1 => g.cell c2
  have g3 := fun g : Grow W1 => g.cell c3
  have g4 := fun g : Grow W1 => g.cell c4
  have g5 := fun g : Grow W1 => g.cell c5
  have g6 := fun g : Grow W1 => g.cell c6
  unfold civA at hW1
  have HW := Lib.hid hW1
  have Hcv := Lib.hid hcv
  have Hy := DF.mk (digits_hy y y0 y1)
  have Hd := DF.mk (digits_eq2_h d (by omega) (by omega))
  clear hk c0 c1 c2 c3 c4 c5 c6 hW1 hcv hb1
  go_wp2
  rw [HW.out]
  refine wp_region_grow (by kernel_rfl) (by kernel_rfl) ?_
  repeat (go_big_quiet_step ((first | (go_at_call 64; exact grow_call (refWeek_any _ _ _ _ _ _ _ _ k0 k1)) | (go_at_call 66; exact grow_same (refMonth_any _ _ m0 m1)) | (go_at_call 67; exact grow_call (refClock_any _ _ _ _ _ _ _ _ h0 h1 i0 i1 s0 s1)) | (go_at_call 65; first | exact grow_call (digits_df _ Hy) | exact grow_call (digits_df _ Hd)))))
  refine wpQuiet_nil ?_
  rintro _ ⟨gw, rfl⟩
  go_wp2
  go_ret
  exact ⟨y, m, d, h, mi, s, wk, Hcv.out, ret_str (by unfold mailL; simp only [← bs_append]), hB.trans (gw.h.mono hB.size)⟩

theorem mail_refout (t : Int) (w : World) (h : t < 0 ∨ 4102444799 < t) : Calls Tryd.prog 29 #[.int .i64 t] w fun e w' => e = .returned (.string (bs [])) ∧ Below w.heap.size w w' := by
  go_enter Tryd.func29, Tryd.ntmps29
  go_wp2_with fail
  refine (refCivil_out t _ h).mono ?_
  rintro e w1 ⟨rfl, hb1⟩
  unfold civ0
  go_wp2
  go_ret
  exact ⟨rfl, hb1.alloc hb1.size _⟩

/-- how the reference's text of a moment in range comes back -/
def boxRef (t : Int) (w : World) (e : Ending) (w' : World) : Prop := ∃ y m d h mi s wk, Cal.civ7 t y m d h mi s wk ∧ e = .returned (.string (bs (boxL y m d h mi s wk))) ∧ Below w.heap.size w w'

set_option maxRecDepth 100000 in
set_option maxHeartbeats 4000000 in
theorem box_ref (t : Int) (w : World) (t0 : 0 ≤ t) (t1 : t ≤ 4102444799) : Calls Tryd.prog 31 #[.int .i64 t] w (boxRef t w) := by
  go_enter Tryd.func31, Tryd.ntmps31
  go_wp2_with fail
  refine (refCivil_in t _ t0 t1).mono ?_
  rintro e w1 ⟨y, m, d, h, mi, s, wk, hcv, rfl, hb1⟩
  obtain ⟨y0, y1, m0, m1, d0, d1, h0, h1, i0, i1, s0, s1, k0, k1⟩ := Cal.civ7_bd t0 hcv
  have l1 := weekL_len wk
  have l2 := twoL_len d [32] (by omega) (by omega) (by decide)
  have l6 := dec_len d.toNat (by omega)
  have l3 := monthL_len m
  have l4 := yearL_len y y0 y1
  have l5 := clockL_len h mi s h0 h1 i0 i1 s0 s1
  have hz1 := hb1.size
  obtain ⟨W1, hW1⟩ : ∃ W1, w1.alloc (.cells (civA y m d h mi s wk) 27) = W1 := ⟨_, rfl⟩
  have hk : W1.heap[w1.heap.size]? = some (.cells (civA y m d h mi s wk) 27 (0, 0)) := by rw [← hW1]; exact heap_new _ _
  have hB : Below w.heap.size w W1 := by rw [← hW1]; exact hb1.alloc hz1 _
  obtain ⟨c0, c1, c2, c3, c4, c5, c6, _⟩ := civA_cells hk
  have g0 := fun g : Grow W1 => g.cell c0
  have g1 := fun g : Grow W1 => g.cell c1
  have g2 := fun g : Grow W1 => g.cell c2
  have g3 := fun g : Grow W1 => g.cell c3
  have g4 := fun g : Grow W1 => g.cell c4
  have g5 := fun g : Grow W1 => g.cell c5
  have g6 := fun g : Grow W1 => g.cell c6
  unfold civA at hW1
  have HW := Lib.hid hW1
  have Hcv := Lib.hid hcv
  have Hy := DF.mk (digits_hy y y0 y1)
  have Hd := DF.mk (digits_eq2s_h d (by omega) (by omega))
  clear hk c0 c1 c2 c3 c4 c5 c6 hW1 hcv hb1
  go_wp2
  rw [HW.out]
  refine wp_region_grow (by kernel_rfl) (by kernel_rfl) ?_
  repeat (go_big_quiet_step ((first | (go_at_call 64; exact grow_call (refWeek_any _ _ _ _ _ _ _ _ k0 k1)) | (go_at_call 66; exact grow_same (refMonth_any _ _ m0 m1)) | (go_at_call 67; exact grow_call (refClock_any _ _ _ _ _ _ _ _ h0 h1 i0 i1 s0 s1)) | (go_at_call 65; first | exact grow_call (digits_df _ Hy) | exact grow_call (digits_df _ Hd)))))
  refine wpQuiet_nil ?_
  rintro _ ⟨gw, rfl⟩
  go_wp2
  go_ret
  exact ⟨y, m, d, h, mi, s, wk, Hcv.out, ret_str (by unfold boxL; simp only [← bs_append]), hB.trans (gw.h.mono hB.size)⟩

theorem box_refout (t : Int) (w : World) (h : t < 0 ∨ 4102444799 < t) : Calls Tryd.prog 31 #[.int .i64 t] w fun e w' => e = .returned (.string (bs [])) ∧ Below w.heap.size w w' := by
  go_enter Tryd.func31, Tryd.ntmps31
  go_wp2_with fail
  refine (refCivil_out t _ h).mono ?_
  rintro e w1 ⟨rfl, hb1⟩
  unfold civ0
  go_wp2
  go_ret
  exact ⟨rfl, hb1.alloc hb1.size _⟩

/-- how the reference's text of a moment in range comes back -/
def interRef (t : Int) (w : World) (e : Ending) (w' : World) : Prop := ∃ y m d h mi s wk, Cal.civ7 t y m d h mi s wk ∧ e = .returned (.string (bs (interL y m d h mi s))) ∧ Below w.heap.size w w'

set_option maxRecDepth 100000 in
set_option maxHeartbeats 4000000 in
theorem inter_ref (t : Int) (w : World) (t0 : 0 ≤ t) (t1 : t ≤ 4102444799) : Calls Tryd.prog 34 #[.int .i64 t] w (interRef t w) := by
  go_enter Tryd.func34, Tryd.ntmps34
  go_wp2_with fail
  refine (refCivil_in t _ t0 t1).mono ?_
  rintro e w1 ⟨y, m, d, h, mi, s, wk, hcv, rfl, hb1⟩
  obtain ⟨y0, y1, m0, m1, d0, d1, h0, h1, i0, i1, s0, s1, k0, k1⟩ := Cal.civ7_bd t0 hcv
  have l1 := weekL_len wk
  have l2 := twoL_len d [32] (by omega) (by omega) (by decide)
  have l6 := dec_len d.toNat (by omega)
  have l3 := monthL_len m
  have l4 := yearL_len y y0 y1
  have l5 := clockL_len h mi s h0 h1 i0 i1 s0 s1
  have hz1 := hb1.size
  obtain ⟨W1, hW1⟩ : ∃ W1, w1.alloc (.cells (civA y m d h mi s wk) 27) = W1 := ⟨_, rfl⟩
  have hk : W1.heap[w1.heap.size]? = some (.cells (civA y m d h mi s wk) 27 (0, 0)) := by rw [← hW1]; exact heap_new _ _
  have hB : Below w.heap.size w W1 := by rw [← hW1]; exact hb1.alloc hz1 _
  obtain ⟨c0, c1, c2, c3, c4, c5, c6, _⟩ := civA_cells hk
  have g0 := fun g : Grow W1 => g.cell c0
  have g1 := fun g : Grow W1 => g.cell c1
  have g2 := fun g : Grow W1 => g.cell c2
  have g3 := fun g : Grow W1 => g.cell c3
  have g4 := fun g : Grow W1 => g.cell c4
  have g5 := fun g : Grow W1 => g.cell c5
  have g6 := fun g : Grow W1 => g.cell c6
  unfold civA at hW1
  have HW := Lib.hid hW1
  have Hcv := Lib.hid hcv
  have Hy := DF.mk (digits_hy y y0 y1)
  have Hd := DF.mk (digits_eq2s_h d (by omega) (by omega))
  clear hk c0 c1 c2 c3 c4 c5 c6 hW1 hcv hb1
  go_wp2
  rw [HW.out]
  refine wp_region_grow (by kernel_rfl) (by kernel_rfl) ?_
  repeat (go_big_quiet_step ((first | (go_at_call 64; exact grow_call (refWeek_any _ _ _ _ _ _ _ _ k0 k1)) | (go_at_call 66; exact grow_same (refMonth_any _ _ m0 m1)) | (go_at_call 67; exact grow_call (refClock_any _ _ _ _ _ _ _ _ h0 h1 i0 i1 s0 s1)) | (go_at_call 65; first | exact grow_call (digits_df _ Hy) | exact grow_call (digits_df _ Hd)))))
  refine wpQuiet_nil ?_
  rintro _ ⟨gw, rfl⟩
  go_wp2
  go_ret
  exact ⟨y, m, d, h, mi, s, wk, Hcv.out, ret_str (by unfold interL; simp only [← bs_append]), hB.trans (gw.h.mono hB.size)⟩

theorem inter_refout (t : Int) (w : World) (h : t < 0 ∨ 4102444799 < t) : Calls Tryd.prog 34 #[.int .i64 t] w fun e w' => e = .returned (.string (bs [])) ∧ Below w.heap.size w w' := by
  go_enter Tryd.func34, Tryd.ntmps34
  go_wp2_with fail
  refine (refCivil_out t _ h).mono ?_
  rintro e w1 ⟨rfl, hb1⟩
  unfold civ0
  go_wp2
  go_ret
  exact ⟨rfl, hb1.alloc hb1.size _⟩

/-- how the reference's text of a moment in range comes back -/
def dayRef (t : Int) (w : World) (e : Ending) (w' : World) : Prop := ∃ y m d h mi s wk, Cal.civ7 t y m d h mi s wk ∧ e = .returned (.string (bs (dayL y m d))) ∧ Below w.heap.size w w'

set_option maxRecDepth 100000 in
set_option maxHeartbeats 4000000 in
theorem day_ref (t : Int) (w : World) (t0 : 0 ≤ t) (t1 : t ≤ 4102444799) : Calls Tryd.prog 35 #[.int .i64 t] w (dayRef t w) := by
  go_enter Tryd.func35, Tryd.ntmps35
  go_wp2_with fail
  refine (refCivil_in t _ t0 t1).mono ?_
  rintro e w1 ⟨y, m, d, h, mi, s, wk, hcv, rfl, hb1⟩
  obtain ⟨y0, y1, m0, m1, d0, d1, h0, h1, i0, i1, s0, s1, k0, k1⟩ := Cal.civ7_bd t0 hcv
  have l1 := weekL_len wk
  have l2 := twoL_len d [48] (by omega) (by omega) (by decide)
  have l6 := dec_len d.toNat (by omega)
  have l3 := monthL_len m
  have l4 := yearL_len y y0 y1
  have l5 := clockL_len h mi s h0 h1 i0 i1 s0 s1
  have hz1 := hb1.size
  obtain ⟨W1, hW1⟩ : ∃ W1, w1.alloc (.cells (civA y m d h mi s wk) 27) = W1 := ⟨_, rfl⟩
  have hk : W1.heap[w1.heap.size]? = some (.cells (civA y m d h mi s wk) 27 (0, 0)) := by rw [← hW1]; exact heap_new _ _
  have hB : Below w.heap.size w W1 := by rw [← hW1]; exact hb1.alloc hz1 _
  obtain ⟨c0, c1, c2, c3, c4, c5, c6, _⟩ := civA_cells hk
  have g0 := fun g : Grow W1 => g.cell c0
  have g1 := fun g : Grow W1 => g.cell c1
  have g2 := fun g : Grow W1 => g.cell c2
  have g3 := fun g : Grow W1 => g.cell c3
  have g4 := fun g : Grow W1 => g.cell c4
  have g5 := fun g : Grow W1 => g.cell c5
  have g6 := fun g : Grow W1 => g.cell c6
  unfold civA at hW1
  have HW := Lib.hid hW1
  have Hcv := Lib.hid hcv
  have Hy := DF.mk (digits_hy y y0 y1)
  have Hd := DF.mk (digits_eq1_h d (by omega) (by omega))
  clear hk c0 c1 c2 c3 c4 c5 c6 hW1 hcv hb1
  go_wp2
  rw [HW.out]
  refine wp_region_grow (by kernel_rfl) (by kernel_rfl) ?_
  repeat (go_big_quiet_step ((first | (go_at_call 64; exact grow_call (refWeek_any _ _ _ _ _ _ _ _ k0 k1)) | (go_at_call 66; exact grow_same (refMonth_any _ _ m0 m1)) | (go_at_call 67; exact grow_call (refClock_any _ _ _ _ _ _ _ _ h0 h1 i0 i1 s0 s1)) | (go_at_call 65; first | exact grow_call (digits_df _ Hy) | exact grow_call (digits_df _ Hd)))))
  refine wpQuiet_nil ?_
  rintro _ ⟨gw, rfl⟩
  go_wp2
  go_ret
  exact ⟨y, m, d, h, mi, s, wk, Hcv.out, ret_str (by unfold dayL; simp only [← bs_append]), hB.trans (gw.h.mono hB.size)⟩

theorem day_refout (t : Int) (w : World) (h : t < 0 ∨ 4102444799 < t) : Calls Tryd.prog 35 #[.int .i64 t] w fun e w' => e = .returned (.string (bs [])) ∧ Below w.heap.size w w' := by
  go_enter Tryd.func35, Tryd.ntmps35
  go_wp2_with fail
  refine (refCivil_out t _ h).mono ?_
  rintro e w1 ⟨rfl, hb1⟩
  unfold civ0
  go_wp2
  go_ret
  exact ⟨rfl, hb1.alloc hb1.size _⟩

end Go.Proofs.YthkkdbpblajahaaDoor
