/- The law DatesCivil: its walk. -/
import Derived.Test.YthkkdbpblajahaaDoorD7
import Derived.Test.YthkkdbpblajahaaDoorEl
namespace Go.Proofs.YthkkdbpblajahaaDoor
open Go.RowKit

theorem blk_lt {w : World} {B : Nat} {o : Obj} (h : w.heap[B]? = some o) : B < w.heap.size := by
  rcases Nat.lt_or_ge B w.heap.size with h1 | h1
  · exact h1
  · rw [Array.getElem?_eq_none h1] at h; cases h
theorem blk_later {w w' : World} {B : Nat} {o : Obj} (h : w.heap[B]? = some o) (hb : Below w.heap.size w w') : w'.heap[B]? = some o := (hb.block _ (blk_lt h)).trans h

set_option maxRecDepth 100000 in
set_option maxHeartbeats 8000000 in
theorem datesCivil_in (t y m d h mi s wk : Int) (w : World) (a : Nat → Addr) (hE : Errs w a) (h0 : 0 ≤ t) (h1 : t ≤ 4102444799) :
    Calls Tryd.prog 5 #[.int .i64 t, .agg #[.int .i64 y, .int .i64 m, .int .i64 d, .int .i64 h, .int .i64 mi, .int .i64 s, .int .i64 wk]] w fun e w' => e = .returned (.bool true) ∧ Below w.heap.size w w' := by
  obtain ⟨W0, hW0⟩ : ∃ W0, w.alloc (.cells (civA y m d h mi s wk) 27) = W0 := ⟨_, rfl⟩
  have hk : W0.heap[w.heap.size]? = some (.cells (civA y m d h mi s wk) 27 (0, 0)) := by rw [← hW0]; exact heap_new _ _
  have hB0 : Below w.heap.size w W0 := by rw [← hW0]; exact (Below.refl _ _).alloc (Nat.le_refl _) _
  have hz0 : w.heap.size < W0.heap.size := by rw [← hW0]; simp
  unfold civA at hW0
  have HW := Lib.hid hW0
  have Hk := Lib.hid hk
  clear hW0 hk
  go_enter Tryd.func5, Tryd.ntmps5
  go_wp2_with fail
  rw [HW.out]
  refine (alive_any _).mono ?_
  rintro e w1 ⟨rfl, hb1⟩
  have hz1 := hb1.size
  go_wp2_with fail
  refine (civil_in t _ h0 h1).mono ?_
  rintro e w2 ⟨ya, ma, da, ha, mia, sa, wka, ca, rfl, rfl⟩
  go_wp2_with fail
  refine (refCivil_in t _ h0 h1).mono ?_
  rintro e w3 ⟨yb, mb, db, hhb, mib, sb, wkb, cb, rfl, hb3⟩
  obtain ⟨rfl, rfl, rfl⟩ := Cal.civ_one ca.1 cb.1 rfl
  obtain ⟨rfl, rfl, rfl, rfl⟩ : hhb = ha ∧ mib = mia ∧ sb = sa ∧ wkb = wka := ⟨cb.2.1.trans ca.2.1.symm, cb.2.2.1.trans ca.2.2.1.symm, cb.2.2.2.1.trans ca.2.2.2.1.symm, cb.2.2.2.2.trans ca.2.2.2.2.symm⟩
  have hz3 := hb3.size
  simp only [World.size_alloc] at hz3
  have hx : Hid (w3.heap[w1.heap.size + 1 + 1]? = some (.cells (civA yb mb db hhb mib sb wkb) 27 (0, 0))) := by
    refine (hb3.block _ (by simp)).trans ?_
    have := heap_new ((w1.alloc (.cells (civA yb mb db hhb mib sb wkb) 27)).alloc (.cells (civA yb mb db hhb mib sb wkb) 27)) (.cells (civA yb mb db hhb mib sb wkb) 27)
    rw [size_alloc, size_alloc] at this
    exact this
  have hk3 : Hid (w3.heap[w.heap.size]? = some (.cells (civA y m d h mi s wk) 27 (0, 0))) := by
    refine (hb3.block _ (by simp; omega)).trans ?_
    rw [heap_old _ _ _ (by simp; omega), heap_old _ _ _ (by simp; omega), heap_old _ _ _ (by omega)]
    exact (hb1.block _ (by omega)).trans Hk.out
  have hA := fun o => civA_cells ((heap_old w3 o _ (by omega)).trans hx.out)
  have x0 := fun o => (hA o).1
  have x1 := fun o => (hA o).2.1
  have x2 := fun o => (hA o).2.2.1
  have x3 := fun o => (hA o).2.2.2.1
  have x4 := fun o => (hA o).2.2.2.2.1
  have x5 := fun o => (hA o).2.2.2.2.2.1
  have x6 := fun o => (hA o).2.2.2.2.2.2.1
  have hC := fun o => civA_cells ((heap_old w3 o _ (by omega)).trans hk3.out)
  have y0 := fun o => (hC o).1
  have y1 := fun o => (hC o).2.1
  have y2 := fun o => (hC o).2.2.1
  have y3 := fun o => (hC o).2.2.2.1
  have y4 := fun o => (hC o).2.2.2.2.1
  have y5 := fun o => (hC o).2.2.2.2.2.1
  have y6 := fun o => (hC o).2.2.2.2.2.2.1
  have HB3 := Lib.hid hb3
  have HB1 := Lib.hid hb1
  clear hA hC hb3 hb1
  go_wp2_with fail
  clear x0 x1 x2 x3 x4 x5 x6 y0 y1 y2 y3 y4 y5 y6 hx
  have hB4 : Below w.heap.size w (w3.alloc (.cells (civA yb mb db hhb mib sb wkb) 27)) := by
    refine Below.alloc ?_ (by omega) _
    refine Below.trans ?_ (HB3.out.mono (by simp; omega))
    refine Below.alloc ?_ (by simp; omega) _
    refine Below.alloc ?_ (by simp; omega) _
    refine Below.alloc ?_ (by omega) _
    exact hB0.trans (HB1.out.mono (by omega))
  have hk4 := (heap_old w3 (.cells (civA yb mb db hhb mib sb wkb) 27) _ (by omega)).trans hk3.out
  unfold civA at hB4
  obtain ⟨W4, hW4⟩ : ∃ W4, w3.alloc (.cells (civA yb mb db hhb mib sb wkb) 27) = W4 := ⟨_, rfl⟩
  rw [hW4] at hk4
  unfold civA at hW4
  rw [hW4] at hB4 ⊢
  have hz4 := hB4.size
  clear hW4 hk3
  by_cases hr : Cal.right y m d h mi s
  · refine (moment_good y m d h mi s wk _ hr).mono ?_
    rintro e w5 ⟨rfl, hb5⟩
    have hk5 := blk_later hk4 hb5
    have hB5 := Lib.hid (hB4.trans (hb5.mono hz4))
    clear hk4 hb5 hB4
    have H5 := Lib.hid hk5
    obtain ⟨c0, c1, c2, c3, c4, c5, c6, _⟩ := civA_cells hk5
    clear hk5
    go_wp2_with fail
    refine (right_yes y m d h mi s wk _ hr).mono ?_
    rintro e w6 ⟨rfl, hb6⟩
    have hk6 := blk_later H5.out hb6
    have hB6 := Lib.hid (hB5.out.trans (hb6.mono hB5.out.size))
    clear hb6 c0 c1 c2 c3 c4 c5 c6
    obtain ⟨c0, c1, c2, c3, c4, c5, c6, _⟩ := civA_cells hk6
    clear hk6
    go_wp2_with fail
    refine (refMoment_in y m d h mi s wk _ hr).mono ?_
    rintro e w7 ⟨rfl, hb7⟩
    go_wp2
    go_ret
    exact ⟨by simp, hB6.out.trans (hb7.mono hB6.out.size)⟩
  · have hE4 := hE.below (hB4.mono (Nat.le_refl _))
    refine (moment_bad y m d h mi s wk _ (errV (a 0)) (hE4.cell 0 (by decide)) hr).mono ?_
    rintro e w5 ⟨rfl, hb5⟩
    have hk5 := blk_later hk4 hb5
    have hE5 := hE4.below hb5
    have hB5 := Lib.hid (hB4.trans (hb5.mono hz4))
    clear hk4 hb5 hB4
    have H5 := Lib.hid hk5
    obtain ⟨c0, c1, c2, c3, c4, c5, c6, _⟩ := civA_cells hk5
    clear hk5
    go_wp2_with fail
    refine (right_no y m d h mi s wk _ hr).mono ?_
    rintro e w6 ⟨rfl, hb6⟩
    have hE6 := hE5.below hb6
    have hB6 := Lib.hid (hB5.out.trans (hb6.mono hB5.out.size))
    clear hb6 c0 c1 c2 c3 c4 c5 c6
    go_wp2_with fail
    refine (num_err _ a 0 (by decide) hE6).mono ?_
    rintro e w7 ⟨rfl, hb7⟩
    go_wp2
    go_ret
    exact ⟨by simp, hB6.out.trans (hb7.mono hB6.out.size)⟩

set_option maxRecDepth 100000 in
set_option maxHeartbeats 8000000 in
theorem datesCivil_out (t y m d h mi s wk : Int) (w : World) (a : Nat → Addr) (hE : Errs w a) (ht : t < 0 ∨ 4102444799 < t) :
    Calls Tryd.prog 5 #[.int .i64 t, .agg #[.int .i64 y, .int .i64 m, .int .i64 d, .int .i64 h, .int .i64 mi, .int .i64 s, .int .i64 wk]] w fun e w' => e = .returned (.bool true) ∧ Below w.heap.size w w' := by
  obtain ⟨W0, hW0⟩ : ∃ W0, w.alloc (.cells (civA y m d h mi s wk) 27) = W0 := ⟨_, rfl⟩
  have hk : W0.heap[w.heap.size]? = some (.cells (civA y m d h mi s wk) 27 (0, 0)) := by rw [← hW0]; exact heap_new _ _
  have hB0 : Below w.heap.size w W0 := by rw [← hW0]; exact (Below.refl _ _).alloc (Nat.le_refl _) _
  have hz0 : w.heap.size < W0.heap.size := by rw [← hW0]; simp
  unfold civA at hW0
  have HW := Lib.hid hW0
  have Hk := Lib.hid hk
  clear hW0 hk
  go_enter Tryd.func5, Tryd.ntmps5
  go_wp2_with fail
  rw [HW.out]
  refine (alive_any _).mono ?_
  rintro e w1 ⟨rfl, hb1⟩
  have hz1 := hb1.size
  have hE1 := hE.below (hB0.trans (hb1.mono (by omega)))
  have hk1 := Lib.hid (blk_later Hk.out hb1)
  go_wp2_with fail
  refine (civil_out t _ (errV (a 0)) ht (hE1.cell 0 (by decide))).mono ?_
  rintro e w2 ⟨rfl, hb2⟩
  unfold errV civ0
  have hz2 := hb2.size
  have hE2 := hE1.below hb2
  have hk2 := Lib.hid (blk_later hk1.out hb2)
  go_wp2_with fail
  refine (refCivil_out t _ ht).mono ?_
  rintro e w3 ⟨rfl, hb3⟩
  unfold civ0
  have hz3 := hb3.size
  simp only [World.size_alloc] at hz3
  have hb3' : Below w2.heap.size w2 w3 := ((Below.refl _ w2).alloc (Nat.le_refl _) _).trans (hb3.mono (by simp))
  have hE3 := hE2.below hb3'
  have hk3 := Lib.hid (blk_later hk2.out hb3')
  have hx : Hid (w3.heap[w2.heap.size]? = some (.cells (civA 0 0 0 0 0 0 0) 27 (0, 0))) := (hb3.block _ (by simp)).trans (heap_new _ _)
  have hA := fun o => civA_cells ((heap_old w3 o _ (by omega)).trans hx.out)
  have x0 := fun o => (hA o).1
  have x1 := fun o => (hA o).2.1
  have x2 := fun o => (hA o).2.2.1
  have x3 := fun o => (hA o).2.2.2.1
  have x4 := fun o => (hA o).2.2.2.2.1
  have x5 := fun o => (hA o).2.2.2.2.2.1
  have x6 := fun o => (hA o).2.2.2.2.2.2.1
  have HB3 := Lib.hid (hB0.trans ((hb1.mono (by omega)).trans ((hb2.mono (by omega)).trans (hb3'.mono (by omega)))))
  clear hA hb3 hb1 hb2 hb3'
  go_wp2_with fail
  clear x0 x1 x2 x3 x4 x5 x6 hx
  have hB3 : Below w.heap.size w (w3.alloc (.cells (civA 0 0 0 0 0 0 0) 27)) := HB3.out.alloc (by omega) _
  have hk4 := (heap_old w3 (.cells (civA 0 0 0 0 0 0 0) 27) _ (by omega)).trans hk3.out
  obtain ⟨W4, hW4⟩ : ∃ W4, w3.alloc (.cells (civA 0 0 0 0 0 0 0) 27) = W4 := ⟨_, rfl⟩
  rw [hW4] at hk4 hB3
  unfold civA at hW4
  rw [hW4]
  clear hW4 hk3
  have hEx := hE.below hB3
  refine (num_err _ a 0 (by decide) hEx).mono ?_
  rintro e wn ⟨rfl, hbn⟩
  have hzn := hbn.size
  have hB4 := hB3.trans (hbn.mono hB3.size)
  have hk4 := blk_later hk4 hbn
  have hz4 := hB4.size
  have Hk4 := Lib.hid hk4
  obtain ⟨c0, c1, c2, c3, c4, c5, c6, _⟩ := civA_cells hk4
  clear hk4 hB3 hbn
  go_wp2_with fail
  have hk4 := Hk4.out
  clear c0 c1 c2 c3 c4 c5 c6
  by_cases hr : Cal.right y m d h mi s
  · refine (moment_good y m d h mi s wk _ hr).mono ?_
    rintro e w5 ⟨rfl, hb5⟩
    have hk5 := blk_later hk4 hb5
    have hB5 := Lib.hid (hB4.trans (hb5.mono hz4))
    clear hk4 hb5 hB4
    have H5 := Lib.hid hk5
    obtain ⟨c0, c1, c2, c3, c4, c5, c6, _⟩ := civA_cells hk5
    clear hk5
    go_wp2_with fail
    refine (right_yes y m d h mi s wk _ hr).mono ?_
    rintro e w6 ⟨rfl, hb6⟩
    have hk6 := blk_later H5.out hb6
    have hB6 := Lib.hid (hB5.out.trans (hb6.mono hB5.out.size))
    clear hb6 c0 c1 c2 c3 c4 c5 c6
    obtain ⟨c0, c1, c2, c3, c4, c5, c6, _⟩ := civA_cells hk6
    clear hk6
    go_wp2_with fail
    refine (refMoment_in y m d h mi s wk _ hr).mono ?_
    rintro e w7 ⟨rfl, hb7⟩
    go_wp2
    go_ret
    exact ⟨by simp, hB6.out.trans (hb7.mono hB6.out.size)⟩
  · have hE4 := hE.below (hB4.mono (Nat.le_refl _))
    refine (moment_bad y m d h mi s wk _ (errV (a 0)) (hE4.cell 0 (by decide)) hr).mono ?_
    rintro e w5 ⟨rfl, hb5⟩
    have hk5 := blk_later hk4 hb5
    have hE5 := hE4.below hb5
    have hB5 := Lib.hid (hB4.trans (hb5.mono hz4))
    clear hk4 hb5 hB4
    have H5 := Lib.hid hk5
    obtain ⟨c0, c1, c2, c3, c4, c5, c6, _⟩ := civA_cells hk5
    clear hk5
    go_wp2_with fail
    refine (right_no y m d h mi s wk _ hr).mono ?_
    rintro e w6 ⟨rfl, hb6⟩
    have hE6 := hE5.below hb6
    have hB6 := Lib.hid (hB5.out.trans (hb6.mono hB5.out.size))
    clear hb6 c0 c1 c2 c3 c4 c5 c6
    go_wp2_with fail
    refine (num_err _ a 0 (by decide) hE6).mono ?_
    rintro e w7 ⟨rfl, hb7⟩
    go_wp2
    go_ret
    exact ⟨by simp, hB6.out.trans (hb7.mono hB6.out.size)⟩

theorem datesCivil_any (t y m d h mi s wk : Int) (w : World) (a : Nat → Addr) (hE : Errs w a) :
    Calls Tryd.prog 5 #[.int .i64 t, .agg #[.int .i64 y, .int .i64 m, .int .i64 d, .int .i64 h, .int .i64 mi, .int .i64 s, .int .i64 wk]] w fun e w' => e = .returned (.bool true) ∧ Below w.heap.size w w' := by
  by_cases ht : 0 ≤ t ∧ t ≤ 4102444799
  · exact datesCivil_in t y m d h mi s wk w a hE ht.1 ht.2
  · exact datesCivil_out t y m d h mi s wk w a hE (by omega)

end Go.Proofs.YthkkdbpblajahaaDoor
