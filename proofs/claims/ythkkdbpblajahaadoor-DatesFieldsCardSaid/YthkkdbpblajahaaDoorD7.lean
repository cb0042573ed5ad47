/- The reference's Moment, and the law DatesCivil. -/
import Derived.Test.YthkkdbpblajahaaDoorD6
import Derived.Test.YthkkdbpblajahaaDoorEr
set_option linter.unusedVariables false
set_option linter.unusedSimpArgs false
namespace Go.Proofs.YthkkdbpblajahaaDoor
open Go.RowKit

set_option maxRecDepth 100000 in
set_option maxHeartbeats 4000000 in
theorem refMoment_in (y m d h mi s wk : Int) (w : World) (hr : Cal.right y m d h mi s) :
    Calls Tryd.prog 23 #[.agg #[.int .i64 y, .int .i64 m, .int .i64 d, .int .i64 h, .int .i64 mi, .int .i64 s, .int .i64 wk]] w fun e w' => e = .returned (.int .i64 (Cal.mom y m d h mi s)) ∧ Below w.heap.size w w' := by
  obtain ⟨⟨y0, y1⟩, ⟨m0, m1⟩, ⟨e0, e1⟩, ⟨h0, h1⟩, ⟨i0, i1⟩, ⟨s0, s1⟩⟩ := hr
  have hd := Cal.dim_01 y m
  have hb := Cal.dby_bd y y0 (by omega)
  go_enter Tryd.func23, Tryd.ntmps23
  go_wp2
  go_quiet ((go_at_call 39; exact Calls.quiet_of_same (before_in _ _ (by omega) (by omega))))
  go_wp2
  go_loopw [3, 4] (fun n k wr => ∃ j : Int, 1 ≤ j ∧ j ≤ m ∧ n = .int .i64 (Cal.dby y + d - 1 + Cal.cum y j) ∧ k = .int .i64 j ∧ wr.heap[w.heap.size]? = some (.cells (civA y m d h mi s wk) 27 (0, 0)) ∧ Below w.heap.size w wr ∧ w.heap.size < wr.heap.size) (fun _ k _ => (m - intOf k).toNat)
  case atStart => exact ⟨1, by omega, m0, by rw [Cal.cum_1]; simp, rfl, heap_new _ _, below_drewN ((Below.refl _ _).alloc (Nat.le_refl _) _) _, by simp⟩
  case round =>
    obtain ⟨j, hj0, hj1, rfl, rfl, hk, hbw, hsz⟩ := hrel
    have hc := Cal.cum_bd y j hj0 (by omega)
    have hdj := Cal.dim_01 y j
    have H := Lib.hid hk
    obtain ⟨c0, c1, c2, c3, c4, c5, c6, _⟩ := civA_cells hk
    clear hk
    by_cases hjm : j < m
    · have hs := Lib.hid (Cal.cum_succ y j hj0 (by omega))
      go_wp2_with fail
      refine (refDays_any _ _ _).mono ?_
      rintro e w1 ⟨rfl, hb1⟩
      have hz1 := hb1.size
      go_wp2
      go_roundw
      case rel => exact ⟨j + 1, by omega, by omega, by rw [hs.out]; go_num, by go_num, (hb1.block _ (by omega)).trans H.out, hbw.trans (hb1.mono (by omega)), by omega⟩
      case measure => simp [intOf]; omega
    · obtain rfl : j = m := by omega
      go_wp2
      go_ret
      exact ⟨ret_int (by unfold Cal.mom Cal.dnum; omega), hbw⟩

end Go.Proofs.YthkkdbpblajahaaDoor
