/- The reference's date functions: before, Civil. -/
import Derived.Test.YthkkdbpblajahaaDoorD2
import Derived.Deep.RegionWith
import Derived.Deep.LoopGhost
set_option linter.unusedVariables false
set_option linter.unusedSimpArgs false
namespace Go.Proofs.YthkkdbpblajahaaDoor
open Go.RowKit

theorem Cal.dby_lo (y : Int) (h : 1970 ≤ y) (h2 : y ≤ 100000) : 0 ≤ Cal.dby y ∧ Cal.dby y ≤ 40000000 := by unfold Cal.dby; omega

set_option maxHeartbeats 1000000 in
theorem before_in (y : Int) (w : World) (h0 : 1970 ≤ y) (h1 : y ≤ 2100) : Calls Tryd.prog 39 #[.int .i64 y] w fun e w' => e = .returned (.int .i64 (Cal.dby y)) ∧ w' = w := by
  go_enter Tryd.func39, Tryd.ntmps39
  go_wp2
  go_loop [3, 4] (fun n k => ∃ z : Int, 1970 ≤ z ∧ z ≤ y ∧ n = .int .i64 (Cal.dby z) ∧ k = .int .i64 z) (fun _ k => (y - intOf k).toNat)
  case atStart => exact ⟨1970, by omega, h0, by rw [Cal.dby_0], rfl⟩
  case round =>
    obtain ⟨z, hz0, hz1, rfl, rfl⟩ := hrel
    have hb := Cal.dby_bd z hz0 (by omega)
    by_cases hlt : z < y
    · have hs := Lib.hid (Cal.dby_succ z hz0 (by omega))
      by_cases hl : Cal.lp z = true
      · have H := Lib.hid hl
        clear hl
        go_wp2_with (go_at_call 15; refine (refLeap_yes z _ H).mono ?_; rintro e w' ⟨rfl, rfl⟩)
        go_round
        case rel => exact ⟨z + 1, by omega, by omega, by rw [hs.out, if_pos H.out], by go_num⟩
        case measure => simp [intOf]; omega
      · have H := Lib.hid hl
        clear hl
        go_wp2_with (go_at_call 15; refine (refLeap_no z _ H).mono ?_; rintro e w' ⟨rfl, rfl⟩)
        go_round
        case rel => exact ⟨z + 1, by omega, by omega, by rw [hs.out, if_neg H.out]; simp, by go_num⟩
        case measure => simp [intOf]; omega
    · obtain rfl : z = y := by omega
      go_wp2
      go_ret
      exact ⟨rfl, rfl⟩

/-- behind a callee that makes blocks: a block of seven ints of ours lies as it lay -/
theorem blk_cell {w : World} {B : Nat} {cs : Array Value} {t : TypeId} (h : w.heap[B]? = some (.cells cs t (0, 0))) (i : Nat) : w.cell? ⟨B, i, none⟩ = cs[i]? := by
  simp [World.cell?, h]
theorem blk_free {w : World} {B : Nat} {cs : Array Value} {t : TypeId} (h : w.heap[B]? = some (.cells cs t (0, 0))) (i : Nat) : w.frozen? ⟨B, i, none⟩ = false := by
  simp [World.frozen?, h]
theorem blk_set {w : World} {B : Nat} {cs : Array Value} {t : TypeId} (h : w.heap[B]? = some (.cells cs t (0, 0))) (i : Nat) (v : Value) : (w.setCell ⟨B, i, none⟩ v).heap[B]? = some (.cells (cs.setIfInBounds i v) t (0, 0)) := by
  simp [World.setCell, Array.getElem?_modify, h]

/-- the cells of a date under way -/
def civA (y m d h mi s wk : Int) : Array Value := #[.int .i64 y, .int .i64 m, .int .i64 d, .int .i64 h, .int .i64 mi, .int .i64 s, .int .i64 wk]

theorem civA_cells {w : World} {B : Nat} {y m d h mi s wk : Int} {t : TypeId} (hk : w.heap[B]? = some (.cells (civA y m d h mi s wk) t (0, 0))) :
    w.cell? ⟨B, 0, none⟩ = some (.int .i64 y) ∧ w.cell? ⟨B, 1, none⟩ = some (.int .i64 m) ∧ w.cell? ⟨B, 2, none⟩ = some (.int .i64 d) ∧ w.cell? ⟨B, 3, none⟩ = some (.int .i64 h) ∧ w.cell? ⟨B, 4, none⟩ = some (.int .i64 mi) ∧ w.cell? ⟨B, 5, none⟩ = some (.int .i64 s) ∧ w.cell? ⟨B, 6, none⟩ = some (.int .i64 wk) ∧
    w.frozen? ⟨B, 0, none⟩ = false ∧ w.frozen? ⟨B, 1, none⟩ = false ∧ w.frozen? ⟨B, 2, none⟩ = false ∧ w.frozen? ⟨B, 3, none⟩ = false ∧ w.frozen? ⟨B, 4, none⟩ = false ∧ w.frozen? ⟨B, 5, none⟩ = false ∧ w.frozen? ⟨B, 6, none⟩ = false :=
  ⟨blk_cell hk 0, blk_cell hk 1, blk_cell hk 2, blk_cell hk 3, blk_cell hk 4, blk_cell hk 5, blk_cell hk 6, blk_free hk 0, blk_free hk 1, blk_free hk 2, blk_free hk 3, blk_free hk 4, blk_free hk 5, blk_free hk 6⟩

/-- how a moment in range comes back from the reference -/
def CivR (t : Int) (w : World) (e : Ending) (w' : World) : Prop := ∃ y m d h mi s wk : Int, Cal.civ7 t y m d h mi s wk ∧ e = .returned (.tuple #[.agg #[.int .i64 y, .int .i64 m, .int .i64 d, .int .i64 h, .int .i64 mi, .int .i64 s, .int .i64 wk], .bool true]) ∧ Below w.heap.size w w'

set_option maxRecDepth 100000 in
set_option maxHeartbeats 2000000 in
theorem refCivil_in (t : Int) (w : World) (h0 : 0 ≤ t) (h1 : t ≤ 4102444799) : Calls Tryd.prog 19 #[.int .i64 t] w (CivR t w) := by
  have hT0 : 0 ≤ t / 86400 := by omega
  have hT1 : t / 86400 ≤ 47481 := by omega
  have d0 : decide (t < 0) = false := by simp; omega
  have d1 : decide (4102444799 < t) = false := by simp; omega
  go_enter Tryd.func19, Tryd.ntmps19
  go_wp2
  go_loopg [21] 200 (fun kq _ wr => ∃ y : Int, 1970 ≤ y ∧ y ≤ 2099 ∧ Cal.dby y ≤ t / 86400 ∧ (2099 - y).toNat ≤ kq ∧ wr = (w.alloc (.cells (civA 0 0 0 0 0 0 0) 27)).alloc (.cells (civA y 1 0 0 0 0 ((t / 86400 + 4) % 7)) 27))
  case atStart => exact ⟨1970, by omega, by omega, by rw [Cal.dby_0]; omega, by omega, rfl⟩
  case round =>
    obtain ⟨y, hy0, hy1, hy2, hq, rfl⟩ := hrel
    have hb := Cal.dby_bd y hy0 (by omega)
    have hb1 := Cal.dby_bd (y + 1) (by omega) (by omega)
    unfold civA
    by_cases hn : Cal.dby (y + 1) ≤ t / 86400
    · have hy3 : y + 1 ≤ 2099 := by
        rcases (by omega : y + 1 ≤ 2099 ∨ y = 2099) with h | h
        · exact h
        · subst h
          have : Cal.dby (2099 + 1) = 47482 := by decide
          omega
      cases gk with
      | zero => omega
      | succ k1 =>
        go_wp2_with (go_at_call 39; refine (before_in _ _ (by omega) (by omega)).mono ?_; rintro e w' ⟨rfl, rfl⟩)
        go_roundg k1
        case measure => omega
        case rel => exact ⟨y + 1, by omega, by omega, hn, by omega, rfl⟩
    · have hsuc := Lib.hid (Cal.dby_succ y hy0 hy1)
      go_wp2_with (go_at_call 39; refine (before_in _ _ (by omega) (by omega)).mono ?_; rintro e w' ⟨rfl, rfl⟩)
      go_loopw [4] (fun v wr => ∃ m : Int, 1 ≤ m ∧ m ≤ 12 ∧ 0 ≤ t / 86400 - Cal.dby y - Cal.cum y m ∧ v = .int .i64 (t / 86400 - Cal.dby y - Cal.cum y m) ∧ wr.heap[w.heap.size]? = some (.cells (civA 0 0 0 0 0 0 0) 27 (0, 0)) ∧ wr.heap[w.heap.size + 1]? = some (.cells (civA y m 0 0 0 0 ((t / 86400 + 4) % 7)) 27 (0, 0)) ∧ Below w.heap.size w wr ∧ w.heap.size + 1 < wr.heap.size) (fun v _ => (intOf v).toNat)
      case atStart => exact ⟨1, by omega, by omega, by rw [Cal.cum_1]; omega, by rw [Cal.cum_1]; simp, (heap_old _ _ _ (by simp)).trans (heap_new _ _), (by have := heap_new (w.alloc (.cells (civA 0 0 0 0 0 0 0) 27)) (.cells (civA y 1 0 0 0 0 ((t / 86400 + 4) % 7)) 27); rw [size_alloc] at this; exact this), ((Below.refl _ _).alloc (Nat.le_refl _) _).alloc (by simp) _, by simp⟩
      case round =>
        obtain ⟨m, hm0, hm1, hr, rfl, hk0, hk1, hbw, hsz⟩ := hrel
        have hc := Cal.cum_bd y m hm0 (by omega)
        have hd0 := Cal.dim_lo y m hm0 hm1
        have hd1 := Cal.dim_01 y m
        have hcs := Lib.hid (Cal.cum_succ y m hm0 hm1)
        have hc13 := Lib.hid (Cal.cum_13 y)
        have H0 := Lib.hid hk0
        have H1 := Lib.hid hk1
        obtain ⟨c0, c1, c2, c3, c4, c5, c6, f0, f1, f2, f3, f4, f5, f6⟩ := civA_cells hk1
        clear hk0 hk1
        by_cases hge : Cal.dim y m ≤ t / 86400 - Cal.dby y - Cal.cum y m
        · have h12 : m < 12 := by
            rcases (by omega : m < 12 ∨ m = 12) with h | h
            · exact h
            · subst h
              have a := hcs.out
              have b := hsuc.out
              have c := hc13.out
              have a' : Cal.cum y 13 = Cal.cum y 12 + Cal.dim y 12 := a
              omega
          go_wp2_with fail
          refine (refDays_any _ _ _).mono ?_
          rintro e w1 ⟨rfl, hb1⟩
          have hz1 := hb1.size
          have K0 := Lib.hid ((hb1.block _ (by omega)).trans H0.out)
          have K1 := Lib.hid ((hb1.block _ (by omega)).trans H1.out)
          obtain ⟨c0, c1, c2, c3, c4, c5, c6, f0, f1, f2, f3, f4, f5, f6⟩ := civA_cells K1.out
          go_wp2_with fail
          refine (refDays_any _ _ _).mono ?_
          rintro e w2 ⟨rfl, hb2⟩
          have hz2 := hb2.size
          have L0 := Lib.hid ((hb2.block _ (by omega)).trans K0.out)
          have L1 := Lib.hid ((hb2.block _ (by omega)).trans K1.out)
          obtain ⟨c0, c1, c2, c3, c4, c5, c6, f0, f1, f2, f3, f4, f5, f6⟩ := civA_cells L1.out
          go_wp2
          go_roundw
          case rel => exact ⟨m + 1, by omega, by omega, by rw [hcs.out]; omega, by rw [hcs.out]; go_num, (Below.heap_setCell _ _ _ _ (by simp)).trans L0.out, blk_set L1.out 1 _, ((hbw.trans (hb1.mono (by omega))).trans (hb2.mono (by omega))).setCell (by simp) _, by simp [World.setCell]; omega⟩
          case measure => simp [intOf]; omega
        · go_wp2_with fail
          refine (refDays_any _ _ _).mono ?_
          rintro e w1 ⟨rfl, hb1⟩
          have hz1 := hb1.size
          have K0 := Lib.hid ((hb1.block _ (by omega)).trans H0.out)
          have K1 := Lib.hid ((hb1.block _ (by omega)).trans H1.out)
          obtain ⟨c0, c1, c2, c3, c4, c5, c6, f0, f1, f2, f3, f4, f5, f6⟩ := civA_cells K1.out
          obtain ⟨r0, r1, r2, r3, r4, r5, r6, g0, g1, g2, g3, g4, g5, g6⟩ := civA_cells K0.out
          go_wp2
          refine bodyPost_ret (v := .tuple #[.agg #[.int .i64 y, .int .i64 m, .int .i64 (t / 86400 - Cal.dby y - Cal.cum y m + 1), .int .i64 (t % 86400 / 3600), .int .i64 (t % 86400 % 3600 / 60), .int .i64 (t % 60), .int .i64 ((t / 86400 + 4) % 7)], .bool true]) (by simp [results, Tryd.results19, go_sem, r0, r1, r2, r3, r4, r5, r6, g0, g1, g2, g3, g4, g5, g6]) rfl ⟨y, m, _, _, _, _, _, ⟨⟨hy0, hy1, hm0, hm1, by omega, by omega, by unfold Cal.dnum; omega⟩, rfl, by omega, rfl, rfl⟩, rfl, ?_⟩
          have hB := hbw.trans (hb1.mono (by omega))
          repeat (first | (with_reducible exact hB) | (with_reducible refine Below.setCell ?_ (by simp) _))

theorem refCivil_out (t : Int) (w : World) (h : t < 0 ∨ 4102444799 < t) : Calls Tryd.prog 19 #[.int .i64 t] w fun e w' => e = .returned (.tuple #[.agg civ0, .bool false]) ∧ Below w.heap.size w w' := by
  rcases h with h | h
  · go_enter Tryd.func19, Tryd.ntmps19
    go_wp2
    refine bodyPost_ret (v := .tuple #[.agg civ0, .bool false]) (by simp [results, Tryd.results19, go_sem, civ0]) rfl ⟨rfl, ?_⟩
    exact (Below.refl _ _).alloc (Nat.le_refl _) _
  · have d0 : decide (t < 0) = false := by simp; omega
    go_enter Tryd.func19, Tryd.ntmps19
    go_wp2
    refine bodyPost_ret (v := .tuple #[.agg civ0, .bool false]) (by simp [results, Tryd.results19, go_sem, civ0]) rfl ⟨rfl, ?_⟩
    exact (Below.refl _ _).alloc (Nat.le_refl _) _

end Go.Proofs.YthkkdbpblajahaaDoor
