/- The rule of days. -/
import Derived.Test.YthkkdbpblajahaaDoorD23
set_option linter.unusedVariables false
set_option linter.unusedSimpArgs false
namespace Go.Proofs.YthkkdbpblajahaaDoor
open Go.RowKit

def ruleDay (l : List UInt8) : Option (RuleD × List UInt8) :=
  (short l).bind fun q0 => (lit [45] q0.2).bind fun r1 => (nm 12 0 monthsL r1).bind fun q2 => (lit [45] q2.2).bind fun r3 => (num 4 0 r3).bind fun q4 => some (((q4.1, q2.1 + 1, q0.1, 0, 0, 0), 0), q4.2)


set_option maxRecDepth 100000 in
set_option maxHeartbeats 4000000 in
theorem ruleDay_any (b : Nat) (l : List UInt8) (w : World) (a : Addr) (hc : w.cell? ⟨1, 0, none⟩ = some (errV a)) (hb : 1 ≠ b) (hk : ScAt w b l) (hl : l.length ≤ 140737488355328) :
    Calls Tryd.prog 43 #[.pointer (some ⟨b, 0, none⟩)] w (Rules b a w (ruleDay l)) := by
  obtain ⟨R, hR⟩ : ∃ R, ruleDay l = R := ⟨_, rfl⟩
  rw [hR]
  unfold ruleDay at hR
  have HR := Lib.hid hR
  clear hR
  have hblt := sc_lt hk
  have hlt : 1 < w.heap.size := cell_lt hc
  have hDb : w.heap.size ≠ b := by omega
  go_enter Tryd.func43, Tryd.ntmps43
  go_wp2_with fail

  obtain ⟨W1, hW1⟩ : ∃ W1, w.alloc (.cells #[.int .i64 0, .int .i64 0, .int .i64 0, .int .i64 0, .int .i64 0, .int .i64 0, .int .i64 0] 27) = W1 := ⟨_, rfl⟩
  have hk1 : ScAt W1 b l := by rw [← hW1]; exact (heap_old _ _ _ hblt).trans hk
  have hu1 : Upd b w W1 := by rw [← hW1]; exact (Upd.refl b w).alloc _
  have hr1 : W1.heap[w.heap.size]? = some (.cells civ0 27 (0, 0)) := by rw [← hW1]; exact heap_new _ _
  have hc1 := upd_cell hu1 hb hc
  rw [hW1]
  clear hW1
  refine (short_any b l _ a hc1 hb hk1).mono ?_
  rintro e v0 h0
  rcases hn : short l with _ | ⟨x0, r0⟩
  · rw [hn] at h0
    obtain ⟨rfl, hu⟩ := h0
    have hR := HR.out
    rw [hn] at hR
    simp only [Option.bind_none] at hR
    subst hR
    unfold badP
    go_wp2
    exact ⟨rfl, rfl, hu1.trans hu⟩
  · rw [hn] at h0
    obtain ⟨rfl, hk0, hu0⟩ := h0
    obtain ⟨x00, x01, hl0⟩ := short_bd hn
    have hR := HR.out
    rw [hn] at hR
    simp only [Option.bind_some] at hR
    replace HR := Lib.hid hR
    clear hR hn
    have hz1 := (Array.getElem?_eq_some_iff.1 hr1).1
    have hz0 := hu0.size
    have hres := (hu0.block _ hz1 hDb).trans hr1
    have hcb := upd_cell hu0 hb hc1
    obtain ⟨C, hC⟩ : ∃ C, v0.heap.size = C := ⟨_, rfl⟩
    have st0 : St w b C w.heap.size a #[.int .i64 0, .int .i64 0, .int .i64 x0, .int .i64 0, .int .i64 0, .int .i64 0, .int .i64 0] r0 (v0.alloc (.cells #[.int .i64 0, .int .i64 0, .int .i64 x0, .int .i64 0, .int .i64 0, .int .i64 0, .int .i64 0] 27)) :=
      ⟨(heap_old _ _ _ (sc_lt hk0)).trans hk0, (hu1.trans hu0).alloc _, by rw [← hC]; exact heap_new _ _, (heap_old _ _ _ (by omega)).trans hres, cell_alloc hcb _, by omega⟩
    have hCb : C ≠ b := by omega
    have hDC : w.heap.size ≠ C := by omega
    have hwC : w.heap.size ≤ C := by omega
    have hEC : 1 ≠ C := by omega
    go_wp2_with fail
    try rw [hC]
    clear hC hk0 hu0 hcb hres hc1 hr1 hk1 hu1 hz0 hz1 hk hc
    refine (must_any [45] r0 b _ a st0.err hb st0.sc st0.len (by decide)).mono ?_
    rintro e v1 h0
    rcases hn : lit [45] r0 with _ | r1
    · rw [hn] at h0
      obtain ⟨rfl, hu⟩ := h0
      have hR := HR.out
      rw [hn] at hR
      simp only [Option.bind_none] at hR
      subst hR
      unfold badP
      go_wp2
      exact ⟨rfl, rfl, st0.upd.trans hu⟩
    · rw [hn] at h0
      obtain ⟨rfl, hk0, hu0⟩ := h0
      have st1 := st0.call hCb hDb hb hk0 hu0 (lit_len hn).1
      have hR := HR.out
      rw [hn] at hR
      simp only [Option.bind_some] at hR
      replace HR := Lib.hid hR
      clear hR hn hk0 hu0 st0
      go_wp2_with fail
      refine (name_any b 12 monthsL r1 _ a st1.err hb st1.sc (by decide) (by decide) st1.len).mono ?_
      rintro e v2 h0
      rcases hn : nm 12 0 monthsL r1 with _ | ⟨x2, r2⟩
      · rw [hn] at h0
        obtain ⟨rfl, hu⟩ := h0
        have hR := HR.out
        rw [hn] at hR
        simp only [Option.bind_none] at hR
        subst hR
        unfold badP
        go_wp2
        exact ⟨rfl, rfl, st1.upd.trans hu⟩
      · rw [hn] at h0
        obtain ⟨rfl, hk0, hu0⟩ := h0
        obtain ⟨x2a, x2b, hl0⟩ := nm_bd _ _ _ _ _ _ hn
        simp at x2a x2b
        have st2 := st1.call hCb hDb hb hk0 hu0 hl0
        have hR := HR.out
        rw [hn] at hR
        simp only [Option.bind_some] at hR
        replace HR := Lib.hid hR
        clear hR hn hk0 hu0 hl0 st1
        obtain ⟨c0, f0⟩ := st2.cells 1
        replace c0 : _ = some (Value.int .i64 0) := c0
        have st2w : St w b C w.heap.size a #[.int .i64 0, .int .i64 (x2 + 1), .int .i64 (x0), .int .i64 0, .int .i64 0, .int .i64 0, .int .i64 0] r2 (v2.setCell ⟨C, 1, none⟩ (.int .i64 (x2 + 1))) := st2.set hCb hDC hwC hEC 1 _
        clear st2
        go_wp2_with fail
        clear c0 f0
        refine (must_any [45] r2 b _ a st2w.err hb st2w.sc st2w.len (by decide)).mono ?_
        rintro e v3 h0
        rcases hn : lit [45] r2 with _ | r3
        · rw [hn] at h0
          obtain ⟨rfl, hu⟩ := h0
          have hR := HR.out
          rw [hn] at hR
          simp only [Option.bind_none] at hR
          subst hR
          unfold badP
          go_wp2
          exact ⟨rfl, rfl, st2w.upd.trans hu⟩
        · rw [hn] at h0
          obtain ⟨rfl, hk0, hu0⟩ := h0
          have st3 := st2w.call hCb hDb hb hk0 hu0 (lit_len hn).1
          have hR := HR.out
          rw [hn] at hR
          simp only [Option.bind_some] at hR
          replace HR := Lib.hid hR
          clear hR hn hk0 hu0 st2w
          go_wp2_with fail
          refine (number_any b 4 r3 _ a st3.err hb st3.sc (by decide)).mono ?_
          rintro e v4 h0
          rcases hn : num 4 0 r3 with _ | ⟨x4, r4⟩
          · rw [hn] at h0
            obtain ⟨rfl, hu⟩ := h0
            have hR := HR.out
            rw [hn] at hR
            simp only [Option.bind_none] at hR
            subst hR
            unfold badP
            go_wp2
            exact ⟨rfl, rfl, st3.upd.trans hu⟩
          · rw [hn] at h0
            obtain ⟨rfl, hk0, hu0⟩ := h0
            obtain ⟨x4a, x4b, hl0⟩ := num_bd _ _ _ _ _ hn (by omega)
            simp at x4b
            have st4 := st3.call hCb hDb hb hk0 hu0 hl0
            have hR := HR.out
            rw [hn] at hR
            simp only [Option.bind_some] at hR
            replace HR := Lib.hid hR
            clear hR hn hk0 hu0 hl0 st3
            obtain ⟨c0, f0⟩ := st4.cells 0
            replace c0 : _ = some (Value.int .i64 0) := c0
            have st4w : St w b C w.heap.size a #[.int .i64 (x4), .int .i64 (x2 + 1), .int .i64 (x0), .int .i64 0, .int .i64 0, .int .i64 0, .int .i64 0] r4 (v4.setCell ⟨C, 0, none⟩ (.int .i64 (x4))) := st4.set hCb hDC hwC hEC 0 _
            clear st4
            have e0 : _ = some (Value.int .i64 (x4)) := (st4w.cells 0).1
            have e1 : _ = some (Value.int .i64 (x2 + 1)) := (st4w.cells 1).1
            have e2 : _ = some (Value.int .i64 (x0)) := (st4w.cells 2).1
            have e3 : _ = some (Value.int .i64 (0)) := (st4w.cells 3).1
            have e4 : _ = some (Value.int .i64 (0)) := (st4w.cells 4).1
            have e5 : _ = some (Value.int .i64 (0)) := (st4w.cells 5).1
            have e6 : _ = some (Value.int .i64 (0)) := (st4w.cells 6).1
            have d0 : _ = some (Value.int .i64 0) := blk_cell st4w.res 0
            have df0 := blk_free st4w.res 0
            have d1 : _ = some (Value.int .i64 0) := blk_cell st4w.res 1
            have df1 := blk_free st4w.res 1
            have d2 : _ = some (Value.int .i64 0) := blk_cell st4w.res 2
            have df2 := blk_free st4w.res 2
            have d3 : _ = some (Value.int .i64 0) := blk_cell st4w.res 3
            have df3 := blk_free st4w.res 3
            have d4 : _ = some (Value.int .i64 0) := blk_cell st4w.res 4
            have df4 := blk_free st4w.res 4
            have d5 : _ = some (Value.int .i64 0) := blk_cell st4w.res 5
            have df5 := blk_free st4w.res 5
            have d6 : _ = some (Value.int .i64 0) := blk_cell st4w.res 6
            have df6 := blk_free st4w.res 6
            go_wp2
            obtain ⟨g0, g1, g2⟩ := st4w.fin hDb (Nat.le_refl _) (.int .i64 (x4)) (.int .i64 (x2 + 1)) (.int .i64 (x0)) (.int .i64 (0)) (.int .i64 (0)) (.int .i64 (0)) (.int .i64 (0))
            have q0 := blk_cell g0 0
            have q1 := blk_cell g0 1
            have q2 := blk_cell g0 2
            have q3 := blk_cell g0 3
            have q4 := blk_cell g0 4
            have q5 := blk_cell g0 5
            have q6 := blk_cell g0 6
            simp only [List.getElem?_toArray, List.getElem?_cons_zero, List.getElem?_cons_succ] at q0 q1 q2 q3 q4 q5 q6
            have hR := HR.out
            subst hR
            refine bodyPost_ret (v := .tuple #[.agg #[.int .i64 (x4), .int .i64 (x2 + 1), .int .i64 (x0), .int .i64 0, .int .i64 0, .int .i64 0, .int .i64 0], .int .i64 0]) ?_ rfl ⟨rfl, g1, g2⟩
            simp [results, Tryd.results43, go_sem, q0, q1, q2, q3, q4, q5, q6]

end Go.Proofs.YthkkdbpblajahaaDoor
