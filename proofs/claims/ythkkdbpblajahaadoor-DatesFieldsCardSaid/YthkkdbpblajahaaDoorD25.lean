/- The rule of IMAP's moments. -/
import Derived.Test.YthkkdbpblajahaaDoorD24
import Derived.Deep.RegionWith
set_option linter.unusedVariables false
set_option linter.unusedSimpArgs false
namespace Go.Proofs.YthkkdbpblajahaaDoor
open Go.RowKit

def ruleInternal (l : List UInt8) : Option (RuleD × List UInt8) :=
  (if ([32] : List UInt8).isPrefixOf l = true then num 1 0 (skip [32] l) else (num 2 0 (skip [32] l)).bind fun q => if 10 ≤ q.1 then some q else none).bind fun q0 => (lit [45] q0.2).bind fun r1 => (nm 12 0 monthsL r1).bind fun q2 => (lit [45] q2.2).bind fun r3 => (num 4 0 r3).bind fun q4 => (lit [32] q4.2).bind fun r5 => (num 2 0 r5).bind fun q6 => (lit [58] q6.2).bind fun r7 => (num 2 0 r7).bind fun q8 => (lit [58] q8.2).bind fun r9 => (num 2 0 r9).bind fun q10 => (lit [32] q10.2).bind fun r11 => (zone r11).bind fun q12 => some (((q4.1, q2.1 + 1, q0.1, q6.1, q8.1, q10.1), q12.1), q12.2)


set_option maxRecDepth 100000 in
set_option maxHeartbeats 4000000 in
theorem ruleInternal_any (b : Nat) (l : List UInt8) (w : World) (a : Addr) (hc : w.cell? ⟨1, 0, none⟩ = some (errV a)) (hb : 1 ≠ b) (hk : ScAt w b l) (hl : l.length ≤ 140737488355328) :
    Calls Tryd.prog 52 #[.pointer (some ⟨b, 0, none⟩)] w (Rules b a w (ruleInternal l)) := by
  obtain ⟨R, hR⟩ : ∃ R, ruleInternal l = R := ⟨_, rfl⟩
  rw [hR]
  unfold ruleInternal at hR
  have HR := Lib.hid hR
  clear hR
  have hblt := sc_lt hk
  have hlt : 1 < w.heap.size := cell_lt hc
  have hDb : w.heap.size ≠ b := by omega
  go_enter Tryd.func52, Tryd.ntmps52
  go_wp2_with fail

  obtain ⟨W1, hW1⟩ : ∃ W1, (w.alloc (.cells #[.int .i64 0, .int .i64 0, .int .i64 0, .int .i64 0, .int .i64 0, .int .i64 0, .int .i64 0] 27)).alloc (.cells #[.int .i64 0, .int .i64 0, .int .i64 0, .int .i64 0, .int .i64 0, .int .i64 0, .int .i64 0] 27) = W1 := ⟨_, rfl⟩
  obtain ⟨C, hC⟩ : ∃ C, w.heap.size + 1 = C := ⟨_, rfl⟩
  have st0 : St w b C w.heap.size a #[.int .i64 0, .int .i64 0, .int .i64 0, .int .i64 0, .int .i64 0, .int .i64 0, .int .i64 0] l W1 := by
    rw [← hW1, ← hC]
    exact ⟨(heap_old _ _ _ (by simp; omega)).trans ((heap_old _ _ _ hblt).trans hk), ((Upd.refl b w).alloc _).alloc _, by have := heap_new (w.alloc (.cells #[.int .i64 0, .int .i64 0, .int .i64 0, .int .i64 0, .int .i64 0, .int .i64 0, .int .i64 0] 27)) (.cells #[.int .i64 0, .int .i64 0, .int .i64 0, .int .i64 0, .int .i64 0, .int .i64 0, .int .i64 0] 27); rw [size_alloc] at this; exact this, (heap_old _ _ _ (by simp)).trans (heap_new _ _), cell_alloc (cell_alloc hc _) _, hl⟩
  have hCb : C ≠ b := by omega
  have hDC : w.heap.size ≠ C := by omega
  have hwC : w.heap.size ≤ C := by omega
  have hEC : 1 ≠ C := by omega
  rw [hW1, hC]
  clear hW1 hC hk hc
  refine (is_any [32] l b _ st0.sc hl (by decide)).mono ?_
  rintro e vi ⟨rfl, hki, hui⟩
  have sti := st0.call hCb hDb hb hki hui (skip_len [32] l)
  clear hki hui st0
  obtain ⟨l1, hl1⟩ : ∃ l1, skip [32] l = l1 := ⟨_, rfl⟩
  have hR0 := HR.out
  rw [hl1] at sti hR0
  rcases hp : ([32] : List UInt8).isPrefixOf l with _ | _
  · rw [hp] at hR0
    rw [if_neg (by decide)] at hR0
    replace HR := Lib.hid hR0
    clear hR0 hp hl1
    go_wp2_with fail
    refine (number_any b 2 l1 _ a sti.err hb sti.sc (by decide)).mono ?_
    rintro e v1 h0
    rcases hn : num 2 0 l1 with _ | ⟨x1, r1⟩
    · rw [hn] at h0
      obtain ⟨rfl, hu⟩ := h0
      have hR := HR.out
      rw [hn] at hR
      simp only [Option.bind_none] at hR
      subst hR
      unfold badP
      go_wp2
      exact ⟨rfl, rfl, sti.upd.trans hu⟩
    · rw [hn] at h0
      obtain ⟨rfl, hk0, hu0⟩ := h0
      obtain ⟨x1a, x1b, hl0⟩ := num_bd _ _ _ _ _ hn (by omega)
      simp at x1b
      have stn := sti.call hCb hDb hb hk0 hu0 hl0
      have hR := HR.out
      rw [hn] at hR
      simp only [Option.bind_some] at hR
      obtain ⟨c0, f0⟩ := stn.cells 2
      replace c0 : _ = some (Value.int .i64 0) := c0
      have st1 : St w b C w.heap.size a #[.int .i64 0, .int .i64 0, .int .i64 (x1), .int .i64 0, .int .i64 0, .int .i64 0, .int .i64 0] r1 (v1.setCell ⟨C, 2, none⟩ (.int .i64 x1)) := stn.set hCb hDC hwC hEC 2 _
      have hd2 : _ = some (Value.int .i64 x1) := (st1.cells 2).1
      by_cases h10 : 10 ≤ x1
      · rw [if_pos h10] at hR
        simp only [Option.bind_some] at hR
        replace HR := Lib.hid hR
        clear hR hn hk0 hu0 hl0 sti stn
        go_wp2_with fail
        refine (need_yes _ _).mono ?_
        rintro e w9 ⟨rfl, hw9⟩
        rw [hw9]
        clear hw9 c0 f0 hd2
        go_wp2_with fail
        refine (must_any [45] r1 b _ a st1.err hb st1.sc st1.len (by decide)).mono ?_
        rintro e v2 h0
        rcases hn : lit [45] r1 with _ | r2
        · rw [hn] at h0
          obtain ⟨rfl, hu⟩ := h0
          have hR := HR.out
          rw [hn] at hR
          simp only [Option.bind_none] at hR
          subst hR
          unfold badP
          go_wp2
          exact ⟨rfl, rfl, st1.upd.trans hu⟩
        · rw [hn] at h0
          obtain ⟨rfl, hk0, hu0⟩ := h0
          have st2 := st1.call hCb hDb hb hk0 hu0 (lit_len hn).1
          have hR := HR.out
          rw [hn] at hR
          simp only [Option.bind_some] at hR
          replace HR := Lib.hid hR
          clear hR hn hk0 hu0 st1
          go_wp2_with fail
          refine (name_any b 12 monthsL r2 _ a st2.err hb st2.sc (by decide) (by decide) st2.len).mono ?_
          rintro e v3 h0
          rcases hn : nm 12 0 monthsL r2 with _ | ⟨x3, r3⟩
          · rw [hn] at h0
            obtain ⟨rfl, hu⟩ := h0
            have hR := HR.out
            rw [hn] at hR
            simp only [Option.bind_none] at hR
            subst hR
            unfold badP
            go_wp2
            exact ⟨rfl, rfl, st2.upd.trans hu⟩
          · rw [hn] at h0
            obtain ⟨rfl, hk0, hu0⟩ := h0
            obtain ⟨x3a, x3b, hl0⟩ := nm_bd _ _ _ _ _ _ hn
            simp at x3a x3b
            have st3 := st2.call hCb hDb hb hk0 hu0 hl0
            have hR := HR.out
            rw [hn] at hR
            simp only [Option.bind_some] at hR
            replace HR := Lib.hid hR
            clear hR hn hk0 hu0 hl0 st2
            obtain ⟨c0, f0⟩ := st3.cells 1
            replace c0 : _ = some (Value.int .i64 0) := c0
            have st3w : St w b C w.heap.size a #[.int .i64 0, .int .i64 (x3 + 1), .int .i64 (x1), .int .i64 0, .int .i64 0, .int .i64 0, .int .i64 0] r3 (v3.setCell ⟨C, 1, none⟩ (.int .i64 (x3 + 1))) := st3.set hCb hDC hwC hEC 1 _
            clear st3
            go_wp2_with fail
            clear c0 f0
            refine (must_any [45] r3 b _ a st3w.err hb st3w.sc st3w.len (by decide)).mono ?_
            rintro e v4 h0
            rcases hn : lit [45] r3 with _ | r4
            · rw [hn] at h0
              obtain ⟨rfl, hu⟩ := h0
              have hR := HR.out
              rw [hn] at hR
              simp only [Option.bind_none] at hR
              subst hR
              unfold badP
              go_wp2
              exact ⟨rfl, rfl, st3w.upd.trans hu⟩
            · rw [hn] at h0
              obtain ⟨rfl, hk0, hu0⟩ := h0
              have st4 := st3w.call hCb hDb hb hk0 hu0 (lit_len hn).1
              have hR := HR.out
              rw [hn] at hR
              simp only [Option.bind_some] at hR
              replace HR := Lib.hid hR
              clear hR hn hk0 hu0 st3w
              go_wp2_with fail
              refine (number_any b 4 r4 _ a st4.err hb st4.sc (by decide)).mono ?_
              rintro e v5 h0
              rcases hn : num 4 0 r4 with _ | ⟨x5, r5⟩
              · rw [hn] at h0
                obtain ⟨rfl, hu⟩ := h0
                have hR := HR.out
                rw [hn] at hR
                simp only [Option.bind_none] at hR
                subst hR
                unfold badP
                go_wp2
                exact ⟨rfl, rfl, st4.upd.trans hu⟩
              · rw [hn] at h0
                obtain ⟨rfl, hk0, hu0⟩ := h0
                obtain ⟨x5a, x5b, hl0⟩ := num_bd _ _ _ _ _ hn (by omega)
                simp at x5b
                have st5 := st4.call hCb hDb hb hk0 hu0 hl0
                have hR := HR.out
                rw [hn] at hR
                simp only [Option.bind_some] at hR
                replace HR := Lib.hid hR
                clear hR hn hk0 hu0 hl0 st4
                obtain ⟨c0, f0⟩ := st5.cells 0
                replace c0 : _ = some (Value.int .i64 0) := c0
                have st5w : St w b C w.heap.size a #[.int .i64 (x5), .int .i64 (x3 + 1), .int .i64 (x1), .int .i64 0, .int .i64 0, .int .i64 0, .int .i64 0] r5 (v5.setCell ⟨C, 0, none⟩ (.int .i64 (x5))) := st5.set hCb hDC hwC hEC 0 _
                clear st5
                go_wp2_with fail
                clear c0 f0
                refine (must_any [32] r5 b _ a st5w.err hb st5w.sc st5w.len (by decide)).mono ?_
                rintro e v6 h0
                rcases hn : lit [32] r5 with _ | r6
                · rw [hn] at h0
                  obtain ⟨rfl, hu⟩ := h0
                  have hR := HR.out
                  rw [hn] at hR
                  simp only [Option.bind_none] at hR
                  subst hR
                  unfold badP
                  go_wp2
                  exact ⟨rfl, rfl, st5w.upd.trans hu⟩
                · rw [hn] at h0
                  obtain ⟨rfl, hk0, hu0⟩ := h0
                  have st6 := st5w.call hCb hDb hb hk0 hu0 (lit_len hn).1
                  have hR := HR.out
                  rw [hn] at hR
                  simp only [Option.bind_some] at hR
                  replace HR := Lib.hid hR
                  clear hR hn hk0 hu0 st5w
                  go_wp2_with fail
                  refine (number_any b 2 r6 _ a st6.err hb st6.sc (by decide)).mono ?_
                  rintro e v7 h0
                  rcases hn : num 2 0 r6 with _ | ⟨x7, r7⟩
                  · rw [hn] at h0
                    obtain ⟨rfl, hu⟩ := h0
                    have hR := HR.out
                    rw [hn] at hR
                    simp only [Option.bind_none] at hR
                    subst hR
                    unfold badP
                    go_wp2
                    exact ⟨rfl, rfl, st6.upd.trans hu⟩
                  · rw [hn] at h0
                    obtain ⟨rfl, hk0, hu0⟩ := h0
                    obtain ⟨x7a, x7b, hl0⟩ := num_bd _ _ _ _ _ hn (by omega)
                    simp at x7b
                    have st7 := st6.call hCb hDb hb hk0 hu0 hl0
                    have hR := HR.out
                    rw [hn] at hR
                    simp only [Option.bind_some] at hR
                    replace HR := Lib.hid hR
                    clear hR hn hk0 hu0 hl0 st6
                    obtain ⟨c0, f0⟩ := st7.cells 3
                    replace c0 : _ = some (Value.int .i64 0) := c0
                    have st7w : St w b C w.heap.size a #[.int .i64 (x5), .int .i64 (x3 + 1), .int .i64 (x1), .int .i64 (x7), .int .i64 0, .int .i64 0, .int .i64 0] r7 (v7.setCell ⟨C, 3, none⟩ (.int .i64 (x7))) := st7.set hCb hDC hwC hEC 3 _
                    clear st7
                    go_wp2_with fail
                    clear c0 f0
                    refine (must_any [58] r7 b _ a st7w.err hb st7w.sc st7w.len (by decide)).mono ?_
                    rintro e v8 h0
                    rcases hn : lit [58] r7 with _ | r8
                    · rw [hn] at h0
                      obtain ⟨rfl, hu⟩ := h0
                      have hR := HR.out
                      rw [hn] at hR
                      simp only [Option.bind_none] at hR
                      subst hR
                      unfold badP
                      go_wp2
                      exact ⟨rfl, rfl, st7w.upd.trans hu⟩
                    · rw [hn] at h0
                      obtain ⟨rfl, hk0, hu0⟩ := h0
                      have st8 := st7w.call hCb hDb hb hk0 hu0 (lit_len hn).1
                      have hR := HR.out
                      rw [hn] at hR
                      simp only [Option.bind_some] at hR
                      replace HR := Lib.hid hR
                      clear hR hn hk0 hu0 st7w
                      go_wp2_with fail
                      refine (number_any b 2 r8 _ a st8.err hb st8.sc (by decide)).mono ?_
                      rintro e v9 h0
                      rcases hn : num 2 0 r8 with _ | ⟨x9, r9⟩
                      · rw [hn] at h0
                        obtain ⟨rfl, hu⟩ := h0
                        have hR := HR.out
                        rw [hn] at hR
                        simp only [Option.bind_none] at hR
                        subst hR
                        unfold badP
                        go_wp2
                        exact ⟨rfl, rfl, st8.upd.trans hu⟩
                      · rw [hn] at h0
                        obtain ⟨rfl, hk0, hu0⟩ := h0
                        obtain ⟨x9a, x9b, hl0⟩ := num_bd _ _ _ _ _ hn (by omega)
                        simp at x9b
                        have st9 := st8.call hCb hDb hb hk0 hu0 hl0
                        have hR := HR.out
                        rw [hn] at hR
                        simp only [Option.bind_some] at hR
                        replace HR := Lib.hid hR
                        clear hR hn hk0 hu0 hl0 st8
                        obtain ⟨c0, f0⟩ := st9.cells 4
                        replace c0 : _ = some (Value.int .i64 0) := c0
                        have st9w : St w b C w.heap.size a #[.int .i64 (x5), .int .i64 (x3 + 1), .int .i64 (x1), .int .i64 (x7), .int .i64 (x9), .int .i64 0, .int .i64 0] r9 (v9.setCell ⟨C, 4, none⟩ (.int .i64 (x9))) := st9.set hCb hDC hwC hEC 4 _
                        clear st9
                        go_wp2_with fail
                        clear c0 f0
                        refine (must_any [58] r9 b _ a st9w.err hb st9w.sc st9w.len (by decide)).mono ?_
                        rintro e v10 h0
                        rcases hn : lit [58] r9 with _ | r10
                        · rw [hn] at h0
                          obtain ⟨rfl, hu⟩ := h0
                          have hR := HR.out
                          rw [hn] at hR
                          simp only [Option.bind_none] at hR
                          subst hR
                          unfold badP
                          go_wp2
                          exact ⟨rfl, rfl, st9w.upd.trans hu⟩
                        · rw [hn] at h0
                          obtain ⟨rfl, hk0, hu0⟩ := h0
                          have st10 := st9w.call hCb hDb hb hk0 hu0 (lit_len hn).1
                          have hR := HR.out
                          rw [hn] at hR
                          simp only [Option.bind_some] at hR
                          replace HR := Lib.hid hR
                          clear hR hn hk0 hu0 st9w
                          go_wp2_with fail
                          refine (number_any b 2 r10 _ a st10.err hb st10.sc (by decide)).mono ?_
                          rintro e v11 h0
                          rcases hn : num 2 0 r10 with _ | ⟨x11, r11⟩
                          · rw [hn] at h0
                            obtain ⟨rfl, hu⟩ := h0
                            have hR := HR.out
                            rw [hn] at hR
                            simp only [Option.bind_none] at hR
                            subst hR
                            unfold badP
                            go_wp2
                            exact ⟨rfl, rfl, st10.upd.trans hu⟩
                          · rw [hn] at h0
                            obtain ⟨rfl, hk0, hu0⟩ := h0
                            obtain ⟨x11a, x11b, hl0⟩ := num_bd _ _ _ _ _ hn (by omega)
                            simp at x11b
                            have st11 := st10.call hCb hDb hb hk0 hu0 hl0
                            have hR := HR.out
                            rw [hn] at hR
                            simp only [Option.bind_some] at hR
                            replace HR := Lib.hid hR
                            clear hR hn hk0 hu0 hl0 st10
                            obtain ⟨c0, f0⟩ := st11.cells 5
                            replace c0 : _ = some (Value.int .i64 0) := c0
                            have st11w : St w b C w.heap.size a #[.int .i64 (x5), .int .i64 (x3 + 1), .int .i64 (x1), .int .i64 (x7), .int .i64 (x9), .int .i64 (x11), .int .i64 0] r11 (v11.setCell ⟨C, 5, none⟩ (.int .i64 (x11))) := st11.set hCb hDC hwC hEC 5 _
                            clear st11
                            go_wp2_with fail
                            clear c0 f0
                            refine (must_any [32] r11 b _ a st11w.err hb st11w.sc st11w.len (by decide)).mono ?_
                            rintro e v12 h0
                            rcases hn : lit [32] r11 with _ | r12
                            · rw [hn] at h0
                              obtain ⟨rfl, hu⟩ := h0
                              have hR := HR.out
                              rw [hn] at hR
                              simp only [Option.bind_none] at hR
                              subst hR
                              unfold badP
                              go_wp2
                              exact ⟨rfl, rfl, st11w.upd.trans hu⟩
                            · rw [hn] at h0
                              obtain ⟨rfl, hk0, hu0⟩ := h0
                              have st12 := st11w.call hCb hDb hb hk0 hu0 (lit_len hn).1
                              have hR := HR.out
                              rw [hn] at hR
                              simp only [Option.bind_some] at hR
                              replace HR := Lib.hid hR
                              clear hR hn hk0 hu0 st11w
                              have e0 : _ = some (Value.int .i64 (x5)) := (st12.cells 0).1
                              have e1 : _ = some (Value.int .i64 (x3 + 1)) := (st12.cells 1).1
                              have e2 : _ = some (Value.int .i64 (x1)) := (st12.cells 2).1
                              have e3 : _ = some (Value.int .i64 (x7)) := (st12.cells 3).1
                              have e4 : _ = some (Value.int .i64 (x9)) := (st12.cells 4).1
                              have e5 : _ = some (Value.int .i64 (x11)) := (st12.cells 5).1
                              have e6 : _ = some (Value.int .i64 (0)) := (st12.cells 6).1
                              have hz := zone_any b r12 _ a (st12.drew).err hb (st12.drew).sc st12.len
                              rcases hn : zone r12 with _ | ⟨z, rz⟩
                              · rw [hn] at hz
                                have hR := HR.out
                                rw [hn] at hR
                                simp only [Option.bind_none] at hR
                                subst hR
                                have HZ := Lib.hid hz
                                clear hz hn
                                go_wp2
                                refine wp_region_any (by kernel_rfl) ?_
                                try (change wpAny _ _ _ _ _ _ _ (World.drew _))
                                refine wpAny_take (i := 1) (v := ?_) rfl (by kernel_rfl) (by kernel_rfl) (by kernel_rfl) (fun _ _ _ h => h) (Or.inl ⟨by rfl, ?_⟩) ?_
                                rotate_left
                                · intro w
                                  go_simp
                                  try (with_reducible rfl)
                                refine wpAny_ready (rs := [0, 2]) (by kernel_rfl) (by simp) ?_
                                refine AllReady.cons rfl (fun K hK => ?_) (AllReady.cons rfl (fun K hK => ?_) AllReady.nil)
                                · go_simp
                                  refine hK _ _ ?_
                                  clear hK K
                                  refine wpAny_ready (rs := [2]) (by kernel_rfl) (by simp) ?_
                                  refine AllReady.cons rfl (fun K hK => ?_) AllReady.nil
                                  go_simp
                                  go_wp2_with (go_at_call 55; refine HZ.out.mono ?_; rintro e w9 ⟨rfl, hu⟩; unfold badP)
                                  exact ⟨rfl, rfl, (st12.drew).upd.trans hu⟩
                                · go_simp
                                  go_wp2_with (go_at_call 55; refine HZ.out.mono ?_; rintro e w9 ⟨rfl, hu⟩; unfold badP)
                                  exact ⟨rfl, rfl, (st12.drew).upd.trans hu⟩
                              · rw [hn] at hz
                                have hR := HR.out
                                rw [hn] at hR
                                simp only [Option.bind_some] at hR
                                subst hR
                                have hzl := (zone_bd hn).2.2
                                have HZ := Lib.hid hz
                                clear hz hn
                                go_wp2
                                go_region_with ((go_at_call 55; refine HZ.out.mono ?_; rintro e w9 ⟨rfl, hk9, hu9⟩; have st9 := (st12.drew).call hCb hDb hb hk9 hu9 hzl; have q0 : _ = some (Value.int .i64 (x5)) := (st9.cells 0).1; have q1 : _ = some (Value.int .i64 (x3 + 1)) := (st9.cells 1).1; have q2 : _ = some (Value.int .i64 (x1)) := (st9.cells 2).1; have q3 : _ = some (Value.int .i64 (x7)) := (st9.cells 3).1; have q4 : _ = some (Value.int .i64 (x9)) := (st9.cells 4).1; have q5 : _ = some (Value.int .i64 (x11)) := (st9.cells 5).1; have q6 : _ = some (Value.int .i64 (0)) := (st9.cells 6).1; have d0 : _ = some (Value.int .i64 0) := blk_cell st9.res 0; have df0 := blk_free st9.res 0; have d1 : _ = some (Value.int .i64 0) := blk_cell st9.res 1; have df1 := blk_free st9.res 1; have d2 : _ = some (Value.int .i64 0) := blk_cell st9.res 2; have df2 := blk_free st9.res 2; have d3 : _ = some (Value.int .i64 0) := blk_cell st9.res 3; have df3 := blk_free st9.res 3; have d4 : _ = some (Value.int .i64 0) := blk_cell st9.res 4; have df4 := blk_free st9.res 4; have d5 : _ = some (Value.int .i64 0) := blk_cell st9.res 5; have df5 := blk_free st9.res 5; have d6 : _ = some (Value.int .i64 0) := blk_cell st9.res 6; have df6 := blk_free st9.res 6))
                                all_goals
                                  go_wp2
                                  obtain ⟨g0, g1, g2⟩ := st9.fin hDb (Nat.le_refl _) (.int .i64 (x5)) (.int .i64 (x3 + 1)) (.int .i64 (x1)) (.int .i64 (x7)) (.int .i64 (x9)) (.int .i64 (x11)) (.int .i64 (0))
                                  have p0 := blk_cell g0 0
                                  have p1 := blk_cell g0 1
                                  have p2 := blk_cell g0 2
                                  have p3 := blk_cell g0 3
                                  have p4 := blk_cell g0 4
                                  have p5 := blk_cell g0 5
                                  have p6 := blk_cell g0 6
                                  simp only [List.getElem?_toArray, List.getElem?_cons_zero, List.getElem?_cons_succ] at p0 p1 p2 p3 p4 p5 p6
                                  refine bodyPost_ret (v := .tuple #[.agg #[.int .i64 (x5), .int .i64 (x3 + 1), .int .i64 (x1), .int .i64 (x7), .int .i64 (x9), .int .i64 (x11), .int .i64 0], .int .i64 z]) ?_ rfl ⟨rfl, g1, g2⟩
                                  simp [results, Tryd.results52, go_sem, p0, p1, p2, p3, p4, p5, p6]
      · rw [if_neg h10] at hR
        simp only [Option.bind_none] at hR
        subst hR
        have h10d : decide (10 ≤ x1) = false := decide_eq_false h10
        clear hn hk0 hu0 hl0 sti stn h10
        go_wp2_with fail
        refine (need_no _ _ a st1.err).mono ?_
        rintro e w9 ⟨rfl, rfl⟩
        unfold badP
        go_wp2
        exact ⟨rfl, rfl, st1.upd⟩
  · rw [hp] at hR0
    rw [if_pos rfl] at hR0
    replace HR := Lib.hid hR0
    clear hR0 hp hl1
    go_wp2_with fail
    refine (number_any b 1 l1 _ a sti.err hb sti.sc (by decide)).mono ?_
    rintro e v13 h0
    rcases hn : num 1 0 l1 with _ | ⟨x13, r13⟩
    · rw [hn] at h0
      obtain ⟨rfl, hu⟩ := h0
      have hR := HR.out
      rw [hn] at hR
      simp only [Option.bind_none] at hR
      subst hR
      unfold badP
      go_wp2
      exact ⟨rfl, rfl, sti.upd.trans hu⟩
    · rw [hn] at h0
      obtain ⟨rfl, hk0, hu0⟩ := h0
      obtain ⟨x13a, x13b, hl0⟩ := num_bd _ _ _ _ _ hn (by omega)
      simp at x13b
      have stn := sti.call hCb hDb hb hk0 hu0 hl0
      have hR := HR.out
      rw [hn] at hR
      simp only [Option.bind_some] at hR
      obtain ⟨c0, f0⟩ := stn.cells 2
      replace c0 : _ = some (Value.int .i64 0) := c0
      have st1 : St w b C w.heap.size a #[.int .i64 0, .int .i64 0, .int .i64 (x13), .int .i64 0, .int .i64 0, .int .i64 0, .int .i64 0] r13 (v13.setCell ⟨C, 2, none⟩ (.int .i64 x13)) := stn.set hCb hDC hwC hEC 2 _
      replace HR := Lib.hid hR
      clear hR hn hk0 hu0 hl0 sti stn
      go_wp2_with fail
      clear c0 f0
      refine (must_any [45] r13 b _ a st1.err hb st1.sc st1.len (by decide)).mono ?_
      rintro e v14 h0
      rcases hn : lit [45] r13 with _ | r14
      · rw [hn] at h0
        obtain ⟨rfl, hu⟩ := h0
        have hR := HR.out
        rw [hn] at hR
        simp only [Option.bind_none] at hR
        subst hR
        unfold badP
        go_wp2
        exact ⟨rfl, rfl, st1.upd.trans hu⟩
      · rw [hn] at h0
        obtain ⟨rfl, hk0, hu0⟩ := h0
        have st14 := st1.call hCb hDb hb hk0 hu0 (lit_len hn).1
        have hR := HR.out
        rw [hn] at hR
        simp only [Option.bind_some] at hR
        replace HR := Lib.hid hR
        clear hR hn hk0 hu0 st1
        go_wp2_with fail
        refine (name_any b 12 monthsL r14 _ a st14.err hb st14.sc (by decide) (by decide) st14.len).mono ?_
        rintro e v15 h0
        rcases hn : nm 12 0 monthsL r14 with _ | ⟨x15, r15⟩
        · rw [hn] at h0
          obtain ⟨rfl, hu⟩ := h0
          have hR := HR.out
          rw [hn] at hR
          simp only [Option.bind_none] at hR
          subst hR
          unfold badP
          go_wp2
          exact ⟨rfl, rfl, st14.upd.trans hu⟩
        · rw [hn] at h0
          obtain ⟨rfl, hk0, hu0⟩ := h0
          obtain ⟨x15a, x15b, hl0⟩ := nm_bd _ _ _ _ _ _ hn
          simp at x15a x15b
          have st15 := st14.call hCb hDb hb hk0 hu0 hl0
          have hR := HR.out
          rw [hn] at hR
          simp only [Option.bind_some] at hR
          replace HR := Lib.hid hR
          clear hR hn hk0 hu0 hl0 st14
          obtain ⟨c0, f0⟩ := st15.cells 1
          replace c0 : _ = some (Value.int .i64 0) := c0
          have st15w : St w b C w.heap.size a #[.int .i64 0, .int .i64 (x15 + 1), .int .i64 (x13), .int .i64 0, .int .i64 0, .int .i64 0, .int .i64 0] r15 (v15.setCell ⟨C, 1, none⟩ (.int .i64 (x15 + 1))) := st15.set hCb hDC hwC hEC 1 _
          clear st15
          go_wp2_with fail
          clear c0 f0
          refine (must_any [45] r15 b _ a st15w.err hb st15w.sc st15w.len (by decide)).mono ?_
          rintro e v16 h0
          rcases hn : lit [45] r15 with _ | r16
          · rw [hn] at h0
            obtain ⟨rfl, hu⟩ := h0
            have hR := HR.out
            rw [hn] at hR
            simp only [Option.bind_none] at hR
            subst hR
            unfold badP
            go_wp2
            exact ⟨rfl, rfl, st15w.upd.trans hu⟩
          · rw [hn] at h0
            obtain ⟨rfl, hk0, hu0⟩ := h0
            have st16 := st15w.call hCb hDb hb hk0 hu0 (lit_len hn).1
            have hR := HR.out
            rw [hn] at hR
            simp only [Option.bind_some] at hR
            replace HR := Lib.hid hR
            clear hR hn hk0 hu0 st15w
            go_wp2_with fail
            refine (number_any b 4 r16 _ a st16.err hb st16.sc (by decide)).mono ?_
            rintro e v17 h0
            rcases hn : num 4 0 r16 with _ | ⟨x17, r17⟩
            · rw [hn] at h0
              obtain ⟨rfl, hu⟩ := h0
              have hR := HR.out
              rw [hn] at hR
              simp only [Option.bind_none] at hR
              subst hR
              unfold badP
              go_wp2
              exact ⟨rfl, rfl, st16.upd.trans hu⟩
            · rw [hn] at h0
              obtain ⟨rfl, hk0, hu0⟩ := h0
              obtain ⟨x17a, x17b, hl0⟩ := num_bd _ _ _ _ _ hn (by omega)
              simp at x17b
              have st17 := st16.call hCb hDb hb hk0 hu0 hl0
              have hR := HR.out
              rw [hn] at hR
              simp only [Option.bind_some] at hR
              replace HR := Lib.hid hR
              clear hR hn hk0 hu0 hl0 st16
              obtain ⟨c0, f0⟩ := st17.cells 0
              replace c0 : _ = some (Value.int .i64 0) := c0
              have st17w : St w b C w.heap.size a #[.int .i64 (x17), .int .i64 (x15 + 1), .int .i64 (x13), .int .i64 0, .int .i64 0, .int .i64 0, .int .i64 0] r17 (v17.setCell ⟨C, 0, none⟩ (.int .i64 (x17))) := st17.set hCb hDC hwC hEC 0 _
              clear st17
              go_wp2_with fail
              clear c0 f0
              refine (must_any [32] r17 b _ a st17w.err hb st17w.sc st17w.len (by decide)).mono ?_
              rintro e v18 h0
              rcases hn : lit [32] r17 with _ | r18
              · rw [hn] at h0
                obtain ⟨rfl, hu⟩ := h0
                have hR := HR.out
                rw [hn] at hR
                simp only [Option.bind_none] at hR
                subst hR
                unfold badP
                go_wp2
                exact ⟨rfl, rfl, st17w.upd.trans hu⟩
              · rw [hn] at h0
                obtain ⟨rfl, hk0, hu0⟩ := h0
                have st18 := st17w.call hCb hDb hb hk0 hu0 (lit_len hn).1
                have hR := HR.out
                rw [hn] at hR
                simp only [Option.bind_some] at hR
                replace HR := Lib.hid hR
                clear hR hn hk0 hu0 st17w
                go_wp2_with fail
                refine (number_any b 2 r18 _ a st18.err hb st18.sc (by decide)).mono ?_
                rintro e v19 h0
                rcases hn : num 2 0 r18 with _ | ⟨x19, r19⟩
                · rw [hn] at h0
                  obtain ⟨rfl, hu⟩ := h0
                  have hR := HR.out
                  rw [hn] at hR
                  simp only [Option.bind_none] at hR
                  subst hR
                  unfold badP
                  go_wp2
                  exact ⟨rfl, rfl, st18.upd.trans hu⟩
                · rw [hn] at h0
                  obtain ⟨rfl, hk0, hu0⟩ := h0
                  obtain ⟨x19a, x19b, hl0⟩ := num_bd _ _ _ _ _ hn (by omega)
                  simp at x19b
                  have st19 := st18.call hCb hDb hb hk0 hu0 hl0
                  have hR := HR.out
                  rw [hn] at hR
                  simp only [Option.bind_some] at hR
                  replace HR := Lib.hid hR
                  clear hR hn hk0 hu0 hl0 st18
                  obtain ⟨c0, f0⟩ := st19.cells 3
                  replace c0 : _ = some (Value.int .i64 0) := c0
                  have st19w : St w b C w.heap.size a #[.int .i64 (x17), .int .i64 (x15 + 1), .int .i64 (x13), .int .i64 (x19), .int .i64 0, .int .i64 0, .int .i64 0] r19 (v19.setCell ⟨C, 3, none⟩ (.int .i64 (x19))) := st19.set hCb hDC hwC hEC 3 _
                  clear st19
                  go_wp2_with fail
                  clear c0 f0
                  refine (must_any [58] r19 b _ a st19w.err hb st19w.sc st19w.len (by decide)).mono ?_
                  rintro e v20 h0
                  rcases hn : lit [58] r19 with _ | r20
                  · rw [hn] at h0
                    obtain ⟨rfl, hu⟩ := h0
                    have hR := HR.out
                    rw [hn] at hR
                    simp only [Option.bind_none] at hR
                    subst hR
                    unfold badP
                    go_wp2
                    exact ⟨rfl, rfl, st19w.upd.trans hu⟩
                  · rw [hn] at h0
                    obtain ⟨rfl, hk0, hu0⟩ := h0
                    have st20 := st19w.call hCb hDb hb hk0 hu0 (lit_len hn).1
                    have hR := HR.out
                    rw [hn] at hR
                    simp only [Option.bind_some] at hR
                    replace HR := Lib.hid hR
                    clear hR hn hk0 hu0 st19w
                    go_wp2_with fail
                    refine (number_any b 2 r20 _ a st20.err hb st20.sc (by decide)).mono ?_
                    rintro e v21 h0
                    rcases hn : num 2 0 r20 with _ | ⟨x21, r21⟩
                    · rw [hn] at h0
                      obtain ⟨rfl, hu⟩ := h0
                      have hR := HR.out
                      rw [hn] at hR
                      simp only [Option.bind_none] at hR
                      subst hR
                      unfold badP
                      go_wp2
                      exact ⟨rfl, rfl, st20.upd.trans hu⟩
                    · rw [hn] at h0
                      obtain ⟨rfl, hk0, hu0⟩ := h0
                      obtain ⟨x21a, x21b, hl0⟩ := num_bd _ _ _ _ _ hn (by omega)
                      simp at x21b
                      have st21 := st20.call hCb hDb hb hk0 hu0 hl0
                      have hR := HR.out
                      rw [hn] at hR
                      simp only [Option.bind_some] at hR
                      replace HR := Lib.hid hR
                      clear hR hn hk0 hu0 hl0 st20
                      obtain ⟨c0, f0⟩ := st21.cells 4
                      replace c0 : _ = some (Value.int .i64 0) := c0
                      have st21w : St w b C w.heap.size a #[.int .i64 (x17), .int .i64 (x15 + 1), .int .i64 (x13), .int .i64 (x19), .int .i64 (x21), .int .i64 0, .int .i64 0] r21 (v21.setCell ⟨C, 4, none⟩ (.int .i64 (x21))) := st21.set hCb hDC hwC hEC 4 _
                      clear st21
                      go_wp2_with fail
                      clear c0 f0
                      refine (must_any [58] r21 b _ a st21w.err hb st21w.sc st21w.len (by decide)).mono ?_
                      rintro e v22 h0
                      rcases hn : lit [58] r21 with _ | r22
                      · rw [hn] at h0
                        obtain ⟨rfl, hu⟩ := h0
                        have hR := HR.out
                        rw [hn] at hR
                        simp only [Option.bind_none] at hR
                        subst hR
                        unfold badP
                        go_wp2
                        exact ⟨rfl, rfl, st21w.upd.trans hu⟩
                      · rw [hn] at h0
                        obtain ⟨rfl, hk0, hu0⟩ := h0
                        have st22 := st21w.call hCb hDb hb hk0 hu0 (lit_len hn).1
                        have hR := HR.out
                        rw [hn] at hR
                        simp only [Option.bind_some] at hR
                        replace HR := Lib.hid hR
                        clear hR hn hk0 hu0 st21w
                        go_wp2_with fail
                        refine (number_any b 2 r22 _ a st22.err hb st22.sc (by decide)).mono ?_
                        rintro e v23 h0
                        rcases hn : num 2 0 r22 with _ | ⟨x23, r23⟩
                        · rw [hn] at h0
                          obtain ⟨rfl, hu⟩ := h0
                          have hR := HR.out
                          rw [hn] at hR
                          simp only [Option.bind_none] at hR
                          subst hR
                          unfold badP
                          go_wp2
                          exact ⟨rfl, rfl, st22.upd.trans hu⟩
                        · rw [hn] at h0
                          obtain ⟨rfl, hk0, hu0⟩ := h0
                          obtain ⟨x23a, x23b, hl0⟩ := num_bd _ _ _ _ _ hn (by omega)
                          simp at x23b
                          have st23 := st22.call hCb hDb hb hk0 hu0 hl0
                          have hR := HR.out
                          rw [hn] at hR
                          simp only [Option.bind_some] at hR
                          replace HR := Lib.hid hR
                          clear hR hn hk0 hu0 hl0 st22
                          obtain ⟨c0, f0⟩ := st23.cells 5
                          replace c0 : _ = some (Value.int .i64 0) := c0
                          have st23w : St w b C w.heap.size a #[.int .i64 (x17), .int .i64 (x15 + 1), .int .i64 (x13), .int .i64 (x19), .int .i64 (x21), .int .i64 (x23), .int .i64 0] r23 (v23.setCell ⟨C, 5, none⟩ (.int .i64 (x23))) := st23.set hCb hDC hwC hEC 5 _
                          clear st23
                          go_wp2_with fail
                          clear c0 f0
                          refine (must_any [32] r23 b _ a st23w.err hb st23w.sc st23w.len (by decide)).mono ?_
                          rintro e v24 h0
                          rcases hn : lit [32] r23 with _ | r24
                          · rw [hn] at h0
                            obtain ⟨rfl, hu⟩ := h0
                            have hR := HR.out
                            rw [hn] at hR
                            simp only [Option.bind_none] at hR
                            subst hR
                            unfold badP
                            go_wp2
                            exact ⟨rfl, rfl, st23w.upd.trans hu⟩
                          · rw [hn] at h0
                            obtain ⟨rfl, hk0, hu0⟩ := h0
                            have st24 := st23w.call hCb hDb hb hk0 hu0 (lit_len hn).1
                            have hR := HR.out
                            rw [hn] at hR
                            simp only [Option.bind_some] at hR
                            replace HR := Lib.hid hR
                            clear hR hn hk0 hu0 st23w
                            have e0 : _ = some (Value.int .i64 (x17)) := (st24.cells 0).1
                            have e1 : _ = some (Value.int .i64 (x15 + 1)) := (st24.cells 1).1
                            have e2 : _ = some (Value.int .i64 (x13)) := (st24.cells 2).1
                            have e3 : _ = some (Value.int .i64 (x19)) := (st24.cells 3).1
                            have e4 : _ = some (Value.int .i64 (x21)) := (st24.cells 4).1
                            have e5 : _ = some (Value.int .i64 (x23)) := (st24.cells 5).1
                            have e6 : _ = some (Value.int .i64 (0)) := (st24.cells 6).1
                            have hz := zone_any b r24 _ a (st24.drew).err hb (st24.drew).sc st24.len
                            rcases hn : zone r24 with _ | ⟨z, rz⟩
                            · rw [hn] at hz
                              have hR := HR.out
                              rw [hn] at hR
                              simp only [Option.bind_none] at hR
                              subst hR
                              have HZ := Lib.hid hz
                              clear hz hn
                              go_wp2
                              refine wp_region_any (by kernel_rfl) ?_
                              try (change wpAny _ _ _ _ _ _ _ (World.drew _))
                              refine wpAny_take (i := 1) (v := ?_) rfl (by kernel_rfl) (by kernel_rfl) (by kernel_rfl) (fun _ _ _ h => h) (Or.inl ⟨by rfl, ?_⟩) ?_
                              rotate_left
                              · intro w
                                go_simp
                                try (with_reducible rfl)
                              refine wpAny_ready (rs := [0, 2]) (by kernel_rfl) (by simp) ?_
                              refine AllReady.cons rfl (fun K hK => ?_) (AllReady.cons rfl (fun K hK => ?_) AllReady.nil)
                              · go_simp
                                refine hK _ _ ?_
                                clear hK K
                                refine wpAny_ready (rs := [2]) (by kernel_rfl) (by simp) ?_
                                refine AllReady.cons rfl (fun K hK => ?_) AllReady.nil
                                go_simp
                                go_wp2_with (go_at_call 55; refine HZ.out.mono ?_; rintro e w9 ⟨rfl, hu⟩; unfold badP)
                                exact ⟨rfl, rfl, (st24.drew).upd.trans hu⟩
                              · go_simp
                                go_wp2_with (go_at_call 55; refine HZ.out.mono ?_; rintro e w9 ⟨rfl, hu⟩; unfold badP)
                                exact ⟨rfl, rfl, (st24.drew).upd.trans hu⟩
                            · rw [hn] at hz
                              have hR := HR.out
                              rw [hn] at hR
                              simp only [Option.bind_some] at hR
                              subst hR
                              have hzl := (zone_bd hn).2.2
                              have HZ := Lib.hid hz
                              clear hz hn
                              go_wp2
                              go_region_with ((go_at_call 55; refine HZ.out.mono ?_; rintro e w9 ⟨rfl, hk9, hu9⟩; have st9 := (st24.drew).call hCb hDb hb hk9 hu9 hzl; have q0 : _ = some (Value.int .i64 (x17)) := (st9.cells 0).1; have q1 : _ = some (Value.int .i64 (x15 + 1)) := (st9.cells 1).1; have q2 : _ = some (Value.int .i64 (x13)) := (st9.cells 2).1; have q3 : _ = some (Value.int .i64 (x19)) := (st9.cells 3).1; have q4 : _ = some (Value.int .i64 (x21)) := (st9.cells 4).1; have q5 : _ = some (Value.int .i64 (x23)) := (st9.cells 5).1; have q6 : _ = some (Value.int .i64 (0)) := (st9.cells 6).1; have d0 : _ = some (Value.int .i64 0) := blk_cell st9.res 0; have df0 := blk_free st9.res 0; have d1 : _ = some (Value.int .i64 0) := blk_cell st9.res 1; have df1 := blk_free st9.res 1; have d2 : _ = some (Value.int .i64 0) := blk_cell st9.res 2; have df2 := blk_free st9.res 2; have d3 : _ = some (Value.int .i64 0) := blk_cell st9.res 3; have df3 := blk_free st9.res 3; have d4 : _ = some (Value.int .i64 0) := blk_cell st9.res 4; have df4 := blk_free st9.res 4; have d5 : _ = some (Value.int .i64 0) := blk_cell st9.res 5; have df5 := blk_free st9.res 5; have d6 : _ = some (Value.int .i64 0) := blk_cell st9.res 6; have df6 := blk_free st9.res 6))
                              all_goals
                                go_wp2
                                obtain ⟨g0, g1, g2⟩ := st9.fin hDb (Nat.le_refl _) (.int .i64 (x17)) (.int .i64 (x15 + 1)) (.int .i64 (x13)) (.int .i64 (x19)) (.int .i64 (x21)) (.int .i64 (x23)) (.int .i64 (0))
                                have p0 := blk_cell g0 0
                                have p1 := blk_cell g0 1
                                have p2 := blk_cell g0 2
                                have p3 := blk_cell g0 3
                                have p4 := blk_cell g0 4
                                have p5 := blk_cell g0 5
                                have p6 := blk_cell g0 6
                                simp only [List.getElem?_toArray, List.getElem?_cons_zero, List.getElem?_cons_succ] at p0 p1 p2 p3 p4 p5 p6
                                refine bodyPost_ret (v := .tuple #[.agg #[.int .i64 (x17), .int .i64 (x15 + 1), .int .i64 (x13), .int .i64 (x19), .int .i64 (x21), .int .i64 (x23), .int .i64 0], .int .i64 z]) ?_ rfl ⟨rfl, g1, g2⟩
                                simp [results, Tryd.results52, go_sem, p0, p1, p2, p3, p4, p5, p6]

end Go.Proofs.YthkkdbpblajahaaDoor
