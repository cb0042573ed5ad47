/- Texts of one walk, merged: XD26. -/
import Derived.Test.YtcjnpklmfcbofaaGreatDoorWf
import Derived.Deep.RegionWith

/- The rule of a date field's moments. -/
set_option linter.unusedVariables false
set_option linter.unusedSimpArgs false
section
set_option linter.unusedVariables false
set_option linter.unusedSimpArgs false
namespace Go.Proofs.YtcjnpklmfcbofaaGreatDoor
open Go.RowKit

def mailDay (l : List UInt8) : Option (List UInt8) := if headD l = true then some l else (nm 7 0 daysL l).bind fun q => (lit [44] (skip [32] q.2)).bind fun r => some (skip [32] r)

def ruleMail (l : List UInt8) : Option (RuleD × List UInt8) :=
  (mailDay l).bind fun l0 => (short l0).bind fun q0 => (lit [32] q0.2).bind fun r1 => (nm 12 0 monthsL r1).bind fun q2 => (lit [32] q2.2).bind fun r3 => (num 4 0 r3).bind fun q4 => (lit [32] q4.2).bind fun r5 => (num 2 0 r5).bind fun q6 => (lit [58] q6.2).bind fun r7 => (num 2 0 r7).bind fun q8 => (if ([58] : List UInt8).isPrefixOf q8.2 = true then num 2 0 (skip [58] q8.2) else some (0, skip [58] q8.2)).bind fun q10 => (lit [32] q10.2).bind fun r11 => (zone r11).bind fun q12 => some (((q4.1, q2.1 + 1, q0.1, q6.1, q8.1, q10.1), q12.1), q12.2)


set_option maxRecDepth 100000 in
set_option maxHeartbeats 4000000 in
theorem ruleMail_any (b : Nat) (l : List UInt8) (w : World) (a : Addr) (hc : w.cell? ⟨2, 0, none⟩ = some (errV a)) (hb : 2 ≠ b) (hk : ScAt w b l) (hl : l.length ≤ 140737488355328) :
    Calls Tryz.prog 52 #[.pointer (some ⟨b, 0, none⟩)] w (Rules b a w (ruleMail l)) := by
  obtain ⟨R, hR⟩ : ∃ R, ruleMail l = R := ⟨_, rfl⟩
  rw [hR]
  unfold ruleMail mailDay at hR
  have HR := Lib.hid hR
  clear hR
  have hblt := sc_lt hk
  have hlt : 2 < w.heap.size := cell_lt hc
  have hDb : w.heap.size ≠ b := by omega
  go_enter Tryz.func52, Tryz.ntmps52
  go_wp2_with fail

  obtain ⟨W1, hW1⟩ : ∃ W1, (w.alloc (.cells #[.int .i64 0, .int .i64 0, .int .i64 0, .int .i64 0, .int .i64 0, .int .i64 0, .int .i64 0] 64)).alloc (.cells #[.int .i64 0, .int .i64 0, .int .i64 0, .int .i64 0, .int .i64 0, .int .i64 0, .int .i64 0] 64) = W1 := ⟨_, rfl⟩
  obtain ⟨C, hC⟩ : ∃ C, w.heap.size + 1 = C := ⟨_, rfl⟩
  have st0 : St w b C w.heap.size a #[.int .i64 0, .int .i64 0, .int .i64 0, .int .i64 0, .int .i64 0, .int .i64 0, .int .i64 0] l W1 := by
    rw [← hW1, ← hC]
    exact ⟨(heap_old _ _ _ (by simp; omega)).trans ((heap_old _ _ _ hblt).trans hk), ((Upd.refl b w).alloc _).alloc _, by have := heap_new (w.alloc (.cells #[.int .i64 0, .int .i64 0, .int .i64 0, .int .i64 0, .int .i64 0, .int .i64 0, .int .i64 0] 64)) (.cells #[.int .i64 0, .int .i64 0, .int .i64 0, .int .i64 0, .int .i64 0, .int .i64 0, .int .i64 0] 64); rw [size_alloc] at this; exact this, (heap_old _ _ _ (by simp)).trans (heap_new _ _), cell_alloc (cell_alloc hc _) _, hl⟩
  have hCb : C ≠ b := by omega
  have hDC : w.heap.size ≠ C := by omega
  have hwC : w.heap.size ≤ C := by omega
  have hEC : 2 ≠ C := by omega
  rw [hW1, hC]
  clear hW1 hC hk hc
  refine (digit_any b l _ st0.sc).mono ?_
  rintro e w9 ⟨rfl, hw9⟩
  rw [hw9]
  clear hw9
  have hR := HR.out
  rcases hp : headD l with _ | _
  · rw [hp] at hR
    rw [if_neg (by decide)] at hR
    rw [Option.bind_assoc] at hR
    replace HR := Lib.hid hR
    clear hR hp
    go_wp2_with fail
    refine (name_any b 7 daysL l _ a st0.err hb st0.sc (by decide) (by decide) st0.len).mono ?_
    rintro e v1 h0
    rcases hn : nm 7 0 daysL l with _ | ⟨x1, r1⟩
    · rw [hn] at h0
      obtain ⟨rfl, hu⟩ := h0
      have hR := HR.out
      rw [hn] at hR
      simp only [Option.bind_none] at hR
      subst hR
      unfold badP
      go_wp2
      exact ⟨rfl, rfl, st0.upd.trans hu⟩
    · rw [hn] at h0
      obtain ⟨rfl, hk0, hu0⟩ := h0
      obtain ⟨_, _, hl0⟩ := nm_bd _ _ _ _ _ _ hn
      have st1 := st0.call hCb hDb hb hk0 hu0 hl0
      have hR := HR.out
      rw [hn] at hR
      simp only [Option.bind_some, Option.bind_assoc] at hR
      replace HR := Lib.hid hR
      clear hR hn hk0 hu0 hl0 st0
      go_wp2_with fail
      refine (is_any [32] r1 b _ st1.sc st1.len (by decide)).mono ?_
      rintro e v2 ⟨rfl, hk0, hu0⟩
      have st2 := st1.call hCb hDb hb hk0 hu0 (skip_len [32] r1)
      obtain ⟨r2, hl0⟩ : ∃ x, skip [32] r1 = x := ⟨_, rfl⟩
      have hR := HR.out
      rw [hl0] at hR st2
      replace HR := Lib.hid hR
      clear hR hl0 hk0 hu0 st1
      go_wp2_with fail
      refine (must_any [44] r2 b _ a st2.err hb st2.sc st2.len (by decide)).mono ?_
      rintro e v3 h0
      rcases hn : lit [44] r2 with _ | r3
      · rw [hn] at h0
        obtain ⟨rfl, hu⟩ := h0
        have hR := HR.out
        rw [hn] at hR
        simp only [Option.bind_none] at hR
        subst hR
        unfold badP
        go_wp2
        exact ⟨rfl, rfl, st2.upd.trans hu⟩
      · rw [hn] at h0
        obtain ⟨rfl, hk0, hu0⟩ := h0
        have st3 := st2.call hCb hDb hb hk0 hu0 (lit_len hn).1
        have hR := HR.out
        rw [hn] at hR
        simp only [Option.bind_some] at hR
        replace HR := Lib.hid hR
        clear hR hn hk0 hu0 st2
        go_wp2_with fail
        refine (is_any [32] r3 b _ st3.sc st3.len (by decide)).mono ?_
        rintro e v4 ⟨rfl, hk0, hu0⟩
        have st4 := st3.call hCb hDb hb hk0 hu0 (skip_len [32] r3)
        obtain ⟨r4, hl0⟩ : ∃ x, skip [32] r3 = x := ⟨_, rfl⟩
        have hR := HR.out
        rw [hl0] at hR st4
        replace HR := Lib.hid hR
        clear hR hl0 hk0 hu0 st3
        go_wp2_with fail
        refine (short_any b r4 _ a st4.err hb st4.sc).mono ?_
        rintro e v5 h0
        rcases hn : short r4 with _ | ⟨x5, r5⟩
        · rw [hn] at h0
          obtain ⟨rfl, hu⟩ := h0
          have hR := HR.out
          rw [hn] at hR
          simp only [Option.bind_none] at hR
          subst hR
          unfold badP
          go_wp2
          exact ⟨rfl, rfl, st4.upd.trans hu⟩
        · rw [hn] at h0
          obtain ⟨rfl, hk0, hu0⟩ := h0
          obtain ⟨x5a, x5b, hl0⟩ := short_bd hn
          have st5 := st4.call hCb hDb hb hk0 hu0 hl0
          have hR := HR.out
          rw [hn] at hR
          simp only [Option.bind_some] at hR
          replace HR := Lib.hid hR
          clear hR hn hk0 hu0 hl0 st4
          obtain ⟨c0, f0⟩ := st5.cells 2
          replace c0 : _ = some (Value.int .i64 0) := c0
          have st5w : St w b C w.heap.size a #[.int .i64 0, .int .i64 0, .int .i64 (x5), .int .i64 0, .int .i64 0, .int .i64 0, .int .i64 0] r5 (v5.setCell ⟨C, 2, none⟩ (.int .i64 (x5))) := st5.set hCb hDC hwC hEC 2 _
          clear st5
          go_wp2_with fail
          clear c0 f0
          refine (must_any [32] r5 b _ a st5w.err hb st5w.sc st5w.len (by decide)).mono ?_
          rintro e v6 h0
          rcases hn : lit [32] r5 with _ | r6
          · rw [hn] at h0
            obtain ⟨rfl, hu⟩ := h0
            have hR := HR.out
            rw [hn] at hR
            simp only [Option.bind_none] at hR
            subst hR
            unfold badP
            go_wp2
            exact ⟨rfl, rfl, st5w.upd.trans hu⟩
          · rw [hn] at h0
            obtain ⟨rfl, hk0, hu0⟩ := h0
            have st6 := st5w.call hCb hDb hb hk0 hu0 (lit_len hn).1
            have hR := HR.out
            rw [hn] at hR
            simp only [Option.bind_some] at hR
            replace HR := Lib.hid hR
            clear hR hn hk0 hu0 st5w
            go_wp2_with fail
            refine (name_any b 12 monthsL r6 _ a st6.err hb st6.sc (by decide) (by decide) st6.len).mono ?_
            rintro e v7 h0
            rcases hn : nm 12 0 monthsL r6 with _ | ⟨x7, r7⟩
            · rw [hn] at h0
              obtain ⟨rfl, hu⟩ := h0
              have hR := HR.out
              rw [hn] at hR
              simp only [Option.bind_none] at hR
              subst hR
              unfold badP
              go_wp2
              exact ⟨rfl, rfl, st6.upd.trans hu⟩
            · rw [hn] at h0
              obtain ⟨rfl, hk0, hu0⟩ := h0
              obtain ⟨x7a, x7b, hl0⟩ := nm_bd _ _ _ _ _ _ hn
              simp at x7a x7b
              have st7 := st6.call hCb hDb hb hk0 hu0 hl0
              have hR := HR.out
              rw [hn] at hR
              simp only [Option.bind_some] at hR
              replace HR := Lib.hid hR
              clear hR hn hk0 hu0 hl0 st6
              obtain ⟨c0, f0⟩ := st7.cells 1
              replace c0 : _ = some (Value.int .i64 0) := c0
              have st7w : St w b C w.heap.size a #[.int .i64 0, .int .i64 (x7 + 1), .int .i64 (x5), .int .i64 0, .int .i64 0, .int .i64 0, .int .i64 0] r7 (v7.setCell ⟨C, 1, none⟩ (.int .i64 (x7 + 1))) := st7.set hCb hDC hwC hEC 1 _
              clear st7
              go_wp2_with fail
              clear c0 f0
              refine (must_any [32] r7 b _ a st7w.err hb st7w.sc st7w.len (by decide)).mono ?_
              rintro e v8 h0
              rcases hn : lit [32] r7 with _ | r8
              · rw [hn] at h0
                obtain ⟨rfl, hu⟩ := h0
                have hR := HR.out
                rw [hn] at hR
                simp only [Option.bind_none] at hR
                subst hR
                unfold badP
                go_wp2
                exact ⟨rfl, rfl, st7w.upd.trans hu⟩
              · rw [hn] at h0
                obtain ⟨rfl, hk0, hu0⟩ := h0
                have st8 := st7w.call hCb hDb hb hk0 hu0 (lit_len hn).1
                have hR := HR.out
                rw [hn] at hR
                simp only [Option.bind_some] at hR
                replace HR := Lib.hid hR
                clear hR hn hk0 hu0 st7w
                go_wp2_with fail
                refine (number_any b 4 r8 _ a st8.err hb st8.sc (by decide)).mono ?_
                rintro e v9 h0
                rcases hn : num 4 0 r8 with _ | ⟨x9, r9⟩
                · rw [hn] at h0
                  obtain ⟨rfl, hu⟩ := h0
                  have hR := HR.out
                  rw [hn] at hR
                  simp only [Option.bind_none] at hR
                  subst hR
                  unfold badP
                  go_wp2
                  exact ⟨rfl, rfl, st8.upd.trans hu⟩
                · rw [hn] at h0
                  obtain ⟨rfl, hk0, hu0⟩ := h0
                  obtain ⟨x9a, x9b, hl0⟩ := num_bd _ _ _ _ _ hn (by omega)
                  simp at x9b
                  have st9 := st8.call hCb hDb hb hk0 hu0 hl0
                  have hR := HR.out
                  rw [hn] at hR
                  simp only [Option.bind_some] at hR
                  replace HR := Lib.hid hR
                  clear hR hn hk0 hu0 hl0 st8
                  obtain ⟨c0, f0⟩ := st9.cells 0
                  replace c0 : _ = some (Value.int .i64 0) := c0
                  have st9w : St w b C w.heap.size a #[.int .i64 (x9), .int .i64 (x7 + 1), .int .i64 (x5), .int .i64 0, .int .i64 0, .int .i64 0, .int .i64 0] r9 (v9.setCell ⟨C, 0, none⟩ (.int .i64 (x9))) := st9.set hCb hDC hwC hEC 0 _
                  clear st9
                  go_wp2_with fail
                  clear c0 f0
                  refine (must_any [32] r9 b _ a st9w.err hb st9w.sc st9w.len (by decide)).mono ?_
                  rintro e v10 h0
                  rcases hn : lit [32] r9 with _ | r10
                  · rw [hn] at h0
                    obtain ⟨rfl, hu⟩ := h0
                    have hR := HR.out
                    rw [hn] at hR
                    simp only [Option.bind_none] at hR
                    subst hR
                    unfold badP
                    go_wp2
                    exact ⟨rfl, rfl, st9w.upd.trans hu⟩
                  · rw [hn] at h0
                    obtain ⟨rfl, hk0, hu0⟩ := h0
                    have st10 := st9w.call hCb hDb hb hk0 hu0 (lit_len hn).1
                    have hR := HR.out
                    rw [hn] at hR
                    simp only [Option.bind_some] at hR
                    replace HR := Lib.hid hR
                    clear hR hn hk0 hu0 st9w
                    go_wp2_with fail
                    refine (number_any b 2 r10 _ a st10.err hb st10.sc (by decide)).mono ?_
                    rintro e v11 h0
                    rcases hn : num 2 0 r10 with _ | ⟨x11, r11⟩
                    · rw [hn] at h0
                      obtain ⟨rfl, hu⟩ := h0
                      have hR := HR.out
                      rw [hn] at hR
                      simp only [Option.bind_none] at hR
                      subst hR
                      unfold badP
                      go_wp2
                      exact ⟨rfl, rfl, st10.upd.trans hu⟩
                    · rw [hn] at h0
                      obtain ⟨rfl, hk0, hu0⟩ := h0
                      obtain ⟨x11a, x11b, hl0⟩ := num_bd _ _ _ _ _ hn (by omega)
                      simp at x11b
                      have st11 := st10.call hCb hDb hb hk0 hu0 hl0
                      have hR := HR.out
                      rw [hn] at hR
                      simp only [Option.bind_some] at hR
                      replace HR := Lib.hid hR
                      clear hR hn hk0 hu0 hl0 st10
                      obtain ⟨c0, f0⟩ := st11.cells 3
                      replace c0 : _ = some (Value.int .i64 0) := c0
                      have st11w : St w b C w.heap.size a #[.int .i64 (x9), .int .i64 (x7 + 1), .int .i64 (x5), .int .i64 (x11), .int .i64 0, .int .i64 0, .int .i64 0] r11 (v11.setCell ⟨C, 3, none⟩ (.int .i64 (x11))) := st11.set hCb hDC hwC hEC 3 _
                      clear st11
                      go_wp2_with fail
                      clear c0 f0
                      refine (must_any [58] r11 b _ a st11w.err hb st11w.sc st11w.len (by decide)).mono ?_
                      rintro e v12 h0
                      rcases hn : lit [58] r11 with _ | r12
                      · rw [hn] at h0
                        obtain ⟨rfl, hu⟩ := h0
                        have hR := HR.out
                        rw [hn] at hR
                        simp only [Option.bind_none] at hR
                        subst hR
                        unfold badP
                        go_wp2
                        exact ⟨rfl, rfl, st11w.upd.trans hu⟩
                      · rw [hn] at h0
                        obtain ⟨rfl, hk0, hu0⟩ := h0
                        have st12 := st11w.call hCb hDb hb hk0 hu0 (lit_len hn).1
                        have hR := HR.out
                        rw [hn] at hR
                        simp only [Option.bind_some] at hR
                        replace HR := Lib.hid hR
                        clear hR hn hk0 hu0 st11w
                        go_wp2_with fail
                        refine (number_any b 2 r12 _ a st12.err hb st12.sc (by decide)).mono ?_
                        rintro e v13 h0
                        rcases hn : num 2 0 r12 with _ | ⟨x13, r13⟩
                        · rw [hn] at h0
                          obtain ⟨rfl, hu⟩ := h0
                          have hR := HR.out
                          rw [hn] at hR
                          simp only [Option.bind_none] at hR
                          subst hR
                          unfold badP
                          go_wp2
                          exact ⟨rfl, rfl, st12.upd.trans hu⟩
                        · rw [hn] at h0
                          obtain ⟨rfl, hk0, hu0⟩ := h0
                          obtain ⟨x13a, x13b, hl0⟩ := num_bd _ _ _ _ _ hn (by omega)
                          simp at x13b
                          have st13 := st12.call hCb hDb hb hk0 hu0 hl0
                          have hR := HR.out
                          rw [hn] at hR
                          simp only [Option.bind_some] at hR
                          replace HR := Lib.hid hR
                          clear hR hn hk0 hu0 hl0 st12
                          obtain ⟨c0, f0⟩ := st13.cells 4
                          replace c0 : _ = some (Value.int .i64 0) := c0
                          have st13w : St w b C w.heap.size a #[.int .i64 (x9), .int .i64 (x7 + 1), .int .i64 (x5), .int .i64 (x11), .int .i64 (x13), .int .i64 0, .int .i64 0] r13 (v13.setCell ⟨C, 4, none⟩ (.int .i64 (x13))) := st13.set hCb hDC hwC hEC 4 _
                          clear st13
                          go_wp2_with fail
                          clear c0 f0
                          refine (is_any [58] r13 b _ st13w.sc st13w.len (by decide)).mono ?_
                          rintro e v14 ⟨rfl, hk0, hu0⟩
                          have st14 := st13w.call hCb hDb hb hk0 hu0 (skip_len [58] r13)
                          obtain ⟨r14, hl0⟩ : ∃ x, skip [58] r13 = x := ⟨_, rfl⟩
                          have hR := HR.out
                          rw [hl0] at hR st14
                          clear hk0 hu0 st13w
                          rcases hp : ([58] : List UInt8).isPrefixOf r13 with _ | _
                          · rw [hp] at hR
                            rw [if_neg (by decide)] at hR
                            simp only [Option.bind_some] at hR
                            replace HR := Lib.hid hR
                            clear hR hp hl0
                            go_wp2_with fail
                            refine (must_any [32] r14 b _ a st14.err hb st14.sc st14.len (by decide)).mono ?_
                            rintro e v15 h0
                            rcases hn : lit [32] r14 with _ | r15
                            · rw [hn] at h0
                              obtain ⟨rfl, hu⟩ := h0
                              have hR := HR.out
                              rw [hn] at hR
                              simp only [Option.bind_none] at hR
                              subst hR
                              unfold badP
                              go_wp2
                              exact ⟨rfl, rfl, st14.upd.trans hu⟩
                            · rw [hn] at h0
                              obtain ⟨rfl, hk0, hu0⟩ := h0
                              have st15 := st14.call hCb hDb hb hk0 hu0 (lit_len hn).1
                              have hR := HR.out
                              rw [hn] at hR
                              simp only [Option.bind_some] at hR
                              replace HR := Lib.hid hR
                              clear hR hn hk0 hu0 st14
                              have e0 : _ = some (Value.int .i64 (x9)) := (st15.cells 0).1
                              have e1 : _ = some (Value.int .i64 (x7 + 1)) := (st15.cells 1).1
                              have e2 : _ = some (Value.int .i64 (x5)) := (st15.cells 2).1
                              have e3 : _ = some (Value.int .i64 (x11)) := (st15.cells 3).1
                              have e4 : _ = some (Value.int .i64 (x13)) := (st15.cells 4).1
                              have e5 : _ = some (Value.int .i64 (0)) := (st15.cells 5).1
                              have e6 : _ = some (Value.int .i64 (0)) := (st15.cells 6).1
                              have hz := zone_any b r15 _ a (st15.drew).err hb (st15.drew).sc st15.len
                              rcases hn : zone r15 with _ | ⟨z, rz⟩
                              · rw [hn] at hz
                                have hR := HR.out
                                rw [hn] at hR
                                simp only [Option.bind_none] at hR
                                subst hR
                                have HZ := Lib.hid hz
                                clear hz hn
                                go_wp2
                                refine wp_region_any (by kernel_rfl) ?_
                                try (change wpAny _ _ _ _ _ _ _ (World.drew _))
                                refine wpAny_take (i := 1) (v := ?_) rfl (by kernel_rfl) (by kernel_rfl) (by kernel_rfl) (fun _ _ _ h => h) (Or.inl ⟨by rfl, ?_⟩) ?_
                                rotate_left
                                · intro w
                                  go_simp
                                  try (with_reducible rfl)
                                refine wpAny_ready (rs := [0, 2]) (by kernel_rfl) (by simp) ?_
                                refine AllReady.cons rfl (fun K hK => ?_) (AllReady.cons rfl (fun K hK => ?_) AllReady.nil)
                                · go_simp
                                  refine hK _ _ ?_
                                  clear hK K
                                  refine wpAny_ready (rs := [2]) (by kernel_rfl) (by simp) ?_
                                  refine AllReady.cons rfl (fun K hK => ?_) AllReady.nil
                                  go_simp
                                  go_wp2_with (go_at_call 59; refine HZ.out.mono ?_; rintro e w9 ⟨rfl, hu⟩; unfold badP)
                                  exact ⟨rfl, rfl, (st15.drew).upd.trans hu⟩
                                · go_simp
                                  go_wp2_with (go_at_call 59; refine HZ.out.mono ?_; rintro e w9 ⟨rfl, hu⟩; unfold badP)
                                  exact ⟨rfl, rfl, (st15.drew).upd.trans hu⟩
                              · rw [hn] at hz
                                have hR := HR.out
                                rw [hn] at hR
                                simp only [Option.bind_some] at hR
                                subst hR
                                have hzl := (zone_bd hn).2.2
                                have HZ := Lib.hid hz
                                clear hz hn
                                go_wp2
                                go_region_with ((go_at_call 59; refine HZ.out.mono ?_; rintro e w9 ⟨rfl, hk9, hu9⟩; have st9 := (st15.drew).call hCb hDb hb hk9 hu9 hzl; have q0 : _ = some (Value.int .i64 (x9)) := (st9.cells 0).1; have q1 : _ = some (Value.int .i64 (x7 + 1)) := (st9.cells 1).1; have q2 : _ = some (Value.int .i64 (x5)) := (st9.cells 2).1; have q3 : _ = some (Value.int .i64 (x11)) := (st9.cells 3).1; have q4 : _ = some (Value.int .i64 (x13)) := (st9.cells 4).1; have q5 : _ = some (Value.int .i64 (0)) := (st9.cells 5).1; have q6 : _ = some (Value.int .i64 (0)) := (st9.cells 6).1; have d0 : _ = some (Value.int .i64 0) := blk_cell st9.res 0; have df0 := blk_free st9.res 0; have d1 : _ = some (Value.int .i64 0) := blk_cell st9.res 1; have df1 := blk_free st9.res 1; have d2 : _ = some (Value.int .i64 0) := blk_cell st9.res 2; have df2 := blk_free st9.res 2; have d3 : _ = some (Value.int .i64 0) := blk_cell st9.res 3; have df3 := blk_free st9.res 3; have d4 : _ = some (Value.int .i64 0) := blk_cell st9.res 4; have df4 := blk_free st9.res 4; have d5 : _ = some (Value.int .i64 0) := blk_cell st9.res 5; have df5 := blk_free st9.res 5; have d6 : _ = some (Value.int .i64 0) := blk_cell st9.res 6; have df6 := blk_free st9.res 6))
                                all_goals
                                  go_wp2
                                  obtain ⟨g0, g1, g2⟩ := st9.fin hDb (Nat.le_refl _) (.int .i64 (x9)) (.int .i64 (x7 + 1)) (.int .i64 (x5)) (.int .i64 (x11)) (.int .i64 (x13)) (.int .i64 (0)) (.int .i64 (0))
                                  have p0 := blk_cell g0 0
                                  have p1 := blk_cell g0 1
                                  have p2 := blk_cell g0 2
                                  have p3 := blk_cell g0 3
                                  have p4 := blk_cell g0 4
                                  have p5 := blk_cell g0 5
                                  have p6 := blk_cell g0 6
                                  simp only [List.getElem?_toArray, List.getElem?_cons_zero, List.getElem?_cons_succ] at p0 p1 p2 p3 p4 p5 p6
                                  refine bodyPost_ret (v := .tuple #[.agg #[.int .i64 (x9), .int .i64 (x7 + 1), .int .i64 (x5), .int .i64 (x11), .int .i64 (x13), .int .i64 0, .int .i64 0], .int .i64 z]) ?_ rfl ⟨rfl, g1, g2⟩
                                  simp [results, Tryz.results52, go_sem, p0, p1, p2, p3, p4, p5, p6]
                          · rw [hp] at hR
                            rw [if_pos rfl] at hR
                            replace HR := Lib.hid hR
                            clear hR hp hl0
                            go_wp2_with fail
                            refine (number_any b 2 r14 _ a st14.err hb st14.sc (by decide)).mono ?_
                            rintro e v16 h0
                            rcases hn : num 2 0 r14 with _ | ⟨x16, r16⟩
                            · rw [hn] at h0
                              obtain ⟨rfl, hu⟩ := h0
                              have hR := HR.out
                              rw [hn] at hR
                              simp only [Option.bind_none] at hR
                              subst hR
                              unfold badP
                              go_wp2
                              exact ⟨rfl, rfl, st14.upd.trans hu⟩
                            · rw [hn] at h0
                              obtain ⟨rfl, hk0, hu0⟩ := h0
                              obtain ⟨x16a, x16b, hl0⟩ := num_bd _ _ _ _ _ hn (by omega)
                              simp at x16b
                              have st16 := st14.call hCb hDb hb hk0 hu0 hl0
                              have hR := HR.out
                              rw [hn] at hR
                              simp only [Option.bind_some] at hR
                              replace HR := Lib.hid hR
                              clear hR hn hk0 hu0 hl0 st14
                              obtain ⟨c0, f0⟩ := st16.cells 5
                              replace c0 : _ = some (Value.int .i64 0) := c0
                              have st16w : St w b C w.heap.size a #[.int .i64 (x9), .int .i64 (x7 + 1), .int .i64 (x5), .int .i64 (x11), .int .i64 (x13), .int .i64 (x16), .int .i64 0] r16 (v16.setCell ⟨C, 5, none⟩ (.int .i64 (x16))) := st16.set hCb hDC hwC hEC 5 _
                              clear st16
                              go_wp2_with fail
                              clear c0 f0
                              refine (must_any [32] r16 b _ a st16w.err hb st16w.sc st16w.len (by decide)).mono ?_
                              rintro e v17 h0
                              rcases hn : lit [32] r16 with _ | r17
                              · rw [hn] at h0
                                obtain ⟨rfl, hu⟩ := h0
                                have hR := HR.out
                                rw [hn] at hR
                                simp only [Option.bind_none] at hR
                                subst hR
                                unfold badP
                                go_wp2
                                exact ⟨rfl, rfl, st16w.upd.trans hu⟩
                              · rw [hn] at h0
                                obtain ⟨rfl, hk0, hu0⟩ := h0
                                have st17 := st16w.call hCb hDb hb hk0 hu0 (lit_len hn).1
                                have hR := HR.out
                                rw [hn] at hR
                                simp only [Option.bind_some] at hR
                                replace HR := Lib.hid hR
                                clear hR hn hk0 hu0 st16w
                                have e0 : _ = some (Value.int .i64 (x9)) := (st17.cells 0).1
                                have e1 : _ = some (Value.int .i64 (x7 + 1)) := (st17.cells 1).1
                                have e2 : _ = some (Value.int .i64 (x5)) := (st17.cells 2).1
                                have e3 : _ = some (Value.int .i64 (x11)) := (st17.cells 3).1
                                have e4 : _ = some (Value.int .i64 (x13)) := (st17.cells 4).1
                                have e5 : _ = some (Value.int .i64 (x16)) := (st17.cells 5).1
                                have e6 : _ = some (Value.int .i64 (0)) := (st17.cells 6).1
                                have hz := zone_any b r17 _ a (st17.drew).err hb (st17.drew).sc st17.len
                                rcases hn : zone r17 with _ | ⟨z, rz⟩
                                · rw [hn] at hz
                                  have hR := HR.out
                                  rw [hn] at hR
                                  simp only [Option.bind_none] at hR
                                  subst hR
                                  have HZ := Lib.hid hz
                                  clear hz hn
                                  go_wp2
                                  refine wp_region_any (by kernel_rfl) ?_
                                  try (change wpAny _ _ _ _ _ _ _ (World.drew _))
                                  refine wpAny_take (i := 1) (v := ?_) rfl (by kernel_rfl) (by kernel_rfl) (by kernel_rfl) (fun _ _ _ h => h) (Or.inl ⟨by rfl, ?_⟩) ?_
                                  rotate_left
                                  · intro w
                                    go_simp
                                    try (with_reducible rfl)
                                  refine wpAny_ready (rs := [0, 2]) (by kernel_rfl) (by simp) ?_
                                  refine AllReady.cons rfl (fun K hK => ?_) (AllReady.cons rfl (fun K hK => ?_) AllReady.nil)
                                  · go_simp
                                    refine hK _ _ ?_
                                    clear hK K
                                    refine wpAny_ready (rs := [2]) (by kernel_rfl) (by simp) ?_
                                    refine AllReady.cons rfl (fun K hK => ?_) AllReady.nil
                                    go_simp
                                    go_wp2_with (go_at_call 59; refine HZ.out.mono ?_; rintro e w9 ⟨rfl, hu⟩; unfold badP)
                                    exact ⟨rfl, rfl, (st17.drew).upd.trans hu⟩
                                  · go_simp
                                    go_wp2_with (go_at_call 59; refine HZ.out.mono ?_; rintro e w9 ⟨rfl, hu⟩; unfold badP)
                                    exact ⟨rfl, rfl, (st17.drew).upd.trans hu⟩
                                · rw [hn] at hz
                                  have hR := HR.out
                                  rw [hn] at hR
                                  simp only [Option.bind_some] at hR
                                  subst hR
                                  have hzl := (zone_bd hn).2.2
                                  have HZ := Lib.hid hz
                                  clear hz hn
                                  go_wp2
                                  go_region_with ((go_at_call 59; refine HZ.out.mono ?_; rintro e w9 ⟨rfl, hk9, hu9⟩; have st9 := (st17.drew).call hCb hDb hb hk9 hu9 hzl; have q0 : _ = some (Value.int .i64 (x9)) := (st9.cells 0).1; have q1 : _ = some (Value.int .i64 (x7 + 1)) := (st9.cells 1).1; have q2 : _ = some (Value.int .i64 (x5)) := (st9.cells 2).1; have q3 : _ = some (Value.int .i64 (x11)) := (st9.cells 3).1; have q4 : _ = some (Value.int .i64 (x13)) := (st9.cells 4).1; have q5 : _ = some (Value.int .i64 (x16)) := (st9.cells 5).1; have q6 : _ = some (Value.int .i64 (0)) := (st9.cells 6).1; have d0 : _ = some (Value.int .i64 0) := blk_cell st9.res 0; have df0 := blk_free st9.res 0; have d1 : _ = some (Value.int .i64 0) := blk_cell st9.res 1; have df1 := blk_free st9.res 1; have d2 : _ = some (Value.int .i64 0) := blk_cell st9.res 2; have df2 := blk_free st9.res 2; have d3 : _ = some (Value.int .i64 0) := blk_cell st9.res 3; have df3 := blk_free st9.res 3; have d4 : _ = some (Value.int .i64 0) := blk_cell st9.res 4; have df4 := blk_free st9.res 4; have d5 : _ = some (Value.int .i64 0) := blk_cell st9.res 5; have df5 := blk_free st9.res 5; have d6 : _ = some (Value.int .i64 0) := blk_cell st9.res 6; have df6 := blk_free st9.res 6))
                                  all_goals
                                    go_wp2
                                    obtain ⟨g0, g1, g2⟩ := st9.fin hDb (Nat.le_refl _) (.int .i64 (x9)) (.int .i64 (x7 + 1)) (.int .i64 (x5)) (.int .i64 (x11)) (.int .i64 (x13)) (.int .i64 (x16)) (.int .i64 (0))
                                    have p0 := blk_cell g0 0
                                    have p1 := blk_cell g0 1
                                    have p2 := blk_cell g0 2
                                    have p3 := blk_cell g0 3
                                    have p4 := blk_cell g0 4
                                    have p5 := blk_cell g0 5
                                    have p6 := blk_cell g0 6
                                    simp only [List.getElem?_toArray, List.getElem?_cons_zero, List.getElem?_cons_succ] at p0 p1 p2 p3 p4 p5 p6
                                    refine bodyPost_ret (v := .tuple #[.agg #[.int .i64 (x9), .int .i64 (x7 + 1), .int .i64 (x5), .int .i64 (x11), .int .i64 (x13), .int .i64 (x16), .int .i64 0], .int .i64 z]) ?_ rfl ⟨rfl, g1, g2⟩
                                    simp [results, Tryz.results52, go_sem, p0, p1, p2, p3, p4, p5, p6]
  · rw [hp] at hR
    rw [if_pos rfl] at hR
    simp only [Option.bind_some] at hR
    replace HR := Lib.hid hR
    clear hR hp
    go_wp2_with fail
    refine (short_any b l _ a st0.err hb st0.sc).mono ?_
    rintro e v18 h0
    rcases hn : short l with _ | ⟨x18, r18⟩
    · rw [hn] at h0
      obtain ⟨rfl, hu⟩ := h0
      have hR := HR.out
      rw [hn] at hR
      simp only [Option.bind_none] at hR
      subst hR
      unfold badP
      go_wp2
      exact ⟨rfl, rfl, st0.upd.trans hu⟩
    · rw [hn] at h0
      obtain ⟨rfl, hk0, hu0⟩ := h0
      obtain ⟨x18a, x18b, hl0⟩ := short_bd hn
      have st18 := st0.call hCb hDb hb hk0 hu0 hl0
      have hR := HR.out
      rw [hn] at hR
      simp only [Option.bind_some] at hR
      replace HR := Lib.hid hR
      clear hR hn hk0 hu0 hl0 st0
      obtain ⟨c0, f0⟩ := st18.cells 2
      replace c0 : _ = some (Value.int .i64 0) := c0
      have st18w : St w b C w.heap.size a #[.int .i64 0, .int .i64 0, .int .i64 (x18), .int .i64 0, .int .i64 0, .int .i64 0, .int .i64 0] r18 (v18.setCell ⟨C, 2, none⟩ (.int .i64 (x18))) := st18.set hCb hDC hwC hEC 2 _
      clear st18
      go_wp2_with fail
      clear c0 f0
      refine (must_any [32] r18 b _ a st18w.err hb st18w.sc st18w.len (by decide)).mono ?_
      rintro e v19 h0
      rcases hn : lit [32] r18 with _ | r19
      · rw [hn] at h0
        obtain ⟨rfl, hu⟩ := h0
        have hR := HR.out
        rw [hn] at hR
        simp only [Option.bind_none] at hR
        subst hR
        unfold badP
        go_wp2
        exact ⟨rfl, rfl, st18w.upd.trans hu⟩
      · rw [hn] at h0
        obtain ⟨rfl, hk0, hu0⟩ := h0
        have st19 := st18w.call hCb hDb hb hk0 hu0 (lit_len hn).1
        have hR := HR.out
        rw [hn] at hR
        simp only [Option.bind_some] at hR
        replace HR := Lib.hid hR
        clear hR hn hk0 hu0 st18w
        go_wp2_with fail
        refine (name_any b 12 monthsL r19 _ a st19.err hb st19.sc (by decide) (by decide) st19.len).mono ?_
        rintro e v20 h0
        rcases hn : nm 12 0 monthsL r19 with _ | ⟨x20, r20⟩
        · rw [hn] at h0
          obtain ⟨rfl, hu⟩ := h0
          have hR := HR.out
          rw [hn] at hR
          simp only [Option.bind_none] at hR
          subst hR
          unfold badP
          go_wp2
          exact ⟨rfl, rfl, st19.upd.trans hu⟩
        · rw [hn] at h0
          obtain ⟨rfl, hk0, hu0⟩ := h0
          obtain ⟨x20a, x20b, hl0⟩ := nm_bd _ _ _ _ _ _ hn
          simp at x20a x20b
          have st20 := st19.call hCb hDb hb hk0 hu0 hl0
          have hR := HR.out
          rw [hn] at hR
          simp only [Option.bind_some] at hR
          replace HR := Lib.hid hR
          clear hR hn hk0 hu0 hl0 st19
          obtain ⟨c0, f0⟩ := st20.cells 1
          replace c0 : _ = some (Value.int .i64 0) := c0
          have st20w : St w b C w.heap.size a #[.int .i64 0, .int .i64 (x20 + 1), .int .i64 (x18), .int .i64 0, .int .i64 0, .int .i64 0, .int .i64 0] r20 (v20.setCell ⟨C, 1, none⟩ (.int .i64 (x20 + 1))) := st20.set hCb hDC hwC hEC 1 _
          clear st20
          go_wp2_with fail
          clear c0 f0
          refine (must_any [32] r20 b _ a st20w.err hb st20w.sc st20w.len (by decide)).mono ?_
          rintro e v21 h0
          rcases hn : lit [32] r20 with _ | r21
          · rw [hn] at h0
            obtain ⟨rfl, hu⟩ := h0
            have hR := HR.out
            rw [hn] at hR
            simp only [Option.bind_none] at hR
            subst hR
            unfold badP
            go_wp2
            exact ⟨rfl, rfl, st20w.upd.trans hu⟩
          · rw [hn] at h0
            obtain ⟨rfl, hk0, hu0⟩ := h0
            have st21 := st20w.call hCb hDb hb hk0 hu0 (lit_len hn).1
            have hR := HR.out
            rw [hn] at hR
            simp only [Option.bind_some] at hR
            replace HR := Lib.hid hR
            clear hR hn hk0 hu0 st20w
            go_wp2_with fail
            refine (number_any b 4 r21 _ a st21.err hb st21.sc (by decide)).mono ?_
            rintro e v22 h0
            rcases hn : num 4 0 r21 with _ | ⟨x22, r22⟩
            · rw [hn] at h0
              obtain ⟨rfl, hu⟩ := h0
              have hR := HR.out
              rw [hn] at hR
              simp only [Option.bind_none] at hR
              subst hR
              unfold badP
              go_wp2
              exact ⟨rfl, rfl, st21.upd.trans hu⟩
            · rw [hn] at h0
              obtain ⟨rfl, hk0, hu0⟩ := h0
              obtain ⟨x22a, x22b, hl0⟩ := num_bd _ _ _ _ _ hn (by omega)
              simp at x22b
              have st22 := st21.call hCb hDb hb hk0 hu0 hl0
              have hR := HR.out
              rw [hn] at hR
              simp only [Option.bind_some] at hR
              replace HR := Lib.hid hR
              clear hR hn hk0 hu0 hl0 st21
              obtain ⟨c0, f0⟩ := st22.cells 0
              replace c0 : _ = some (Value.int .i64 0) := c0
              have st22w : St w b C w.heap.size a #[.int .i64 (x22), .int .i64 (x20 + 1), .int .i64 (x18), .int .i64 0, .int .i64 0, .int .i64 0, .int .i64 0] r22 (v22.setCell ⟨C, 0, none⟩ (.int .i64 (x22))) := st22.set hCb hDC hwC hEC 0 _
              clear st22
              go_wp2_with fail
              clear c0 f0
              refine (must_any [32] r22 b _ a st22w.err hb st22w.sc st22w.len (by decide)).mono ?_
              rintro e v23 h0
              rcases hn : lit [32] r22 with _ | r23
              · rw [hn] at h0
                obtain ⟨rfl, hu⟩ := h0
                have hR := HR.out
                rw [hn] at hR
                simp only [Option.bind_none] at hR
                subst hR
                unfold badP
                go_wp2
                exact ⟨rfl, rfl, st22w.upd.trans hu⟩
              · rw [hn] at h0
                obtain ⟨rfl, hk0, hu0⟩ := h0
                have st23 := st22w.call hCb hDb hb hk0 hu0 (lit_len hn).1
                have hR := HR.out
                rw [hn] at hR
                simp only [Option.bind_some] at hR
                replace HR := Lib.hid hR
                clear hR hn hk0 hu0 st22w
                go_wp2_with fail
                refine (number_any b 2 r23 _ a st23.err hb st23.sc (by decide)).mono ?_
                rintro e v24 h0
                rcases hn : num 2 0 r23 with _ | ⟨x24, r24⟩
                · rw [hn] at h0
                  obtain ⟨rfl, hu⟩ := h0
                  have hR := HR.out
                  rw [hn] at hR
                  simp only [Option.bind_none] at hR
                  subst hR
                  unfold badP
                  go_wp2
                  exact ⟨rfl, rfl, st23.upd.trans hu⟩
                · rw [hn] at h0
                  obtain ⟨rfl, hk0, hu0⟩ := h0
                  obtain ⟨x24a, x24b, hl0⟩ := num_bd _ _ _ _ _ hn (by omega)
                  simp at x24b
                  have st24 := st23.call hCb hDb hb hk0 hu0 hl0
                  have hR := HR.out
                  rw [hn] at hR
                  simp only [Option.bind_some] at hR
                  replace HR := Lib.hid hR
                  clear hR hn hk0 hu0 hl0 st23
                  obtain ⟨c0, f0⟩ := st24.cells 3
                  replace c0 : _ = some (Value.int .i64 0) := c0
                  have st24w : St w b C w.heap.size a #[.int .i64 (x22), .int .i64 (x20 + 1), .int .i64 (x18), .int .i64 (x24), .int .i64 0, .int .i64 0, .int .i64 0] r24 (v24.setCell ⟨C, 3, none⟩ (.int .i64 (x24))) := st24.set hCb hDC hwC hEC 3 _
                  clear st24
                  go_wp2_with fail
                  clear c0 f0
                  refine (must_any [58] r24 b _ a st24w.err hb st24w.sc st24w.len (by decide)).mono ?_
                  rintro e v25 h0
                  rcases hn : lit [58] r24 with _ | r25
                  · rw [hn] at h0
                    obtain ⟨rfl, hu⟩ := h0
                    have hR := HR.out
                    rw [hn] at hR
                    simp only [Option.bind_none] at hR
                    subst hR
                    unfold badP
                    go_wp2
                    exact ⟨rfl, rfl, st24w.upd.trans hu⟩
                  · rw [hn] at h0
                    obtain ⟨rfl, hk0, hu0⟩ := h0
                    have st25 := st24w.call hCb hDb hb hk0 hu0 (lit_len hn).1
                    have hR := HR.out
                    rw [hn] at hR
                    simp only [Option.bind_some] at hR
                    replace HR := Lib.hid hR
                    clear hR hn hk0 hu0 st24w
                    go_wp2_with fail
                    refine (number_any b 2 r25 _ a st25.err hb st25.sc (by decide)).mono ?_
                    rintro e v26 h0
                    rcases hn : num 2 0 r25 with _ | ⟨x26, r26⟩
                    · rw [hn] at h0
                      obtain ⟨rfl, hu⟩ := h0
                      have hR := HR.out
                      rw [hn] at hR
                      simp only [Option.bind_none] at hR
                      subst hR
                      unfold badP
                      go_wp2
                      exact ⟨rfl, rfl, st25.upd.trans hu⟩
                    · rw [hn] at h0
                      obtain ⟨rfl, hk0, hu0⟩ := h0
                      obtain ⟨x26a, x26b, hl0⟩ := num_bd _ _ _ _ _ hn (by omega)
                      simp at x26b
                      have st26 := st25.call hCb hDb hb hk0 hu0 hl0
                      have hR := HR.out
                      rw [hn] at hR
                      simp only [Option.bind_some] at hR
                      replace HR := Lib.hid hR
                      clear hR hn hk0 hu0 hl0 st25
                      obtain ⟨c0, f0⟩ := st26.cells 4
                      replace c0 : _ = some (Value.int .i64 0) := c0
                      have st26w : St w b C w.heap.size a #[.int .i64 (x22), .int .i64 (x20 + 1), .int .i64 (x18), .int .i64 (x24), .int .i64 (x26), .int .i64 0, .int .i64 0] r26 (v26.setCell ⟨C, 4, none⟩ (.int .i64 (x26))) := st26.set hCb hDC hwC hEC 4 _
                      clear st26
                      go_wp2_with fail
                      clear c0 f0
                      refine (is_any [58] r26 b _ st26w.sc st26w.len (by decide)).mono ?_
                      rintro e v27 ⟨rfl, hk0, hu0⟩
                      have st27 := st26w.call hCb hDb hb hk0 hu0 (skip_len [58] r26)
                      obtain ⟨r27, hl0⟩ : ∃ x, skip [58] r26 = x := ⟨_, rfl⟩
                      have hR := HR.out
                      rw [hl0] at hR st27
                      clear hk0 hu0 st26w
                      rcases hp : ([58] : List UInt8).isPrefixOf r26 with _ | _
                      · rw [hp] at hR
                        rw [if_neg (by decide)] at hR
                        simp only [Option.bind_some] at hR
                        replace HR := Lib.hid hR
                        clear hR hp hl0
                        go_wp2_with fail
                        refine (must_any [32] r27 b _ a st27.err hb st27.sc st27.len (by decide)).mono ?_
                        rintro e v28 h0
                        rcases hn : lit [32] r27 with _ | r28
                        · rw [hn] at h0
                          obtain ⟨rfl, hu⟩ := h0
                          have hR := HR.out
                          rw [hn] at hR
                          simp only [Option.bind_none] at hR
                          subst hR
                          unfold badP
                          go_wp2
                          exact ⟨rfl, rfl, st27.upd.trans hu⟩
                        · rw [hn] at h0
                          obtain ⟨rfl, hk0, hu0⟩ := h0
                          have st28 := st27.call hCb hDb hb hk0 hu0 (lit_len hn).1
                          have hR := HR.out
                          rw [hn] at hR
                          simp only [Option.bind_some] at hR
                          replace HR := Lib.hid hR
                          clear hR hn hk0 hu0 st27
                          have e0 : _ = some (Value.int .i64 (x22)) := (st28.cells 0).1
                          have e1 : _ = some (Value.int .i64 (x20 + 1)) := (st28.cells 1).1
                          have e2 : _ = some (Value.int .i64 (x18)) := (st28.cells 2).1
                          have e3 : _ = some (Value.int .i64 (x24)) := (st28.cells 3).1
                          have e4 : _ = some (Value.int .i64 (x26)) := (st28.cells 4).1
                          have e5 : _ = some (Value.int .i64 (0)) := (st28.cells 5).1
                          have e6 : _ = some (Value.int .i64 (0)) := (st28.cells 6).1
                          have hz := zone_any b r28 _ a (st28.drew).err hb (st28.drew).sc st28.len
                          rcases hn : zone r28 with _ | ⟨z, rz⟩
                          · rw [hn] at hz
                            have hR := HR.out
                            rw [hn] at hR
                            simp only [Option.bind_none] at hR
                            subst hR
                            have HZ := Lib.hid hz
                            clear hz hn
                            go_wp2
                            refine wp_region_any (by kernel_rfl) ?_
                            try (change wpAny _ _ _ _ _ _ _ (World.drew _))
                            refine wpAny_take (i := 1) (v := ?_) rfl (by kernel_rfl) (by kernel_rfl) (by kernel_rfl) (fun _ _ _ h => h) (Or.inl ⟨by rfl, ?_⟩) ?_
                            rotate_left
                            · intro w
                              go_simp
                              try (with_reducible rfl)
                            refine wpAny_ready (rs := [0, 2]) (by kernel_rfl) (by simp) ?_
                            refine AllReady.cons rfl (fun K hK => ?_) (AllReady.cons rfl (fun K hK => ?_) AllReady.nil)
                            · go_simp
                              refine hK _ _ ?_
                              clear hK K
                              refine wpAny_ready (rs := [2]) (by kernel_rfl) (by simp) ?_
                              refine AllReady.cons rfl (fun K hK => ?_) AllReady.nil
                              go_simp
                              go_wp2_with (go_at_call 59; refine HZ.out.mono ?_; rintro e w9 ⟨rfl, hu⟩; unfold badP)
                              exact ⟨rfl, rfl, (st28.drew).upd.trans hu⟩
                            · go_simp
                              go_wp2_with (go_at_call 59; refine HZ.out.mono ?_; rintro e w9 ⟨rfl, hu⟩; unfold badP)
                              exact ⟨rfl, rfl, (st28.drew).upd.trans hu⟩
                          · rw [hn] at hz
                            have hR := HR.out
                            rw [hn] at hR
                            simp only [Option.bind_some] at hR
                            subst hR
                            have hzl := (zone_bd hn).2.2
                            have HZ := Lib.hid hz
                            clear hz hn
                            go_wp2
                            go_region_with ((go_at_call 59; refine HZ.out.mono ?_; rintro e w9 ⟨rfl, hk9, hu9⟩; have st9 := (st28.drew).call hCb hDb hb hk9 hu9 hzl; have q0 : _ = some (Value.int .i64 (x22)) := (st9.cells 0).1; have q1 : _ = some (Value.int .i64 (x20 + 1)) := (st9.cells 1).1; have q2 : _ = some (Value.int .i64 (x18)) := (st9.cells 2).1; have q3 : _ = some (Value.int .i64 (x24)) := (st9.cells 3).1; have q4 : _ = some (Value.int .i64 (x26)) := (st9.cells 4).1; have q5 : _ = some (Value.int .i64 (0)) := (st9.cells 5).1; have q6 : _ = some (Value.int .i64 (0)) := (st9.cells 6).1; have d0 : _ = some (Value.int .i64 0) := blk_cell st9.res 0; have df0 := blk_free st9.res 0; have d1 : _ = some (Value.int .i64 0) := blk_cell st9.res 1; have df1 := blk_free st9.res 1; have d2 : _ = some (Value.int .i64 0) := blk_cell st9.res 2; have df2 := blk_free st9.res 2; have d3 : _ = some (Value.int .i64 0) := blk_cell st9.res 3; have df3 := blk_free st9.res 3; have d4 : _ = some (Value.int .i64 0) := blk_cell st9.res 4; have df4 := blk_free st9.res 4; have d5 : _ = some (Value.int .i64 0) := blk_cell st9.res 5; have df5 := blk_free st9.res 5; have d6 : _ = some (Value.int .i64 0) := blk_cell st9.res 6; have df6 := blk_free st9.res 6))
                            all_goals
                              go_wp2
                              obtain ⟨g0, g1, g2⟩ := st9.fin hDb (Nat.le_refl _) (.int .i64 (x22)) (.int .i64 (x20 + 1)) (.int .i64 (x18)) (.int .i64 (x24)) (.int .i64 (x26)) (.int .i64 (0)) (.int .i64 (0))
                              have p0 := blk_cell g0 0
                              have p1 := blk_cell g0 1
                              have p2 := blk_cell g0 2
                              have p3 := blk_cell g0 3
                              have p4 := blk_cell g0 4
                              have p5 := blk_cell g0 5
                              have p6 := blk_cell g0 6
                              simp only [List.getElem?_toArray, List.getElem?_cons_zero, List.getElem?_cons_succ] at p0 p1 p2 p3 p4 p5 p6
                              refine bodyPost_ret (v := .tuple #[.agg #[.int .i64 (x22), .int .i64 (x20 + 1), .int .i64 (x18), .int .i64 (x24), .int .i64 (x26), .int .i64 0, .int .i64 0], .int .i64 z]) ?_ rfl ⟨rfl, g1, g2⟩
                              simp [results, Tryz.results52, go_sem, p0, p1, p2, p3, p4, p5, p6]
                      · rw [hp] at hR
                        rw [if_pos rfl] at hR
                        replace HR := Lib.hid hR
                        clear hR hp hl0
                        go_wp2_with fail
                        refine (number_any b 2 r27 _ a st27.err hb st27.sc (by decide)).mono ?_
                        rintro e v29 h0
                        rcases hn : num 2 0 r27 with _ | ⟨x29, r29⟩
                        · rw [hn] at h0
                          obtain ⟨rfl, hu⟩ := h0
                          have hR := HR.out
                          rw [hn] at hR
                          simp only [Option.bind_none] at hR
                          subst hR
                          unfold badP
                          go_wp2
                          exact ⟨rfl, rfl, st27.upd.trans hu⟩
                        · rw [hn] at h0
                          obtain ⟨rfl, hk0, hu0⟩ := h0
                          obtain ⟨x29a, x29b, hl0⟩ := num_bd _ _ _ _ _ hn (by omega)
                          simp at x29b
                          have st29 := st27.call hCb hDb hb hk0 hu0 hl0
                          have hR := HR.out
                          rw [hn] at hR
                          simp only [Option.bind_some] at hR
                          replace HR := Lib.hid hR
                          clear hR hn hk0 hu0 hl0 st27
                          obtain ⟨c0, f0⟩ := st29.cells 5
                          replace c0 : _ = some (Value.int .i64 0) := c0
                          have st29w : St w b C w.heap.size a #[.int .i64 (x22), .int .i64 (x20 + 1), .int .i64 (x18), .int .i64 (x24), .int .i64 (x26), .int .i64 (x29), .int .i64 0] r29 (v29.setCell ⟨C, 5, none⟩ (.int .i64 (x29))) := st29.set hCb hDC hwC hEC 5 _
                          clear st29
                          go_wp2_with fail
                          clear c0 f0
                          refine (must_any [32] r29 b _ a st29w.err hb st29w.sc st29w.len (by decide)).mono ?_
                          rintro e v30 h0
                          rcases hn : lit [32] r29 with _ | r30
                          · rw [hn] at h0
                            obtain ⟨rfl, hu⟩ := h0
                            have hR := HR.out
                            rw [hn] at hR
                            simp only [Option.bind_none] at hR
                            subst hR
                            unfold badP
                            go_wp2
                            exact ⟨rfl, rfl, st29w.upd.trans hu⟩
                          · rw [hn] at h0
                            obtain ⟨rfl, hk0, hu0⟩ := h0
                            have st30 := st29w.call hCb hDb hb hk0 hu0 (lit_len hn).1
                            have hR := HR.out
                            rw [hn] at hR
                            simp only [Option.bind_some] at hR
                            replace HR := Lib.hid hR
                            clear hR hn hk0 hu0 st29w
                            have e0 : _ = some (Value.int .i64 (x22)) := (st30.cells 0).1
                            have e1 : _ = some (Value.int .i64 (x20 + 1)) := (st30.cells 1).1
                            have e2 : _ = some (Value.int .i64 (x18)) := (st30.cells 2).1
                            have e3 : _ = some (Value.int .i64 (x24)) := (st30.cells 3).1
                            have e4 : _ = some (Value.int .i64 (x26)) := (st30.cells 4).1
                            have e5 : _ = some (Value.int .i64 (x29)) := (st30.cells 5).1
                            have e6 : _ = some (Value.int .i64 (0)) := (st30.cells 6).1
                            have hz := zone_any b r30 _ a (st30.drew).err hb (st30.drew).sc st30.len
                            rcases hn : zone r30 with _ | ⟨z, rz⟩
                            · rw [hn] at hz
                              have hR := HR.out
                              rw [hn] at hR
                              simp only [Option.bind_none] at hR
                              subst hR
                              have HZ := Lib.hid hz
                              clear hz hn
                              go_wp2
                              refine wp_region_any (by kernel_rfl) ?_
                              try (change wpAny _ _ _ _ _ _ _ (World.drew _))
                              refine wpAny_take (i := 1) (v := ?_) rfl (by kernel_rfl) (by kernel_rfl) (by kernel_rfl) (fun _ _ _ h => h) (Or.inl ⟨by rfl, ?_⟩) ?_
                              rotate_left
                              · intro w
                                go_simp
                                try (with_reducible rfl)
                              refine wpAny_ready (rs := [0, 2]) (by kernel_rfl) (by simp) ?_
                              refine AllReady.cons rfl (fun K hK => ?_) (AllReady.cons rfl (fun K hK => ?_) AllReady.nil)
                              · go_simp
                                refine hK _ _ ?_
                                clear hK K
                                refine wpAny_ready (rs := [2]) (by kernel_rfl) (by simp) ?_
                                refine AllReady.cons rfl (fun K hK => ?_) AllReady.nil
                                go_simp
                                go_wp2_with (go_at_call 59; refine HZ.out.mono ?_; rintro e w9 ⟨rfl, hu⟩; unfold badP)
                                exact ⟨rfl, rfl, (st30.drew).upd.trans hu⟩
                              · go_simp
                                go_wp2_with (go_at_call 59; refine HZ.out.mono ?_; rintro e w9 ⟨rfl, hu⟩; unfold badP)
                                exact ⟨rfl, rfl, (st30.drew).upd.trans hu⟩
                            · rw [hn] at hz
                              have hR := HR.out
                              rw [hn] at hR
                              simp only [Option.bind_some] at hR
                              subst hR
                              have hzl := (zone_bd hn).2.2
                              have HZ := Lib.hid hz
                              clear hz hn
                              go_wp2
                              go_region_with ((go_at_call 59; refine HZ.out.mono ?_; rintro e w9 ⟨rfl, hk9, hu9⟩; have st9 := (st30.drew).call hCb hDb hb hk9 hu9 hzl; have q0 : _ = some (Value.int .i64 (x22)) := (st9.cells 0).1; have q1 : _ = some (Value.int .i64 (x20 + 1)) := (st9.cells 1).1; have q2 : _ = some (Value.int .i64 (x18)) := (st9.cells 2).1; have q3 : _ = some (Value.int .i64 (x24)) := (st9.cells 3).1; have q4 : _ = some (Value.int .i64 (x26)) := (st9.cells 4).1; have q5 : _ = some (Value.int .i64 (x29)) := (st9.cells 5).1; have q6 : _ = some (Value.int .i64 (0)) := (st9.cells 6).1; have d0 : _ = some (Value.int .i64 0) := blk_cell st9.res 0; have df0 := blk_free st9.res 0; have d1 : _ = some (Value.int .i64 0) := blk_cell st9.res 1; have df1 := blk_free st9.res 1; have d2 : _ = some (Value.int .i64 0) := blk_cell st9.res 2; have df2 := blk_free st9.res 2; have d3 : _ = some (Value.int .i64 0) := blk_cell st9.res 3; have df3 := blk_free st9.res 3; have d4 : _ = some (Value.int .i64 0) := blk_cell st9.res 4; have df4 := blk_free st9.res 4; have d5 : _ = some (Value.int .i64 0) := blk_cell st9.res 5; have df5 := blk_free st9.res 5; have d6 : _ = some (Value.int .i64 0) := blk_cell st9.res 6; have df6 := blk_free st9.res 6))
                              all_goals
                                go_wp2
                                obtain ⟨g0, g1, g2⟩ := st9.fin hDb (Nat.le_refl _) (.int .i64 (x22)) (.int .i64 (x20 + 1)) (.int .i64 (x18)) (.int .i64 (x24)) (.int .i64 (x26)) (.int .i64 (x29)) (.int .i64 (0))
                                have p0 := blk_cell g0 0
                                have p1 := blk_cell g0 1
                                have p2 := blk_cell g0 2
                                have p3 := blk_cell g0 3
                                have p4 := blk_cell g0 4
                                have p5 := blk_cell g0 5
                                have p6 := blk_cell g0 6
                                simp only [List.getElem?_toArray, List.getElem?_cons_zero, List.getElem?_cons_succ] at p0 p1 p2 p3 p4 p5 p6
                                refine bodyPost_ret (v := .tuple #[.agg #[.int .i64 (x22), .int .i64 (x20 + 1), .int .i64 (x18), .int .i64 (x24), .int .i64 (x26), .int .i64 (x29), .int .i64 0], .int .i64 z]) ?_ rfl ⟨rfl, g1, g2⟩
                                simp [results, Tryz.results52, go_sem, p0, p1, p2, p3, p4, p5, p6]

end Go.Proofs.YtcjnpklmfcbofaaGreatDoor
end
