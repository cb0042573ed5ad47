/- MboxSpans: the walk. -/
import Derived.Test.YtcjnpklmfcbofaaDoorMA
import Derived.Test.YtcjnpklmfcbofaaDoorEr
set_option linter.unusedVariables false
set_option linter.unusedSimpArgs false
namespace Go.Proofs.YtcjnpklmfcbofaaDoor
open Go.RowKit

set_option maxRecDepth 100000 in
set_option maxHeartbeats 2000000 in
theorem mboxSpans_list (file : List UInt8) (h b e : Int) (a : Nat → Addr) (w : World) (hE : Errs w a) (hT : Tab w) :
    Calls Tryd.prog 5 #[.string (bs file), .agg #[.int .i64 h, .int .i64 b, .int .i64 e]] w fun e w' => e = .returned (.bool true) ∧ Below w.heap.size w w' := by
  obtain ⟨w0, hw0⟩ : ∃ w0, w.alloc (.cells #[.int .i64 h, .int .i64 b, .int .i64 e] 32) = w0 := ⟨_, rfl⟩
  have hb0 : Below w.heap.size w w0 := by rw [← hw0]; exact (Below.refl _ _).alloc (Nat.le_refl _) _
  have c0 : w0.cell? ⟨w.heap.size, 0, none⟩ = some (.int .i64 h) := by rw [← hw0]; simp
  have c1 : w0.cell? ⟨w.heap.size, 1, none⟩ = some (.int .i64 b) := by rw [← hw0]; simp
  have c2 : w0.cell? ⟨w.heap.size, 2, none⟩ = some (.int .i64 e) := by rw [← hw0]; simp
  have hE0 := hE.below hb0
  have hal := alive_any (a 1) w0 (hE0.cell 1 (by decide)) (hT.below hb0)
  have HE := Lib.hid hE0
  clear hE hE0 hT
  go_enter Tryd.func5, Tryd.ntmps5
  go_wp2_with fail
  try rw [hw0]
  refine hal.mono ?_
  rintro e' w1 ⟨rfl, hb1⟩
  clear hal
  have d0 := (hb1.cell (cell_lt c0)).trans c0
  have d1 := (hb1.cell (cell_lt c1)).trans c1
  have d2 := (hb1.cell (cell_lt c2)).trans c2
  have hE1 := HE.out.below hb1
  clear c0 c1 c2 HE hw0
  have hB1 : Below w.heap.size w w1 := hb0.trans (hb1.mono hb0.size)
  clear hb0 hb1
  by_cases hl : 20000 < file.length
  · have hl' : (20000 : Int) < file.length := by omega
    go_wp2
    go_ret
    exact ⟨rfl, hB1⟩
  have hl' : ¬ (20000 : Int) < file.length := by omega
  have HE1 := Lib.hid hE1
  by_cases hr : b < 0 ∨ e < b ∨ (file.length : Int) < e
  · have hmr := message_range file h b e (errV (a 0)) w1 (hE1.cell 0 (by decide)) hr
    clear hE1
    go_wp2_with fail
    refine hmr.mono ?_
    clear hmr
    rintro e' w2 ⟨rfl, hb2⟩
    have f0 := (hb2.cell (cell_lt d0)).trans d0
    have f1 := (hb2.cell (cell_lt d1)).trans d1
    have f2 := (hb2.cell (cell_lt d2)).trans d2
    have hE2 := HE1.out.below hb2
    clear d0 d1 d2 HE1
    have hn := num_err w2 a 0 (by decide) hE2
    clear hE2
    rcases (by omega : b < 0 ∨ (¬ b < 0 ∧ e < b) ∨ (¬ b < 0 ∧ ¬ e < b ∧ (file.length : Int) < e)) with g0 | ⟨g0, g1⟩ | ⟨g0, g1, g2⟩
    all_goals
      go_wp2_with fail
      refine hn.mono ?_
      rintro e' w3 ⟨rfl, hb3⟩
      go_wp2
      go_ret
      exact ⟨by first | rfl | simp, hB1.trans ((hb2.trans (hb3.mono hb2.size)).mono hB1.size)⟩
  have g0 : ¬ b < 0 := by omega
  have g1 : ¬ e < b := by omega
  have g2 : ¬ (file.length : Int) < e := by omega
  obtain ⟨bn, rfl⟩ := Int.eq_ofNat_of_zero_le (by omega : 0 ≤ b)
  obtain ⟨en, rfl⟩ := Int.eq_ofNat_of_zero_le (by omega : 0 ≤ e)
  have k1 : bn ≤ en := by omega
  have k2 : en ≤ file.length := by omega
  have rm := fun w0 => run_mid file bn en k1 k2 w0
  have hlen : ((file.drop bn).take (en - bn)).length ≤ 100000000 := by simp; omega
  by_cases hk : decOk ((file.drop bn).take (en - bn)) = true
  · have hms := message_yes file h bn en w1 k1 k2 (by omega) hk
    have hq := fun w => refDecode_yes _ w hlen hk
    obtain ⟨T, hTT⟩ : ∃ T, (file.drop bn).take (en - bn) = T := ⟨_, rfl⟩
    rw [hTT] at hms hq rm
    have HQ := Lib.hid hq
    clear hq hTT hk hlen hE1
    go_wp2_with fail
    refine hms.mono ?_
    clear hms
    rintro e' w2 ⟨rfl, hb2⟩
    have f0 := (hb2.cell (cell_lt d0)).trans d0
    have f1 := (hb2.cell (cell_lt d1)).trans d1
    have f2 := (hb2.cell (cell_lt d2)).trans d2
    clear d0 d1 d2 HE1
    go_wp2_with fail
    refine (HQ.out _).mono ?_
    clear HQ
    rintro e' w3 ⟨rfl, hb3⟩
    go_wp2
    go_ret
    exact ⟨by first | rfl | simp, hB1.trans ((hb2.trans (hb3.mono hb2.size)).mono hB1.size)⟩
  have hk0 : decOk ((file.drop bn).take (en - bn)) = false := by simpa using hk
  have hms := message_no file h bn en (a 1) w1 (hE1.cell 1 (by decide)) k1 k2 (by omega) hk0
  have hq := fun w => refDecode_no _ w hlen hk0
  obtain ⟨T, hTT⟩ : ∃ T, (file.drop bn).take (en - bn) = T := ⟨_, rfl⟩
  rw [hTT] at hq rm
  simp only [errV] at hms
  have HQ := Lib.hid hq
  clear hq hTT hk hk0 hlen hE1
  go_wp2_with fail
  refine hms.mono ?_
  clear hms
  rintro e' w2 ⟨rfl, hb2⟩
  have f0 := (hb2.cell (cell_lt d0)).trans d0
  have f1 := (hb2.cell (cell_lt d1)).trans d1
  have f2 := (hb2.cell (cell_lt d2)).trans d2
  have hE2 := HE1.out.below hb2
  have HE2 := Lib.hid hE2
  clear d0 d1 d2 HE1 hE2
  go_wp2_with fail
  refine (HQ.out _).mono ?_
  clear HQ
  rintro e' w3 ⟨rfl, hb3⟩
  have hn := num_err w3 a 1 (by decide) (HE2.out.below hb3)
  simp only [errV] at hn
  clear HE2
  go_wp2_with fail
  refine hn.mono ?_
  rintro e' w4 ⟨rfl, hb4⟩
  go_wp2
  go_ret
  have hb23 := hb2.trans (hb3.mono hb2.size)
  exact ⟨by first | rfl | simp, hB1.trans ((hb23.trans (hb4.mono hb23.size)).mono hB1.size)⟩

theorem mboxSpans_any (s : ByteArray) (h b e : Int) (w : World) (_ : s.size ≤ 9223372036854775807) (a : Nat → Addr) (hE : Errs w a) (hT : Tab w) :
    Calls Tryd.prog 5 #[.string s, .agg #[.int .i64 h, .int .i64 b, .int .i64 e]] w fun e w' => e = .returned (.bool true) ∧ Below w.heap.size w w' :=
  mboxSpans_list s.data.toList h b e a w hE hT

end Go.Proofs.YtcjnpklmfcbofaaDoor
