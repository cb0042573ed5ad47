/- mbox: Decode of any text (both), Message. -/
import Derived.Test.YtcjnpklmfcbofaaDoorM4
import Derived.Test.YtcjnpklmfcbofaaDoorQ6
import Derived.Test.YtcjnpklmfcbofaaDoorQ9
set_option linter.unusedVariables false
set_option linter.unusedSimpArgs false
namespace Go.Proofs.YtcjnpklmfcbofaaDoor
open Go.RowKit

/-- what a message in a file decodes to -/
def decL (l : List UInt8) : List UInt8 := (decR true l).getD []
theorem decL_eq (m : List UInt8) (h : ∀ x ∈ linesOf (m ++ [10]), sepB x = false) : decL (m ++ [10]) = decodeL m := by
  unfold decL
  rw [decR_eq, if_neg]
  · rfl
  · intro hs
    obtain ⟨x, hx, hx2⟩ := List.any_eq_true.1 hs
    rw [h x hx] at hx2
    cases hx2
/-- quote.Decode of any text -/
theorem decode_yes (l : List UInt8) (w : World) (hm : l.length ≤ 1000000000) (h : decOk l = true) :
    Calls Tryd.prog 23 #[.string (bs l)] w fun e w' => e = .returned (.tuple #[.string (bs (decL l)), .nilIface]) ∧ Below w.heap.size w w' := by
  obtain ⟨m, rfl, hn, _⟩ := dec_yes h
  rw [decL_eq m hn]
  exact decode_good m w (by simp at hm; omega) hn
theorem decode_no (l : List UInt8) (w : World) (a : Addr) (hc : w.cell? ⟨1, 0, none⟩ = some (errV a)) (hm : l.length ≤ 1000000000) (h : decOk l = false) :
    Calls Tryd.prog 23 #[.string (bs l)] w fun e w' => e = .returned (.tuple #[.string (bs []), errV a]) ∧ Below w.heap.size w w' := by
  rcases dec_no h with h2 | ⟨m, rfl, h2⟩
  · exact decode_short l w a hc hm h2
  · exact decode_sep m w a hc (by simp at hm; omega) h2
/-- the document's Decode of any text -/
theorem refDecode_yes (l : List UInt8) (w : World) (hm : l.length ≤ 100000000) (h : decOk l = true) :
    Calls Tryd.prog 14 #[.string (bs l)] w fun e w' => e = .returned (.tuple #[.string (bs (decL l)), .bool true]) ∧ Below w.heap.size w w' := by
  obtain ⟨m, rfl, hn, hd⟩ := dec_yes h
  have := refDecode_any (m ++ [10]) m.length w hm (by simp) (by simp)
  rw [hd] at this
  unfold decL
  rw [hd]
  exact this
theorem refDecode_no (l : List UInt8) (w : World) (hm : l.length ≤ 100000000) (h : decOk l = false) :
    Calls Tryd.prog 14 #[.string (bs l)] w fun e w' => e = .returned (.tuple #[.string (bs []), .bool false]) ∧ Below w.heap.size w w' := by
  rcases dec_no h with h2 | ⟨m, rfl, h2⟩
  · exact refDecode_short l w hm h2
  · have := refDecode_any (m ++ [10]) m.length w hm (by simp) (by simp)
    obtain ⟨x, hx, hx2⟩ := h2
    rw [decR_eq, if_pos (List.any_eq_true.2 ⟨x, hx, hx2⟩)] at this
    exact this

/-! ### Message -/
set_option maxRecDepth 100000 in
set_option maxHeartbeats 1000000 in
theorem message_range (file : List UInt8) (hd b e : Int) (v : Value) (w : World) (hc : w.cell? ⟨2, 0, none⟩ = some v) (h : b < 0 ∨ e < b ∨ (file.length : Int) < e) :
    Calls Tryd.prog 10 #[.string (bs file), .agg #[.int .i64 hd, .int .i64 b, .int .i64 e]] w fun e w' => e = .returned (.tuple #[.string (bs []), v]) ∧ Below w.heap.size w w' := by
  have hc2 := fun o => cell_alloc hc o
  rcases (by omega : b < 0 ∨ (¬ b < 0 ∧ e < b) ∨ (¬ b < 0 ∧ ¬ e < b ∧ (file.length : Int) < e)) with h | ⟨h0, h⟩ | ⟨h0, h1, h⟩
  all_goals
    go_enter Tryd.func10, Tryd.ntmps10
    go_wp2
    go_quiet (fail)
    go_wp2
    go_ret2
    exact ⟨rfl, below_drewN ((Below.refl _ _).alloc (Nat.le_refl _) _) _⟩
set_option maxRecDepth 100000 in
set_option maxHeartbeats 1000000 in
theorem message_yes (file : List UInt8) (hd : Int) (b e : Nat) (w : World) (h1 : b ≤ e) (h2 : e ≤ file.length) (hl : file.length ≤ 100000000) (h : decOk ((file.drop b).take (e - b)) = true) :
    Calls Tryd.prog 10 #[.string (bs file), .agg #[.int .i64 hd, .int .i64 b, .int .i64 e]] w fun e' w' => e' = .returned (.tuple #[.string (bs (decL ((file.drop b).take (e - b)))), .nilIface]) ∧ Below w.heap.size w w' := by
  have rm := fun w0 => run_mid file b e h1 h2 w0
  have hlen : ((file.drop b).take (e - b)).length ≤ 100000000 := by simp; omega
  obtain ⟨T, hT⟩ : ∃ T, (file.drop b).take (e - b) = T := ⟨_, rfl⟩
  rw [hT] at rm h hlen ⊢
  have HD := Lib.hid (fun w0 => decode_yes T w0 (by omega) h)
  clear hT h
  go_enter Tryd.func10, Tryd.ntmps10
  go_wp2_with fail
  refine (HD.out _).mono ?_
  rintro e' w1 ⟨rfl, hb1⟩
  go_wp2
  go_ret2
  exact ⟨rfl, ((Below.refl w.heap.size w).alloc (Nat.le_refl _) _).trans (hb1.mono (by simp))⟩
set_option maxRecDepth 100000 in
set_option maxHeartbeats 1000000 in
theorem message_no (file : List UInt8) (hd : Int) (b e : Nat) (a : Addr) (w : World) (hc : w.cell? ⟨1, 0, none⟩ = some (errV a)) (h1 : b ≤ e) (h2 : e ≤ file.length) (hl : file.length ≤ 100000000) (h : decOk ((file.drop b).take (e - b)) = false) :
    Calls Tryd.prog 10 #[.string (bs file), .agg #[.int .i64 hd, .int .i64 b, .int .i64 e]] w fun e' w' => e' = .returned (.tuple #[.string (bs []), errV a]) ∧ Below w.heap.size w w' := by
  have rm := fun w0 => run_mid file b e h1 h2 w0
  have hlen : ((file.drop b).take (e - b)).length ≤ 100000000 := by simp; omega
  obtain ⟨T, hT⟩ : ∃ T, (file.drop b).take (e - b) = T := ⟨_, rfl⟩
  rw [hT] at rm h hlen
  have HD := Lib.hid (fun w0 h0 => decode_no T w0 a h0 (by omega) h)
  clear hT h
  go_enter Tryd.func10, Tryd.ntmps10
  go_wp2_with fail
  refine (HD.out _ (cell_alloc hc _)).mono ?_
  rintro e' w1 ⟨rfl, hb1⟩
  go_wp2
  go_ret2
  exact ⟨rfl, ((Below.refl w.heap.size w).alloc (Nat.le_refl _) _).trans (hb1.mono (by simp))⟩

end Go.Proofs.YtcjnpklmfcbofaaDoor
