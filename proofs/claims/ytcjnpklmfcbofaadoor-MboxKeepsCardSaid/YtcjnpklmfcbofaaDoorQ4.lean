/- quote.Decode. -/
import Derived.Test.YtcjnpklmfcbofaaDoorQ3
set_option linter.unusedVariables false
set_option linter.unusedSimpArgs false
namespace Go.Proofs.YtcjnpklmfcbofaaDoor
open Go.RowKit Go Go.Shelf
attribute [local go_sem] Oper.semAt_some

theorem cutSuffix_yes (m : List UInt8) (w : World) (hm : m.length ≤ 1000000000) : Calls Tryd.prog 42 #[.string (bs (m ++ [10])), .string (bs [10])] w fun e w' => e = .returned (.tuple #[.string (bs m), .bool true]) ∧ w = w' := by
  refine (Tryd.strings_CutSuffix (bs (m ++ [10])) (bs [10]) w (by rw [bs_size]; simp; omega)).mono fun _ _ ⟨h, k⟩ => ⟨?_, k.symm⟩
  rw [h]
  have h1 : Lib.hasSuffix (m ++ [10]) [10] = true := List.isSuffixOf_iff_suffix.2 ⟨m, rfl⟩
  have h2 : Lib.trimSuffix (m ++ [10]) [10] = m := by unfold Lib.trimSuffix; rw [if_pos h1]; simp
  show Ending.returned (.tuple #[.string (bs (Lib.trimSuffix (m ++ [10]) [10])), .bool (Lib.hasSuffix (m ++ [10]) [10])]) = _
  rw [h1, h2]
theorem cutSuffix_no (l : List UInt8) (w : World) (hm : l.length ≤ 1000000000) (hl : ¬ ∃ m, l = m ++ [10]) : Calls Tryd.prog 42 #[.string (bs l), .string (bs [10])] w fun e w' => e = .returned (.tuple #[.string (bs l), .bool false]) ∧ w = w' := by
  refine (Tryd.strings_CutSuffix (bs l) (bs [10]) w (by rw [bs_size]; omega)).mono fun _ _ ⟨h, k⟩ => ⟨?_, k.symm⟩
  rw [h]
  have h1 : Lib.hasSuffix l [10] = false := by
    cases hq : Lib.hasSuffix l [10] with
    | false => rfl
    | true =>
      obtain ⟨t, ht⟩ := List.isSuffixOf_iff_suffix.1 hq
      exact absurd ⟨t, ht.symm⟩ hl
  have h2 : Lib.trimSuffix l [10] = l := by unfold Lib.trimSuffix; rw [h1]; rfl
  show Ending.returned (.tuple #[.string (bs (Lib.trimSuffix l [10])), .bool (Lib.hasSuffix l [10])]) = _
  rw [h1, h2]

set_option maxRecDepth 100000 in
set_option maxHeartbeats 400000 in
theorem decode_short (l : List UInt8) (w : World) (a : Addr) (hc : w.cell? ⟨1, 0, none⟩ = some (errV a)) (hm : l.length ≤ 1000000000) (hl : ¬ ∃ m, l = m ++ [10]) :
    Calls Tryd.prog 23 #[.string (bs l)] w fun e w' => e = .returned (.tuple #[.string (bs []), errV a]) ∧ Below w.heap.size w w' := by
  have HN := Lib.hid hl
  have HM := Lib.hid hm
  clear hl hm
  unfold errV at hc ⊢
  have hlt : 1 < w.heap.size := cell_lt hc
  go_enter Tryd.func23, Tryd.ntmps23
  go_wp2_with (go_at_call 42; refine (cutSuffix_no l _ HM.out HN.out).mono ?_; rintro e w' ⟨rfl, rfl⟩)
  obtain ⟨W1, hW1⟩ : ∃ W1, ((w.alloc (.cells #[.string ⟨#[]⟩] 9)).alloc (.cells #[.nilIface] 25)) = W1 := ⟨_, rfl⟩
  rw [hW1]
  have b0 : Boxed W1 w.heap.size 9 (.string ⟨#[]⟩) := by rw [← hW1]; exact (Boxed.new w _ _).alloc _
  have b1 : Boxed W1 (w.heap.size + 1) 25 .nilIface := by
    have := Boxed.new (w.alloc (.cells #[.string ⟨#[]⟩] 9)) 25 .nilIface
    rw [World.size_alloc] at this
    rw [← hW1]; exact this
  have hB : Below w.heap.size w W1 := by rw [← hW1]; exact ((Below.refl _ w).alloc (Nat.le_refl _) _).alloc (by simp) _
  have hc1 := (hB.cell (cell_lt hc)).trans hc
  have p0 := b0.cell
  have p1 := b1.cell
  have f0 := b0.frozen
  have f1 := b1.frozen
  clear hW1
  go_region
  go_wp2
  have q0 := (b0.set (.string ⟨#[]⟩)).kept (grownBy_setCell' _ (w.heap.size + 1) (.iface 138 (.pointer (some a)))) (by simp)
  have q1 := (b1.kept (grownBy_setCell' _ w.heap.size (.string ⟨#[]⟩)) (by simp)).set (.iface 138 (.pointer (some a)))
  have c0 := q0.cell
  have c1 := q1.cell
  refine bodyPost_ret (v := .tuple #[.string (bs []), .iface 138 (.pointer (some a))]) (by simp [results, Tryd.results23, go_sem, c0, c1]) rfl ⟨rfl, ?_⟩
  exact (((hB.setCell (p := ⟨w.heap.size, 0, none⟩) (Nat.le_refl _) _).setCell (p := ⟨w.heap.size + 1, 0, none⟩) (by simp) _)).drew

end Go.Proofs.YtcjnpklmfcbofaaDoor
