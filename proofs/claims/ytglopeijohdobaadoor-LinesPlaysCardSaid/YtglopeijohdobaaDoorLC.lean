/- LinesPlays: postbagnum.Kept. -/
import Derived.Test.YtglopeijohdobaaDoorLB
set_option linter.unusedVariables false
set_option linter.unusedSimpArgs false
namespace Go.Proofs.YtglopeijohdobaaDoor
open Go.RowKit

set_option maxRecDepth 100000 in
set_option maxHeartbeats 1000000 in
theorem kept_yes (w : World) (B g cap : Nat) (v : Value) (l : List UInt8) (ho : OwnB w B (.slice (some ⟨g, 0, none⟩) (l.length + 6) cap) (l ++ marksL)) (hv : ArgB w v l) (hl : l.length ≤ 20000) :
    Calls Tryd.prog 13 #[.slice (some ⟨g, 0, none⟩) l.length cap, v] w fun e w' => e = .returned (.bool true) ∧ Below w.heap.size w w' := by
  have hll : (l ++ marksL).length = l.length + 6 := by simp [marksL]
  have hpt : l.length + 6 ≤ cap ∧ ∀ i, i < (l ++ marksL).length → w.cell? ⟨g, i, none⟩ = some (.int .u8 ((l ++ marksL).getD i 0).toNat) := by
    rcases ho.parts with ⟨h, _⟩ | ⟨g', cap', h, h1, _, _, h2⟩
    · cases h
    · simp at h
      obtain ⟨rfl, h3, rfl⟩ := h
      exact ⟨by omega, h2⟩
  obtain ⟨hcap, hcells⟩ := hpt
  have hcap63 : cap ≤ 9223372036854775807 := by
    rcases ho.2 with ⟨h, _⟩ | ⟨g', cap', cur, h, _, _, _, h2, _⟩
    · cases h
    · simp at h
      obtain ⟨rfl, _, rfl⟩ := h
      simpa [maxLen] using h2
  have hcv1 := fun (q c : Nat) => convert_bytes (w := w.drewN q) (at_cells (w := w.drewN q) (g := g) (all := l ++ marksL) hcells (p := 0) (n := l.length) (by omega) c)
  rw [List.drop_zero, List.take_left] at hcv1
  have hcv2 := fun (q : Nat) => convert_z (w := w.drewN q) (ArgB.z (w := w.drewN q) hv)
  have hcv10 := fun (c : Nat) => convert_bytes (w := w) (at_cells (w := w) (g := g) (all := l ++ marksL) hcells (p := 0) (n := l.length) (by omega) c)
  rw [List.drop_zero, List.take_left] at hcv10
  have hcv20 := convert_z hv.z
  obtain ⟨a, c, rfl, hlc, _⟩ := hv
  have d0 : decide ((cap : Int) < (l.length : Int) + 6) = false := decide_eq_false (by omega)
  have hm : ∀ j, j < 6 → w.cell? ⟨g, l.length + j, none⟩ = some (.int .u8 (201 + (j : Int))) := by
    intro j hj
    rw [hcells (l.length + j) (by omega)]
    have e : (l ++ marksL).getD (l.length + j) 0 = marksL.getD j 0 := by
      simp [List.getD, List.getElem?_append_right]
    rw [e]
    match j, hj with
    | 0, _ => rfl
    | 1, _ => rfl
    | 2, _ => rfl
    | 3, _ => rfl
    | 4, _ => rfl
    | 5, _ => rfl
    | n + 6, h => omega
  have HM := Lib.hid hm
  clear ho hcells hm hll
  go_enter Tryd.func13, Tryd.ntmps13
  go_wp2
  go_quiet (fail)
  go_wp2
  clear hcv1 hcv2 hcv10 hcv20 d0
  have B1 : Below w.heap.size w (w.drewN nq) := below_drewN (Below.refl _ _) nq
  have hm1 : Hid (∀ j, j < 6 → (w.drewN nq).cell? ⟨g, l.length + j, none⟩ = some (.int .u8 (201 + (j : Int)))) := HM.out
  generalize w.drewN nq = w1 at B1 hm1 ⊢
  go_loopw [6] (fun v6 wr => ∃ k : Nat, k ≤ 6 ∧ v6 = .int .i64 k ∧ wr = w1) (fun v6 _ => 6 - (intOf v6).toNat)
  case atStart => exact ⟨0, by decide, rfl, rfl⟩
  case round =>
    obtain ⟨k, hk, rfl, rfl⟩ := hrel
    by_cases hlt : k < 6
    · have hlt' : (k : Int) < 6 := by omega
      have hcell := hm1.out k hlt
      have hw8 : IntKind.u8.wrap (201 + (k : Int)) = 201 + (k : Int) := by
        match k, hlt with
        | 0, _ => rfl
        | 1, _ => rfl
        | 2, _ => rfl
        | 3, _ => rfl
        | 4, _ => rfl
        | 5, _ => rfl
        | n + 6, h => omega
      go_wp2
      go_roundw
      case rel => exact ⟨k + 1, by omega, by go_num, by trivial⟩
      case measure => simp [intOf]; omega
    · obtain rfl : k = 6 := by omega
      go_wp2
      go_ret
      exact ⟨rfl, B1⟩

end Go.Proofs.YtglopeijohdobaaDoor
