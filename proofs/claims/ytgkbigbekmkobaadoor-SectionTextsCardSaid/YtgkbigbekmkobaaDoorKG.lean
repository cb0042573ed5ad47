/- section's statement: same, of equal Specs. -/
import Derived.Test.YtgkbigbekmkobaaDoorKF
set_option linter.unusedVariables false
set_option linter.unusedSimpArgs false
namespace Go.Proofs.YtgkbigbekmkobaaDoor
open Go.RowKit

set_option maxRecDepth 100000 in
set_option maxHeartbeats 1000000 in
theorem same_yes (v1 n1 v2 n2 : Value) (ps : List Int) (wh : List UInt8) (ns : List (List UInt8)) (w : World) (h1 : IntsAt w v1 ps) (h2 : IntsAt w v2 ps) (k1 : StrsF w n1 ns) (k2 : StrsF w n2 ns) (hp : ps.length ≤ 1099511627776) (hn : ns.length ≤ 1099511627776) :
    Calls Tryd.prog 10 #[.agg #[v1, .string (bs wh), n1], .agg #[v2, .string (bs wh), n2]] w fun e w' => e = .returned (.bool true) ∧ Below w.heap.size w w' := by
  have H1 := Lib.hid h1
  have H2 := Lib.hid h2
  have K1 := Lib.hid k1
  have K2 := Lib.hid k2
  obtain ⟨a1, c1, rfl, _⟩ := h1
  obtain ⟨a2, c2, rfl, _⟩ := h2
  obtain ⟨b1, d1, rfl, _⟩ := k1
  obtain ⟨b2, d2, rfl, _⟩ := k2
  go_enter Tryd.func10, Tryd.ntmps10
  go_wp2_with fail
  obtain ⟨wa, hwa⟩ : ∃ wa, (w.alloc (.cells #[.slice a1 ps.length c1, .string (bs wh), .slice b1 ns.length d1] 29)).alloc (.cells #[.slice a2 ps.length c2, .string (bs wh), .slice b2 ns.length d2] 34) = wa := ⟨_, rfl⟩
  have b0 : Below w.heap.size w wa := by rw [← hwa]; exact ((Below.refl _ _).alloc (Nat.le_refl _) _).alloc (by simp) _
  have r1 : wa.heap[w.heap.size]? = some (.cells #[.slice a1 ps.length c1, .string (bs wh), .slice b1 ns.length d1] 29 (0, 0)) := by rw [← hwa]; exact (heap_old _ _ _ (by simp)).trans (heap_new w _)
  have r2 : wa.heap[w.heap.size + 1]? = some (.cells #[.slice a2 ps.length c2, .string (bs wh), .slice b2 ns.length d2] 34 (0, 0)) := by
    rw [← hwa, ← size_alloc w (.cells #[.slice a1 ps.length c1, .string (bs wh), .slice b1 ns.length d1] 29)]; exact heap_new _ _
  have z0 : wa.heap.size = w.heap.size + 2 := by rw [← hwa]; simp
  rw [hwa]
  clear hwa
  refine (sameInts_yes _ _ ps wa (H1.out.below b0) (H2.out.below b0) hp).mono ?_
  rintro e w1 ⟨rfl, hb1⟩
  have s1 := (hb1.block w.heap.size (by omega)).trans r1
  have s2 := (hb1.block (w.heap.size + 1) (by omega)).trans r2
  have q1 : w1.cell? ⟨w.heap.size, 1, none⟩ = some (.string (bs wh)) := by simp [World.cell?, s1]
  have q2 : w1.cell? ⟨w.heap.size, 2, none⟩ = some (.slice b1 ns.length d1) := by simp [World.cell?, s1]
  have q3 : w1.cell? ⟨w.heap.size + 1, 1, none⟩ = some (.string (bs wh)) := by simp [World.cell?, s2]
  have q4 : w1.cell? ⟨w.heap.size + 1, 2, none⟩ = some (.slice b2 ns.length d2) := by simp [World.cell?, s2]
  have hB : Below w.heap.size w w1 := b0.trans (hb1.mono b0.size)
  clear r1 r2 s1 s2 hb1
  go_wp2_with fail
  refine (sameStrs_yes _ _ ns w1 (K1.out.below hB) (K2.out.below hB) hn).mono ?_
  rintro e w2 ⟨rfl, hb2⟩
  go_wp2
  go_ret
  exact ⟨by first | rfl | simp, hB.trans (hb2.mono hB.size)⟩

end Go.Proofs.YtgkbigbekmkobaaDoor
