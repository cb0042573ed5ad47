/- []byte(s). -/
import Derived.Test.YthnkgifbbemhfaaGreatDoorOb
import Derived.Laws.IdiomStrings
set_option linter.unusedVariables false
set_option linter.unusedSimpArgs false
namespace Go.Proofs.YthnkgifbbemhfaaGreatDoor
open Go.RowKit

theorem to_bytes (l : List UInt8) (w : World) : ∃ (cap : Nat) (w' : World), (convert 9 83 (.string (bs l))).run Tryz.prog w = .ok (.slice (some ⟨w.heap.size, 0, none⟩) l.length cap) w' ∧
    (∀ i, i < l.length → w'.cell? ⟨w.heap.size, i, none⟩ = some (.int .u8 ((l.getD i 0).toNat : Int))) ∧ Below w.heap.size w w' ∧ w.heap.size < w'.heap.size := by
  have h := run_bytes_of_string (P := Tryz.prog) w 9 83 5 (bs l) Tryz.underlying9 Tryz.underlying83 Tryz.underlying5
  rw [bs_size] at h
  refine ⟨_, _, h, fun i hi => ?_, ((Below.refl _ w).drew).alloc (Nat.le_refl _) _, by simp⟩
  have hb := bytesRow_at (bs l) (grownCap w l.length 0 5) i (by simpa using hi)
  have hn : (w.drew.alloc (.cells (bytesRow (bs l) (grownCap w l.length 0 5)) 5 ((bytesRow (bs l) (grownCap w l.length 0 5)).size, (bytesRow (bs l) (grownCap w l.length 0 5)).size + 1))).heap[w.heap.size]? = some (.cells (bytesRow (bs l) (grownCap w l.length 0 5)) 5 ((bytesRow (bs l) (grownCap w l.length 0 5)).size, (bytesRow (bs l) (grownCap w l.length 0 5)).size + 1)) := heap_new w.drew _
  simp only [World.cell?, hn]
  simp only [Option.isSome_none, Bool.false_eq_true, if_false]
  rw [hb]
  simp [List.getD, hi]

end Go.Proofs.YthnkgifbbemhfaaGreatDoor
