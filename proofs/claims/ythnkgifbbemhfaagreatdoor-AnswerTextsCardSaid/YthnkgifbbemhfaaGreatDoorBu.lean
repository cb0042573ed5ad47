/- A buffer of bytes: []byte(s) that is written into. -/
import Derived.Test.YthnkgifbbemhfaaGreatDoorCb
set_option linter.unusedVariables false
set_option linter.unusedSimpArgs false
namespace Go.Proofs.YthnkgifbbemhfaaGreatDoor
open Go.RowKit

/-- a buffer of bytes -/
def BufAt (w : World) (g z : Nat) (l : List UInt8) : Prop := ∃ cs, w.heap[g]? = some (.cells cs 5 (z, z + 1)) ∧ l.length ≤ z ∧ ∀ i, i < l.length → cs[i]? = some (.int .u8 ((l.getD i 0).toNat : Int))
theorem BufAt.cell {w : World} {g z i : Nat} {l : List UInt8} (h : BufAt w g z l) (hi : i < l.length) : w.cell? ⟨g, i, none⟩ = some (.int .u8 ((l.getD i 0).toNat : Int)) ∧ w.frozen? ⟨g, i, none⟩ = false := by
  obtain ⟨cs, h1, h2, h3⟩ := h
  refine ⟨by simp [World.cell?, h1, h3 i hi], ?_⟩
  simp [World.frozen?, h1]
  omega
theorem BufAt.set {w : World} {g z i : Nat} {l : List UInt8} (h : BufAt w g z l) (hi : i < l.length) (c : UInt8) (k : Int) (hk : k = (c.toNat : Int)) : BufAt (w.setCell ⟨g, i, none⟩ (.int .u8 k)) g z (l.set i c) := by
  subst hk
  obtain ⟨cs, h1, h2, h3⟩ := h
  have hics : i < cs.size := (Array.getElem?_eq_some_iff.1 (h3 i hi)).1
  refine ⟨cs.setIfInBounds i (.int .u8 (c.toNat : Int)), by simp [World.setCell, Array.getElem?_modify, h1], by simpa using h2, fun j hj => ?_⟩
  rw [List.length_set] at hj
  rw [Array.getElem?_setIfInBounds]
  by_cases hij : i = j
  · subst hij
    simp [hics, List.getD, hi]
  · rw [if_neg hij, h3 j hj]
    simp [List.getD, hij]
theorem to_buf (l : List UInt8) (w : World) : ∃ (cap z : Nat) (w' : World), (convert 9 83 (.string (bs l))).run Tryz.prog w = .ok (.slice (some ⟨w.heap.size, 0, none⟩) l.length cap) w' ∧
    BufAt w' w.heap.size z l ∧ Below w.heap.size w w' ∧ w.heap.size < w'.heap.size := by
  have h := run_bytes_of_string (P := Tryz.prog) w 9 83 5 (bs l) Tryz.underlying9 Tryz.underlying83 Tryz.underlying5
  rw [bs_size] at h
  have hb : ∀ i, i < l.length → (bytesRow (bs l) (grownCap w l.length 0 5))[i]? = some (.int .u8 ((l.getD i 0).toNat : Int)) := fun i hi => by
    rw [bytesRow_at (bs l) (grownCap w l.length 0 5) i (by simpa using hi)]
    simp [List.getD, hi]
  refine ⟨_, (bytesRow (bs l) (grownCap w l.length 0 5)).size, _, h, ⟨_, heap_new w.drew _, ?_, hb⟩, ((Below.refl _ w).drew).alloc (Nat.le_refl _) _, by simp⟩
  rcases Nat.eq_zero_or_pos l.length with h0 | h0
  · omega
  · have := (Array.getElem?_eq_some_iff.1 (hb (l.length - 1) (by omega))).1
    omega
theorem below_set {B g : Nat} {w w' : World} (h : Below B w w') (hg : B ≤ g) (i : Nat) (v : Value) : Below B w (w'.setCell ⟨g, i, none⟩ v) :=
  ⟨h.os, h.tape, h.output, by simpa [World.setCell] using h.size, fun k hk => (Below.heap_setCell _ _ _ _ (by simp; omega)).trans (h.block k hk)⟩

end Go.Proofs.YthnkgifbbemhfaaGreatDoor
