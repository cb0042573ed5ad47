/- The law's example of layer 2. -/
import Derived.Test.YtglopeijohdobaaDoorL2
set_option linter.unusedVariables false
set_option linter.unusedSimpArgs false
namespace Go.Proofs.YtglopeijohdobaaDoor
open Go.RowKit

theorem bytes_at {w : World} {B : Nat} {l : List UInt8} {cs : Array Value} {t : TypeId} {fr : Nat × Nat} {n cap : Nat} (hn : l.length = n) (h : w.heap[B]? = some (.cells cs t fr)) (hc : ∀ i, i < l.length → cs[i]? = some (.int .u8 (l.getD i 0).toNat)) :
    BytesAt w (.slice (some ⟨B, 0, none⟩) n cap) l := by
  subst hn
  refine Or.inr ⟨B, 0, cap, rfl, fun i hi => ?_⟩
  simp only [World.cell?, h, Nat.zero_add]
  simpa using hc i hi

/-- behind a callee of the reader's: the reader, and all else -/
theorem RdAt.later {w w' : World} {b : Nat} {h : List UInt8} {k : Int} (hk : RdAt w b h k) (hb : Below w.heap.size w w') : RdAt w' b h k :=
  (hb.block b (by
    rcases Nat.lt_or_ge b w.heap.size with h1 | h1
    · exact h1
    · unfold RdAt at hk; rw [Array.getElem?_eq_none h1] at hk; cases hk)).trans hk
theorem RdAt.lt {w : World} {b : Nat} {h : List UInt8} {k : Int} (hk : RdAt w b h k) : b < w.heap.size := cell_lt (rd_cells hk).1
theorem RdAt.alloc {w : World} {b : Nat} {h : List UInt8} {k : Int} (hk : RdAt w b h k) (o : Obj) : RdAt (w.alloc o) b h k := hk.later ((Below.refl _ _).alloc (Nat.le_refl _) _)

/-- []byte(constant), wherever the new block lies -/
theorem convert_const (w : World) (C : Array Value) (n c B : Nat) (hB : w.heap.size = B) : (convert 22 22 (.slice (some ⟨B, 0, none⟩) n c)).run Tryd.prog (w.alloc (.cells C 5)) = .ok (.slice (some ⟨B, 0, none⟩) n c) (w.alloc (.cells C 5 (C.size, C.size + 1))) := by
  subst hB
  exact Lib.run_convert_bytes_const (P := Tryd.prog) w 22 5 C n c Tryd.underlying22 Tryd.underlying5

set_option maxRecDepth 100000 in
set_option maxHeartbeats 400000 in
theorem alive_any (w : World) : Calls Tryd.prog 7 #[] w fun e w' => e = .returned (.bool true) ∧ Below w.heap.size w w' := by
  have kc := convert_const
  go_enter Tryd.func7, Tryd.ntmps7
  go_wp2_with (go_at_call 8; refine (new_any _).mono ?_; rintro e w1 ⟨rfl, rfl⟩)
  obtain ⟨W0, hW0⟩ : ∃ W0, w.alloc (.cells #[.string ⟨#[]⟩, .int .i64 0] 59) = W0 := ⟨_, rfl⟩
  have k0 : RdAt W0 w.heap.size [] 0 := by rw [← hW0]; exact heap_new _ _
  have B0 : Below w.heap.size w W0 := by rw [← hW0]; exact (Below.refl _ _).alloc (Nat.le_refl _) _
  have z0 : W0.heap.size = w.heap.size + 1 := by rw [← hW0]; simp
  rw [hW0]
  clear hW0
  refine (put_any _ w.heap.size [] 0 _ [97, 98, 13, 10, 99] (k0.alloc _) ?_ (by decide)).mono ?_
  · refine bytes_at rfl (by rw [← z0]; exact heap_new _ _) ?_
    intro i hi
    rcases (by simp at hi; omega : i = 0 ∨ i = 1 ∨ i = 2 ∨ i = 3 ∨ i = 4) with rfl | rfl | rfl | rfl | rfl <;> rfl
  rintro e w1 ⟨rfl, k1, u1⟩
  have b1 : Below w.heap.size w w1 := B0.trans ((((Below.refl _ _).alloc (Nat.le_refl _) _).mono (by omega)).trans (u1.below (Nat.le_refl _) (by simp; omega)))
  have z1 := b1.size
  clear u1 k0 B0 kc
  go_wp2_with fail
  refine (line_yes w1 w.heap.size _ [97, 98, 13] [99] 0 k1 rfl (by decide) (by decide)).mono ?_
  rintro e w2 ⟨rfl, k2, u2⟩
  rw [show lineText [97, 98, 13] = [97, 98] from by decide, show lineLong [97, 98, 13] = false from by decide]
  have b2 : Below w.heap.size w w2 := b1.trans (u2.below (Nat.le_refl _) z1)
  have z2 := b2.size
  have lt2 := k2.lt
  clear u2 k1
  go_wp2_with fail
  refine (line_no _ w.heap.size _ 0 (k2.alloc _) rfl).mono ?_
  rintro e w3 ⟨rfl, b3⟩
  have k3 := (k2.alloc _).later b3
  have l3 := (b3.block w2.heap.size (by simp)).trans (heap_new _ _)
  have b3' : Below w.heap.size w w3 := (b2.alloc z2 _).trans (b3.mono (by simp; omega))
  have z3 := b3'.size
  have hz3 := b3.size
  simp only [World.size_alloc] at hz3
  clear b3 k2
  go_wp2_with fail
  refine (expect_ok _ w.heap.size _ 0 2 (k3.alloc _) (by decide) (by decide) (by decide)).mono ?_
  rintro e w4 ⟨rfl, k4, u4⟩
  have z4' := u4.size
  simp only [World.size_alloc] at z4'
  have l4 := (u4.block w2.heap.size (by simp; omega) (by omega)).trans ((heap_old _ _ _ (by omega)).trans l3)
  have b4 : Below w.heap.size w w4 := (b3'.alloc z3 _).trans (u4.below (Nat.le_refl _) (by simp; omega))
  have z4 := b4.size
  clear u4 k3 l3
  have kc := convert_const
  go_wp2_with fail
  clear kc
  refine (put_any _ w.heap.size [99] 2 _ [100, 101] (k4.alloc _) ?_ (by decide)).mono ?_
  · refine bytes_at rfl (heap_new _ _) ?_
    intro i hi
    rcases (by simp at hi; omega : i = 0 ∨ i = 1) with rfl | rfl <;> rfl
  rintro e w5 ⟨rfl, k5, u5⟩
  have z5' := u5.size
  simp only [World.size_alloc] at z5'
  have l5 := (u5.block w2.heap.size (by simp; omega) (by omega)).trans ((heap_old _ _ _ (by omega)).trans l4)
  have b5 : Below w.heap.size w w5 := (b4.alloc z4 _).trans (u5.below (Nat.le_refl _) (by simp; omega))
  have z5 := b5.size
  clear u5 l4
  go_wp2_with fail
  refine (stretch_yes _ w.heap.size _ 2 k5 (by decide) (by decide) (by decide)).mono ?_
  rintro e w6 ⟨rfl, k6, u6⟩
  have l6 := (u6.block w2.heap.size (by omega) (by omega)).trans l5
  have b6 : Below w.heap.size w w6 := b5.trans (u6.below (Nat.le_refl _) z5)
  have q0 : w6.cell? ⟨w2.heap.size, 0, none⟩ = some (.string (bs [97, 98])) := by simp [World.cell?, l6]
  clear u6 l5 k5 k4
  go_wp2_with (go_at_call 11; refine (left_any _ w.heap.size _ 0 k6 (by decide)).mono ?_; rintro e w7 ⟨rfl, rfl⟩)
  go_ret
  exact ⟨by simp, b6⟩

end Go.Proofs.YtglopeijohdobaaDoor
