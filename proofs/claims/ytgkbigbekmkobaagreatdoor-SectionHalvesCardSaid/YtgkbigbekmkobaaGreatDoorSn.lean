/- header.small, header.Same; the reference's Small. -/
import Derived.Test.YtgkbigbekmkobaaGreatDoorSm
import Derived.LoopTactic
set_option linter.unusedVariables false
set_option linter.unusedSimpArgs false
namespace Go.Proofs.YtgkbigbekmkobaaGreatDoor
open Go.RowKit

set_option maxRecDepth 100000 in
theorem collect_any (s : List UInt8) (b : Nat) (w : World) (hs : s.length ≤ 1099511627776) (hb : Boxed w b 9 (.string (bs s))) :
    Calls Tryz.prog 83 #[.func (.func 84) #[] #[.pointer (some ⟨b, 0, none⟩)]] w (BytesP w.heap.size (lowL s) w) := by
  have HC := fun w0 (h : Boxed w0 b 9 (.string (bs s))) => appendSeq_any s b w0 hs h
  have HC2 := Lib.hid HC
  have HB := Lib.hid hb
  clear HC hb
  go_enter Tryz.func83, Tryz.ntmps83
  go_wp2_with fail
  refine (HC2.out _ HB.out).mono ?_
  rintro e w2 ⟨v, rfl, ho, hb2⟩
  go_wp2
  go_ret
  exact ⟨v, rfl, ho, hb2⟩

set_option maxRecDepth 100000 in
theorem small_any (s : List UInt8) (w : World) (hs : s.length ≤ 1099511627776) : Calls Tryz.prog 54 #[.string (bs s)] w fun e w' => e = .returned (.string (bs (lowL s))) ∧ Below w.heap.size w w' := by
  have HS := Lib.hid hs
  have hB0 : Below w.heap.size w (w.alloc (.cells #[.string (bs s)] 9)) := (Below.refl _ w).alloc (Nat.le_refl _) _
  have bO := Boxed.new w 9 (.string (bs s))
  have HBO := Lib.hid bO
  clear bO hs
  go_enter Tryz.func54, Tryz.ntmps54
  go_wp2_with fail
  refine (collect_any s _ _ HS.out HBO.out).mono ?_
  rintro e w2 ⟨v, rfl, ho, hb2⟩
  have hcv := convert_bytes ho.bytes
  have hB2 := hB0.trans (hb2.mono (by simp))
  clear ho hb2
  go_wp2
  go_ret
  exact ⟨rfl, hB2⟩

set_option maxRecDepth 100000 in
theorem hsame_any (a b : List UInt8) (w : World) (ha : a.length ≤ 1099511627776) (hb : b.length ≤ 1099511627776) : Calls Tryz.prog 35 #[.string (bs a), .string (bs b)] w fun e w' => e = .returned (.bool (lowL a == lowL b)) ∧ Below w.heap.size w w' := by
  have HA := Lib.hid ha
  have HB := Lib.hid hb
  clear ha hb
  go_enter Tryz.func35, Tryz.ntmps35
  go_wp2_with fail
  refine (small_any a _ HA.out).mono ?_
  rintro e w2 ⟨rfl, hb2⟩
  go_wp2_with fail
  refine (small_any b _ HB.out).mono ?_
  rintro e w3 ⟨rfl, hb3⟩
  go_wp2
  go_ret
  exact ⟨rfl, hb2.trans (hb3.mono hb2.size)⟩

/-- []byte(s), with its block -/
theorem to_row2 (l : List UInt8) (w : World) : ∃ (cap : Nat) (w' : World) (cs : Array Value) (t : TypeId), (convert 9 58 (.string (bs l))).run Tryz.prog w = .ok (.slice (some ⟨w.heap.size, 0, none⟩) l.length cap) w' ∧
    w'.heap[w.heap.size]? = some (.cells cs t (cs.size, cs.size + 1)) ∧ l.length ≤ cs.size ∧ (∀ i, i < l.length → cs[i]? = some (.int .u8 ((l.getD i 0).toNat : Int))) ∧ Below w.heap.size w w' ∧ w.heap.size < w'.heap.size := by
  have h := run_bytes_of_string (P := Tryz.prog) w 9 58 5 (bs l) Tryz.underlying9 Tryz.underlying58 Tryz.underlying5
  rw [bs_size] at h
  have hcs : ∀ i, i < l.length → (bytesRow (bs l) (grownCap w l.length 0 5))[i]? = some (.int .u8 ((l.getD i 0).toNat : Int)) := fun i hi => by
    have hb := bytesRow_at (bs l) (grownCap w l.length 0 5) i (by simpa using hi)
    rw [hb]
    simp [List.getD, hi]
  refine ⟨_, _, _, _, h, heap_new w.drew _, by unfold bytesRow; simp, hcs, ((Below.refl _ w).drew).alloc (Nat.le_refl _) _, by simp⟩

theorem set_row {W : World} {g k : Nat} {cs : Array Value} {t : TypeId} {fr : Nat × Nat} (h : W.heap[g]? = some (.cells cs t fr)) (x : Value) : (W.setCell ⟨g, k, none⟩ x).heap[g]? = some (.cells (cs.setIfInBounds k x) t fr) := by
  simp [World.setCell, Array.getElem?_modify, h]

end Go.Proofs.YtgkbigbekmkobaaGreatDoor
