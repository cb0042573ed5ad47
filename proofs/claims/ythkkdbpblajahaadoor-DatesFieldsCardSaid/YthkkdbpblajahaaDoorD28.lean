/- The dates' reader: read at the rules of ParseInternal and ParseMail (rest). Printed by gen27.py. -/
import Derived.Test.YthkkdbpblajahaaDoorD22
import Derived.Outline
set_option linter.unusedVariables false
set_option linter.unusedSimpArgs false
namespace Go.Proofs.YthkkdbpblajahaaDoor
open Go.RowKit

set_option maxRecDepth 100000 in
theorem readInternal_rest (l : List UInt8) (w : World) (a : Addr) (hc : w.cell? ⟨1, 0, none⟩ = some (errV a)) (hl : l.length ≤ 140737488355328) (y m d h mi s z : Int) (r : List UInt8) (hr : r ≠ [])
    (hF : ∀ (b : Nat) (w1 : World), ScAt w1 b l → w1.cell? ⟨1, 0, none⟩ = some (errV a) → 1 ≠ b → Calls Tryd.prog 52 #[.pointer (some ⟨b, 0, none⟩)] w1 fun e w' => e = .returned (.tuple #[dateV y m d h mi s, .int .i64 z]) ∧ ScAt w' b r ∧ Upd b w1 w') :
    Calls Tryd.prog 42 #[.string (bs l), .func (.func 52) #[] #[]] w fun e w' => e = .returned (.tuple #[.int .i64 0, errV a]) ∧ Below w.heap.size w w' := by
  have hmf : ∀ (fn : Fn) (first cap : Array Value) (w : World), (Instr.makeFunc fn first cap).run Tryd.prog w = .ok (.func fn first cap) w := fun _ _ _ _ => rfl
  go_enter_defers Tryd.func42, Tryd.ntmps42
  go_wp2_with fail
  obtain ⟨W1, hW1⟩ : ∃ W1, (((w.alloc (.cells #[.int .i64 0] 3)).alloc (.cells #[.nilIface] 29)).alloc (.cells #[.string (bs l)] 81)) = W1 := ⟨_, rfl⟩
  rw [hW1]
  have hk1 : ScAt W1 (w.heap.size + 1 + 1) l := by
    rw [← hW1]
    have := heap_new ((w.alloc (.cells #[.int .i64 0] 3)).alloc (.cells #[.nilIface] 29)) (.cells #[.string (bs l)] 81)
    rw [size_alloc, size_alloc] at this
    exact this
  have hB1 : Below w.heap.size w W1 := by
    rw [← hW1]
    exact (((Below.refl _ _).alloc (Nat.le_refl _) _).alloc (by simp) _).alloc (by simp; omega) _
  have hc1 := (hB1.cell (cell_lt hc)).trans hc
  have hs1 : W1.heap.size = w.heap.size + 1 + 1 + 1 := by rw [← hW1]; simp
  have hp1 : W1.heap[w.heap.size]? = some (.cells #[.int .i64 0] 3 (0, 0)) := by
    rw [← hW1, heap_old _ _ _ (by simp; omega), heap_old _ _ _ (by simp)]
    exact heap_new _ _
  have hq1 : W1.heap[w.heap.size + 1]? = some (.cells #[.nilIface] 29 (0, 0)) := by
    rw [← hW1, heap_old _ _ _ (by simp)]
    have := heap_new (w.alloc (.cells #[.int .i64 0] 3)) (.cells #[.nilIface] 29)
    rw [size_alloc] at this
    exact this
  have hlt : 1 < w.heap.size := cell_lt hc
  clear hW1
  refine (hF _ _ hk1 hc1 (by omega)).mono ?_
  rintro e v2 ⟨rfl, hk2, gu2⟩
  have gp2 := (gu2.block (w.heap.size) (by omega) (by omega)).trans hp1
  have gq2 := (gu2.block (w.heap.size + 1) (by omega) (by omega)).trans hq1
  have gc2 := upd_cell gu2 (by omega) hc1
  have gz := gu2.size
  obtain ⟨k0, f0⟩ := sc_cells hk2
  obtain ⟨c, r, rfl⟩ : ∃ c r', r = c :: r' := by
    cases r with
    | nil => exact absurd rfl hr
    | cons c r => exact ⟨c, r, rfl⟩
  have k1 := fun o => cell_alloc k0 o
  have hsz : (bs (c :: r)).toList.isEmpty = false := by simp [ByteArray.toList_eq]
  unfold dateV
  go_wp2_with fail
  have hp2 := fun o => (heap_old v2 o _ (by omega)).trans gp2
  have hq2 := fun o => (heap_old v2 o _ (by omega)).trans gq2
  have hu2 := fun o => gu2.alloc o
  have hc2 := fun o => cell_alloc gc2 o
  obtain ⟨O1, hO1⟩ : ∃ O1, Obj.cells #[.int .i64 y, .int .i64 m, .int .i64 d, .int .i64 h, .int .i64 mi, .int .i64 s, .int .i64 0] 27 = O1 := ⟨_, rfl⟩
  rw [hO1]
  replace hp2 := hp2 O1
  replace hq2 := hq2 O1
  replace hu2 := hu2 O1
  replace hc2 := hc2 O1
  obtain ⟨w2, hw2⟩ : ∃ w2, v2.alloc O1 = w2 := ⟨_, rfl⟩
  rw [hw2] at hp2 hq2 hu2 hc2 ⊢
  clear hw2 hO1 k1 k0 f0 hk2 gu2 gp2 gq2 gc2 gz
  refine (need_no _ _ a hc2).mono ?_
  rintro e w9 ⟨rfl, hw9⟩
  rw [hw9]
  clear hw9
  unfold badP errV
  go_wp2
  refine leaves_cons (f := 79) (args := #[.pointer (some ⟨w.heap.size, 0, none⟩), .pointer (some ⟨w.heap.size + 1, 0, none⟩)]) (by simp) (by simp [go_sem]) ?_
  refine (catch_bad w.heap.size (w.heap.size + 1) (.int .i64 0) .nilIface a [] _ ?_ ?_ ?_ ?_ (by omega)).mono ?_
  · simp [World.cell?, hp2]
  · simp [World.cell?, hq2]
  · simp [World.frozen?, hp2]
  · simp [World.frozen?, hq2]
  rintro e u' w3 ⟨rfl, rfl, rfl⟩
  have hb2 : Below w.heap.size w w2 := hB1.trans (hu2.below (by omega) (by omega))
  have hz2 := hb2.size
  have hz := hu2.size
  obtain ⟨O, hO⟩ : ∃ O : Obj, .cells #[.iface 124 (.pointer (some a))] 78 = O := ⟨_, rfl⟩
  rw [hO]
  have hp3 : (w2.alloc O).heap[w.heap.size]? = some (.cells #[.int .i64 0] 3 (0, 0)) := (heap_old _ _ _ (by omega)).trans hp2
  have hq3 : (w2.alloc O).heap[w.heap.size + 1]? = some (.cells #[.nilIface] 29 (0, 0)) := (heap_old _ _ _ (by omega)).trans hq2
  obtain ⟨W2, hW2⟩ : ∃ W2, w2.alloc O = W2 := ⟨_, rfl⟩
  rw [hW2] at hp3 hq3 ⊢
  have hb3 : Below w.heap.size w W2 := by rw [← hW2]; exact hb2.alloc hz2 _
  obtain ⟨W3, hW3⟩ : ∃ W3, ((W2.setCell ⟨w.heap.size, 0, none⟩ (.int .i64 0)).setCell ⟨w.heap.size + 1, 0, none⟩ (.iface 124 (.pointer (some a)))).drew = W3 := ⟨_, rfl⟩
  rw [hW3]
  have c3 : W3.cell? ⟨w.heap.size, 0, none⟩ = some (.int .i64 0) := by
    rw [← hW3]; simp [World.cell?, World.drew, World.setCell, Array.getElem?_modify, hp3]
  have d3 : W3.cell? ⟨w.heap.size + 1, 0, none⟩ = some (.iface 124 (.pointer (some a))) := by
    rw [← hW3]; simp [World.cell?, World.drew, World.setCell, Array.getElem?_modify, hq3]
  have hb4 : Below w.heap.size w W3 := by
    rw [← hW3]
    refine (hb3.trans ?_)
    exact ⟨rfl, rfl, rfl, by simp [World.setCell, World.drew], fun k hk => (Below.heap_setCell _ _ _ _ (by simp; omega)).trans (Below.heap_setCell _ _ _ _ (by simp; omega))⟩
  clear hW3 hW2 hO hp3 hq3 hp2 hq2 hp1 hq1 hk1 hB1 hc1
  simp [Leaves, settle, results, Tryd.results42, go_sem, c3, d3]
  exact ⟨rfl, hb4⟩





set_option maxRecDepth 100000 in
theorem readMail_rest (l : List UInt8) (w : World) (a : Addr) (hc : w.cell? ⟨1, 0, none⟩ = some (errV a)) (hl : l.length ≤ 140737488355328) (y m d h mi s z : Int) (r : List UInt8) (hr : r ≠ [])
    (hF : ∀ (b : Nat) (w1 : World), ScAt w1 b l → w1.cell? ⟨1, 0, none⟩ = some (errV a) → 1 ≠ b → Calls Tryd.prog 74 #[.pointer (some ⟨b, 0, none⟩)] w1 fun e w' => e = .returned (.tuple #[dateV y m d h mi s, .int .i64 z]) ∧ ScAt w' b r ∧ Upd b w1 w') :
    Calls Tryd.prog 42 #[.string (bs l), .func (.func 74) #[] #[]] w fun e w' => e = .returned (.tuple #[.int .i64 0, errV a]) ∧ Below w.heap.size w w' := by
  have hmf : ∀ (fn : Fn) (first cap : Array Value) (w : World), (Instr.makeFunc fn first cap).run Tryd.prog w = .ok (.func fn first cap) w := fun _ _ _ _ => rfl
  go_enter_defers Tryd.func42, Tryd.ntmps42
  go_wp2_with fail
  obtain ⟨W1, hW1⟩ : ∃ W1, (((w.alloc (.cells #[.int .i64 0] 3)).alloc (.cells #[.nilIface] 29)).alloc (.cells #[.string (bs l)] 81)) = W1 := ⟨_, rfl⟩
  rw [hW1]
  have hk1 : ScAt W1 (w.heap.size + 1 + 1) l := by
    rw [← hW1]
    have := heap_new ((w.alloc (.cells #[.int .i64 0] 3)).alloc (.cells #[.nilIface] 29)) (.cells #[.string (bs l)] 81)
    rw [size_alloc, size_alloc] at this
    exact this
  have hB1 : Below w.heap.size w W1 := by
    rw [← hW1]
    exact (((Below.refl _ _).alloc (Nat.le_refl _) _).alloc (by simp) _).alloc (by simp; omega) _
  have hc1 := (hB1.cell (cell_lt hc)).trans hc
  have hs1 : W1.heap.size = w.heap.size + 1 + 1 + 1 := by rw [← hW1]; simp
  have hp1 : W1.heap[w.heap.size]? = some (.cells #[.int .i64 0] 3 (0, 0)) := by
    rw [← hW1, heap_old _ _ _ (by simp; omega), heap_old _ _ _ (by simp)]
    exact heap_new _ _
  have hq1 : W1.heap[w.heap.size + 1]? = some (.cells #[.nilIface] 29 (0, 0)) := by
    rw [← hW1, heap_old _ _ _ (by simp)]
    have := heap_new (w.alloc (.cells #[.int .i64 0] 3)) (.cells #[.nilIface] 29)
    rw [size_alloc] at this
    exact this
  have hlt : 1 < w.heap.size := cell_lt hc
  clear hW1
  refine (hF _ _ hk1 hc1 (by omega)).mono ?_
  rintro e v2 ⟨rfl, hk2, gu2⟩
  have gp2 := (gu2.block (w.heap.size) (by omega) (by omega)).trans hp1
  have gq2 := (gu2.block (w.heap.size + 1) (by omega) (by omega)).trans hq1
  have gc2 := upd_cell gu2 (by omega) hc1
  have gz := gu2.size
  obtain ⟨k0, f0⟩ := sc_cells hk2
  obtain ⟨c, r, rfl⟩ : ∃ c r', r = c :: r' := by
    cases r with
    | nil => exact absurd rfl hr
    | cons c r => exact ⟨c, r, rfl⟩
  have k1 := fun o => cell_alloc k0 o
  have hsz : (bs (c :: r)).toList.isEmpty = false := by simp [ByteArray.toList_eq]
  unfold dateV
  go_wp2_with fail
  have hp2 := fun o => (heap_old v2 o _ (by omega)).trans gp2
  have hq2 := fun o => (heap_old v2 o _ (by omega)).trans gq2
  have hu2 := fun o => gu2.alloc o
  have hc2 := fun o => cell_alloc gc2 o
  obtain ⟨O1, hO1⟩ : ∃ O1, Obj.cells #[.int .i64 y, .int .i64 m, .int .i64 d, .int .i64 h, .int .i64 mi, .int .i64 s, .int .i64 0] 27 = O1 := ⟨_, rfl⟩
  rw [hO1]
  replace hp2 := hp2 O1
  replace hq2 := hq2 O1
  replace hu2 := hu2 O1
  replace hc2 := hc2 O1
  obtain ⟨w2, hw2⟩ : ∃ w2, v2.alloc O1 = w2 := ⟨_, rfl⟩
  rw [hw2] at hp2 hq2 hu2 hc2 ⊢
  clear hw2 hO1 k1 k0 f0 hk2 gu2 gp2 gq2 gc2 gz
  refine (need_no _ _ a hc2).mono ?_
  rintro e w9 ⟨rfl, hw9⟩
  rw [hw9]
  clear hw9
  unfold badP errV
  go_wp2
  refine leaves_cons (f := 79) (args := #[.pointer (some ⟨w.heap.size, 0, none⟩), .pointer (some ⟨w.heap.size + 1, 0, none⟩)]) (by simp) (by simp [go_sem]) ?_
  refine (catch_bad w.heap.size (w.heap.size + 1) (.int .i64 0) .nilIface a [] _ ?_ ?_ ?_ ?_ (by omega)).mono ?_
  · simp [World.cell?, hp2]
  · simp [World.cell?, hq2]
  · simp [World.frozen?, hp2]
  · simp [World.frozen?, hq2]
  rintro e u' w3 ⟨rfl, rfl, rfl⟩
  have hb2 : Below w.heap.size w w2 := hB1.trans (hu2.below (by omega) (by omega))
  have hz2 := hb2.size
  have hz := hu2.size
  obtain ⟨O, hO⟩ : ∃ O : Obj, .cells #[.iface 124 (.pointer (some a))] 78 = O := ⟨_, rfl⟩
  rw [hO]
  have hp3 : (w2.alloc O).heap[w.heap.size]? = some (.cells #[.int .i64 0] 3 (0, 0)) := (heap_old _ _ _ (by omega)).trans hp2
  have hq3 : (w2.alloc O).heap[w.heap.size + 1]? = some (.cells #[.nilIface] 29 (0, 0)) := (heap_old _ _ _ (by omega)).trans hq2
  obtain ⟨W2, hW2⟩ : ∃ W2, w2.alloc O = W2 := ⟨_, rfl⟩
  rw [hW2] at hp3 hq3 ⊢
  have hb3 : Below w.heap.size w W2 := by rw [← hW2]; exact hb2.alloc hz2 _
  obtain ⟨W3, hW3⟩ : ∃ W3, ((W2.setCell ⟨w.heap.size, 0, none⟩ (.int .i64 0)).setCell ⟨w.heap.size + 1, 0, none⟩ (.iface 124 (.pointer (some a)))).drew = W3 := ⟨_, rfl⟩
  rw [hW3]
  have c3 : W3.cell? ⟨w.heap.size, 0, none⟩ = some (.int .i64 0) := by
    rw [← hW3]; simp [World.cell?, World.drew, World.setCell, Array.getElem?_modify, hp3]
  have d3 : W3.cell? ⟨w.heap.size + 1, 0, none⟩ = some (.iface 124 (.pointer (some a))) := by
    rw [← hW3]; simp [World.cell?, World.drew, World.setCell, Array.getElem?_modify, hq3]
  have hb4 : Below w.heap.size w W3 := by
    rw [← hW3]
    refine (hb3.trans ?_)
    exact ⟨rfl, rfl, rfl, by simp [World.setCell, World.drew], fun k hk => (Below.heap_setCell _ _ _ _ (by simp; omega)).trans (Below.heap_setCell _ _ _ _ (by simp; omega))⟩
  clear hW3 hW2 hO hp3 hq3 hp2 hq2 hp1 hq1 hk1 hB1 hc1
  simp [Leaves, settle, results, Tryd.results42, go_sem, c3, d3]
  exact ⟨rfl, hb4⟩





end Go.Proofs.YthkkdbpblajahaaDoor
