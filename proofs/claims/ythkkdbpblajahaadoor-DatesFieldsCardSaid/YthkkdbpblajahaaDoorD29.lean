/- The dates' reader: read at the rules of ParseInternal and ParseMail (wrong). Printed by gen27.py. -/
import Derived.Test.YthkkdbpblajahaaDoorD22
import Derived.Outline
set_option linter.unusedVariables false
set_option linter.unusedSimpArgs false
namespace Go.Proofs.YthkkdbpblajahaaDoor
open Go.RowKit

set_option maxRecDepth 100000 in
set_option maxHeartbeats 1000000 in
theorem readInternal_wrong (l : List UInt8) (w : World) (a a0 : Addr) (hc : w.cell? ⟨1, 0, none⟩ = some (errV a)) (hc0 : w.cell? ⟨0, 0, none⟩ = some (errV a0)) (hl : l.length ≤ 140737488355328) (y m d h mi s z : Int) (hnr : ¬ Cal.right y m d h mi s)
    (hF : ∀ (b : Nat) (w1 : World), ScAt w1 b l → w1.cell? ⟨1, 0, none⟩ = some (errV a) → 1 ≠ b → Calls Tryd.prog 52 #[.pointer (some ⟨b, 0, none⟩)] w1 fun e w' => e = .returned (.tuple #[dateV y m d h mi s, .int .i64 z]) ∧ ScAt w' b [] ∧ Upd b w1 w') :
    Calls Tryd.prog 42 #[.string (bs l), .func (.func 52) #[] #[]] w fun e w' => e = .returned (.tuple #[.int .i64 0, errV a0]) ∧ Below w.heap.size w w' := by
  have hmf : ∀ (fn : Fn) (first cap : Array Value) (w : World), (Instr.makeFunc fn first cap).run Tryd.prog w = .ok (.func fn first cap) w := fun _ _ _ _ => rfl
  go_enter_defers Tryd.func42, Tryd.ntmps42
  go_wp2_with fail
  obtain ⟨W1, hW1⟩ : ∃ W1, (((w.alloc (.cells #[.int .i64 0] 3)).alloc (.cells #[.nilIface] 29)).alloc (.cells #[.string (bs l)] 81)) = W1 := ⟨_, rfl⟩
  rw [hW1]
  have hk1 : ScAt W1 (w.heap.size + 1 + 1) l := by
    rw [← hW1]
    have := heap_new ((w.alloc (.cells #[.int .i64 0] 3)).alloc (.cells #[.nilIface] 29)) (.cells #[.string (bs l)] 81)
    rw [size_alloc, size_alloc] at this
    exact this
  have hB1 : Below w.heap.size w W1 := by
    rw [← hW1]
    exact (((Below.refl _ _).alloc (Nat.le_refl _) _).alloc (by simp) _).alloc (by simp; omega) _
  have hc1 := (hB1.cell (cell_lt hc)).trans hc
  have hs1 : W1.heap.size = w.heap.size + 1 + 1 + 1 := by rw [← hW1]; simp
  have hp1 : W1.heap[w.heap.size]? = some (.cells #[.int .i64 0] 3 (0, 0)) := by
    rw [← hW1, heap_old _ _ _ (by simp; omega), heap_old _ _ _ (by simp)]
    exact heap_new _ _
  have hq1 : W1.heap[w.heap.size + 1]? = some (.cells #[.nilIface] 29 (0, 0)) := by
    rw [← hW1, heap_old _ _ _ (by simp)]
    have := heap_new (w.alloc (.cells #[.int .i64 0] 3)) (.cells #[.nilIface] 29)
    rw [size_alloc] at this
    exact this
  have hlt : 1 < w.heap.size := cell_lt hc
  clear hW1
  refine (hF _ _ hk1 hc1 (by omega)).mono ?_
  rintro e v2 ⟨rfl, hk2, gu2⟩
  have gp2 := (gu2.block (w.heap.size) (by omega) (by omega)).trans hp1
  have gq2 := (gu2.block (w.heap.size + 1) (by omega) (by omega)).trans hq1
  have gz := gu2.size
  obtain ⟨k0, f0⟩ := sc_cells hk2
  have k1 := fun o => cell_alloc k0 o
  unfold dateV
  go_wp2_with fail
  refine (need_yes _ _).mono ?_
  rintro e w9 ⟨rfl, hw9⟩
  rw [hw9]
  clear hw9
  go_wp2_with fail
  have hp2 := fun o => (heap_old v2 o _ (by omega)).trans gp2
  have hq2 := fun o => (heap_old v2 o _ (by omega)).trans gq2
  have hu2 := fun o => gu2.alloc o
  obtain ⟨O1, hO1⟩ : ∃ O1, Obj.cells #[.int .i64 y, .int .i64 m, .int .i64 d, .int .i64 h, .int .i64 mi, .int .i64 s, .int .i64 0] 27 = O1 := ⟨_, rfl⟩
  rw [hO1]
  replace hp2 := hp2 O1
  replace hq2 := hq2 O1
  replace hu2 := hu2 O1
  obtain ⟨w2, hw2⟩ : ∃ w2, v2.alloc O1 = w2 := ⟨_, rfl⟩
  rw [hw2] at hp2 hq2 hu2 ⊢
  clear hw2 hO1 k1 k0 f0 hk2 gu2 gp2 gq2 gz
  have hb2 : Below w.heap.size w w2 := hB1.trans (hu2.below (by omega) (by omega))
  have hz2 := hb2.size
  have hl2 := (Array.getElem?_eq_some_iff.1 hq2).1
  have hc3 := (hb2.cell (cell_lt hc0)).trans hc0
  have hlt0 : 0 < w.heap.size := cell_lt hc0
  refine (moment_bad y m d h mi s 0 w2 (errV a0) hc3 hnr).mono ?_
  rintro e w3 ⟨rfl, hb3⟩
  have hp3 := (hb3.block _ (by omega)).trans hp2
  have hq3 := (hb3.block _ (by omega)).trans hq2
  have hc4 := (hb3.cell (cell_lt hc3)).trans hc3
  have hb4 : Below w.heap.size w w3 := hb2.trans (hb3.mono hz2)
  clear hb3 hp2 hq2 hc3 hu2 hb2 hp1 hq1 hk1 hB1 hc1
  obtain ⟨p3, fp3⟩ := blk2 hp3
  obtain ⟨q3, fq3⟩ := blk2 hq3
  have hne : ¬ w.heap.size + 1 = w.heap.size := by omega
  have hne0 : ¬ 0 = w.heap.size := by omega
  have hne1 : ¬ 0 = w.heap.size + 1 := by omega
  unfold errV at hc4 ⊢
  go_wp2
  go_region
  go_wp2
  have t1 := two_set hp3 hq3 (.int .i64 0) (.iface 124 (.pointer (some a0)))
  have t2 := two_set t1.1 t1.2.1 (.int .i64 0) (.iface 124 (.pointer (some a0)))
  obtain ⟨W5, hW5⟩ : ∃ W5, ((((w3.setCell ⟨w.heap.size, 0, none⟩ (.int .i64 0)).setCell ⟨w.heap.size + 1, 0, none⟩ (.iface 124 (.pointer (some a0)))).setCell ⟨w.heap.size, 0, none⟩ (.int .i64 0)).setCell ⟨w.heap.size + 1, 0, none⟩ (.iface 124 (.pointer (some a0)))).drew = W5 := ⟨_, rfl⟩
  have c3 : W5.cell? ⟨w.heap.size, 0, none⟩ = some (.int .i64 0) := by rw [← hW5]; exact (blk2 t2.1).1
  have d3 : W5.cell? ⟨w.heap.size + 1, 0, none⟩ = some (.iface 124 (.pointer (some a0))) := by rw [← hW5]; exact (blk2 t2.2.1).1
  have hb5 : Below w.heap.size w W5 := by rw [← hW5]; exact (t2.2.2 _ _ (t1.2.2 _ _ hb4 (Nat.le_refl _)) (Nat.le_refl _)).drew
  rw [hW5]
  clear hW5 t1 t2 hp3 hq3 p3 q3 fp3 fq3 hb4
  refine leaves_cons (f := 79) (args := #[.pointer (some ⟨w.heap.size, 0, none⟩), .pointer (some ⟨w.heap.size + 1, 0, none⟩)]) (by simp) (by simp [go_sem]) ?_
  refine (catch_idle ⟨w.heap.size, 0, none⟩ ⟨w.heap.size + 1, 0, none⟩ _).mono ?_
  rintro e u' w8 ⟨rfl, rfl, rfl⟩
  simp [Leaves, settle, results, Tryd.results42, go_sem, c3, d3]
  first | exact hb5 | exact ⟨rfl, hb5⟩ | exact ⟨HM.out.symm, hb5⟩


set_option maxRecDepth 100000 in
set_option maxHeartbeats 1000000 in
theorem readMail_wrong (l : List UInt8) (w : World) (a a0 : Addr) (hc : w.cell? ⟨1, 0, none⟩ = some (errV a)) (hc0 : w.cell? ⟨0, 0, none⟩ = some (errV a0)) (hl : l.length ≤ 140737488355328) (y m d h mi s z : Int) (hnr : ¬ Cal.right y m d h mi s)
    (hF : ∀ (b : Nat) (w1 : World), ScAt w1 b l → w1.cell? ⟨1, 0, none⟩ = some (errV a) → 1 ≠ b → Calls Tryd.prog 74 #[.pointer (some ⟨b, 0, none⟩)] w1 fun e w' => e = .returned (.tuple #[dateV y m d h mi s, .int .i64 z]) ∧ ScAt w' b [] ∧ Upd b w1 w') :
    Calls Tryd.prog 42 #[.string (bs l), .func (.func 74) #[] #[]] w fun e w' => e = .returned (.tuple #[.int .i64 0, errV a0]) ∧ Below w.heap.size w w' := by
  have hmf : ∀ (fn : Fn) (first cap : Array Value) (w : World), (Instr.makeFunc fn first cap).run Tryd.prog w = .ok (.func fn first cap) w := fun _ _ _ _ => rfl
  go_enter_defers Tryd.func42, Tryd.ntmps42
  go_wp2_with fail
  obtain ⟨W1, hW1⟩ : ∃ W1, (((w.alloc (.cells #[.int .i64 0] 3)).alloc (.cells #[.nilIface] 29)).alloc (.cells #[.string (bs l)] 81)) = W1 := ⟨_, rfl⟩
  rw [hW1]
  have hk1 : ScAt W1 (w.heap.size + 1 + 1) l := by
    rw [← hW1]
    have := heap_new ((w.alloc (.cells #[.int .i64 0] 3)).alloc (.cells #[.nilIface] 29)) (.cells #[.string (bs l)] 81)
    rw [size_alloc, size_alloc] at this
    exact this
  have hB1 : Below w.heap.size w W1 := by
    rw [← hW1]
    exact (((Below.refl _ _).alloc (Nat.le_refl _) _).alloc (by simp) _).alloc (by simp; omega) _
  have hc1 := (hB1.cell (cell_lt hc)).trans hc
  have hs1 : W1.heap.size = w.heap.size + 1 + 1 + 1 := by rw [← hW1]; simp
  have hp1 : W1.heap[w.heap.size]? = some (.cells #[.int .i64 0] 3 (0, 0)) := by
    rw [← hW1, heap_old _ _ _ (by simp; omega), heap_old _ _ _ (by simp)]
    exact heap_new _ _
  have hq1 : W1.heap[w.heap.size + 1]? = some (.cells #[.nilIface] 29 (0, 0)) := by
    rw [← hW1, heap_old _ _ _ (by simp)]
    have := heap_new (w.alloc (.cells #[.int .i64 0] 3)) (.cells #[.nilIface] 29)
    rw [size_alloc] at this
    exact this
  have hlt : 1 < w.heap.size := cell_lt hc
  clear hW1
  refine (hF _ _ hk1 hc1 (by omega)).mono ?_
  rintro e v2 ⟨rfl, hk2, gu2⟩
  have gp2 := (gu2.block (w.heap.size) (by omega) (by omega)).trans hp1
  have gq2 := (gu2.block (w.heap.size + 1) (by omega) (by omega)).trans hq1
  have gz := gu2.size
  obtain ⟨k0, f0⟩ := sc_cells hk2
  have k1 := fun o => cell_alloc k0 o
  unfold dateV
  go_wp2_with fail
  refine (need_yes _ _).mono ?_
  rintro e w9 ⟨rfl, hw9⟩
  rw [hw9]
  clear hw9
  go_wp2_with fail
  have hp2 := fun o => (heap_old v2 o _ (by omega)).trans gp2
  have hq2 := fun o => (heap_old v2 o _ (by omega)).trans gq2
  have hu2 := fun o => gu2.alloc o
  obtain ⟨O1, hO1⟩ : ∃ O1, Obj.cells #[.int .i64 y, .int .i64 m, .int .i64 d, .int .i64 h, .int .i64 mi, .int .i64 s, .int .i64 0] 27 = O1 := ⟨_, rfl⟩
  rw [hO1]
  replace hp2 := hp2 O1
  replace hq2 := hq2 O1
  replace hu2 := hu2 O1
  obtain ⟨w2, hw2⟩ : ∃ w2, v2.alloc O1 = w2 := ⟨_, rfl⟩
  rw [hw2] at hp2 hq2 hu2 ⊢
  clear hw2 hO1 k1 k0 f0 hk2 gu2 gp2 gq2 gz
  have hb2 : Below w.heap.size w w2 := hB1.trans (hu2.below (by omega) (by omega))
  have hz2 := hb2.size
  have hl2 := (Array.getElem?_eq_some_iff.1 hq2).1
  have hc3 := (hb2.cell (cell_lt hc0)).trans hc0
  have hlt0 : 0 < w.heap.size := cell_lt hc0
  refine (moment_bad y m d h mi s 0 w2 (errV a0) hc3 hnr).mono ?_
  rintro e w3 ⟨rfl, hb3⟩
  have hp3 := (hb3.block _ (by omega)).trans hp2
  have hq3 := (hb3.block _ (by omega)).trans hq2
  have hc4 := (hb3.cell (cell_lt hc3)).trans hc3
  have hb4 : Below w.heap.size w w3 := hb2.trans (hb3.mono hz2)
  clear hb3 hp2 hq2 hc3 hu2 hb2 hp1 hq1 hk1 hB1 hc1
  obtain ⟨p3, fp3⟩ := blk2 hp3
  obtain ⟨q3, fq3⟩ := blk2 hq3
  have hne : ¬ w.heap.size + 1 = w.heap.size := by omega
  have hne0 : ¬ 0 = w.heap.size := by omega
  have hne1 : ¬ 0 = w.heap.size + 1 := by omega
  unfold errV at hc4 ⊢
  go_wp2
  go_region
  go_wp2
  have t1 := two_set hp3 hq3 (.int .i64 0) (.iface 124 (.pointer (some a0)))
  have t2 := two_set t1.1 t1.2.1 (.int .i64 0) (.iface 124 (.pointer (some a0)))
  obtain ⟨W5, hW5⟩ : ∃ W5, ((((w3.setCell ⟨w.heap.size, 0, none⟩ (.int .i64 0)).setCell ⟨w.heap.size + 1, 0, none⟩ (.iface 124 (.pointer (some a0)))).setCell ⟨w.heap.size, 0, none⟩ (.int .i64 0)).setCell ⟨w.heap.size + 1, 0, none⟩ (.iface 124 (.pointer (some a0)))).drew = W5 := ⟨_, rfl⟩
  have c3 : W5.cell? ⟨w.heap.size, 0, none⟩ = some (.int .i64 0) := by rw [← hW5]; exact (blk2 t2.1).1
  have d3 : W5.cell? ⟨w.heap.size + 1, 0, none⟩ = some (.iface 124 (.pointer (some a0))) := by rw [← hW5]; exact (blk2 t2.2.1).1
  have hb5 : Below w.heap.size w W5 := by rw [← hW5]; exact (t2.2.2 _ _ (t1.2.2 _ _ hb4 (Nat.le_refl _)) (Nat.le_refl _)).drew
  rw [hW5]
  clear hW5 t1 t2 hp3 hq3 p3 q3 fp3 fq3 hb4
  refine leaves_cons (f := 79) (args := #[.pointer (some ⟨w.heap.size, 0, none⟩), .pointer (some ⟨w.heap.size + 1, 0, none⟩)]) (by simp) (by simp [go_sem]) ?_
  refine (catch_idle ⟨w.heap.size, 0, none⟩ ⟨w.heap.size + 1, 0, none⟩ _).mono ?_
  rintro e u' w8 ⟨rfl, rfl, rfl⟩
  simp [Leaves, settle, results, Tryd.results42, go_sem, c3, d3]
  first | exact hb5 | exact ⟨rfl, hb5⟩ | exact ⟨HM.out.symm, hb5⟩


end Go.Proofs.YthkkdbpblajahaaDoor
