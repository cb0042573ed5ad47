/- Texts of one walk, merged: XD29 XD30 XD31 XD24 XD25 XD32. -/
import Derived.Test.YtcjnpklmfcbofaaGreatDoorWe
import Derived.Outline
import Derived.Deep.RegionWith

/- The dates' reader: read at the rules of ParseInternal and ParseMail (wrong). Printed by gen27.py. -/
set_option linter.unusedVariables false
set_option linter.unusedSimpArgs false
section
set_option linter.unusedVariables false
set_option linter.unusedSimpArgs false
namespace Go.Proofs.YtcjnpklmfcbofaaGreatDoor
open Go.RowKit

set_option maxRecDepth 100000 in
set_option maxHeartbeats 1000000 in
theorem readMail_wrong (l : List UInt8) (w : World) (a a0 : Addr) (hc : w.cell? ⟨2, 0, none⟩ = some (errV a)) (hc0 : w.cell? ⟨1, 0, none⟩ = some (errV a0)) (hl : l.length ≤ 140737488355328) (y m d h mi s z : Int) (hnr : ¬ Cal.right y m d h mi s)
    (hF : ∀ (b : Nat) (w1 : World), ScAt w1 b l → w1.cell? ⟨2, 0, none⟩ = some (errV a) → 2 ≠ b → Calls Tryz.prog 52 #[.pointer (some ⟨b, 0, none⟩)] w1 fun e w' => e = .returned (.tuple #[dateV y m d h mi s, .int .i64 z]) ∧ ScAt w' b [] ∧ Upd b w1 w') :
    Calls Tryz.prog 51 #[.string (bs l), .func (.func 52) #[] #[]] w fun e w' => e = .returned (.tuple #[.int .i64 0, errV a0]) ∧ Below w.heap.size w w' := by
  have hmf : ∀ (fn : Fn) (first cap : Array Value) (w : World), (Instr.makeFunc fn first cap).run Tryz.prog w = .ok (.func fn first cap) w := fun _ _ _ _ => rfl
  go_enter_defers Tryz.func51, Tryz.ntmps51
  go_wp2_with fail
  obtain ⟨W1, hW1⟩ : ∃ W1, (((w.alloc (.cells #[.int .i64 0] 3)).alloc (.cells #[.nilIface] 24)).alloc (.cells #[.string (bs l)] 123)) = W1 := ⟨_, rfl⟩
  rw [hW1]
  have hk1 : ScAt W1 (w.heap.size + 1 + 1) l := by
    rw [← hW1]
    have := heap_new ((w.alloc (.cells #[.int .i64 0] 3)).alloc (.cells #[.nilIface] 24)) (.cells #[.string (bs l)] 123)
    rw [size_alloc, size_alloc] at this
    exact this
  have hB1 : Below w.heap.size w W1 := by
    rw [← hW1]
    exact (((Below.refl _ _).alloc (Nat.le_refl _) _).alloc (by simp) _).alloc (by simp; omega) _
  have hc1 := (hB1.cell (cell_lt hc)).trans hc
  have hs1 : W1.heap.size = w.heap.size + 1 + 1 + 1 := by rw [← hW1]; simp
  have hp1 : W1.heap[w.heap.size]? = some (.cells #[.int .i64 0] 3 (0, 0)) := by
    rw [← hW1, heap_old _ _ _ (by simp; omega), heap_old _ _ _ (by simp)]
    exact heap_new _ _
  have hq1 : W1.heap[w.heap.size + 1]? = some (.cells #[.nilIface] 24 (0, 0)) := by
    rw [← hW1, heap_old _ _ _ (by simp)]
    have := heap_new (w.alloc (.cells #[.int .i64 0] 3)) (.cells #[.nilIface] 24)
    rw [size_alloc] at this
    exact this
  have hlt : 2 < w.heap.size := cell_lt hc
  clear hW1
  refine (hF _ _ hk1 hc1 (by omega)).mono ?_
  rintro e v2 ⟨rfl, hk2, gu2⟩
  have gp2 := (gu2.block (w.heap.size) (by omega) (by omega)).trans hp1
  have gq2 := (gu2.block (w.heap.size + 1) (by omega) (by omega)).trans hq1
  have gz := gu2.size
  obtain ⟨k0, f0⟩ := sc_cells hk2
  have k1 := fun o => cell_alloc k0 o
  unfold dateV
  go_wp2_with fail
  refine (need_yes _ _).mono ?_
  rintro e w9 ⟨rfl, hw9⟩
  rw [hw9]
  clear hw9
  go_wp2_with fail
  have hp2 := fun o => (heap_old v2 o _ (by omega)).trans gp2
  have hq2 := fun o => (heap_old v2 o _ (by omega)).trans gq2
  have hu2 := fun o => gu2.alloc o
  obtain ⟨O1, hO1⟩ : ∃ O1, Obj.cells #[.int .i64 y, .int .i64 m, .int .i64 d, .int .i64 h, .int .i64 mi, .int .i64 s, .int .i64 0] 64 = O1 := ⟨_, rfl⟩
  rw [hO1]
  replace hp2 := hp2 O1
  replace hq2 := hq2 O1
  replace hu2 := hu2 O1
  obtain ⟨w2, hw2⟩ : ∃ w2, v2.alloc O1 = w2 := ⟨_, rfl⟩
  rw [hw2] at hp2 hq2 hu2 ⊢
  clear hw2 hO1 k1 k0 f0 hk2 gu2 gp2 gq2 gz
  have hb2 : Below w.heap.size w w2 := hB1.trans (hu2.below (by omega) (by omega))
  have hz2 := hb2.size
  have hl2 := (Array.getElem?_eq_some_iff.1 hq2).1
  have hc3 := (hb2.cell (cell_lt hc0)).trans hc0
  have hlt0 : 1 < w.heap.size := cell_lt hc0
  refine (moment_bad y m d h mi s 0 w2 (errV a0) hc3 hnr).mono ?_
  rintro e w3 ⟨rfl, hb3⟩
  have hp3 := (hb3.block _ (by omega)).trans hp2
  have hq3 := (hb3.block _ (by omega)).trans hq2
  have hc4 := (hb3.cell (cell_lt hc3)).trans hc3
  have hb4 : Below w.heap.size w w3 := hb2.trans (hb3.mono hz2)
  clear hb3 hp2 hq2 hc3 hu2 hb2 hp1 hq1 hk1 hB1 hc1
  obtain ⟨p3, fp3⟩ := blk2 hp3
  obtain ⟨q3, fq3⟩ := blk2 hq3
  have hne : ¬ w.heap.size + 1 = w.heap.size := by omega
  have hne0 : ¬ 1 = w.heap.size := by omega
  have hne1 : ¬ 1 = w.heap.size + 1 := by omega
  unfold errV at hc4 ⊢
  go_wp2
  go_region
  go_wp2
  have t1 := two_set hp3 hq3 (.int .i64 0) (.iface 182 (.pointer (some a0)))
  have t2 := two_set t1.1 t1.2.1 (.int .i64 0) (.iface 182 (.pointer (some a0)))
  obtain ⟨W5, hW5⟩ : ∃ W5, ((((w3.setCell ⟨w.heap.size, 0, none⟩ (.int .i64 0)).setCell ⟨w.heap.size + 1, 0, none⟩ (.iface 182 (.pointer (some a0)))).setCell ⟨w.heap.size, 0, none⟩ (.int .i64 0)).setCell ⟨w.heap.size + 1, 0, none⟩ (.iface 182 (.pointer (some a0)))).drew = W5 := ⟨_, rfl⟩
  have c3 : W5.cell? ⟨w.heap.size, 0, none⟩ = some (.int .i64 0) := by rw [← hW5]; exact (blk2 t2.1).1
  have d3 : W5.cell? ⟨w.heap.size + 1, 0, none⟩ = some (.iface 182 (.pointer (some a0))) := by rw [← hW5]; exact (blk2 t2.2.1).1
  have hb5 : Below w.heap.size w W5 := by rw [← hW5]; exact (t2.2.2 _ _ (t1.2.2 _ _ hb4 (Nat.le_refl _)) (Nat.le_refl _)).drew
  rw [hW5]
  clear hW5 t1 t2 hp3 hq3 p3 q3 fp3 fq3 hb4
  refine leaves_cons (f := 82) (args := #[.pointer (some ⟨w.heap.size, 0, none⟩), .pointer (some ⟨w.heap.size + 1, 0, none⟩)]) (by simp) (by simp [go_sem]) ?_
  refine (catch_idle ⟨w.heap.size, 0, none⟩ ⟨w.heap.size + 1, 0, none⟩ _).mono ?_
  rintro e u' w8 ⟨rfl, rfl, rfl⟩
  simp [Leaves, settle, results, Tryz.results51, go_sem, c3, d3]
  first | exact hb5 | exact ⟨rfl, hb5⟩ | exact ⟨HM.out.symm, hb5⟩


end Go.Proofs.YtcjnpklmfcbofaaGreatDoor
end

/- The dates' reader: read at the rules of ParseInternal and ParseMail (out). Printed by gen27.py. -/
set_option linter.unusedVariables false
set_option linter.unusedSimpArgs false
section
namespace Go.Proofs.YtcjnpklmfcbofaaGreatDoor
open Go.RowKit

set_option maxRecDepth 100000 in
set_option maxHeartbeats 1000000 in
theorem readMail_out (l : List UInt8) (w : World) (a a0 : Addr) (hc : w.cell? ⟨2, 0, none⟩ = some (errV a)) (hc0 : w.cell? ⟨1, 0, none⟩ = some (errV a0)) (hl : l.length ≤ 140737488355328) (y m d h mi s z : Int) (hr : Cal.right y m d h mi s) (hzb : -86400 ≤ z ∧ z ≤ 86400) (ho : Cal.mom y m d h mi s - z < 0 ∨ 4102444799 < Cal.mom y m d h mi s - z)
    (hF : ∀ (b : Nat) (w1 : World), ScAt w1 b l → w1.cell? ⟨2, 0, none⟩ = some (errV a) → 2 ≠ b → Calls Tryz.prog 52 #[.pointer (some ⟨b, 0, none⟩)] w1 fun e w' => e = .returned (.tuple #[dateV y m d h mi s, .int .i64 z]) ∧ ScAt w' b [] ∧ Upd b w1 w') :
    Calls Tryz.prog 51 #[.string (bs l), .func (.func 52) #[] #[]] w fun e w' => e = .returned (.tuple #[.int .i64 0, errV a0]) ∧ Below w.heap.size w w' := by
  have hmf : ∀ (fn : Fn) (first cap : Array Value) (w : World), (Instr.makeFunc fn first cap).run Tryz.prog w = .ok (.func fn first cap) w := fun _ _ _ _ => rfl
  go_enter_defers Tryz.func51, Tryz.ntmps51
  go_wp2_with fail
  obtain ⟨W1, hW1⟩ : ∃ W1, (((w.alloc (.cells #[.int .i64 0] 3)).alloc (.cells #[.nilIface] 24)).alloc (.cells #[.string (bs l)] 123)) = W1 := ⟨_, rfl⟩
  rw [hW1]
  have hk1 : ScAt W1 (w.heap.size + 1 + 1) l := by
    rw [← hW1]
    have := heap_new ((w.alloc (.cells #[.int .i64 0] 3)).alloc (.cells #[.nilIface] 24)) (.cells #[.string (bs l)] 123)
    rw [size_alloc, size_alloc] at this
    exact this
  have hB1 : Below w.heap.size w W1 := by
    rw [← hW1]
    exact (((Below.refl _ _).alloc (Nat.le_refl _) _).alloc (by simp) _).alloc (by simp; omega) _
  have hc1 := (hB1.cell (cell_lt hc)).trans hc
  have hs1 : W1.heap.size = w.heap.size + 1 + 1 + 1 := by rw [← hW1]; simp
  have hp1 : W1.heap[w.heap.size]? = some (.cells #[.int .i64 0] 3 (0, 0)) := by
    rw [← hW1, heap_old _ _ _ (by simp; omega), heap_old _ _ _ (by simp)]
    exact heap_new _ _
  have hq1 : W1.heap[w.heap.size + 1]? = some (.cells #[.nilIface] 24 (0, 0)) := by
    rw [← hW1, heap_old _ _ _ (by simp)]
    have := heap_new (w.alloc (.cells #[.int .i64 0] 3)) (.cells #[.nilIface] 24)
    rw [size_alloc] at this
    exact this
  have hlt : 2 < w.heap.size := cell_lt hc
  clear hW1
  refine (hF _ _ hk1 hc1 (by omega)).mono ?_
  rintro e v2 ⟨rfl, hk2, gu2⟩
  have gp2 := (gu2.block (w.heap.size) (by omega) (by omega)).trans hp1
  have gq2 := (gu2.block (w.heap.size + 1) (by omega) (by omega)).trans hq1
  have gz := gu2.size
  obtain ⟨k0, f0⟩ := sc_cells hk2
  have k1 := fun o => cell_alloc k0 o
  unfold dateV
  go_wp2_with fail
  refine (need_yes _ _).mono ?_
  rintro e w9 ⟨rfl, hw9⟩
  rw [hw9]
  clear hw9
  go_wp2_with fail
  have hp2 := fun o => (heap_old v2 o _ (by omega)).trans gp2
  have hq2 := fun o => (heap_old v2 o _ (by omega)).trans gq2
  have hu2 := fun o => gu2.alloc o
  obtain ⟨O1, hO1⟩ : ∃ O1, Obj.cells #[.int .i64 y, .int .i64 m, .int .i64 d, .int .i64 h, .int .i64 mi, .int .i64 s, .int .i64 0] 64 = O1 := ⟨_, rfl⟩
  rw [hO1]
  replace hp2 := hp2 O1
  replace hq2 := hq2 O1
  replace hu2 := hu2 O1
  obtain ⟨w2, hw2⟩ : ∃ w2, v2.alloc O1 = w2 := ⟨_, rfl⟩
  rw [hw2] at hp2 hq2 hu2 ⊢
  clear hw2 hO1 k1 k0 f0 hk2 gu2 gp2 gq2 gz
  have hb2 : Below w.heap.size w w2 := hB1.trans (hu2.below (by omega) (by omega))
  have hz2 := hb2.size
  have hl2 := (Array.getElem?_eq_some_iff.1 hq2).1
  have hc3 := (hb2.cell (cell_lt hc0)).trans hc0
  have hlt0 : 1 < w.heap.size := cell_lt hc0
  refine (moment_good y m d h mi s 0 w2 hr).mono ?_
  rintro e w3 ⟨rfl, hb3⟩
  have hp3 := (hb3.block _ (by omega)).trans hp2
  have hq3 := (hb3.block _ (by omega)).trans hq2
  have hc4 := (hb3.cell (cell_lt hc3)).trans hc3
  have hb4 : Below w.heap.size w w3 := hb2.trans (hb3.mono hz2)
  clear hb3 hp2 hq2 hc3 hu2 hb2 hp1 hq1 hk1 hB1 hc1
  obtain ⟨p3, fp3⟩ := blk2 hp3
  obtain ⟨q3, fq3⟩ := blk2 hq3
  have hne : ¬ w.heap.size + 1 = w.heap.size := by omega
  have hne0 : ¬ 1 = w.heap.size := by omega
  have hne1 : ¬ 1 = w.heap.size + 1 := by omega
  unfold errV at hc4
  obtain ⟨M, hM⟩ : ∃ M, Cal.mom y m d h mi s = M := ⟨_, rfl⟩
  have hMb := Cal.mom_bd hr
  rw [hM] at ho hMb ⊢
  obtain ⟨M0, M1⟩ := hMb
  obtain ⟨z0, z1⟩ := hzb
  have HO := Lib.hid ho
  clear ho hM hr
  go_wp2_with (go_at_call 85; refine (inRange_no _ _ HO.out).mono ?_; rintro e w' ⟨rfl, rfl⟩)
  go_region
  go_wp2
  have t1 := two_set hp3 hq3 (.int .i64 M) .nilIface
  have t2 := two_set t1.1 t1.2.1 (.int .i64 0) (.iface 182 (.pointer (some a0)))
  obtain ⟨W5, hW5⟩ : ∃ W5, ((((w3.setCell ⟨w.heap.size, 0, none⟩ (.int .i64 M)).setCell ⟨w.heap.size + 1, 0, none⟩ .nilIface).setCell ⟨w.heap.size, 0, none⟩ (.int .i64 0)).setCell ⟨w.heap.size + 1, 0, none⟩ (.iface 182 (.pointer (some a0)))).drew = W5 := ⟨_, rfl⟩
  have c3 : W5.cell? ⟨w.heap.size, 0, none⟩ = some (.int .i64 0) := by rw [← hW5]; exact (blk2 t2.1).1
  have d3 : W5.cell? ⟨w.heap.size + 1, 0, none⟩ = some (.iface 182 (.pointer (some a0))) := by rw [← hW5]; exact (blk2 t2.2.1).1
  have hb5 : Below w.heap.size w W5 := by rw [← hW5]; exact (t2.2.2 _ _ (t1.2.2 _ _ hb4 (Nat.le_refl _)) (Nat.le_refl _)).drew
  rw [hW5]
  clear hW5 t1 t2 hp3 hq3 p3 q3 fp3 fq3 hb4
  refine leaves_cons (f := 82) (args := #[.pointer (some ⟨w.heap.size, 0, none⟩), .pointer (some ⟨w.heap.size + 1, 0, none⟩)]) (by simp) (by simp [go_sem]) ?_
  refine (catch_idle ⟨w.heap.size, 0, none⟩ ⟨w.heap.size + 1, 0, none⟩ _).mono ?_
  rintro e u' w8 ⟨rfl, rfl, rfl⟩
  simp [Leaves, settle, results, Tryz.results51, go_sem, c3, d3]
  first | exact hb5 | exact ⟨rfl, hb5⟩ | exact ⟨HM.out.symm, hb5⟩


end Go.Proofs.YtcjnpklmfcbofaaGreatDoor
end

/- The dates' reader: read at the rules of ParseInternal and ParseMail (good). Printed by gen27.py. -/
set_option linter.unusedVariables false
set_option linter.unusedSimpArgs false
section
namespace Go.Proofs.YtcjnpklmfcbofaaGreatDoor
open Go.RowKit

set_option maxRecDepth 100000 in
set_option maxHeartbeats 1000000 in
theorem readMail_good (l : List UInt8) (w : World) (a a0 : Addr) (hc : w.cell? ⟨2, 0, none⟩ = some (errV a)) (hc0 : w.cell? ⟨1, 0, none⟩ = some (errV a0)) (hl : l.length ≤ 140737488355328) (y m d h mi s z : Int) (hr : Cal.right y m d h mi s) (hzb : -86400 ≤ z ∧ z ≤ 86400) (ho : 0 ≤ Cal.mom y m d h mi s - z ∧ Cal.mom y m d h mi s - z ≤ 4102444799)
    (hF : ∀ (b : Nat) (w1 : World), ScAt w1 b l → w1.cell? ⟨2, 0, none⟩ = some (errV a) → 2 ≠ b → Calls Tryz.prog 52 #[.pointer (some ⟨b, 0, none⟩)] w1 fun e w' => e = .returned (.tuple #[dateV y m d h mi s, .int .i64 z]) ∧ ScAt w' b [] ∧ Upd b w1 w') :
    Calls Tryz.prog 51 #[.string (bs l), .func (.func 52) #[] #[]] w fun e w' => e = .returned (.tuple #[.int .i64 (Cal.mom y m d h mi s - z), .nilIface]) ∧ Below w.heap.size w w' := by
  have hmf : ∀ (fn : Fn) (first cap : Array Value) (w : World), (Instr.makeFunc fn first cap).run Tryz.prog w = .ok (.func fn first cap) w := fun _ _ _ _ => rfl
  go_enter_defers Tryz.func51, Tryz.ntmps51
  go_wp2_with fail
  obtain ⟨W1, hW1⟩ : ∃ W1, (((w.alloc (.cells #[.int .i64 0] 3)).alloc (.cells #[.nilIface] 24)).alloc (.cells #[.string (bs l)] 123)) = W1 := ⟨_, rfl⟩
  rw [hW1]
  have hk1 : ScAt W1 (w.heap.size + 1 + 1) l := by
    rw [← hW1]
    have := heap_new ((w.alloc (.cells #[.int .i64 0] 3)).alloc (.cells #[.nilIface] 24)) (.cells #[.string (bs l)] 123)
    rw [size_alloc, size_alloc] at this
    exact this
  have hB1 : Below w.heap.size w W1 := by
    rw [← hW1]
    exact (((Below.refl _ _).alloc (Nat.le_refl _) _).alloc (by simp) _).alloc (by simp; omega) _
  have hc1 := (hB1.cell (cell_lt hc)).trans hc
  have hs1 : W1.heap.size = w.heap.size + 1 + 1 + 1 := by rw [← hW1]; simp
  have hp1 : W1.heap[w.heap.size]? = some (.cells #[.int .i64 0] 3 (0, 0)) := by
    rw [← hW1, heap_old _ _ _ (by simp; omega), heap_old _ _ _ (by simp)]
    exact heap_new _ _
  have hq1 : W1.heap[w.heap.size + 1]? = some (.cells #[.nilIface] 24 (0, 0)) := by
    rw [← hW1, heap_old _ _ _ (by simp)]
    have := heap_new (w.alloc (.cells #[.int .i64 0] 3)) (.cells #[.nilIface] 24)
    rw [size_alloc] at this
    exact this
  have hlt : 2 < w.heap.size := cell_lt hc
  clear hW1
  refine (hF _ _ hk1 hc1 (by omega)).mono ?_
  rintro e v2 ⟨rfl, hk2, gu2⟩
  have gp2 := (gu2.block (w.heap.size) (by omega) (by omega)).trans hp1
  have gq2 := (gu2.block (w.heap.size + 1) (by omega) (by omega)).trans hq1
  have gz := gu2.size
  obtain ⟨k0, f0⟩ := sc_cells hk2
  have k1 := fun o => cell_alloc k0 o
  unfold dateV
  go_wp2_with fail
  refine (need_yes _ _).mono ?_
  rintro e w9 ⟨rfl, hw9⟩
  rw [hw9]
  clear hw9
  go_wp2_with fail
  have hp2 := fun o => (heap_old v2 o _ (by omega)).trans gp2
  have hq2 := fun o => (heap_old v2 o _ (by omega)).trans gq2
  have hu2 := fun o => gu2.alloc o
  obtain ⟨O1, hO1⟩ : ∃ O1, Obj.cells #[.int .i64 y, .int .i64 m, .int .i64 d, .int .i64 h, .int .i64 mi, .int .i64 s, .int .i64 0] 64 = O1 := ⟨_, rfl⟩
  rw [hO1]
  replace hp2 := hp2 O1
  replace hq2 := hq2 O1
  replace hu2 := hu2 O1
  obtain ⟨w2, hw2⟩ : ∃ w2, v2.alloc O1 = w2 := ⟨_, rfl⟩
  rw [hw2] at hp2 hq2 hu2 ⊢
  clear hw2 hO1 k1 k0 f0 hk2 gu2 gp2 gq2 gz
  have hb2 : Below w.heap.size w w2 := hB1.trans (hu2.below (by omega) (by omega))
  have hz2 := hb2.size
  have hl2 := (Array.getElem?_eq_some_iff.1 hq2).1
  have hc3 := (hb2.cell (cell_lt hc0)).trans hc0
  have hlt0 : 1 < w.heap.size := cell_lt hc0
  refine (moment_good y m d h mi s 0 w2 hr).mono ?_
  rintro e w3 ⟨rfl, hb3⟩
  have hp3 := (hb3.block _ (by omega)).trans hp2
  have hq3 := (hb3.block _ (by omega)).trans hq2
  have hc4 := (hb3.cell (cell_lt hc3)).trans hc3
  have hb4 : Below w.heap.size w w3 := hb2.trans (hb3.mono hz2)
  clear hb3 hp2 hq2 hc3 hu2 hb2 hp1 hq1 hk1 hB1 hc1
  obtain ⟨p3, fp3⟩ := blk2 hp3
  obtain ⟨q3, fq3⟩ := blk2 hq3
  have hne : ¬ w.heap.size + 1 = w.heap.size := by omega
  have hne0 : ¬ 1 = w.heap.size := by omega
  have hne1 : ¬ 1 = w.heap.size + 1 := by omega
  obtain ⟨M, hM⟩ : ∃ M, Cal.mom y m d h mi s = M := ⟨_, rfl⟩
  have hMb := Cal.mom_bd hr
  rw [hM] at ho hMb ⊢
  obtain ⟨M0, M1⟩ := hMb
  obtain ⟨z0, z1⟩ := hzb
  obtain ⟨o0, o1⟩ := ho
  have HM := Lib.hid hM
  clear hM hr
  go_wp2_with (go_at_call 85; refine (inRange_yes _ _ (by omega) (by omega)).mono ?_; rintro e w' ⟨rfl, rfl⟩)
  have t1 := two_set hp3 hq3 (.int .i64 M) .nilIface
  have t2 := two_set t1.1 t1.2.1 (.int .i64 (M - z)) .nilIface
  obtain ⟨W5, hW5⟩ : ∃ W5, ((((w3.setCell ⟨w.heap.size, 0, none⟩ (.int .i64 M)).setCell ⟨w.heap.size + 1, 0, none⟩ .nilIface).setCell ⟨w.heap.size, 0, none⟩ (.int .i64 (M - z))).setCell ⟨w.heap.size + 1, 0, none⟩ .nilIface) = W5 := ⟨_, rfl⟩
  have c3 : W5.cell? ⟨w.heap.size, 0, none⟩ = some (.int .i64 (M - z)) := by rw [← hW5]; exact (blk2 t2.1).1
  have d3 : W5.cell? ⟨w.heap.size + 1, 0, none⟩ = some .nilIface := by rw [← hW5]; exact (blk2 t2.2.1).1
  have hb5 : Below w.heap.size w W5 := by rw [← hW5]; exact (t2.2.2 _ _ (t1.2.2 _ _ hb4 (Nat.le_refl _)) (Nat.le_refl _))
  rw [hW5]
  clear hW5 t1 t2 hp3 hq3 p3 q3 fp3 fq3 hb4
  refine leaves_cons (f := 82) (args := #[.pointer (some ⟨w.heap.size, 0, none⟩), .pointer (some ⟨w.heap.size + 1, 0, none⟩)]) (by simp) (by simp [go_sem]) ?_
  refine (catch_idle ⟨w.heap.size, 0, none⟩ ⟨w.heap.size + 1, 0, none⟩ _).mono ?_
  rintro e u' w8 ⟨rfl, rfl, rfl⟩
  simp [Leaves, settle, results, Tryz.results51, go_sem, c3, d3]
  first | exact hb5 | exact ⟨rfl, hb5⟩ | exact ⟨HM.out.symm, hb5⟩


end Go.Proofs.YtcjnpklmfcbofaaGreatDoor
end

/- The rule of days. -/
set_option linter.unusedVariables false
set_option linter.unusedSimpArgs false
section
namespace Go.Proofs.YtcjnpklmfcbofaaGreatDoor
open Go.RowKit

def ruleDay (l : List UInt8) : Option (RuleD × List UInt8) :=
  (short l).bind fun q0 => (lit [45] q0.2).bind fun r1 => (nm 12 0 monthsL r1).bind fun q2 => (lit [45] q2.2).bind fun r3 => (num 4 0 r3).bind fun q4 => some (((q4.1, q2.1 + 1, q0.1, 0, 0, 0), 0), q4.2)


end Go.Proofs.YtcjnpklmfcbofaaGreatDoor
end

/- The rule of IMAP's moments. -/
set_option linter.unusedVariables false
set_option linter.unusedSimpArgs false
section
namespace Go.Proofs.YtcjnpklmfcbofaaGreatDoor
open Go.RowKit

def ruleInternal (l : List UInt8) : Option (RuleD × List UInt8) :=
  (if ([32] : List UInt8).isPrefixOf l = true then num 1 0 (skip [32] l) else (num 2 0 (skip [32] l)).bind fun q => if 10 ≤ q.1 then some q else none).bind fun q0 => (lit [45] q0.2).bind fun r1 => (nm 12 0 monthsL r1).bind fun q2 => (lit [45] q2.2).bind fun r3 => (num 4 0 r3).bind fun q4 => (lit [32] q4.2).bind fun r5 => (num 2 0 r5).bind fun q6 => (lit [58] q6.2).bind fun r7 => (num 2 0 r7).bind fun q8 => (lit [58] q8.2).bind fun r9 => (num 2 0 r9).bind fun q10 => (lit [32] q10.2).bind fun r11 => (zone r11).bind fun q12 => some (((q4.1, q2.1 + 1, q0.1, q6.1, q8.1, q10.1), q12.1), q12.2)


end Go.Proofs.YtcjnpklmfcbofaaGreatDoor
end

/- The dates' readers: what ParseDay, ParseInternal hand back. -/
set_option linter.unusedVariables false
set_option linter.unusedSimpArgs false
section
namespace Go.Proofs.YtcjnpklmfcbofaaGreatDoor
open Go.RowKit

/-- what read makes of what a rule tells: a moment, or which error (0: out of range, 1: form) -/
inductive Outcome where
  | good (t : Int)
  | bad (k : Nat)
open Classical in
noncomputable def readV : Option (RuleD × List UInt8) → Outcome
  | none => .bad 1
  | some (((y, m, d, h, mi, s), z), r) =>
    if r ≠ [] then .bad 1
    else if ¬ Cal.right y m d h mi s then .bad 0
    else if 0 ≤ Cal.mom y m d h mi s - z ∧ Cal.mom y m d h mi s - z ≤ 4102444799 then .good (Cal.mom y m d h mi s - z)
    else .bad 0
def outV (a a0 : Addr) : Outcome → Value
  | .good t => .tuple #[.int .i64 t, .nilIface]
  | .bad 0 => .tuple #[.int .i64 0, errV a0]
  | .bad _ => .tuple #[.int .i64 0, errV a]
def zoneIn (R : Option (RuleD × List UInt8)) : Prop := ∀ d r, R = some (d, r) → -86400 ≤ d.2 ∧ d.2 ≤ 86400

theorem zone_ruleDay (l : List UInt8) : zoneIn (ruleDay l) := by
  intro d r h
  unfold ruleDay at h
  simp only [Option.bind_eq_some_iff] at h
  obtain ⟨q0, _, r1, _, q2, _, r3, _, q4, _, h⟩ := h
  obtain ⟨rfl, _⟩ := Prod.mk.inj (Option.some.inj h)
  exact ⟨show (-86400 : Int) ≤ 0 by decide, show (0 : Int) ≤ 86400 by decide⟩
theorem zone_ruleInternal (l : List UInt8) : zoneIn (ruleInternal l) := by
  intro d r h
  unfold ruleInternal at h
  simp only [Option.bind_eq_some_iff] at h
  obtain ⟨q0, _, r1, _, q2, _, r3, _, q4, _, r5, _, q6, _, r7, _, q8, _, r9, _, q10, _, r11, _, q12, hz, h⟩ := h
  obtain ⟨rfl, _⟩ := Prod.mk.inj (Option.some.inj h)
  have := zone_bd (z := q12.1) (r := q12.2) hz
  exact ⟨this.1, this.2.1⟩

end Go.Proofs.YtcjnpklmfcbofaaGreatDoor
end
