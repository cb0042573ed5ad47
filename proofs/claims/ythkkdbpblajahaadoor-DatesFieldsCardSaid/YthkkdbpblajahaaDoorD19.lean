/- The dates' reader: the deferred closure that recovers; read. -/
import Derived.Test.YthkkdbpblajahaaDoorD18
import Derived.Defers
import Derived.Recover
import Derived.Laws.Pointers
set_option linter.unusedVariables false
set_option linter.unusedSimpArgs false
namespace Go.Proofs.YthkkdbpblajahaaDoor
open Go.RowKit

theorem tm18 (p q x : Value) : #[p, q] ++ ((Array.replicate 16 undef).setIfInBounds 3 x).setIfInBounds 0 x = #[p, q, x, undef, undef, x, undef, undef, undef, undef, undef, undef, undef, undef, undef, undef, undef, undef] := by
  simp [Array.replicate]

theorem ta_bad (v : Value) (w : World) : (Instr.typeAssert (.iface 78 v) 20 78 true).run Tryd.prog w = .ok (.tuple #[v, .bool true]) w := by kernel_rfl

set_option maxRecDepth 100000 in
theorem catch_bad (B C : Nat) (x y : Value) (a : Addr) (older : List PanicEntry) (w : World) (hp : w.cell? ⟨B, 0, none⟩ = some x) (hq : w.cell? ⟨C, 0, none⟩ = some y) (zp : w.frozen? ⟨B, 0, none⟩ = false) (zq : w.frozen? ⟨C, 0, none⟩ = false) (hBC : B ≠ C) :
    CallsD Tryd.prog 79 #[.pointer (some ⟨B, 0, none⟩), .pointer (some ⟨C, 0, none⟩)] (.panicking ({ v := .iface 78 (.agg #[.iface 124 (.pointer (some a))]), recovered := false } :: older)) w fun e u' w' =>
      e = .returned (.tuple #[]) ∧ u' = .panicking ({ v := .iface 78 (.agg #[.iface 124 (.pointer (some a))]), recovered := true } :: older) ∧ w' = (((w.alloc (.cells #[.iface 124 (.pointer (some a))] 78)).setCell ⟨B, 0, none⟩ (.int .i64 0)).setCell ⟨C, 0, none⟩ (.iface 124 (.pointer (some a)))).drew := by
  refine callsD_of_wpS Tryd.func79 rfl fun c₀ cs hu => ?_
  apply wpS_seq
  apply wpS_region
  simp [wpOpsS, go_sem, recoverD, hu, Tryd.ntmps79, Exit.thenS]
  refine wpS_of_wp ?_
  rw [tm18]
  have hta := ta_bad (.agg #[.iface 124 (.pointer (some a))])
  go_wp2
  obtain ⟨W1, hW1⟩ : ∃ W1, w.alloc (.cells #[.iface 124 (.pointer (some a))] 78) = W1 := ⟨_, rfl⟩
  have hB0 : Below w.heap.size w W1 := by rw [← hW1]; exact (Below.refl _ _).alloc (Nat.le_refl _) _
  have hnB : ¬ B = w.heap.size := Nat.ne_of_lt (cell_lt hp)
  have hnC : ¬ C = w.heap.size := Nat.ne_of_lt (cell_lt hq)
  have hn : W1.cell? ⟨w.heap.size, 0, none⟩ = some (.iface 124 (.pointer (some a))) := by rw [← hW1]; simp [go_sem]
  have hp1 : W1.cell? ⟨B, 0, none⟩ = some x := (hB0.cell (cell_lt hp)).trans hp
  have hq1 : W1.cell? ⟨C, 0, none⟩ = some y := (hB0.cell (cell_lt hq)).trans hq
  have zp1 : W1.frozen? ⟨B, 0, none⟩ = false := by rw [← zp]; simp only [World.frozen?, hB0.block B (cell_lt hp)]
  have zq1 : W1.frozen? ⟨C, 0, none⟩ = false := by rw [← zq]; simp only [World.frozen?, hB0.block C (cell_lt hq)]
  rw [hW1]
  have HW := Lib.hid hW1
  clear hW1
  go_region
  have hW := HW.out
  subst hW
  clear HW hB0 hn hp1 hq1 zp1 zq1 hnB hnC hp hq zp zq hta
  show bodyPostS _ _ _ _ _ _ _ _ _
  simp [bodyPostS, results, Tryd.results79]

set_option maxRecDepth 100000 in
theorem catch_idle (p q : Addr) (w : World) :
    CallsD Tryd.prog 79 #[.pointer (some p), .pointer (some q)] .returning w fun e u' w' => e = .returned (.tuple #[]) ∧ u' = .returning ∧ w' = w := by
  refine callsD_of_wpS Tryd.func79 rfl fun c₀ cs hu => ?_
  apply wpS_seq
  apply wpS_region
  simp [wpOpsS, go_sem, recoverD, hu, Tryd.ntmps79, Exit.thenS]
  refine wpS_of_wp ?_
  rw [tm18]
  go_wp2
  cases c₀
  simp_all [bodyPostS, results, Tryd.results79]

end Go.Proofs.YthkkdbpblajahaaDoor
