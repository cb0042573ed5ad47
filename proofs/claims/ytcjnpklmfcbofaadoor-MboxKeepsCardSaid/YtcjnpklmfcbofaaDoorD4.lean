/- The reference's date functions: before, Civil. -/
import Derived.Test.YtcjnpklmfcbofaaDoorD2
import Derived.Deep.RegionWith
import Derived.Deep.LoopGhost
set_option linter.unusedVariables false
set_option linter.unusedSimpArgs false
namespace Go.Proofs.YtcjnpklmfcbofaaDoor
open Go.RowKit

theorem Cal.dby_lo (y : Int) (h : 1970 ≤ y) (h2 : y ≤ 100000) : 0 ≤ Cal.dby y ∧ Cal.dby y ≤ 40000000 := by unfold Cal.dby; omega

/-- behind a callee that makes blocks: a block of seven ints of ours lies as it lay -/
theorem blk_cell {w : World} {B : Nat} {cs : Array Value} {t : TypeId} (h : w.heap[B]? = some (.cells cs t (0, 0))) (i : Nat) : w.cell? ⟨B, i, none⟩ = cs[i]? := by
  simp [World.cell?, h]
theorem blk_free {w : World} {B : Nat} {cs : Array Value} {t : TypeId} (h : w.heap[B]? = some (.cells cs t (0, 0))) (i : Nat) : w.frozen? ⟨B, i, none⟩ = false := by
  simp [World.frozen?, h]
theorem blk_set {w : World} {B : Nat} {cs : Array Value} {t : TypeId} (h : w.heap[B]? = some (.cells cs t (0, 0))) (i : Nat) (v : Value) : (w.setCell ⟨B, i, none⟩ v).heap[B]? = some (.cells (cs.setIfInBounds i v) t (0, 0)) := by
  simp [World.setCell, Array.getElem?_modify, h]

/-- the cells of a date under way -/
def civA (y m d h mi s wk : Int) : Array Value := #[.int .i64 y, .int .i64 m, .int .i64 d, .int .i64 h, .int .i64 mi, .int .i64 s, .int .i64 wk]

theorem civA_cells {w : World} {B : Nat} {y m d h mi s wk : Int} {t : TypeId} (hk : w.heap[B]? = some (.cells (civA y m d h mi s wk) t (0, 0))) :
    w.cell? ⟨B, 0, none⟩ = some (.int .i64 y) ∧ w.cell? ⟨B, 1, none⟩ = some (.int .i64 m) ∧ w.cell? ⟨B, 2, none⟩ = some (.int .i64 d) ∧ w.cell? ⟨B, 3, none⟩ = some (.int .i64 h) ∧ w.cell? ⟨B, 4, none⟩ = some (.int .i64 mi) ∧ w.cell? ⟨B, 5, none⟩ = some (.int .i64 s) ∧ w.cell? ⟨B, 6, none⟩ = some (.int .i64 wk) ∧
    w.frozen? ⟨B, 0, none⟩ = false ∧ w.frozen? ⟨B, 1, none⟩ = false ∧ w.frozen? ⟨B, 2, none⟩ = false ∧ w.frozen? ⟨B, 3, none⟩ = false ∧ w.frozen? ⟨B, 4, none⟩ = false ∧ w.frozen? ⟨B, 5, none⟩ = false ∧ w.frozen? ⟨B, 6, none⟩ = false :=
  ⟨blk_cell hk 0, blk_cell hk 1, blk_cell hk 2, blk_cell hk 3, blk_cell hk 4, blk_cell hk 5, blk_cell hk 6, blk_free hk 0, blk_free hk 1, blk_free hk 2, blk_free hk 3, blk_free hk 4, blk_free hk 5, blk_free hk 6⟩

/-- how a moment in range comes back from the reference -/
def CivR (t : Int) (w : World) (e : Ending) (w' : World) : Prop := ∃ y m d h mi s wk : Int, Cal.civ7 t y m d h mi s wk ∧ e = .returned (.tuple #[.agg #[.int .i64 y, .int .i64 m, .int .i64 d, .int .i64 h, .int .i64 mi, .int .i64 s, .int .i64 wk], .bool true]) ∧ Below w.heap.size w w'

end Go.Proofs.YtcjnpklmfcbofaaDoor
