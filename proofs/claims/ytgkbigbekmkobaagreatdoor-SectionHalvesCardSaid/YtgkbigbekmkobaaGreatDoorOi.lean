/- Rows of ints that the call itself made. -/
import Derived.Test.YtgkbigbekmkobaaGreatDoorS
import Derived.Laws.AppendOwn
import Derived.Laws.OwnMore
set_option linter.unusedVariables false
set_option linter.unusedSimpArgs false
namespace Go.Proofs.YtgkbigbekmkobaaGreatDoor
open Go.RowKit

theorem info_int : (Tryz.prog.info? 3).map (fun i => (i.zero, i.size, i.bytes)) = some (some (.int .i64 0), 1, 8) := by kernel_rfl
def cellsI (l : List Int) : List Value := l.map fun k => .int .i64 k
def OwnI (w : World) (B : Nat) (v : Value) (l : List Int) : Prop := w.ownsRow B 3 1 v l.length (cellsI l)
theorem OwnI.step {w' : World} {B : Nat} {v' : Value} {ls : List Int} {k : Int} (h : w'.ownsRow B 3 1 v' (ls.length + 1) (cellsI ls ++ [.int .i64 k])) : OwnI w' B v' (ls ++ [k]) := by
  unfold OwnI
  rw [List.length_append]
  simpa [cellsI] using h
theorem OwnI.later {w w' : World} {B : Nat} {v : Value} {l : List Int} (h : OwnI w B v l) (hb : ∀ k, v.ownBlock = some k → w'.heap[k]? = w.heap[k]?) : OwnI w' B v l := by
  refine ⟨h.1, ?_⟩
  rcases h.2 with h0 | ⟨g, cap, cur, rfl, h1, h2, r⟩
  · exact .inl h0
  · exact .inr ⟨g, cap, cur, rfl, h1, (hb g rfl).trans h2, r⟩
theorem OwnI.below {w w' : World} {B : Nat} {v : Value} {l : List Int} (h : OwnI w B v l) (hb : Below w.heap.size w w') : OwnI w' B v l :=
  h.later fun k hk => hb.block k (World.ownsRow.lt h k hk).2
theorem OwnI.parts {w : World} {B : Nat} {v : Value} {l : List Int} (h : OwnI w B v l) (hl : l ≠ []) : ∃ g cap, v = .slice (some ⟨g, 0, none⟩) l.length cap ∧ g < w.heap.size ∧ B ≤ g := by
  have hlt := World.ownsRow.lt h
  rcases h.2 with ⟨rfl, h0⟩ | ⟨g, cap, cur, rfl, hb, hg, hc, _, _, ht⟩
  · exact absurd (List.eq_nil_of_length_eq_zero h0) hl
  · exact ⟨g, cap, rfl, (hlt g rfl).2, (hlt g rfl).1⟩
theorem OwnI.cell {w : World} {B g n cap : Nat} {l : List Int} (h : OwnI w B (.slice (some ⟨g, 0, none⟩) n cap) l) (j : Nat) (k : Int) (hj : l[j]? = some k) : w.cell? ⟨g, j, none⟩ = some (.int .i64 k) := by
  obtain ⟨hlt, _⟩ := List.getElem?_eq_some_iff.1 hj
  have hn : n = l.length := by
    rcases h.2 with ⟨h, _⟩ | ⟨g', cap', cur, h, _⟩
    · cases h
    · simp at h; omega
  have := World.ownsRow.cellAt (n := l.length) (by rw [← hn]; rw [hn]; exact hn ▸ h) j (by omega)
  rw [this]
  simp [cellsI, hj]

end Go.Proofs.YtgkbigbekmkobaaGreatDoor
