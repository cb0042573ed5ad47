/- Slices of bytes, as lists. -/
import Derived.Test.YthnkgifbbemhfaaGreatDoorS
import Derived.Laws.AppendOwn
import Derived.Laws.OwnMore
import Derived.Laws.BytesArg
set_option linter.unusedVariables false
set_option linter.unusedSimpArgs false
namespace Go.Proofs.YthnkgifbbemhfaaGreatDoor
open Go.RowKit

/-- a slice of bytes reads as the list l -/
def BytesAt (w : World) (v : Value) (l : List UInt8) : Prop :=
  (v = .slice none 0 0 ∧ l = []) ∨ ∃ (sb so cap : Nat), v = .slice (some ⟨sb, so, none⟩) l.length cap ∧ ∀ i, i < l.length → w.cell? ⟨sb, so + i, none⟩ = some (.int .u8 (l.getD i 0).toNat)

theorem bs_strOfNums (l : List UInt8) : strOfNums (l.map fun c => ((c.toNat : Nat) : Int)) = bs l := by
  apply ByteArray.ext
  apply Array.toList_inj.1
  rw [strOfNums_data]
  simp [Function.comp_def]

theorem convert_bytes {w : World} {v : Value} {l : List UInt8} (h : BytesAt w v l) : (convert 83 9 v).run Tryz.prog w = .ok (.string (bs l)) w := by
  rcases h with ⟨rfl, rfl⟩ | ⟨sb, so, cap, rfl, hc⟩
  · exact run_convert_bytes_nil w 83 5 Tryz.underlying83 Tryz.underlying5 0 0 9 Tryz.underlying9
  · rw [← bs_strOfNums]
    refine run_convert_bytes_arg w 83 5 Tryz.underlying83 Tryz.underlying5 sb so l.length cap _ (by simp) (fun i hi => ?_) 9 Tryz.underlying9
    rw [hc i hi]
    simp [List.getD, hi]

theorem info_u8 : (Tryz.prog.info? 5).map (fun i => (i.zero, i.size, i.bytes)) = some (some (.int .u8 0), 1, 1) := by kernel_rfl

/-- bytes as cells -/
def cellsB (l : List UInt8) : List Value := l.map fun c => .int .u8 ((c.toNat : Nat) : Int)
theorem cellsB_length (l : List UInt8) : (cellsB l).length = l.length := by simp [cellsB]
theorem cellsB_append (a b : List UInt8) : cellsB (a ++ b) = cellsB a ++ cellsB b := by simp [cellsB]

/-- a slice of bytes that the call itself made -/
def OwnB (w : World) (base : Nat) (v : Value) (l : List UInt8) : Prop := w.ownsRow base 5 1 v l.length (cellsB l)

theorem OwnB.bytes {w : World} {base : Nat} {v : Value} {l : List UInt8} (h : OwnB w base v l) : BytesAt w v l := by
  rcases h.2 with ⟨rfl, h0⟩ | ⟨g, cap, cur, rfl, _, hg, _, _, _, ht⟩
  · exact Or.inl ⟨rfl, List.eq_nil_of_length_eq_zero h0⟩
  · refine Or.inr ⟨g, 0, cap, rfl, fun i hi => ?_⟩
    have e : (cellsB l)[i]? = some (.int .u8 (l.getD i 0).toNat) := by simp [cellsB, hi]
    rw [← ht, List.getElem?_take, if_pos (by omega)] at e
    simp only [World.cell?, hg, Nat.zero_add]
    simpa using e

theorem OwnB.step {w' : World} {base : Nat} {v' : Value} {l : List UInt8} {c : UInt8} (h : w'.ownsRow base 5 1 v' (l.length + 1) (cellsB l ++ [.int .u8 ((c.toNat : Nat) : Int)])) : OwnB w' base v' (l ++ [c]) := by
  unfold OwnB
  rw [cellsB_append, List.length_append]
  exact h

theorem OwnB.form {w : World} {base : Nat} {v : Value} {l : List UInt8} (h : OwnB w base v l) : ∃ a n cap, v = .slice a n cap ∧ Hid (n = l.length) := by
  rcases h.2 with ⟨rfl, h0⟩ | ⟨g, cap, cur, rfl, _, _, _, _, _, _⟩
  · exact ⟨none, 0, 0, rfl, h0.symm⟩
  · exact ⟨_, _, _, rfl, rfl⟩

theorem OwnB.below {B : Nat} {u w w' : World} {v : Value} {l : List UInt8} (hb : Below B u w) (h : OwnB w B v l) (hg : w.grownBy w' v.ownBlock) (hB : B ≤ w.heap.size) : Below B u w' :=
  hb.grown hg hB (fun k e => (World.ownsRow.lt h k e).1)


end Go.Proofs.YthnkgifbbemhfaaGreatDoor
