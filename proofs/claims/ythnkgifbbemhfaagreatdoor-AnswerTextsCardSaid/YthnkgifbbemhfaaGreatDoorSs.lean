/- Slices of strings, as lists; strings.Join without a separator. -/
import Derived.Test.YthnkgifbbemhfaaGreatDoorS
import Derived.Test.YthnkgifbbemhfaaGreatDoorShelf
import Derived.Laws.AppendOwn
import Derived.Laws.OwnMore
import Derived.Deep.DeepFit
set_option linter.unusedVariables false
set_option linter.unusedSimpArgs false
namespace Go.Proofs.YthnkgifbbemhfaaGreatDoor
open Go.RowKit

theorem info_str : (Tryz.prog.info? 9).map (fun i => (i.zero, i.size, i.bytes)) = some (some (.string ⟨#[]⟩), 1, 16) := by kernel_rfl

/-- strings as cells -/
def cellsS (ls : List (List UInt8)) : List Value := ls.map fun s => .string (bs s)
theorem cellsS_length (l : List (List UInt8)) : (cellsS l).length = l.length := by simp [cellsS]
theorem cellsS_append (a b : List (List UInt8)) : cellsS (a ++ b) = cellsS a ++ cellsS b := by simp [cellsS]

/-- a slice of strings reads as ls -/
def StrsAt (w : World) (v : Value) (ls : List (List UInt8)) : Prop :=
  (v = .slice none 0 0 ∧ ls = []) ∨ ∃ (b o c : Nat), v = .slice (some ⟨b, o, none⟩) ls.length c ∧ ls.length ≤ c ∧ b < w.heap.size ∧ ∀ j, j < ls.length → w.cell? ⟨b, o + j, none⟩ = some (.string (bs (ls.getD j [])))

theorem StrsAt.below {w w' : World} {v : Value} {ls : List (List UInt8)} (h : StrsAt w v ls) (hb : Below w.heap.size w w') : StrsAt w' v ls := by
  rcases h with h | ⟨b, o, c, h1, h2, h3, h4⟩
  · exact .inl h
  · exact .inr ⟨b, o, c, h1, h2, Nat.lt_of_lt_of_le h3 hb.size, fun j hj => (hb.cell (p := ⟨b, o + j, none⟩) h3).trans (h4 j hj)⟩

/-- a slice of strings that the call itself made, in blocks from base on -/
def OwnS (w : World) (base : Nat) (v : Value) (ls : List (List UInt8)) : Prop := w.ownsRow base 9 1 v ls.length (cellsS ls)

theorem OwnS.strs {w : World} {base : Nat} {v : Value} {l : List (List UInt8)} (h : OwnS w base v l) : StrsAt w v l := by
  have hlt := World.ownsRow.lt h
  rcases h.2 with ⟨rfl, h0⟩ | ⟨g, cap, cur, rfl, _, hg, hc, _, _, ht⟩
  · exact Or.inl ⟨rfl, List.eq_nil_of_length_eq_zero h0⟩
  · refine Or.inr ⟨g, 0, cap, rfl, hc, (hlt g rfl).2, fun i hi => ?_⟩
    have e : (cellsS l)[i]? = some (.string (bs (l.getD i []))) := by simp [cellsS, hi]
    rw [← ht, List.getElem?_take, if_pos (by omega)] at e
    simp only [World.cell?, hg, Nat.zero_add]
    simpa using e

theorem OwnS.base {w : World} {b b' : Nat} {v : Value} {l : List (List UInt8)} (h : OwnS w b v l) (hb : b' ≤ b) : OwnS w b' v l := by
  refine ⟨h.1, ?_⟩
  rcases h.2 with h0 | ⟨g, cap, cur, e, h1, r⟩
  · exact .inl h0
  · exact .inr ⟨g, cap, cur, e, Nat.le_trans hb h1, r⟩

theorem OwnS.step {w' : World} {base : Nat} {v' : Value} {l : List (List UInt8)} {s : List UInt8} (h : w'.ownsRow base 9 1 v' (l.length + 1) (cellsS l ++ [.string (bs s)])) : OwnS w' base v' (l ++ [s]) := by
  unfold OwnS
  rw [cellsS_append, List.length_append]
  exact h

theorem OwnS.form {w : World} {base : Nat} {v : Value} {l : List (List UInt8)} (h : OwnS w base v l) : ∃ a n cap, v = .slice a n cap ∧ Hid (n = l.length) := by
  rcases h.2 with ⟨rfl, h0⟩ | ⟨g, cap, cur, rfl, _, _, _, _, _, _⟩
  · exact ⟨none, 0, 0, rfl, h0.symm⟩
  · exact ⟨_, _, _, rfl, rfl⟩

theorem OwnS.parts {w : World} {base : Nat} {v : Value} {l : List (List UInt8)} (h : OwnS w base v l) : (v = .slice none 0 0 ∧ l = []) ∨ ∃ g cap, v = .slice (some ⟨g, 0, none⟩) l.length cap ∧ base ≤ g := by
  rcases h.2 with ⟨rfl, h0⟩ | ⟨g, cap, cur, rfl, hb, hg, hc, _, _, ht⟩
  · exact .inl ⟨rfl, List.eq_nil_of_length_eq_zero h0⟩
  · exact .inr ⟨g, cap, rfl, hb⟩
theorem cellsS_set (l : List (List UInt8)) (k : Nat) (x : List UInt8) : (cellsS l).set k (.string (bs x)) = cellsS (l.set k x) := by
  unfold cellsS; rw [List.map_set]

/-- list[k] = x, in a slice of the call's own -/
theorem OwnS.set {w : World} {B g n cap k : Nat} {ls : List (List UInt8)} (h : OwnS w B (.slice (some ⟨g, 0, none⟩) n cap) ls) (hk : k < ls.length) (x : List UInt8) :
    w.cell? ⟨g, k, none⟩ = some (.string (bs (ls.getD k []))) ∧ w.frozen? ⟨g, k, none⟩ = false ∧ OwnS (w.setCell ⟨g, k, none⟩ (.string (bs x))) B (.slice (some ⟨g, 0, none⟩) n cap) (ls.set k x) ∧ ∀ m₀ u, m₀ ≤ B → Below m₀ u w → Below m₀ u (w.setCell ⟨g, k, none⟩ (.string (bs x))) := by
  obtain rfl : n = ls.length := by
    rcases h.2 with ⟨h', _⟩ | ⟨g', cap', cur, h', _⟩
    · simp at h'
    · simp at h'; exact h'.2.1
  have hst := World.ownsRow.stored h k (.string (bs x))
  have hfr := World.ownsRow.frozenAt h k
  have hgb := (World.ownsRow.lt h g rfl).1
  refine ⟨?_, hfr, ?_, fun m₀ u hm hb => hb.setCell (p := ⟨g, k, none⟩) (Nat.le_trans hm hgb) _⟩
  · rcases h.strs with ⟨h', _⟩ | ⟨b, o, c, h', _, _, h3⟩
    · simp at h'
    · simp at h'
      obtain ⟨⟨rfl, rfl⟩, rfl⟩ := h'
      have := h3 k hk
      rwa [Nat.zero_add] at this
  · unfold OwnS
    rw [← cellsS_set, List.length_set]
    exact hst.1

end Go.Proofs.YthnkgifbbemhfaaGreatDoor
