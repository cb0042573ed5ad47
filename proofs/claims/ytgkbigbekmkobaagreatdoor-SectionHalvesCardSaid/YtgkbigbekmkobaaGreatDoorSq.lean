/- The reference's lines: Split, Same; lines.Join. -/
import Derived.Test.YtgkbigbekmkobaaGreatDoorSp
import Derived.BigRegion
import Derived.LoopTactic
set_option linter.unusedVariables false
set_option linter.unusedSimpArgs false
namespace Go.Proofs.YtgkbigbekmkobaaGreatDoor
open Go.RowKit Go

theorem lines_at {s : List UInt8} {f k : Nat} (hf : f ≤ k) (hk : s[k]? = some 10) (hn : ∀ j, f ≤ j → j < k → s[j]? ≠ some 10) : linesOf (s.drop f) = ((s.drop f).take (k + 1 - f)) :: linesOf (s.drop (k + 1)) := by
  obtain ⟨hlt, hk'⟩ := List.getElem?_eq_some_iff.1 hk
  have e : s.drop f = (s.drop f).take (k - f) ++ 10 :: s.drop (k + 1) := by
    conv => lhs; rw [← List.take_append_drop (k - f) (s.drop f)]
    rw [List.drop_drop, show f + (k - f) = k by omega, List.drop_eq_getElem_cons hlt, hk']
  have ha : ∀ c ∈ (s.drop f).take (k - f), c ≠ 10 := by
    intro c hc h10
    subst h10
    obtain ⟨j, hj, hjc⟩ := List.mem_iff_getElem.1 hc
    simp only [List.length_take, List.length_drop] at hj
    refine hn (f + j) (by omega) (by omega) ?_
    simp only [List.getElem_take, List.getElem_drop] at hjc
    exact List.getElem?_eq_some_iff.2 ⟨by omega, hjc⟩
  have hl : ((s.drop f).take (k - f)).length = k - f := by simp; omega
  have ht : (s.drop f).take (k + 1 - f) = (s.drop f).take (k - f) ++ [10] := by
    conv => lhs; rw [e, show (s.drop f).take (k - f) ++ 10 :: s.drop (k + 1) = ((s.drop f).take (k - f) ++ [10]) ++ s.drop (k + 1) by simp]
    exact List.take_left' (by simp only [List.length_append, hl, List.length_singleton]; omega)
  rw [ht, ← linesOf_nl _ _ ha, ← e]
theorem lines_tail {s : List UInt8} {f : Nat} (hf : f < s.length) (hn : ∀ j, f ≤ j → j < s.length → s[j]? ≠ some 10) : linesOf (s.drop f) = [s.drop f] := by
  refine linesOf_end _ (fun c hc h10 => ?_) (by intro e; have := congrArg List.length e; simp at this; omega)
  subst h10
  obtain ⟨j, hj, hjc⟩ := List.mem_iff_getElem.1 hc
  simp only [List.length_drop] at hj
  refine hn (f + j) (by omega) (by omega) ?_
  simp only [List.getElem_drop] at hjc
  exact List.getElem?_eq_some_iff.2 ⟨by omega, hjc⟩

theorem OwnS.below {B : Nat} {u w w' : World} {v : Value} {l : List (List UInt8)} (hb : Below B u w) (h : OwnS w B v l) (hg : w.grownBy w' v.ownBlock) (hB : B ≤ w.heap.size) : Below B u w' :=
  hb.grown hg hB (fun k e => (World.ownsRow.lt h k e).1)

end Go.Proofs.YtgkbigbekmkobaaGreatDoor
