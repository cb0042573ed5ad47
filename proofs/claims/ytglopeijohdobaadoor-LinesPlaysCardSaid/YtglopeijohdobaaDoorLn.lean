/- Plain facts on lines: what a reader tells of what it holds. -/
import Derived.Test.YtglopeijohdobaaDoorLm
set_option linter.unusedVariables false
set_option linter.unusedSimpArgs false
namespace Go.Proofs.YtglopeijohdobaaDoor

/-- a line as it is told -/
abbrev Ln : Type := List UInt8 × Bool
/-- the lines that are told, and what is held behind them -/
def toldL (h : List UInt8) : List Ln × List UInt8 :=
  match e : cutNl h with
  | none => ([], h)
  | some (s, r) => ((lineText s, lineLong s) :: (toldL r).1, (toldL r).2)
termination_by h.length
decreasing_by
  all_goals
    have := (cutNl_some e).1
    rw [this]
    simp; omega

theorem toldL_none {h : List UInt8} (e : cutNl h = none) : toldL h = ([], h) := by
  rw [toldL]
  split
  · rfl
  · rename_i s r e'; rw [e] at e'; cases e'
theorem toldL_some {h s r : List UInt8} (e : cutNl h = some (s, r)) : toldL h = ((lineText s, lineLong s) :: (toldL r).1, (toldL r).2) := by
  rw [toldL]
  split
  · rename_i e'; rw [e] at e'; cases e'
  · rename_i s' r' e'
    rw [e] at e'
    obtain ⟨rfl, rfl⟩ := Prod.mk.inj (Option.some.inj e')
    rfl
theorem told_ind {p : List UInt8 → Prop} (h0 : ∀ h, cutNl h = none → p h) (h1 : ∀ h s r, cutNl h = some (s, r) → p r → p h) : ∀ (n : Nat) (h : List UInt8), h.length ≤ n → p h
  | n, h, hn => by
    cases e : cutNl h with
    | none => exact h0 h e
    | some q =>
      obtain ⟨s, r⟩ := q
      have hl := congrArg List.length (cutNl_some e).1
      simp at hl
      match n with
      | 0 => omega
      | n + 1 => exact h1 h s r e (told_ind h0 h1 n r (by omega))

theorem toldL_rest (h : List UInt8) : cutNl (toldL h).2 = none := by
  refine told_ind (p := fun h => cutNl (toldL h).2 = none) (fun h e => ?_) (fun h s r e ih => ?_) h.length h (Nat.le_refl _)
  · rw [toldL_none e]; exact e
  · rw [toldL_some e]; exact ih
theorem toldL_count (h : List UInt8) : (toldL h).1.length ≤ h.length := by
  refine told_ind (p := fun h => (toldL h).1.length ≤ h.length) (fun h e => ?_) (fun h s r e ih => ?_) h.length h (Nat.le_refl _)
  · rw [toldL_none e]; simp
  · rw [toldL_some e]
    have hl := congrArg List.length (cutNl_some e).1
    simp at hl ⊢
    omega
theorem toldL_append (u v : List UInt8) : toldL (u ++ v) = ((toldL u).1 ++ (toldL ((toldL u).2 ++ v)).1, (toldL ((toldL u).2 ++ v)).2) := by
  refine told_ind (p := fun u => toldL (u ++ v) = ((toldL u).1 ++ (toldL ((toldL u).2 ++ v)).1, (toldL ((toldL u).2 ++ v)).2)) (fun h e => ?_) (fun h s r e ih => ?_) u.length u (Nat.le_refl _)
  · rw [toldL_none e]; simp
  · obtain ⟨h1, h2⟩ := cutNl_some e
    have e2 : cutNl (h ++ v) = some (s, r ++ v) := by
      rw [h1, List.append_assoc, List.cons_append]
      exact cutNl_mk s (r ++ v) h2
    rw [toldL_some e2, toldL_some e, ih]
    simp
theorem toldL_len (h : List UInt8) : (toldL h).2.length ≤ h.length := by
  refine told_ind (p := fun h => (toldL h).2.length ≤ h.length) (fun h e => ?_) (fun h s r e ih => ?_) h.length h (Nat.le_refl _)
  · rw [toldL_none e]; exact Nat.le_refl _
  · rw [toldL_some e]
    have hl := congrArg List.length (cutNl_some e).1
    simp at hl ⊢
    omega

end Go.Proofs.YtglopeijohdobaaDoor
