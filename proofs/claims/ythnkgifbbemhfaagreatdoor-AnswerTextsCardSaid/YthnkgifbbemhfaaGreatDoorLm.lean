/- Plain facts on lines: cutting a list of bytes at its first line feed. -/
import Derived.Test.YthnkgifbbemhfaaGreatDoorT
import Derived.Lib.IndexBytes
import Derived.Lib.Strings
set_option linter.unusedVariables false
set_option linter.unusedSimpArgs false
namespace Go.Proofs.YthnkgifbbemhfaaGreatDoor

/-- what is ahead of the first line feed, and what is behind it -/
def cutNl : List UInt8 → Option (List UInt8 × List UInt8)
  | [] => none
  | c :: r => if c = 10 then some ([], r) else match cutNl r with
    | none => none
    | some (a, b) => some (c :: a, b)

theorem cutNl_some {h s r : List UInt8} (e : cutNl h = some (s, r)) : h = s ++ 10 :: r ∧ ∀ c ∈ s, c ≠ 10 := by
  induction h generalizing s r with
  | nil => simp [cutNl] at e
  | cons c t ih =>
    unfold cutNl at e
    by_cases hc : c = 10
    · rw [if_pos hc] at e
      obtain ⟨rfl, rfl⟩ := Prod.mk.inj (Option.some.inj e)
      exact ⟨by simp [hc], by simp⟩
    · rw [if_neg hc] at e
      cases hq : cutNl t with
      | none => rw [hq] at e; cases e
      | some p =>
        obtain ⟨a, b⟩ := p
        rw [hq] at e
        obtain ⟨rfl, rfl⟩ := Prod.mk.inj (Option.some.inj e)
        obtain ⟨h1, h2⟩ := ih hq
        exact ⟨by rw [h1]; simp, by intro x hx; rcases List.mem_cons.1 hx with rfl | hx; exact hc; exact h2 x hx⟩

theorem cutNl_none {h : List UInt8} (e : cutNl h = none) : ∀ c ∈ h, c ≠ 10 := by
  induction h with
  | nil => simp
  | cons c t ih =>
    unfold cutNl at e
    by_cases hc : c = 10
    · rw [if_pos hc] at e; cases e
    · rw [if_neg hc] at e
      cases hq : cutNl t with
      | none => intro x hx; rcases List.mem_cons.1 hx with rfl | hx; exact hc; exact ih hq x hx
      | some p => rw [hq] at e; cases e

theorem cutNl_mk (s r : List UInt8) (h : ∀ c ∈ s, c ≠ 10) : cutNl (s ++ 10 :: r) = some (s, r) := by
  induction s with
  | nil => simp [cutNl]
  | cons c t ih =>
    have hc : c ≠ 10 := h c (by simp)
    simp [cutNl, hc, ih (fun x hx => h x (by simp [hx]))]

theorem cutNl_no (h : List UInt8) (e : ∀ c ∈ h, c ≠ 10) : cutNl h = none := by
  cases hq : cutNl h with
  | none => rfl
  | some p =>
    obtain ⟨a, b⟩ := p
    obtain ⟨h1, _⟩ := cutNl_some hq
    exact absurd rfl (e 10 (by rw [h1]; simp))

theorem index_both (h : List UInt8) : Lib.indexByte h 10 = match cutNl h with | none => -1 | some (s, _) => (s.length : Int) := by
  induction h with
  | nil => rfl
  | cons c t ih =>
    unfold Lib.indexByte cutNl
    by_cases hc : c = 10
    · simp [hc]
    · simp only [beq_iff_eq, hc, if_false]
      cases hq : cutNl t with
      | none => rw [hq] at ih; simp [ih]
      | some p =>
        obtain ⟨a, b⟩ := p
        rw [hq] at ih
        simp only at ih
        rw [ih, if_neg (by omega)]
        simp
theorem index_some {h s r : List UInt8} (e : cutNl h = some (s, r)) : Lib.indexByte h 10 = (s.length : Int) := by
  rw [index_both, e]
theorem index_none {h : List UInt8} (e : cutNl h = none) : Lib.indexByte h 10 = -1 := by
  rw [index_both, e]

/-- a line as it is told: its text, and whether it is too long -/
def lineText (s : List UInt8) : List UInt8 := if s.length > 1000 then [] else Lib.trimSuffix s [13]
def lineLong (s : List UInt8) : Bool := decide (s.length > 1000)

end Go.Proofs.YthnkgifbbemhfaaGreatDoor
