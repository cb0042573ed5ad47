/- Plain: a header of so many fields. -/
import Derived.Test.YtplmekfcnggigaaDoorHm
set_option linter.unusedVariables false
set_option linter.unusedSimpArgs false
namespace Go.Proofs.YtplmekfcnggigaaDoor

def oneL : List UInt8 := [97, 58, 32, 98, 13, 10]
def manyL (k : Nat) : List UInt8 := (List.replicate k oneL).flatten

theorem many_succ (k : Nat) : manyL (k + 1) = manyL k ++ oneL := by
  unfold manyL
  rw [List.replicate_succ', List.flatten_append]; simp
theorem many_len (k : Nat) : (manyL k).length = 6 * k := by
  induction k with
  | zero => rfl
  | succ k ih => rw [many_succ, List.length_append, ih]; show 6 * k + 6 = _; omega

theorem lines_many (k : Nat) (r : List UInt8) : linesOf (manyL k ++ r) = List.replicate k oneL ++ linesOf r := by
  induction k with
  | zero => rfl
  | succ k ih =>
    have : manyL (k + 1) ++ r = [97, 58, 32, 98, 13] ++ 10 :: (manyL k ++ r) := by
      unfold manyL
      rw [List.replicate_succ, List.flatten_cons]; simp [oneL]
    rw [this, linesOf_nl _ _ (by decide), ih, List.replicate_succ]
    rfl

theorem go_many (k : Nat) : ∀ (fs : List Fld) (op : Bool) (p : Nat), (goL fs op p (List.replicate k oneL ++ [[13, 10]])).1.length = fs.length + k ∧ (goL fs op p (List.replicate k oneL ++ [[13, 10]])).2 = p + 6 * k + 2 := by
  induction k with
  | zero =>
    intro fs op p
    have ht : turnL fs op p (p + 2) (textL [13, 10]) = (fs, op, false) := by
      have : textL [13, 10] = [] := by decide
      rw [this]; rfl
    have e : goL fs op p [[13, 10]] = (fs, p + 2) := by simp [goL, ht]
    show (goL fs op p [[13, 10]]).1.length = _ ∧ (goL fs op p [[13, 10]]).2 = _
    rw [e]
    simp
  | succ k ih =>
    intro fs op p
    rw [List.replicate_succ, List.cons_append, goL]
    have ht : turnL fs op p (p + oneL.length) (textL oneL) = (fs ++ [⟨[97], [32, 98], p, p + 6⟩], true, true) := by
      have h1 : textL oneL = [97, 58, 32, 98] := by decide
      have h2 : nameL [97, 58, 32, 98] = some ([97], [32, 98]) := by decide
      have h3 : goesB [97, 58, 32, 98] = false := by decide
      rw [h1]; unfold turnL; rw [h2, h3]; simp [oneL]
    rw [ht, if_pos rfl]
    obtain ⟨a, b⟩ := ih (fs ++ [⟨[97], [32, 98], p, p + 6⟩]) true (p + oneL.length)
    refine ⟨by rw [a]; simp; omega, by rw [b]; simp [oneL]; omega⟩

theorem fields_many (k : Nat) : (fieldsL (manyL k ++ [13, 10])).length = k ∧ bodyL (manyL k ++ [13, 10]) = 6 * k + 2 := by
  unfold fieldsL bodyL
  rw [lines_many, show linesOf [13, 10] = [[13, 10]] by decide, List.length_map]
  obtain ⟨a, b⟩ := go_many k [] false 0
  exact ⟨by rw [a]; simp, by rw [b]; omega⟩

end Go.Proofs.YtplmekfcnggigaaDoor
