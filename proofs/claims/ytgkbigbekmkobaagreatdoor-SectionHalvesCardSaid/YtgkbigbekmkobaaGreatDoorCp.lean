/- A piece of a text (plain). -/
import Derived.Test.YtgkbigbekmkobaaGreatDoorT
set_option linter.unusedVariables false
set_option linter.unusedSimpArgs false
namespace Go.Proofs.YtgkbigbekmkobaaGreatDoor

/-- a piece of a text -/
def partialL (s : List UInt8) (p n : Int) : List UInt8 := if p < 0 ∨ (s.length : Int) ≤ p ∨ n < 0 then [] else (s.drop p.toNat).take n.toNat
/-- what the statement's loop has collected of the first k bytes -/
def pieceK (s : List UInt8) (p n : Int) (k : Nat) : List UInt8 := if p < 0 then [] else ((s.take k).drop p.toNat).take n.toNat
theorem pieceK_zero (s : List UInt8) (p n : Int) : pieceK s p n 0 = [] := by unfold pieceK; split <;> simp
theorem pieceK_succ (s : List UInt8) (p n : Int) {k : Nat} {c : UInt8} (hk : s[k]? = some c) : pieceK s p n (k + 1) = pieceK s p n k ++ (if 0 ≤ p ∧ p ≤ k ∧ (k : Int) - p < n then [c] else []) := by
  obtain ⟨hlt, hc⟩ := List.getElem?_eq_some_iff.1 hk
  unfold pieceK
  by_cases hp : p < 0
  · rw [if_pos hp, if_pos hp, if_neg (by omega)]; rfl
  · rw [if_neg hp, if_neg hp]
    have e : s.take (k + 1) = s.take k ++ [c] := by rw [List.take_add_one, hk]; rfl
    have hl : (s.take k).length = k := by simp; omega
    rw [e]
    by_cases hpk : p ≤ k
    · rw [List.drop_append_of_le_length (by omega), List.take_append]
      have hd : ((s.take k).drop p.toNat).length = k - p.toNat := by rw [List.length_drop, hl]
      congr 1
      rw [hd]
      by_cases hn : (k : Int) - p < n
      · rw [if_pos ⟨by omega, hpk, hn⟩]
        rw [List.take_of_length_le (by simp; omega)]
      · rw [if_neg (by omega)]
        have : n.toNat - (k - p.toNat) = 0 := by omega
        rw [this]; rfl
    · rw [if_neg (by omega), List.append_nil, List.drop_eq_nil_of_le (by simp; omega), List.drop_eq_nil_of_le (by omega)]
theorem pieceK_all (s : List UInt8) (p n : Int) : pieceK s p n s.length = partialL s p n := by
  unfold pieceK partialL
  rw [List.take_length]
  by_cases hp : p < 0
  · rw [if_pos hp, if_pos (.inl hp)]
  · rw [if_neg hp]
    by_cases h : p < 0 ∨ (s.length : Int) ≤ p ∨ n < 0
    · rw [if_pos h]
      rcases h with h | h | h
      · exact absurd h hp
      · rw [List.drop_eq_nil_of_le (by omega)]; simp
      · have : n.toNat = 0 := by omega
        rw [this]; rfl
    · rw [if_neg h]

end Go.Proofs.YtgkbigbekmkobaaGreatDoor
