/- How IMAP tells a text (plain). -/
import Derived.Test.YthnkgifbbemhfaaGreatDoorT
import Derived.Lib.ItoaNum
import Derived.Lib.Join
set_option linter.unusedVariables false
set_option linter.unusedSimpArgs false
namespace Go.Proofs.YthnkgifbbemhfaaGreatDoor
open Go

/-! ### how IMAP tells a text -/
def printB (c : UInt8) : Bool := decide (32 ≤ c.toNat) && decide (c.toNat ≤ 126)
def escL (l : List UInt8) : List UInt8 := l.flatMap fun c => if c = 34 ∨ c = 92 then [92, c] else [c]
def qtL (s : List UInt8) : List UInt8 := if s.all printB = true then 34 :: (escL s ++ [34]) else 123 :: (Lib.decDigits s.length ++ ([125, 13, 10] ++ s))
def nilL : List UInt8 := [78, 73, 76]
def nilOr (s : List UInt8) : List UInt8 := if s = [] then nilL else qtL s
def joinSp : List (List UInt8) → List UInt8
  | [] => []
  | [x] => x
  | x :: y :: r => x ++ 32 :: joinSp (y :: r)
theorem joinSp_snoc : ∀ (l : List (List UInt8)) (x : List UInt8), l ≠ [] → joinSp (l ++ [x]) = joinSp l ++ 32 :: x
  | [], _, h => absurd rfl h
  | [a], x, _ => rfl
  | a :: b :: r, x, _ => by
    have ih := joinSp_snoc (b :: r) x (by simp)
    rw [List.cons_append, List.cons_append, joinSp, ← List.cons_append, ih, joinSp]
    simp
theorem joinSp_lib : ∀ l : List (List UInt8), Lib.join l [32] = joinSp l
  | [] => rfl
  | [x] => by simp [Lib.join, joinSp]
  | x :: y :: r => by
    have h : Lib.join (x :: y :: r) [32] = x ++ ([32] ++ Lib.join (y :: r) [32]) := rfl
    rw [h, joinSp_lib (y :: r)]
    rfl
theorem joinSp_len : ∀ l : List (List UInt8), (joinSp l).length ≤ l.flatten.length + l.length
  | [] => by simp [joinSp]
  | [x] => by simp [joinSp]
  | x :: y :: r => by
    have ih := joinSp_len (y :: r)
    simp only [joinSp, List.length_append, List.length_cons, List.flatten_cons] at ih ⊢
    omega
theorem escL_len (l : List UInt8) : (escL l).length ≤ 2 * l.length := by
  unfold escL
  induction l with
  | nil => simp
  | cons c r ih =>
    rw [List.flatMap_cons, List.length_append, List.length_cons]
    split <;> simp only [List.length_cons, List.length_nil] <;> omega

end Go.Proofs.YthnkgifbbemhfaaGreatDoor
