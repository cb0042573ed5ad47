/- Small letters (plain). -/
import Derived.Test.YthnkgifbbemhfaaGreatDoorS
set_option linter.unusedVariables false
set_option linter.unusedSimpArgs false
namespace Go.Proofs.YthnkgifbbemhfaaGreatDoor

/-- a byte's small letter -/
def lowB (c : UInt8) : UInt8 := if 65 ≤ c.toNat ∧ c.toNat ≤ 90 then c + 32 else c
def lowL (l : List UInt8) : List UInt8 := l.map lowB
theorem lowL_length (l : List UInt8) : (lowL l).length = l.length := by simp [lowL]
theorem lowB_yes {c : UInt8} (h1 : 65 ≤ c.toNat) (h2 : c.toNat ≤ 90) : (lowB c).toNat = c.toNat + 32 := by
  unfold lowB
  rw [if_pos ⟨h1, h2⟩, UInt8.toNat_add]
  simp; omega
theorem lowB_no {c : UInt8} (h : ¬ (65 ≤ c.toNat ∧ c.toNat ≤ 90)) : lowB c = c := by
  unfold lowB; rw [if_neg h]
theorem low_take {l : List UInt8} {k : Nat} (h : k < l.length) {c : UInt8} (hc : l.getD k 0 = c) : (lowL l).take (k + 1) = (lowL l).take k ++ [lowB c] := by
  have e : l[k]? = some c := by rw [← hc]; simp [List.getD, h]
  rw [List.take_add_one]
  congr 1
  simp [lowL, e]

end Go.Proofs.YthnkgifbbemhfaaGreatDoor
