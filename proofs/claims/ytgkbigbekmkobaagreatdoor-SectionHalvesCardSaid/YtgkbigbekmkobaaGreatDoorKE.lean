/- section (plain): both judge the same Specs right. -/
import Derived.Test.YtgkbigbekmkobaaGreatDoorKA
set_option linter.unusedVariables false
set_option linter.unusedSimpArgs false
namespace Go.Proofs.YtgkbigbekmkobaaGreatDoor

set_option maxRecDepth 100000 in
theorem bad_fin : ∀ n : Fin 256, refBad (UInt8.ofNat n.val) = badC (UInt8.ofNat n.val) := by decide +kernel
theorem bad_same (c : UInt8) : refBad c = badC c := by
  have h := bad_fin ⟨c.toNat, c.toNat_lt⟩
  simpa using h
theorem name_same (s : List UInt8) : refName s = nameOk s := by
  unfold refName nameOk
  have : (fun c => !refBad c) = (fun c => !badC c) := by funext c; rw [bad_same]
  rw [this]
end Go.Proofs.YtgkbigbekmkobaaGreatDoor
