/- errors.Is at errors of errors.New's make, the thirteen errors of package api, and what number each has. (The walks of errors.Is are after the guide's worked text Sentry.) -/
import Derived.LaidEql
import Derived.Stop.Asserts
import Derived.RowKitTokens
import Derived.Test.YthnkgifbbemhfaaGreatDoorT
set_option linter.unusedVariables false
set_option linter.unusedSimpArgs false
namespace Go.Proofs.YthnkgifbbemhfaaGreatDoor
open Go.RowKit Go.Extern.Stop Go.Stop Go.Extern

theorem isComp : (Tryz.prog.info? 242).map (·.comparable) = some true := by kernel_rfl
theorem isSize : (Tryz.prog.info? 256).map (·.size) = some 1 := by kernel_rfl
/-- an error of errors.New's make, by where it lies -/
def errV (a : Addr) : Value := .iface 242 (.pointer (some a))

/-- the cells of Num's row -/
def errCells (a : Nat → Addr) : Array Value := #[errV (a 0), errV (a 1), errV (a 2), errV (a 3), errV (a 4), errV (a 5), errV (a 6), errV (a 7), errV (a 8), errV (a 9), errV (a 10), errV (a 11), errV (a 12)]

theorem errCells_at (a : Nat → Addr) (i : Nat) (h : i < 13) : (errCells a)[i]? = some (errV (a i)) := by
  rcases (by omega : i = 0 ∨ i = 1 ∨ i = 2 ∨ i = 3 ∨ i = 4 ∨ i = 5 ∨ i = 6 ∨ i = 7 ∨ i = 8 ∨ i = 9 ∨ i = 10 ∨ i = 11 ∨ i = 12) with rfl | rfl | rfl | rfl | rfl | rfl | rfl | rfl | rfl | rfl | rfl | rfl | rfl <;> rfl

end Go.Proofs.YthnkgifbbemhfaaGreatDoor
