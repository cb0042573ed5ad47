/- Strings as the lists of their bytes. -/
import Derived.Test.YthnkgifbbemhfaaGreatDoorT
import Derived.Laws.BytesArg
set_option linter.unusedVariables false
set_option linter.unusedSimpArgs false
namespace Go.Proofs.YthnkgifbbemhfaaGreatDoor
open Go.RowKit

/-- a string, as the list of its bytes -/
abbrev bs (l : List UInt8) : ByteArray := ⟨l.toArray⟩

theorem bs_size (l : List UInt8) : (bs l).size = l.length := by simp [ByteArray.size]
theorem bs_append (a b : List UInt8) : bs a ++ bs b = bs (a ++ b) := by
  apply ByteArray.ext
  simp
theorem bs_take (l : List UInt8) (n : Nat) : (bs l).extract 0 n = bs (l.take n) := by
  apply ByteArray.ext
  simp [ByteArray.data_extract]
theorem bs_drop (l : List UInt8) (n m : Nat) (h : l.length ≤ m) : (bs l).extract n m = bs (l.drop n) := by
  apply ByteArray.ext
  simp [ByteArray.data_extract]
  rw [List.take_of_length_le (by simp; omega)]

/-- s[:n], s[n:] of a string given as a list -/
theorem run_to (l : List UInt8) (n : Nat) (h : n ≤ l.length) (w : World) : (Instr.slice 9 (.string (bs l)) none (some (.int .i64 n)) none).run Tryz.prog w = .ok (.string (bs (l.take n))) w := by
  rw [run_slice_string_to_if w _ _ _ _ Tryz.underlying9, if_pos (by rw [bs_size]; omega)]
  simp [bs_take]
theorem run_from (l : List UInt8) (n : Nat) (h : n ≤ l.length) (w : World) : (Instr.slice 9 (.string (bs l)) (some (.int .i64 n)) none none).run Tryz.prog w = .ok (.string (bs (l.drop n))) w := by
  rw [run_slice_string_from_if w _ _ _ _ Tryz.underlying9, if_pos (by rw [bs_size]; omega)]
  simp [bs_drop, bs_size]

theorem bs_mid (l : List UInt8) (i j : Nat) : (bs l).extract i j = bs ((l.drop i).take (j - i)) := by
  apply ByteArray.ext
  simp [ByteArray.data_extract, List.drop_take]
/-- s[i:j] -/
theorem run_mid (l : List UInt8) (i j : Nat) (h : i ≤ j) (hj : j ≤ l.length) (w : World) : (Instr.slice 9 (.string (bs l)) (some (.int .i64 i)) (some (.int .i64 j)) none).run Tryz.prog w = .ok (.string (bs ((l.drop i).take (j - i)))) w := by
  rw [run_slice_string_if w _ _ _ _ _ _ Tryz.underlying9, if_pos (by rw [bs_size]; omega), if_pos (by omega)]
  simp [bs_mid]

end Go.Proofs.YthnkgifbbemhfaaGreatDoor
