/- Small letters, byte by byte in a buffer (plain). -/
import Derived.Test.YthnkgifbbemhfaaGreatDoorBu
import Derived.Test.YthnkgifbbemhfaaGreatDoorSl
set_option linter.unusedVariables false
set_option linter.unusedSimpArgs false
namespace Go.Proofs.YthnkgifbbemhfaaGreatDoor
open Go.RowKit

theorem low_step (l : List UInt8) (k : Nat) (hk : k < l.length) (c : UInt8) (hc : l.getD k 0 = c) : (lowL (l.take k) ++ l.drop k).set k (lowB c) = lowL (l.take (k + 1)) ++ l.drop (k + 1) := by
  have e : l[k]? = some c := by rw [← hc]; simp [List.getD, hk]
  have e2 : l[k] = c := (List.getElem?_eq_some_iff.1 e).2
  rw [List.drop_eq_getElem_cons hk, e2, List.take_add_one, e]
  have hl : (lowL (l.take k)).length = k := by simp [lowL]; omega
  rw [List.set_append_right _ _ (by omega), hl, Nat.sub_self, List.set_cons_zero]
  simp [lowL]
theorem low_at (l : List UInt8) (k : Nat) (hk : k < l.length) : (lowL (l.take k) ++ l.drop k).getD k 0 = l.getD k 0 := by
  have hl : (lowL (l.take k)).length = k := by simp [lowL]; omega
  simp only [List.getD]
  rw [List.getElem?_append_right (by omega), hl, Nat.sub_self, List.getElem?_drop]
  simp
theorem low_same (l : List UInt8) (k : Nat) (hk : k < l.length) (c : UInt8) (hc : l.getD k 0 = c) (hu : lowB c = c) : lowL (l.take (k + 1)) ++ l.drop (k + 1) = lowL (l.take k) ++ l.drop k := by
  have e : l[k]? = some c := by rw [← hc]; simp [List.getD, hk]
  have e2 : l[k] = c := (List.getElem?_eq_some_iff.1 e).2
  rw [List.take_add_one, e, List.drop_eq_getElem_cons hk, e2]
  simp [lowL, hu]
theorem low_len (l : List UInt8) (k : Nat) : (lowL (l.take k) ++ l.drop k).length = l.length := by simp [lowL]; omega
theorem lowB_num {c : UInt8} (h1 : 65 ≤ c.toNat) (h2 : c.toNat ≤ 90) : ((lowB c).toNat : Int) = (c.toNat : Int) + 32 := by
  rw [lowB_yes h1 h2]; simp

end Go.Proofs.YthnkgifbbemhfaaGreatDoor
