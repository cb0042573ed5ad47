/- The reference's value and place leave the world as it was. -/
import Derived.Test.YthkkdbpblajahaaDoorD34
set_option linter.unusedVariables false
set_option linter.unusedSimpArgs false
namespace Go.Proofs.YthkkdbpblajahaaDoor
open Go.RowKit

set_option maxRecDepth 100000 in
set_option maxHeartbeats 1000000 in
theorem value_same (s : List UInt8) (w : World) (hs : s.length ≤ 8) (hd : ∀ c ∈ s, isD c = true) : Calls Tryd.prog 51 #[.string (bs s)] w fun e w' => e = .returned (.int .i64 (valueL s)) ∧ w' = w := by
  obtain ⟨R, hR⟩ : ∃ R, valueL s = R := ⟨_, rfl⟩
  rw [hR]
  have HR := Lib.hid hR
  have HD := Lib.hid hd
  clear hR hd
  go_enter Tryd.func51, Tryd.ntmps51
  go_wp2
  go_loopw [3, 4] (fun v c wr => ∃ (k : Nat) (n : Int), k ≤ s.length ∧ c = .int .i64 k ∧ v = .int .i64 n ∧ 0 ≤ n ∧ n + 1 ≤ 10 ^ k ∧ Hid ((s.drop k).foldl (fun n c => 10 * n + (((c - 48 : UInt8).toNat : Nat) : Int)) n = R) ∧ wr = w) (fun _ c _ => s.length - (intOf c).toNat)
  case atStart => exact ⟨0, 0, Nat.zero_le _, rfl, rfl, Int.le_refl _, by decide, HR.out, rfl⟩
  case round =>
    obtain ⟨k, n, hk, rfl, rfl, n0, n1, hr, hB⟩ := hrel
    subst hB
    by_cases hlt : k < s.length
    · obtain ⟨c, hc⟩ : ∃ c, (bs s)[k]'(by rw [bs_size]; exact hlt) = c := ⟨_, rfl⟩
      have hc' : s[k] = c := hc
      have hdc := HD.out c (by rw [← hc']; exact List.getElem_mem _)
      have hr2 := hr.out
      rw [List.drop_eq_getElem_cons hlt, hc', List.foldl_cons, isD_sub hdc] at hr2
      have HR2 := Lib.hid hr2
      obtain ⟨h1, h2⟩ := dig_bd hdc
      have hlt' : (k : Int) < s.length := by omega
      have hp : (10 : Int) ^ (k + 1) = 10 ^ k * 10 := Int.pow_succ ..
      have hp8 : (10 : Int) ^ k ≤ 100000000 := by
        have h := Nat.pow_le_pow_right (n := 10) (by decide) (show k ≤ 8 by omega)
        have : ((10 ^ k : Nat) : Int) ≤ ((10 ^ 8 : Nat) : Int) := by exact_mod_cast h
        simpa using this
      have n9 : n ≤ 100000000 := by omega
      have hz1 : 10 * n + 1 + ((c.toNat : Int) - 48) ≤ 10 ^ (k + 1) := by omega
      clear hr hr2 hdc hp hp8 hc'
      go_wp2
      go_roundw
      case rel => exact ⟨k + 1, 10 * n + ((c.toNat : Int) - 48), by omega, by go_num, by go_num, by omega, by omega, HR2.out, by first | rfl | trivial⟩
      case measure => simp [intOf]; omega
    · obtain rfl : k = s.length := by omega
      have hr2 := hr.out
      rw [List.drop_length, List.foldl_nil] at hr2
      subst hr2
      clear hr
      go_wp2
      go_ret
      exact ⟨rfl, rfl⟩

set_option maxRecDepth 100000 in
set_option maxHeartbeats 1000000 in
theorem place_same (m : Nat) (s t : List UInt8) (w : World) (hm : m ≤ 12) (ht : t.length = 3 * m) (hs : s.length ≤ 1099511627776) : Calls Tryd.prog 49 #[.string (bs s), .string (bs t)] w fun e w' => e = .returned (.int .i64 (plL m 0 t s)) ∧ w' = w := by
  obtain ⟨R, hR⟩ : ∃ R, plL m 0 t s = R := ⟨_, rfl⟩
  have HR := Lib.hid hR
  rw [hR]
  clear hR
  have hts : (bs t).size = 3 * m := by rw [bs_size, ht]
  go_enter Tryd.func49, Tryd.ntmps49
  go_wp2
  go_loopg [5] m (fun kq i wr => ∃ j : Nat, j ≤ m ∧ kq = m - j ∧ i = .int .i64 (3 * (j : Int)) ∧ wr = w ∧ Hid (plL (m - j) j (t.drop (3 * j)) s = R))
  case atStart => exact ⟨0, Nat.zero_le _, rfl, rfl, rfl, HR⟩
  case round =>
    obtain ⟨j, hj, hkq, rfl, hB, hnr⟩ := hrel
    subst hB
    by_cases hjm : j < m
    · have hsl : ∀ w : World, (Instr.slice 9 (.string (bs t)) (some (.int .i64 (3 * (j : Int)))) (some (.int .i64 (3 * (j : Int) + 3))) none).run Tryd.prog w = .ok (.string (bs ((t.drop (3 * j)).take 3))) w := fun w => by
        have := run_mid t (3 * j) (3 * j + 3) (by omega) (by omega) w
        rw [show 3 * j + 3 - 3 * j = 3 by omega] at this
        simpa using this
      obtain ⟨q, hq⟩ : ∃ q, m - j = q + 1 := ⟨m - j - 1, by omega⟩
      have hn2 := hnr.out
      rw [hq, plL] at hn2
      obtain ⟨T, hT⟩ : ∃ T, (t.drop (3 * j)).take 3 = T := ⟨_, rfl⟩
      rw [hT] at hn2 hsl
      have hlj : 3 * (j : Int) + 3 ≤ 3 * (m : Int) := by omega
      by_cases hp : s = T
      · rw [if_pos hp] at hn2
        subst hn2 hp
        have hdv : (3 * (j : Int)).tdiv 3 = j := by rw [Int.tdiv_eq_ediv_of_nonneg (by omega)]; omega
        clear hnr
        go_wp2
        go_ret
        exact ⟨by first | rfl | (apply ret_int; omega) | (rw [hdv]), rfl⟩
      · rw [if_neg hp] at hn2
        have hne : (s == T) = false := by simpa using hp
        have HN := Lib.hid hn2
        clear hnr hn2 hp
        go_wp2
        go_roundg (m - (j + 1))
        case measure => omega
        case rel => exact ⟨j + 1, by omega, rfl, by simp; omega, rfl, by rw [show m - (j + 1) = q by omega, show 3 * (j + 1) = 3 * j + 3 by omega, ← List.drop_drop]; exact HN⟩
    · obtain rfl : j = m := by omega
      have hn2 := hnr.out
      rw [Nat.sub_self] at hn2
      have hn3 : R = -1 := hn2.symm
      subst hn3
      clear hnr hn2
      go_wp2
      go_ret
      exact ⟨rfl, rfl⟩

end Go.Proofs.YthkkdbpblajahaaDoor
