/- The law HeaderCounts. -/
import Derived.Test.YtplmekfcnggigaaDoorH7
import Derived.Test.YtplmekfcnggigaaDoorHc
set_option linter.unusedVariables false
set_option linter.unusedSimpArgs false
namespace Go.Proofs.YtplmekfcnggigaaDoor
open Go.RowKit

theorem mod_300 (n : Int) : ∃ N : Nat, N < 300 ∧ wrap64 ((IntKind.u64.wrap n).tmod 300) = (N : Int) := by
  rw [IntKind.wrap_u64, Int.tmod_eq_emod_of_nonneg (by omega)]
  exact ⟨(n % 18446744073709551616 % 300).toNat, by omega, by unfold wrap64; omega⟩

set_option maxRecDepth 100000 in
set_option maxHeartbeats 1000000 in
theorem headerCounts_any (n : Int) (w : World) (x : Addr) (hc : w.cell? ⟨0, 0, none⟩ = some (errV x)) : Calls Tryd.prog 4 #[.int .i64 n] w fun e w' => e = .returned (.bool true) ∧ Below w.heap.size w w' := by
  obtain ⟨N, hN, eN⟩ := mod_300 n
  have EN := Lib.hid eN
  have HC := Lib.hid hc
  clear eN hc
  go_enter Tryd.func4, Tryd.ntmps4
  go_wp2_with fail
  refine (alive_any _).mono ?_
  rintro e w1 ⟨rfl, hb1⟩
  have hc1 := (hb1.cell (cell_lt HC.out)).trans HC.out
  have HC1 := Lib.hid hc1
  clear hc1
  go_wp2
  rw [EN.out]
  go_loop [3, 13] (fun s i => ∃ k : Nat, k ≤ N ∧ i = .int .i64 k ∧ s = .string (bs (manyL k))) (fun _ i => N - (intOf i).toNat)
  case atStart => exact ⟨0, Nat.zero_le _, rfl, rfl⟩
  case round =>
    obtain ⟨k, hk, rfl, rfl⟩ := hrel
    have hml := many_len k
    by_cases hlt : k < N
    · have hcat : (bs (manyL k) ++ ⟨#[97, 58, 32, 98, 13, 10]⟩ : ByteArray) = bs (manyL (k + 1)) := by
        rw [many_succ]; exact bs_append (manyL k) oneL
      have hml2 : (manyL k).length ≤ 1800 := by omega
      have HML := Lib.hid hml
      clear hml
      go_wp2
      go_round
      case rel => exact ⟨k + 1, by omega, by go_num, rfl⟩
      case measure => simp [intOf]; omega
    · obtain rfl : k = N := by omega
      have hcat : (bs (manyL k) ++ ⟨#[13, 10]⟩ : ByteArray) = bs (manyL k ++ [13, 10]) := bs_append (manyL k) [13, 10]
      obtain ⟨hfl, hbl⟩ := fields_many k
      have hml2 : (manyL k).length ≤ 1800 := by omega
      have hml3 : (manyL k ++ [13, 10]).length ≤ 1000000000 := by simp; omega
      have HFL := Lib.hid hfl
      have HBL := Lib.hid hbl
      have HML := Lib.hid hml
      have HML3 := Lib.hid hml3
      clear hfl hbl hml hml3
      by_cases h200 : 200 < k
      · go_wp2_with fail
        refine (fields_full (manyL k ++ [13, 10]) _ x HC1.out HML3.out (by rw [HFL.out]; exact h200)).mono ?_
        rintro e w2 ⟨rfl, hb2⟩
        unfold errV
        go_wp2
        go_ret
        exact ⟨rfl, hb1.trans (hb2.mono hb1.size)⟩
      · go_wp2_with fail
        refine (fields_ok (manyL k ++ [13, 10]) _ HML3.out (by rw [HFL.out]; omega)).mono ?_
        rintro e w2 ⟨v, rfl, ho, hb2⟩
        obtain ⟨a, n, cap, rfl, hn⟩ := OwnF.form ho
        have hn2 : n = k := by rw [hn.out, HFL.out]
        subst hn2
        have hz2 := hb1.trans (hb2.mono hb1.size)
        clear ho
        go_wp2_with fail
        refine (body_any (manyL n ++ [13, 10]) _ HML3.out).mono ?_
        rintro e w3 ⟨rfl, hb3⟩
        rw [HBL.out]
        have heq : ((6 * n + 2 : Nat) : Int) = ((manyL n).length : Int) + 2 := by rw [HML.out]; omega
        rw [heq]
        clear heq
        go_wp2
        go_ret
        exact ⟨rfl, hz2.trans (hb3.mono hz2.size)⟩

end Go.Proofs.YtplmekfcnggigaaDoor
