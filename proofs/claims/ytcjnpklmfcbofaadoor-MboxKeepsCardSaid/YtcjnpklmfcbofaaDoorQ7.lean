/- The reference's Marks, begins. -/
import Derived.Test.YtcjnpklmfcbofaaDoorS
import Derived.Test.YtcjnpklmfcbofaaDoorQm
import Derived.LoopTactic
set_option linter.unusedVariables false
set_option linter.unusedSimpArgs false
namespace Go.Proofs.YtcjnpklmfcbofaaDoor
open Go.RowKit

theorem looks_take (r : List UInt8) : looks r = decide ((unmark r).take 5 = fromL) := by
  unfold looks
  rw [Bool.eq_iff_iff, decide_eq_true_eq, List.isPrefixOf_iff_prefix, List.prefix_iff_eq_take]
  exact ⟨fun h => h.symm, fun h => h.symm⟩

set_option maxRecDepth 100000 in
set_option maxHeartbeats 1000000 in
theorem marks_any (s : List UInt8) (at' : Nat) (w : World) (ha : at' ≤ s.length) (hs : s.length ≤ 1000000000) : Calls Tryd.prog 28 #[.string (bs s), .int .i64 at'] w fun e w' => e = .returned (.int .i64 (marksL (s.drop at'))) ∧ w = w' := by
  obtain ⟨r, hr⟩ : ∃ r, s.drop at' = r := ⟨_, rfl⟩
  have hrl : r.length = s.length - at' := by rw [← hr]; simp
  have hul := unmark_length r
  obtain ⟨M, hM⟩ : ∃ M, marksL r = M := ⟨_, rfl⟩
  rw [hr, hM]
  have HR := Lib.hid hr
  have HL := Lib.hid hrl
  unfold marksL at hM
  have HM := Lib.hid hM
  clear hr hM hrl
  go_enter Tryd.func28, Tryd.ntmps28
  go_wp2
  go_loop [5] (fun n => ∃ k : Nat, k + at' ≤ s.length ∧ n = .int .i64 k ∧ Hid (unmark r = unmark (r.drop k))) (fun n => s.length - at' - (intOf n).toNat)
  case atStart => exact ⟨0, by omega, rfl, by show _ = _; simp⟩
  case round =>
    obtain ⟨k, hk, rfl, hu⟩ := hrel
    have hrest : r.drop k = s.drop (at' + k) := by rw [← HR.out, List.drop_drop]
    have HE := Lib.hid hrest
    clear hrest
    have fin : ∀ (x : List UInt8), unmark r = r.drop k → x = (s.drop (at' + k)).take 5 → M = if x = fromL then (k : Int) else -1 := by
      intro x h1 h2
      rw [← HM.out, looks_take, h1, HE.out, h2]
      have : (r.length - (s.drop (at' + k)).length : Nat) = k := by rw [HL.out]; simp; omega
      rw [this]
      simp
    have FIN := Lib.hid fin
    clear fin
    have stop : ∀ (hno : headM (r.drop k) = false), unmark r = r.drop k := fun h => by rw [hu.out, unmark_no _ h]
    by_cases hlt : at' + k < s.length
    · obtain ⟨c, hc⟩ : ∃ c, (bs s)[at' + k]'(by rw [bs_size]; exact hlt) = c := ⟨_, rfl⟩
      have hcc : r.drop k = c :: r.drop (k + 1) := by
        rw [HE.out, List.drop_eq_getElem_cons hlt, ← HR.out, List.drop_drop, ← Nat.add_assoc]
        rw [← hc]; rfl
      have HC := Lib.hid hcc
      clear hcc
      by_cases h62 : c = 62
      · subst h62
        clear stop
        go_wp2
        go_round
        case rel => exact ⟨k + 1, by omega, by go_num, by show _ = _; rw [hu.out, HC.out, unmark_mark]⟩
        case measure => simp [intOf]; omega
      · have hst := stop (by rw [HC.out]; unfold headM; simpa using h62)
        have hne : ((c.toNat : Int) == 62) = false := by
          simp
          intro e
          exact h62 (UInt8.toNat_inj.1 (by rw [show (62 : UInt8).toNat = 62 from rfl]; omega))
        have HST := Lib.hid hst
        clear hst stop h62
        by_cases h5 : s.length - at' - k < 5
        · have hM1 := FIN.out _ HST.out rfl
          rw [if_neg (by intro e; have := congrArg List.length e; simp [fromL] at this; omega)] at hM1
          have HM1 := Lib.hid hM1
          clear hM1
          go_wp2
          go_ret
          exact ⟨by rw [HM1.out]; rfl, rfl⟩
        · have hm := run_mid s (at' + k) (at' + k + 5) (by omega) (by omega)
          rw [show at' + k + 5 - (at' + k) = 5 by omega, show ((at' + k + 5 : Nat) : Int) = (at' : Int) + k + 5 by simp, show ((at' + k : Nat) : Int) = (at' : Int) + k by simp] at hm
          obtain ⟨x, hx⟩ : ∃ x, (s.drop (at' + k)).take 5 = x := ⟨_, rfl⟩
          have hM1 := FIN.out x HST.out hx.symm
          rw [hx] at hm
          clear hx
          by_cases hf : x = fromL
          · rw [if_pos hf] at hM1
            have HM1 := Lib.hid hM1
            unfold fromL at hf
            subst hf
            clear hM1
            go_wp2
            go_ret
            exact ⟨by rw [HM1.out]; rfl, rfl⟩
          · rw [if_neg hf] at hM1
            have HM1 := Lib.hid hM1
            unfold fromL at hf
            have hxf : (!x == [70, 114, 111, 109, 32]) = true := by simp [hf]
            have h5d : decide ((s.length : Int) - at' - k < 5) = false := by simp; omega
            clear hM1
            go_wp2
            go_ret
            exact ⟨by rw [HM1.out]; rfl, rfl⟩
    · obtain hk : at' + k = s.length := by omega
      have hst := stop (by rw [HE.out, hk, List.drop_length]; rfl)
      have hM1 := FIN.out _ hst rfl
      rw [if_neg (by intro e; have := congrArg List.length e; simp [fromL] at this; omega)] at hM1
      have HM1 := Lib.hid hM1
      have h5 : (s.length : Int) - at' - k < 5 := by omega
      have hge : (s.length : Int) ≤ at' + k := by omega
      clear hM1 hst stop hk
      go_wp2
      go_ret
      exact ⟨by rw [HM1.out]; rfl, rfl⟩

theorem begins_any (s : List UInt8) (i : Nat) (w : World) (hi : i < s.length) (hs : s.length ≤ 1000000000) : Calls Tryd.prog 27 #[.string (bs s), .int .i64 i] w fun e w' => e = .returned (.bool (decide (i = 0 ∨ s[i - 1]? = some 10))) ∧ w = w' := by
  by_cases h0 : i = 0
  · subst h0
    go_enter Tryd.func27, Tryd.ntmps27
    go_wp2
    go_ret
    exact ⟨by simp, rfl⟩
  · obtain ⟨c, hc⟩ : ∃ c, (bs s)[i - 1]'(by rw [bs_size]; omega) = c := ⟨_, rfl⟩
    have hc2 : s[i - 1]? = some c := List.getElem?_eq_some_iff.2 ⟨by omega, hc⟩
    have HC := Lib.hid hc2
    have e1 : (i : Int) - 1 = ((i - 1 : Nat) : Int) := by omega
    have h1 : 1 ≤ i := by omega
    have hz : ((i : Int) == 0) = false := by simp; omega
    clear hc2
    go_enter Tryd.func27, Tryd.ntmps27
    go_wp2
    go_ret
    refine ⟨?_, rfl⟩
    rw [HC.out]
    have : ((c.toNat : Int) == 10) = decide (i = 0 ∨ some c = some 10) := by
      rw [Bool.eq_iff_iff]
      simp [h0]
      constructor
      · intro e; exact UInt8.toNat_inj.1 (by rw [show (10 : UInt8).toNat = 10 from rfl]; omega)
      · rintro rfl; rfl
    rw [← this]
    rfl

end Go.Proofs.YtcjnpklmfcbofaaDoor
