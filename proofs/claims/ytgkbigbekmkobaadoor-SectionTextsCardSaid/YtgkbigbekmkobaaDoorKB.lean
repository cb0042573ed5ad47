/- section's statement: equal lists are the same. -/
import Derived.Test.YtgkbigbekmkobaaDoorKA
set_option linter.unusedVariables false
set_option linter.unusedSimpArgs false
namespace Go.Proofs.YtgkbigbekmkobaaDoor
open Go.RowKit

set_option maxRecDepth 100000 in
set_option maxHeartbeats 1000000 in
theorem sameInts_yes (va vb : Value) (l : List Int) (w : World) (ha : IntsAt w va l) (hb : IntsAt w vb l) (hl : l.length ≤ 1099511627776) : Calls Tryd.prog 24 #[va, vb] w fun e w' => e = .returned (.bool true) ∧ Below w.heap.size w w' := by
  obtain ⟨a, ca, rfl, fa⟩ := ha
  obtain ⟨b, cb, rfl, fb⟩ := hb
  by_cases h0 : l = []
  · subst h0
    clear fa fb
    go_enter Tryd.func24, Tryd.ntmps24
    go_wp2
    go_loopw [5, 13] (fun _ c wr => c = .int .i64 0 ∧ wr = w) (fun _ _ _ => 0)
    case atStart => exact ⟨rfl, rfl⟩
    case round =>
      obtain ⟨rfl, rfl⟩ := hrel
      go_wp2
      go_ret
      exact ⟨rfl, Below.refl _ _⟩
  · obtain ⟨ba, oa, rfl, la, ka⟩ := fa h0
    obtain ⟨bb, ob, rfl, lb, kb⟩ := fb h0
    clear h0
    have KA := Lib.hid ka
    have KB := Lib.hid kb
    clear ka kb
    go_enter Tryd.func24, Tryd.ntmps24
    go_wp2
    go_loopw [5, 13] (fun _ c wr => ∃ k : Nat, k ≤ l.length ∧ c = .int .i64 k ∧ Below w.heap.size w wr) (fun _ c _ => l.length - (intOf c).toNat)
    case atStart => exact ⟨0, Nat.zero_le _, rfl, Below.refl _ _⟩
    case round =>
      obtain ⟨k, hk, rfl, hB⟩ := hrel
      by_cases hlt : k < l.length
      · have a0 := (hB.cell (p := ⟨ba, oa + k, none⟩) la).trans (KA.out k hlt)
        have b0 := (hB.cell (p := ⟨bb, ob + k, none⟩) lb).trans (KB.out k hlt)
        obtain ⟨x, hx⟩ : ∃ x, l.getD k 0 = x := ⟨_, rfl⟩
        rw [hx] at a0 b0
        have hlt' : (k : Int) < l.length := by omega
        clear hx
        go_wp2
        go_quiet (fail)
        go_wp2
        go_roundw
        case rel => exact ⟨k + 1, by omega, by go_num, below_drewN hB _⟩
        case measure => simp [intOf]; omega
      · obtain rfl : k = l.length := by omega
        go_wp2
        go_ret
        exact ⟨rfl, hB⟩

set_option maxRecDepth 100000 in
set_option maxHeartbeats 1000000 in
theorem sameStrs_yes (va vb : Value) (l : List (List UInt8)) (w : World) (ha : StrsF w va l) (hb : StrsF w vb l) (hl : l.length ≤ 1099511627776) : Calls Tryd.prog 25 #[va, vb] w fun e w' => e = .returned (.bool true) ∧ Below w.heap.size w w' := by
  obtain ⟨a, ca, rfl, fa⟩ := ha
  obtain ⟨b, cb, rfl, fb⟩ := hb
  by_cases h0 : l = []
  · subst h0
    clear fa fb
    go_enter Tryd.func25, Tryd.ntmps25
    go_wp2
    go_loopw [5, 13] (fun _ c wr => c = .int .i64 0 ∧ wr = w) (fun _ _ _ => 0)
    case atStart => exact ⟨rfl, rfl⟩
    case round =>
      obtain ⟨rfl, rfl⟩ := hrel
      go_wp2
      go_ret
      exact ⟨rfl, Below.refl _ _⟩
  · obtain ⟨ba, oa, rfl, la, ka⟩ := fa h0
    obtain ⟨bb, ob, rfl, lb, kb⟩ := fb h0
    clear h0
    have KA := Lib.hid ka
    have KB := Lib.hid kb
    clear ka kb
    go_enter Tryd.func25, Tryd.ntmps25
    go_wp2
    go_loopw [5, 13] (fun _ c wr => ∃ k : Nat, k ≤ l.length ∧ c = .int .i64 k ∧ Below w.heap.size w wr) (fun _ c _ => l.length - (intOf c).toNat)
    case atStart => exact ⟨0, Nat.zero_le _, rfl, Below.refl _ _⟩
    case round =>
      obtain ⟨k, hk, rfl, hB⟩ := hrel
      by_cases hlt : k < l.length
      · have a0 := (hB.cell (p := ⟨ba, oa + k, none⟩) la).trans (KA.out k hlt)
        have b0 := (hB.cell (p := ⟨bb, ob + k, none⟩) lb).trans (KB.out k hlt)
        obtain ⟨x, hx⟩ : ∃ x, l.getD k [] = x := ⟨_, rfl⟩
        rw [hx] at a0 b0
        have hlt' : (k : Int) < l.length := by omega
        clear hx
        go_wp2
        go_quiet (fail)
        go_wp2
        go_roundw
        case rel => exact ⟨k + 1, by omega, by go_num, below_drewN hB _⟩
        case measure => simp [intOf]; omega
      · obtain rfl : k = l.length := by omega
        go_wp2
        go_ret
        exact ⟨rfl, hB⟩

end Go.Proofs.YtgkbigbekmkobaaDoor
