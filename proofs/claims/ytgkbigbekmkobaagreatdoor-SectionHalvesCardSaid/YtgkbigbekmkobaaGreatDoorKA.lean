/- section's reference: Name, large. -/
import Derived.Test.YtgkbigbekmkobaaGreatDoorK6
set_option linter.unusedVariables false
set_option linter.unusedSimpArgs false
namespace Go.Proofs.YtgkbigbekmkobaaGreatDoor
open Go.RowKit

/-- a byte that the document's names do not hold -/
def refBad (c : UInt8) : Bool := decide ((c.toNat : Int) < 33) || decide (126 < (c.toNat : Int)) || ((c.toNat : Int) == 40) || ((c.toNat : Int) == 41) || ((c.toNat : Int) == 58) || ((c.toNat : Int) == 34) || ((c.toNat : Int) == 123) || ((c.toNat : Int) == 92)
def refName (s : List UInt8) : Bool := s.all (fun c => !refBad c) && !s.isEmpty

set_option maxRecDepth 100000 in
set_option maxHeartbeats 1000000 in
theorem refName_any (s : List UInt8) (w : World) (hl : s.length ≤ 1099511627776) : Calls Tryz.prog 5 #[.string (bs s)] w fun e w' => e = .returned (.bool (refName s)) ∧ w' = w := by
  obtain ⟨A, hA⟩ : ∃ A, refName s = A := ⟨_, rfl⟩
  rw [hA]
  have HA := Lib.hid hA
  clear hA
  go_enter Tryz.func5, Tryz.ntmps5
  go_wp2
  go_loop [3] (fun i => ∃ k : Nat, k ≤ s.length ∧ i = .int .i64 k ∧ Hid (((s.drop k).all (fun c => !refBad c) && !s.isEmpty) = A)) (fun i => s.length - (intOf i).toNat)
  case atStart => exact ⟨0, Nat.zero_le _, rfl, HA.out⟩
  case round =>
    obtain ⟨k, hk, rfl, hok⟩ := hrel
    by_cases hlt : k < s.length
    · have hlt' : (k : Int) < s.length := by omega
      obtain ⟨c, hc⟩ : ∃ c, s[k]? = some c := ⟨_, List.getElem?_eq_getElem hlt⟩
      have hx : (bs s)[k]'(by rw [bs_size]; exact hlt) = c := (List.getElem?_eq_some_iff.1 hc).2
      have hr2 := hok.out
      rw [show s.drop k = c :: s.drop (k + 1) by rw [List.drop_eq_getElem_cons hlt, (List.getElem?_eq_some_iff.1 hc).2], List.all_cons] at hr2
      have HR := Lib.hid hr2
      clear hc hr2 hok
      have fin : ∀ b, refBad c = b → (b = true → A = false) ∧ (b = false → Hid (((s.drop (k + 1)).all (fun c => !refBad c) && !s.isEmpty) = A)) := by
        intro b hb
        have := HR.out
        rw [hb] at this
        refine ⟨fun h => ?_, fun h => ?_⟩
        · rw [h] at this; simpa using this.symm
        · rw [h] at this; show _ = _; simpa using this
      have FIN := Lib.hid fin
      clear fin
      rcases h0 : decide ((c.toNat : Int) < 33) with _ | _
      case true =>
        have hA := (FIN.out true (by unfold refBad; rw [h0]; rfl)).1 rfl
        subst hA
        clear FIN HR
        go_wp2
        go_ret
        exact ⟨rfl, rfl⟩
      rcases h1 : decide (126 < (c.toNat : Int)) with _ | _
      case true =>
        have hA := (FIN.out true (by unfold refBad; rw [h0, h1]; rfl)).1 rfl
        subst hA
        clear FIN HR
        go_wp2
        go_ret
        exact ⟨rfl, rfl⟩
      rcases h2 : ((c.toNat : Int) == 40) with _ | _
      case true =>
        have hA := (FIN.out true (by unfold refBad; rw [h0, h1, h2]; rfl)).1 rfl
        subst hA
        clear FIN HR
        go_wp2
        go_ret
        exact ⟨rfl, rfl⟩
      rcases h3 : ((c.toNat : Int) == 41) with _ | _
      case true =>
        have hA := (FIN.out true (by unfold refBad; rw [h0, h1, h2, h3]; rfl)).1 rfl
        subst hA
        clear FIN HR
        go_wp2
        go_ret
        exact ⟨rfl, rfl⟩
      rcases h4 : ((c.toNat : Int) == 58) with _ | _
      case true =>
        have hA := (FIN.out true (by unfold refBad; rw [h0, h1, h2, h3, h4]; rfl)).1 rfl
        subst hA
        clear FIN HR
        go_wp2
        go_ret
        exact ⟨rfl, rfl⟩
      rcases h5 : ((c.toNat : Int) == 34) with _ | _
      case true =>
        have hA := (FIN.out true (by unfold refBad; rw [h0, h1, h2, h3, h4, h5]; rfl)).1 rfl
        subst hA
        clear FIN HR
        go_wp2
        go_ret
        exact ⟨rfl, rfl⟩
      rcases h6 : ((c.toNat : Int) == 123) with _ | _
      case true =>
        have hA := (FIN.out true (by unfold refBad; rw [h0, h1, h2, h3, h4, h5, h6]; rfl)).1 rfl
        subst hA
        clear FIN HR
        go_wp2
        go_ret
        exact ⟨rfl, rfl⟩
      rcases h7 : ((c.toNat : Int) == 92) with _ | _
      case true =>
        have hA := (FIN.out true (by unfold refBad; rw [h0, h1, h2, h3, h4, h5, h6, h7]; rfl)).1 rfl
        subst hA
        clear FIN HR
        go_wp2
        go_ret
        exact ⟨rfl, rfl⟩
      have hgo := (FIN.out false (by unfold refBad; rw [h0, h1, h2, h3, h4, h5, h6, h7]; rfl)).2 rfl
      clear FIN HR
      go_wp2
      go_round
      case rel => exact ⟨k + 1, by omega, by go_num, hgo.out⟩
      case measure => simp [intOf]; omega
    · obtain rfl : k = s.length := by omega
      have hr2 := hok.out
      rw [List.drop_length] at hr2
      have hr3 : (!s.isEmpty) = A := by rw [← hr2]; simp
      clear hok hr2
      subst hr3
      go_wp2
      go_ret
      exact ⟨by cases s <;> simp, rfl⟩

end Go.Proofs.YtgkbigbekmkobaaGreatDoor
