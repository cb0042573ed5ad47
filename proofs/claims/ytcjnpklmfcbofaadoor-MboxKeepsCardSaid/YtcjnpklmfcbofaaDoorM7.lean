/- mbox: right. -/
import Derived.Test.YtcjnpklmfcbofaaDoorM4
import Derived.Test.YtcjnpklmfcbofaaDoorCb
import Derived.Test.YtcjnpklmfcbofaaDoorOb
set_option linter.unusedVariables false
set_option linter.unusedSimpArgs false
namespace Go.Proofs.YtcjnpklmfcbofaaDoor
open Go.RowKit

def offC (c : UInt8) : Bool := decide ((c.toNat : Int) < 33) || decide (126 < (c.toNat : Int))
def senderOk (s : List UInt8) : Bool := s.all (fun c => !offC c) && decide (1 ≤ s.length ∧ s.length ≤ 200)
theorem sender_nl {s : List UInt8} (h : senderOk s = true) : (10 : UInt8) ∉ s := by
  unfold senderOk at h
  rw [Bool.and_eq_true, List.all_eq_true] at h
  intro m
  have := h.1 10 m
  exact absurd this (by decide)

set_option maxRecDepth 100000 in
set_option maxHeartbeats 1000000 in
theorem right_any (s : List UInt8) (w : World) (hl : s.length ≤ 1099511627776) : Calls Tryd.prog 18 #[.string (bs s)] w fun e w' => e = .returned (.bool (senderOk s)) ∧ Below w.heap.size w w' := by
  obtain ⟨A, hA⟩ : ∃ A, senderOk s = A := ⟨_, rfl⟩
  rw [hA]
  have HA := Lib.hid hA
  clear hA
  obtain ⟨cap, w2, hconv, hcells, hb2, hlt2⟩ := to_bytes s w
  have HC := Lib.hid hcells
  clear hcells
  go_enter Tryd.func18, Tryd.ntmps18
  go_wp2
  clear hconv
  go_loop [8] (fun i => ∃ k : Nat, k ≤ s.length ∧ i = .int .i64 k ∧ Hid (((s.drop k).all (fun c => !offC c) && decide (1 ≤ s.length ∧ s.length ≤ 200)) = A)) (fun i => s.length - (intOf i).toNat)
  case atStart => exact ⟨0, Nat.zero_le _, rfl, HA.out⟩
  case round =>
    obtain ⟨k, hk, rfl, hok⟩ := hrel
    by_cases hlt : k < s.length
    · have hck := HC.out k hlt
      have hlt' : (k : Int) < s.length := by omega
      obtain ⟨c, hc⟩ : ∃ c, s.getD k 0 = c := ⟨_, rfl⟩
      rw [hc] at hck
      have hr2 := hok.out
      rw [show s.drop k = c :: s.drop (k + 1) by rw [List.drop_eq_getElem_cons hlt, ← hc]; simp [List.getD, hlt], List.all_cons] at hr2
      have HR := Lib.hid hr2
      clear hc hr2 hok
      have fin : ∀ b, offC c = b → (b = true → A = false) ∧ (b = false → Hid (((s.drop (k + 1)).all (fun c => !offC c) && decide (1 ≤ s.length ∧ s.length ≤ 200)) = A)) := by
        intro b hb
        have := HR.out
        rw [hb] at this
        refine ⟨fun h => ?_, fun h => ?_⟩
        · rw [h] at this; simpa using this.symm
        · rw [h] at this; show _ = _; simpa using this
      rcases h1 : decide ((c.toNat : Int) < 33) with _ | _
      · rcases h2 : decide (126 < (c.toNat : Int)) with _ | _
        · have hgo := (fin false (by unfold offC; rw [h1, h2]; rfl)).2 rfl
          clear fin HR
          go_wp2
          go_round
          case rel => exact ⟨k + 1, by omega, by go_num, hgo.out⟩
          case measure => simp [intOf]; omega
        · have hA := (fin true (by unfold offC; rw [h1, h2]; rfl)).1 rfl
          subst hA
          clear fin HR
          go_wp2
          go_ret
          exact ⟨rfl, hb2⟩
      · have hA := (fin true (by unfold offC; rw [h1]; rfl)).1 rfl
        subst hA
        clear fin HR
        go_wp2
        go_ret
        exact ⟨rfl, hb2⟩
    · obtain rfl : k = s.length := by omega
      have hr2 := hok.out
      rw [List.drop_length] at hr2
      have hr3 : decide (1 ≤ s.length ∧ s.length ≤ 200) = A := by rw [← hr2]; simp
      clear hok hr2
      by_cases q1 : 1 ≤ s.length
      · have q1' : (1 : Int) ≤ s.length := by omega
        by_cases q2 : s.length ≤ 200
        · have q2' : (s.length : Int) ≤ 200 := by omega
          have hA : A = true := by rw [← hr3, decide_eq_true ⟨q1, q2⟩]
          subst hA
          clear hr3
          go_wp2
          go_ret
          exact ⟨rfl, hb2⟩
        · have q2' : ¬ (s.length : Int) ≤ 200 := by omega
          have hA : A = false := by rw [← hr3, decide_eq_false (fun h => q2 h.2)]
          subst hA
          clear hr3
          go_wp2
          go_ret
          exact ⟨rfl, hb2⟩
      · have q1' : ¬ (1 : Int) ≤ s.length := by omega
        have hA : A = false := by rw [← hr3, decide_eq_false (fun h => q1 h.1)]
        subst hA
        clear hr3
        go_wp2
        go_ret
        exact ⟨rfl, hb2⟩

end Go.Proofs.YtcjnpklmfcbofaaDoor
