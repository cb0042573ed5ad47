/- section: name, right's test of names, right of any Spec. -/
import Derived.Test.YtgkbigbekmkobaaGreatDoorK2
import Derived.Test.YtgkbigbekmkobaaGreatDoorSs
set_option linter.unusedVariables false
set_option linter.unusedSimpArgs false
namespace Go.Proofs.YtgkbigbekmkobaaGreatDoor
open Go.RowKit

/-- a byte that no name holds -/
def badC (c : UInt8) : Bool := decide ((c.toNat : Int) < 33) || decide (126 < (c.toNat : Int)) || decide (0 ≤ Lib.indexByte [40, 41, 58, 34, 123, 92] c)
def nameOk (s : List UInt8) : Bool := s.all (fun c => !badC c) && !s.isEmpty

set_option maxRecDepth 100000 in
set_option maxHeartbeats 1000000 in
theorem secname_any (s : List UInt8) (w : World) (hl : s.length ≤ 1099511627776) : Calls Tryz.prog 22 #[.string (bs s)] w fun e w' => e = .returned (.bool (nameOk s)) ∧ Below w.heap.size w w' := by
  obtain ⟨A, hA⟩ : ∃ A, nameOk s = A := ⟨_, rfl⟩
  rw [hA]
  have HA := Lib.hid hA
  clear hA
  obtain ⟨cap, w2, hconv, hcells, hb2, hlt2⟩ := to_bytes s w
  have HC := Lib.hid hcells
  clear hcells
  go_enter Tryz.func22, Tryz.ntmps22
  go_wp2
  clear hconv
  go_loop [8] (fun i => ∃ k : Nat, k ≤ s.length ∧ i = .int .i64 k ∧ Hid (((s.drop k).all (fun c => !badC c) && !s.isEmpty) = A)) (fun i => s.length - (intOf i).toNat)
  case atStart => exact ⟨0, Nat.zero_le _, rfl, HA.out⟩
  case round =>
    obtain ⟨k, hk, rfl, hok⟩ := hrel
    by_cases hlt : k < s.length
    · have hck := HC.out k hlt
      have hlt' : (k : Int) < s.length := by omega
      obtain ⟨c, hc⟩ : ∃ c, s.getD k 0 = c := ⟨_, rfl⟩
      rw [hc] at hck
      have hr2 := hok.out
      rw [show s.drop k = c :: s.drop (k + 1) by rw [List.drop_eq_getElem_cons hlt, ← hc]; simp [List.getD, hlt], List.all_cons] at hr2
      have HR := Lib.hid hr2
      clear hc hr2 hok
      have fin : ∀ b, badC c = b → (b = true → A = false) ∧ (b = false → Hid (((s.drop (k + 1)).all (fun c => !badC c) && !s.isEmpty) = A)) := by
        intro b hb
        have := HR.out
        rw [hb] at this
        refine ⟨fun h => ?_, fun h => ?_⟩
        · rw [h] at this; simpa using this.symm
        · rw [h] at this; show _ = _; simpa using this
      rcases h1 : decide ((c.toNat : Int) < 33) with _ | _
      · rcases h2 : decide (126 < (c.toNat : Int)) with _ | _
        · have hix : ∀ W, Calls Tryz.prog 32 #[.string ⟨#[40, 41, 58, 34, 123, 92]⟩, .int .u8 (c.toNat : Int)] W fun e w' => e = .returned (.int .i64 (Lib.indexByte [40, 41, 58, 34, 123, 92] c)) ∧ W = w' := fun W => by
            refine (Tryz.strings_IndexByte ⟨#[40, 41, 58, 34, 123, 92]⟩ _ W).mono fun e w' ⟨h, k⟩ => ⟨?_, k.symm⟩
            rw [h]
            simp
          have HIX := Lib.hid hix
          clear hix
          obtain ⟨ix, hix⟩ : ∃ ix, Lib.indexByte [40, 41, 58, 34, 123, 92] c = ix := ⟨_, rfl⟩
          have hbad : badC c = decide (0 ≤ ix) := by unfold badC; rw [h1, h2, hix]; rfl
          rw [hix] at HIX
          obtain ⟨f1, f2⟩ := fin _ hbad
          have F1 := Lib.hid f1
          have F2 := Lib.hid f2
          clear fin hbad f1 f2 hix
          rcases h3 : decide (0 ≤ ix) with _ | _
          · have hgo := F2.out h3
            clear F1 F2
            go_wp2_with (go_at_call 32; refine (HIX.out _).mono ?_; rintro e w' ⟨rfl, rfl⟩)
            go_round
            case rel => exact ⟨k + 1, by omega, by go_num, hgo.out⟩
            case measure => simp [intOf]; omega
          · have hA := F1.out h3
            subst hA
            clear F1 F2
            go_wp2_with (go_at_call 32; refine (HIX.out _).mono ?_; rintro e w' ⟨rfl, rfl⟩)
            go_ret
            exact ⟨rfl, hb2⟩
        · have hA := (fin true (by unfold badC; rw [h1, h2]; rfl)).1 rfl
          subst hA
          clear fin
          go_wp2
          go_ret
          exact ⟨rfl, hb2⟩
      · have hA := (fin true (by unfold badC; rw [h1]; rfl)).1 rfl
        subst hA
        clear fin
        go_wp2
        go_ret
        exact ⟨rfl, hb2⟩
    · obtain rfl : k = s.length := by omega
      have hr2 := hok.out
      rw [List.drop_length] at hr2
      have hr3 : (!s.isEmpty) = A := by rw [← hr2]; simp
      clear hok hr2
      subst hr3
      go_wp2
      go_ret
      exact ⟨by cases s <;> simp, hb2⟩

set_option maxRecDepth 100000 in
theorem right2_any (s : List UInt8) (w : World) (hl : s.length ≤ 1099511627776) : Calls Tryz.prog 21 #[.string (bs s)] w fun e w' => e = .returned (.bool (!nameOk s)) ∧ Below w.heap.size w w' := by
  have H := Lib.hid (secname_any s w hl)
  go_enter Tryz.func21, Tryz.ntmps21
  go_wp2_with fail
  refine H.out.mono ?_
  rintro e w1 ⟨rfl, hb1⟩
  go_wp2
  go_ret
  exact ⟨rfl, hb1⟩

end Go.Proofs.YtgkbigbekmkobaaGreatDoor
