/- section: Cut, number, Partial. -/
import Derived.Test.YtgkbigbekmkobaaGreatDoorOb
import Derived.Test.YtgkbigbekmkobaaGreatDoorOi
import Derived.Test.YtgkbigbekmkobaaGreatDoorCb
import Derived.Test.YtgkbigbekmkobaaGreatDoorShelf
import Derived.Test.YtgkbigbekmkobaaGreatDoorCp
set_option linter.unusedVariables false
set_option linter.unusedSimpArgs false
namespace Go.Proofs.YtgkbigbekmkobaaGreatDoor
open Go.RowKit

theorem cut_any (s sep a r : List UInt8) (is : Bool) (m : Int) (w : World) (hs : s.length < 4294967281) (hm : w.cell? ⟨2, 0, none⟩ = some (.int .i64 m)) (hc : Lib.cut s sep = (a, r, is)) :
    Calls Tryz.prog 13 #[.string (bs s), .string (bs sep)] w fun e w' => e = .returned (.tuple #[.string (bs a), .string (bs r), .bool is]) ∧ Below w.heap.size w w' :=
  (Tryz.strings_Cut (bs s) (bs sep) m w (by rw [bs_size]; exact hs) hm).mono fun e w' ⟨h, n, k⟩ => by
    subst h k
    have e1 : Lib.cut (bs s).data.toList (bs sep).data.toList = (a, r, is) := by simpa using hc
    rw [e1]
    exact ⟨rfl, below_drewN (Below.refl _ _) _⟩

set_option maxRecDepth 100000 in
/-- a digit of one sign -/
theorem number_one (c : UInt8) (w : World) (h1 : 49 ≤ c.toNat) (h2 : c.toNat ≤ 57) : Calls Tryz.prog 14 #[.string (bs [c])] w fun e w' => e = .returned (.int .i64 ((c.toNat : Int) - 48)) ∧ Below w.heap.size w w' := by
  have d0 : ((c.toNat : Int) == 48) = false := beq_eq_false_iff_ne.2 (by omega)
  have hx : (bs [c])[0]'(by rw [bs_size]; simp) = c := rfl
  obtain ⟨cap, w2, hconv, hcells, hb2, hlt2⟩ := to_bytes [c] w
  have hc0 := hcells 0 (by simp)
  simp only [List.getD_cons_zero] at hc0
  have h1' : (49 : Int) ≤ c.toNat := by omega
  have h2' : (c.toNat : Int) ≤ 57 := by omega
  clear hcells h1 h2
  go_enter Tryz.func14, Tryz.ntmps14
  go_wp2
  go_loop [3, 21] (fun n i => (i = .int .i64 0 ∧ n = .int .i64 0) ∨ (i = .int .i64 1 ∧ n = .int .i64 ((c.toNat : Int) - 48))) (fun _ i => 1 - (intOf i).toNat)
  case atStart => exact .inl ⟨rfl, rfl⟩
  case round =>
    rcases hrel with ⟨rfl, rfl⟩ | ⟨rfl, rfl⟩
    · go_wp2
      go_round
      case rel => exact .inr ⟨by go_num, by go_num⟩
      case measure => simp [intOf]
    · go_wp2
      go_ret
      exact ⟨rfl, hb2⟩
set_option maxRecDepth 100000 in
theorem number_long (s : List UInt8) (w : World) (hs : 3 < s.length) : ∃ c t, s = c :: t ∧ (((c.toNat : Int) == 48) = false → Calls Tryz.prog 14 #[.string (bs s)] w fun e w' => e = .returned (.int .i64 0) ∧ Below w.heap.size w w') := by
  obtain ⟨c, t, rfl⟩ : ∃ c t, s = c :: t := by
    cases s with
    | nil => simp at hs
    | cons c t => exact ⟨c, t, rfl⟩
  refine ⟨c, t, rfl, fun d0 => ?_⟩
  have hx : (bs (c :: t))[0]'(by rw [bs_size]; simp) = c := rfl
  simp only [List.length_cons] at hs
  go_enter Tryz.func14, Tryz.ntmps14
  go_wp2
  go_ret
  exact ⟨rfl, Below.refl _ _⟩

set_option maxRecDepth 100000 in
set_option maxHeartbeats 1000000 in
theorem partial_any (s : List UInt8) (p n : Int) (w : World) (hs : s.length ≤ 1099511627776) : Calls Tryz.prog 8 #[.string (bs s), .int .i64 p, .int .i64 n] w fun e w' => e = .returned (.string (bs (partialL s p n))) ∧ w = w' := by
  obtain ⟨R, hR⟩ : ∃ R, partialL s p n = R := ⟨_, rfl⟩
  rw [hR]
  have HR := Lib.hid hR
  clear hR
  by_cases h1 : p < 0
  · have e := HR.out
    unfold partialL at e
    rw [if_pos (.inl h1)] at e
    subst e
    go_enter Tryz.func8, Tryz.ntmps8
    go_wp2
    go_ret
    exact ⟨rfl, rfl⟩
  · by_cases h2 : (s.length : Int) ≤ p
    · have e := HR.out
      unfold partialL at e
      rw [if_pos (.inr (.inl h2))] at e
      subst e
      go_enter Tryz.func8, Tryz.ntmps8
      go_wp2
      go_ret
      exact ⟨rfl, rfl⟩
    · by_cases h3 : n < 0
      · have e := HR.out
        unfold partialL at e
        rw [if_pos (.inr (.inr h3))] at e
        subst e
        go_enter Tryz.func8, Tryz.ntmps8
        go_wp2
        go_ret
        exact ⟨rfl, rfl⟩
      · have e := HR.out
        unfold partialL at e
        rw [if_neg (by omega)] at e
        obtain ⟨P, rfl⟩ : ∃ P : Nat, p = P := ⟨p.toNat, by omega⟩
        obtain ⟨N, rfl⟩ : ∃ N : Nat, n = N := ⟨n.toNat, by omega⟩
        simp only [Int.toNat_natCast] at e
        have hPl : P ≤ s.length := by omega
        have r1 := run_from s P hPl
        have hd : (s.drop P).length = s.length - P := by simp
        obtain ⟨k, hk, hkl⟩ : ∃ k : Nat, min (N : Int) ((s.length : Int) - P) = k ∧ k ≤ (s.drop P).length := ⟨min N (s.length - P), by omega, by omega⟩
        have r2 := run_to (s.drop P) k hkl
        have ek : (s.drop P).take k = R := by
          rw [← e]
          rcases Nat.le_total N (s.length - P) with h | h
          · have : k = N := by omega
            rw [this]
          · rw [List.take_of_length_le (by omega), List.take_of_length_le (by omega)]
        rw [ek] at r2
        have EK := Lib.hid ek
        clear ek e
        go_enter Tryz.func8, Tryz.ntmps8
        go_wp2
        go_ret
        exact ⟨rfl, rfl⟩

end Go.Proofs.YtgkbigbekmkobaaGreatDoor
