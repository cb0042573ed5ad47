/- section's reference: Digits. -/
import Derived.Test.YtgkbigbekmkobaaDoorKB
set_option linter.unusedVariables false
set_option linter.unusedSimpArgs false
namespace Go.Proofs.YtgkbigbekmkobaaDoor
open Go.RowKit

/-- the digits of a number -/
def digitsF : Nat → Nat → List UInt8
  | 0, _ => []
  | f + 1, n => if n < 10 then [UInt8.ofNat (48 + n)] else digitsF f (n / 10) ++ [UInt8.ofNat (48 + n % 10)]
def digitsL (n : Nat) : List UInt8 := digitsF 20 n

theorem byte_str (w : World) (k : Nat) (hk : k < 256) : (convert 23 9 (.slice (some ⟨w.heap.size, 0, none⟩) 1 1)).run Tryd.prog (w.alloc (.cells #[.int .u8 (k : Int)] 5)) = .ok (.string (bs [UInt8.ofNat k])) (w.alloc (.cells #[.int .u8 (k : Int)] 5)) := by
  have hv : BytesAt (w.alloc (.cells #[.int .u8 (k : Int)] 5)) (.slice (some ⟨w.heap.size, 0, none⟩) 1 1) [UInt8.ofNat k] := by
    refine Or.inr ⟨w.heap.size, 0, 1, rfl, fun i hi => ?_⟩
    obtain rfl : i = 0 := by simp at hi; omega
    simp only [World.cell?, heap_new]
    simp [UInt8.toNat_ofNat', Nat.mod_eq_of_lt hk]
  exact convert_bytes hv

set_option maxRecDepth 100000 in
set_option maxHeartbeats 1000000 in
theorem digits_any (n : Nat) (w : World) (hn : n < 10000) : Calls Tryd.prog 30 #[.int .i64 n] w fun e w' => e = .returned (.string (bs (digitsL n))) ∧ Below w.heap.size w w' := by
  obtain ⟨D, hD⟩ : ∃ D, digitsL n = D := ⟨_, rfl⟩
  rw [hD]
  have HD := Lib.hid hD
  clear hD
  go_enter Tryd.func30, Tryd.ntmps30
  go_wp2
  go_loopw [0, 3] (fun x0 x3 wr => ∃ (f m : Nat) (r : List UInt8), x0 = .int .i64 m ∧ x3 = .string (bs r) ∧ m < 10000 ∧ m < 10 ^ f ∧ r.length + f ≤ 19 ∧ Hid (digitsF (f + 1) m ++ r = D) ∧ Below w.heap.size w wr) (fun x0 _ _ => (intOf x0).toNat)
  case atStart => exact ⟨19, n, [], rfl, rfl, hn, by omega, by simp, by show _ = _; rw [← HD.out]; simp [digitsL], Below.refl _ _⟩
  case round =>
    obtain ⟨f, m, r, rfl, rfl, hm, hf, hrf, hd, hB⟩ := hrel
    have hzr := hB.size
    by_cases h9 : 9 < m
    · have h9' : (9 : Int) < m := by omega
      obtain ⟨f, rfl⟩ : ∃ f', f = f' + 1 := by
        cases f with
        | zero => simp at hf; omega
        | succ f => exact ⟨f, rfl⟩
      have hcv := byte_str wr (48 + m % 10) (by omega)
      rw [show ((48 + m % 10 : Nat) : Int) = 48 + (m : Int) % 10 by omega] at hcv
      have hd2 : Hid (digitsF (f + 1) (m / 10) ++ (UInt8.ofNat (48 + m % 10) :: r) = D) := by
        show _ = _
        rw [← hd.out, show digitsF (f + 1 + 1) m = if m < 10 then [UInt8.ofNat (48 + m)] else digitsF (f + 1) (m / 10) ++ [UInt8.ofNat (48 + m % 10)] from rfl, if_neg (by omega)]
        simp
      have hf2 : m / 10 < 10 ^ f := by
        rw [Nat.pow_succ] at hf
        omega
      have HF2 := Lib.hid hf2
      obtain ⟨c, hc⟩ : ∃ c, UInt8.ofNat (48 + m % 10) = c := ⟨_, rfl⟩
      rw [hc] at hcv hd2
      have hrl : r.length ≤ 100 := by omega
      clear hc
      clear hd hf hf2
      go_wp2
      go_roundw
      case rel => exact ⟨f, m / 10, c :: r, by go_num, by rw [bs_append]; rfl, by omega, HF2.out, by simp; omega, hd2, hB.alloc hzr _⟩
      case measure => simp [intOf]; omega
    · have hcv := byte_str wr (48 + m) (by omega)
      rw [show ((48 + m : Nat) : Int) = 48 + (m : Int) by omega] at hcv
      have hd2 : Hid (UInt8.ofNat (48 + m) :: r = D) := by
        show _ = _
        rw [← hd.out, show digitsF (f + 1) m = if m < 10 then [UInt8.ofNat (48 + m)] else digitsF f (m / 10) ++ [UInt8.ofNat (48 + m % 10)] from rfl, if_pos (by omega)]
        rfl
      obtain ⟨c, hc⟩ : ∃ c, UInt8.ofNat (48 + m) = c := ⟨_, rfl⟩
      rw [hc] at hcv hd2
      have hrl : r.length ≤ 100 := by omega
      clear hd hf hc
      go_wp2
      go_ret
      exact ⟨by rw [← hd2.out]; first | rfl | (rw [bs_append]; rfl), hB.alloc hzr _⟩

end Go.Proofs.YtgkbigbekmkobaaDoor
