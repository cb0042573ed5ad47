/- The document's Digits. -/
import Derived.Test.YthnkgifbbemhfaaGreatDoorVI
import Derived.Test.YthnkgifbbemhfaaGreatDoorOb
import Derived.LoopTactic
set_option linter.unusedVariables false
set_option linter.unusedSimpArgs false
namespace Go.Proofs.YthnkgifbbemhfaaGreatDoor
open Go.RowKit Go

theorem oneByte (w : World) (c : UInt8) : (convert 83 9 (.slice (some ⟨w.heap.size, 0, none⟩) 1 1)).run Tryz.prog (w.alloc (.cells #[.int .u8 ((c.toNat : Nat) : Int)] 5)) = .ok (.string (bs [c])) (w.alloc (.cells #[.int .u8 ((c.toNat : Nat) : Int)] 5)) := by
  have h : OwnB (w.alloc (.cells #[.int .u8 ((c.toNat : Nat) : Int)] 5)) 0 (.slice (some ⟨w.heap.size, 0, none⟩) 1 1) [c] := World.ownsRow_lit (base := 0) (e := 5) (size := 1) w #[.int .u8 ((c.toNat : Nat) : Int)] 1 (Nat.zero_le _) (by unfold maxLen; omega) rfl
  exact convert_bytes h.bytes

set_option maxRecDepth 100000 in
set_option maxHeartbeats 2000000 in
theorem refDigits10_any (n : Nat) (w : World) (hn : n ≤ 1000000000) : Calls Tryz.prog 28 #[.int .i64 n] w fun e w' => e = .returned (.string (bs (Lib.decDigits n))) ∧ Below w.heap.size w w' := by
  have hdl := decq_length 10 n (by omega) (by omega)
  obtain ⟨Z, hZ⟩ : ∃ Z, Lib.decDigits n = Z := ⟨_, rfl⟩
  rw [hZ] at hdl ⊢
  have HZ := Lib.hid hZ
  clear hZ
  go_enter Tryz.func28, Tryz.ntmps28
  go_wp2
  go_loopw [0, 3] (fun v0 v3 wr => ∃ (k : Nat) (L : List UInt8), k ≤ n ∧ v0 = .int .i64 k ∧ v3 = .string (bs L) ∧ Hid (Lib.decDigits k ++ L = Z) ∧ L.length ≤ 10 ∧ Below w.heap.size w wr) (fun v0 _ _ => (intOf v0).toNat)
  case atStart => exact ⟨n, [], Nat.le_refl _, rfl, rfl, by show _ = _; rw [HZ.out, List.append_nil], by simp, Below.refl _ _⟩
  case round =>
    obtain ⟨k, L, hk, rfl, rfl, hd, hL, hB⟩ := hrel
    have hzr := hB.size
    have hlen : (Lib.decDigits k).length + L.length ≤ 10 := by rw [← List.length_append, hd.out]; exact hdl
    by_cases h9 : 9 < k
    · have h1 := hd.out
      rw [Lib.decDigits.eq_1, dif_neg (by omega)] at h1
      have hl2 := hlen
      rw [Lib.decDigits.eq_1, dif_neg (by omega)] at hl2
      simp only [List.length_append, List.length_cons, List.length_nil] at hl2
      have e9 : (48 : Int) + (k : Int) % 10 = ((48 + k % 10 : Nat) : Int) := by omega
      have hin : ((48 + k % 10 : Nat) : Int) = (((UInt8.ofNat (48 + k % 10)).toNat : Nat) : Int) := by
        rw [UInt8.toNat_ofNat']; omega
      obtain ⟨d, hdd⟩ : ∃ d, UInt8.ofNat (48 + k % 10) = d := ⟨_, rfl⟩
      rw [hdd] at hin h1
      have hcv := oneByte wr d
      have h9' : (9 : Int) < k := by omega
      have H1 : Hid (Lib.decDigits (k / 10) ++ (d :: L) = Z) := by
        show _ = _
        rw [← h1]; simp
      clear hd h1 hdd hlen
      go_wp2
      go_roundw
      case rel => exact ⟨k / 10, d :: L, by omega, by go_num, by rw [bs_append]; rfl, H1, by simp; omega, hB.alloc hzr _⟩
      case measure => simp [intOf]; omega
    · have h1 := hd.out
      rw [Lib.decDigits.eq_1, dif_pos (by omega)] at h1
      have e9 : (48 : Int) + (k : Int) = ((48 + k : Nat) : Int) := by omega
      have hin : ((48 + k : Nat) : Int) = (((UInt8.ofNat (48 + k)).toNat : Nat) : Int) := by
        rw [UInt8.toNat_ofNat']; omega
      obtain ⟨d, hdd⟩ : ∃ d, UInt8.ofNat (48 + k) = d := ⟨_, rfl⟩
      rw [hdd] at hin h1
      have hcv := oneByte wr d
      have h9' : ¬ (9 : Int) < k := by omega
      subst h1
      clear hd hdd hlen hdl
      go_wp2
      go_ret
      exact ⟨by rw [bs_append]; rfl, hB.alloc hzr _⟩

end Go.Proofs.YthnkgifbbemhfaaGreatDoor
