/- answer.small: the walk. -/
import Derived.Test.YthnkgifbbemhfaaGreatDoorLw
set_option linter.unusedVariables false
set_option linter.unusedSimpArgs false
namespace Go.Proofs.YthnkgifbbemhfaaGreatDoor
open Go.RowKit

set_option maxRecDepth 100000 in
set_option maxHeartbeats 1000000 in
theorem ansSmall_any (l : List UInt8) (w : World) (hl : l.length ≤ 1099511627776) : Calls Tryz.prog 30 #[.string (bs l)] w fun e w' => e = .returned (.string (bs (lowL l))) ∧ Below w.heap.size w w' := by
  obtain ⟨cap, z, w2, hconv, hbuf, hb2, hlt2⟩ := to_buf l w
  obtain ⟨g, hg⟩ : ∃ g, w.heap.size = g := ⟨_, rfl⟩
  rw [hg] at hconv hbuf
  go_enter Tryz.func30, Tryz.ntmps30
  go_wp2
  clear hconv
  go_loopw [10] (fun i wr => ∃ k : Nat, k ≤ l.length ∧ i = .int .i64 k ∧ BufAt wr g z (lowL (l.take k) ++ l.drop k) ∧ Below w.heap.size w wr) (fun i _ => l.length - (intOf i).toNat)
  case atStart => exact ⟨0, Nat.zero_le _, rfl, by simpa [lowL] using hbuf, hb2⟩
  case round =>
    obtain ⟨k, hk, rfl, hbuf, hB⟩ := hrel
    by_cases hlt : k < l.length
    · obtain ⟨hck, hfk⟩ := hbuf.cell (i := k) (by rw [low_len]; exact hlt)
      rw [low_at l k hlt] at hck
      obtain ⟨c, hc⟩ : ∃ c, l.getD k 0 = c := ⟨_, rfl⟩
      rw [hc] at hck
      have hst := low_step l k hlt c hc
      have HST := Lib.hid hst
      have hlt' : (k : Int) < l.length := by omega
      have HC' := Lib.hid hc
      clear hc hst
      by_cases ho : 65 ≤ c.toNat ∧ c.toNat ≤ 90
      · obtain ⟨o1, o2⟩ := ho
        have hset := hbuf.set (i := k) (by rw [low_len]; exact hlt) (lowB c) ((c.toNat : Int) + 32) (lowB_num o1 o2).symm
        rw [HST.out] at hset
        have p1 : (65 : Int) ≤ c.toNat := by omega
        have p2 : (c.toNat : Int) ≤ 90 := by omega
        have HS := Lib.hid hset
        clear hset hbuf o1 o2
        go_wp2
        go_roundw
        case rel =>
          refine ⟨k + 1, by omega, by go_num, ?_, ?_⟩
          · rw [show (c.toNat : Int) + 97 - 65 = (c.toNat : Int) + 32 by omega]
            exact HS.out
          · exact below_set hB (by omega) _ _
        case measure => simp [intOf]; omega
      · have hu : lowB c = c := lowB_no ho
        have hsame := low_same l k hlt c HC'.out hu
        rw [← hsame] at hbuf
        have HB := Lib.hid hbuf
        have ho' : (c.toNat : Int) < 65 ∨ 65 ≤ (c.toNat : Int) ∧ 90 < (c.toNat : Int) := by omega
        clear hsame hbuf ho hu
        rcases ho' with ho | ⟨ho, ho'⟩
        all_goals
          go_wp2
          go_roundw
          case rel => exact ⟨k + 1, by omega, by go_num, HB.out, hB⟩
          case measure => simp [intOf]; omega
    · obtain rfl : k = l.length := by omega
      rw [List.take_length, List.drop_length, List.append_nil] at hbuf
      have hlen : (lowL l).length = l.length := by simp [lowL]
      have hv : BytesAt wr (.slice (some ⟨g, 0, none⟩) l.length cap) (lowL l) := by
        refine Or.inr ⟨g, 0, cap, by rw [hlen], fun i hi => ?_⟩
        rw [Nat.zero_add]
        exact (hbuf.cell hi).1
      have hcv := convert_bytes hv
      clear hv hlen hbuf
      go_wp2
      go_ret
      exact ⟨rfl, hB⟩

end Go.Proofs.YthnkgifbbemhfaaGreatDoor
