/- section's reference: Name, large. -/
import Derived.Test.YtgkbigbekmkobaaDoorK9
set_option linter.unusedVariables false
set_option linter.unusedSimpArgs false
namespace Go.Proofs.YtgkbigbekmkobaaDoor
open Go.RowKit

/-- a byte that the document's names do not hold -/
def refBad (c : UInt8) : Bool := decide ((c.toNat : Int) < 33) || decide (126 < (c.toNat : Int)) || ((c.toNat : Int) == 40) || ((c.toNat : Int) == 41) || ((c.toNat : Int) == 58) || ((c.toNat : Int) == 34) || ((c.toNat : Int) == 123) || ((c.toNat : Int) == 92)
def refName (s : List UInt8) : Bool := s.all (fun c => !refBad c) && !s.isEmpty

set_option maxRecDepth 100000 in
set_option maxHeartbeats 1000000 in
theorem refName_any (s : List UInt8) (w : World) (hl : s.length ≤ 1099511627776) : Calls Tryd.prog 29 #[.string (bs s)] w fun e w' => e = .returned (.bool (refName s)) ∧ w' = w := by
  obtain ⟨A, hA⟩ : ∃ A, refName s = A := ⟨_, rfl⟩
  rw [hA]
  have HA := Lib.hid hA
  clear hA
  go_enter Tryd.func29, Tryd.ntmps29
  go_wp2
  go_loop [3] (fun i => ∃ k : Nat, k ≤ s.length ∧ i = .int .i64 k ∧ Hid (((s.drop k).all (fun c => !refBad c) && !s.isEmpty) = A)) (fun i => s.length - (intOf i).toNat)
  case atStart => exact ⟨0, Nat.zero_le _, rfl, HA.out⟩
  case round =>
    obtain ⟨k, hk, rfl, hok⟩ := hrel
    by_cases hlt : k < s.length
    · have hlt' : (k : Int) < s.length := by omega
      obtain ⟨c, hc⟩ : ∃ c, s[k]? = some c := ⟨_, List.getElem?_eq_getElem hlt⟩
      have hx : (bs s)[k]'(by rw [bs_size]; exact hlt) = c := (List.getElem?_eq_some_iff.1 hc).2
      have hr2 := hok.out
      rw [show s.drop k = c :: s.drop (k + 1) by rw [List.drop_eq_getElem_cons hlt, (List.getElem?_eq_some_iff.1 hc).2], List.all_cons] at hr2
      have HR := Lib.hid hr2
      clear hc hr2 hok
      have fin : ∀ b, refBad c = b → (b = true → A = false) ∧ (b = false → Hid (((s.drop (k + 1)).all (fun c => !refBad c) && !s.isEmpty) = A)) := by
        intro b hb
        have := HR.out
        rw [hb] at this
        refine ⟨fun h => ?_, fun h => ?_⟩
        · rw [h] at this; simpa using this.symm
        · rw [h] at this; show _ = _; simpa using this
      have FIN := Lib.hid fin
      clear fin
      rcases h0 : decide ((c.toNat : Int) < 33) with _ | _
      case true =>
        have hA := (FIN.out true (by unfold refBad; rw [h0]; rfl)).1 rfl
        subst hA
        clear FIN HR
        go_wp2
        go_ret
        exact ⟨rfl, rfl⟩
      rcases h1 : decide (126 < (c.toNat : Int)) with _ | _
      case true =>
        have hA := (FIN.out true (by unfold refBad; rw [h0, h1]; rfl)).1 rfl
        subst hA
        clear FIN HR
        go_wp2
        go_ret
        exact ⟨rfl, rfl⟩
      rcases h2 : ((c.toNat : Int) == 40) with _ | _
      case true =>
        have hA := (FIN.out true (by unfold refBad; rw [h0, h1, h2]; rfl)).1 rfl
        subst hA
        clear FIN HR
        go_wp2
        go_ret
        exact ⟨rfl, rfl⟩
      rcases h3 : ((c.toNat : Int) == 41) with _ | _
      case true =>
        have hA := (FIN.out true (by unfold refBad; rw [h0, h1, h2, h3]; rfl)).1 rfl
        subst hA
        clear FIN HR
        go_wp2
        go_ret
        exact ⟨rfl, rfl⟩
      rcases h4 : ((c.toNat : Int) == 58) with _ | _
      case true =>
        have hA := (FIN.out true (by unfold refBad; rw [h0, h1, h2, h3, h4]; rfl)).1 rfl
        subst hA
        clear FIN HR
        go_wp2
        go_ret
        exact ⟨rfl, rfl⟩
      rcases h5 : ((c.toNat : Int) == 34) with _ | _
      case true =>
        have hA := (FIN.out true (by unfold refBad; rw [h0, h1, h2, h3, h4, h5]; rfl)).1 rfl
        subst hA
        clear FIN HR
        go_wp2
        go_ret
        exact ⟨rfl, rfl⟩
      rcases h6 : ((c.toNat : Int) == 123) with _ | _
      case true =>
        have hA := (FIN.out true (by unfold refBad; rw [h0, h1, h2, h3, h4, h5, h6]; rfl)).1 rfl
        subst hA
        clear FIN HR
        go_wp2
        go_ret
        exact ⟨rfl, rfl⟩
      rcases h7 : ((c.toNat : Int) == 92) with _ | _
      case true =>
        have hA := (FIN.out true (by unfold refBad; rw [h0, h1, h2, h3, h4, h5, h6, h7]; rfl)).1 rfl
        subst hA
        clear FIN HR
        go_wp2
        go_ret
        exact ⟨rfl, rfl⟩
      have hgo := (FIN.out false (by unfold refBad; rw [h0, h1, h2, h3, h4, h5, h6, h7]; rfl)).2 rfl
      clear FIN HR
      go_wp2
      go_round
      case rel => exact ⟨k + 1, by omega, by go_num, hgo.out⟩
      case measure => simp [intOf]; omega
    · obtain rfl : k = s.length := by omega
      have hr2 := hok.out
      rw [List.drop_length] at hr2
      have hr3 : (!s.isEmpty) = A := by rw [← hr2]; simp
      clear hok hr2
      subst hr3
      go_wp2
      go_ret
      exact ⟨by cases s <;> simp, rfl⟩

set_option maxRecDepth 100000 in
set_option maxHeartbeats 1000000 in
theorem refLarge_any (l : List UInt8) (w : World) (hl : l.length ≤ 1099511627776) : Calls Tryd.prog 23 #[.string (bs l)] w fun e w' => e = .returned (.string (bs (upL l))) ∧ Below w.heap.size w w' := by
  obtain ⟨cap, z, w2, hconv, hbuf, hb2, hlt2⟩ := to_buf l w
  obtain ⟨g, hg⟩ : ∃ g, w.heap.size = g := ⟨_, rfl⟩
  rw [hg] at hconv hbuf
  go_enter Tryd.func23, Tryd.ntmps23
  go_wp2
  clear hconv
  go_loopw [9] (fun i wr => ∃ k : Nat, k ≤ l.length ∧ i = .int .i64 k ∧ BufAt wr g z (upL (l.take k) ++ l.drop k) ∧ Below w.heap.size w wr) (fun i _ => l.length - (intOf i).toNat)
  case atStart => exact ⟨0, Nat.zero_le _, rfl, by simpa [upL] using hbuf, hb2⟩
  case round =>
    obtain ⟨k, hk, rfl, hbuf, hB⟩ := hrel
    by_cases hlt : k < l.length
    · obtain ⟨hck, hfk⟩ := hbuf.cell (i := k) (by rw [up_len]; exact hlt)
      rw [up_at l k hlt] at hck
      obtain ⟨c, hc⟩ : ∃ c, l.getD k 0 = c := ⟨_, rfl⟩
      rw [hc] at hck
      have hst := up_step l k hlt c hc
      have HST := Lib.hid hst
      have hlt' : (k : Int) < l.length := by omega
      have HC' := Lib.hid hc
      clear hc hst
      by_cases ho : 97 ≤ c.toNat ∧ c.toNat ≤ 122
      · obtain ⟨o1, o2⟩ := ho
        have hset := hbuf.set (i := k) (by rw [up_len]; exact hlt) (upB c) ((c.toNat : Int) - 32) (upB_yes o1 o2).symm
        rw [HST.out] at hset
        have p1 : (97 : Int) ≤ c.toNat := by omega
        have p2 : (c.toNat : Int) ≤ 122 := by omega
        have HS := Lib.hid hset
        clear hset hbuf o1 o2
        go_wp2
        go_roundw
        case rel => exact ⟨k + 1, by omega, by go_num, HS.out, below_set hB (by omega) _ _⟩
        case measure => simp [intOf]; omega
      · have hu : upB c = c := by unfold upB; rw [if_neg ho]
        have hsame := up_same l k hlt c HC'.out hu
        rw [← hsame] at hbuf
        have HB := Lib.hid hbuf
        have ho' : (c.toNat : Int) < 97 ∨ 97 ≤ (c.toNat : Int) ∧ 122 < (c.toNat : Int) := by omega
        clear hsame hbuf ho hu
        rcases ho' with ho | ⟨ho, ho'⟩
        all_goals
          go_wp2
          go_roundw
          case rel => exact ⟨k + 1, by omega, by go_num, HB.out, hB⟩
          case measure => simp [intOf]; omega
    · obtain rfl : k = l.length := by omega
      rw [List.take_length, List.drop_length, List.append_nil] at hbuf
      have hlen : (upL l).length = l.length := by simp [upL]
      have hv : BytesAt wr (.slice (some ⟨g, 0, none⟩) l.length cap) (upL l) := by
        refine Or.inr ⟨g, 0, cap, by rw [hlen], fun i hi => ?_⟩
        rw [Nat.zero_add]
        exact (hbuf.cell hi).1
      have hcv := convert_bytes hv
      clear hv hlen hbuf
      go_wp2
      go_ret
      exact ⟨rfl, hB⟩

end Go.Proofs.YtgkbigbekmkobaaDoor
