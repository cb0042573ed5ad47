/- The reference's Encode. -/
import Derived.Test.YtbaekebhnlonnaaDoorQ7
import Derived.Test.YtbaekebhnlonnaaDoorAp
set_option linter.unusedVariables false
set_option linter.unusedSimpArgs false
namespace Go.Proofs.YtbaekebhnlonnaaDoor
open Go.RowKit

def bg (s : List UInt8) (k : Nat) : Bool := decide (k = 0 ∨ s[k - 1]? = some 10)

theorem encR_at {s : List UInt8} {k : Nat} {c : UInt8} (hk : k < s.length) (hc : s[k] = c) : encR (bg s k) (s.drop k) = (if bg s k && looks (s.drop k) then [62] else []) ++ c :: encR (bg s (k + 1)) (s.drop (k + 1)) := by
  have e : s.drop k = c :: s.drop (k + 1) := by rw [List.drop_eq_getElem_cons hk, hc]
  have hb : bg s (k + 1) = (c == 10) := by
    unfold bg
    rw [Nat.add_sub_cancel, List.getElem?_eq_getElem hk, hc, Bool.eq_iff_iff]
    simp
  rw [hb]
  conv => lhs; rw [e, encR_cons, ← e]

set_option maxRecDepth 100000 in
set_option maxHeartbeats 2000000 in
theorem refEncode_any (s : List UInt8) (w : World) (hs : s.length ≤ 100000000) : Calls Tryd.prog 15 #[.string (bs s)] w fun e w' => e = .returned (.string (bs (encodeL s))) ∧ Below w.heap.size w w' := by
  obtain ⟨E, hE⟩ : ∃ E, encR true s = E := ⟨_, rfl⟩
  have hE2 : encodeL s = E ++ [10] := by unfold encodeL; rw [← encR_eq, hE]
  rw [hE2]
  have HE := Lib.hid hE
  clear hE hE2
  go_enter Tryd.func15, Tryd.ntmps15
  go_wp2
  go_loopw [3, 4] (fun out i wr => ∃ (k : Nat) (acc : List UInt8), k ≤ s.length ∧ i = .int .i64 k ∧ OwnB wr w.heap.size out acc ∧ Hid (acc ++ encR (bg s k) (s.drop k) = E) ∧ acc.length ≤ 2 * k ∧ Below w.heap.size w wr) (fun _ i _ => s.length - (intOf i).toNat)
  case atStart => exact ⟨0, [], Nat.zero_le _, rfl, World.ownsRow_lit w #[] 0 (Nat.le_refl _) (by decide) rfl, by show _ = _; simpa [bg] using HE.out, by simp, (Below.refl _ _).alloc (Nat.le_refl _) _⟩
  case round =>
    obtain ⟨k, acc, hk, rfl, hown, hacc, hal, hB⟩ := hrel
    have hzr := hB.size
    by_cases hlt : k < s.length
    · obtain ⟨c, hc⟩ : ∃ c, (bs s)[k]'(by rw [bs_size]; exact hlt) = c := ⟨_, rfl⟩
      have hst := encR_at hlt hc
      have hms := marks_some (s.drop k)
      obtain ⟨b, hb⟩ : ∃ b, bg s k = b := ⟨_, rfl⟩
      obtain ⟨L, hL⟩ : ∃ L, looks (s.drop k) = L := ⟨_, rfl⟩
      obtain ⟨M, hM⟩ : ∃ M, marksL (s.drop k) = M := ⟨_, rfl⟩
      have hacc' := hacc.out
      rw [hst, hb, hL] at hacc'
      rw [hL, hM] at hms
      have HA := Lib.hid hacc'
      have HB := Lib.hid hb
      have HM := Lib.hid hM
      clear hst hacc' hacc hb hL hM
      go_wp2_with fail
      refine (begins_any s k _ hlt (by omega)).mono ?_
      rintro e w' ⟨rfl, rfl⟩
      rw [show decide (k = 0 ∨ s[k - 1]? = some 10) = b from HB.out]
      cases b
      · go_wp2_with (at_builtin; refine app_byte _ w.heap.size _ _ c _ rfl hown hzr (by omega) rfl _ _ rfl rfl rfl ?_; intro v' w2 own2 ap2)
        go_roundw
        case rel => exact ⟨k + 1, acc ++ [c], by omega, by go_num, own2, by show _ = _; rw [← HA.out]; simp, by simp; omega, ap2.below _ _ (Nat.le_refl _) hB⟩
        case measure => simp [intOf]; omega
      · go_wp2_with fail
        refine (marks_any s k _ (by omega) (by omega)).mono ?_
        rintro e w' ⟨rfl, rfl⟩
        rw [HM.out]
        cases L
        · have hneg : decide (0 ≤ M) = false := by simp at hms; simp; omega
          clear hms
          go_wp2_with (at_builtin; refine app_byte _ w.heap.size _ _ c _ rfl hown hzr (by omega) rfl _ _ rfl rfl rfl ?_; intro v' w2 own2 ap2)
          go_roundw
          case rel => exact ⟨k + 1, acc ++ [c], by omega, by go_num, own2, by show _ = _; rw [← HA.out]; simp, by simp; omega, ap2.below _ _ (Nat.le_refl _) hB⟩
          case measure => simp [intOf]; omega
        · have hpos : decide (0 ≤ M) = true := by simp at hms; simpa using hms
          clear hms
          go_wp2_with (first | (at_builtin; refine app_byte _ w.heap.size _ _ 62 _ rfl hown hzr (by omega) rfl _ _ rfl rfl rfl ?_; intro v' w2 own2 ap2; have hz2 := Nat.le_trans hzr ap2.size; have hl2 : (acc ++ [62]).length ≤ 2 * k + 1 := by simp; omega) | (at_builtin; refine app_byte _ w.heap.size _ _ c _ rfl own2 hz2 (by omega) rfl _ _ rfl rfl rfl ?_; intro v3 w3 own3 ap3))
          go_roundw
          case rel => exact ⟨k + 1, (acc ++ [62]) ++ [c], by omega, by go_num, own3, by show _ = _; rw [← HA.out]; simp, by simp; omega, ap3.below _ _ (Nat.le_refl _) (ap2.below _ _ (Nat.le_refl _) hB)⟩
          case measure => simp [intOf]; omega
    · obtain rfl : k = s.length := by omega
      have hE3 : acc = E := by have := hacc.out; rw [List.drop_length] at this; simpa [encR] using this
      subst hE3
      go_wp2_with (at_builtin; refine app_byte _ w.heap.size _ _ 10 _ rfl hown hzr (by omega) rfl _ _ rfl rfl rfl ?_; intro v' w2 own2 ap2; have hcv := convert_bytes own2.bytes)
      go_ret
      exact ⟨rfl, ap2.below _ _ (Nat.le_refl _) hB⟩

end Go.Proofs.YtbaekebhnlonnaaDoor
