/- The reference's Decode. -/
import Derived.Test.YtcjnpklmfcbofaaDoorQ8
set_option linter.unusedVariables false
set_option linter.unusedSimpArgs false
namespace Go.Proofs.YtcjnpklmfcbofaaDoor
open Go.RowKit

theorem decR_at {s : List UInt8} {k : Nat} {c : UInt8} (hk : k + 1 < s.length) (hc : s[k]'(by omega) = c) : decR (bg s k) (s.drop k) = if bg s k && looks (s.drop k) then (if c == 62 then decR (bg s (k + 1)) (s.drop (k + 1)) else none) else (decR (bg s (k + 1)) (s.drop (k + 1))).map (c :: ·) := by
  have e : s.drop k = c :: s.drop (k + 1) := by rw [List.drop_eq_getElem_cons (by omega), hc]
  have hb : bg s (k + 1) = (c == 10) := by
    unfold bg
    rw [Nat.add_sub_cancel, List.getElem?_eq_getElem (by omega), hc, Bool.eq_iff_iff]
    simp
  have hr : s.drop (k + 1) ≠ [] := by intro h; have := congrArg List.length h; simp at this; omega
  rw [hb]
  conv => lhs; rw [e, decR_cons, if_neg hr, ← e]
  by_cases h : (bg s k && looks (s.drop k)) = true
  · rw [if_pos h, if_pos h]
    by_cases h6 : (c == 62) = true
    · rw [if_pos h6, if_pos h6]
      rw [show c = 62 by simpa using h6]; rfl
    · rw [if_neg h6, if_neg h6]
  · rw [if_neg h, if_neg h]
    cases decR (c == 10) (s.drop (k + 1)) <;> rfl

theorem headM_drop {s : List UInt8} {k : Nat} {c : UInt8} (hk : k < s.length) (hc : s[k] = c) : headM (s.drop k) = (c == 62) := by
  rw [List.drop_eq_getElem_cons hk, hc]; rfl

theorem ne_byte {c d : UInt8} {n : Int} (hn : (d.toNat : Int) = n) (h : c ≠ d) : ((c.toNat : Int) == n) = false := by
  subst hn
  simp
  intro e
  exact h (UInt8.toNat_inj.1 (by omega))

theorem refDecode_short (l : List UInt8) (w : World) (hs : l.length ≤ 100000000) (hl : ¬ ∃ m, l = m ++ [10]) : Calls Tryd.prog 14 #[.string (bs l)] w fun e w' => e = .returned (.tuple #[.string (bs []), .bool false]) ∧ Below w.heap.size w w' := by
  by_cases h0 : l = []
  · subst h0
    clear hl
    go_enter Tryd.func14, Tryd.ntmps14
    go_wp2
    go_ret2
    exact ⟨rfl, Below.refl _ _⟩
  · obtain ⟨n, hn⟩ : ∃ n, l.length = n + 1 := ⟨l.length - 1, by have := List.length_pos_iff.2 h0; omega⟩
    have hlt : n < l.length := by omega
    obtain ⟨c, hc⟩ : ∃ c, (bs l)[n]'(by rw [bs_size]; exact hlt) = c := ⟨_, rfl⟩
    have hne : c ≠ 10 := by
      rintro rfl
      refine hl ⟨l.take n, ?_⟩
      conv => lhs; rw [← List.take_append_drop n l]
      rw [List.drop_eq_getElem_cons (by omega), List.drop_eq_nil_of_le (by omega), show l[n]'(by omega) = 10 from hc]
    have hnb : ((c.toNat : Int) != 10) = true := by rw [bne, ne_byte (d := 10) (n := 10) rfl hne]; rfl
    have e1 : (l.length : Int) - 1 = (n : Int) := by omega
    have hz : ((l.length : Int) == 0) = false := by rw [beq_eq_false_iff_ne]; omega
    clear hl h0 hn hne
    go_enter Tryd.func14, Tryd.ntmps14
    go_wp2
    go_ret2
    exact ⟨rfl, Below.refl _ _⟩

set_option maxRecDepth 100000 in
set_option maxHeartbeats 2000000 in
theorem refDecode_any (l : List UInt8) (n : Nat) (w : World) (hs : l.length ≤ 100000000) (hn : l.length = n + 1) (h10 : l[n]? = some 10) : Calls Tryd.prog 14 #[.string (bs l)] w fun e w' => e = .returned (.tuple #[.string (bs ((decR true l).getD [])), .bool (decR true l).isSome]) ∧ Below w.heap.size w w' := by
  have hlt : n < l.length := by omega
  have hc : (bs l)[n]'(by rw [bs_size]; exact hlt) = 10 := (List.getElem?_eq_some_iff.1 h10).2
  have e1 : (l.length : Int) - 1 = (n : Int) := by omega
  have hz : ((l.length : Int) == 0) = false := by rw [beq_eq_false_iff_ne]; omega
  have hd0 : decR (bg l n) (l.drop n) = some [] := by
    rw [List.drop_eq_getElem_cons hlt, List.drop_eq_nil_of_le (show l.length ≤ n + 1 by omega)]; rfl
  obtain ⟨R, hR⟩ : ∃ R, decR true l = R := ⟨_, rfl⟩
  rw [hR]
  have HR := Lib.hid hR
  have HD := Lib.hid hd0
  have HN := Lib.hid hn
  clear hR hd0 hn h10
  go_enter Tryd.func14, Tryd.ntmps14
  go_wp2
  go_loopw [4, 5, 6] (fun out i _ wr => ∃ (k : Nat) (acc : List UInt8), k ≤ n ∧ i = .int .i64 k ∧ OwnB wr w.heap.size out acc ∧ Hid ((decR (bg l k) (l.drop k)).map (acc ++ ·) = R) ∧ acc.length ≤ k ∧ Below w.heap.size w wr) (fun _ i _ _ => n - (intOf i).toNat)
  case atStart => exact ⟨0, [], Nat.zero_le _, rfl, World.ownsRow_lit w #[] 0 (Nat.le_refl _) (by decide) rfl, by show _ = _; simpa [bg] using HR.out, by simp, (Below.refl _ _).alloc (Nat.le_refl _) _⟩
  case round =>
    obtain ⟨k, acc, hk, rfl, hown, hacc, hal, hB⟩ := hrel
    have hzr := hB.size
    by_cases hkn : k < n
    · have hlk : k < l.length := by omega
      obtain ⟨c, hck⟩ : ∃ c, (bs l)[k]'(by rw [bs_size]; exact hlk) = c := ⟨_, rfl⟩
      have hst := decR_at (s := l) (k := k) (c := c) (by omega) hck
      have hm0 := marks_zero (l.drop k)
      have hm1 := marks_pos (l.drop k)
      unfold sepB at hm0
      unfold quotedB at hm1
      rw [headM_drop hlk hck] at hm0 hm1
      obtain ⟨b, hb⟩ : ∃ b, bg l k = b := ⟨_, rfl⟩
      obtain ⟨L, hL⟩ : ∃ L, looks (l.drop k) = L := ⟨_, rfl⟩
      obtain ⟨M, hM⟩ : ∃ M, marksL (l.drop k) = M := ⟨_, rfl⟩
      have hacc' := hacc.out
      rw [hst, hb, hL] at hacc'
      rw [hL, hM] at hm0 hm1
      have HA := Lib.hid hacc'
      have HB := Lib.hid hb
      have HM := Lib.hid hM
      clear hst hacc' hacc hb hL hM
      go_wp2_with fail
      refine (begins_any l k _ hlk (by omega)).mono ?_
      rintro e w' ⟨rfl, rfl⟩
      rw [show decide (k = 0 ∨ l[k - 1]? = some 10) = b from HB.out]
      cases b
      · go_wp2_with (at_builtin; refine app_byte _ w.heap.size _ _ c _ rfl hown hzr (by omega) rfl _ _ rfl rfl rfl ?_; intro v' w2 own2 ap2)
        go_roundw
        case rel => exact ⟨k + 1, acc ++ [c], by omega, by go_num, own2, by show _ = _; rw [← HA.out]; simp [Function.comp_def], by simp; omega, ap2.below _ _ (Nat.le_refl _) hB⟩
        case measure => simp [intOf]; omega
      · go_wp2_with fail
        refine (marks_any l k _ (by omega) (by omega)).mono ?_
        rintro e w' ⟨rfl, rfl⟩
        rw [HM.out]
        cases L
        · have hz0 : (M == 0) = false := by simp at hm0 ⊢; omega
          have hp0 : decide (0 < M) = false := by simp at hm1 ⊢; omega
          clear hm0 hm1
          go_wp2_with (at_builtin; refine app_byte _ w.heap.size _ _ c _ rfl hown hzr (by omega) rfl _ _ rfl rfl rfl ?_; intro v' w2 own2 ap2)
          go_roundw
          case rel => exact ⟨k + 1, acc ++ [c], by omega, by go_num, own2, by show _ = _; rw [← HA.out]; simp [Function.comp_def], by simp; omega, ap2.below _ _ (Nat.le_refl _) hB⟩
          case measure => simp [intOf]; omega
        · by_cases h62 : c = 62
          · have hz0 : (M == 0) = false := by simp [h62] at hm0 hm1 ⊢; omega
            have hp0 : decide (0 < M) = true := by simp [h62] at hm1 ⊢; omega
            have hA := HA.out
            rw [h62] at hA
            have HA2 := Lib.hid hA
            clear hm0 hm1 hA h62
            go_wp2
            go_roundw
            case rel => exact ⟨k + 1, acc, by omega, by go_num, hown, by show _ = _; rw [← HA2.out]; rfl, by omega, hB⟩
            case measure => simp [intOf]; omega
          · have hz0 : (M == 0) = true := by simp [h62] at hm0 ⊢; omega
            have hR0 : R = none := by rw [← HA.out]; simp [h62]
            subst hR0
            clear hm0 hm1 h62
            go_wp2
            go_ret2
            exact ⟨rfl, hB⟩
    · obtain rfl : k = n := by omega
      have hE3 := hacc.out
      rw [HD.out] at hE3
      subst hE3
      have hcv := convert_bytes hown.bytes
      go_wp2
      go_ret2
      exact ⟨by simp, hB⟩

end Go.Proofs.YtcjnpklmfcbofaaDoor
