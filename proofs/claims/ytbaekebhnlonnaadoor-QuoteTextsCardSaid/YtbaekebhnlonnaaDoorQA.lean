/- The statements' example of layer 3; the law QuoteLines. -/
import Derived.Test.YtbaekebhnlonnaaDoorQ6
import Derived.Test.YtbaekebhnlonnaaDoorQ7
set_option linter.unusedVariables false
set_option linter.unusedSimpArgs false
namespace Go.Proofs.YtbaekebhnlonnaaDoor
open Go.RowKit

theorem alive_any (w : World) : Calls Tryd.prog 8 #[] w fun e w' => e = .returned (.bool true) ∧ Below w.heap.size w w' := by
  have h1 : ∀ x ∈ linesOf ([120, 10] ++ [10]), sepB x = false := by decide
  have H1 := Lib.hid h1
  clear h1
  go_enter Tryd.func8, Tryd.ntmps8
  go_wp2_with fail
  refine (decode_good [120, 10] _ (by decide) H1.out).mono ?_
  rintro e w1 ⟨rfl, hb1⟩
  rw [show decodeL [120, 10] = [120, 10] from by decide]
  go_wp2_with fail
  refine (encode_any [70, 114, 111, 109, 32, 97, 10, 62, 70, 114, 111, 109, 32, 98] _ (by decide)).mono ?_
  rintro e w2 ⟨rfl, hb2⟩
  rw [show encodeL [70, 114, 111, 109, 32, 97, 10, 62, 70, 114, 111, 109, 32, 98] = [62, 70, 114, 111, 109, 32, 97, 10, 62, 62, 70, 114, 111, 109, 32, 98, 10] from by decide]
  go_wp2
  go_ret
  exact ⟨rfl, hb1.trans (hb2.mono hb1.size)⟩

theorem marks_no {l : List UInt8} (h : looks l = false) : marksL l = -1 := by unfold marksL; rw [h]; rfl

set_option maxRecDepth 100000 in
set_option maxHeartbeats 1000000 in
theorem quoteLines_list (l : List UInt8) (w : World) : Calls Tryd.prog 3 #[.string (bs l)] w fun e w' => e = .returned (.bool true) ∧ Below w.heap.size w w' := by
  by_cases hl : l.length ≤ 5000
  · have hm := marks_any l 0
    rw [List.drop_zero] at hm
    have hcat : (⟨#[62]⟩ ++ bs l : ByteArray) = bs (62 :: l) := bs_append [62] l
    obtain ⟨L, hL⟩ : ∃ L, looks l = L := ⟨_, rfl⟩
    obtain ⟨D, hD⟩ : ∃ D, headM l = D := ⟨_, rfl⟩
    have h0 := marks_zero l
    have h1 := marks_pos l
    have hs : sepB l = (L && !D) := by unfold sepB; rw [hL, hD]
    have hq : quotedB l = (L && D) := by unfold quotedB; rw [hL, hD]
    rw [hs] at h0
    rw [hq] at h1
    have hqt : quoteL l = if L then 62 :: l else l := by unfold quoteL; rw [hL]
    have hut : unquoteL l = if L && D then l.tail else l := by unfold unquoteL; rw [hq]
    have HM := Lib.hid hm
    have HS := Lib.hid hs
    have HQ := Lib.hid hq
    have HT := Lib.hid hqt
    have HU := Lib.hid hut
    clear hm hs hq hqt hut
    cases L
    · obtain hmm := marks_no hL
      have HMM := Lib.hid hmm
      clear h0 h1 hL hD hmm hcat
      go_enter Tryd.func3, Tryd.ntmps3
      go_wp2_with fail
      refine (alive_any _).mono ?_
      rintro e w1 ⟨rfl, hb1⟩
      go_wp2_with fail
      refine (HM.out w1 (Nat.zero_le _) (by omega)).mono ?_
      rintro e w' ⟨rfl, rfl⟩
      rw [HMM.out]
      go_wp2_with fail
      refine (looks_any l _ (by omega)).mono ?_
      rintro e w' ⟨rfl, rfl⟩
      rw [HS.out, HQ.out]
      go_wp2_with fail
      refine (quote_any l _ (by omega)).mono ?_
      rintro e w' ⟨rfl, rfl⟩
      rw [HT.out]
      go_wp2_with fail
      refine (unquote_any l _ (by omega)).mono ?_
      rintro e w' ⟨rfl, rfl⟩
      rw [HU.out]
      go_wp2
      go_ret
      exact ⟨rfl, hb1⟩
    · obtain ⟨M, hM⟩ : ∃ M, marksL l = M := ⟨_, rfl⟩
      rw [hM] at h0 h1
      have HMM := Lib.hid hM
      clear hM hL
      cases D
      · obtain rfl : M = 0 := by simpa using h0
        clear h0 h1 hD
        go_enter Tryd.func3, Tryd.ntmps3
        go_wp2_with fail
        refine (alive_any _).mono ?_
        rintro e w1 ⟨rfl, hb1⟩
        go_wp2_with fail
        refine (HM.out w1 (Nat.zero_le _) (by omega)).mono ?_
        rintro e w' ⟨rfl, rfl⟩
        rw [HMM.out]
        go_wp2_with fail
        refine (looks_any l _ (by omega)).mono ?_
        rintro e w' ⟨rfl, rfl⟩
        rw [HS.out, HQ.out]
        go_wp2_with fail
        refine (quote_any l _ (by omega)).mono ?_
        rintro e w' ⟨rfl, rfl⟩
        rw [HT.out]
        go_wp2_with fail
        refine (unquote_any l _ (by omega)).mono ?_
        rintro e w' ⟨rfl, rfl⟩
        rw [HU.out]
        go_wp2
        go_ret
        exact ⟨rfl, hb1⟩
      · have hpos : 0 < M := by simpa using h1
        have hz : (M == 0) = false := by rw [beq_eq_false_iff_ne]; omega
        obtain ⟨r, rfl⟩ := (headM_iff l).1 hD
        have hr1 : (bs (62 :: r)).extract 1 (r.length + 1) = bs r := bs_drop (62 :: r) 1 (r.length + 1) (by simp)
        have hl2 : (r.length : Int) + 1 ≤ 5000 := by simp at hl; omega
        clear h0 hD h1
        go_enter Tryd.func3, Tryd.ntmps3
        go_wp2_with fail
        refine (alive_any _).mono ?_
        rintro e w1 ⟨rfl, hb1⟩
        go_wp2_with fail
        refine (HM.out w1 (Nat.zero_le _) (by omega)).mono ?_
        rintro e w' ⟨rfl, rfl⟩
        rw [HMM.out]
        go_wp2_with fail
        refine (looks_any (62 :: r) _ (by omega)).mono ?_
        rintro e w' ⟨rfl, rfl⟩
        rw [HS.out, HQ.out]
        go_wp2_with fail
        refine (quote_any (62 :: r) _ (by omega)).mono ?_
        rintro e w' ⟨rfl, rfl⟩
        rw [HT.out]
        go_wp2_with fail
        refine (unquote_any (62 :: r) _ (by omega)).mono ?_
        rintro e w' ⟨rfl, rfl⟩
        rw [HU.out]
        go_wp2
        go_ret
        exact ⟨rfl, hb1⟩
  · have hl' : 5000 < l.length := by omega
    go_enter Tryd.func3, Tryd.ntmps3
    go_wp2_with fail
    refine (alive_any _).mono ?_
    rintro e w1 ⟨rfl, hb1⟩
    go_wp2
    go_ret
    exact ⟨rfl, hb1⟩

theorem quoteLines_any (s : ByteArray) (w : World) (_ : s.size ≤ 9223372036854775807) : Calls Tryd.prog 3 #[.string s] w fun e w' => e = .returned (.bool true) ∧ Below w.heap.size w w' :=
  quoteLines_list s.data.toList w

end Go.Proofs.YtbaekebhnlonnaaDoor
