/- The law QuoteTexts. -/
import Derived.Test.YtbaekebhnlonnaaDoorQB
import Derived.Test.YtbaekebhnlonnaaDoorQ9
set_option linter.unusedVariables false
set_option linter.unusedSimpArgs false
namespace Go.Proofs.YtbaekebhnlonnaaDoor
open Go.RowKit

theorem ends_nl (l : List UInt8) : (∃ m, l = m ++ [10]) ∨ ¬ ∃ m, l = m ++ [10] := Classical.em _

set_option maxRecDepth 100000 in
set_option maxHeartbeats 1000000 in
theorem quoteTexts_list (l : List UInt8) (w : World) (a : Nat → Addr) (hE : Errs w a) : Calls Tryd.prog 7 #[.string (bs l)] w fun e w' => e = .returned (.bool true) ∧ Below w.heap.size w w' := by
  have HEr := Lib.hid hE
  clear hE
  by_cases hl : l.length ≤ 20000
  · rcases ends_nl l with ⟨m, rfl⟩ | hno
    · have hml : m.length + 1 ≤ 20000 := by simpa using hl
      have hdq := decR_eq m
      by_cases hs : (linesOf (m ++ [10])).any sepB = true
      · rw [if_pos hs] at hdq
        have hex : ∃ x ∈ linesOf (m ++ [10]), sepB x = true := by simpa using hs
        have HX := Lib.hid hex
        have HD := Lib.hid hdq
        clear hs hdq hex
        go_enter Tryd.func7, Tryd.ntmps7
        go_wp2_with fail
        refine (alive_any _).mono ?_
        rintro e w1 ⟨rfl, hb1⟩
        have hE1 := HEr.out.below hb1
        have HE1 := Lib.hid hE1
        clear hE1
        go_wp2_with fail
        refine (decode_sep m _ (a 1) (HE1.out.cell 1 (by decide)) (by omega) HX.out).mono ?_
        rintro e w2 ⟨rfl, hb2⟩
        have hz2 := hb1.trans (hb2.mono hb1.size)
        have hE2 := HE1.out.below hb2
        have HE2 := Lib.hid hE2
        clear hE2
        go_wp2_with fail
        refine (refDecode_any (m ++ [10]) m.length _ (by simp; omega) (by simp) (by simp)).mono ?_
        rintro e w3 ⟨rfl, hb3⟩
        rw [HD.out]
        have hz3 := hz2.trans (hb3.mono hz2.size)
        have hE3 := HE2.out.below hb3
        have HE3 := Lib.hid hE3
        clear hE3
        unfold errV
        go_wp2_with fail
        refine (num_err _ a 1 (by decide) HE3.out).mono ?_
        rintro e w4 ⟨rfl, hb4⟩
        have hz4 := hz3.trans (hb4.mono hz3.size)
        go_wp2
        go_ret
        exact ⟨rfl, hz4⟩
      · rw [if_neg hs] at hdq
        have hex : ∀ x ∈ linesOf (m ++ [10]), sepB x = false := by simpa using hs
        have hec := encode_decode m hex
        have hdl := decode_length m
        have HX := Lib.hid hex
        have HD := Lib.hid hdq
        have HC := Lib.hid hec
        clear hs hdq hex hec
        go_enter Tryd.func7, Tryd.ntmps7
        go_wp2_with fail
        refine (alive_any _).mono ?_
        rintro e w1 ⟨rfl, hb1⟩
        go_wp2_with fail
        refine (decode_good m _ (by omega) HX.out).mono ?_
        rintro e w2 ⟨rfl, hb2⟩
        have hz2 := hb1.trans (hb2.mono hb1.size)
        go_wp2_with fail
        refine (refDecode_any (m ++ [10]) m.length _ (by simp; omega) (by simp) (by simp)).mono ?_
        rintro e w3 ⟨rfl, hb3⟩
        rw [HD.out]
        have hz3 := hz2.trans (hb3.mono hz2.size)
        go_wp2_with fail
        refine (encode_any (decodeL m) _ (by omega)).mono ?_
        rintro e w4 ⟨rfl, hb4⟩
        rw [HC.out]
        have hz4 := hz3.trans (hb4.mono hz3.size)
        go_wp2
        go_ret
        exact ⟨rfl, hz4⟩
    · have HX := Lib.hid hno
      clear hno
      go_enter Tryd.func7, Tryd.ntmps7
      go_wp2_with fail
      refine (alive_any _).mono ?_
      rintro e w1 ⟨rfl, hb1⟩
      have hE1 := HEr.out.below hb1
      have HE1 := Lib.hid hE1
      clear hE1
      go_wp2_with fail
      refine (decode_short l _ (a 1) (HE1.out.cell 1 (by decide)) (by omega) HX.out).mono ?_
      rintro e w2 ⟨rfl, hb2⟩
      have hz2 := hb1.trans (hb2.mono hb1.size)
      have hE2 := HE1.out.below hb2
      have HE2 := Lib.hid hE2
      clear hE2
      go_wp2_with fail
      refine (refDecode_short l _ (by omega) HX.out).mono ?_
      rintro e w3 ⟨rfl, hb3⟩
      have hz3 := hz2.trans (hb3.mono hz2.size)
      have hE3 := HE2.out.below hb3
      have HE3 := Lib.hid hE3
      clear hE3
      unfold errV
      go_wp2_with fail
      refine (num_err _ a 1 (by decide) HE3.out).mono ?_
      rintro e w4 ⟨rfl, hb4⟩
      have hz4 := hz3.trans (hb4.mono hz3.size)
      go_wp2
      go_ret
      exact ⟨rfl, hz4⟩
  · have hl' : 20000 < l.length := by omega
    go_enter Tryd.func7, Tryd.ntmps7
    go_wp2_with fail
    refine (alive_any _).mono ?_
    rintro e w1 ⟨rfl, hb1⟩
    go_wp2
    go_ret
    exact ⟨rfl, hb1⟩

theorem quoteTexts_any (s : ByteArray) (w : World) (_ : s.size ≤ 9223372036854775807) (a : Nat → Addr) (hE : Errs w a) : Calls Tryd.prog 7 #[.string s] w fun e w' => e = .returned (.bool true) ∧ Below w.heap.size w w' :=
  quoteTexts_list s.data.toList w a hE

end Go.Proofs.YtbaekebhnlonnaaDoor
