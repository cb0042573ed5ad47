/- The law HeaderFields. -/
import Derived.Test.YtplmekfcnggigaaDoorHB
set_option linter.unusedVariables false
set_option linter.unusedSimpArgs false
namespace Go.Proofs.YtplmekfcnggigaaDoor
open Go.RowKit

set_option maxRecDepth 100000 in
set_option maxHeartbeats 1000000 in
theorem headerFields_list (m : List UInt8) (hm : m.length ≤ 9223372036854775807) (w : World) (a : Nat → Addr) (hE : Errs w a) : Calls Tryd.prog 7 #[.string (bs m)] w fun e w' => e = .returned (.bool true) ∧ Below w.heap.size w w' := by
  have HE := Lib.hid hE
  have HM := Lib.hid hm
  clear hE hm
  go_enter Tryd.func7, Tryd.ntmps7
  go_wp2_with fail
  refine (alive_any _).mono ?_
  rintro e w1 ⟨rfl, hb1⟩
  by_cases hl : 20000 < m.length
  · have hl' : (20000 : Int) < m.length := by omega
    go_wp2
    go_ret
    exact ⟨rfl, hb1⟩
  · have hl' : ¬ (20000 : Int) < m.length := by omega
    have hm1 : m.length ≤ 1000000000 := by omega
    have hm2 : m.length ≤ 100000000 := by omega
    obtain ⟨hf1, hf2⟩ := fields_ref m
    obtain ⟨R, hR⟩ : ∃ R, refL 0 (linesOf m) = R := ⟨_, rfl⟩
    have hrh := fun w0 => refHeader_any m w0 hm2
    rw [hR] at hf1 hf2 hrh
    obtain ⟨fs, q⟩ := R
    have hE1 := HE.out.below hb1
    have HF1 := Lib.hid hf1
    have HF2 := Lib.hid hf2
    have HRH := Lib.hid hrh
    have HE1 := Lib.hid hE1
    clear hf1 hf2 hrh hR hE1
    by_cases h200 : 200 < fs.length
    · go_wp2_with fail
      refine (fields_full m _ (a 10) (HE1.out.cell 10 (by decide)) hm1 (by rw [HF1.out]; exact h200)).mono ?_
      rintro e w2 ⟨rfl, hb2⟩
      go_wp2_with fail
      refine (HRH.out _).mono ?_
      rintro e w3 ⟨v3, rfl, o3, hb3⟩
      obtain ⟨a3, n3, cap3, rfl, hn3⟩ := OwnF.form o3
      have hn3' : 200 < (n3 : Int) := by rw [hn3.out]; exact_mod_cast h200
      clear o3
      go_wp2_with fail
      refine (body_any m _ hm1).mono ?_
      rintro e w4 ⟨rfl, hb4⟩
      rw [HF2.out]
      have hz2 := hb1.trans (hb2.mono hb1.size)
      have hz3 := hz2.trans (hb3.mono hz2.size)
      have hz4 := hz3.trans (hb4.mono hz3.size)
      have HE4 := Lib.hid (HE.out.below hz4)
      go_wp2_with fail
      refine (num_err _ a 10 (by decide) HE4.out).mono ?_
      rintro e w5 ⟨rfl, hb5⟩
      go_wp2
      go_ret
      exact ⟨rfl, hz4.trans (hb5.mono hz4.size)⟩
    · go_wp2_with fail
      refine (fields_ok m _ hm1 (by rw [HF1.out]; exact Nat.le_of_not_lt h200)).mono ?_
      rintro e w2 ⟨v2, rfl, o2, hb2⟩
      rw [HF1.out] at o2
      go_wp2_with fail
      refine (HRH.out _).mono ?_
      rintro e w3 ⟨v3, rfl, o3, hb3⟩
      have o2b := o2.below hb3
      obtain ⟨a3, n3, cap3, rfl, hn3⟩ := OwnF.form o3
      have hn3' : ¬ 200 < (n3 : Int) := by rw [hn3.out]; exact_mod_cast h200
      have O2 := Lib.hid o2b
      have O3 := Lib.hid o3
      clear o2 o2b o3
      go_wp2_with fail
      refine (body_any m _ hm1).mono ?_
      rintro e w4 ⟨rfl, hb4⟩
      rw [HF2.out]
      have hz2 := hb1.trans (hb2.mono hb1.size)
      have hz3 := hz2.trans (hb3.mono hz2.size)
      have hz4 := hz3.trans (hb4.mono hz3.size)
      have O2' := Lib.hid (O2.out.below hb4)
      have O3' := Lib.hid (O3.out.below hb4)
      go_wp2_with fail
      refine (sameF_yes _ _ _ _ fs _ O2'.out O3'.out (by omega)).mono ?_
      rintro e w5 ⟨rfl, hb5⟩
      go_wp2
      go_ret
      exact ⟨rfl, hz4.trans (hb5.mono hz4.size)⟩

theorem headerFields_any (s : ByteArray) (w : World) (hs : s.size ≤ 9223372036854775807) (a : Nat → Addr) (hE : Errs w a) : Calls Tryd.prog 7 #[.string s] w fun e w' => e = .returned (.bool true) ∧ Below w.heap.size w w' :=
  headerFields_list s.data.toList (by simpa using hs) w a hE

end Go.Proofs.YtplmekfcnggigaaDoor
