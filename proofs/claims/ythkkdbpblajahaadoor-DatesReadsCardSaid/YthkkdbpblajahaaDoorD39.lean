/- The law DatesReads. -/
import Derived.Test.YthkkdbpblajahaaDoorD38
import Derived.Test.YthkkdbpblajahaaDoorD32
import Derived.Test.YthkkdbpblajahaaDoorD2
set_option linter.unusedVariables false
set_option linter.unusedSimpArgs false
namespace Go.Proofs.YthkkdbpblajahaaDoor
open Go.RowKit

theorem refParseInternal_any (l : List UInt8) (w : World) : Calls Tryd.prog 27 #[.string (bs l)] w fun e w' => e = .returned (pairV (parsedI (refInternalC l))) ∧ Below w.heap.size w w' := by
  by_cases h : l.length = 26
  · exact refInternal_26 l w h
  · exact refInternal_short l w h

set_option maxRecDepth 100000 in
set_option maxHeartbeats 1000000 in
theorem datesReads_list (l : List UInt8) (w : World) (a : Nat → Addr) (hE : Errs w a) : Calls Tryd.prog 7 #[.string (bs l)] w fun e w' => e = .returned (.bool true) ∧ Below w.heap.size w w' := by
  have HE := Lib.hid hE
  clear hE
  go_enter Tryd.func7, Tryd.ntmps7
  go_wp2_with fail
  refine (alive_any _).mono ?_
  rintro e w1 ⟨rfl, hb1⟩
  by_cases hl : 200 < l.length
  · have hl' : (200 : Int) < l.length := by omega
    go_wp2
    go_ret
    exact ⟨rfl, hb1⟩
  have hl' : ¬ (200 : Int) < l.length := by omega
  have HE1 := Lib.hid (HE.out.below hb1)
  have hp := parseInternal_any l w1 (a 1) (a 0) (HE1.out.cell 1 (by decide)) (HE1.out.cell 0 (by decide)) (by omega)
  have hr := fun w0 => refParseInternal_any l w0
  rw [← internal_same] at hr
  have hs := read_same (ruleInternal l)
  obtain ⟨O, hO⟩ : ∃ O, readV (ruleInternal l) = O := ⟨_, rfl⟩
  obtain ⟨Q, hQ⟩ : ∃ Q, parsedI (fullR (ruleInternal l)) = Q := ⟨_, rfl⟩
  rw [hO, hQ] at hs
  rw [hO] at hp
  rw [hQ] at hr
  have HP := Lib.hid hp
  have HR := Lib.hid hr
  clear hp hr hO hQ
  rcases hs with ⟨t, rfl, rfl⟩ | ⟨rfl, rfl⟩ | ⟨rfl, rfl⟩
  · unfold outV at HP
    unfold pairV at HR
    go_wp2_with fail
    refine HP.out.mono ?_
    rintro e w2 ⟨rfl, hb2⟩
    go_wp2_with fail
    refine (HR.out _).mono ?_
    rintro e w3 ⟨rfl, hb3⟩
    go_wp2_with fail
    refine (num_nil _).mono ?_
    rintro e w4 ⟨rfl, rfl⟩
    go_wp2
    go_ret
    have hz2 := hb1.trans (hb2.mono hb1.size)
    exact ⟨rfl, hz2.trans (hb3.mono hz2.size)⟩
  · unfold outV at HP
    unfold pairV at HR
    go_wp2_with fail
    refine HP.out.mono ?_
    rintro e w2 ⟨rfl, hb2⟩
    go_wp2_with fail
    refine (HR.out _).mono ?_
    rintro e w3 ⟨rfl, hb3⟩
    have hz2 := hb1.trans (hb2.mono hb1.size)
    have hz3 := hz2.trans (hb3.mono hz2.size)
    have HE3 := Lib.hid (HE.out.below hz3)
    go_wp2_with fail
    refine (num_err _ a 0 (by decide) HE3.out).mono ?_
    rintro e w4 ⟨rfl, hb4⟩
    go_wp2
    go_ret
    exact ⟨rfl, hz3.trans (hb4.mono hz3.size)⟩
  · unfold outV at HP
    unfold pairV at HR
    go_wp2_with fail
    refine HP.out.mono ?_
    rintro e w2 ⟨rfl, hb2⟩
    go_wp2_with fail
    refine (HR.out _).mono ?_
    rintro e w3 ⟨rfl, hb3⟩
    have hz2 := hb1.trans (hb2.mono hb1.size)
    have hz3 := hz2.trans (hb3.mono hz2.size)
    have HE3 := Lib.hid (HE.out.below hz3)
    go_wp2_with fail
    refine (num_err _ a 1 (by decide) HE3.out).mono ?_
    rintro e w4 ⟨rfl, hb4⟩
    go_wp2
    go_ret
    exact ⟨rfl, hz3.trans (hb4.mono hz3.size)⟩

theorem datesReads_any (s : ByteArray) (w : World) (_ : s.size ≤ 9223372036854775807) (a : Nat → Addr) (hE : Errs w a) : Calls Tryd.prog 7 #[.string s] w fun e w' => e = .returned (.bool true) ∧ Below w.heap.size w w' :=
  datesReads_list s.data.toList w a hE

end Go.Proofs.YthkkdbpblajahaaDoor
