/- The law DatesFields. -/
import Derived.Test.YthkkdbpblajahaaDoorD44
import Derived.Test.YthkkdbpblajahaaDoorD32
import Derived.Test.YthkkdbpblajahaaDoorD2
set_option linter.unusedVariables false
set_option linter.unusedSimpArgs false
namespace Go.Proofs.YthkkdbpblajahaaDoor
open Go.RowKit

set_option maxRecDepth 100000 in
set_option maxHeartbeats 1000000 in
theorem datesFields_list (l : List UInt8) (w : World) (a : Nat → Addr) (hE : Errs w a) : Calls Tryd.prog 11 #[.string (bs l)] w fun e w' => e = .returned (.bool true) ∧ Below w.heap.size w w' := by
  have HE := Lib.hid hE
  clear hE
  go_enter Tryd.func11, Tryd.ntmps11
  go_wp2_with fail
  refine (alive_any _).mono ?_
  rintro e w1 ⟨rfl, hb1⟩
  by_cases hl : 300 < l.length
  · have hl' : (300 : Int) < l.length := by omega
    go_wp2
    go_ret
    exact ⟨rfl, hb1⟩
  have hl' : ¬ (300 : Int) < l.length := by omega
  have HE1 := Lib.hid (HE.out.below hb1)
  have hp := parseMail_any l w1 (a 1) (a 0) (HE1.out.cell 1 (by decide)) (HE1.out.cell 0 (by decide)) (by omega)
  have hr := fun w0 => refParseMail_any l w0 (by omega)
  have hsame := mail_same (wordsGo [] l) (fun x hx => by
    obtain ⟨n1, n2⟩ := wordsGo_good l [] (by simp) x hx
    exact ⟨n1, fun h32 => by have := n2 32 h32; cases this⟩)
  rw [← hsame] at hr
  have hs := read_same (ruleMail (joinB (wordsGo [] l)))
  obtain ⟨O, hO⟩ : ∃ O, readV (ruleMail (joinB (wordsGo [] l))) = O := ⟨_, rfl⟩
  obtain ⟨Q, hQ⟩ : ∃ Q, parsedI (fullR (ruleMail (joinB (wordsGo [] l)))) = Q := ⟨_, rfl⟩
  rw [hO, hQ] at hs
  rw [hO] at hp
  rw [hQ] at hr
  have HP := Lib.hid hp
  have HR := Lib.hid hr
  clear hp hr hO hQ hsame
  rcases hs with ⟨t, rfl, rfl⟩ | ⟨rfl, rfl⟩ | ⟨rfl, rfl⟩
  · unfold outV at HP
    unfold pairV at HR
    go_wp2_with fail
    refine HP.out.mono ?_
    rintro e w2 ⟨rfl, hb2⟩
    go_wp2_with fail
    refine (HR.out _).mono ?_
    rintro e w3 ⟨rfl, hb3⟩
    go_wp2_with fail
    refine (num_nil _).mono ?_
    rintro e w4 ⟨rfl, rfl⟩
    go_wp2
    go_ret
    have hz2 := hb1.trans (hb2.mono hb1.size)
    exact ⟨rfl, hz2.trans (hb3.mono hz2.size)⟩
  · unfold outV at HP
    unfold pairV at HR
    go_wp2_with fail
    refine HP.out.mono ?_
    rintro e w2 ⟨rfl, hb2⟩
    go_wp2_with fail
    refine (HR.out _).mono ?_
    rintro e w3 ⟨rfl, hb3⟩
    have hz2 := hb1.trans (hb2.mono hb1.size)
    have hz3 := hz2.trans (hb3.mono hz2.size)
    have HE3 := Lib.hid (HE.out.below hz3)
    go_wp2_with fail
    refine (num_err _ a 0 (by decide) HE3.out).mono ?_
    rintro e w4 ⟨rfl, hb4⟩
    go_wp2
    go_ret
    exact ⟨rfl, hz3.trans (hb4.mono hz3.size)⟩
  · unfold outV at HP
    unfold pairV at HR
    go_wp2_with fail
    refine HP.out.mono ?_
    rintro e w2 ⟨rfl, hb2⟩
    go_wp2_with fail
    refine (HR.out _).mono ?_
    rintro e w3 ⟨rfl, hb3⟩
    have hz2 := hb1.trans (hb2.mono hb1.size)
    have hz3 := hz2.trans (hb3.mono hz2.size)
    have HE3 := Lib.hid (HE.out.below hz3)
    go_wp2_with fail
    refine (num_err _ a 1 (by decide) HE3.out).mono ?_
    rintro e w4 ⟨rfl, hb4⟩
    go_wp2
    go_ret
    exact ⟨rfl, hz3.trans (hb4.mono hz3.size)⟩

theorem datesFields_any (s : ByteArray) (w : World) (_ : s.size ≤ 9223372036854775807) (a : Nat → Addr) (hE : Errs w a) : Calls Tryd.prog 11 #[.string s] w fun e w' => e = .returned (.bool true) ∧ Below w.heap.size w w' :=
  datesFields_list s.data.toList w a hE

end Go.Proofs.YthkkdbpblajahaaDoor
