/- SectionParses: the walk. -/
import Derived.Test.YtgkbigbekmkobaaDoorKK
import Derived.Test.YtgkbigbekmkobaaDoorEr
import Derived.Test.YtgkbigbekmkobaaDoorK3
set_option linter.unusedVariables false
set_option linter.unusedSimpArgs false
namespace Go.Proofs.YtgkbigbekmkobaaDoor
open Go.RowKit

theorem ints_nil (w : World) : IntsAt w (.slice none 0 0) [] := ⟨none, 0, rfl, fun h => absurd rfl h⟩
theorem rightL_len {ps : List Int} {wh : List UInt8} {ns : List (List UInt8)} (h : rightL ps wh ns = true) : ps.length ≤ 1099511627776 ∧ ns.length ≤ 1099511627776 := by
  have := right_parts h
  omega

set_option maxRecDepth 100000 in
set_option maxHeartbeats 2000000 in
theorem sectionParses_list (s : List UInt8) (m : Int) (a : Nat → Addr) (w : World) (hm : w.cell? ⟨13, 0, none⟩ = some (.int .i64 m)) (hE : Errs w a) :
    Calls Tryd.prog 4 #[.string (bs s)] w fun e w' => e = .returned (.bool true) ∧ Below w.heap.size w w' := by
  have HE := Lib.hid hE
  have HM := Lib.hid hm
  have hal := alive_any m w hm
  clear hm hE
  go_enter Tryd.func4, Tryd.ntmps4
  go_wp2_with fail
  refine hal.mono ?_
  rintro e w1 ⟨rfl, hb1⟩
  clear hal
  by_cases hl : 2000 < s.length
  · have hl' : (2000 : Int) < s.length := by omega
    go_wp2
    go_ret
    exact ⟨rfl, hb1⟩
  have hl' : ¬ (2000 : Int) < s.length := by omega
  have hm1 := (hb1.cell (p := ⟨13, 0, none⟩) (cell_lt HM.out)).trans HM.out
  have hE1 := HE.out.below hb1
  obtain ⟨R, hR⟩ : ∃ R, readL s = R := ⟨_, rfl⟩
  have hp := parse_any s m (errV (a 1)) w1 (by omega) hm1 (hE1.cell 1 (by decide))
  have hq : ∀ w, Calls Tryd.prog 9 #[.string (bs s)] w (RefIs R · w ·) := fun w => by
    have := refParse_any s w (by omega)
    rw [parse_same, hR] at this
    exact this
  rw [hR] at hp
  have HQ := Lib.hid hq
  have HR := Lib.hid hR
  have HE1 := Lib.hid hE1
  clear hq hm1 hE1 hR HE HM
  cases R with
  | none =>
    go_wp2_with fail
    refine hp.mono ?_
    clear hp
    rintro e w2 ⟨rfl, hb2⟩
    have hB2 : Below w.heap.size w w2 := hb1.trans (hb2.mono hb1.size)
    have hE2 := HE1.out.below hb2
    have HE2 := Lib.hid hE2
    clear hE2 HE1
    go_wp2_with fail
    obtain ⟨w3, hw3⟩ : ∃ w3, w2.alloc (.cells #[.slice none 0 0, .string (bs []), .slice none 0 0] 29) = w3 := ⟨_, rfl⟩
    have r3 : SpecN w3 w2.heap.size (.slice none 0 0) [] (.slice none 0 0) := by rw [← hw3]; exact heap_new _ _
    have b3 : Below w2.heap.size w2 w3 := by rw [← hw3]; exact (Below.refl _ _).alloc (Nat.le_refl _) _
    rw [hw3]
    clear hw3
    refine (HQ.out _).mono ?_
    rintro e w4 ⟨rfl, hb4⟩
    have r4 := r3.later hb4
    have B4 : Below w.heap.size w w4 := (hB2.trans (b3.mono hB2.size)).trans (hb4.mono (by have := hB2.size; have := b3.size; omega))
    have E4 := (HE2.out.below b3).below hb4
    have HE4 := Lib.hid E4
    have hz := r4.lt
    clear r3 b3 hb4 E4 HE2 hB2 hb1 hb2
    obtain ⟨c0, c1, c2, f0, f1, f2⟩ := r4.cells
    go_wp2_with fail
    obtain ⟨w5, hw5⟩ : ∃ w5, w4.alloc (.cells #[.slice none 0 0, .string (bs []), .slice none 0 0] 34) = w5 := ⟨_, rfl⟩
    have b5 : Below w4.heap.size w4 w5 := by rw [← hw5]; exact (Below.refl _ _).alloc (Nat.le_refl _) _
    have B5 : Below w.heap.size w w5 := B4.trans (b5.mono B4.size)
    have HE5 := Lib.hid (HE4.out.below b5)
    rw [hw5]
    clear hw5 c0 c1 c2 f0 f1 f2 r4 b5 B4 HE4
    refine (same_yes _ _ _ _ [] [] [] w5 (ints_nil _) (ints_nil _) (.inl ⟨rfl, rfl⟩) (.inl ⟨rfl, rfl⟩) (by simp) (by simp)).mono ?_
    rintro e w6 ⟨rfl, hb6⟩
    have B6 : Below w.heap.size w w6 := B5.trans (hb6.mono B5.size)
    have hn := num_err w6 a 1 (by decide) (HE5.out.below hb6)
    have HN := Lib.hid hn
    clear hn hb6 B5 HE5
    unfold errV at HN ⊢
    go_wp2_with fail
    refine HN.out.mono ?_
    rintro e w7 ⟨rfl, hb7⟩
    go_wp2
    go_ret
    exact ⟨rfl, B6.trans (hb7.mono B6.size)⟩
  | some x =>
    obtain ⟨ps, wh, ns⟩ := x
    obtain ⟨hpl, hnl⟩ := rightL_len (read_back HR.out).1
    go_wp2_with fail
    refine hp.mono ?_
    clear hp
    rintro e w2 ⟨⟨v, nv, rfl, hv, hnv⟩, hb2⟩
    have hB2 : Below w.heap.size w w2 := hb1.trans (hb2.mono hb1.size)
    have HV := Lib.hid hv
    have HNV := Lib.hid hnv
    obtain ⟨a1, q1, rfl, _⟩ := hv
    obtain ⟨a2, q2, rfl, _⟩ := hnv.form
    clear HE1 hnv
    go_wp2_with fail
    obtain ⟨w3, hw3⟩ : ∃ w3, w2.alloc (.cells #[.slice a1 ps.length q1, .string (bs wh), .slice a2 ns.length q2] 29) = w3 := ⟨_, rfl⟩
    have r3 : SpecN w3 w2.heap.size (.slice a1 ps.length q1) wh (.slice a2 ns.length q2) := by rw [← hw3]; exact heap_new _ _
    have b3 : Below w2.heap.size w2 w3 := by rw [← hw3]; exact (Below.refl _ _).alloc (Nat.le_refl _) _
    rw [hw3]
    clear hw3
    refine (HQ.out _).mono ?_
    rintro e w4 ⟨⟨v2, nv2, rfl, hv2, hnv2⟩, hb4⟩
    have r4 := r3.later hb4
    have hb24 : Below w2.heap.size w2 w4 := b3.trans (hb4.mono b3.size)
    have B4 : Below w.heap.size w w4 := hB2.trans (hb24.mono hB2.size)
    have HV4 := Lib.hid (HV.out.below hb24)
    have HNV4 := Lib.hid (HNV.out.below hb24)
    have HV2 := Lib.hid hv2
    have HNV2 := Lib.hid hnv2
    obtain ⟨a3, q3, rfl, _⟩ := hv2
    obtain ⟨a4, q4, rfl, _⟩ := hnv2.form
    have hz := r4.lt
    clear r3 b3 hb4 hB2 hb1 hb2 hb24 HV HNV hnv2
    obtain ⟨c0, c1, c2, f0, f1, f2⟩ := r4.cells
    go_wp2_with fail
    obtain ⟨w5, hw5⟩ : ∃ w5, w4.alloc (.cells #[.slice a3 ps.length q3, .string (bs wh), .slice a4 ns.length q4] 34) = w5 := ⟨_, rfl⟩
    have b5 : Below w4.heap.size w4 w5 := by rw [← hw5]; exact (Below.refl _ _).alloc (Nat.le_refl _) _
    have B5 : Below w.heap.size w w5 := B4.trans (b5.mono B4.size)
    rw [hw5]
    clear hw5 c0 c1 c2 f0 f1 f2 r4 B4
    refine (same_yes _ _ _ _ ps wh ns w5 (HV4.out.below b5) (HV2.out.below b5) (HNV4.out.below b5) (HNV2.out.below b5) hpl hnl).mono ?_
    rintro e w6 ⟨rfl, hb6⟩
    go_wp2
    go_ret
    exact ⟨rfl, B5.trans (hb6.mono B5.size)⟩

theorem sectionParses_any (s : ByteArray) (w : World) (_ : s.size ≤ 9223372036854775807) (a : Nat → Addr) (hE : Errs w a) (m : Int) (hm : w.cell? ⟨13, 0, none⟩ = some (.int .i64 m)) :
    Calls Tryd.prog 4 #[.string s] w fun e w' => e = .returned (.bool true) ∧ Below w.heap.size w w' :=
  sectionParses_list s.data.toList m a w hm hE

end Go.Proofs.YtgkbigbekmkobaaDoor
