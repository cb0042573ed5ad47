/- The laws DatesMail, DatesBox: their walks. -/
import Derived.Test.YthkkdbpblajahaaDoorD12
import Derived.Test.YthkkdbpblajahaaDoorD8
import Derived.Stop.LaidErr
namespace Go.Proofs.YthkkdbpblajahaaDoor
open Go.RowKit

theorem tab_of_head {W : World} {rest : List (String × DataW Unit)} (h : laidMet Tryd.prog (("internal/strconv.uint64pow10", Lib.tabData .u64 Lib.pow10Tab) :: rest) W) : Tab W :=
  Lib.tabIs_of_head tabNamed (by kernel_rfl) Tryd.underlying116 Tryd.underlying107 (by kernel_rfl) (by kernel_rfl) h

theorem mailL_ne (y m d h mi s wk : Int) : mailL y m d h mi s wk ≠ [] := by simp [mailL]
theorem boxL_ne (y m d h mi s wk : Int) : boxL y m d h mi s wk ≠ [] := by simp [boxL]
theorem interL_ne (y m d h mi s : Int) : interL y m d h mi s ≠ [] := by simp [interL]
theorem dayL_ne (y m d : Int) : dayL y m d ≠ [] := by simp [dayL]

theorem civ7_same {t y m d h mi s wk y' m' d' h' mi' s' wk' : Int} (ca : Cal.civ7 t y m d h mi s wk) (cb : Cal.civ7 t y' m' d' h' mi' s' wk') : y' = y ∧ m' = m ∧ d' = d ∧ h' = h ∧ mi' = mi ∧ s' = s ∧ wk' = wk := by
  obtain ⟨rfl, rfl, rfl⟩ := Cal.civ_one ca.1 cb.1 rfl
  exact ⟨rfl, rfl, rfl, cb.2.1.trans ca.2.1.symm, cb.2.2.1.trans ca.2.2.1.symm, cb.2.2.2.1.trans ca.2.2.2.1.symm, cb.2.2.2.2.trans ca.2.2.2.2.symm⟩

theorem bs_ne {l : List UInt8} (h : l ≠ []) : (bs l).toList ≠ [] := by
  rw [ByteArray.toList_eq]
  intro e
  apply h
  simpa [bs] using e

set_option maxRecDepth 100000 in
theorem datesMail_in (t : Int) (w : World) (hT : Tab w) (h0 : 0 ≤ t) (h1 : t ≤ 4102444799) :
    Calls Tryd.prog 8 #[.int .i64 t] w fun e w' => e = .returned (.bool true) ∧ Below w.heap.size w w' := by
  go_enter Tryd.func8, Tryd.ntmps8
  go_wp2_with fail
  refine (alive_any _).mono ?_
  rintro e w1 ⟨rfl, hb1⟩
  have hz1 := hb1.size
  go_wp2_with fail
  refine (mail_in t _ (hT.below hb1) h0 h1).mono ?_
  rintro e w2 ⟨y, m, d, h, mi, s, wk, ca, rfl, hb2⟩
  have hz2 := hb2.size
  go_wp2_with fail
  refine (mail_ref t _ h0 h1).mono ?_
  rintro e w3 ⟨yb, mb, db, hhb, mib, sb, wkb, cb, rfl, hb3⟩
  obtain ⟨rfl, rfl, rfl, rfl, rfl, rfl, rfl⟩ := civ7_same ca cb
  have hne := bs_ne (mailL_ne yb mb db hhb mib sb wkb)
  obtain ⟨B, hBB⟩ : ∃ B, bs (mailL yb mb db hhb mib sb wkb) = B := ⟨_, rfl⟩
  rw [hBB] at hne ⊢
  have hnf : B.toList.isEmpty = false := by simp [hne]
  clear hBB ca cb
  have HB := Lib.hid (hb1.trans ((hb2.mono hz1).trans (hb3.mono (by omega))))
  clear hb1 hb2 hb3
  go_wp2
  all_goals (first | contradiction | (exfalso; exact absurd (by assumption) hne) | skip)
  go_ret
  exact ⟨by simp [hnf], HB.out⟩

set_option maxRecDepth 100000 in
theorem datesMail_out (t : Int) (w : World) (a : Nat → Addr) (hE : Errs w a) (ht : t < 0 ∨ 4102444799 < t) :
    Calls Tryd.prog 8 #[.int .i64 t] w fun e w' => e = .returned (.bool true) ∧ Below w.heap.size w w' := by
  go_enter Tryd.func8, Tryd.ntmps8
  go_wp2_with fail
  refine (alive_any _).mono ?_
  rintro e w1 ⟨rfl, hb1⟩
  have hz1 := hb1.size
  have hE1 := hE.below hb1
  go_wp2_with fail
  refine (mail_out t _ (a 0) ht (hE1.cell 0 (by decide))).mono ?_
  rintro e w2 ⟨rfl, hb2⟩
  have hz2 := hb2.size
  have hE2 := hE1.below hb2
  go_wp2_with fail
  refine (mail_refout t _ ht).mono ?_
  rintro e w3 ⟨rfl, hb3⟩
  have hE3 := hE2.below hb3
  have HB := Lib.hid (hb1.trans ((hb2.mono hz1).trans (hb3.mono (by omega))))
  clear hb1 hb2 hb3
  go_wp2_with fail
  refine (num_err _ a 0 (by decide) hE3).mono ?_
  rintro e w4 ⟨rfl, hb4⟩
  go_wp2
  go_ret
  exact ⟨by simp, HB.out.trans (hb4.mono HB.out.size)⟩

theorem datesMail_any (t : Int) (w : World) (a : Nat → Addr) (hE : Errs w a) (hT : Tab w) :
    Calls Tryd.prog 8 #[.int .i64 t] w fun e w' => e = .returned (.bool true) ∧ Below w.heap.size w w' := by
  by_cases ht : 0 ≤ t ∧ t ≤ 4102444799
  · exact datesMail_in t w hT ht.1 ht.2
  · exact datesMail_out t w a hE (by omega)

set_option maxRecDepth 100000 in
theorem datesBox_in (t : Int) (w : World) (hT : Tab w) (h0 : 0 ≤ t) (h1 : t ≤ 4102444799) :
    Calls Tryd.prog 9 #[.int .i64 t] w fun e w' => e = .returned (.bool true) ∧ Below w.heap.size w w' := by
  go_enter Tryd.func9, Tryd.ntmps9
  go_wp2_with fail
  refine (alive_any _).mono ?_
  rintro e w1 ⟨rfl, hb1⟩
  have hz1 := hb1.size
  go_wp2_with fail
  refine (box_in t _ (hT.below hb1) h0 h1).mono ?_
  rintro e w2 ⟨y, m, d, h, mi, s, wk, ca, rfl, hb2⟩
  have hz2 := hb2.size
  go_wp2_with fail
  refine (box_ref t _ h0 h1).mono ?_
  rintro e w3 ⟨yb, mb, db, hhb, mib, sb, wkb, cb, rfl, hb3⟩
  obtain ⟨rfl, rfl, rfl, rfl, rfl, rfl, rfl⟩ := civ7_same ca cb
  have hne := bs_ne (boxL_ne yb mb db hhb mib sb wkb)
  obtain ⟨B, hBB⟩ : ∃ B, bs (boxL yb mb db hhb mib sb wkb) = B := ⟨_, rfl⟩
  rw [hBB] at hne ⊢
  have hnf : B.toList.isEmpty = false := by simp [hne]
  clear hBB ca cb
  have HB := Lib.hid (hb1.trans ((hb2.mono hz1).trans (hb3.mono (by omega))))
  clear hb1 hb2 hb3
  go_wp2
  all_goals (first | contradiction | (exfalso; exact absurd (by assumption) hne) | skip)
  go_ret
  exact ⟨by simp [hnf], HB.out⟩

set_option maxRecDepth 100000 in
theorem datesBox_out (t : Int) (w : World) (a : Nat → Addr) (hE : Errs w a) (ht : t < 0 ∨ 4102444799 < t) :
    Calls Tryd.prog 9 #[.int .i64 t] w fun e w' => e = .returned (.bool true) ∧ Below w.heap.size w w' := by
  go_enter Tryd.func9, Tryd.ntmps9
  go_wp2_with fail
  refine (alive_any _).mono ?_
  rintro e w1 ⟨rfl, hb1⟩
  have hz1 := hb1.size
  have hE1 := hE.below hb1
  go_wp2_with fail
  refine (box_out t _ (a 0) ht (hE1.cell 0 (by decide))).mono ?_
  rintro e w2 ⟨rfl, hb2⟩
  have hz2 := hb2.size
  have hE2 := hE1.below hb2
  go_wp2_with fail
  refine (box_refout t _ ht).mono ?_
  rintro e w3 ⟨rfl, hb3⟩
  have hE3 := hE2.below hb3
  have HB := Lib.hid (hb1.trans ((hb2.mono hz1).trans (hb3.mono (by omega))))
  clear hb1 hb2 hb3
  go_wp2_with fail
  refine (num_err _ a 0 (by decide) hE3).mono ?_
  rintro e w4 ⟨rfl, hb4⟩
  go_wp2
  go_ret
  exact ⟨by simp, HB.out.trans (hb4.mono HB.out.size)⟩

theorem datesBox_any (t : Int) (w : World) (a : Nat → Addr) (hE : Errs w a) (hT : Tab w) :
    Calls Tryd.prog 9 #[.int .i64 t] w fun e w' => e = .returned (.bool true) ∧ Below w.heap.size w w' := by
  by_cases ht : 0 ≤ t ∧ t ≤ 4102444799
  · exact datesBox_in t w hT ht.1 ht.2
  · exact datesBox_out t w a hE (by omega)

end Go.Proofs.YthkkdbpblajahaaDoor
