/- The law DatesInternal: its walk. -/
import Derived.Test.YthkkdbpblajahaaDoorD13
namespace Go.Proofs.YthkkdbpblajahaaDoor
open Go.RowKit

set_option maxRecDepth 100000 in
theorem datesInternal_in (t : Int) (w : World) (hT : Tab w) (h0 : 0 ≤ t) (h1 : t ≤ 4102444799) :
    Calls Tryd.prog 10 #[.int .i64 t] w fun e w' => e = .returned (.bool true) ∧ Below w.heap.size w w' := by
  go_enter Tryd.func10, Tryd.ntmps10
  go_wp2_with fail
  refine (alive_any _).mono ?_
  rintro e w1 ⟨rfl, hb1⟩
  have hz1 := hb1.size
  have hT1 := hT.below hb1
  go_wp2_with fail
  refine (inter_in t _ hT1 h0 h1).mono ?_
  rintro e w2 ⟨y, m, d, h, mi, s, wk, ca, rfl, hb2⟩
  have hz2 := hb2.size
  go_wp2_with fail
  refine (day_in t _ (hT1.below hb2) h0 h1).mono ?_
  rintro e w3 ⟨yc, mc, dc, hhc, mic, sc, wkc, cc, rfl, hb3⟩
  have hz3 := hb3.size
  obtain ⟨rfl, rfl, rfl, rfl, rfl, rfl, rfl⟩ := civ7_same ca cc
  go_wp2_with fail
  refine (inter_ref t _ h0 h1).mono ?_
  rintro e w4 ⟨yb, mb, db, hhb, mib, sb, wkb, cb, rfl, hb4⟩
  have hz4 := hb4.size
  obtain ⟨rfl, rfl, rfl, rfl, rfl, rfl, rfl⟩ := civ7_same cc cb
  have hne := bs_ne (interL_ne yb mb db hhb mib sb)
  obtain ⟨B, hBB⟩ : ∃ B, bs (interL yb mb db hhb mib sb) = B := ⟨_, rfl⟩
  rw [hBB] at hne ⊢
  have hnf : B.toList.isEmpty = false := by simp [hne]
  have HB := Lib.hid (hb1.trans ((hb2.mono hz1).trans ((hb3.mono (by omega)).trans (hb4.mono (by omega)))))
  have CB := Lib.hid cb
  clear hb1 hb2 hb3 hb4 hBB ca cc cb
  go_wp2_with fail
  refine (day_ref t _ h0 h1).mono ?_
  rintro e w5 ⟨yd, md, dd, hhd, mid, sd, wkd, cd, rfl, hb5⟩
  obtain ⟨rfl, rfl, rfl, rfl, rfl, rfl, rfl⟩ := civ7_same cd CB.out
  obtain ⟨E, hEE⟩ : ∃ E, bs (dayL yb mb db) = E := ⟨_, rfl⟩
  rw [hEE]
  clear hEE cd CB
  have HB5 := Lib.hid (HB.out.trans (hb5.mono HB.out.size))
  clear hb5
  go_wp2
  all_goals (first | contradiction | (exfalso; exact absurd (by assumption) hne) | skip)
  go_ret
  exact ⟨by simp [hnf], HB5.out⟩

set_option maxRecDepth 100000 in
theorem datesInternal_out (t : Int) (w : World) (a : Nat → Addr) (hE : Errs w a) (ht : t < 0 ∨ 4102444799 < t) :
    Calls Tryd.prog 10 #[.int .i64 t] w fun e w' => e = .returned (.bool true) ∧ Below w.heap.size w w' := by
  go_enter Tryd.func10, Tryd.ntmps10
  go_wp2_with fail
  refine (alive_any _).mono ?_
  rintro e w1 ⟨rfl, hb1⟩
  have hz1 := hb1.size
  have hE1 := hE.below hb1
  go_wp2_with fail
  refine (inter_out t _ (a 0) ht (hE1.cell 0 (by decide))).mono ?_
  rintro e w2 ⟨rfl, hb2⟩
  have hz2 := hb2.size
  have hE2 := hE1.below hb2
  go_wp2_with fail
  refine (day_out t _ (a 0) ht (hE2.cell 0 (by decide))).mono ?_
  rintro e w3 ⟨rfl, hb3⟩
  have hz3 := hb3.size
  have hE3 := hE2.below hb3
  go_wp2_with fail
  refine (inter_refout t _ ht).mono ?_
  rintro e w4 ⟨rfl, hb4⟩
  have hz4 := hb4.size
  have hE4 := hE3.below hb4
  go_wp2_with fail
  refine (day_refout t _ ht).mono ?_
  rintro e w5 ⟨rfl, hb5⟩
  have hE5 := hE4.below hb5
  have HB := Lib.hid (hb1.trans ((hb2.mono hz1).trans ((hb3.mono (by omega)).trans ((hb4.mono (by omega)).trans (hb5.mono (by omega))))))
  clear hb1 hb2 hb3 hb4 hb5
  go_wp2_with fail
  refine (num_err _ a 0 (by decide) hE5).mono ?_
  rintro e w6 ⟨rfl, hb6⟩
  have hE6 := hE5.below hb6
  have HB6 := Lib.hid (HB.out.trans (hb6.mono HB.out.size))
  clear hb6
  go_wp2_with fail
  refine (num_err _ a 0 (by decide) hE6).mono ?_
  rintro e w7 ⟨rfl, hb7⟩
  go_wp2
  go_ret
  exact ⟨by simp, HB6.out.trans (hb7.mono HB6.out.size)⟩

theorem datesInternal_any (t : Int) (w : World) (a : Nat → Addr) (hE : Errs w a) (hT : Tab w) :
    Calls Tryd.prog 10 #[.int .i64 t] w fun e w' => e = .returned (.bool true) ∧ Below w.heap.size w w' := by
  by_cases ht : 0 ≤ t ∧ t ≤ 4102444799
  · exact datesInternal_in t w hT ht.1 ht.2
  · exact datesInternal_out t w a hE (by omega)

end Go.Proofs.YthkkdbpblajahaaDoor
