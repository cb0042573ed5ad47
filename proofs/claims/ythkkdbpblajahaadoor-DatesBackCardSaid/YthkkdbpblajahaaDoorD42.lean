/- The law DatesBack. -/
import Derived.Test.YthkkdbpblajahaaDoorD41
import Derived.Test.YthkkdbpblajahaaDoorD2
set_option linter.unusedVariables false
set_option linter.unusedSimpArgs false
namespace Go.Proofs.YthkkdbpblajahaaDoor
open Go.RowKit Go

theorem tab_of_head {W : World} {rest : List (String × DataW Unit)} (h : laidMet Tryd.prog (("internal/strconv.uint64pow10", Lib.tabData .u64 Lib.pow10Tab) :: rest) W) : Tab W :=
  Lib.tabIs_of_head tabNamed (by kernel_rfl) Tryd.underlying116 Tryd.underlying107 (by kernel_rfl) (by kernel_rfl) h

theorem bds_of {t y m d h mi s wk : Int} (h0 : 0 ≤ t) (c : Cal.civ7 t y m d h mi s wk) : Bds y m d h mi s wk := Cal.civ7_bd h0 c

theorem civ7_eq {t y m d h mi s wk y' m' d' h' mi' s' wk' : Int} (ca : Cal.civ7 t y m d h mi s wk) (cb : Cal.civ7 t y' m' d' h' mi' s' wk') : y' = y ∧ m' = m ∧ d' = d ∧ h' = h ∧ mi' = mi ∧ s' = s ∧ wk' = wk := by
  obtain ⟨rfl, rfl, rfl⟩ := Cal.civ_one ca.1 cb.1 rfl
  exact ⟨rfl, rfl, rfl, cb.2.1.trans ca.2.1.symm, cb.2.2.1.trans ca.2.2.1.symm, cb.2.2.2.1.trans ca.2.2.2.1.symm, cb.2.2.2.2.trans ca.2.2.2.2.symm⟩
theorem texts_len {y m d h mi s wk : Int} (hb : Bds y m d h mi s wk) : (interL y m d h mi s).length ≤ 200 ∧ (mailL y m d h mi s wk).length ≤ 200 ∧ (dayL y m d).length ≤ 200 := by
  obtain ⟨y0, y1, m0, m1, d0, d1, g0, g1, i0, i1, s0, s1, k0, k1⟩ := hb
  have l1 := twoL_len d [32] (by omega) (by omega) (by decide)
  have l1' := twoL_len d [48] (by omega) (by omega) (by decide)
  have l2 := monthL_len m
  have l3 := weekL_len wk
  have l4 := yearL_len y y0 y1
  have l5 := clockL_len h mi s g0 g1 i0 i1 s0 s1
  have l6 := dec_len d.toNat (by omega)
  unfold interL mailL dayL
  simp only [List.length_append, List.length_cons, List.length_nil]
  omega

set_option maxRecDepth 100000 in
set_option maxHeartbeats 2000000 in
theorem datesBack_in (t : Int) (w : World) (a a0 : Addr) (hc : w.cell? ⟨1, 0, none⟩ = some (errV a)) (hc0 : w.cell? ⟨0, 0, none⟩ = some (errV a0)) (hT : Tab w) (h0 : 0 ≤ t) (h1 : t ≤ 4102444799) :
    Calls Tryd.prog 12 #[.int .i64 t] w fun e w' => e = .returned (.bool true) ∧ Below w.heap.size w w' := by
  have HC := Lib.hid hc
  have HC0 := Lib.hid hc0
  clear hc hc0
  go_enter Tryd.func12, Tryd.ntmps12
  go_wp2_with fail
  refine (alive_any _).mono ?_
  rintro e w1 ⟨rfl, hb1⟩
  go_wp2_with fail
  refine (civil_in t _ h0 h1).mono ?_
  rintro e w2 ⟨y, m, d, h, mi, s, wk, ca, rfl, hw2⟩
  have hb2 : Below w1.heap.size w1 w2 := by
    rw [← hw2]
    exact ((Below.refl _ _).alloc (Nat.le_refl _) _).alloc (by simp) _
  have hz2 : Below w.heap.size w w2 := hb1.trans (hb2.mono hb1.size)
  clear hw2
  obtain ⟨hr, hm, hrd, hmd⟩ := mom_of_civ7 h0 ca
  obtain ⟨y0, y1, m0, m1, d0, d1, g0, g1, i0, i1, s0, s1, k0, k1⟩ := bds_of h0 ca
  have e1 : readV (ruleInternal (interL y m d h mi s)) = .good t := by
    rw [← hm]
    exact read_good ((internal_same _).trans (inter_back y0 y1 m0 m1 d0 d1 g0 g1 i0 i1 s0 s1)) hr (by omega) (by omega)
  have e2 : readV (ruleMail (joinB (wordsGo [] (mailL y m d h mi s wk)))) = .good t := by
    rw [← hm]
    refine read_good ((mail_same _ (fun x hx => ?_)).trans (mail_back y0 y1 m0 m1 d0 d1 g0 g1 i0 i1 s0 s1 k0 k1)) hr (by omega) (by omega)
    obtain ⟨n1, n2⟩ := wordsGo_good _ [] (by simp) x hx
    exact ⟨n1, fun h32 => by have := n2 32 h32; cases this⟩
  have e3 : readV (ruleDay (dayL y m d)) = .good (t - t % 86400) := by
    rw [← hmd]
    exact read_good ((day_same _).trans (day_back y0 y1 m0 m1 d0 d1)) hrd (by omega) (by omega)
  have E1 := Lib.hid e1
  have E2 := Lib.hid e2
  have E3 := Lib.hid e3
  have CA := Lib.hid ca
  have HM := Lib.hid hm
  have HR := Lib.hid hr
  clear e1 e2 e3 ca hm hr hrd hmd
  obtain ⟨W3, hW3⟩ : ∃ W3, w2.alloc (.cells #[.int .i64 y, .int .i64 m, .int .i64 d, .int .i64 h, .int .i64 mi, .int .i64 s, .int .i64 wk] 27) = W3 := ⟨_, rfl⟩
  have hz3 : Below w.heap.size w W3 := by rw [← hW3]; exact hz2.alloc hz2.size _
  have HW3 := Lib.hid hW3
  clear hW3
  go_wp2_with fail
  rw [HW3.out]
  refine (moment_good y m d h mi s wk _ HR.out).mono ?_
  rintro e w4 ⟨rfl, hb4⟩
  rw [HM.out]
  have hz4 := hz3.trans (hb4.mono hz3.size)
  go_wp2_with fail
  refine (inter_in t _ (hT.below hz4) h0 h1).mono ?_
  rintro e w5 ⟨yb, mb, db, hhb, mib, sb, wkb, cb, rfl, hb5⟩
  obtain ⟨rfl, rfl, rfl, rfl, rfl, rfl, rfl⟩ := civ7_eq CA.out cb
  have hz5 := hz4.trans (hb5.mono hz4.size)
  obtain ⟨l1, l2, l3⟩ := texts_len (bds_of h0 cb)
  have p1 := parseInternal_any (interL yb mb db hhb mib sb) w5 a a0 ((hz5.cell (cell_lt HC.out)).trans HC.out) ((hz5.cell (cell_lt HC0.out)).trans HC0.out) (by omega)
  rw [E1.out] at p1
  unfold outV at p1
  have P1 := Lib.hid p1
  clear p1 cb
  go_wp2_with fail
  refine P1.out.mono ?_
  rintro e w6 ⟨rfl, hb6⟩
  have hz6 := hz5.trans (hb6.mono hz5.size)
  go_wp2_with fail
  refine (mail_in t _ (hT.below hz6) h0 h1).mono ?_
  rintro e w7 ⟨yc, mc, dc, hhc, mic, sc, wkc, cc, rfl, hb7⟩
  obtain ⟨rfl, rfl, rfl, rfl, rfl, rfl, rfl⟩ := civ7_eq CA.out cc
  have hz7 := hz6.trans (hb7.mono hz6.size)
  have p2 := parseMail_any (mailL yc mc dc hhc mic sc wkc) w7 a a0 ((hz7.cell (cell_lt HC.out)).trans HC.out) ((hz7.cell (cell_lt HC0.out)).trans HC0.out) (by omega)
  rw [E2.out] at p2
  unfold outV at p2
  have P2 := Lib.hid p2
  clear p2 cc
  go_wp2_with fail
  refine P2.out.mono ?_
  rintro e w8 ⟨rfl, hb8⟩
  have hz8 := hz7.trans (hb8.mono hz7.size)
  go_wp2_with fail
  refine (day_in t _ (hT.below hz8) h0 h1).mono ?_
  rintro e w9 ⟨yd, md, dd, hhd, mid, sd, wkd, cd, rfl, hb9⟩
  obtain ⟨rfl, rfl, rfl, rfl, rfl, rfl, rfl⟩ := civ7_eq CA.out cd
  have hz9 := hz8.trans (hb9.mono hz8.size)
  have p3 := parseDay_any (dayL yd md dd) w9 a a0 ((hz9.cell (cell_lt HC.out)).trans HC.out) ((hz9.cell (cell_lt HC0.out)).trans HC0.out) (by omega)
  rw [E3.out] at p3
  unfold outV at p3
  have P3 := Lib.hid p3
  have hrem : t.tmod 86400 = t % 86400 := Int.tmod_eq_emod_of_nonneg h0
  clear p3 cd
  go_wp2_with fail
  refine P3.out.mono ?_
  rintro e w10 ⟨rfl, hb10⟩
  have hz10 := hz9.trans (hb10.mono hz9.size)
  have HZ := Lib.hid hz10
  clear hz10 hz9 hz8 hz7 hz6 hz5 hz4 hz3 hz2 hb1 hb2 hb4 hb5 hb6 hb7 hb8 hb9 hb10 P1 P2 P3 E1 E2 E3 CA HM HR l1 l2 l3
  go_wp2
  go_ret
  exact ⟨by first | rfl | simp [hrem], HZ.out⟩

set_option maxRecDepth 100000 in
set_option maxHeartbeats 2000000 in
theorem datesBack_out (t : Int) (w : World) (a0 : Addr) (hc0 : w.cell? ⟨0, 0, none⟩ = some (errV a0)) (h : t < 0 ∨ 4102444799 < t) :
    Calls Tryd.prog 12 #[.int .i64 t] w fun e w' => e = .returned (.bool true) ∧ Below w.heap.size w w' := by
  go_enter Tryd.func12, Tryd.ntmps12
  go_wp2_with fail
  refine (alive_any _).mono ?_
  rintro e w1 ⟨rfl, hb1⟩
  go_wp2_with fail
  refine (civil_out t _ _ h ((hb1.cell (cell_lt hc0)).trans hc0)).mono ?_
  rintro e w2 ⟨rfl, hb2⟩
  have hz2 := hb1.trans (hb2.mono hb1.size)
  unfold civ0 errV
  rcases h with h | h
  · go_wp2
    go_ret
    exact ⟨rfl, hz2.alloc hz2.size _⟩
  · have h' : ¬ t < 0 := by omega
    go_wp2
    go_ret
    exact ⟨rfl, hz2.alloc hz2.size _⟩

theorem datesBack_any (t : Int) (w : World) (a0 : Addr) (hc0 : w.cell? ⟨0, 0, none⟩ = some (errV a0)) (a : Addr) (hc : w.cell? ⟨1, 0, none⟩ = some (errV a)) (hT : Tab w) :
    Calls Tryd.prog 12 #[.int .i64 t] w fun e w' => e = .returned (.bool true) ∧ Below w.heap.size w w' := by
  by_cases h : t < 0 ∨ 4102444799 < t
  · exact datesBack_out t w a0 hc0 h
  · exact datesBack_in t w a a0 hc hc0 hT (by omega) (by omega)

end Go.Proofs.YthkkdbpblajahaaDoor
