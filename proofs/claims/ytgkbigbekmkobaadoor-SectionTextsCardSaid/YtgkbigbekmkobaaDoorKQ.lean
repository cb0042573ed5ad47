/- SectionTexts: the law. -/
import Derived.Test.YtgkbigbekmkobaaDoorKP
set_option linter.unusedVariables false
set_option linter.unusedSimpArgs false
namespace Go.Proofs.YtgkbigbekmkobaaDoor
open Go.RowKit

theorem text_len {ps : List Int} {wh : List UInt8} {ns : List (List UInt8)} (h : rightL ps wh ns = true) (hw : wh.length ≤ 1000) (hs : (ns.map List.length).sum ≤ 5000) : (textL ps wh ns).length ≤ 100000 := by
  obtain ⟨r1, r2, _⟩ := right_parts h
  obtain ⟨pl1, pl2⟩ := parts_len (wh := wh) r1 hw
  have jl := joinS_len [46] 1000 (partsL ps wh) pl2
  have js := join_sum [32] ns
  have hpl : (partsL ps wh).length * (1000 + 1) ≤ 21 * 1001 := Nat.mul_le_mul_right _ pl1
  simp only [List.length_cons, List.length_nil, Nat.zero_add, Nat.mul_one] at jl js
  rw [text_join h, List.length_append]
  split
  · simp; omega
  · simp; omega

set_option maxRecDepth 100000 in
set_option maxHeartbeats 2000000 in
theorem sectionTexts_any (v : Value) (ps : List Int) (wh : List UInt8) (ns : List (List UInt8)) (w : World) (hv : ArgP w v ps wh ns) (hn : ∀ n ∈ ns, n.length ≤ 140737488351232) (a : Nat → Addr) (hE : Errs w a) (hT : Tab w) (m : Int) (hm : w.cell? ⟨13, 0, none⟩ = some (.int .i64 m)) :
    Calls Tryd.prog 5 #[v] w fun e w' => e = .returned (.bool true) ∧ Below w.heap.size w w' := by
  obtain ⟨va, nv, rfl, h1, h2, h3⟩ := hv
  have H1 := Lib.hid h1
  have H2 := Lib.hid h2
  have H3 := Lib.hid h3
  have HN := Lib.hid hn
  have HE := Lib.hid hE
  have HT := Lib.hid hT
  have HM := Lib.hid hm
  obtain ⟨a1, c1, rfl, _⟩ := h1
  obtain ⟨a2, c2, rfl, _⟩ := h2
  clear hn hE hT hm h3
  go_enter Tryd.func5, Tryd.ntmps5
  go_wp2_with fail
  obtain ⟨wa, hwa⟩ : ∃ wa, w.alloc (.cells #[.slice a1 ps.length c1, .string (bs wh), .slice a2 ns.length c2] 29) = wa := ⟨_, rfl⟩
  have b0 : Below w.heap.size w wa := by rw [← hwa]; exact (Below.refl _ _).alloc (Nat.le_refl _) _
  have s0 : SpecN wa w.heap.size (.slice a1 ps.length c1) wh (.slice a2 ns.length c2) := by rw [← hwa]; exact heap_new w _
  rw [hwa]
  clear hwa
  refine (alive_any m wa ((b0.cell (p := ⟨13, 0, none⟩) (cell_lt HM.out)).trans HM.out)).mono ?_
  rintro e w1 ⟨rfl, hb1⟩
  have B1 : Below w.heap.size w w1 := b0.trans (hb1.mono b0.size)
  have s1 := s0.later hb1
  have hz0 := s1.lt
  clear b0 s0 hb1
  have argP : ∀ w', Below w.heap.size w w' → ArgP w' (.agg #[.slice a1 ps.length c1, .string (bs wh), .slice a2 ns.length c2]) ps wh ns := fun w' hb => ⟨_, _, rfl, H1.out.below hb, H2.out.below hb, H3.out⟩
  have AP := Lib.hid argP
  clear argP
  have hbig := big_any _ ps wh ns w1 (AP.out w1 B1) HN.out
  obtain ⟨bb, hbb⟩ : ∃ b, bigL ps wh ns = b := ⟨_, rfl⟩
  rw [hbb] at hbig
  have HBB := Lib.hid hbb
  obtain ⟨k0, k1, k2, f0, f1, f2⟩ := s1.cells
  clear hbb
  cases bb with
  | true =>
    go_wp2_with fail
    refine hbig.mono ?_
    rintro e w2 ⟨rfl, hb2⟩
    go_wp2
    go_ret
    exact ⟨rfl, B1.trans (hb2.mono B1.size)⟩
  | false =>
    obtain ⟨l1, l2, l3, l4, l5⟩ := bigL_no HBB.out
    have L4 := Lib.hid l4
    clear l4 HBB HN
    go_wp2_with fail
    refine hbig.mono ?_
    clear hbig
    rintro e w2 ⟨rfl, hb2⟩
    have B2 : Below w.heap.size w w2 := B1.trans (hb2.mono B1.size)
    have s2 := s1.later hb2
    clear k0 k1 k2 f0 f1 f2 s1 B1 hb2
    obtain ⟨k0, k1, k2, f0, f1, f2⟩ := s2.cells
    rcases hr : rightL ps wh ns with _ | _
    · have htx := secText_no _ ps wh ns (errV (a 1)) w2 (AP.out w2 B2) ((HE.out.below B2).cell 1 (by decide)) l1 l3 L4.out hr
      have HTX := Lib.hid htx
      have HR := Lib.hid hr
      clear htx hr
      go_wp2_with fail
      refine HTX.out.mono ?_
      rintro e w3 ⟨rfl, hb3⟩
      have B3 : Below w.heap.size w w3 := B2.trans (hb3.mono B2.size)
      have s3 := s2.later hb3
      clear k0 k1 k2 f0 f1 f2 s2 B2 hb3 HTX
      obtain ⟨k0, k1, k2, f0, f1, f2⟩ := s3.cells
      go_wp2_with fail
      obtain ⟨w4, hw4⟩ : ∃ w4, w3.alloc (.cells #[.slice a1 ps.length c1, .string (bs wh), .slice a2 ns.length c2] 34) = w4 := ⟨_, rfl⟩
      have b4 : Below w3.heap.size w3 w4 := by rw [← hw4]; exact (Below.refl _ _).alloc (Nat.le_refl _) _
      have B4 : Below w.heap.size w w4 := B3.trans (b4.mono B3.size)
      rw [hw4]
      clear hw4 k0 k1 k2 f0 f1 f2 s3 b4
      have hrr := refRight_any _ _ ps wh ns w4 (H1.out.below B4) (H2.out.below B4) (fun n h => by have := L4.out n h; omega) (by omega) (by omega)
      rw [right_same, HR.out] at hrr
      refine hrr.mono ?_
      clear hrr
      rintro e w5 ⟨rfl, hb5⟩
      have B5 : Below w.heap.size w w5 := B4.trans (hb5.mono B4.size)
      have hnum := num_err w5 a 1 (by decide) (HE.out.below B5)
      have HNUM := Lib.hid hnum
      clear hnum hb5 B4
      unfold errV at HNUM ⊢
      go_wp2_with fail
      refine HNUM.out.mono ?_
      rintro e w6 ⟨rfl, hb6⟩
      go_wp2
      go_ret
      exact ⟨rfl, B5.trans (hb6.mono B5.size)⟩
    · have htx := secText_yes _ ps wh ns w2 (AP.out w2 B2) (HT.out.below B2) l2 l1 l3 L4.out hr
      have hlen := text_len hr l2 l5
      have hread := read_text hr
      obtain ⟨r1, r2, r3, _⟩ := right_parts hr
      have hrt := fun w' (hb : Below w.heap.size w w') => refText_any (.slice a1 ps.length c1) (.slice a2 ns.length c2) ps wh ns w' (H1.out.below hb) (H2.out.below hb) (fun n h => by have := L4.out n h; omega) r1 r2 (by omega) r3
      obtain ⟨T, hTT⟩ : ∃ x, textL ps wh ns = x := ⟨_, rfl⟩
      rw [hTT] at htx hlen hread hrt
      have HTX := Lib.hid htx
      have HR := Lib.hid hr
      have HRD := Lib.hid hread
      have HRT := Lib.hid hrt
      clear htx hr hread hrt r3 hTT
      go_wp2_with fail
      refine HTX.out.mono ?_
      rintro e w3 ⟨rfl, hb3⟩
      have B3 : Below w.heap.size w w3 := B2.trans (hb3.mono B2.size)
      have s3 := s2.later hb3
      clear k0 k1 k2 f0 f1 f2 s2 B2 hb3 HTX
      obtain ⟨k0, k1, k2, f0, f1, f2⟩ := s3.cells
      go_wp2_with fail
      obtain ⟨w4, hw4⟩ : ∃ w4, w3.alloc (.cells #[.slice a1 ps.length c1, .string (bs wh), .slice a2 ns.length c2] 34) = w4 := ⟨_, rfl⟩
      have b4 : Below w3.heap.size w3 w4 := by rw [← hw4]; exact (Below.refl _ _).alloc (Nat.le_refl _) _
      have t4 : w4.heap[w3.heap.size]? = some (.cells #[.slice a1 ps.length c1, .string (bs wh), .slice a2 ns.length c2] 34 (0, 0)) := by rw [← hw4]; exact heap_new _ _
      have B4 : Below w.heap.size w w4 := B3.trans (b4.mono B3.size)
      have s4 := s3.later b4
      rw [hw4]
      clear hw4 k0 k1 k2 f0 f1 f2 s3 b4
      have hrr := refRight_any _ _ ps wh ns w4 (H1.out.below B4) (H2.out.below B4) (fun n h => by have := L4.out n h; omega) (by omega) (by omega)
      rw [right_same, HR.out] at hrr
      refine hrr.mono ?_
      clear hrr
      rintro e w5 ⟨rfl, hb5⟩
      have B5 : Below w.heap.size w w5 := B4.trans (hb5.mono B4.size)
      have s5 := s4.later hb5
      have t5 := (hb5.block w3.heap.size (Array.getElem?_eq_some_iff.1 t4).1).trans t4
      have hp := parse_any T m (errV (a 1)) w5 hlen ((B5.cell (p := ⟨13, 0, none⟩) (cell_lt HM.out)).trans HM.out) ((HE.out.below B5).cell 1 (by decide))
      rw [HRD.out] at hp
      have HP := Lib.hid hp
      clear hp hb5 s4 t4 B4
      go_wp2_with fail
      refine HP.out.mono ?_
      rintro e w6 ⟨⟨v2, nv2, rfl, hv2, hnv2⟩, hb6⟩
      have HV2 := Lib.hid hv2
      have HNV2 := Lib.hid hnv2.form
      obtain ⟨a3, c3, rfl, _⟩ := hv2
      obtain ⟨a4, c4, rfl, _⟩ := hnv2.form
      have B6 : Below w.heap.size w w6 := B5.trans (hb6.mono B5.size)
      have s6 := s5.later hb6
      have t6 := (hb6.block w3.heap.size (Array.getElem?_eq_some_iff.1 t5).1).trans t5
      clear hb6 s5 t5 B5 HP hnv2
      have p0 : w6.cell? ⟨w3.heap.size, 0, none⟩ = some (.slice a1 ps.length c1) := by simp [World.cell?, t6]
      have p1 : w6.cell? ⟨w3.heap.size, 1, none⟩ = some (.string (bs wh)) := by simp [World.cell?, t6]
      have p2 : w6.cell? ⟨w3.heap.size, 2, none⟩ = some (.slice a2 ns.length c2) := by simp [World.cell?, t6]
      have hz6 := s6.lt
      have hy6 := (Array.getElem?_eq_some_iff.1 t6).1
      obtain ⟨k0, k1, k2, f0, f1, f2⟩ := s6.cells
      go_wp2_with fail
      obtain ⟨w7, hw7⟩ : ∃ w7, w6.alloc (.cells #[.slice a3 ps.length c3, .string (bs wh), .slice a4 ns.length c4] 29) = w7 := ⟨_, rfl⟩
      have b7 : Below w6.heap.size w6 w7 := by rw [← hw7]; exact (Below.refl _ _).alloc (Nat.le_refl _) _
      have r7 : SpecN w7 w6.heap.size (.slice a3 ps.length c3) wh (.slice a4 ns.length c4) := by rw [← hw7]; exact heap_new _ _
      have B7 : Below w.heap.size w w7 := B6.trans (b7.mono B6.size)
      rw [hw7]
      clear hw7 k0 k1 k2 f0 f1 f2 p0 p1 p2
      refine (HRT.out w7 B7).mono ?_
      rintro e w8 ⟨rfl, hb8⟩
      have hb68 : Below w6.heap.size w6 w8 := b7.trans (hb8.mono b7.size)
      have B8 : Below w.heap.size w w8 := B6.trans (hb68.mono B6.size)
      have r8 := r7.later hb8
      have s8 := s6.later hb68
      have t8 := (hb68.block w3.heap.size hy6).trans t6
      have hss := secSame_yes (.slice a3 ps.length c3) (.slice a4 ns.length c4) (.slice a1 ps.length c1) (.slice a2 ns.length c2) ps wh ns w8 (HV2.out.below hb68) (H1.out.below B8) (HNV2.out.below hb68) (H2.out.below B8) l1 l3
      have HSS := Lib.hid hss
      obtain ⟨k0, k1, k2, f0, f1, f2⟩ := s8.cells
      obtain ⟨g0, g1, g2, x0, x1, x2⟩ := r8.cells
      clear hss b7 r7 B7 hb8 s6 t6 B6 hz6
      go_wp2_with fail
      refine HSS.out.mono ?_
      rintro e w9 ⟨rfl, hb9⟩
      have B9 : Below w.heap.size w w9 := B8.trans (hb9.mono B8.size)
      have hb69 : Below w6.heap.size w6 w9 := hb68.trans (hb9.mono hb68.size)
      have t9 := (hb9.block w3.heap.size (Array.getElem?_eq_some_iff.1 t8).1).trans t8
      have p0 : w9.cell? ⟨w3.heap.size, 0, none⟩ = some (.slice a1 ps.length c1) := by simp [World.cell?, t9]
      have p1 : w9.cell? ⟨w3.heap.size, 1, none⟩ = some (.string (bs wh)) := by simp [World.cell?, t9]
      have p2 : w9.cell? ⟨w3.heap.size, 2, none⟩ = some (.slice a2 ns.length c2) := by simp [World.cell?, t9]
      clear k0 k1 k2 f0 f1 f2 g0 g1 g2 x0 x1 x2 HSS s8 t8 B8 hb68
      obtain ⟨g0, g1, g2, x0, x1, x2⟩ := (r8.later hb9).cells
      have hsm := same_yes (.slice a3 ps.length c3) (.slice a4 ns.length c4) (.slice a1 ps.length c1) (.slice a2 ns.length c2) ps wh ns w9 (HV2.out.below hb69) (H1.out.below B9) (HNV2.out.below hb69) (H2.out.below B9) (by omega) (by omega)
      have HSM := Lib.hid hsm
      clear hsm hb9 r8
      go_wp2_with fail
      refine HSM.out.mono ?_
      rintro e w10 ⟨rfl, hb10⟩
      go_wp2
      go_ret
      exact ⟨rfl, B9.trans (hb10.mono B9.size)⟩

end Go.Proofs.YtgkbigbekmkobaaDoor
