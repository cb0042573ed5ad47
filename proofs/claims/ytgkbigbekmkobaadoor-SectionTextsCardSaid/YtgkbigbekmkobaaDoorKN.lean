/- section.Text of a Spec that came in. -/
import Derived.Test.YtgkbigbekmkobaaDoorKM
import Derived.Deep.DeepCutAuto
set_option linter.unusedVariables false
set_option linter.unusedSimpArgs false
namespace Go.Proofs.YtgkbigbekmkobaaDoor
open Go.RowKit

theorem parts_len {ps : List Int} {wh : List UInt8} (hp : ps.length ≤ 20) (hw : wh.length ≤ 1000) : (partsL ps wh).length ≤ 21 ∧ ∀ l ∈ partsL ps wh, l.length ≤ 1000 := by
  constructor
  · unfold partsL; split <;> simp <;> omega
  · intro l hl
    unfold partsL at hl
    rcases List.mem_append.1 hl with hl | hl
    · obtain ⟨n, _, rfl⟩ := List.mem_map.1 hl
      have := digitsL_len n.toNat
      omega
    · split at hl
      · cases hl
      · simp at hl; rw [hl]; exact hw

set_option maxRecDepth 100000 in
set_option maxHeartbeats 2000000 in
theorem secText_no (v : Value) (ps : List Int) (wh : List UInt8) (ns : List (List UInt8)) (ev : Value) (w : World) (hv : ArgP w v ps wh ns) (hE : w.cell? ⟨0, 0, none⟩ = some ev) (hp : ps.length ≤ 1000) (hnl : ns.length ≤ 1000) (hn : ∀ n ∈ ns, n.length ≤ 5000) (hr : rightL ps wh ns = false) :
    Calls Tryd.prog 13 #[v] w fun e w' => e = .returned (.tuple #[.string (bs []), ev]) ∧ Below w.heap.size w w' := by
  obtain ⟨va, nv, rfl, h1, h2, _⟩ := hv
  have H1 := Lib.hid h1
  have H2 := Lib.hid h2
  have HR := Lib.hid hr
  have HN := Lib.hid hn
  have HE := Lib.hid hE
  obtain ⟨a, c, rfl, _⟩ := h1
  obtain ⟨na, nc, rfl, _⟩ := h2
  clear hr hn hE
  go_enter Tryd.func13, Tryd.ntmps13
  go_wp2_with fail
  obtain ⟨wa, hwa⟩ : ∃ wa, w.alloc (.cells #[.slice a ps.length c, .string (bs wh), .slice na ns.length nc] 29) = wa := ⟨_, rfl⟩
  have b0 : Below w.heap.size w wa := by rw [← hwa]; exact (Below.refl _ _).alloc (Nat.le_refl _) _
  rw [hwa]
  clear hwa
  refine (right_any _ _ ps wh ns wa (H1.out.below b0) (H2.out.below b0) (fun n h => by have := HN.out n h; omega) (by omega) (by omega)).mono ?_
  rintro e w1 ⟨rfl, hb1⟩
  rw [HR.out]
  have B1 : Below w.heap.size w w1 := b0.trans (hb1.mono b0.size)
  have hE1 := (B1.cell (p := ⟨0, 0, none⟩) (cell_lt HE.out)).trans HE.out
  clear hb1 b0
  go_wp2
  go_region
  all_goals
    go_wp2
    go_ret2
    exact ⟨rfl, B1.drew⟩

set_option maxRecDepth 100000 in
set_option maxHeartbeats 2000000 in
theorem secText_yes (v : Value) (ps : List Int) (wh : List UInt8) (ns : List (List UInt8)) (w : World) (hv : ArgP w v ps wh ns) (hT : Tab w) (hw : wh.length ≤ 1000) (hp : ps.length ≤ 1000) (hnl : ns.length ≤ 1000) (hn : ∀ n ∈ ns, n.length ≤ 5000) (hr : rightL ps wh ns = true) :
    Calls Tryd.prog 13 #[v] w fun e w' => e = .returned (.tuple #[.string (bs (textL ps wh ns)), .nilIface]) ∧ Below w.heap.size w w' := by
  obtain ⟨i0, hi0, hz0, hz1, hz2⟩ := info_parts info_str
  obtain ⟨va, nv, rfl, h1, h2, h3⟩ := hv
  obtain ⟨r1, r2, r3, _, _, _⟩ := right_parts hr
  have R3 := Lib.hid r3
  have H1 := Lib.hid h1
  have H2 := Lib.hid h2
  have H3 := Lib.hid h3
  have HR := Lib.hid hr
  have HN := Lib.hid hn
  have HT := Lib.hid hT
  obtain ⟨TT, hTT⟩ : ∃ x, textL ps wh ns = x := ⟨_, rfl⟩
  rw [hTT]
  rw [text_join hr] at hTT
  have HTT := Lib.hid hTT
  obtain ⟨a, c, rfl, fa⟩ := h1
  obtain ⟨na, nc, rfl, _⟩ := h2
  have FA := Lib.hid fa
  clear hr hn hT r3 h3 hTT fa
  go_enter Tryd.func13, Tryd.ntmps13
  go_wp2_with fail
  obtain ⟨wa, hwa⟩ : ∃ wa, w.alloc (.cells #[.slice a ps.length c, .string (bs wh), .slice na ns.length nc] 29) = wa := ⟨_, rfl⟩
  have b0 : Below w.heap.size w wa := by rw [← hwa]; exact (Below.refl _ _).alloc (Nat.le_refl _) _
  have s0 : SpecN wa w.heap.size (.slice a ps.length c) wh (.slice na ns.length nc) := by rw [← hwa]; exact heap_new w _
  have z0 : wa.heap.size = w.heap.size + 1 := by rw [← hwa]; simp
  rw [hwa]
  clear hwa
  refine (right_any _ _ ps wh ns wa (H1.out.below b0) (H2.out.below b0) (fun n h => by have := HN.out n h; omega) (by omega) (by omega)).mono ?_
  rintro e w1 ⟨rfl, hb1⟩
  rw [HR.out]
  have B1 : Below w.heap.size w w1 := b0.trans (hb1.mono b0.size)
  have s1 := s0.later hb1
  have hz1' := s1.lt
  clear hb1 b0 s0 z0
  obtain ⟨c0, c1, c2, f0, f1, f2⟩ := s1.cells
  obtain ⟨B, hB⟩ : ∃ B, w1.heap.size = B := ⟨_, rfl⟩
  have hBw := B1.size
  rw [hB] at hBw hz1'
  go_wp2
  go_loopw [4, 6, 15] (fun v4 _ v15 wr => ∃ k : Nat, k ≤ ps.length ∧ v15 = .int .i64 k ∧ OwnS wr B v4 ((ps.take k).map fun n => digitsL n.toNat) ∧ Below w1.heap.size w1 wr) (fun _ _ v15 _ => ps.length - (intOf v15).toNat)
  case atStart => exact ⟨0, Nat.zero_le _, rfl, World.ownsRow_nil _ _ _ _, Below.refl _ _⟩
  case round =>
    clear c0 c1 c2 f0 f1 f2
    obtain ⟨k, hk, rfl, hown, hb⟩ := hrel
    have hzb := hb.size
    rw [hB] at hzb
    by_cases hlt : k < ps.length
    · obtain ⟨b, o, rfl, hbl, hcells⟩ := FA.out (by rintro rfl; simp at hlt)
      have BB : Below w.heap.size w wr := B1.trans (hb.mono B1.size)
      have hcell := (BB.cell (p := ⟨b, o + k, none⟩) hbl).trans (hcells k hlt)
      obtain ⟨n, hnn⟩ : ∃ n, ps.getD k 0 = n := ⟨_, rfl⟩
      rw [hnn] at hcell
      have hat : ps[k]? = some n := by rw [← hnn]; simp [List.getD, hlt]
      obtain ⟨n1, n2⟩ := R3.out n (List.mem_of_getElem? hat)
      have htk : (ps.take (k + 1)).map (fun n => digitsL n.toNat) = (ps.take k).map (fun n => digitsL n.toNat) ++ [digitsL n.toNat] := by
        rw [List.take_add_one, hat]; simp
      obtain ⟨D, hD⟩ : ∃ D, digitsL n.toNat = D := ⟨_, rfl⟩
      have hit := itoa_any n wr (by omega) (by omega) (HT.out.below BB)
      rw [hD] at htk hit
      have hlk : ((ps.take k).map fun n => digitsL n.toNat).length = k := by simp; omega
      obtain ⟨L, hL⟩ : ∃ L, (ps.take k).map (fun n => digitsL n.toNat) = L := ⟨_, rfl⟩
      rw [hL] at hown htk hlk
      have HIT := Lib.hid hit
      have HTK := Lib.hid htk
      have hlt' : (k : Int) < ps.length := by omega
      clear hnn hat hcells hit htk hD hL BB
      obtain ⟨va4, vn4, vc4, rfl, _⟩ := hown.form
      go_wp2_with fail
      refine HIT.out.mono ?_
      rintro e w2 ⟨rfl, hb2⟩
      have hown2 : OwnS w2 B (.slice va4 vn4 vc4) L := hown.later fun j hj => hb2.block j (World.ownsRow.lt hown j hj).2
      have hb12 : Below w1.heap.size w1 w2 := hb.trans (hb2.mono hb.size)
      have hzz := hb2.size
      clear hown hb hb2 HIT hcell
      go_wp2_with (at_builtin; refine wpList_append_own _ rfl _ _ 27 rfl B 9 i0 (.string ⟨#[]⟩) 1 16 Tryd.underlying27 hi0 hz0 hz1 hz2 rfl (by decide) _ _ _ rfl (World.ownsRow.alloc hown2 _) ⟨w2.heap.size, 0, none⟩ 1 1 [.string (bs D)] rfl rfl ?e1 ?e2 ?e3 ?e4 ?e5 ?_)
      case e1 =>
        intro j u hj
        match j, hj with
        | 0, hj => simp at hj; subst hj; simp [Addr.add]
      case e2 => intro u hu; simp at hu; subst hu; rfl
      case e3 => unfold maxLen; omega
      case e4 => omega
      case e5 => simp; omega
      intro v' w3 hown3 hgrow _
      have hlow := fun i e => (World.ownsRow.lt hown2 i e).1
      have o3 : OwnS w3 B v' ((ps.take (k + 1)).map fun n => digitsL n.toNat) := by rw [HTK.out]; exact OwnS.step (by rw [hlk]; exact hown3)
      have B3 : Below w1.heap.size w1 w3 := (hb12.alloc (by omega) _).grown hgrow (by simp; omega) (fun i e => by have := hlow i e; omega)
      clear hown3 hgrow hown2 hlow hb12 HTK
      go_wp2
      go_roundw
      case rel => exact ⟨k + 1, by omega, by go_num, o3, B3⟩
      case measure => simp [intOf]; omega
    · obtain rfl : k = ps.length := by omega
      rw [List.take_length] at hown
      clear hk hlt
      have s2 := s1.later hb
      obtain ⟨c0, c1, c2, f0, f1, f2⟩ := s2.cells
      obtain ⟨va4, vn4, vc4, rfl, _⟩ := hown.form
      obtain ⟨L, hL⟩ : ∃ L, ps.map (fun n => digitsL n.toNat) = L := ⟨_, rfl⟩
      have hparts : partsL ps wh = L ++ (if wh = [] then [] else [wh]) := by unfold partsL; rw [hL]
      have hLl : L.length = ps.length := by rw [← hL]; simp
      rw [hL] at hown
      have HPA := Lib.hid hparts
      clear hparts hL
      obtain ⟨wo, hwo⟩ : ∃ wo, wo = wr := ⟨_, rfl⟩
      subst hwo
      have hz9 := s2.lt
      have key : Hid (wh = [] ∨ ∃ c t, wh = c :: t) := by
        show _ ∨ _
        cases wh with
        | nil => exact .inl rfl
        | cons c t => exact .inr ⟨c, t, rfl⟩
      go_upto_if 27 with fail
      go_cut [4] (fun v4 wx => OwnS wx B v4 (partsL ps wh) ∧ Below w1.heap.size w1 wx)
      case first =>
        rcases key.out with e0 | ⟨cc, ct, e0⟩
        · have hp9 := HPA.out
          rw [if_pos e0, List.append_nil] at hp9
          have HP9 := Lib.hid hp9
          subst e0
          clear hp9 HPA key
          go_wp2
          go_meet
          case rel => exact ⟨by rw [HP9.out]; exact hown, hb⟩
        · have hp9 := HPA.out
          rw [if_neg (by rw [e0]; simp)] at hp9
          have HP9 := Lib.hid hp9
          subst e0
          clear hp9 HPA key
          go_wp2_with (at_builtin; refine wpList_append_own _ rfl _ _ 27 rfl B 9 i0 (.string ⟨#[]⟩) 1 16 Tryd.underlying27 hi0 hz0 hz1 hz2 rfl (by decide) _ _ _ rfl (World.ownsRow.alloc hown _) ⟨wo.heap.size, 0, none⟩ 1 1 [.string (bs (cc :: ct))] rfl rfl ?e1 ?e2 ?e3 ?e4 ?e5 ?_)
          case e1 =>
            intro j u hj
            match j, hj with
            | 0, hj => simp at hj; subst hj; simp [Addr.add]
          case e2 => intro u hu; simp at hu; subst hu; rfl
          case e3 => unfold maxLen; omega
          case e4 => omega
          case e5 => simp; omega
          intro v' w3 hown3 hgrow _
          have hlow := fun i e => (World.ownsRow.lt hown i e).1
          have o3 : OwnS w3 B v' (partsL ps (cc :: ct)) := by rw [HP9.out]; exact OwnS.step (by rw [hLl]; exact hown3)
          have B3 : Below w1.heap.size w1 w3 := (hb.alloc (by omega) _).grown hgrow (by simp; omega) (fun i e => by have := hlow i e; omega)
          clear hown3 hgrow hown hlow HP9
          go_wp2
          go_meet
          case rel => exact ⟨o3, B3⟩
      case rest =>
        clear hown hb c0 c1 c2 f0 f1 f2 s2 key HPA hzb
        obtain ⟨hown, hb⟩ := hcut
        obtain ⟨pl1, pl2⟩ := parts_len (wh := wh) r1 hw
        have jl := joinS_len [46] 1000 (partsL ps wh) pl2
        have jl2 := joinS_len [32] 5000 ns HN.out
        obtain ⟨PL, hPL⟩ : ∃ x, partsL ps wh = x := ⟨_, rfl⟩
        rw [hPL] at hown pl1 jl
        have hfin := HTT.out
        rw [hPL] at hfin
        have HFIN := Lib.hid hfin
        clear hPL pl2 hfin HTT
        have hpl : PL.length * (1000 + 1) ≤ 21 * 1001 := Nat.mul_le_mul_right _ pl1
        have hnl2 : ns.length * (5000 + 1) ≤ 20 * 5001 := Nat.mul_le_mul_right _ r2
        simp only [List.length_cons, List.length_nil, Nat.zero_add] at jl jl2
        have s2 := s1.later hb
        obtain ⟨c0, c1, c2, f0, f1, f2⟩ := s2.cells
        have BB : Below w.heap.size w wc := B1.trans (hb.mono B1.size)
        have hcapd : ∀ a n c, u4 = .slice a n c → n ≤ c := by
          intro a n c e
          rcases hown.strs with ⟨h, _⟩ | ⟨_, _, _, h, h2, _⟩
          · rw [h] at e; cases e; exact Nat.le_refl _
          · rw [h] at e; cases e; exact h2
        have hj := joinF_any wc u4 PL [46] hown.strs.form hcapd (by omega) (by omega)
        obtain ⟨J, hJ⟩ : ∃ J, Lib.join PL [46] = J := ⟨_, rfl⟩
        rw [hJ] at hj jl
        have HFI2 := HFIN.out
        rw [hJ] at HFI2
        have HFI3 := Lib.hid HFI2
        have HJ := Lib.hid hj
        clear hj hcapd hJ HFI2 HFIN
        go_wp2_with fail
        refine HJ.out.mono ?_
        rintro e w3 ⟨rfl, hb3⟩
        have BB3 : Below w.heap.size w w3 := BB.trans (hb3.mono BB.size)
        have q2 := (hb3.cell (p := ⟨w.heap.size, 2, none⟩) (cell_lt c2)).trans c2
        clear c0 c1 c2 f0 f1 f2 s2 hown hb hb3 HJ
        by_cases hn0 : ns = []
        · have hT9 := HFI3.out
          rw [if_pos hn0, List.append_nil] at hT9
          have HT9 := Lib.hid hT9
          subst hn0
          clear hT9 HFI3
          go_wp2
          go_ret2
          exact ⟨by rw [HT9.out] <;> rfl, BB3⟩
        · have hT9 := HFI3.out
          rw [if_neg hn0] at hT9
          have HT9 := Lib.hid hT9
          have hpos : (0 : Int) < ns.length := by have := List.length_pos_iff.2 hn0; omega
          have hj2 := joinF_any w3 _ ns [32] (H2.out.below BB3) H3.out (by omega) (by omega)
          obtain ⟨J2, hJ2⟩ : ∃ J, Lib.join ns [32] = J := ⟨_, rfl⟩
          rw [hJ2] at hj2 jl2
          have hT10 := HT9.out
          rw [hJ2] at hT10
          have HT10 := Lib.hid hT10
          have HJ2 := Lib.hid hj2
          clear hT9 HFI3 hn0 hj2 hJ2 hT10 HT9
          go_wp2_with fail
          refine HJ2.out.mono ?_
          rintro e w4 ⟨rfl, hb4⟩
          go_wp2
          go_ret2
          exact ⟨by rw [← HT10.out]; simp [bs_append], BB3.trans (hb4.mono BB3.size)⟩

end Go.Proofs.YtgkbigbekmkobaaDoor
