/- The document's Scan. -/
import Derived.Test.YtcjnpklmfcbofaaDoorMA
import Derived.Test.YtcjnpklmfcbofaaDoorSq
set_option linter.unusedVariables false
set_option linter.unusedSimpArgs false
namespace Go.Proofs.YtcjnpklmfcbofaaDoor
open Go.RowKit

/-- what the document's Scan hands back -/
def RefScanIs (R : Option (List Sp)) (e : Ending) (w w' : World) : Prop :=
  (match R with
   | none => e = .returned (.tuple #[.slice none 0 0, .bool false])
   | some ss => ∃ v, e = .returned (.tuple #[v, .bool true]) ∧ OwnP w' w.heap.size v ss) ∧ Below w.heap.size w w'

theorem getD_line {ls : List (List UInt8)} {k : Nat} (h : k < ls.length) {l : List UInt8} (hl : ls.getD k [] = l) : ls.drop k = l :: ls.drop (k + 1) := by
  rw [List.drop_eq_getElem_cons h, ← hl, List.getD_eq_getElem?_getD, List.getElem?_eq_getElem h]; rfl
/-- the lines' slice where all blocks but the spans' row are as they were -/
theorem OwnS.awayP {w w' : World} {B B2 : Nat} {v v2 : Value} {fs : List Sp} {ls : List (List UInt8)} (h : OwnS w B2 v2 ls) (hr : OwnP w B v fs) (hf : ∀ k, k < w.heap.size → v.ownBlock ≠ some k → w'.heap[k]? = w.heap[k]?) : OwnS w' B2 v2 ls := by
  refine ⟨h.1, ?_⟩
  rcases h.2 with h0 | ⟨g, cap, cur, rfl, h1, h2, r⟩
  · exact .inl h0
  · refine .inr ⟨g, cap, cur, rfl, h1, (hf g (Array.getElem?_eq_some_iff.1 h2).1 ?_).trans h2, r⟩
    intro e
    rcases hr.2 with ⟨rfl, _⟩ | ⟨g', cap', cur', rfl, _, hg', _⟩
    · cases e
    · obtain rfl : g' = g := by simpa [Value.ownBlock] using e
      rw [h2] at hg'
      simp at hg'

set_option maxRecDepth 100000 in
set_option maxHeartbeats 8000000 in
theorem refScan_any (file : List UInt8) (w : World) (hl : file.length ≤ 1000000) :
    Calls Tryd.prog 15 #[.string (bs file)] w (RefScanIs (scanL file) · w ·) := by
  obtain ⟨i0, hi0, hz0, hz1, hz2⟩ := info_parts info_sp
  rw [← refScan_same]
  have hlf := linesOf_flatten file
  have hll := linesOf_length file
  have hne := lines_ne file
  obtain ⟨ls, hls⟩ : ∃ ls, linesOf file = ls := ⟨_, rfl⟩
  obtain ⟨R, hR⟩ : ∃ R, refGo file (ls.length + 1) 0 ls = R := ⟨_, rfl⟩
  rw [hls] at hlf hll hne ⊢
  rw [hR]
  have HLS := Lib.hid hls
  have HR := Lib.hid hR
  have HLF := Lib.hid hlf
  have HNE := Lib.hid hne
  clear hls hR hlf hne
  go_enter Tryd.func15, Tryd.ntmps15
  go_wp2_with fail
  refine (refSplit_any file _ (by omega)).mono ?_
  rintro e w2 ⟨v2, rfl, o2, hb2⟩
  rw [HLS.out] at o2
  have k2 : OwnP w2 w.heap.size (.slice (some ⟨w.heap.size, 0, none⟩) 0 0) [] := OwnP.below (World.ownsRow_lit w #[] 0 (Nat.le_refl _) (by decide) rfl) hb2
  have hB2 : Below w.heap.size w w2 := ((Below.refl _ w).alloc (Nat.le_refl _) _).trans (hb2.mono (by simp))
  rw [size_alloc] at o2
  clear hb2
  obtain ⟨a2, n2, cap2, rfl, hn2⟩ := OwnS.form o2
  obtain rfl : n2 = ls.length := hn2.out
  clear hn2
  go_wp2_with fail
  go_loopw [4, 6, 7, 8, 9, 10] (fun v4 v6 v7 _ _ _ wr => ∃ (k p f : Nat) (out : List Sp), k ≤ ls.length ∧ out.length ≤ k ∧ ls.length < f + k ∧ v6 = .int .i64 p ∧ v7 = .int .i64 k ∧ OwnP wr w.heap.size v4 out ∧ OwnS wr (w.heap.size + 1) (.slice a2 ls.length cap2) ls ∧ Below w.heap.size w wr ∧ Hid ((refGo file f p (ls.drop k)).map (out ++ ·) = R) ∧ Hid (p + (ls.drop k).flatten.length = file.length)) (fun _ _ v7 _ _ _ _ => ls.length - (intOf v7).toNat)
  case atStart => exact ⟨0, 0, ls.length + 1, [], Nat.zero_le _, Nat.le_refl _, by omega, rfl, rfl, k2, o2, hB2, by show _ = _; rw [List.drop_zero, HR.out]; cases R <;> rfl, by show _ = _; rw [List.drop_zero, HLF.out]; omega⟩
  case round =>
    obtain ⟨k, p, f, out, hk, hfk, hfu, rfl, rfl, hof, hos, hB, hgo, hpl⟩ := hrel
    have hzr := hB.size
    obtain ⟨va, vn, vc, rfl, hvn⟩ := hof.form
    obtain rfl : vn = out.length := hvn.out
    clear hvn
    by_cases hlt : k < ls.length
    · obtain ⟨g, cap, hv2, hg⟩ := (OwnS.parts hos).resolve_left (fun h => by have := h.2; rw [this] at hlt; simp at hlt)
      obtain ⟨rfl, rfl⟩ : a2 = some ⟨g, 0, none⟩ ∧ cap2 = cap := by simpa using hv2
      obtain ⟨x1, hx1⟩ : ∃ l, ls.getD k [] = l := ⟨_, rfl⟩
      have hcell := (OwnS.set hos hlt []).1
      rw [hx1] at hcell
      have hdrop := getD_line hlt hx1
      have hx1m : x1 ∈ ls := by rw [← hx1, List.getD_eq_getElem?_getD, List.getElem?_eq_getElem hlt]; exact List.getElem_mem hlt
      have hx1n := HNE.out x1 hx1m
      obtain ⟨n1, hn1⟩ : ∃ n, x1.length = n + 1 := ⟨x1.length - 1, by have := List.length_pos_iff.2 hx1n; omega⟩
      have hn1lt : n1 < x1.length := by omega
      obtain ⟨c, hc⟩ : ∃ c, (bs x1)[n1]'(by rw [bs_size]; exact hn1lt) = c := ⟨_, rfl⟩
      have hlast : x1.getLast? = some c := by
        rw [List.getLast?_eq_getElem?, show x1.length - 1 = n1 by omega]
        exact List.getElem?_eq_some_iff.2 ⟨by omega, hc⟩
      have e1 : (x1.length : Int) - 1 = (n1 : Int) := by omega
      obtain ⟨F, rfl⟩ : ∃ F, f = F + 1 := ⟨f - 1, by omega⟩
      have hpl' := hpl.out
      have hgo' := hgo.out
      rw [hdrop, refGo_cons, hlast] at hgo'
      rw [hdrop, List.flatten_cons, List.length_append] at hpl'
      have hpp : p + x1.length ≤ 1000000 := by omega
      have HPL : Hid (p + x1.length + (ls.drop (k + 1)).flatten.length = file.length) := by show _ = _; omega
      have HOS := Lib.hid hos
      have HGO := Lib.hid hgo'
      have hlt' : (k : Int) < ls.length := by omega
      have hmk := fun w => marks_any x1 0 w (Nat.zero_le _) (by omega)
      rw [List.drop_zero] at hmk
      have hmz := marks_zero x1
      obtain ⟨M, hM⟩ : ∃ M, marksL x1 = M := ⟨_, rfl⟩
      rw [hM] at hmk hmz
      have HMK := Lib.hid hmk
      have HMZ := Lib.hid hmz
      clear hx1 hdrop hgo hpl hgo' hpl' hv2 hmk hmz hM hlast hx1m hx1n hn1
      by_cases hm0 : M = 0
      · subst hm0
        have hs1 : sepB x1 = true := HMZ.out.1 rfl
        rcases hc10 : ((c.toNat : Int) != 10) with _ | _
        · have hc1 : c = 10 := by
            apply UInt8.toNat_inj.1
            have := eq_of_beq (by simpa [bne] using hc10 : ((c.toNat : Int) == 10) = true)
            show c.toNat = 10
            omega
          have hgo2 := HGO.out
          rw [if_pos ⟨hs1, by rw [hc1]⟩] at hgo2
          obtain ⟨SQ, hSQ⟩ : ∃ q, skipNo (p + x1.length) (ls.drop (k + 1)) = q := ⟨_, rfl⟩
          obtain ⟨Q, SR⟩ := SQ
          rw [hSQ] at hgo2
          simp only at hgo2
          have HGO2 := Lib.hid hgo2
          have HSQ := Lib.hid hSQ
          clear hgo2 hSQ HMZ HGO hs1 hc1
          go_wp2
          go_quiet ((go_at_call 28; exact Calls.quiet_of_same ((HMK.out _).mono fun _ _ ⟨h, k⟩ => ⟨h, k.symm⟩)))
          obtain ⟨wd, hwd⟩ : ∃ wd, wr.drewN nq = wd := ⟨_, rfl⟩
          have hBd : Below w.heap.size w wd := by rw [← hwd]; exact below_drewN hB _
          have hfd : ∀ k : Nat, wd.heap[k]? = wr.heap[k]? := by intro k; rw [← hwd]; simp
          have hofd := OwnP.later hof (w' := wd) (fun k _ => hfd k)
          have hcd : wd.cell? ⟨g, k, none⟩ = some (.string (bs x1)) := by rw [← hwd]; simpa using hcell
          have hosd : OwnS wd (w.heap.size + 1) (.slice (some ⟨g, 0, none⟩) ls.length cap2) ls := OwnS.stay HOS.out (by rw [← hwd]; exact below_drewN (Below.refl _ _) _)
          have hzd := hBd.size
          have hgd : g < wd.heap.size := (World.ownsRow.lt hosd g rfl).2
          rw [hwd]
          clear hwd hof hos hcell hfd HOS o2
          obtain ⟨b, hb1, hb2⟩ := skip_flat (ls.drop (k + 1)) (p + x1.length)
          rw [HSQ.out] at hb1 hb2
          simp only at hb1 hb2
          have hfl : (ls.drop (k + 1)).flatten.length = b.flatten.length + SR.flatten.length := by rw [hb1]; simp
          have hQ1 : p + x1.length ≤ Q := by omega
          have hQ2 : Q + SR.flatten.length = file.length := by have := HPL.out; omega
          have hQ3 : Q ≤ file.length := by omega
          have HQ2 := Lib.hid hQ2
          have rm := fun w0 => run_mid file (p + x1.length) Q hQ1 hQ3 w0
          obtain ⟨T, hT⟩ : ∃ T, (file.drop (p + x1.length)).take (Q - (p + x1.length)) = T := ⟨_, rfl⟩
          have hTl : T.length ≤ 100000000 := by rw [← hT]; simp; omega
          rw [hT] at rm
          have rm2 : ∀ w0, (Instr.slice 9 (.string (bs file)) (some (.int .i64 ((p : Int) + x1.length))) (some (.int .i64 Q)) none).run Tryd.prog w0 = .ok (.string (bs T)) w0 := rm
          have hgo3 := HGO2.out
          rw [hT] at hgo3
          have HGO3 := Lib.hid hgo3
          clear hgo3 HGO2 hT hb1 hb2 hfl hQ2 rm
          go_upto_block 2 with fail
          obtain ⟨W0, hW0⟩ : ∃ W0, wd.alloc (.cells #[.int .i64 p, .int .i64 ((p : Int) + x1.length), .int .i64 0] 32) = W0 := ⟨_, rfl⟩
          have a0 : W0.heap[wd.heap.size]? = some (.cells #[.int .i64 p, .int .i64 ((p : Int) + x1.length), .int .i64 0] 32 (0, 0)) := by rw [← hW0]; exact heap_new _ _
          have hB0 : Below w.heap.size w W0 := by rw [← hW0]; exact hBd.alloc hBd.size _
          have hbd0 : Below wd.heap.size wd W0 := by rw [← hW0]; exact (Below.refl _ _).alloc (Nat.le_refl _) _
          have hof0 := hofd.below hbd0
          have hos0 := hosd.stay hbd0
          have hw0z : W0.heap.size = wd.heap.size + 1 := by rw [← hW0]; simp
          have hlv : ∀ x, (Value.slice va out.length vc).ownBlock = some x → x < wd.heap.size := fun x hx => (World.ownsRow.lt hofd x hx).2
          rw [hW0]
          obtain ⟨gs, hgs⟩ : ∃ gs, wd.heap.size = gs := ⟨_, rfl⟩
          rw [hgs] at a0 hw0z hzd hgd hlv ⊢
          clear hW0 hbd0 hofd hosd hcd hBd hgs
          have HLV := Lib.hid hlv
          have HF0 := Lib.hid hof0
          have HS0 := Lib.hid hos0
          have HA0 := Lib.hid a0
          clear hof0 hlv a0
          go_cut [6, 7] (fun v6 v7 wc => W0 = wc ∧ ∃ k2 : Nat, k < k2 ∧ k2 ≤ ls.length ∧ v6 = .int .i64 Q ∧ v7 = .int .i64 k2 ∧ Hid (ls.drop k2 = SR))
          case first =>
            go_wp2_with fail
            go_loop [6, 7] (fun v6 v7 => ∃ (k2 q : Nat), k < k2 ∧ k2 ≤ ls.length ∧ v6 = .int .i64 q ∧ v7 = .int .i64 k2 ∧ Hid (skipNo q (ls.drop k2) = (Q, SR)) ∧ Hid (q + (ls.drop k2).flatten.length = file.length)) (fun _ v7 => ls.length - (intOf v7).toNat)
            case atStart => exact ⟨k + 1, p + x1.length, by omega, by omega, by go_num, by go_num, HSQ.out, HPL.out⟩
            case round =>
              clear rm2
              obtain ⟨k2, q, hk2, hk3, rfl, rfl, hsk, hpl⟩ := hrel
              by_cases hlt2 : k2 < ls.length
              · obtain ⟨x2, hx2⟩ : ∃ l, ls.getD k2 [] = l := ⟨_, rfl⟩
                have hcell2 := (OwnS.set HS0.out hlt2 []).1
                rw [hx2] at hcell2
                have hdr := getD_line hlt2 hx2
                have hsk2 := hsk.out
                have hpl2 := hpl.out
                rw [hdr] at hsk2
                rw [hdr, List.flatten_cons, List.length_append] at hpl2
                have HPL2 : Hid (q + x2.length + (ls.drop (k2 + 1)).flatten.length = file.length) := by show _ = _; omega
                have hq2 : q + x2.length ≤ 1000000 := by omega
                have hlt3 : (k2 : Int) < ls.length := by omega
                have hmk := fun w => marks_any x2 0 w (Nat.zero_le _) (by omega)
                rw [List.drop_zero] at hmk
                have hmz := marks_zero x2
                obtain ⟨M, hM⟩ : ∃ M, marksL x2 = M := ⟨_, rfl⟩
                rw [hM] at hmk hmz
                have HMK := Lib.hid hmk
                have HMZ := Lib.hid hmz
                have HSK := Lib.hid hsk2
                have HDR := Lib.hid hdr
                clear hx2 hdr hsk hpl hsk2 hpl2 hmk hmz hM hos0
                by_cases hm0 : M = 0
                · subst hm0
                  have h9 := HSK.out
                  rw [skipNo, if_pos (HMZ.out.1 rfl)] at h9
                  obtain ⟨rfl, rfl⟩ := Prod.mk.inj h9
                  clear h9 HSK HMZ
                  go_wp2_with (refine (HMK.out _).mono ?_; rintro e w' ⟨rfl, rfl⟩)
                  go_meet
                  case rel => exact ⟨rfl, k2, hk2, hk3, rfl, rfl, HDR.out⟩
                · have hm1 : (M != 0) = true := by simpa [bne] using hm0
                  have h9 := HSK.out
                  rw [skipNo, if_neg (fun h => hm0 (HMZ.out.2 h))] at h9
                  have H9 := Lib.hid h9
                  clear h9 HSK HMZ HDR hm0
                  go_wp2_with (refine (HMK.out _).mono ?_; rintro e w' ⟨rfl, rfl⟩)
                  go_round
                  case rel => exact ⟨k2 + 1, q + x2.length, by omega, by omega, by go_num, by go_num, H9.out, HPL2.out⟩
                  case measure => simp [intOf]; omega
              · obtain rfl : k2 = ls.length := by omega
                have h9 := hsk.out
                rw [List.drop_length, skipNo] at h9
                obtain ⟨rfl, rfl⟩ := Prod.mk.inj h9
                clear h9 hsk hpl hos0
                go_wp2_with fail
                go_meet
                case rel => exact ⟨rfl, ls.length, hk2, hk3, rfl, rfl, List.drop_length⟩
          case rest =>
            obtain ⟨rfl, k2, hk2, hk3, rfl, rfl, hsr⟩ := hcut
            have b1 : (W0.setCell ⟨gs, 2, none⟩ (.int .i64 Q)).heap[gs]? = some (.cells #[.int .i64 p, .int .i64 ((p : Int) + x1.length), .int .i64 Q] 32 (0, 0)) := by simp [World.setCell, Array.getElem?_modify, HA0.out]
            have hw1z : (W0.setCell ⟨gs, 2, none⟩ (.int .i64 Q)).heap.size = W0.heap.size := by simp
            have a0 : W0.cell? ⟨gs, 0, none⟩ = some (.int .i64 p) := by simp [World.cell?, HA0.out]
            have a1 : W0.cell? ⟨gs, 1, none⟩ = some (.int .i64 ((p : Int) + x1.length)) := by simp [World.cell?, HA0.out]
            have a2 : W0.cell? ⟨gs, 2, none⟩ = some (.int .i64 0) := by simp [World.cell?, HA0.out]
            have a3 : W0.frozen? ⟨gs, 2, none⟩ = false := by simp [World.frozen?, HA0.out]
            have hB1 : Below w.heap.size w (W0.setCell ⟨gs, 2, none⟩ (.int .i64 Q)) := hB0.setCell (p := ⟨gs, 2, none⟩) hzd _
            have hf1 : OwnP (W0.setCell ⟨gs, 2, none⟩ (.int .i64 Q)) w.heap.size (.slice va out.length vc) out := HF0.out.later (fun x hx => Below.heap_setCell _ _ _ _ (by have := HLV.out x hx; simp; omega))
            have hs1 : OwnS (W0.setCell ⟨gs, 2, none⟩ (.int .i64 Q)) (w.heap.size + 1) (.slice (some ⟨g, 0, none⟩) ls.length cap2) ls := by
              refine ⟨HS0.out.1, ?_⟩
              rcases HS0.out.2 with h0 | ⟨g', cap', cur, e, h1, h2, r⟩
              · exact .inl h0
              · refine .inr ⟨g', cap', cur, e, h1, (Below.heap_setCell _ _ _ _ ?_).trans h2, r⟩
                simp at e
                simp; omega
            have HB1 := Lib.hid b1
            have HF1 := Lib.hid hf1
            have HS1 := Lib.hid hs1
            obtain ⟨ok, hok⟩ : ∃ ok, decOk T = ok := ⟨_, rfl⟩
            clear hf1 hs1 b1 HF0 HS0 HA0 hos0
            cases ok with
            | false =>
              have hR0 : R = none := by
                have h9 := HGO3.out
                rw [hok, if_neg (by simp)] at h9
                exact h9.symm
              subst hR0
              have hd := fun w0 => refDecode_no T w0 hTl hok
              have HD := Lib.hid hd
              clear hd hok HGO3
              go_wp2_with fail
              refine (HD.out _).mono ?_
              rintro e' w5 ⟨rfl, hb5⟩
              go_wp2
              go_ret2
              exact ⟨rfl, hB1.trans (hb5.mono hB1.size)⟩
            | true =>
              have hgo4 := HGO3.out
              rw [hok, if_pos rfl] at hgo4
              have HGO4 := Lib.hid hgo4
              have hd := fun w0 => refDecode_yes T w0 hTl hok
              have HD := Lib.hid hd
              clear hd hok HGO3 hgo4
              go_wp2_with fail
              refine (HD.out _).mono ?_
              rintro e' w5 ⟨rfl, hb5⟩
              have hB5 := hB1.trans (hb5.mono hB1.size)
              have hz5 := hb5.size
              rw [hw1z] at hz5
              have c5 : w5.heap[gs]? = some (.cells #[.int .i64 p, .int .i64 ((p : Int) + x1.length), .int .i64 Q] 32 (0, 0)) := (hb5.block gs (Array.getElem?_eq_some_iff.1 HB1.out).1).trans HB1.out
              have f0 : w5.cell? ⟨gs, 0, none⟩ = some (.int .i64 p) := by simp [World.cell?, c5]
              have f1 : w5.cell? ⟨gs, 1, none⟩ = some (.int .i64 ((p : Int) + x1.length)) := by simp [World.cell?, c5]
              have f2 : w5.cell? ⟨gs, 2, none⟩ = some (.int .i64 Q) := by simp [World.cell?, c5]
              have hf5 := HF1.out.below hb5
              have hs5 := HS1.out.stay hb5
              have hzw5 := hB5.size
              have HS5 := Lib.hid hs5
              clear hs5 c5 HB1 HF1 HS1 a0 a1 a2 a3 rm2 HD
              go_wp2_with (at_builtin; refine wpList_append_own _ rfl _ _ 28 rfl w.heap.size 32 i0 (.agg #[.int .i64 0, .int .i64 0, .int .i64 0]) 3 24 Tryd.underlying28 hi0 hz0 hz1 hz2 rfl (by decide) _ _ _ rfl (World.ownsRow.alloc hf5 _) ⟨w5.heap.size, 0, none⟩ 1 1 [.int .i64 p, .int .i64 ((p : Int) + x1.length), .int .i64 Q] rfl rfl ?e1 ?e2 ?e3 ?e4 ?e5 ?_)
              case e1 =>
                intro j u hj
                match j, hj with
                | 0, hj => simp at hj; subst hj; simp [Addr.add]
                | 1, hj => simp at hj; subst hj; simp [Addr.add]
                | 2, hj => simp at hj; subst hj; simp [Addr.add]
                | n + 3, hj => simp at hj
              case e2 => intro u hu; simp at hu; rcases hu with rfl | rfl | rfl <;> rfl
              case e3 => unfold maxLen; omega
              case e4 => omega
              case e5 => simp; omega
              intro v' w3 hown3 hgrow _
              have hlow := fun i e => (World.ownsRow.lt hf5 i e).1
              have o3 : OwnP w3 w.heap.size v' (out ++ [⟨p, p + x1.length, Q⟩]) := OwnP.step (by simpa [cellsSp1] using hown3)
              have B3 : Below w.heap.size w w3 := (hB5.alloc hzw5 _).grown hgrow (by simp; omega) (fun i e => hlow i e)
              have s3 : OwnS w3 (w.heap.size + 1) (.slice (some ⟨g, 0, none⟩) ls.length cap2) ls := by
                have s0 := HS5.out.stay ((Below.refl w5.heap.size w5).alloc (Nat.le_refl _) (.cells #[.int .i64 p, .int .i64 ((p : Int) + x1.length), .int .i64 Q] 32))
                exact s0.awayP (hf5.below ((Below.refl _ _).alloc (Nat.le_refl _) _)) (fun i hi hne => hgrow.block i hi (fun e => hne e.symm))
              obtain ⟨na, nn, nc, rfl, hnn⟩ := o3.form
              obtain rfl : nn = (out ++ [(⟨p, p + x1.length, Q⟩ : Sp)]).length := hnn.out
              clear hnn hown3 hgrow hf5 HS5 hlow
              go_wp2
              go_roundw
              case rel => exact ⟨k2, Q, F, out ++ [⟨p, p + x1.length, Q⟩], hk3, by simp; omega, by omega, rfl, rfl, o3, s3, B3, by show _ = _; rw [hsr.out, ← HGO4.out]; cases refGo file F Q SR <;> simp, by show _ = _; rw [hsr.out]; exact HQ2.out⟩
              case measure => simp [intOf]; omega
        · have hR0 : R = none := by
            have h9 := HGO.out
            rw [if_neg (fun h => by
              have h8 : c = 10 := by simpa using h.2
              rw [h8] at hc10
              exact absurd hc10 (by decide))] at h9
            exact h9.symm
          subst hR0
          clear HGO HMZ
          go_wp2
          go_quiet ((go_at_call 28; exact Calls.quiet_of_same ((HMK.out _).mono fun _ _ ⟨h, k⟩ => ⟨h, k.symm⟩)))
          go_wp2
          go_ret2
          exact ⟨rfl, below_drewN hB _⟩
      · have hR0 : R = none := by
          have h9 := HGO.out
          rw [if_neg (fun h => hm0 (HMZ.out.2 h.1))] at h9
          exact h9.symm
        subst hR0
        have hm1 : (M != 0) = true := by simpa [bne] using hm0
        clear HGO HMZ hm0
        go_wp2
        go_quiet ((go_at_call 28; exact Calls.quiet_of_same ((HMK.out _).mono fun _ _ ⟨h, k⟩ => ⟨h, k.symm⟩)))
        go_wp2
        go_ret2
        exact ⟨rfl, below_drewN hB _⟩
    · obtain rfl : k = ls.length := by omega
      have hR9 : R = some out := by
        have h9 := hgo.out
        obtain ⟨F, rfl⟩ : ∃ F, f = F + 1 := ⟨f - 1, by omega⟩
        rw [List.drop_length, refGo] at h9
        rw [← h9]
        simp
      subst hR9
      clear hgo hpl
      go_wp2
      go_ret2
      exact ⟨⟨_, rfl, hof⟩, hB⟩

end Go.Proofs.YtcjnpklmfcbofaaDoor
