/- mbox.Scan. -/
import Derived.Test.YtcjnpklmfcbofaaDoorM5
import Derived.Test.YtcjnpklmfcbofaaDoorSp
import Derived.BigQuiet
import Derived.Deep.DeepCutAuto
import Derived.Deep.CutBlock
set_option linter.unusedVariables false
set_option linter.unusedSimpArgs false
namespace Go.Proofs.YtcjnpklmfcbofaaDoor
open Go.RowKit

/-- what Scan hands back -/
def ScanIs (R : Option (List Sp)) (ev : Value) (e : Ending) (w w' : World) : Prop :=
  (match R with
   | none => e = .returned (.tuple #[.slice none 0 0, ev])
   | some ss => ∃ v, e = .returned (.tuple #[v, .nilIface]) ∧ OwnP w' w.heap.size v ss) ∧ Below w.heap.size w w'
theorem OwnP.base {w : World} {b b' : Nat} {v : Value} {l : List Sp} (h : OwnP w b v l) (hb : b' ≤ b) : OwnP w b' v l := by
  refine ⟨h.1, ?_⟩
  rcases h.2 with h0 | ⟨g, cap, cur, e, h1, r⟩
  · exact .inl h0
  · exact .inr ⟨g, cap, cur, e, Nat.le_trans hb h1, r⟩
theorem OwnS.stay {w w' : World} {B : Nat} {v : Value} {ls : List (List UInt8)} (h : OwnS w B v ls) (hb : Below w.heap.size w w') : OwnS w' B v ls := by
  refine ⟨h.1, ?_⟩
  rcases h.2 with h0 | ⟨g, cap, cur, rfl, h1, h2, r⟩
  · exact .inl h0
  · exact .inr ⟨g, cap, cur, rfl, h1, (hb.block g (Array.getElem?_eq_some_iff.1 h2).1).trans h2, r⟩

set_option maxRecDepth 100000 in
set_option maxHeartbeats 4000000 in
theorem scan_any (file : List UInt8) (x : Addr) (w : World) (hl : file.length ≤ 1000000) (hE : w.cell? ⟨1, 0, none⟩ = some (errV x)) :
    Calls Tryd.prog 9 #[.string (bs file)] w (ScanIs (scanL file) (errV x) · w ·) := by
  obtain ⟨i0, hi0, hz0, hz1, hz2⟩ := info_parts info_sp
  obtain ⟨R, hR⟩ : ∃ R, scanL file = R := ⟨_, rfl⟩
  rw [hR]
  unfold scanL at hR
  obtain ⟨G, hG⟩ : ∃ G, goSp none 0 (linesOf file) = G := ⟨_, rfl⟩
  rw [hG] at hR
  have hbd : ∀ ss, G = some ss → ∀ s ∈ ss, s.head < s.body ∧ s.body ≤ s.fin ∧ s.fin ≤ file.length := by
    intro ss h s hs
    have h3 := goSp_bd _ none 0 ss (fun c e => by cases e) (lines_ne file) (hG.trans h) s hs
    rw [linesOf_flatten] at h3
    exact ⟨h3.1, h3.2.1, by omega⟩
  have HBD := Lib.hid hbd
  have HR := Lib.hid hR
  have HG := Lib.hid hG
  have HE := Lib.hid hE
  have hlf := linesOf_flatten file
  have hll := linesOf_length file
  obtain ⟨ls, hls⟩ : ∃ ls, linesOf file = ls := ⟨_, rfl⟩
  have hsp := split_any file w (by omega)
  rw [hls] at HG hlf hll hsp
  have HLF := Lib.hid hlf
  clear hR hG hbd hE hlf hls
  go_enter Tryd.func9, Tryd.ntmps9
  go_wp2_with fail
  refine hsp.mono ?_
  clear hsp
  rintro e w1 ⟨vl, rfl, hos, hb1⟩
  have HOS := Lib.hid hos
  obtain ⟨la, ln, lc, rfl, hln⟩ := hos.form
  obtain rfl : ln = ls.length := hln.out
  clear hos hln
  have hzb := hb1.size
  obtain ⟨B, hB⟩ : ∃ B, w1.heap.size = B := ⟨_, rfl⟩
  go_upto_block 0 with fail
  go_cut [4, 5, 7, 8, 9, 17] (fun v4 _ _ _ _ _ wc => ∃ out : List Sp, OwnP wc B v4 out ∧ Below w1.heap.size w1 wc ∧ Hid (G = some out) ∧ out.length ≤ file.length)
  case first =>
    go_wp2_with fail
    go_loopw [4, 5, 7, 8, 9, 17] (fun v4 v5 _ _ _ v17 wr => ∃ (k p : Nat) (out : List Sp), k ≤ ls.length ∧ v17 = .int .i64 k ∧ v5 = .int .i64 p ∧ OwnP wr B v4 out ∧ Below w1.heap.size w1 wr ∧ out.length ≤ k ∧ Hid (p + (ls.drop k).flatten.length = file.length) ∧
        ((out = [] ∧ Hid (goSp none p (ls.drop k) = G)) ∨ ∃ done h b, out = done ++ [⟨h, b, p⟩] ∧ Hid ((goSp (some (h, b)) p (ls.drop k)).map (done ++ ·) = G))) (fun _ _ _ _ _ v17 _ => ls.length - (intOf v17).toNat)
    case atStart => exact ⟨0, 0, [], Nat.zero_le _, rfl, rfl, World.ownsRow_nil _ _ _ _, Below.refl _ _, Nat.le_refl _, by show _ = _; rw [List.drop_zero, HLF.out]; omega, .inl ⟨rfl, by show _ = _; exact HG.out⟩⟩
    case round =>
      obtain ⟨k, p, out, hk, rfl, rfl, hown, hbw, hol, hpl, hst⟩ := hrel
      have hzw := hbw.size
      rw [hB] at hzw
      by_cases hlt : k < ls.length
      · obtain ⟨x1, hx1⟩ : ∃ y, ls.getD k [] = y := ⟨_, rfl⟩
        have hosr := HOS.out.stay hbw
        have hcell : ∃ b, la = some ⟨b, 0, none⟩ ∧ wr.cell? ⟨b, k, none⟩ = some (.string (bs x1)) := by
          rcases hosr.strs with ⟨_, h⟩ | ⟨b, o, c, h, _, _, h3⟩
          · rw [h] at hlt; simp at hlt
          · rcases hosr.2 with ⟨h0, _⟩ | ⟨g, cap, cur, h0, _⟩
            · injection h0 with _ h8 _
              omega
            · simp at h h0
              obtain ⟨rfl, rfl, _⟩ := h0
              simp at h
              obtain ⟨⟨rfl, rfl⟩, _⟩ := h
              have := h3 k hlt
              rw [Nat.zero_add, hx1] at this
              exact ⟨g, rfl, this⟩
        obtain ⟨bl, rfl, hcell⟩ := hcell
        have hdr : ls.drop k = x1 :: ls.drop (k + 1) := by rw [List.drop_eq_getElem_cons hlt, ← hx1]; simp [List.getD, hlt]
        have hp1 := hpl.out
        rw [hdr, List.flatten_cons, List.length_append] at hp1
        have HP1 : Hid (p + x1.length + (ls.drop (k + 1)).flatten.length = file.length) := by show _ = _; omega
        have hpx : p + x1.length ≤ file.length := by omega
        have hlk := looks_any x1 wr (by omega)
        obtain ⟨sb, hsb⟩ : ∃ b, sepB x1 = b := ⟨_, rfl⟩
        rw [hsb] at hlk
        have HSB := Lib.hid hsb
        have HDR := Lib.hid hdr
        have HST := Lib.hid hst
        have hlt' : (k : Int) < ls.length := by omega
        clear hosr hx1 hdr hp1 hpl hst hsb
        go_wp2_with fail
        refine hlk.mono ?_
        clear hlk
        rintro e w2 ⟨rfl, rfl⟩
        obtain ⟨va, vn, vc, rfl, hvn⟩ := hown.form
        obtain rfl : vn = out.length := hvn.out
        clear hvn
        cases sb with
        | true =>
          have hnew : Hid ((goSp (some (p, p + x1.length)) (p + x1.length) (ls.drop (k + 1))).map (out ++ ·) = G) := by
            rcases HST.out with ⟨rfl, hg⟩ | ⟨done, h, b, rfl, hg⟩
            · have h9 := hg.out
              rw [HDR.out, goSp, if_pos HSB.out] at h9
              show _ = _
              rw [← h9]
              cases goSp (some (p, p + x1.length)) (p + x1.length) (ls.drop (k + 1)) <;> rfl
            · have h9 := hg.out
              rw [HDR.out, goSp, if_pos HSB.out] at h9
              show _ = _
              rw [← h9]
              cases goSp (some (p, p + x1.length)) (p + x1.length) (ls.drop (k + 1)) <;> simp
          clear HST HDR HSB
          go_wp2_with (at_builtin; refine wpList_append_own _ rfl _ _ 28 rfl B 32 i0 (.agg #[.int .i64 0, .int .i64 0, .int .i64 0]) 3 24 Tryd.underlying28 hi0 hz0 hz1 hz2 rfl (by decide) _ _ _ rfl (World.ownsRow.alloc hown _) ⟨wr.heap.size, 0, none⟩ 1 1 [.int .i64 p, .int .i64 ((p : Int) + x1.length), .int .i64 0] rfl rfl ?e1 ?e2 ?e3 ?e4 ?e5 ?_)
          case e1 =>
            intro j u hj
            match j, hj with
            | 0, hj => simp at hj; subst hj; simp [Addr.add]
            | 1, hj => simp at hj; subst hj; simp [Addr.add]
            | 2, hj => simp at hj; subst hj; simp [Addr.add]
            | n + 3, hj => simp at hj
          case e2 => intro u hu; simp at hu; rcases hu with rfl | rfl | rfl <;> rfl
          case e3 => unfold maxLen; omega
          case e4 => omega
          case e5 => simp; omega
          intro v' w3 hown3 hgrow _
          have hlow := fun i e => (World.ownsRow.lt hown i e).1
          have o3 : OwnP w3 B v' (out ++ [⟨p, p + x1.length, 0⟩]) := OwnP.step (by simpa [cellsSp1] using hown3)
          have B3 : Below w1.heap.size w1 w3 := (hbw.alloc (by omega) _).grown hgrow (by simp; omega) (fun i e => by have := hlow i e; omega)
          obtain ⟨g5, cap5, rfl, hg5, hl5⟩ := o3.parts.resolve_left (fun h => by simp at h)
          have o4 : OwnP w3 B (.slice (some ⟨g5, 0, none⟩) (out.length + 1) cap5) (out ++ [⟨p, p + x1.length, 0⟩]) := by simpa using o3
          have y0 : w3.cell? ⟨g5, out.length * 3 + 2, none⟩ = some (.int .i64 0) := o4.cell out.length 2 ⟨p, p + x1.length, 0⟩ (by simp) (by decide)
          have y1 := frozenP o4 (out.length * 3 + 2)
          have O4 := Lib.hid o4
          rw [show (out ++ [(⟨p, p + x1.length, 0⟩ : Sp)]).length = out.length + 1 by simp]
          clear hown3 hgrow hown hlow o3 o4
          go_wp2
          go_roundw
          case rel => exact ⟨k + 1, p + x1.length, out ++ [⟨p, p + x1.length, p + x1.length⟩], by omega, by go_num, by go_num, by have h9 := OwnP.turn O4.out (p + x1.length); rw [show (((p + x1.length : Nat)) : Int) = (p : Int) + x1.length by omega] at h9; exact h9, B3.setCell (p := ⟨g5, out.length * 3 + 2, none⟩) (by simp; omega) _, by simp; omega, HP1.out, .inr ⟨out, p, p + x1.length, rfl, hnew.out⟩⟩
          case measure => simp [intOf]; omega
        | false =>
          rcases HST.out with ⟨rfl, hg⟩ | ⟨done, h, b, rfl, hg⟩
          · have hR0 : R = none := by
              have h9 := hg.out
              rw [HDR.out, goSp, if_neg (by rw [HSB.out]; simp)] at h9
              rw [← HR.out, ← h9]
            have hE1 := ((hb1.trans (hbw.mono hb1.size)).cell (p := ⟨1, 0, none⟩) (cell_lt HE.out)).trans HE.out
            subst hR0
            have hBW : Below w.heap.size w wr := hb1.trans (hbw.mono hb1.size)
            clear HST HDR HSB hg
            simp only [List.length_nil]
            go_wp2
            go_quiet (fail)
            go_wp2
            go_ret2
            exact ⟨rfl, below_drewN hBW _⟩
          · have hnew : Hid ((goSp (some (h, b)) (p + x1.length) (ls.drop (k + 1))).map (done ++ ·) = G) := by
              have h9 := hg.out
              rw [HDR.out, goSp, if_neg (by rw [HSB.out]; simp)] at h9
              exact h9
            obtain ⟨g5, cap5, e5, hg5, hl5⟩ := hown.parts.resolve_left (fun h => by simp at h)
            simp only [Value.slice.injEq] at e5
            obtain ⟨rfl, _, rfl⟩ := e5
            have hdl : (done ++ [(⟨h, b, p⟩ : Sp)]).length = done.length + 1 := by simp
            rw [hdl] at hown ⊢
            have y0 : wr.cell? ⟨g5, done.length * 3 + 2, none⟩ = some (.int .i64 p) := hown.cell done.length 2 ⟨h, b, p⟩ (by simp) (by decide)
            have y1 := frozenP hown (done.length * 3 + 2)
            have hod : done.length ≤ k := by simp at hol; omega
            have O4 := Lib.hid hown
            have hol2 : (done ++ [(⟨h, b, p + x1.length⟩ : Sp)]).length ≤ k + 1 := by simp; omega
            clear HST HDR HSB hg hown hol
            go_wp2
            go_roundw
            case rel => exact ⟨k + 1, p + x1.length, done ++ [⟨h, b, p + x1.length⟩], by omega, by go_num, by go_num, by have h9 := OwnP.turn O4.out (p + x1.length); rw [show (((p + x1.length : Nat)) : Int) = (p : Int) + x1.length by omega] at h9; exact h9, hbw.setCell (p := ⟨g5, done.length * 3 + 2, none⟩) (by simp; omega) _, hol2, HP1.out, .inr ⟨done, h, b, rfl, hnew.out⟩⟩
            case measure => simp [intOf]; omega
      · obtain rfl : k = ls.length := by omega
        have hG9 : Hid (G = some out) := by
          rcases hst with ⟨rfl, hg⟩ | ⟨done, h, b, rfl, hg⟩
          · have h9 := hg.out
            rw [List.drop_length, goSp] at h9
            exact h9.symm
          · have h9 := hg.out
            rw [List.drop_length, goSp] at h9
            exact h9.symm
        clear hst
        go_wp2
        go_meet
        case rel => exact ⟨out, hown, hbw, hG9, by omega⟩
  case rest =>
    obtain ⟨out, hown, hbw, hG9, hol⟩ := hcut
    have hbd := HBD.out out hG9.out
    have HBO := Lib.hid hbd
    have hR9 : (if out.all (okSp file) = true then some out else none) = R := by
      have h9 := HR.out
      rw [hG9.out] at h9
      exact h9
    obtain ⟨AA, hAA⟩ : ∃ b, out.all (okSp file) = b := ⟨_, rfl⟩
    rw [hAA] at hR9
    have HR9 := Lib.hid hR9
    have HAA := Lib.hid hAA
    obtain ⟨va, vn, vc, rfl, hvn⟩ := hown.form
    obtain rfl : vn = out.length := hvn.out
    have HOW := Lib.hid hown
    have BW : Below w.heap.size w wc := hb1.trans (hbw.mono hb1.size)
    have hE1 := (BW.cell (p := ⟨1, 0, none⟩) (cell_lt HE.out)).trans HE.out
    have HE1 := Lib.hid hE1
    clear hbd hR9 hAA hvn hown hbw hG9 HBD HR HG HLF HOS hE1
    go_wp2
    go_loopw [11, 12, 13, 58] (fun _ _ _ v58 wr => ∃ j : Nat, j ≤ out.length ∧ v58 = .int .i64 j ∧ Below wc.heap.size wc wr ∧ Hid ((out.drop j).all (okSp file) = AA)) (fun _ _ _ v58 _ => out.length - (intOf v58).toNat)
    case atStart => exact ⟨0, Nat.zero_le _, rfl, Below.refl _ _, HAA.out⟩
    case round =>
      obtain ⟨j, hj, rfl, hbr, hok⟩ := hrel
      have BR : Below w.heap.size w wr := BW.trans (hbr.mono BW.size)
      have hEr := (hbr.cell (p := ⟨1, 0, none⟩) (cell_lt HE1.out)).trans HE1.out
      have HER := Lib.hid hEr
      have hown := HOW.out.below hbr
      clear hEr
      by_cases hlt : j < out.length
      · obtain ⟨sp, hsp⟩ : ∃ y, out[j]? = some y := ⟨_, List.getElem?_eq_getElem hlt⟩
        obtain ⟨s1, s2, s3⟩ := HBO.out sp (List.mem_of_getElem? hsp)
        obtain ⟨g5, cap5, e5, hg5, hl5⟩ := hown.parts.resolve_left (fun h => by rw [h.2] at hlt; simp at hlt)
        simp only [Value.slice.injEq] at e5
        obtain ⟨rfl, _, rfl⟩ := e5
        have y0 := hown.cell j 0 sp hsp (by decide)
        have y1 := hown.cell j 1 sp hsp (by decide)
        have y2 := hown.cell j 2 sp hsp (by decide)
        have hok2 := hok.out
        rw [show out.drop j = sp :: out.drop (j + 1) by rw [List.drop_eq_getElem_cons hlt, (List.getElem?_eq_some_iff.1 hsp).2], List.all_cons] at hok2
        have HOK := Lib.hid hok2
        obtain ⟨sh, sbd, sf⟩ := sp
        simp only at s1 s2 s3
        have z0 : wr.cell? ⟨g5, j * 3, none⟩ = some (.int .i64 sh) := by simpa [cellsSp1] using y0
        have z1 : wr.cell? ⟨g5, j * 3 + 1, none⟩ = some (.int .i64 sbd) := by simpa [cellsSp1] using y1
        have z2 : wr.cell? ⟨g5, j * 3 + 2, none⟩ = some (.int .i64 sf) := by simpa [cellsSp1] using y2
        obtain ⟨B1, rfl⟩ : ∃ B1, sbd = B1 + 1 := ⟨sbd - 1, by omega⟩
        obtain ⟨c, hc⟩ : ∃ c, file[B1]? = some c := ⟨_, List.getElem?_eq_getElem (by omega)⟩
        have hx : (bs file)[B1]'(by rw [bs_size]; omega) = c := (List.getElem?_eq_some_iff.1 hc).2
        have rm := fun w0 => run_mid file (B1 + 1) sf s2 s3 w0
        obtain ⟨T, hT⟩ : ∃ T, (file.drop (B1 + 1)).take (sf - (B1 + 1)) = T := ⟨_, rfl⟩
        have hTl : T.length ≤ 1000000 := by rw [← hT]; simp; omega
        have hoks : okSp file ⟨sh, B1 + 1, sf⟩ = ((c == 10) && decOk T) := by
          unfold okSp
          simp only [Nat.add_sub_cancel]
          rw [hc, hT]
          simp
        rw [hT] at rm
        have rm2 : ∀ w0, (Instr.slice 9 (.string (bs file)) (some (.int .i64 ((B1 : Int) + 1))) (some (.int .i64 sf)) none).run Tryd.prog w0 = .ok (.string (bs T)) w0 := rm
        have HOS2 := Lib.hid hoks
        have hlt' : (j : Int) < out.length := by omega
        clear hok hok2 hsp y0 y1 y2 hc hT hoks hown
        have bad : okSp file ⟨sh, B1 + 1, sf⟩ = false → R = none := by
          intro h
          have h9 := HOK.out
          rw [h, Bool.false_and] at h9
          rw [← HR9.out, ← h9]
          rfl
        have BAD := Lib.hid bad
        clear bad
        have hBA : ∀ o, Below w.heap.size w (wr.alloc o) := fun o => BR.alloc BR.size _
        have hBA2 : ∀ o, Below wc.heap.size wc (wr.alloc o) := fun o => hbr.alloc hbr.size _
        rcases hc10 : ((c.toNat : Int) != 10) with _ | _
        · have hc : (c == 10) = true := by
            rw [beq_iff_eq]
            apply UInt8.toNat_inj.1
            have := eq_of_beq (by simpa [bne] using hc10 : ((c.toNat : Int) == 10) = true)
            show c.toNat = 10
            omega
          have hs2 := HOS2.out
          rw [hc, Bool.true_and] at hs2
          have HS2 := Lib.hid hs2
          clear hc hs2
          rcases hdk : decOk T with _ | _
          · have hR0 : R = none := BAD.out (by rw [HS2.out, hdk])
            subst hR0
            have hdec := fun w0 h0 => decode_no T w0 x h0 (by omega) hdk
            have HD := Lib.hid hdec
            clear BAD HS2 HOS2 HOK hdec hdk
            go_wp2_with fail
            refine (HD.out _ (cell_alloc HER.out _)).mono ?_
            rintro e w2 ⟨rfl, hb2⟩
            have BW2 : Below w.heap.size w w2 := (hBA _).trans (hb2.mono (hBA _).size)
            have hE2 := (BW2.cell (p := ⟨1, 0, none⟩) (cell_lt HE.out)).trans HE.out
            unfold errV at hE2 ⊢
            go_wp2
            go_quiet (fail)
            go_wp2
            go_ret2
            exact ⟨rfl, below_drewN BW2 _⟩
          · have hnx : Hid ((out.drop (j + 1)).all (okSp file) = AA) := by
              have h9 := HOK.out
              rw [HS2.out, hdk, Bool.true_and] at h9
              exact h9
            have hdec := fun w0 => decode_yes T w0 (by omega) hdk
            have HD := Lib.hid hdec
            clear BAD HS2 HOS2 HOK hdec hdk
            go_wp2_with fail
            refine (HD.out _).mono ?_
            rintro e w2 ⟨rfl, hb2⟩
            have BW2 : Below wc.heap.size wc w2 := (hBA2 _).trans (hb2.mono (hBA2 _).size)
            go_wp2
            go_roundw
            case rel => exact ⟨j + 1, by omega, by go_num, BW2, hnx.out⟩
            case measure => simp [intOf]; omega
        · have hc : (c == 10) = false := by
            rw [beq_eq_false_iff_ne]
            rintro rfl
            exact absurd hc10 (by decide)
          have hR0 : R = none := BAD.out (by rw [HOS2.out, hc]; rfl)
          subst hR0
          have hE3 := fun o => cell_alloc HER.out o
          clear BAD HOS2 HOK hc rm rm2
          go_wp2
          go_quiet (fail)
          go_wp2
          go_ret2
          exact ⟨rfl, below_drewN (hBA _) _⟩
      · obtain rfl : j = out.length := by omega
        have h9 := hok.out
        rw [List.drop_length] at h9
        have hA : AA = true := h9.symm
        subst hA
        have hR1 : R = some out := by rw [← HR9.out, if_pos rfl]
        subst hR1
        have hz := hb1.size
        have hown2 : OwnP wr w.heap.size (.slice va out.length vc) out := hown.base (by omega)
        clear hok h9 HR9 HAA HBO
        go_wp2
        go_ret2
        exact ⟨⟨_, rfl, hown2⟩, BR⟩

end Go.Proofs.YtcjnpklmfcbofaaDoor
