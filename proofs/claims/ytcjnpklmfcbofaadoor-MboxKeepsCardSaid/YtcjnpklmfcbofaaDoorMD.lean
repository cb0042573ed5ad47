/- mbox: Count, the document's Same, MboxScans. -/
import Derived.Test.YtcjnpklmfcbofaaDoorMC
import Derived.Test.YtcjnpklmfcbofaaDoorEr
set_option linter.unusedVariables false
set_option linter.unusedSimpArgs false
namespace Go.Proofs.YtcjnpklmfcbofaaDoor
open Go.RowKit Go

def countV (R : Option (List Sp)) : Int := match R with
  | none => -1
  | some ss => ss.length
set_option maxRecDepth 100000 in
set_option maxHeartbeats 1000000 in
theorem count_any (file : List UInt8) (x : Addr) (w : World) (hl : file.length ≤ 1000000) (hE : w.cell? ⟨1, 0, none⟩ = some (errV x)) :
    Calls Tryd.prog 16 #[.string (bs file)] w fun e w' => e = .returned (.int .i64 (countV (scanL file))) ∧ Below w.heap.size w w' := by
  have hs := scan_any file x w hl hE
  obtain ⟨R, hR⟩ : ∃ R, scanL file = R := ⟨_, rfl⟩
  rw [hR] at hs ⊢
  have HS := Lib.hid hs
  clear hs hR hE
  go_enter Tryd.func16, Tryd.ntmps16
  go_wp2_with fail
  refine HS.out.mono ?_
  rintro e w1 ⟨hm, hb1⟩
  cases R with
  | none =>
    subst hm
    unfold errV
    go_wp2
    go_ret
    exact ⟨rfl, hb1⟩
  | some ss =>
    obtain ⟨v, rfl, ho⟩ := hm
    obtain ⟨va, vn, vc, rfl, hvn⟩ := ho.form
    obtain rfl : vn = ss.length := hvn.out
    clear hvn
    go_wp2
    go_ret
    exact ⟨rfl, hb1⟩

theorem cells3 {w : World} {B g n cap : Nat} {fs : List Sp} (h : OwnP w B (.slice (some ⟨g, 0, none⟩) n cap) fs) (k : Nat) (s : Sp) (hs : fs[k]? = some s) :
    w.cell? ⟨g, k * 3, none⟩ = some (.int .i64 s.head) ∧ w.cell? ⟨g, k * 3 + 1, none⟩ = some (.int .i64 s.body) ∧ w.cell? ⟨g, k * 3 + 2, none⟩ = some (.int .i64 s.fin) :=
  ⟨by simpa [cellsSp1] using h.cell k 0 s hs (by decide), by simpa [cellsSp1] using h.cell k 1 s hs (by decide), by simpa [cellsSp1] using h.cell k 2 s hs (by decide)⟩

set_option maxRecDepth 100000 in
set_option maxHeartbeats 1000000 in
theorem sameSp_any (va vb : Value) (ss : List Sp) (B1 B2 : Nat) (w : World) (ha : OwnP w B1 va ss) (hb : OwnP w B2 vb ss) (hl : ss.length ≤ 1000001) :
    Calls Tryd.prog 17 #[va, vb] w fun e w' => e = .returned (.bool true) ∧ Below w.heap.size w w' := by
  obtain ⟨aa, an, ac, rfl, han⟩ := ha.form
  obtain rfl : an = ss.length := han.out
  obtain ⟨ba, bn, bc, rfl, hbn⟩ := hb.form
  obtain rfl : bn = ss.length := hbn.out
  have HA := Lib.hid ha
  have HB := Lib.hid hb
  clear han hbn ha hb
  go_enter Tryd.func17, Tryd.ntmps17
  go_wp2
  go_loopw [5, 13] (fun _ v13 wr => ∃ k : Nat, k ≤ ss.length ∧ v13 = .int .i64 k ∧ Below w.heap.size w wr) (fun _ v13 _ => ss.length - (intOf v13).toNat)
  case atStart => exact ⟨0, Nat.zero_le _, rfl, Below.refl _ _⟩
  case round =>
    obtain ⟨k, hk, rfl, hB⟩ := hrel
    by_cases hlt : k < ss.length
    · obtain ⟨sp, hsp⟩ : ∃ y, ss[k]? = some y := ⟨_, List.getElem?_eq_getElem hlt⟩
      have ha := HA.out.below hB
      have hb := HB.out.below hB
      obtain ⟨ga, ca, ea, _, hla⟩ := ha.parts.resolve_left (fun h => by rw [h.2] at hlt; simp at hlt)
      simp only [Value.slice.injEq] at ea
      obtain ⟨rfl, _, rfl⟩ := ea
      obtain ⟨gb, cb, eb, _, hlb⟩ := hb.parts.resolve_left (fun h => by rw [h.2] at hlt; simp at hlt)
      simp only [Value.slice.injEq] at eb
      obtain ⟨rfl, _, rfl⟩ := eb
      obtain ⟨x0, x1, x2⟩ := cells3 ha k sp hsp
      obtain ⟨y0, y1, y2⟩ := cells3 hb k sp hsp
      have hlt' : (k : Int) < ss.length := by omega
      clear ha hb hsp
      go_wp2
      go_quiet (fail)
      go_wp2
      go_roundw
      case rel => exact ⟨k + 1, by omega, by go_num, below_drewN hB _⟩
      case measure => simp [intOf]; omega
    · obtain rfl : k = ss.length := by omega
      go_wp2
      go_ret
      exact ⟨rfl, hB⟩

set_option maxRecDepth 100000 in
set_option maxHeartbeats 4000000 in
theorem mboxScans_list (file : List UInt8) (a : Nat → Addr) (w : World) (hE : Errs w a) (hT : Tab w) :
    Calls Tryd.prog 6 #[.string (bs file)] w fun e w' => e = .returned (.bool true) ∧ Below w.heap.size w w' := by
  have hal := alive_any (a 1) w (hE.cell 1 (by decide)) hT
  have HE := Lib.hid hE
  clear hE hT
  go_enter Tryd.func6, Tryd.ntmps6
  go_wp2_with fail
  refine hal.mono ?_
  rintro e' w1 ⟨rfl, hb1⟩
  clear hal
  by_cases hl : 20000 < file.length
  · have hl' : (20000 : Int) < file.length := by omega
    go_wp2
    go_ret
    exact ⟨rfl, hb1⟩
  have hl' : ¬ (20000 : Int) < file.length := by omega
  have hE1 := HE.out.below hb1
  have hsc := scan_any file (a 1) w1 (by omega) (hE1.cell 1 (by decide))
  have hrs := fun w0 => refScan_any file w0 (by omega)
  have hct := fun w0 h0 => count_any file (a 1) w0 (by omega) h0
  have hbd : ∀ ss, scanL file = some ss → _ := fun ss h => scan_bd h
  obtain ⟨R, hR⟩ : ∃ R, scanL file = R := ⟨_, rfl⟩
  rw [hR] at hsc hrs hct hbd
  have HSC := Lib.hid hsc
  have HRS := Lib.hid hrs
  have HCT := Lib.hid hct
  have HBD := Lib.hid hbd
  have HE1 := Lib.hid hE1
  clear hsc hrs hct hbd hR HE hE1
  go_wp2_with fail
  refine HSC.out.mono ?_
  clear HSC
  rintro e' w2 ⟨hm2, hb2⟩
  have hB2 := hb1.trans (hb2.mono hb1.size)
  cases R with
  | none =>
    subst hm2
    simp only [errV]
    go_wp2_with fail
    refine (HRS.out _).mono ?_
    rintro e' w3 ⟨hm3, hb3⟩
    have hB3 := hB2.trans (hb3.mono hB2.size)
    subst hm3
    have hE3 := (HE1.out.below hb2).below hb3
    have hct3 := HCT.out w3 (hE3.cell 1 (by decide))
    have HE3 := Lib.hid hE3
    have HC3 := Lib.hid hct3
    clear HRS HCT hE3 hct3
    go_wp2_with fail
    refine HC3.out.mono ?_
    rintro e' w4 ⟨rfl, hb4⟩
    have hB4 := hB3.trans (hb4.mono hB3.size)
    have hn := num_err w4 a 1 (by decide) (HE3.out.below hb4)
    simp only [errV] at hn
    simp only [countV]
    clear HE3 HC3
    go_wp2_with fail
    refine hn.mono ?_
    rintro e' w5 ⟨rfl, hb5⟩
    go_wp2
    go_ret
    exact ⟨by first | rfl | simp, hB4.trans (hb5.mono hB4.size)⟩
  | some ss =>
    obtain ⟨v2, rfl, o2⟩ := hm2
    obtain ⟨hcnt, hbd⟩ := HBD.out ss rfl
    have O2 := Lib.hid o2
    have HBS := Lib.hid hbd
    obtain ⟨va, vn, vc, rfl, hvn⟩ := o2.form
    obtain rfl : vn = ss.length := hvn.out
    clear hvn o2 hbd HBD
    go_wp2_with fail
    refine (HRS.out _).mono ?_
    rintro e' w3 ⟨hm3, hb3⟩
    have hB3 := hB2.trans (hb3.mono hB2.size)
    obtain ⟨v3, rfl, o3⟩ := hm3
    have O3 := Lib.hid o3
    obtain ⟨ua, un, uc, rfl, hun⟩ := o3.form
    obtain rfl : un = ss.length := hun.out
    have hE3 := (HE1.out.below hb2).below hb3
    have hct3 := HCT.out w3 (hE3.cell 1 (by decide))
    have HC3 := Lib.hid hct3
    clear HRS HCT hE3 hct3 hun o3
    go_wp2_with fail
    refine HC3.out.mono ?_
    rintro e' w4 ⟨rfl, hb4⟩
    have hB4 := hB3.trans (hb4.mono hB3.size)
    have q2 := (O2.out.below hb3).below hb4
    have q3 := O3.out.below hb4
    have hsm := sameSp_any _ _ ss _ _ w4 q2 q3 (by omega)
    have Q2 := Lib.hid q2
    have HSM := Lib.hid hsm
    simp only [countV]
    clear HC3 O2 O3 q2 q3 hsm
    go_wp2_with fail
    refine HSM.out.mono ?_
    rintro e' w5 ⟨rfl, hb5⟩
    have hB5 := hB4.trans (hb5.mono hB4.size)
    have Q5 := Lib.hid (Q2.out.below hb5)
    clear HSM Q2
    go_wp2
    go_loopw [9, 10, 11, 12, 13, 61] (fun _ _ _ _ _ v61 wr => ∃ k : Nat, k ≤ ss.length ∧ v61 = .int .i64 k ∧ Below w5.heap.size w5 wr) (fun _ _ _ _ _ v61 _ => ss.length - (intOf v61).toNat)
    case atStart => exact ⟨0, Nat.zero_le _, rfl, Below.refl _ _⟩
    case round =>
      obtain ⟨k, hk, rfl, hB⟩ := hrel
      have hBB := hB5.trans (hB.mono hB5.size)
      by_cases hlt : k < ss.length
      · obtain ⟨sp, hsp⟩ : ∃ y, ss[k]? = some y := ⟨_, List.getElem?_eq_getElem hlt⟩
        have ha := Q5.out.below hB
        obtain ⟨ga, ca, ea, _, hla⟩ := ha.parts.resolve_left (fun h => by rw [h.2] at hlt; simp at hlt)
        simp only [Value.slice.injEq] at ea
        obtain ⟨rfl, _, rfl⟩ := ea
        obtain ⟨x0, x1, x2⟩ := cells3 ha k sp hsp
        obtain ⟨s1, s2, s3, s4⟩ := HBS.out sp (List.mem_of_getElem? hsp)
        have s5 : decOk ((file.drop sp.body).take (sp.fin - sp.body)) = true := by
          unfold okSp at s4
          rw [Bool.and_eq_true] at s4
          exact s4.2
        have rm := fun w0 => run_mid file sp.body sp.fin s2 s3 w0
        have hms := fun w0 => message_yes file sp.head sp.body sp.fin w0 s2 s3 (by omega) s5
        have hrd := fun w0 => refDecode_yes ((file.drop sp.body).take (sp.fin - sp.body)) w0 (by simp; omega) s5
        obtain ⟨T, hT⟩ : ∃ T, (file.drop sp.body).take (sp.fin - sp.body) = T := ⟨_, rfl⟩
        rw [hT] at rm hms hrd
        have HMS := Lib.hid hms
        have HRD := Lib.hid hrd
        have hlt' : (k : Int) < ss.length := by omega
        have hbx : Below wr.heap.size wr (wr.alloc (.cells #[.int .i64 sp.head, .int .i64 sp.body, .int .i64 sp.fin] 32)) := (Below.refl _ _).alloc (Nat.le_refl _) _
        obtain ⟨wq, hwq⟩ : ∃ wq, wr.alloc (.cells #[.int .i64 sp.head, .int .i64 sp.body, .int .i64 sp.fin] 32) = wq := ⟨_, rfl⟩
        have d0 : wq.cell? ⟨wr.heap.size, 0, none⟩ = some (.int .i64 sp.head) := by rw [← hwq]; simp
        have d1 : wq.cell? ⟨wr.heap.size, 1, none⟩ = some (.int .i64 sp.body) := by rw [← hwq]; simp
        have d2 : wq.cell? ⟨wr.heap.size, 2, none⟩ = some (.int .i64 sp.fin) := by rw [← hwq]; simp
        rw [hwq] at hbx
        clear ha hsp s4 s5 hT hms hrd
        go_wp2_with fail
        try rw [hwq]
        refine (HMS.out _).mono ?_
        rintro e' w6 ⟨rfl, hb6⟩
        have f1 := (hb6.cell (cell_lt d1)).trans d1
        have f2 := (hb6.cell (cell_lt d2)).trans d2
        have hB6 : Below w5.heap.size w5 w6 := hB.trans ((hbx.trans (hb6.mono hbx.size)).mono hB.size)
        clear d0 d1 d2 x0 x1 x2 hwq HMS
        go_wp2_with fail
        refine (HRD.out _).mono ?_
        rintro e' w7 ⟨rfl, hb7⟩
        have hB7 : Below w5.heap.size w5 w7 := hB6.trans (hb7.mono hB6.size)
        clear HRD
        go_wp2
        go_roundw
        case rel => exact ⟨k + 1, by omega, by go_num, hB7⟩
        case measure => simp [intOf]; omega
      · obtain rfl : k = ss.length := by omega
        go_wp2
        go_ret
        exact ⟨rfl, hBB⟩

theorem mboxScans_any (s : ByteArray) (w : World) (_ : s.size ≤ 9223372036854775807) (a : Nat → Addr) (hE : Errs w a) (hT : Tab w) :
    Calls Tryd.prog 6 #[.string s] w fun e w' => e = .returned (.bool true) ∧ Below w.heap.size w w' :=
  mboxScans_list s.data.toList a w hE hT

end Go.Proofs.YtcjnpklmfcbofaaDoor
