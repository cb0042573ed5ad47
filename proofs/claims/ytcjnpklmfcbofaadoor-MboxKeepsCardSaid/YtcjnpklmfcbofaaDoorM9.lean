/- mbox.Entry. -/
import Derived.Test.YtcjnpklmfcbofaaDoorM6
import Derived.Test.YtcjnpklmfcbofaaDoorM7
import Derived.Test.YtcjnpklmfcbofaaDoorM8
set_option linter.unusedVariables false
set_option linter.unusedSimpArgs false
namespace Go.Proofs.YtcjnpklmfcbofaaDoor
open Go.RowKit Go

theorem civ7_eq {t y m d h mi s wk y' m' d' h' mi' s' wk' : Int} (ca : Cal.civ7 t y m d h mi s wk) (cb : Cal.civ7 t y' m' d' h' mi' s' wk') : y' = y ∧ m' = m ∧ d' = d ∧ h' = h ∧ mi' = mi ∧ s' = s ∧ wk' = wk := by
  obtain ⟨rfl, rfl, rfl⟩ := Cal.civ_one ca.1 cb.1 rfl
  exact ⟨rfl, rfl, rfl, cb.2.1.trans ca.2.1.symm, cb.2.2.1.trans ca.2.2.1.symm, cb.2.2.2.1.trans ca.2.2.2.1.symm, cb.2.2.2.2.trans ca.2.2.2.2.symm⟩
theorem boxL_len {y m d h mi s wk : Int} (hb : Bds y m d h mi s wk) : (boxL y m d h mi s wk).length ≤ 40 := by
  obtain ⟨y0, y1, m0, m1, d0, d1, h0, h1, i0, i1, s0, s1, k0, k1⟩ := hb
  have l1 := weekL_len wk
  have l2 := twoL_len d [32] (by omega) (by omega) (by decide)
  have l3 := monthL_len m
  have l4 := clockL_len h mi s h0 h1 i0 i1 s0 s1
  have l5 := yearL_len y y0 y1
  unfold boxL
  simp only [List.length_append, List.length_cons, List.length_nil]
  omega
/-- what Entry hands back -/
def EntryIs (sender message : List UInt8) (t : Int) (w : World) (e : Ending) (w' : World) : Prop :=
  ∃ y m d h mi s wk, Cal.civ7 t y m d h mi s wk ∧ e = .returned (.tuple #[.string (bs (headL sender (boxL y m d h mi s wk) ++ encodeL message)), .nilIface]) ∧ Below w.heap.size w w'

set_option maxRecDepth 100000 in
set_option maxHeartbeats 1000000 in
theorem entry_ok (sender message : List UInt8) (t : Int) (w : World) (hs : senderOk sender = true) (hl : sender.length ≤ 200) (hm : message.length ≤ 1000000) (h0 : 0 ≤ t) (h1 : t ≤ 4102444799) (hT : Tab w) :
    Calls Tryd.prog 8 #[.string (bs sender), .int .i64 t, .string (bs message)] w (EntryIs sender message t w) := by
  have HS := Lib.hid hs
  have HT := Lib.hid hT
  have hel := (encode_length message).2
  clear hs hT
  go_enter Tryd.func8, Tryd.ntmps8
  go_wp2_with fail
  refine (right_any sender w (by omega)).mono ?_
  rintro e w1 ⟨rfl, hb1⟩
  rw [HS.out]
  go_wp2_with fail
  refine (box_in t w1 (HT.out.below hb1) h0 h1).mono ?_
  rintro e w2 ⟨y, m, d, h, mi, s, wk, hcv, rfl, hb2⟩
  have hbl := boxL_len (Cal.civ7_bd h0 hcv)
  have HCV := Lib.hid hcv
  obtain ⟨X, hX⟩ : ∃ X, boxL y m d h mi s wk = X := ⟨_, rfl⟩
  have HX := Lib.hid hX
  rw [hX] at hbl ⊢
  have B2 : Below w.heap.size w w2 := hb1.trans (hb2.mono hb1.size)
  obtain ⟨E, hE⟩ : ∃ E, encodeL message = E := ⟨_, rfl⟩
  have henc := encode_any message w2 (by omega)
  rw [hE] at henc hel
  have HEN := Lib.hid henc
  have HEE := Lib.hid hE
  clear hcv hX hb1 hb2 henc hE
  go_wp2_with fail
  refine HEN.out.mono ?_
  rintro e w3 ⟨rfl, hb3⟩
  go_wp2
  go_ret2
  refine ⟨y, m, d, h, mi, s, wk, HCV.out, ?_, B2.trans (hb3.mono B2.size)⟩
  rw [HX.out, HEE.out]
  simp [headL, bs_append, fromL]

end Go.Proofs.YtcjnpklmfcbofaaDoor
