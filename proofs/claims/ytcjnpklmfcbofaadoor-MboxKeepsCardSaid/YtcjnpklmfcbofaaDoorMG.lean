/- MboxKeeps: the walk. -/
import Derived.Test.YtcjnpklmfcbofaaDoorMF
import Derived.Test.YtcjnpklmfcbofaaDoorOa
set_option linter.unusedVariables false
set_option linter.unusedSimpArgs false
namespace Go.Proofs.YtcjnpklmfcbofaaDoor
open Go.RowKit Go

/-- what is kept of entries one behind the other -/
theorem rows_kept {ls : List (List UInt8)} {F : List UInt8} (ks : List Bool) (hr : RowsAt ls ls.length F) : ∃ ss, scanL F = some ss ∧ ss.length = ls.length ∧ RowsAt (keptE ks 0 ls) (keptE ks 0 ls).length (keptE ks 0 (ss.map (pieceOf F))).flatten := by
  obtain ⟨es, h1, h2, h3⟩ := hr
  rw [List.take_length] at h1
  have hsc := scan_rows es (fun e he => (h2 e he).1)
  rw [h3] at hsc
  have hm : (spansOf 0 es).map (pieceOf F) = es.map entL := by
    apply List.ext_getElem?
    intro k
    rw [List.getElem?_map, List.getElem?_map]
    cases hk : (spansOf 0 es)[k]? with
    | none =>
      have : es[k]? = none := by
        rw [List.getElem?_eq_none_iff] at hk ⊢
        rw [spansOf_len] at hk
        exact hk
      rw [this]; rfl
    | some s =>
      obtain ⟨e, k1, k2, _⟩ := spans_at es [] 0 rfl k s hk
      rw [List.nil_append, h3] at k2
      rw [k1]
      show some (pieceOf F s) = some (entL e)
      unfold pieceOf
      rw [k2]
  refine ⟨_, hsc, by rw [spansOf_len, ← h1]; simp, keptE ks 0 es, ?_, fun e he => h2 e (keptE_mem ks es 0 e he), ?_⟩
  · rw [List.take_length, keptE_map, h1]
  · rw [hm, ← keptE_map]

set_option maxRecDepth 100000 in
set_option maxHeartbeats 4000000 in
theorem mboxKeeps_any (v : Value) (ls : List (List UInt8)) (kv : Value) (ks : List Bool) (w : World) (hv : ArgS w v ls) (hkv : ArgV w w.heap.size kv ks) (x : Addr) (hE : w.cell? ⟨1, 0, none⟩ = some (errV x)) (hT : Tab w) :
    Calls Tryd.prog 4 #[v, kv] w fun e w' => e = .returned (.bool true) ∧ Below w.heap.size w w' := by
  obtain ⟨i0, hi, hz0, hz1, hz2⟩ := info_parts info_str
  obtain ⟨va, vc, rfl, hva⟩ := hv.form
  have HKV := Lib.hid hkv
  obtain ⟨ka, kc, rfl, _⟩ := hkv
  obtain ⟨w0, hw0⟩ : ∃ w0, w.alloc (.cells #[.slice ka ks.length kc] 35) = w0 := ⟨_, rfl⟩
  have hb0 : Below w.heap.size w w0 := by rw [← hw0]; exact (Below.refl _ _).alloc (Nat.le_refl _) _
  have hk0 : w0.heap[w.heap.size]? = some (.cells #[.slice ka ks.length kc] 35 (0, 0)) := by rw [← hw0]; exact heap_new _ _
  have hkl := (Array.getElem?_eq_some_iff.1 hk0).1
  have hE0 := (hb0.cell (p := ⟨1, 0, none⟩) (cell_lt hE)).trans hE
  have hal := alive_any x w0 hE0 (hT.below hb0)
  have HE := Lib.hid hE0
  have HT := Lib.hid (hT.below hb0)
  have HVA := Lib.hid hva
  have HK0 := Lib.hid hk0
  clear hE hE0 hT hv hva hk0
  go_enter Tryd.func4, Tryd.ntmps4
  go_wp2_with fail
  try rw [hw0]
  refine hal.mono ?_
  rintro e' w1 ⟨rfl, hb1⟩
  have hB1 := hb0.trans (hb1.mono hb0.size)
  clear hal hw0
  by_cases hl : 30 < ls.length
  · have hl' : (30 : Int) < ls.length := by omega
    go_wp2
    go_ret
    exact ⟨rfl, hB1⟩
  have hl' : ¬ (30 : Int) < ls.length := by omega
  have HE1 := Lib.hid ((hb1.cell (p := ⟨1, 0, none⟩) (cell_lt HE.out)).trans HE.out)
  have HT1 := Lib.hid (HT.out.below hb1)
  have HK1 := Lib.hid ((hb1.block w.heap.size hkl).trans HK0.out)
  have HKV1 := Lib.hid (HKV.out.later (fun k hk => hB1.block k hk))
  have HVB := Lib.hid (fun j hj => (by obtain ⟨b, o, h1, h2, h3⟩ := HVA.out j hj; exact ⟨b, o, h1, h2, (hB1.cell (p := ⟨b, o + j, none⟩) h2).trans h3⟩ : ∃ b o, va = some ⟨b, o, none⟩ ∧ b < w.heap.size ∧ w1.cell? ⟨b, o + j, none⟩ = some (.string (bs (ls.getD j [])))))
  have hw1 : w.heap.size < w1.heap.size := Nat.lt_of_lt_of_le hkl hb1.size
  have ol : OwnS (w1.alloc (.cells #[] 9)) w1.heap.size (.slice (some ⟨w1.heap.size, 0, none⟩) 0 0) [] := World.ownsRow_lit w1 #[] 0 (Nat.le_refl _) (by decide) rfl
  have hbl : Below w1.heap.size w1 (w1.alloc (.cells #[] 9)) := (Below.refl _ _).alloc (Nat.le_refl _) _
  have OL := Lib.hid ol
  clear HE HT HVA HKV HK0 ol
  go_upto_block 0 with fail
  go_cut [5, 6, 7, 8, 9, 10, 28] (fun v5 v6 _ _ _ _ _ wc => ∃ F, v5 = .string (bs F) ∧ Hid (OwnS wc w1.heap.size v6 (keptE ks 0 ls)) ∧ Below w1.heap.size w1 wc ∧ F.length ≤ 123000 ∧ Hid (RowsAt ls ls.length F) ∧ Hid (∀ m ∈ ls, m.length ≤ 2000))
  case first =>
    go_wp2_with fail
    go_loopw [5, 6, 7, 8, 9, 10, 28] (fun v5 v6 _ _ _ _ v28 wr => ∃ (k : Nat) (F : List UInt8), k ≤ ls.length ∧ v28 = .int .i64 k ∧ v5 = .string (bs F) ∧ F.length ≤ 123000 ∧ Hid (OwnS wr w1.heap.size v6 (keptE ks 0 (ls.take k))) ∧ Below w1.heap.size w1 wr ∧ Hid (RowsAt ls k F) ∧ Hid (∀ m ∈ ls.take k, m.length ≤ 2000)) (fun _ _ _ _ _ _ v28 _ => ls.length - (intOf v28).toNat)
    case atStart => exact ⟨0, [], Nat.zero_le _, rfl, rfl, by simp, OL.out, hbl, rowsAt_zero ls, by intro m hm; simp at hm⟩
    case round =>
      obtain ⟨k, F, hk, rfl, rfl, hFl, hown, hB, hra, hml⟩ := hrel
      have hBB := hB1.trans (hB.mono hB1.size)
      by_cases hlt : k < ls.length
      · obtain ⟨b, o, rfl, hb, hcell⟩ := HVB.out k hlt
        obtain ⟨m, hm⟩ : ∃ m, ls.getD k [] = m := ⟨_, rfl⟩
        have hcr := (hB.cell (p := ⟨b, o + k, none⟩) (by simp; omega)).trans hcell
        rw [hm] at hcr
        have hkm : ls[k]? = some m := by rw [← hm]; simp [List.getD, hlt]
        have hlt' : (k : Int) < ls.length := by omega
        have HKM := Lib.hid hkm
        clear hcell hm hkm
        by_cases hm2 : 2000 < m.length
        · have hm2' : (2000 : Int) < m.length := by omega
          clear hra hml hown
          go_wp2_with fail
          go_ret
          exact ⟨rfl, hBB⟩
        have hm2' : ¬ (2000 : Int) < m.length := by omega
        have hen := entry_ok [120, 64, 121] m k wr (by decide) (by decide) (by omega) (by omega) (by omega) (HT1.out.below hB)
        have HEN := Lib.hid hen
        clear hen
        go_wp2_with fail
        refine HEN.out.mono ?_
        rintro e' w2 ⟨y, mo, d, hh, mi, sc, wk, hcv, rfl, hb2⟩
        have hbd := Cal.civ7_bd (by omega : (0 : Int) ≤ k) hcv
        have hhk := head_ok (sender := [120, 64, 121]) (by decide) (box_nl y mo d hh mi sc wk)
        have hhl := headL_len (sender := [120, 64, 121]) hbd (by decide)
        have hra2 := rowsAt_succ hra.out HKM.out hhk hhl
        have hml2 : ∀ m' ∈ ls.take (k + 1), m'.length ≤ 2000 := by
          intro m' hm'
          rw [List.take_add_one, HKM.out] at hm'
          rcases List.mem_append.1 hm' with h | h
          · exact hml.out m' h
          · obtain rfl : m' = m := by simpa using h
            omega
        have hFl2 := rowsAt_len hra2 (by omega) hml2
        obtain ⟨X, hX⟩ : ∃ X, headL [120, 64, 121] (boxL y mo d hh mi sc wk) ++ encodeL m = X := ⟨_, rfl⟩
        rw [hX] at hra2 hFl2 ⊢
        have HRA := Lib.hid hra2
        have HML := Lib.hid hml2
        have hba := bs_append F X
        have hFX : F.length + X.length ≤ 123000 := by rw [← List.length_append]; exact hFl2
        have hB2 : Below w1.heap.size w1 w2 := hB.trans (hb2.mono hB.size)
        have hzw2 := hB2.size
        have hk2 := cell_of1 ((hB2.block w.heap.size hw1).trans HK1.out)
        have HO2 := Lib.hid (OwnS.stay hown.out hb2)
        have hkt := keptE_take ks ls 0 k m HKM.out
        rw [Nat.zero_add] at hkt
        have HKT := Lib.hid hkt
        have hcount : (keptE ks 0 (ls.take k)).length ≤ k := by have := keptE_len ks (ls.take k) 0; simp at this; omega
        obtain ⟨xa, xn, xc, e6, hxn⟩ := hown.out.form
        subst e6
        obtain rfl : xn = (keptE ks 0 (ls.take k)).length := hxn.out
        obtain ⟨q, hq⟩ : ∃ q, ks.getD k false = q := ⟨_, rfl⟩
        rw [hq] at HKT
        clear hra hml hX hra2 hml2 hcv hhk hhl hbd HEN hkt hxn hown
        have hcase : (k < ks.length ∧ ∃ b o, ka = some ⟨b, o, none⟩ ∧ w2.cell? ⟨b, o + k, none⟩ = some (.bool q)) ∨ (¬ k < ks.length ∧ q = false) := by
          by_cases hlk : k < ks.length
          · obtain ⟨a', c', e1, h1⟩ := HKV1.out
            obtain ⟨b', o', e2, h2, h3⟩ := h1 k hlk
            simp only [Value.slice.injEq] at e1
            refine .inl ⟨hlk, b', o', by rw [e1.1, e2], ?_⟩
            rw [← hq, ← h3]
            exact hB2.cell (p := ⟨b', o' + k, none⟩) (by simp; omega)
          · exact .inr ⟨hlk, by rw [← hq]; simp [List.getD, show ks.length ≤ k by omega]⟩
        clear hq
        rcases hcase with ⟨hlk, b', o', rfl, hkc⟩ | ⟨hlk, rfl⟩
        · have hlk' : (k : Int) < ks.length := by omega
          cases q with
          | true =>
            go_wp2_with (at_builtin; refine wpList_append_own _ rfl _ _ 22 rfl w1.heap.size 9 i0 (.string ⟨#[]⟩) 1 16 Tryd.underlying22 hi hz0 hz1 hz2 rfl (by decide) _ _ _ rfl (World.ownsRow.alloc HO2.out _) ⟨w2.heap.size, 0, none⟩ 1 1 [.string (bs m)] rfl rfl ?e1 ?e2 ?e3 ?e4 ?e5 ?_)
            case e1 =>
              intro j u hj
              match j, hj with
              | 0, hj => simp at hj; subst hj; simp [Addr.add]
              | n + 1, hj => simp at hj
            case e2 => intro u hu; simp at hu; subst hu; rfl
            case e3 => unfold maxLen; omega
            case e4 => omega
            case e5 => simp; omega
            intro v' w3 hown3 hgrow _
            have o3 : OwnS w3 w1.heap.size v' (keptE ks 0 (ls.take k) ++ [m]) := OwnS.step hown3
            have hlow := fun i e => (World.ownsRow.lt HO2.out i e).1
            have B3 : Below w1.heap.size w1 w3 := (hB2.alloc hzw2 _).grown hgrow (by simp; omega) (fun i e => hlow i e)
            have hrel3 : Hid (OwnS w3 w1.heap.size v' (keptE ks 0 (ls.take (k + 1)))) := by
              show OwnS _ _ _ _
              rw [HKT.out]
              exact o3
            obtain ⟨na, nn, nc, rfl, _⟩ := o3.form
            clear hown3 hgrow hlow o3 HKT HO2
            go_wp2
            go_roundw
            case rel => exact ⟨k + 1, F ++ X, by omega, by go_num, rfl, hFl2, hrel3.out, B3, HRA.out, HML.out⟩
            case measure => simp [intOf]; omega
          | false =>
            go_wp2_with fail
            go_roundw
            case rel => exact ⟨k + 1, F ++ X, by omega, by go_num, rfl, hFl2, by show OwnS _ _ _ _; rw [HKT.out]; simpa using HO2.out, hB2, HRA.out, HML.out⟩
            case measure => simp [intOf]; omega
        · have hlk' : ¬ (k : Int) < ks.length := by omega
          go_wp2_with fail
          go_roundw
          case rel => exact ⟨k + 1, F ++ X, by omega, by go_num, rfl, hFl2, by show OwnS _ _ _ _; rw [HKT.out]; simpa using HO2.out, hB2, HRA.out, HML.out⟩
          case measure => simp [intOf]; omega
      · obtain rfl : k = ls.length := by omega
        have hown2 := hown.out
        rw [List.take_length] at hown2
        have HO2 := Lib.hid hown2
        have hml2 := hml.out
        rw [List.take_length] at hml2
        have HML := Lib.hid hml2
        clear hml hown hown2 hml2
        go_wp2_with fail
        go_meet
        case rel => exact ⟨F, rfl, HO2.out, hB, hFl, hra, HML.out⟩
  case rest =>
    obtain ⟨F, rfl, hown, hB, hFl, hra, hml⟩ := hcut
    have hBB := hB1.trans (hB.mono hB1.size)
    obtain ⟨ss, hsc, hsl, hrk⟩ := rows_kept ks hra.out
    obtain ⟨G, hG⟩ : ∃ G, (keptE ks 0 (ss.map (pieceOf F))).flatten = G := ⟨_, rfl⟩
    obtain ⟨want, hwant⟩ : ∃ want, keptE ks 0 ls = want := ⟨_, rfl⟩
    have hwl : want.length ≤ 30 := by have := keptE_len ks ls 0; rw [hwant] at this; omega
    have hwm : ∀ m ∈ want, m.length ≤ 2000 := fun m hm => hml.out m (keptE_mem ks ls 0 m (by rw [hwant]; exact hm))
    have hown2 := hown.out
    rw [hwant] at hrk hown2
    rw [hG] at hrk
    have hGl := rowsAt_len hrk hwl (fun m hm => hwm m (List.mem_of_mem_take hm))
    obtain ⟨wd, hwd⟩ : ∃ wd, wc.alloc (.cells #[.int .i64 0] 3) = wd := ⟨_, rfl⟩
    have hbd : Below wc.heap.size wc wd := by rw [← hwd]; exact (Below.refl _ _).alloc (Nat.le_refl _) _
    have had : wd.heap[wc.heap.size]? = some (.cells #[.int .i64 0] 3 (0, 0)) := by rw [← hwd]; exact heap_new _ _
    have hkd : wd.heap[w.heap.size]? = some (.cells #[.slice ka ks.length kc] 35 (0, 0)) := ((hB.trans (hbd.mono hB.size)).block w.heap.size hw1).trans HK1.out
    have hBd := hB.trans (hbd.mono hB.size)
    have hzc := hB.size
    have hvd : ArgV wd w.heap.size (.slice ka ks.length kc) ks := HKV1.out.later (fun k hk => hBd.block k (by omega))
    have hcp := compact_any F ss x ks w.heap.size wc.heap.size w.heap.size _ wd (by omega) ((hBd.cell (p := ⟨1, 0, none⟩) (cell_lt HE1.out)).trans HE1.out) hsc (by omega) (by omega) had hkd hvd (by omega)
    rw [hG, hsl] at hcp
    have HCP := Lib.hid hcp
    have HRK := Lib.hid hrk
    have HO := Lib.hid hown2
    have HWD := Lib.hid hwd
    clear hra hml hsc hrk hG hwant hwm hown hown2 had hkd hvd hcp HKV1 HK1 hsl hwd
    go_wp2_with fail
    try rw [HWD.out]
    refine HCP.out.mono ?_
    clear HCP
    rintro e' w2 ⟨rfl, ⟨hbt, _⟩, ha2⟩
    have hb2 : Below wc.heap.size wc w2 := hbd.trans hbt
    have hB2 := hB.trans (hb2.mono hB.size)
    have hc2 := cell_of1 ha2
    have HO2 := Lib.hid (OwnS.stay HO.out hb2)
    obtain ⟨ss2, hsc2, hsl2, hat2⟩ := rows_spans HRK.out
    have hscan := scan_any G x w2 (by omega) ((hB2.cell (p := ⟨1, 0, none⟩) (cell_lt HE1.out)).trans HE1.out)
    rw [hsc2] at hscan
    have HSC := Lib.hid hscan
    have HAT := Lib.hid hat2
    have HSL := Lib.hid hsl2
    have hBB2 := hB1.trans (hB2.mono hB1.size)
    clear hscan hsc2 hsl2 hat2 HO HRK ha2
    go_wp2_with fail
    refine HSC.out.mono ?_
    clear HSC
    rintro e' w3 ⟨⟨v3, rfl, o3⟩, hb3⟩
    obtain ⟨xa, xn, xc, rfl, hxn⟩ := o3.form
    obtain rfl : xn = want.length := hxn.out.trans HSL.out
    have O3 := Lib.hid o3
    have hO3 := OwnS.stay HO2.out hb3
    obtain ⟨ya, yn, yc, rfl, hyn⟩ := hO3.form
    obtain rfl : yn = want.length := hyn.out
    have HO3 := Lib.hid hO3
    have hc3 := (hb3.cell (cell_lt hc2)).trans hc2
    have hBB3 := hBB2.trans (hb3.mono hBB2.size)
    clear hxn hyn o3 hO3 HO2 HE1 HT1 HVB hc2
    go_wp2
    go_loopw [16, 17, 18, 19, 94] (fun _ _ _ _ v94 wr => ∃ k : Nat, k ≤ want.length ∧ v94 = .int .i64 k ∧ Below w3.heap.size w3 wr) (fun _ _ _ _ v94 _ => want.length - (intOf v94).toNat)
    case atStart => exact ⟨0, Nat.zero_le _, rfl, Below.refl _ _⟩
    case round =>
      obtain ⟨k, hk, rfl, hbr⟩ := hrel
      by_cases hlt : k < want.length
      · obtain ⟨sp, hsp⟩ : ∃ y, ss2[k]? = some y := ⟨_, List.getElem?_eq_getElem (by rw [HSL.out]; exact hlt)⟩
        have ha := O3.out.below hbr
        obtain ⟨ga, ca, ea, _, hla⟩ := ha.parts.resolve_left (fun h => by have h9 := HSL.out; rw [h.2] at h9; simp at h9; omega)
        simp only [Value.slice.injEq] at ea
        obtain ⟨rfl, hxx, rfl⟩ := ea
        clear hxx
        obtain ⟨x0, x1, x2⟩ := cells3 ha k sp hsp
        obtain ⟨s1, s2, s3, s4⟩ := HAT.out k sp hsp
        have hms := fun w0 => message_yes G sp.head sp.body sp.fin w0 s3 s4 (by omega) s1
        have hob := OwnS.stay HO3.out hbr
        obtain ⟨gb, cb, eb, hgb⟩ := hob.parts.resolve_left (fun h => by rw [h.2] at hlt; simp at hlt)
        simp only [Value.slice.injEq] at eb
        obtain ⟨rfl, hyy, rfl⟩ := eb
        obtain ⟨m, hm⟩ : ∃ m, want.getD k [] = m := ⟨_, rfl⟩
        have hcell := (OwnS.set hob hlt []).1
        rw [s2] at hms
        rw [hm] at hcell hms
        have HMS := Lib.hid hms
        have hlt' : (k : Int) < want.length := by omega
        have hbx : Below wr.heap.size wr (wr.alloc (.cells #[.int .i64 sp.head, .int .i64 sp.body, .int .i64 sp.fin] 32)) := (Below.refl _ _).alloc (Nat.le_refl _) _
        clear ha hsp s1 s2 hm hms hyy hob
        go_wp2_with fail
        refine (HMS.out _).mono ?_
        rintro e' w6 ⟨rfl, hb6⟩
        have hb16 := hbx.trans (hb6.mono hbx.size)
        have hB6 : Below w3.heap.size w3 w6 := hbr.trans (hb16.mono hbr.size)
        have hcr := (hb16.cell (cell_lt hcell)).trans hcell
        clear x0 x1 x2 HMS hcell
        go_wp2
        go_roundw
        case rel => exact ⟨k + 1, by omega, by go_num, hB6⟩
        case measure => simp [intOf]; omega
      · obtain rfl : k = want.length := by omega
        go_wp2
        go_ret
        exact ⟨rfl, hBB3.trans (hbr.mono hBB3.size)⟩

end Go.Proofs.YtcjnpklmfcbofaaDoor
