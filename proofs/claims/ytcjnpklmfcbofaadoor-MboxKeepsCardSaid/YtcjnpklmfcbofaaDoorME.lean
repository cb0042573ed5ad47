/- MboxRows: the walk. -/
import Derived.Test.YtcjnpklmfcbofaaDoorMD
import Derived.Test.YtcjnpklmfcbofaaDoorOs
import Derived.IntWalk
set_option linter.unusedVariables false
set_option linter.unusedSimpArgs false
namespace Go.Proofs.YtcjnpklmfcbofaaDoor
open Go.RowKit Go

/-- the first entries of the messages stand one behind the other -/
def RowsAt (ls : List (List UInt8)) (k : Nat) (F : List UInt8) : Prop := ∃ es : List (List UInt8 × List UInt8), es.map (·.2) = ls.take k ∧ (∀ e ∈ es, headOk e.1 ∧ e.1.length ≤ 60) ∧ (es.map entL).flatten = F
theorem rowsAt_zero (ls : List (List UInt8)) : RowsAt ls 0 [] := ⟨[], rfl, (fun e h => by cases h), rfl⟩
theorem rowsAt_succ {ls : List (List UInt8)} {k : Nat} {F h m : List UInt8} (hr : RowsAt ls k F) (hk : ls[k]? = some m) (hh : headOk h) (hl : h.length ≤ 60) : RowsAt ls (k + 1) (F ++ (h ++ encodeL m)) := by
  obtain ⟨es, h1, h2, h3⟩ := hr
  refine ⟨es ++ [(h, m)], ?_, ?_, ?_⟩
  · rw [List.map_append, h1, List.take_add_one, hk]; rfl
  · intro e he
    rcases List.mem_append.1 he with he | he
    · exact h2 e he
    · obtain rfl := List.mem_singleton.1 he
      exact ⟨hh, hl⟩
  · rw [List.map_append, List.flatten_append, h3]
    simp [entL]
theorem flat_len : ∀ (es : List (List UInt8 × List UInt8)), (∀ e ∈ es, e.1.length ≤ 60 ∧ e.2.length ≤ 2000) → (es.map entL).flatten.length ≤ es.length * 4100
  | [], _ => by simp
  | e :: es, h => by
    have h1 := h e (by simp)
    have ih := flat_len es (fun x hx => h x (List.mem_cons_of_mem _ hx))
    have he := (encode_length e.2).2
    simp only [List.map_cons, List.flatten_cons, List.length_append, List.length_cons, entL] at ih ⊢
    omega
theorem headL_len {sender : List UInt8} {y m d h mi s wk : Int} (hb : Bds y m d h mi s wk) (hs : sender.length ≤ 3) : (headL sender (boxL y m d h mi s wk)).length ≤ 60 := by
  have := boxL_len hb
  unfold headL
  simp only [List.length_append, List.length_cons, List.length_nil, fromL]
  omega
theorem rowsAt_len {ls : List (List UInt8)} {k : Nat} {F : List UInt8} (hr : RowsAt ls k F) (hk : k ≤ 30) (hm : ∀ m ∈ ls.take k, m.length ≤ 2000) : F.length ≤ 123000 := by
  obtain ⟨es, h1, h2, rfl⟩ := hr
  have hl : es.length ≤ 30 := by
    have := congrArg List.length h1
    rw [List.length_map, List.length_take] at this
    omega
  have := flat_len es (fun e he => ⟨(h2 e he).2, hm e.2 (by rw [← h1]; exact List.mem_map.2 ⟨e, he, rfl⟩)⟩)
  omega

theorem ArgS.form {w : World} {v : Value} {ls : List (List UInt8)} (h : ArgS w v ls) : ∃ a c, v = .slice a ls.length c ∧ ∀ j, j < ls.length → ∃ b o, a = some ⟨b, o, none⟩ ∧ b < w.heap.size ∧ w.cell? ⟨b, o + j, none⟩ = some (.string (bs (ls.getD j []))) := by
  rcases h with ⟨a, c, rfl, rfl⟩ | ⟨b, o, c, rfl, h1, h2, h3⟩
  · exact ⟨a, c, rfl, fun j hj => by simp at hj⟩
  · exact ⟨_, c, rfl, fun j hj => ⟨b, o, rfl, h2, h3 j hj⟩⟩

theorem decL_encode (m : List UInt8) : decL (encodeL m) = m := by
  obtain ⟨_, t, h1, h2⟩ := decode_ok m
  have hn := encode_nosep m
  rw [h1] at hn ⊢
  rw [decL_eq t hn, h2]
/-- what stands at a file's spans -/
theorem rows_spans {ls : List (List UInt8)} {F : List UInt8} (hr : RowsAt ls ls.length F) : ∃ ss, scanL F = some ss ∧ ss.length = ls.length ∧ ∀ (k : Nat) (s : Sp), ss[k]? = some s →
    decOk ((F.drop s.body).take (s.fin - s.body)) = true ∧ decL ((F.drop s.body).take (s.fin - s.body)) = ls.getD k [] ∧ s.body ≤ s.fin ∧ s.fin ≤ F.length := by
  obtain ⟨es, h1, h2, h3⟩ := hr
  rw [List.take_length] at h1
  have hsc := scan_rows es (fun e he => (h2 e he).1)
  rw [h3] at hsc
  refine ⟨_, hsc, by rw [spansOf_len, ← h1]; simp, fun k s hk => ?_⟩
  obtain ⟨e, k1, k2, k3, k4, k5, k6, k7⟩ := spans_at es [] 0 rfl k s hk
  rw [List.nil_append, h3] at k3 k6
  have hl : (entL e).length = e.1.length + (encodeL e.2).length := by simp [entL]
  rw [k3]
  refine ⟨(decode_ok e.2).1, ?_, by omega, k6⟩
  rw [decL_encode, ← h1]
  simp [List.getD, k1]

theorem and31 (t : Int) : 0 ≤ bits .and .i64 t 2147483647 ∧ bits .and .i64 t 2147483647 ≤ 2147483647 := by
  obtain ⟨n, hn, hn2⟩ : ∃ n : Nat, bits .and .i64 t 2147483647 = IntKind.i64.wrap (n : Int) ∧ n ≤ 2147483647 := by
    refine ⟨_, rfl, ?_⟩
    have h2 : (BitVec.ofInt IntKind.i64.bits 2147483647).toNat = 2147483647 := by decide
    have h1 := Nat.and_le_right (n := (BitVec.ofInt IntKind.i64.bits t).toNat) (m := (BitVec.ofInt IntKind.i64.bits 2147483647).toNat)
    rw [h2] at h1
    have h3 : (BitVec.ofInt IntKind.i64.bits t &&& BitVec.ofInt IntKind.i64.bits 2147483647).toNat = (BitVec.ofInt IntKind.i64.bits t).toNat &&& (BitVec.ofInt IntKind.i64.bits 2147483647).toNat := BitVec.toNat_and ..
    show (BitVec.ofInt IntKind.i64.bits t &&& BitVec.ofInt IntKind.i64.bits 2147483647).toNat ≤ _
    rw [h3, h2]
    exact h1
  rw [hn, IntWalk.i64_in _ (by omega)]
  omega

set_option maxRecDepth 100000 in
set_option maxHeartbeats 4000000 in
theorem mboxRows_any (v : Value) (ls : List (List UInt8)) (t : Int) (w : World) (hv : ArgS w v ls) (x : Addr) (hE : w.cell? ⟨1, 0, none⟩ = some (errV x)) (hT : Tab w) :
    Calls Tryd.prog 3 #[v, .int .i64 t] w fun e w' => e = .returned (.bool true) ∧ Below w.heap.size w w' := by
  obtain ⟨va, vc, rfl, hva⟩ := hv.form
  have hal := alive_any x w hE hT
  have HE := Lib.hid hE
  have HT := Lib.hid hT
  have HVA := Lib.hid hva
  clear hE hT hv hva
  go_enter Tryd.func3, Tryd.ntmps3
  go_wp2_with fail
  refine hal.mono ?_
  rintro e' w1 ⟨rfl, hb1⟩
  clear hal
  by_cases hl : 30 < ls.length
  · have hl' : (30 : Int) < ls.length := by omega
    go_wp2
    go_ret
    exact ⟨rfl, hb1⟩
  have hl' : ¬ (30 : Int) < ls.length := by omega
  obtain ⟨h0, h31⟩ := and31 t
  obtain ⟨t2, ht2⟩ : ∃ t2, bits .and .i64 t 2147483647 = t2 := ⟨_, rfl⟩
  rw [ht2] at h0 h31
  have HT2 := Lib.hid ht2
  have HE1 := Lib.hid ((hb1.cell (p := ⟨1, 0, none⟩) (cell_lt HE.out)).trans HE.out)
  have HT1 := Lib.hid (HT.out.below hb1)
  have HVB := Lib.hid (fun j hj => (by obtain ⟨b, o, h1, h2, h3⟩ := HVA.out j hj; exact ⟨b, o, h1, Nat.lt_of_lt_of_le h2 hb1.size, (hb1.cell (p := ⟨b, o + j, none⟩) h2).trans h3⟩ : ∃ b o, va = some ⟨b, o, none⟩ ∧ b < w1.heap.size ∧ w1.cell? ⟨b, o + j, none⟩ = some (.string (bs (ls.getD j [])))))
  clear ht2 HE HT HVA
  go_upto_block 0 with fail
  rw [HT2.out]
  go_cut [5, 7, 8, 9, 25] (fun v5 _ _ _ _ wc => ∃ F, v5 = .string (bs F) ∧ Below w1.heap.size w1 wc ∧ F.length ≤ 123000 ∧ Hid (RowsAt ls ls.length F))
  case first =>
    go_wp2_with fail
    go_loopw [5, 7, 8, 9, 25] (fun v5 _ _ _ v25 wr => ∃ (k : Nat) (F : List UInt8), k ≤ ls.length ∧ v25 = .int .i64 k ∧ v5 = .string (bs F) ∧ F.length ≤ 123000 ∧ Below w1.heap.size w1 wr ∧ Hid (RowsAt ls k F) ∧ Hid (∀ m ∈ ls.take k, m.length ≤ 2000)) (fun _ _ _ _ v25 _ => ls.length - (intOf v25).toNat)
    case atStart => exact ⟨0, [], Nat.zero_le _, rfl, rfl, by simp, Below.refl _ _, rowsAt_zero ls, by intro m hm; simp at hm⟩
    case round =>
      obtain ⟨k, F, hk, rfl, rfl, hFl, hB, hra, hml⟩ := hrel
      have hBB := hb1.trans (hB.mono hb1.size)
      by_cases hlt : k < ls.length
      · obtain ⟨b, o, rfl, hb, hcell⟩ := HVB.out k hlt
        obtain ⟨m, hm⟩ : ∃ m, ls.getD k [] = m := ⟨_, rfl⟩
        have hcr := (hB.cell (p := ⟨b, o + k, none⟩) hb).trans hcell
        rw [hm] at hcr
        have hkm : ls[k]? = some m := by rw [← hm]; simp [List.getD, hlt]
        have hlt' : (k : Int) < ls.length := by omega
        have HKM := Lib.hid hkm
        clear hcell hm hkm
        by_cases hm2 : 2000 < m.length
        · have hm2' : (2000 : Int) < m.length := by omega
          clear hra hml
          go_wp2_with fail
          go_ret
          exact ⟨rfl, hBB⟩
        have hm2' : ¬ (2000 : Int) < m.length := by omega
        have hen := entry_ok [120, 64, 121] m t2 wr (by decide) (by decide) (by omega) h0 (by omega) (HT1.out.below hB)
        have HEN := Lib.hid hen
        clear hen
        go_wp2_with fail
        refine HEN.out.mono ?_
        rintro e' w2 ⟨y, mo, d, hh, mi, sc, wk, hcv, rfl, hb2⟩
        have hbd := Cal.civ7_bd h0 hcv
        have hhk := head_ok (sender := [120, 64, 121]) (by decide) (box_nl y mo d hh mi sc wk)
        have hhl := headL_len (sender := [120, 64, 121]) hbd (by decide)
        have hra2 := rowsAt_succ hra.out HKM.out hhk hhl
        have hml2 : ∀ m' ∈ ls.take (k + 1), m'.length ≤ 2000 := by
          intro m' hm'
          rw [List.take_add_one, HKM.out] at hm'
          rcases List.mem_append.1 hm' with h | h
          · exact hml.out m' h
          · obtain rfl : m' = m := by simpa using h
            omega
        have hFl2 := rowsAt_len hra2 (by omega) hml2
        obtain ⟨X, hX⟩ : ∃ X, headL [120, 64, 121] (boxL y mo d hh mi sc wk) ++ encodeL m = X := ⟨_, rfl⟩
        rw [hX] at hra2 hFl2 ⊢
        have HRA := Lib.hid hra2
        have HML := Lib.hid hml2
        have hba := bs_append F X
        have hFX : F.length + X.length ≤ 123000 := by rw [← List.length_append]; exact hFl2
        clear hra hml hX hra2 hml2 hcv hhk hhl hbd HEN
        go_wp2_with fail
        go_roundw
        case rel => exact ⟨k + 1, F ++ X, by omega, by go_num, rfl, hFl2, hB.trans (hb2.mono hB.size), HRA.out, HML.out⟩
        case measure => simp [intOf]; omega
      · obtain rfl : k = ls.length := by omega
        clear hml
        go_wp2_with fail
        go_meet
        case rel => exact ⟨F, rfl, hB, hFl, hra⟩
  case rest =>
    obtain ⟨F, rfl, hB, hFl, hra⟩ := hcut
    have hBB := hb1.trans (hB.mono hb1.size)
    obtain ⟨ss, hsc, hsl, hat⟩ := rows_spans hra.out
    have hscan := scan_any F x wc (by omega) ((hB.cell (p := ⟨1, 0, none⟩) (cell_lt HE1.out)).trans HE1.out)
    rw [hsc] at hscan
    have HSC := Lib.hid hscan
    have HAT := Lib.hid hat
    have HSL := Lib.hid hsl
    clear hra hsc hscan hat hsl
    go_wp2_with fail
    refine HSC.out.mono ?_
    rintro e' w2 ⟨⟨v2, rfl, o2⟩, hb2⟩
    have hB2 := hB.trans (hb2.mono hB.size)
    obtain ⟨xa, xn, xc, rfl, hxn⟩ := o2.form
    obtain rfl : xn = ls.length := hxn.out.trans HSL.out
    have O2 := Lib.hid o2
    have HVB2 := Lib.hid (fun j hj => (by obtain ⟨b, o, h1, h2, h3⟩ := HVB.out j hj; exact ⟨b, o, h1, Nat.lt_of_lt_of_le h2 hB2.size, (hB2.cell (p := ⟨b, o + j, none⟩) h2).trans h3⟩ : ∃ b o, va = some ⟨b, o, none⟩ ∧ b < w2.heap.size ∧ w2.cell? ⟨b, o + j, none⟩ = some (.string (bs (ls.getD j [])))))
    have hBB2 := hb1.trans (hB2.mono hb1.size)
    clear HSC hxn o2 HVB HE1 HT1 HT2
    go_wp2
    go_loopw [12, 13, 14, 15, 60] (fun _ _ _ _ v60 wr => ∃ k : Nat, k ≤ ls.length ∧ v60 = .int .i64 k ∧ Below w2.heap.size w2 wr) (fun _ _ _ _ v60 _ => ls.length - (intOf v60).toNat)
    case atStart => exact ⟨0, Nat.zero_le _, rfl, Below.refl _ _⟩
    case round =>
      obtain ⟨k, hk, rfl, hbr⟩ := hrel
      by_cases hlt : k < ls.length
      · obtain ⟨sp, hsp⟩ : ∃ y, ss[k]? = some y := ⟨_, List.getElem?_eq_getElem (by rw [HSL.out]; exact hlt)⟩
        have ha := O2.out.below hbr
        obtain ⟨ga, ca, ea, _, hla⟩ := ha.parts.resolve_left (fun h => by have h9 := HSL.out; rw [h.2] at h9; simp at h9; omega)
        simp only [Value.slice.injEq] at ea
        obtain ⟨rfl, hxx, rfl⟩ := ea
        clear hxx
        obtain ⟨x0, x1, x2⟩ := cells3 ha k sp hsp
        obtain ⟨s1, s2, s3, s4⟩ := HAT.out k sp hsp
        have hms := fun w0 => message_yes F sp.head sp.body sp.fin w0 s3 s4 (by omega) s1
        obtain ⟨b, o, rfl, hb, hcell⟩ := HVB2.out k hlt
        obtain ⟨m, hm⟩ : ∃ m, ls.getD k [] = m := ⟨_, rfl⟩
        rw [s2] at hms
        rw [hm] at hcell hms
        have HMS := Lib.hid hms
        have hlt' : (k : Int) < ls.length := by omega
        have hbx : Below wr.heap.size wr (wr.alloc (.cells #[.int .i64 sp.head, .int .i64 sp.body, .int .i64 sp.fin] 32)) := (Below.refl _ _).alloc (Nat.le_refl _) _
        clear ha hsp s1 s2 hm hms
        go_wp2_with fail
        refine (HMS.out _).mono ?_
        rintro e' w6 ⟨rfl, hb6⟩
        have hB6 : Below w2.heap.size w2 w6 := hbr.trans ((hbx.trans (hb6.mono hbx.size)).mono hbr.size)
        have hcr := (hB6.cell (p := ⟨b, o + k, none⟩) hb).trans hcell
        clear x0 x1 x2 HMS hcell
        go_wp2
        go_roundw
        case rel => exact ⟨k + 1, by omega, by go_num, hB6⟩
        case measure => simp [intOf]; omega
      · obtain rfl : k = ls.length := by omega
        go_wp2
        go_ret
        exact ⟨rfl, hBB2.trans (hbr.mono hBB2.size)⟩

end Go.Proofs.YtcjnpklmfcbofaaDoor
