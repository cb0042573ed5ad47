/- The reference's Header. -/
import Derived.Test.YtplmekfcnggigaaDoorHA
import Derived.Test.YtplmekfcnggigaaDoorH6
import Derived.Test.YtplmekfcnggigaaDoorH7
import Derived.Test.YtplmekfcnggigaaDoorSq
set_option linter.unusedVariables false
set_option linter.unusedSimpArgs false
namespace Go.Proofs.YtplmekfcnggigaaDoor
open Go.RowKit

/-- fields and a number handed back -/
def HeaderP (B : Nat) (G : List Fld × Nat) (w : World) (e : Ending) (w' : World) : Prop := ∃ v, e = .returned (.tuple #[v, .int .i64 G.2]) ∧ OwnF w' B v G.1 ∧ Below B w w'

/-- what a line that is a field puts behind the ":" -/
def restL (t : List UInt8) : List UInt8 := match nameL t with | some (_, v) => v | none => []

theorem textL_pre (l : List UInt8) : textL l <+: l := by
  have h : ∀ (a b : List UInt8), Lib.trimSuffix a b <+: a := by
    intro a b; unfold Lib.trimSuffix; split
    · exact List.take_prefix _ _
    · exact List.prefix_rfl
  unfold textL
  split
  · exact (h _ _).trans (h _ _)
  · exact List.prefix_rfl
theorem textL_head {l : List UInt8} {c : UInt8} {r : List UInt8} (h : textL l = c :: r) : ∃ s, l = c :: s := by
  obtain ⟨s, hs⟩ := textL_pre l
  rw [h] at hs
  exact ⟨r ++ s, hs.symm⟩
theorem restL_len (t : List UInt8) : (restL t).length ≤ t.length := by
  unfold restL
  cases h : nameL t with
  | none => simp
  | some q =>
    obtain ⟨n, v⟩ := q
    have := nameL_len h
    simp; omega
theorem name_parts {t n v : List UInt8} (h : nameL t = some (n, v)) : t = n ++ 58 :: v ∧ n ≠ [] := by
  unfold nameL at h
  cases hc : cutC t with
  | none => rw [hc] at h; cases h
  | some q =>
    obtain ⟨a, r⟩ := q
    rw [hc] at h
    simp only at h
    split at h
    · rename_i hh
      obtain ⟨rfl, rfl⟩ := Prod.mk.inj (Option.some.inj h)
      exact ⟨cutC_some hc, hh.1⟩
    · cases h

theorem getD_at {ls : List (List UInt8)} {k : Nat} (h : k < ls.length) {l : List UInt8} (hl : ls.getD k [] = l) : ls.drop k = l :: ls.drop (k + 1) := by
  rw [List.drop_eq_getElem_cons h, ← hl, List.getD_eq_getElem?_getD, List.getElem?_eq_getElem h]; rfl

theorem contL_cons_yes {p : Nat} {l : List UInt8} {ls : List (List UInt8)} (h : goesB (textL l) = true) : contL p (l :: ls) = (textL l ++ (contL (p + l.length) ls).1, (contL (p + l.length) ls).2.1, (contL (p + l.length) ls).2.2) := by
  rw [contL, if_pos h]
theorem contL_cons_no {p : Nat} {l : List UInt8} {ls : List (List UInt8)} (h : goesB (textL l) = false) : contL p (l :: ls) = ([], p, l :: ls) := by
  rw [contL, if_neg (by simp [h])]

theorem OwnS.over {w w' : World} {B2 : Nat} {v2 : Value} {ls : List (List UInt8)} (h : OwnS w B2 v2 ls) (hb : Below w.heap.size w w') : OwnS w' B2 v2 ls := by
  refine ⟨h.1, ?_⟩
  rcases h.2 with h0 | ⟨g, cap, cur, rfl, h1, h2, r⟩
  · exact .inl h0
  · exact .inr ⟨g, cap, cur, rfl, h1, (hb.block g (Array.getElem?_eq_some_iff.1 h2).1).trans h2, r⟩
/-- the lines' slice where all blocks but the fields' row are as they were -/
theorem OwnS.away {w w' : World} {B B2 : Nat} {v v2 : Value} {fs : List Fld} {ls : List (List UInt8)} (h : OwnS w B2 v2 ls) (hr : OwnF w B v fs) (hf : ∀ k, k < w.heap.size → v.ownBlock ≠ some k → w'.heap[k]? = w.heap[k]?) : OwnS w' B2 v2 ls := by
  refine ⟨h.1, ?_⟩
  rcases h.2 with h0 | ⟨g, cap, cur, rfl, h1, h2, r⟩
  · exact .inl h0
  · refine .inr ⟨g, cap, cur, rfl, h1, (hf g (Array.getElem?_eq_some_iff.1 h2).1 ?_).trans h2, r⟩
    intro e
    rcases hr.2 with ⟨rfl, _⟩ | ⟨g', cap', cur', rfl, _, hg', _⟩
    · cases e
    · obtain rfl : g' = g := by simpa [Value.ownBlock] using e
      rw [h2] at hg'
      simp at hg'

set_option maxRecDepth 100000 in
set_option maxHeartbeats 16000000 in
theorem refHeader_any (m : List UInt8) (w : World) (hm : m.length ≤ 100000000) : Calls Tryd.prog 16 #[.string (bs m)] w (HeaderP w.heap.size (refL 0 (linesOf m)) w) := by
  obtain ⟨i0, hi0, hz0, hz1, hz2⟩ := info_parts info_fld
  have hll := linesOf_length m
  have hm2 : m.length ≤ 1099511627776 := by omega
  obtain ⟨ls, hls⟩ : ∃ ls, linesOf m = ls := ⟨_, rfl⟩
  obtain ⟨G, hG⟩ : ∃ G, refL 0 ls = G := ⟨_, rfl⟩
  have hflat : ls.flatten = m := by rw [← hls]; exact linesOf_flatten m
  rw [hls] at hll ⊢
  rw [hG]
  have HLS := Lib.hid hls
  have HG := Lib.hid hG
  have HFL := Lib.hid hflat
  have HM := Lib.hid hm2
  have HMM := Lib.hid hm
  clear hls hG hflat hm2
  go_enter Tryd.func16, Tryd.ntmps16
  go_wp2_with fail
  refine (refSplit_any m _ HM.out).mono ?_
  rintro e w2 ⟨v2, rfl, o2, hb2⟩
  rw [HLS.out] at o2
  have k2 : OwnF w2 w.heap.size (.slice (some ⟨w.heap.size, 0, none⟩) 0 0) [] := OwnF.below (World.ownsRow_lit w #[] 0 (Nat.le_refl _) (by decide) rfl) hb2
  have hB2 : Below w.heap.size w w2 := ((Below.refl _ w).alloc (Nat.le_refl _) _).trans (hb2.mono (by simp))
  rw [size_alloc] at o2
  clear hb2
  obtain ⟨a2, n2, cap2, rfl, hn2⟩ := OwnS.form o2
  have hn2' : n2 ≤ 100000000 := by rw [hn2.out]; omega
  go_wp2_with fail
  go_loopw [4, 6, 7, 8, 9, 10, 11] (fun v4 v6 v7 _ _ _ _ wr => ∃ (k p : Nat) (fs : List Fld), k ≤ ls.length ∧ fs.length ≤ k ∧ v6 = .int .i64 p ∧ v7 = .int .i64 k ∧ OwnF wr w.heap.size v4 fs ∧ OwnS wr (w.heap.size + 1) (.slice a2 n2 cap2) ls ∧ Below w.heap.size w wr ∧ Hid ((fs ++ (refL p (ls.drop k)).1, (refL p (ls.drop k)).2) = G) ∧ Hid (p + (ls.drop k).flatten.length = m.length)) (fun _ _ v7 _ _ _ _ _ => ls.length - (intOf v7).toNat)
  case atStart => exact ⟨0, 0, [], Nat.zero_le _, Nat.le_refl _, rfl, rfl, k2, o2, hB2, by show _ = _; rw [List.drop_zero, HG.out]; rfl, by show _ = _; rw [List.drop_zero, HFL.out]; omega⟩
  case round =>
    obtain ⟨k, p, fs, hk, hfk, rfl, rfl, hof, hos, hB, hgo, hpl⟩ := hrel
    by_cases hlt : k < ls.length
    · obtain ⟨g, cap, hv2, hg⟩ := (OwnS.parts hos).resolve_left (fun h => by have := h.2; rw [this] at hlt; simp at hlt)
      obtain ⟨rfl, rfl, rfl⟩ : a2 = some ⟨g, 0, none⟩ ∧ n2 = ls.length ∧ cap2 = cap := by simpa using hv2
      obtain ⟨l, hl⟩ : ∃ l, ls.getD k [] = l := ⟨_, rfl⟩
      have hcell := (OwnS.set hos hlt []).1
      rw [hl] at hcell
      have hdrop := getD_at hlt hl
      obtain ⟨t, ht⟩ : ∃ t, textL l = t := ⟨_, rfl⟩
      have hpl' := hpl.out
      have hgo' := hgo.out
      rw [hdrop, refL_cons, ht] at hgo'
      rw [hdrop, List.flatten_cons, List.length_append] at hpl'
      have hll2 : l.length ≤ 100000000 := by omega
      have hpp : p + l.length ≤ 100000000 := by omega
      have htl : t.length ≤ l.length := by rw [← ht]; exact textL_len l
      have HPL : Hid (p + l.length + (ls.drop (k + 1)).flatten.length = m.length) := by show _ = _; omega
      have HT := Lib.hid ht
      have HOS := Lib.hid hos
      have HGO := Lib.hid hgo'
      have hlt' : (k : Int) < ls.length := by omega
      have hzr := hB.size
      clear hl hdrop hgo hpl hgo' hpl' ht hv2
      go_wp2_with fail
      refine (refText_any l _ (by omega)).mono ?_
      rintro e w' ⟨rfl, rfl⟩
      rw [HT.out]
      cases t with
      | nil =>
        have hG2 := HGO.out
        rw [if_pos rfl] at hG2
        have hG3 : G = (fs, p + l.length) := by rw [← hG2]; simp
        subst hG3
        go_wp2
        go_ret2
        exact ⟨_, by go_num, hof, hB⟩
      | cons c r =>
        have hG2 := HGO.out
        rw [if_neg (by simp)] at hG2
        obtain ⟨C, hC⟩ : ∃ C, contL (p + l.length) (ls.drop (k + 1)) = C := ⟨_, rfl⟩
        rw [hC] at hG2
        obtain ⟨CT, CQ, CR⟩ := C
        have HC := Lib.hid hC
        have HTL : Hid ((c :: r).length ≤ 1099511627776) := by show _ ≤ _; omega
        cases hn : nameL (c :: r) with
        | none =>
          rw [hn] at hG2
          have HG2 := Lib.hid hG2
          have hcv : colonV (c :: r) = -1 := by unfold colonV; rw [hn]
          have HCV := Lib.hid hcv
          simp only [List.length_cons] at htl
          clear hcv hG2 hC HGO hn
          go_wp2_with fail
          refine (colon_any (c :: r) _ HTL.out).mono ?_
          rintro e w' ⟨rfl, rfl⟩
          rw [HCV.out]
          obtain ⟨V0, hV0⟩ : ∃ V0 : List UInt8, [] = V0 := ⟨_, rfl⟩
          have HVE := Lib.hid hV0
          have HV0 : Hid (V0.length ≤ p + l.length) := by show _ ≤ _; rw [← hV0]; simp
          have HG9 := HG2.out
          clear hV0 HG9
          go_upto_block 2 with fail
          go_cut [6, 7, 10] from 46 to 81 (fun v6 v7 v10 wc => ∃ k1 : Nat, k < k1 ∧ k1 ≤ ls.length ∧ v6 = .int .i64 CQ ∧ v7 = .int .i64 k1 ∧ v10 = .string (bs (V0 ++ CT)) ∧ Below wr.heap.size wr wc ∧ (V0 ++ CT).length ≤ CQ ∧ Hid (CR = ls.drop k1) ∧ Hid (CQ + (ls.drop k1).flatten.length = m.length))
          case first =>
            go_wp2_with fail
            go_loopw [6, 7, 10] (fun v6 v7 v10 wq => ∃ (k1 p1 : Nat) (v1 : List UInt8), k < k1 ∧ k1 ≤ ls.length ∧ v6 = .int .i64 p1 ∧ v7 = .int .i64 k1 ∧ v10 = .string (bs v1) ∧ Below wr.heap.size wr wq ∧ v1.length ≤ p1 ∧ Hid ((v1 ++ (contL p1 (ls.drop k1)).1, (contL p1 (ls.drop k1)).2.1, (contL p1 (ls.drop k1)).2.2) = (V0 ++ CT, CQ, CR)) ∧ Hid (p1 + (ls.drop k1).flatten.length = m.length)) (fun _ v7 _ _ => ls.length - (intOf v7).toNat)
            case atStart => exact ⟨k + 1, p + l.length, V0, by omega, by omega, by go_num, by go_num, by rw [← HVE.out], by first | exact Below.refl _ _ | exact below_drewN (Below.refl _ _) _, HV0.out, by show _ = _; rw [HC.out], HPL.out⟩
            case round =>
              obtain ⟨k1, p1, v1, hk1, hk1l, rfl, rfl, rfl, hBq, hv1, hco, hp1⟩ := hrel
              have hosq := HOS.out.over hBq
              by_cases hlt1 : k1 < ls.length
              · obtain ⟨l1, hl1⟩ : ∃ l1, ls.getD k1 [] = l1 := ⟨_, rfl⟩
                have hcell1 := (OwnS.set hosq hlt1 []).1
                rw [hl1] at hcell1
                have hdrop1 := getD_at hlt1 hl1
                obtain ⟨t1, ht1⟩ : ∃ t1, textL l1 = t1 := ⟨_, rfl⟩
                have hco' := hco.out
                have hp1' := hp1.out
                rw [hdrop1] at hco' hp1'
                rw [List.flatten_cons, List.length_append] at hp1'
                have hm9 := HMM.out
                have hll1 : l1.length ≤ 100000000 := by omega
                have hpp1 : p1 + l1.length ≤ 100000000 := by omega
                have htl1 : t1.length ≤ l1.length := by rw [← ht1]; exact textL_len l1
                have HP1 : Hid (p1 + l1.length + (ls.drop (k1 + 1)).flatten.length = m.length) := by show _ = _; omega
                have HT1 := Lib.hid ht1
                have HD1 := Lib.hid hdrop1
                have HCO := Lib.hid hco'
                have HL1 := Lib.hid hl1
                have hlt1' : (k1 : Int) < ls.length := by omega
                clear hl1 hdrop1 hco hp1 hco' hp1' ht1 hosq hm9
                go_wp2_with fail
                refine (refText_any l1 _ (by omega)).mono ?_
                rintro e w' ⟨rfl, rfl⟩
                rw [HT1.out]
                by_cases hb1 : goesB t1 = true
                · obtain ⟨c1, r1, rfl⟩ : ∃ c1 r1, t1 = c1 :: r1 := by
                    cases t1 with
                    | nil => cases hb1
                    | cons c1 r1 => exact ⟨c1, r1, rfl⟩
                  have hpos1 : 0 < l1.length := by have h9 := htl1; simp at h9; omega
                  have hx1 : (bs l1)[0]'(by rw [bs_size]; exact hpos1) = c1 := by obtain ⟨s1, hs⟩ := textL_head HT1.out; subst hs; rfl
                  have HB1 : Hid (blankB c1 = true) := hb1
                  have hco2 : Hid (((v1 ++ c1 :: r1) ++ (contL (p1 + l1.length) (ls.drop (k1 + 1))).1, (contL (p1 + l1.length) (ls.drop (k1 + 1))).2.1, (contL (p1 + l1.length) (ls.drop (k1 + 1))).2.2) = (V0 ++ CT, CQ, CR)) := by
                    have h9 := HCO.out
                    rw [contL_cons_yes (by rw [HT1.out]; exact hb1), HT1.out] at h9
                    show _ = _
                    rw [← h9]
                    simp
                  simp only [List.length_cons] at htl1
                  have hsz1 : ¬ 9223372036854775807 < v1.length + (r1.length + 1) := by omega
                  have HX : Hid ((v1 ++ c1 :: r1).length ≤ p1 + l1.length) := by show _ ≤ _; simp; omega
                  clear hb1 HCO
                  go_wp2_with fail
                  refine (blank_any c1 _).mono ?_
                  rintro e w' ⟨rfl, rfl⟩
                  rw [HB1.out]
                  clear hx1
                  go_wp2_with fail
                  refine (refText_any l1 _ (by omega)).mono ?_
                  rintro e w' ⟨rfl, rfl⟩
                  rw [HT1.out]
                  go_wp2
                  go_roundw
                  case rel => exact ⟨k1 + 1, p1 + l1.length, v1 ++ c1 :: r1, by omega, by omega, by go_num, by go_num, by rw [bs_append], hBq, HX.out, hco2, HP1.out⟩
                  case measure => simp [intOf]; omega
                · have hb1f : goesB t1 = false := by simpa using hb1
                  have h9 := HCO.out
                  rw [contL_cons_no (by rw [HT1.out]; exact hb1f)] at h9
                  have h9a : v1 = V0 ++ CT := by simpa using congrArg Prod.fst h9
                  have h9b : p1 = CQ := congrArg (fun q => q.2.1) h9
                  have h9c : l1 :: ls.drop (k1 + 1) = CR := congrArg (fun q => q.2.2) h9
                  have HQ : Hid (CR = ls.drop k1) := by show _ = _; rw [HD1.out, h9c]
                  have HQ2 : Hid (CQ + (ls.drop k1).flatten.length = m.length) := by
                    show _ = _
                    rw [HD1.out, List.flatten_cons, List.length_append, ← h9b]
                    have := HP1.out; omega
                  have HQ3 : Hid ((V0 ++ CT).length ≤ CQ) := by show _ ≤ _; rw [← h9a, ← h9b]; exact hv1
                  subst h9b
                  have H9A := Lib.hid h9a
                  clear h9 h9c h9a HCO
                  cases t1 with
                  | nil =>
                    clear hb1 hb1f
                    go_wp2
                    go_meet
                    case rel => exact ⟨k1, hk1, hk1l, rfl, rfl, by rw [H9A.out], hBq, HQ3.out, HQ, HQ2⟩
                  | cons c1 r1 =>
                    have hpos1 : 0 < l1.length := by have h9 := htl1; simp at h9; omega
                    have hx1 : (bs l1)[0]'(by rw [bs_size]; exact hpos1) = c1 := by obtain ⟨s1, hs⟩ := textL_head HT1.out; subst hs; rfl
                    have HB1 : Hid (blankB c1 = false) := hb1f
                    clear hb1 hb1f
                    simp only [List.length_cons] at htl1
                    go_wp2_with fail
                    refine (blank_any c1 _).mono ?_
                    rintro e w' ⟨rfl, rfl⟩
                    rw [HB1.out]
                    clear hx1
                    go_wp2
                    go_meet
                    case rel => exact ⟨k1, hk1, hk1l, rfl, rfl, by rw [H9A.out], hBq, HQ3.out, HQ, HQ2⟩
              · obtain rfl : k1 = ls.length := by omega
                have h9 := hco.out
                rw [List.drop_length, contL] at h9
                have h9a : v1 = V0 ++ CT := by simpa using congrArg Prod.fst h9
                have h9b : p1 = CQ := congrArg (fun q => q.2.1) h9
                have h9c : [] = CR := congrArg (fun q => q.2.2) h9
                have HQ : Hid (CR = ls.drop ls.length) := by show _ = _; rw [List.drop_length, h9c]
                have HQ3 : Hid ((V0 ++ CT).length ≤ CQ) := by show _ ≤ _; rw [← h9a, ← h9b]; exact hv1
                subst h9b
                have H9A := Lib.hid h9a
                clear h9 h9c h9a hco hlt1 hosq
                go_wp2
                go_meet
                case rel => exact ⟨ls.length, hk1, Nat.le_refl _, rfl, rfl, by rw [H9A.out], hBq, HQ3.out, HQ, hp1⟩
          case rest =>
            obtain ⟨k1, hk1, hk1l, rfl, rfl, rfl, hBc, hvl, hCR, hCQ⟩ := hcut
            have HGN : Hid ((fs ++ (refL CQ (ls.drop k1)).1, (refL CQ (ls.drop k1)).2) = G) := by
              show _ = _
              rw [← hCR.out]; exact HG2.out
            clear HG2
            go_wp2
            go_roundw
            case rel => exact ⟨k1, CQ, fs, hk1l, by omega, rfl, rfl, hof.below hBc, HOS.out.over hBc, hB.trans (hBc.mono hzr), HGN, hCQ⟩
            case measure => simp [intOf]; omega
        | some q =>
          obtain ⟨n, v⟩ := q
          rw [hn] at hG2
          have hgb : goesB (c :: r) = false := by
            cases hh : goesB (c :: r) with
            | false => rfl
            | true => rw [nameL_goes hh] at hn; cases hn
          dsimp only at hG2
          rw [if_neg (by rw [hgb]; simp)] at hG2
          have HG2 := Lib.hid hG2
          have hcv : colonV (c :: r) = n.length := by unfold colonV; rw [hn]
          have HCV := Lib.hid hcv
          obtain ⟨hsp, hne⟩ := name_parts hn
          have hlen9 : r.length + 1 = n.length + (v.length + 1) := by have := congrArg List.length hsp; simpa using this
          have hzn : (bs (c :: r)).extract 0 n.length = bs n := by rw [bs_take, hsp]; simp
          have hzv : (bs (c :: r)).extract (n.length + 1) (r.length + 1) = bs v := by
            rw [bs_drop _ _ _ (by simp), hsp]
            simp
          have hx0 : (bs (c :: r))[0]'(by rw [bs_size]; simp) = c := rfl
          have HB0 : Hid (blankB c = false) := hgb
          have hle9 : n.length + 1 ≤ r.length + 1 := by omega
          have HV0 : Hid (v.length ≤ p + l.length) := by show _ ≤ _; simp only [List.length_cons] at htl; omega
          have HX0 := Lib.hid hx0
          have hle8 : (n.length : Int) ≤ r.length + 1 := by omega
          have HZN := Lib.hid hzn
          simp only [List.length_cons] at htl
          clear hcv hG2 hC HGO hn hsp hne hgb hlen9 hx0 hzn
          go_wp2_with fail
          refine (colon_any (c :: r) _ HTL.out).mono ?_
          rintro e w' ⟨rfl, rfl⟩
          rw [HCV.out]
          go_upto_block 2 with fail
          go_cut [6, 7, 10] from 46 to 81 (fun v6 v7 v10 wc => ∃ k1 : Nat, k < k1 ∧ k1 ≤ ls.length ∧ v6 = .int .i64 CQ ∧ v7 = .int .i64 k1 ∧ v10 = .string (bs (v ++ CT)) ∧ Below wr.heap.size wr wc ∧ (v ++ CT).length ≤ CQ ∧ Hid (CR = ls.drop k1) ∧ Hid (CQ + (ls.drop k1).flatten.length = m.length))
          case first =>
            go_wp2_with fail
            go_loopw [6, 7, 10] (fun v6 v7 v10 wq => ∃ (k1 p1 : Nat) (v1 : List UInt8), k < k1 ∧ k1 ≤ ls.length ∧ v6 = .int .i64 p1 ∧ v7 = .int .i64 k1 ∧ v10 = .string (bs v1) ∧ Below wr.heap.size wr wq ∧ v1.length ≤ p1 ∧ Hid ((v1 ++ (contL p1 (ls.drop k1)).1, (contL p1 (ls.drop k1)).2.1, (contL p1 (ls.drop k1)).2.2) = (v ++ CT, CQ, CR)) ∧ Hid (p1 + (ls.drop k1).flatten.length = m.length)) (fun _ v7 _ _ => ls.length - (intOf v7).toNat)
            case atStart => exact ⟨k + 1, p + l.length, v, by omega, by omega, by go_num, by go_num, rfl, by first | exact Below.refl _ _ | exact below_drewN (Below.refl _ _) _, HV0.out, by show _ = _; rw [HC.out], HPL.out⟩
            case round =>
              obtain ⟨k1, p1, v1, hk1, hk1l, rfl, rfl, rfl, hBq, hv1, hco, hp1⟩ := hrel
              have hosq := HOS.out.over hBq
              by_cases hlt1 : k1 < ls.length
              · obtain ⟨l1, hl1⟩ : ∃ l1, ls.getD k1 [] = l1 := ⟨_, rfl⟩
                have hcell1 := (OwnS.set hosq hlt1 []).1
                rw [hl1] at hcell1
                have hdrop1 := getD_at hlt1 hl1
                obtain ⟨t1, ht1⟩ : ∃ t1, textL l1 = t1 := ⟨_, rfl⟩
                have hco' := hco.out
                have hp1' := hp1.out
                rw [hdrop1] at hco' hp1'
                rw [List.flatten_cons, List.length_append] at hp1'
                have hm9 := HMM.out
                have hll1 : l1.length ≤ 100000000 := by omega
                have hpp1 : p1 + l1.length ≤ 100000000 := by omega
                have htl1 : t1.length ≤ l1.length := by rw [← ht1]; exact textL_len l1
                have HP1 : Hid (p1 + l1.length + (ls.drop (k1 + 1)).flatten.length = m.length) := by show _ = _; omega
                have HT1 := Lib.hid ht1
                have HD1 := Lib.hid hdrop1
                have HCO := Lib.hid hco'
                have HL1 := Lib.hid hl1
                have hlt1' : (k1 : Int) < ls.length := by omega
                clear hl1 hdrop1 hco hp1 hco' hp1' ht1 hosq hm9
                go_wp2_with fail
                refine (refText_any l1 _ (by omega)).mono ?_
                rintro e w' ⟨rfl, rfl⟩
                rw [HT1.out]
                by_cases hb1 : goesB t1 = true
                · obtain ⟨c1, r1, rfl⟩ : ∃ c1 r1, t1 = c1 :: r1 := by
                    cases t1 with
                    | nil => cases hb1
                    | cons c1 r1 => exact ⟨c1, r1, rfl⟩
                  have hpos1 : 0 < l1.length := by have h9 := htl1; simp at h9; omega
                  have hx1 : (bs l1)[0]'(by rw [bs_size]; exact hpos1) = c1 := by obtain ⟨s1, hs⟩ := textL_head HT1.out; subst hs; rfl
                  have HB1 : Hid (blankB c1 = true) := hb1
                  have hco2 : Hid (((v1 ++ c1 :: r1) ++ (contL (p1 + l1.length) (ls.drop (k1 + 1))).1, (contL (p1 + l1.length) (ls.drop (k1 + 1))).2.1, (contL (p1 + l1.length) (ls.drop (k1 + 1))).2.2) = (v ++ CT, CQ, CR)) := by
                    have h9 := HCO.out
                    rw [contL_cons_yes (by rw [HT1.out]; exact hb1), HT1.out] at h9
                    show _ = _
                    rw [← h9]
                    simp
                  simp only [List.length_cons] at htl1
                  have hsz1 : ¬ 9223372036854775807 < v1.length + (r1.length + 1) := by omega
                  have HX : Hid ((v1 ++ c1 :: r1).length ≤ p1 + l1.length) := by show _ ≤ _; simp; omega
                  clear hb1 HCO
                  go_wp2_with fail
                  refine (blank_any c1 _).mono ?_
                  rintro e w' ⟨rfl, rfl⟩
                  rw [HB1.out]
                  clear hx1
                  go_wp2_with fail
                  refine (refText_any l1 _ (by omega)).mono ?_
                  rintro e w' ⟨rfl, rfl⟩
                  rw [HT1.out]
                  go_wp2
                  go_roundw
                  case rel => exact ⟨k1 + 1, p1 + l1.length, v1 ++ c1 :: r1, by omega, by omega, by go_num, by go_num, by rw [bs_append], hBq, HX.out, hco2, HP1.out⟩
                  case measure => simp [intOf]; omega
                · have hb1f : goesB t1 = false := by simpa using hb1
                  have h9 := HCO.out
                  rw [contL_cons_no (by rw [HT1.out]; exact hb1f)] at h9
                  have h9a : v1 = v ++ CT := by simpa using congrArg Prod.fst h9
                  have h9b : p1 = CQ := congrArg (fun q => q.2.1) h9
                  have h9c : l1 :: ls.drop (k1 + 1) = CR := congrArg (fun q => q.2.2) h9
                  have HQ : Hid (CR = ls.drop k1) := by show _ = _; rw [HD1.out, h9c]
                  have HQ2 : Hid (CQ + (ls.drop k1).flatten.length = m.length) := by
                    show _ = _
                    rw [HD1.out, List.flatten_cons, List.length_append, ← h9b]
                    have := HP1.out; omega
                  have HQ3 : Hid ((v ++ CT).length ≤ CQ) := by show _ ≤ _; rw [← h9a, ← h9b]; exact hv1
                  subst h9b
                  have H9A := Lib.hid h9a
                  clear h9 h9c h9a HCO
                  cases t1 with
                  | nil =>
                    clear hb1 hb1f
                    go_wp2
                    go_meet
                    case rel => exact ⟨k1, hk1, hk1l, rfl, rfl, by rw [H9A.out], hBq, HQ3.out, HQ, HQ2⟩
                  | cons c1 r1 =>
                    have hpos1 : 0 < l1.length := by have h9 := htl1; simp at h9; omega
                    have hx1 : (bs l1)[0]'(by rw [bs_size]; exact hpos1) = c1 := by obtain ⟨s1, hs⟩ := textL_head HT1.out; subst hs; rfl
                    have HB1 : Hid (blankB c1 = false) := hb1f
                    clear hb1 hb1f
                    simp only [List.length_cons] at htl1
                    go_wp2_with fail
                    refine (blank_any c1 _).mono ?_
                    rintro e w' ⟨rfl, rfl⟩
                    rw [HB1.out]
                    clear hx1
                    go_wp2
                    go_meet
                    case rel => exact ⟨k1, hk1, hk1l, rfl, rfl, by rw [H9A.out], hBq, HQ3.out, HQ, HQ2⟩
              · obtain rfl : k1 = ls.length := by omega
                have h9 := hco.out
                rw [List.drop_length, contL] at h9
                have h9a : v1 = v ++ CT := by simpa using congrArg Prod.fst h9
                have h9b : p1 = CQ := congrArg (fun q => q.2.1) h9
                have h9c : [] = CR := congrArg (fun q => q.2.2) h9
                have HQ : Hid (CR = ls.drop ls.length) := by show _ = _; rw [List.drop_length, h9c]
                have HQ3 : Hid ((v ++ CT).length ≤ CQ) := by show _ ≤ _; rw [← h9a, ← h9b]; exact hv1
                subst h9b
                have H9A := Lib.hid h9a
                clear h9 h9c h9a hco hlt1 hosq
                go_wp2
                go_meet
                case rel => exact ⟨ls.length, hk1, Nat.le_refl _, rfl, rfl, by rw [H9A.out], hBq, HQ3.out, HQ, hp1⟩
          case rest =>
            obtain ⟨k1, hk1, hk1l, rfl, rfl, rfl, hBc, hvl, hCR, hCQ⟩ := hcut
            have HGN : Hid (((fs ++ [⟨n, trimB (v ++ CT), p, CQ⟩]) ++ (refL CQ (ls.drop k1)).1, (refL CQ (ls.drop k1)).2) = G) := by
              show _ = _
              rw [← hCR.out, ← HG2.out]
              simp
            have hofc := hof.below hBc
            have hosc := HOS.out.over hBc
            have hBcc : Below w.heap.size w wc := hB.trans (hBc.mono hzr)
            have hzc : w.heap.size ≤ wc.heap.size := hBcc.size
            have hcqm : CQ ≤ 100000000 := by have := hCQ.out; have := HMM.out; omega
            have HVL : Hid ((v ++ CT).length ≤ 1099511627776) := by show _ ≤ _; omega
            have hx0 := HX0.out
            have hzn := HZN.out
            clear HG2 hzv hcell
            go_wp2_with fail
            refine (blank_any c _).mono ?_
            rintro e w' ⟨rfl, rfl⟩
            rw [HB0.out]
            go_wp2_with fail

            go_region_law (first | (refine step_append_lies _ (by rfl) _ _ _ (by rfl) w.heap.size 31 i0 _ 4 48 Tryd.underlying25 hi0 hz0 hz1 hz2 rfl (by omega) _ fs.length (cellsF fs) (by rfl) ((World.ownsRow.alloc hofc _).drew) ⟨wc.heap.size, 0, none⟩ 1 1 [.string (bs n), .string (bs (trimB (v ++ CT))), .int .i64 p, .int .i64 CQ] (by rfl) (by rfl) (World.news_of_block (cs := #[.string (bs n), .string (bs (trimB (v ++ CT))), .int .i64 p, .int .i64 CQ]) (t := 31) (fr := (0, 0)) (heap_new wc _)) (by simp [Value.oneCell']) (by omega) (by unfold maxLen; omega) (by omega) (by simp; omega) (wc.heap.size + 1) (by simp) ?_; intro gg cap w2 hown2 hgrow hat hlt) | (go_simp; go_wp2_with (refine (refTrim_any _ _ HVL.out).mono ?_; rintro e w' ⟨rfl, rfl⟩)))
            all_goals
              go_wp2
              simp only [List.getElem_toArray, List.getElem_cons_succ, List.getElem_cons_zero, Act.put, List.setIfInBounds_toArray, List.set_cons_succ, List.set_cons_zero]
              go_roundw
              case rel =>
                refine ⟨k1, CQ, fs ++ [⟨n, trimB (v ++ CT), p, CQ⟩], hk1l, by simp; omega, rfl, rfl, ?_, OwnS.away hosc hofc (fun k hk hne => (hgrow.block k (by simp; omega) (fun e => hne e.symm)).trans (heap_old wc _ _ hk)), hBcc.trans ⟨hgrow.os, hgrow.tape, hgrow.output, by have := hgrow.size; simp at this; omega, fun k hk => (hgrow.block k (by simp; omega) (fun e => by have := (World.ownsRow.lt hofc k e.symm).1; omega)).trans (heap_old wc _ _ (by omega))⟩, HGN, hCQ⟩
                unfold OwnF
                rw [List.length_append, cellsF_append]
                exact hown2
              case measure => simp [intOf]; omega
    · obtain rfl : k = ls.length := by omega
      have hG2 := hgo.out
      rw [List.drop_length, refL] at hG2
      have hG3 : G = (fs, p) := by rw [← hG2]; simp
      subst hG3
      have hge : ¬ (ls.length : Int) < n2 := by rw [hn2.out]; omega
      go_wp2
      go_ret2
      exact ⟨_, rfl, hof, hB⟩

end Go.Proofs.YtplmekfcnggigaaDoor
