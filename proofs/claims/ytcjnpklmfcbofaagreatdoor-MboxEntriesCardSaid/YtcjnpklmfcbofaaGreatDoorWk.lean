/- Texts of one walk, merged: XD44 XDg. -/
import Derived.Test.YtcjnpklmfcbofaaGreatDoorWj
import Derived.Deep.CutBlock
import Derived.Deep.DeepCutAuto
import Derived.Deep.RegionHeld3

/- The reference's ParseMail. -/
set_option linter.unusedVariables false
set_option linter.unusedSimpArgs false
section
set_option linter.unusedVariables false
set_option linter.unusedSimpArgs false
namespace Go.Proofs.YtcjnpklmfcbofaaGreatDoor
open Go.RowKit Go

theorem SV.at {w : World} {v : Value} {ls : List (List UInt8)} (h : SV w v ls) : ∃ b o c, v = .slice (some ⟨b, o, none⟩) ls.length c ∧ ls.length ≤ c ∧ b < w.heap.size ∧ ∀ j x, ls[j]? = some x → w.cell? ⟨b, o + j, none⟩ = some (.string (bs x)) := by
  obtain ⟨b, o, c, h1, h2, h3, h4⟩ := h
  refine ⟨b, o, c, h1, h2, h3, fun j x hx => ?_⟩
  obtain ⟨hj, rfl⟩ := List.getElem?_eq_some_iff.1 hx
  rw [h4 j hj]
  simp [List.getD, hj]

theorem words_mem : ∀ (l cur : List UInt8), ∀ x ∈ wordsGo cur l, x.length ≤ cur.length + l.length
  | [], cur, x, hx => by
    rw [wordsGo_end] at hx
    split at hx
    · cases hx
    · obtain rfl : x = cur := by simpa using hx
      simp
  | c :: l, cur, x, hx => by
    rw [wordsGo_cons] at hx
    split at hx
    · split at hx
      · have := words_mem l [] x hx; simp at this ⊢; omega
      · rcases List.mem_cons.1 hx with rfl | hx
        · omega
        · have := words_mem l [] x hx; simp at this ⊢; omega
    · have := words_mem l _ x hx; simp at this ⊢; omega

theorem row_cell2 {W : World} {g : Nat} {cs : Array Value} {t : TypeId} {fr : Nat × Nat} (h : W.heap[g]? = some (.cells cs t fr)) (i : Nat) : W.cell? ⟨g, i, none⟩ = cs[i]? := by
  simp [World.cell?, h]
theorem set_blk {W : World} {g : Nat} {cs : Array Value} {t : TypeId} {fr : Nat × Nat} (h : W.heap[g]? = some (.cells cs t fr)) (k : Nat) (x : Value) : (W.setCell ⟨g, k, none⟩ x).heap[g]? = some (.cells (cs.setIfInBounds k x) t fr) := by
  simp [World.setCell, Array.getElem?_modify, h]
theorem cellsS_one (ls : List (List UInt8)) : ∀ u ∈ cellsS ls, u.oneCell' = true := by
  intro u hu
  obtain ⟨x, _, rfl⟩ := List.mem_map.1 hu
  rfl
theorem SV.cells_alloc {w : World} {b o n c : Nat} {ls : List (List UInt8)} (h : SV w (.slice (some ⟨b, o, none⟩) n c) ls) (O : Obj) : ∀ j u, (cellsS ls)[j]? = some u → (w.alloc O).cell? ((⟨b, o, none⟩ : Addr).add j) = some u := by
  intro j u hu
  obtain ⟨b', o', c', hv, _, hb, hc⟩ := h
  obtain ⟨⟨rfl, rfl⟩, _, _⟩ : (b = b' ∧ o = o') ∧ n = ls.length ∧ c = c' := by simpa using hv
  have hj : j < ls.length := by have := (List.getElem?_eq_some_iff.1 hu).1; rwa [cellsS_length] at this
  have e : (⟨b, o, none⟩ : Addr).add j = ⟨b, o + j, none⟩ := by unfold Addr.add; split <;> simp_all
  rw [e]
  refine (cell_alloc (hc j hj) O).trans ?_
  rw [← hu]
  simp [cellsS, List.getD, hj]

theorem time_digits (w : List UInt8) : (likeL w [48, 48, 58, 48, 48] = true ∨ likeL w [48, 48, 58, 48, 48, 58, 48, 48] = true) → ((w.take 2).length = 2 ∧ ∀ c ∈ w.take 2, isD c = true) ∧ (((w.drop 3).take 2).length = 2 ∧ ∀ c ∈ (w.drop 3).take 2, isD c = true) ∧ (w.length = 5 ∨ w.length = 8 ∧ (w.drop 6).length = 2 ∧ ∀ c ∈ w.drop 6, isD c = true) := by
  rintro (h | h)
  · have hl := likeL_len2 h
    match w, hl with
    | [c0, c1, c2, c3, c4], _ =>
      rw [show ([48, 48, 58, 48, 48] : List UInt8) = [48, 48] ++ ([58] ++ [48, 48]) from rfl, likeL_append, likeL_append] at h
      simp only [List.length_cons, List.length_nil, List.take_succ_cons, List.take_zero, List.drop_succ_cons, List.drop_zero, Nat.zero_add, Bool.and_eq_true] at h
      exact ⟨like_dig (n := 2) h.1, like_dig (n := 2) h.2.2, .inl rfl⟩
  · have hl := likeL_len2 h
    match w, hl with
    | [c0, c1, c2, c3, c4, c5, c6, c7], _ =>
      rw [show ([48, 48, 58, 48, 48, 58, 48, 48] : List UInt8) = [48, 48] ++ ([58] ++ ([48, 48] ++ ([58] ++ [48, 48]))) from rfl, likeL_append, likeL_append, likeL_append, likeL_append] at h
      simp only [List.length_cons, List.length_nil, List.take_succ_cons, List.take_zero, List.drop_succ_cons, List.drop_zero, Nat.zero_add, Bool.and_eq_true] at h
      exact ⟨like_dig (n := 2) h.1, like_dig (n := 2) h.2.2.1, .inr ⟨rfl, like_dig (n := 2) h.2.2.2.2⟩⟩

theorem refTail_parsed (w0 w1 w2 w3 w4 : List UInt8) : parsedI (refTailC [w0, w1, w2, w3, w4]) = if (likeL w0 [48] = true ∨ likeL w0 [48, 48] = true) ∧ 0 ≤ plL 12 0 monthsL w1 ∧ likeL w2 [48, 48, 48, 48] = true ∧ (likeL w3 pat5 = true ∨ likeL w3 pat8 = true) then
    (match zoneR w4 with | none => (0, 2) | some z => madeI (valueL w2) (plL 12 0 monthsL w1 + 1) (valueL w0) (valueL (w3.take 2)) (valueL ((w3.drop 3).take 2)) (if w3.length = 8 then valueL (w3.drop 6) else 0) z) else (0, 2) := by
  by_cases hc : (likeL w0 [48] = true ∨ likeL w0 [48, 48] = true) ∧ 0 ≤ plL 12 0 monthsL w1 ∧ likeL w2 [48, 48, 48, 48] = true ∧ (likeL w3 pat5 = true ∨ likeL w3 pat8 = true)
  · rw [(refTailC_5 w0 w1 w2 w3 w4).trans (if_pos hc), if_pos hc]
    rcases zoneR w4 with _ | z <;> rfl
  · rw [(refTailC_5 w0 w1 w2 w3 w4).trans (if_neg hc), if_neg hc]
    rfl

/-- is the first word a day's name -/
def dayName : List (List UInt8) → Bool
  | [] => false
  | w0 :: _ => decide (0 ≤ plL 7 0 daysL (w0.take 3))

set_option maxRecDepth 100000 in
set_option maxHeartbeats 8000000 in
theorem refParseMail_any (l : List UInt8) (w : World) (hl : l.length ≤ 1000) : Calls Tryz.prog 26 #[.string (bs l)] w fun e w' => e = .returned (pairV (parsedI (refMailC (wordsGo [] l)))) ∧ Below w.heap.size w w' := by
  have hwd := fun w0 => refWords_any l w0 (by omega)
  have hwl : ∀ x ∈ wordsGo [] l, x.length ≤ 1000 := by
    intro x hx
    have := words_mem l [] x hx
    simp at this
    omega
  have hwc := words_count l []
  have hwg := wordsGo_good l [] (by simp)
  obtain ⟨ws, hws⟩ : ∃ ws, wordsGo [] l = ws := ⟨_, rfl⟩
  rw [hws] at hwd hwl hwc hwg ⊢
  have HWD := Lib.hid hwd
  have HWL := Lib.hid hwl
  have HWG := Lib.hid hwg
  clear hwd hwl hwg hws
  obtain ⟨i0, hi, hz0, hz1, hz2⟩ := info_parts info_str
  go_enter Tryz.func26, Tryz.ntmps26
  go_wp2_with fail
  refine (HWD.out _).mono ?_
  rintro e w1 ⟨v, rfl, ho, hv, hb1⟩
  have sv := ho.sv hv
  clear ho hv
  obtain ⟨b, o, c, rfl, hcap, hblt, hcell⟩ := sv.at
  have HCELL := Lib.hid hcell
  obtain ⟨N, hN⟩ : ∃ N, ws.length = N := ⟨_, rfl⟩
  rw [hN] at sv hcap hwc
  rw [hN]
  have HN := Lib.hid hN
  clear hcell hN
  go_upto_region 3 with fail
  go_cut [29] (fun d wx => d = .bool (dayName ws) ∧ Below w1.heap.size w1 wx)
  case first =>
    cases ws with
    | nil =>
      obtain rfl : N = 0 := HN.out.symm
      go_wp2
      go_meet
      case rel => exact ⟨rfl, Below.refl _ _⟩
    | cons w0 ws =>
      have c0 := HCELL.out 0 w0 rfl
      rw [Nat.add_zero] at c0
      have hpos2 : 0 < N := by rw [← HN.out]; simp
      have hpos : (0 : Int) < N := by omega
      by_cases h3 : 3 ≤ w0.length
      · have h3' : (3 : Int) ≤ w0.length := by omega
        have hs := fun W => run_to w0 3 h3 W
        have hp := fun W => place_any 7 (w0.take 3) daysL W (by decide) (by decide) (by simp; omega)
        have hdn : dayName (w0 :: ws) = decide (0 ≤ plL 7 0 daysL (w0.take 3)) := rfl
        obtain ⟨D, hD⟩ : ∃ D, w0.take 3 = D := ⟨_, rfl⟩
        rw [hD] at hs hp hdn
        unfold daysL at hp hdn
        obtain ⟨p, hpp⟩ : ∃ p, plL 7 0 [83, 117, 110, 77, 111, 110, 84, 117, 101, 87, 101, 100, 84, 104, 117, 70, 114, 105, 83, 97, 116] D = p := ⟨_, rfl⟩
        rw [hpp] at hp hdn
        simp at hs
        have HP := Lib.hid hp
        have HDN := Lib.hid hdn
        clear hp hD hpp hdn
        go_wp2_with fail
        refine (HP.out _).mono ?_
        rintro e w2 ⟨rfl, hb2⟩
        go_wp2
        go_meet
        case rel => exact ⟨by rw [HDN.out], hb2⟩
      · have h3' : ¬ (3 : Int) ≤ w0.length := by omega
        have hd : dayName (w0 :: ws) = false := by
          show decide _ = false
          rw [decide_eq_false_iff_not]
          intro h
          have := plL_len 7 0 daysL _ (by decide) h
          rw [List.length_take] at this
          omega
        have HD := Lib.hid hd
        clear hd
        go_wp2
        go_meet
        case rel => exact ⟨by rw [HD.out], Below.refl _ _⟩
  case rest =>
    obtain ⟨rfl, hBx⟩ := hcut
    have hz := hb1.trans (hBx.mono hb1.size)
    have svx := sv.below hBx
    go_upto_if 29 with fail
    clear sv hcap hblt HCELL hBx
    go_cut [4, 6] (fun s4 _ wx => ∃ ls : List (List UInt8), SV wx s4 ls ∧ Hid (refMailC ws = refTailC ls) ∧ ls.length ≤ 2000 ∧ Hid (∀ x ∈ ls, x.length ≤ 1000) ∧ Below w.heap.size w wx)
    case first =>
      rcases hdn : dayName ws with _ | _
      · have hm : refMailC ws = refTailC ws := by
          cases ws with
          | nil => rfl
          | cons w0 ws =>
            have h9 : ¬ 0 ≤ plL 7 0 daysL (w0.take 3) := of_decide_eq_false hdn
            rw [refMailC_cons, if_neg h9]
        have HM := Lib.hid hm
        clear hm hdn
        go_wp2
        go_meet
        case rel => exact ⟨ws, svx, HM.out, by rw [HN.out]; omega, HWL.out, hz⟩
      · obtain ⟨w0, ws1, rfl⟩ : ∃ w0 ws1, ws = w0 :: ws1 := by
          cases ws with
          | nil => cases hdn
          | cons w0 ws1 => exact ⟨w0, ws1, rfl⟩
        have h9 : 0 ≤ plL 7 0 daysL (w0.take 3) := of_decide_eq_true hdn
        have hl3 := plL_len 7 0 daysL _ (by decide) h9
        rw [List.length_take] at hl3
        have hm : refMailC (w0 :: ws1) = if w0.drop 3 = [] then commaN ws1 else commaC (w0.drop 3) ws1 := by rw [refMailC_cons, if_pos h9]
        obtain ⟨b', o', c', hv', _, _, hcell'⟩ := svx.at
        obtain ⟨⟨rfl, rfl⟩, rfl, rfl⟩ : (b = b' ∧ o = o') ∧ N = (w0 :: ws1).length ∧ c = c' := by simpa using hv'
        have c0 := hcell' 0 w0 rfl
        rw [Nat.add_zero] at c0
        obtain ⟨b1, o1, c1, htl, sv1⟩ := svx.tail
        have hfr := fun W => run_from w0 3 (by omega) W
        obtain ⟨R0, hR0⟩ : ∃ R0, w0.drop 3 = R0 := ⟨_, rfl⟩
        rw [hR0] at hm hfr
        simp at hfr
        have HM := Lib.hid hm
        have hl3' : (3 : Int) ≤ w0.length := by omega
        have HWL0 := HWL.out w0 (by simp)
        have hR0l : R0.length ≤ 1000 := by rw [← hR0, List.length_drop]; omega
        clear hm hdn h9 hl3 hv' hcell' hR0
        obtain ⟨N1, hN1⟩ : ∃ N1, (w0 :: ws1).length = N1 := ⟨_, rfl⟩
        have hN1p : 0 < N1 := by rw [← hN1]; simp
        have hN1q : (0 : Int) < N1 := by omega
        rw [hN1] at htl svx ⊢
        clear hN1
        --COMMA
        have HVS1 : Hid (∀ x ∈ ws1, x.length ≤ 1000) := fun x hx => HWL.out x (List.mem_cons_of_mem _ hx)
        have hn1 : ws1.length ≤ 1001 := by simp at hwc; omega
        by_cases hr : R0 = []
        · subst hr
          rw [if_pos rfl] at HM
          cases ws1 with
          | nil =>
            have hm2 : refMailC [w0] = none := HM.out
            have HM2 := Lib.hid hm2
            clear hm2 HM
            go_wp2
            go_ret2
            exact ⟨by rw [HM2.out]; rfl, hz⟩
          | cons v vs =>
            obtain ⟨x, xs, rfl⟩ : ∃ x xs, v = x :: xs := by
              cases v with
              | nil => exact absurd rfl (HWG.out [] (by simp)).1
              | cons x xs => exact ⟨x, xs, rfl⟩
            obtain ⟨b2, o2, c2, htl2, sv2⟩ := sv1.tail
            obtain ⟨b3, o3, c3, hv3, _, _, hcell3⟩ := sv1.at
            obtain ⟨⟨rfl, rfl⟩, rfl⟩ : (b1 = b3 ∧ o1 = o3) ∧ c1 = c3 := by simpa using hv3
            have d0 := hcell3 0 (x :: xs) rfl
            rw [Nat.add_zero] at d0
            have HM3 : Hid (refMailC (w0 :: (x :: xs) :: vs) = commaC (x :: xs) vs) := HM.out
            have HVS : Hid (∀ z ∈ vs, z.length ≤ 1000) := fun z hz9 => HVS1.out z (List.mem_cons_of_mem _ hz9)
            have hxb : xs.length ≤ 1000 := by have := HVS1.out (x :: xs) (by simp); simp at this; omega
            have hvb : vs.length ≤ 1001 := by simp at hn1; omega
            obtain ⟨N2, hN2⟩ : ∃ N2, ((x :: xs) :: vs).length = N2 := ⟨_, rfl⟩
            have hN2p : 0 < N2 := by rw [← hN2]; simp
            rw [hN2] at htl htl2
            clear hv3 hcell3 hN2 sv1 svx
            as_aux_lemma =>
              have hx0 : (bs (x :: xs))[0]'(by rw [bs_size]; simp) = x := rfl
              have hcm := HM3.out
              unfold commaC at hcm
              simp only [List.headD_cons, List.drop_succ_cons, List.drop_zero] at hcm
              by_cases h44 : x = 44
              · rw [if_pos h44] at hcm
                have n1 : ((x.toNat : Int) != 44) = false := by rw [h44]; rfl
                have n2 : ((x.toNat : Int) == 44) = true := by rw [h44]; rfl
                by_cases hxs : xs = []
                · rw [if_pos hxs] at hcm
                  have HCM := Lib.hid hcm
                  clear hcm h44 HM
                  subst hxs
                  go_wp2
                  go_meet
                  case rel => exact ⟨vs, sv2, HCM.out, by omega, HVS.out, hz⟩
                · rw [if_neg hxs] at hcm
                  have HCM := Lib.hid hcm
                  have hxl : 0 < xs.length := by cases hq : xs with | nil => exact absurd hq hxs | cons _ _ => simp
                  have hxl2 : (0 : Int) < xs.length := by omega
                  have hfx := fun W => run_from (x :: xs) 1 (by simp) W
                  simp only [List.drop_succ_cons, List.drop_zero] at hfx
                  simp at hfx
                  have hown := World.ownsRow_lit (base := w.heap.size) (e := 9) (size := 1) wc #[.string (bs xs)] 1 hz.size (by decide) rfl
                  have hnw := SV.cells_alloc sv2 (.cells #[.string (bs xs)] 9)
                  clear hcm h44 HM hxs
                  go_wp2_with (at_builtin; refine wpList_append_own _ rfl _ _ 49 rfl w.heap.size 9 i0 (.string ⟨#[]⟩) 1 16 Tryz.underlying49 hi hz0 hz1 hz2 rfl (by decide) _ _ _ rfl hown _ _ _ (cellsS vs) rfl (by rw [cellsS_length, Nat.mul_one]) hnw (cellsS_one _) ?e3 ?e4 ?e5 ?_)
                  case e3 => unfold maxLen; omega
                  case e4 => omega
                  case e5 => have := hz.size; simp; omega
                  intro v2 w2 hown2 hgrow hnil
                  have R1 : OwnS w2 w.heap.size v2 (xs :: vs) := by unfold OwnS; rw [List.length_cons, Nat.add_comm]; exact hown2
                  have R2 : Below w.heap.size w w2 := (hz.alloc hz.size _).grown hgrow (by have := hz.size; simp; omega) (fun k e => (World.ownsRow.lt hown k e).1)
                  have R3 : v2 ≠ .slice none 0 0 := by first | exact hnil | exact fun e => absurd (hnil.1 e).1 (by simp)
                  go_wp2
                  go_meet
                  case rel => exact ⟨xs :: vs, R1.sv R3, HCM.out, by simp; omega, by intro z hz9; rcases List.mem_cons.1 hz9 with rfl | hz9; omega; exact HVS.out z hz9, R2⟩
              · rw [if_neg h44] at hcm
                have n1 : ((x.toNat : Int) != 44) = true := by
                  rw [bne_iff_ne]; intro e; exact h44 (UInt8.toNat_inj.1 (by rw [show (44 : UInt8).toNat = 44 from rfl]; omega))
                have n2 : ((x.toNat : Int) == 44) = false := by
                  rw [beq_eq_false_iff_ne]; intro e; exact h44 (UInt8.toNat_inj.1 (by rw [show (44 : UInt8).toNat = 44 from rfl]; omega))
                have HCM := Lib.hid hcm
                clear hcm h44 HM
                go_wp2
                go_ret2
                exact ⟨by rw [HCM.out]; rfl, hz⟩
        · rw [if_neg hr] at HM
          obtain ⟨x, xs, rfl⟩ : ∃ x xs, R0 = x :: xs := by
            cases R0 with
            | nil => exact absurd rfl hr
            | cons x xs => exact ⟨x, xs, rfl⟩
          have HVS := HVS1
          have hxb : xs.length ≤ 1000 := by simp at hR0l; omega
          have hvb := hn1
          have HM3 := HM
          clear hr svx
          as_aux_lemma =>
            have hx0 : (bs (x :: xs))[0]'(by rw [bs_size]; simp) = x := rfl
            have hcm := HM3.out
            unfold commaC at hcm
            simp only [List.headD_cons, List.drop_succ_cons, List.drop_zero] at hcm
            by_cases h44 : x = 44
            · rw [if_pos h44] at hcm
              have n1 : ((x.toNat : Int) != 44) = false := by rw [h44]; rfl
              have n2 : ((x.toNat : Int) == 44) = true := by rw [h44]; rfl
              by_cases hxs : xs = []
              · rw [if_pos hxs] at hcm
                have HCM := Lib.hid hcm
                clear hcm h44 HM
                subst hxs
                go_wp2
                go_meet
                case rel => exact ⟨ws1, sv1, HCM.out, by omega, HVS.out, hz⟩
              · rw [if_neg hxs] at hcm
                have HCM := Lib.hid hcm
                have hxl : 0 < xs.length := by cases hq : xs with | nil => exact absurd hq hxs | cons _ _ => simp
                have hxl2 : (0 : Int) < xs.length := by omega
                have hfx := fun W => run_from (x :: xs) 1 (by simp) W
                simp only [List.drop_succ_cons, List.drop_zero] at hfx
                simp at hfx
                have hown := World.ownsRow_lit (base := w.heap.size) (e := 9) (size := 1) wc #[.string (bs xs)] 1 hz.size (by decide) rfl
                have hnw := SV.cells_alloc sv1 (.cells #[.string (bs xs)] 9)
                clear hcm h44 HM hxs
                go_wp2_with (at_builtin; refine wpList_append_own _ rfl _ _ 49 rfl w.heap.size 9 i0 (.string ⟨#[]⟩) 1 16 Tryz.underlying49 hi hz0 hz1 hz2 rfl (by decide) _ _ _ rfl hown _ _ _ (cellsS ws1) rfl (by rw [cellsS_length, Nat.mul_one]) hnw (cellsS_one _) ?e3 ?e4 ?e5 ?_)
                case e3 => unfold maxLen; omega
                case e4 => omega
                case e5 => have := hz.size; simp; omega
                intro v2 w2 hown2 hgrow hnil
                have R1 : OwnS w2 w.heap.size v2 (xs :: ws1) := by unfold OwnS; rw [List.length_cons, Nat.add_comm]; exact hown2
                have R2 : Below w.heap.size w w2 := (hz.alloc hz.size _).grown hgrow (by have := hz.size; simp; omega) (fun k e => (World.ownsRow.lt hown k e).1)
                have R3 : v2 ≠ .slice none 0 0 := by first | exact hnil | exact fun e => absurd (hnil.1 e).1 (by simp)
                go_wp2
                go_meet
                case rel => exact ⟨xs :: ws1, R1.sv R3, HCM.out, by simp; omega, by intro z hz9; rcases List.mem_cons.1 hz9 with rfl | hz9; omega; exact HVS.out z hz9, R2⟩
            · rw [if_neg h44] at hcm
              have n1 : ((x.toNat : Int) != 44) = true := by
                rw [bne_iff_ne]; intro e; exact h44 (UInt8.toNat_inj.1 (by rw [show (44 : UInt8).toNat = 44 from rfl]; omega))
              have n2 : ((x.toNat : Int) == 44) = false := by
                rw [beq_eq_false_iff_ne]; intro e; exact h44 (UInt8.toNat_inj.1 (by rw [show (44 : UInt8).toNat = 44 from rfl]; omega))
              have HCM := Lib.hid hcm
              clear hcm h44 HM
              go_wp2
              go_ret2
              exact ⟨by rw [HCM.out]; rfl, hz⟩
    case rest =>
      obtain ⟨wo, hwo⟩ : ∃ wo, wo = wc := ⟨_, rfl⟩
      subst hwo
      obtain ⟨ls, svl, HREF, hll, HLS, hzc⟩ := hcut
      obtain ⟨b, o, c, rfl, _, hblt, hcell⟩ := svl.at
      clear svl svx hz
      by_cases h5 : ls.length = 5
      · match ls, h5 with
        | [w0, w1, w2, w3, w4], _ =>
          have k00 : _ = some (Value.string (bs w0)) := hcell 0 w0 rfl
          have k01 : _ = some (Value.string (bs w1)) := hcell 1 w1 rfl
          have k02 : _ = some (Value.string (bs w2)) := hcell 2 w2 rfl
          have k03 : _ = some (Value.string (bs w3)) := hcell 3 w3 rfl
          have k04 : _ = some (Value.string (bs w4)) := hcell 4 w4 rfl
          rw [Nat.add_zero] at k00
          have hz0 : Below wo.heap.size wo wo := Below.refl _ _
          have l0 := HLS.out w0 (by simp)
          have l1 := HLS.out w1 (by simp)
          have l2 := HLS.out w2 (by simp)
          have l3 := HLS.out w3 (by simp)
          have l4 := HLS.out w4 (by simp)
          have hspec := congrArg parsedI HREF.out
          rw [refTail_parsed] at hspec
          unfold pat5 pat8 at hspec
          have H0 := Lib.hid (fun w0_1 => like_any w0 [48] w0_1 (by omega))
          have H1 := Lib.hid (fun w0_1 => like_any w0 [48, 48] w0_1 (by omega))
          have HM := Lib.hid (fun w0_1 => place_any 12 w1 monthsL w0_1 (by decide) (by decide) (by omega))
          have HMS := Lib.hid (fun wv => place_same 12 w1 monthsL wv (by decide) (by decide) (by omega))
          have HY := Lib.hid (fun w0_1 => like_any w2 [48, 48, 48, 48] w0_1 (by omega))
          have H5 := Lib.hid (fun w0_1 => like_any w3 [48, 48, 58, 48, 48] w0_1 (by omega))
          have H8 := Lib.hid (fun w0_1 => like_any w3 [48, 48, 58, 48, 48, 58, 48, 48] w0_1 (by omega))
          have HZ := Lib.hid (fun w0_1 => refZone_any w4 w0_1 (by omega))
          have hzb := zoneR_bd w4
          have hmb := plL_le 12 0 monthsL w1
          have dg : ((likeL w0 [48] = true ∨ likeL w0 [48, 48] = true) → w0.length ≤ 8 ∧ ∀ c ∈ w0, isD c = true) ∧ (likeL w2 [48, 48, 48, 48] = true → w2.length ≤ 8 ∧ ∀ c ∈ w2, isD c = true) := by
            refine ⟨fun h => ?_, fun h => ?_⟩
            · rcases h with h | h
              · have := like_dig (n := 1) h; exact ⟨by omega, this.2⟩
              · have := like_dig (n := 2) h; exact ⟨by omega, this.2⟩
            · have := like_dig (n := 4) h; exact ⟨by omega, this.2⟩
          have dt := time_digits w3
          obtain ⟨A0, e0⟩ : ∃ A, likeL w0 [48] = A := ⟨_, rfl⟩
          obtain ⟨A1, e1⟩ : ∃ A, likeL w0 [48, 48] = A := ⟨_, rfl⟩
          obtain ⟨M, e2⟩ : ∃ A, plL 12 0 monthsL w1 = A := ⟨_, rfl⟩
          obtain ⟨Y, e3⟩ : ∃ A, likeL w2 [48, 48, 48, 48] = A := ⟨_, rfl⟩
          obtain ⟨T5, e5⟩ : ∃ A, likeL w3 [48, 48, 58, 48, 48] = A := ⟨_, rfl⟩
          obtain ⟨T8, e8⟩ : ∃ A, likeL w3 [48, 48, 58, 48, 48, 58, 48, 48] = A := ⟨_, rfl⟩
          obtain ⟨zn, e4⟩ : ∃ A, zoneR w4 = A := ⟨_, rfl⟩
          rw [e0, e1, e2, e3, e5, e8, e4] at hspec
          rw [e0, e1, e3] at dg
          rw [e5, e8] at dt
          rw [e0] at H0
          rw [e1] at H1
          rw [e2] at HM HMS hmb
          rw [e3] at HY
          rw [e5] at H5
          rw [e8] at H8
          rw [e4] at HZ hzb
          unfold monthsL at HM HMS
          have HSP := Lib.hid hspec
          have HDG := Lib.hid dg
          have HDT := Lib.hid dt
          have HZB := Lib.hid hzb
          clear hspec e0 e1 e2 e3 e4 e5 e8 dg dt hzb hcell HREF HLS
          go_upto_region 13 with fail
          go_cut [108] (fun d wx => d = .bool (!((A0 || A1) && decide (0 ≤ M) && Y && (T5 || T8))) ∧ Below wo.heap.size wo wx)
          case first =>
            as_aux_lemma =>
              go_wp2_with fail
              refine (H0.out _).mono ?_
              rintro e w1 ⟨rfl, hb1⟩
              have hz1 := hz0.trans (hb1.mono hz0.size)
              have k10 : w1.cell? ⟨b, o, none⟩ = _ := (hb1.cell (cell_lt k00)).trans k00
              have k11 : w1.cell? ⟨b, o + 1, none⟩ = _ := (hb1.cell (cell_lt k01)).trans k01
              have k12 : w1.cell? ⟨b, o + 2, none⟩ = _ := (hb1.cell (cell_lt k02)).trans k02
              have k13 : w1.cell? ⟨b, o + 3, none⟩ = _ := (hb1.cell (cell_lt k03)).trans k03
              have k14 : w1.cell? ⟨b, o + 4, none⟩ = _ := (hb1.cell (cell_lt k04)).trans k04
              clear k00
              clear k01
              clear k02
              clear k03
              clear k04
              rcases A0 with _ | _
              · skip
                go_wp2_with fail
                refine (H1.out _).mono ?_
                rintro e w2 ⟨rfl, hb2⟩
                have hz2 := hz1.trans (hb2.mono hz1.size)
                have k20 : w2.cell? ⟨b, o, none⟩ = _ := (hb2.cell (cell_lt k10)).trans k10
                have k21 : w2.cell? ⟨b, o + 1, none⟩ = _ := (hb2.cell (cell_lt k11)).trans k11
                have k22 : w2.cell? ⟨b, o + 2, none⟩ = _ := (hb2.cell (cell_lt k12)).trans k12
                have k23 : w2.cell? ⟨b, o + 3, none⟩ = _ := (hb2.cell (cell_lt k13)).trans k13
                have k24 : w2.cell? ⟨b, o + 4, none⟩ = _ := (hb2.cell (cell_lt k14)).trans k14
                clear k10
                clear k11
                clear k12
                clear k13
                clear k14
                rcases A1 with _ | _
                · skip
                  go_wp2
                  go_meet
                  case rel => exact ⟨by first | rfl | (simp; done) | (simp [hm0]; done) | (simp; omega), hz2⟩
                · as_aux_lemma =>
                    go_wp2_with fail
                    refine (HM.out _).mono ?_
                    rintro e w3 ⟨rfl, hb3⟩
                    have hz3 := hz2.trans (hb3.mono hz2.size)
                    have k30 : w3.cell? ⟨b, o, none⟩ = _ := (hb3.cell (cell_lt k20)).trans k20
                    have k31 : w3.cell? ⟨b, o + 1, none⟩ = _ := (hb3.cell (cell_lt k21)).trans k21
                    have k32 : w3.cell? ⟨b, o + 2, none⟩ = _ := (hb3.cell (cell_lt k22)).trans k22
                    have k33 : w3.cell? ⟨b, o + 3, none⟩ = _ := (hb3.cell (cell_lt k23)).trans k23
                    have k34 : w3.cell? ⟨b, o + 4, none⟩ = _ := (hb3.cell (cell_lt k24)).trans k24
                    clear k20
                    clear k21
                    clear k22
                    clear k23
                    clear k24
                    by_cases hm0 : M < 0
                    · skip
                      go_wp2
                      go_meet
                      case rel => exact ⟨by first | rfl | (simp; done) | (simp [hm0]; done) | (simp; omega), hz3⟩
                    · skip
                      go_wp2_with fail
                      refine (HY.out _).mono ?_
                      rintro e w4 ⟨rfl, hb4⟩
                      have hz4 := hz3.trans (hb4.mono hz3.size)
                      have k40 : w4.cell? ⟨b, o, none⟩ = _ := (hb4.cell (cell_lt k30)).trans k30
                      have k41 : w4.cell? ⟨b, o + 1, none⟩ = _ := (hb4.cell (cell_lt k31)).trans k31
                      have k42 : w4.cell? ⟨b, o + 2, none⟩ = _ := (hb4.cell (cell_lt k32)).trans k32
                      have k43 : w4.cell? ⟨b, o + 3, none⟩ = _ := (hb4.cell (cell_lt k33)).trans k33
                      have k44 : w4.cell? ⟨b, o + 4, none⟩ = _ := (hb4.cell (cell_lt k34)).trans k34
                      clear k30
                      clear k31
                      clear k32
                      clear k33
                      clear k34
                      rcases Y with _ | _
                      · skip
                        go_wp2
                        go_meet
                        case rel => exact ⟨by first | rfl | (simp; done) | (simp [hm0]; done) | (simp; omega), hz4⟩
                      · skip
                        go_wp2_with fail
                        refine (H5.out _).mono ?_
                        rintro e w5 ⟨rfl, hb5⟩
                        have hz5 := hz4.trans (hb5.mono hz4.size)
                        have k50 : w5.cell? ⟨b, o, none⟩ = _ := (hb5.cell (cell_lt k40)).trans k40
                        have k51 : w5.cell? ⟨b, o + 1, none⟩ = _ := (hb5.cell (cell_lt k41)).trans k41
                        have k52 : w5.cell? ⟨b, o + 2, none⟩ = _ := (hb5.cell (cell_lt k42)).trans k42
                        have k53 : w5.cell? ⟨b, o + 3, none⟩ = _ := (hb5.cell (cell_lt k43)).trans k43
                        have k54 : w5.cell? ⟨b, o + 4, none⟩ = _ := (hb5.cell (cell_lt k44)).trans k44
                        clear k40
                        clear k41
                        clear k42
                        clear k43
                        clear k44
                        rcases T5 with _ | _
                        · skip
                          go_wp2_with fail
                          refine (H8.out _).mono ?_
                          rintro e w6 ⟨rfl, hb6⟩
                          have hz6 := hz5.trans (hb6.mono hz5.size)
                          have k60 : w6.cell? ⟨b, o, none⟩ = _ := (hb6.cell (cell_lt k50)).trans k50
                          have k61 : w6.cell? ⟨b, o + 1, none⟩ = _ := (hb6.cell (cell_lt k51)).trans k51
                          have k62 : w6.cell? ⟨b, o + 2, none⟩ = _ := (hb6.cell (cell_lt k52)).trans k52
                          have k63 : w6.cell? ⟨b, o + 3, none⟩ = _ := (hb6.cell (cell_lt k53)).trans k53
                          have k64 : w6.cell? ⟨b, o + 4, none⟩ = _ := (hb6.cell (cell_lt k54)).trans k54
                          clear k50
                          clear k51
                          clear k52
                          clear k53
                          clear k54
                          rcases T8 with _ | _
                          · skip
                            go_wp2
                            go_meet
                            case rel => exact ⟨by first | rfl | (simp; done) | (simp [hm0]; done) | (simp; omega), hz6⟩
                          · skip
                            go_wp2
                            go_meet
                            case rel => exact ⟨by first | rfl | (simp; done) | (simp [hm0]; done) | (simp; omega), hz6⟩
                        · skip
                          go_wp2
                          go_meet
                          case rel => exact ⟨by first | rfl | (simp; done) | (simp [hm0]; done) | (simp; omega), hz5⟩
              · as_aux_lemma =>
                  go_wp2_with fail
                  refine (HM.out _).mono ?_
                  rintro e w2 ⟨rfl, hb2⟩
                  have hz2 := hz1.trans (hb2.mono hz1.size)
                  have k20 : w2.cell? ⟨b, o, none⟩ = _ := (hb2.cell (cell_lt k10)).trans k10
                  have k21 : w2.cell? ⟨b, o + 1, none⟩ = _ := (hb2.cell (cell_lt k11)).trans k11
                  have k22 : w2.cell? ⟨b, o + 2, none⟩ = _ := (hb2.cell (cell_lt k12)).trans k12
                  have k23 : w2.cell? ⟨b, o + 3, none⟩ = _ := (hb2.cell (cell_lt k13)).trans k13
                  have k24 : w2.cell? ⟨b, o + 4, none⟩ = _ := (hb2.cell (cell_lt k14)).trans k14
                  clear k10
                  clear k11
                  clear k12
                  clear k13
                  clear k14
                  by_cases hm0 : M < 0
                  · skip
                    go_wp2
                    go_meet
                    case rel => exact ⟨by first | rfl | (simp; done) | (simp [hm0]; done) | (simp; omega), hz2⟩
                  · skip
                    go_wp2_with fail
                    refine (HY.out _).mono ?_
                    rintro e w3 ⟨rfl, hb3⟩
                    have hz3 := hz2.trans (hb3.mono hz2.size)
                    have k30 : w3.cell? ⟨b, o, none⟩ = _ := (hb3.cell (cell_lt k20)).trans k20
                    have k31 : w3.cell? ⟨b, o + 1, none⟩ = _ := (hb3.cell (cell_lt k21)).trans k21
                    have k32 : w3.cell? ⟨b, o + 2, none⟩ = _ := (hb3.cell (cell_lt k22)).trans k22
                    have k33 : w3.cell? ⟨b, o + 3, none⟩ = _ := (hb3.cell (cell_lt k23)).trans k23
                    have k34 : w3.cell? ⟨b, o + 4, none⟩ = _ := (hb3.cell (cell_lt k24)).trans k24
                    clear k20
                    clear k21
                    clear k22
                    clear k23
                    clear k24
                    rcases Y with _ | _
                    · skip
                      go_wp2
                      go_meet
                      case rel => exact ⟨by first | rfl | (simp; done) | (simp [hm0]; done) | (simp; omega), hz3⟩
                    · skip
                      go_wp2_with fail
                      refine (H5.out _).mono ?_
                      rintro e w4 ⟨rfl, hb4⟩
                      have hz4 := hz3.trans (hb4.mono hz3.size)
                      have k40 : w4.cell? ⟨b, o, none⟩ = _ := (hb4.cell (cell_lt k30)).trans k30
                      have k41 : w4.cell? ⟨b, o + 1, none⟩ = _ := (hb4.cell (cell_lt k31)).trans k31
                      have k42 : w4.cell? ⟨b, o + 2, none⟩ = _ := (hb4.cell (cell_lt k32)).trans k32
                      have k43 : w4.cell? ⟨b, o + 3, none⟩ = _ := (hb4.cell (cell_lt k33)).trans k33
                      have k44 : w4.cell? ⟨b, o + 4, none⟩ = _ := (hb4.cell (cell_lt k34)).trans k34
                      clear k30
                      clear k31
                      clear k32
                      clear k33
                      clear k34
                      rcases T5 with _ | _
                      · skip
                        go_wp2_with fail
                        refine (H8.out _).mono ?_
                        rintro e w5 ⟨rfl, hb5⟩
                        have hz5 := hz4.trans (hb5.mono hz4.size)
                        have k50 : w5.cell? ⟨b, o, none⟩ = _ := (hb5.cell (cell_lt k40)).trans k40
                        have k51 : w5.cell? ⟨b, o + 1, none⟩ = _ := (hb5.cell (cell_lt k41)).trans k41
                        have k52 : w5.cell? ⟨b, o + 2, none⟩ = _ := (hb5.cell (cell_lt k42)).trans k42
                        have k53 : w5.cell? ⟨b, o + 3, none⟩ = _ := (hb5.cell (cell_lt k43)).trans k43
                        have k54 : w5.cell? ⟨b, o + 4, none⟩ = _ := (hb5.cell (cell_lt k44)).trans k44
                        clear k40
                        clear k41
                        clear k42
                        clear k43
                        clear k44
                        rcases T8 with _ | _
                        · skip
                          go_wp2
                          go_meet
                          case rel => exact ⟨by first | rfl | (simp; done) | (simp [hm0]; done) | (simp; omega), hz5⟩
                        · skip
                          go_wp2
                          go_meet
                          case rel => exact ⟨by first | rfl | (simp; done) | (simp [hm0]; done) | (simp; omega), hz5⟩
                      · skip
                        go_wp2
                        go_meet
                        case rel => exact ⟨by first | rfl | (simp; done) | (simp [hm0]; done) | (simp; omega), hz4⟩
          case rest =>
            obtain ⟨rfl, hbx⟩ := hcut
            have hzx := hzc.trans (hbx.mono hzc.size)
            have g0 : wc.cell? ⟨b, o, none⟩ = _ := (hbx.cell (cell_lt k00)).trans k00
            have g1 : wc.cell? ⟨b, o + 1, none⟩ = _ := (hbx.cell (cell_lt k01)).trans k01
            have g2 : wc.cell? ⟨b, o + 2, none⟩ = _ := (hbx.cell (cell_lt k02)).trans k02
            have g3 : wc.cell? ⟨b, o + 3, none⟩ = _ := (hbx.cell (cell_lt k03)).trans k03
            have g4 : wc.cell? ⟨b, o + 4, none⟩ = _ := (hbx.cell (cell_lt k04)).trans k04
            clear k00 k01 k02 k03 k04 hz0 H0 H1 HY H5 H8
            by_cases hB : ((A0 || A1) && decide (0 ≤ M) && Y && (T5 || T8)) = true
            · rw [hB]
              simp only [Bool.and_eq_true, Bool.or_eq_true, decide_eq_true_eq] at hB
              obtain ⟨⟨⟨hA, hM0⟩, hY⟩, hT⟩ := hB
              have hsp := HSP.out
              rw [if_pos ⟨hA, hM0, hY, hT⟩] at hsp
              have d0 := HDG.out.1 hA
              have d2 := HDG.out.2 hY
              obtain ⟨t1, t2, t3⟩ := HDT.out hT
              have hm9 : M ≤ 12 := by simpa using hmb
              clear hA hY hT HDG HDT HSP
              rcases zn with _ | z
              · have HS2 := Lib.hid hsp
                clear hsp
                unfold zoneV at HZ
                go_wp2_with fail
                refine (HZ.out _).mono ?_
                rintro e w5 ⟨rfl, hb5⟩
                go_wp2
                go_ret2
                exact ⟨by rw [HS2.out]; rfl, hzx.trans (hb5.mono hzx.size)⟩
              · have hzb := HZB.out z rfl
                unfold zoneV at HZ
                go_wp2_with fail
                refine (HZ.out _).mono ?_
                rintro e w5 ⟨rfl, hb5⟩
                have hz5 := hzx.trans (hb5.mono hzx.size)
                have q0 : w5.cell? ⟨b, o, none⟩ = _ := (hb5.cell (cell_lt g0)).trans g0
                have q1 : w5.cell? ⟨b, o + 1, none⟩ = _ := (hb5.cell (cell_lt g1)).trans g1
                have q2 : w5.cell? ⟨b, o + 2, none⟩ = _ := (hb5.cell (cell_lt g2)).trans g2
                have q3 : w5.cell? ⟨b, o + 3, none⟩ = _ := (hb5.cell (cell_lt g3)).trans g3
                have q4 : w5.cell? ⟨b, o + 4, none⟩ = _ := (hb5.cell (cell_lt g4)).trans g4
                clear g0 g1 g2 g3 g4
                have HV0 := Lib.hid (fun wv => value_same w0 wv d0.1 d0.2)
                have HV2 := Lib.hid (fun wv => value_same w2 wv d2.1 d2.2)
                have HVH := Lib.hid (fun wv => value_same (w3.take 2) wv (by rw [t1.1]; decide) t1.2)
                have HVI := Lib.hid (fun wv => value_same ((w3.drop 3).take 2) wv (by rw [t2.1]; decide) t2.2)
                have hl3 : 5 ≤ w3.length := by rcases t3 with h | h; omega; omega
                have sH := fun W => run_to w3 2 (by omega) W
                have sI := fun W => run_mid w3 3 5 (by decide) (by omega) W
                simp only [Nat.reduceSub] at sI
                simp at sH sI
                obtain ⟨vD, evD⟩ : ∃ v, valueL w0 = v := ⟨_, rfl⟩
                obtain ⟨vY, evY⟩ : ∃ v, valueL w2 = v := ⟨_, rfl⟩
                obtain ⟨vH, evH⟩ : ∃ v, valueL (w3.take 2) = v := ⟨_, rfl⟩
                obtain ⟨vI, evI⟩ : ∃ v, valueL ((w3.drop 3).take 2) = v := ⟨_, rfl⟩
                rw [evD] at HV0 hsp
                rw [evY] at HV2 hsp
                rw [evH] at HVH hsp
                rw [evI] at HVI hsp
                obtain ⟨XH, eXH⟩ : ∃ X, w3.take 2 = X := ⟨_, rfl⟩
                obtain ⟨XI, eXI⟩ : ∃ X, (w3.drop 3).take 2 = X := ⟨_, rfl⟩
                rw [eXH] at HVH sH
                rw [eXI] at HVI sI
                have HS2 := Lib.hid hsp
                clear hsp d0 d2 t1 t2 evD evY evH evI eXH eXI
                go_upto_region 18 with fail
                clear HZ
                go_cut [9] (fun s9 wx => ∃ B, s9 = .pointer (some ⟨B, 0, none⟩) ∧ w.heap.size ≤ B ∧ wx.heap[B]? = some (.cells #[.int .i64 vY, .int .i64 (M + 1), .int .i64 vD, .int .i64 vH, .int .i64 vI, .int .i64 0, .int .i64 0] 64 (0, 0)) ∧ wx.cell? ⟨b, o + 3, none⟩ = some (.string (bs w3)) ∧ Below w.heap.size w wx)
                case first =>
                  obtain ⟨w6, hw6⟩ : ∃ w6, w5.drew = w6 := ⟨_, rfl⟩
                  have p0 : w6.cell? ⟨b, o, none⟩ = some (.string (bs w0)) := by rw [← hw6]; exact q0
                  have p1 : w6.cell? ⟨b, o + 1, none⟩ = some (.string (bs w1)) := by rw [← hw6]; exact q1
                  have p2 : w6.cell? ⟨b, o + 2, none⟩ = some (.string (bs w2)) := by rw [← hw6]; exact q2
                  have p3 : w6.cell? ⟨b, o + 3, none⟩ = some (.string (bs w3)) := by rw [← hw6]; exact q3
                  have p4 : w6.cell? ⟨b, o + 4, none⟩ = some (.string (bs w4)) := by rw [← hw6]; exact q4
                  have hz6 : Below w.heap.size w w6 := by rw [← hw6]; exact hz5.drew
                  skip
                  go_region_held3 (fun wx => wx.cell? ⟨b, o, none⟩ = some (.string (bs w0)) ∧ wx.cell? ⟨b, o + 1, none⟩ = some (.string (bs w1)) ∧ wx.cell? ⟨b, o + 2, none⟩ = some (.string (bs w2)) ∧ wx.cell? ⟨b, o + 3, none⟩ = some (.string (bs w3))) (go_keep) ((first | (go_at_call 67; first | (with_reducible refine Calls.mono (HV0.out _) ?_; rintro e w9 ⟨rfl, rfl⟩) | (with_reducible refine Calls.mono (HV2.out _) ?_; rintro e w9 ⟨rfl, rfl⟩) | (with_reducible refine Calls.mono (HVH.out _) ?_; rintro e w9 ⟨rfl, rfl⟩) | (with_reducible refine Calls.mono (HVI.out _) ?_; rintro e w9 ⟨rfl, rfl⟩)) | (go_at_call 64; (refine (HMS.out _).mono ?_; rintro e w9 ⟨rfl, rfl⟩))))
                  all_goals
                    have hM1 : IntKind.i64.wrap (M + 1) = M + 1 := by rw [IntKind.wrap_i64]; omega
                    try rw [hM1]
                    go_wp2
                    go_meet
                    case rel => exact ⟨_, rfl, hz6.size, heap_new _ _, cell_alloc p3 _, hz6.alloc hz6.size _⟩
                case rest =>
                  obtain ⟨B, rfl, hBB, hblk, e3, hzr⟩ := hcut
                  have r0 := row_cell2 hblk 0
                  have r1 := row_cell2 hblk 1
                  have r2 := row_cell2 hblk 2
                  have r3 := row_cell2 hblk 3
                  have r4 := row_cell2 hblk 4
                  have r5 := row_cell2 hblk 5
                  have r6 := row_cell2 hblk 6
                  have f5 : wc.frozen? ⟨B, 5, none⟩ = false := by simp [World.frozen?, hblk]
                  rcases t3 with h5 | ⟨h8, h82, h8d⟩
                  · have n8 : ((w3.length : Int) == 8) = false := by rw [beq_eq_false_iff_ne]; omega
                    have n8b : ¬ (w3.length : Int) = 8 := by omega
                    have hmd := fun wv => made_any vY (M + 1) vD vH vI 0 z wv hzb
                    obtain ⟨X, hX⟩ : ∃ X, madeI vY (M + 1) vD vH vI 0 z = X := ⟨_, rfl⟩
                    rw [hX] at hmd
                    have hs3 := HS2.out
                    rw [if_neg (by omega)] at hs3
                    rw [hX] at hs3
                    obtain ⟨X1, X2⟩ := X
                    unfold pairV at hmd
                    have HMD := Lib.hid hmd
                    have HS3 := Lib.hid hs3
                    clear hmd hs3 hX HS2
                    go_wp2_with fail
                    refine (HMD.out _).mono ?_
                    rintro e w7 ⟨rfl, hb7⟩
                    go_wp2
                    go_ret2
                    exact ⟨by rw [HS3.out]; rfl, hzr.trans (hb7.mono hzr.size)⟩
                  · have y8 : ((w3.length : Int) == 8) = true := by rw [beq_iff_eq]; omega
                    have y8b : (w3.length : Int) = 8 := by omega
                    have s6 := fun W => run_from w3 6 (by omega) W
                    have HV6 := Lib.hid (fun wv => value_same (w3.drop 6) wv (by omega) h8d)
                    obtain ⟨vS, evS⟩ : ∃ v, valueL (w3.drop 6) = v := ⟨_, rfl⟩
                    rw [evS] at HV6 HS2
                    obtain ⟨X6, eX6⟩ : ∃ X, w3.drop 6 = X := ⟨_, rfl⟩
                    rw [eX6] at s6 HV6
                    simp at s6
                    clear eX6 evS h82 h8d
                    have hmd := fun wv => made_any vY (M + 1) vD vH vI vS z wv hzb
                    obtain ⟨X, hX⟩ : ∃ X, madeI vY (M + 1) vD vH vI vS z = X := ⟨_, rfl⟩
                    rw [hX] at hmd
                    have hs3 := HS2.out
                    rw [if_pos h8] at hs3
                    rw [hX] at hs3
                    obtain ⟨X1, X2⟩ := X
                    unfold pairV at hmd
                    have HMD := Lib.hid hmd
                    have HS3 := Lib.hid hs3
                    clear hmd hs3 hX HS2
                    go_wp2_with fail
                    refine (HV6.out _).mono ?_
                    rintro e w8 ⟨rfl, hw8⟩
                    rw [hw8]
                    clear hw8
                    have hblk2 := set_blk hblk 5 (.int .i64 vS)
                    have u0 := row_cell2 hblk2 0
                    have u1 := row_cell2 hblk2 1
                    have u2 := row_cell2 hblk2 2
                    have u3 := row_cell2 hblk2 3
                    have u4 := row_cell2 hblk2 4
                    have u5 := row_cell2 hblk2 5
                    have u6 := row_cell2 hblk2 6
                    clear r0 r1 r2 r3 r4 r6 hblk2
                    go_wp2_with fail
                    refine (HMD.out _).mono ?_
                    rintro e w7 ⟨rfl, hb7⟩
                    have hz8 := hzr.setCell (p := ⟨B, 5, none⟩) hBB (.int .i64 vS)
                    go_wp2
                    go_ret2
                    exact ⟨by rw [HS3.out]; rfl, hz8.trans (hb7.mono hz8.size)⟩
            · have hbf : ((A0 || A1) && decide (0 ≤ M) && Y && (T5 || T8)) = false := by simpa using hB
              rw [hbf]
              have hsp := HSP.out
              rw [if_neg (by rintro ⟨x1, x2, x3, x4⟩; refine hB ?_; simp only [Bool.and_eq_true, Bool.or_eq_true, decide_eq_true_eq]; exact ⟨⟨⟨x1, x2⟩, x3⟩, x4⟩)] at hsp
              have HS2 := Lib.hid hsp
              clear hsp hB hbf HSP HDG HDT HZB HM HMS HZ
              go_wp2
              go_ret2
              exact ⟨by rw [HS2.out]; rfl, hzx⟩
      · have hrn : refTailC ls = none := by
          match ls, h5 with
          | [], _ => rfl
          | [_], _ => rfl
          | [_, _], _ => rfl
          | [_, _, _], _ => rfl
          | [_, _, _, _], _ => rfl
          | [_, _, _, _, _], h => exact absurd rfl h
          | _ :: _ :: _ :: _ :: _ :: _ :: _, _ => rfl
        have HR2 : Hid (refMailC ws = none) := HREF.out.trans hrn
        obtain ⟨n, hn⟩ : ∃ n, ls.length = n := ⟨_, rfl⟩
        rw [hn] at h5 ⊢
        have n5 : ((n : Int) != 5) = true := by rw [bne_iff_ne]; omega
        have n5b : ¬ (n : Int) = 5 := by omega
        clear hrn HREF hn hcell HLS
        go_wp2
        go_ret2
        exact ⟨by rw [HR2.out]; rfl, hzc⟩

end Go.Proofs.YtcjnpklmfcbofaaGreatDoor
end

/- The reference's digits. -/
set_option linter.unusedVariables false
set_option linter.unusedSimpArgs false
section
namespace Go.Proofs.YtcjnpklmfcbofaaGreatDoor
open Go.RowKit Go

/-- the digits that are left, and those that stand already -/
def DigI (n k : Nat) (L : List UInt8) : Prop := (L = [] ∧ k = n) ∨ (L ≠ [] ∧ k = 0 ∧ L = Lib.decDigits n) ∨ (L ≠ [] ∧ 0 < k ∧ Lib.decDigits k ++ L = Lib.decDigits n)
theorem digI_step {n k : Nat} {L : List UInt8} (h : DigI n k L) (hk : 0 < k ∨ L = []) : DigI n (k / 10) (UInt8.ofNat (48 + k % 10) :: L) := by
  have key : Lib.decDigits k ++ L = Lib.decDigits n := by
    rcases h with ⟨rfl, rfl⟩ | ⟨h1, h2, _⟩ | ⟨_, _, h3⟩
    · simp
    · rcases hk with hk | hk
      · omega
      · exact absurd hk h1
    · exact h3
  by_cases h10 : k < 10
  · refine .inr (.inl ⟨by simp, by omega, ?_⟩)
    rw [Lib.decDigits.eq_1, dif_pos h10] at key
    rw [show k % 10 = k by omega]
    exact key
  · refine .inr (.inr ⟨by simp, by omega, ?_⟩)
    rw [Lib.decDigits.eq_1, dif_neg h10] at key
    simpa using key
theorem digI_len {n k : Nat} {L : List UInt8} (h : DigI n k L) : L.length ≤ (Lib.decDigits n).length := by
  rcases h with ⟨rfl, _⟩ | ⟨_, _, rfl⟩ | ⟨_, _, h⟩
  · simp
  · exact Nat.le_refl _
  · rw [← h]; simp
theorem dec_length : ∀ (f u : Nat), u < 10 ^ f → 0 < f → (Lib.decDigits u).length ≤ f
  | 0, _, _, h => absurd h (by omega)
  | f + 1, u, h, _ => by
    rw [Lib.decDigits.eq_1]
    split
    · simp
    · rename_i h10
      have hf : 0 < f := by
        rcases Nat.eq_zero_or_pos f with rfl | h0
        · simp at h; omega
        · exact h0
      have := dec_length f (u / 10) (by rw [Nat.pow_succ] at h; omega) hf
      simp
      omega

theorem oneB (w : World) (B : Nat) (c : UInt8) (hB : B ≤ w.heap.size) : OwnB (w.alloc (.cells #[.int .u8 ((c.toNat : Nat) : Int)] 5)) B (.slice (some ⟨w.heap.size, 0, none⟩) 1 1) [c] := by
  have := World.ownsRow_lit (base := B) (e := 5) (size := 1) w #[.int .u8 ((c.toNat : Nat) : Int)] 1 hB (by unfold maxLen; omega) rfl
  exact this

set_option maxRecDepth 100000 in
set_option maxHeartbeats 2000000 in
theorem refDigits_any (n p : Nat) (c : UInt8) (w : World) (hn : n < 1000000) (hp : p ≤ 10) : Calls Tryz.prog 44 #[.int .i64 n, .int .i64 p, .int .u8 ((c.toNat : Nat) : Int)] w fun e w' => e = .returned (.string (bs (List.replicate (p - (Lib.decDigits n).length) c ++ Lib.decDigits n))) ∧ Below w.heap.size w w' := by
  obtain ⟨i0, hi, hz0, hz1, hz2⟩ := info_parts info_u8
  have hdl := dec_length 6 n (by omega) (by omega)
  obtain ⟨Z, hZ⟩ : ∃ Z, Lib.decDigits n = Z := ⟨_, rfl⟩
  have ol : OwnB (w.alloc (.cells #[] 5)) w.heap.size (.slice (some ⟨w.heap.size, 0, none⟩) 0 0) [] := World.ownsRow_lit w #[] 0 (Nat.le_refl _) (by decide) rfl
  have hbl : Below w.heap.size w (w.alloc (.cells #[] 5)) := (Below.refl _ _).alloc (Nat.le_refl _) _
  rw [hZ] at hdl ⊢
  have HZ := Lib.hid hZ
  have OL := Lib.hid ol
  clear hZ ol
  go_enter Tryz.func44, Tryz.ntmps44
  go_upto_block 0 with fail
  go_cut [0, 7] (fun _ v7 wc => ∃ (g cap : Nat), v7 = .slice (some ⟨g, 0, none⟩) Z.length cap ∧ OwnB wc w.heap.size v7 Z ∧ Below w.heap.size w wc)
  case first =>
    go_wp2_with fail
    go_loopw [0, 7] (fun v0 v7 wr => ∃ (k g cap : Nat) (L : List UInt8), k ≤ n ∧ v0 = .int .i64 k ∧ v7 = .slice (some ⟨g, 0, none⟩) L.length cap ∧ OwnB wr w.heap.size v7 L ∧ Below w.heap.size w wr ∧ Hid (DigI n k L) ∧ L.length ≤ 6) (fun v0 v7 _ => (intOf v0).toNat * 2 + (match v7 with | .slice _ 0 _ => 1 | _ => 0))
    case atStart => exact ⟨n, _, _, [], Nat.le_refl _, rfl, rfl, OL.out, hbl, .inl ⟨rfl, rfl⟩, by simp⟩
    case round =>
      obtain ⟨k, g, cap, L, hkn, rfl, rfl, ho, hB, hI, hL6⟩ := hrel
      by_cases hgo : 0 < k ∨ L = []
      · have hst := digI_step hI.out hgo
        have hst2 := digI_len hst
        rw [HZ.out] at hst2
        have HST := Lib.hid hst
        have hcells : ∀ j u, (cellsB L)[j]? = some u → wr.cell? ((⟨g, 0, none⟩ : Addr).add j) = some u := fun j u hu => World.ownsRow.cells ho (g := g) rfl j u hu
        have HCE := Lib.hid hcells
        have hone : ∀ u ∈ cellsB L, u.oneCell' = true := by
          intro u hu
          obtain ⟨c, _, rfl⟩ := List.mem_map.1 hu
          rfl
        have HON := Lib.hid hone
        have hzw := hB.size
        have e9 : (48 : Int) + (k : Int) % 10 = ((48 + k % 10 : Nat) : Int) := by omega
        have hin : ((48 + k % 10 : Nat) : Int) = (((UInt8.ofNat (48 + k % 10)).toNat : Nat) : Int) := by
          rw [UInt8.toNat_ofNat']; omega
        obtain ⟨d, hd⟩ : ∃ d, UInt8.ofNat (48 + k % 10) = d := ⟨_, rfl⟩
        rw [hd] at hin HST
        simp only [List.length_cons] at hst2
        clear hst hcells hone hI hd
        have hcase : (¬ (0 : Int) < k ∧ ((L.length : Int) == 0) = true) ∨ ((0 : Int) < k ∧ 0 < k) := by
          rcases Nat.eq_zero_or_pos k with h0 | h0
          · exact .inl ⟨by omega, by rw [hgo.resolve_left (by omega)]; rfl⟩
          · exact .inr ⟨by omega, h0⟩
        have hmea : k / 10 < k ∨ L = [] := by
          rcases hgo with h | h
          · exact .inl (by omega)
          · exact .inr h
        have HGO := Lib.hid hmea
        clear hgo hmea
        rcases hcase with ⟨hk0, hL0⟩ | ⟨h0', h0⟩
        · obtain rfl : k = 0 := by omega
          obtain rfl : d = 48 := by
            apply UInt8.toNat_inj.1
            show d.toNat = 48
            omega
          clear hin e9 hk0
          go_wp2_with ((at_builtin; refine wpList_append_own _ rfl _ _ 54 rfl w.heap.size 5 i0 (.int .u8 0) 1 1 Tryz.underlying54 hi hz0 hz1 hz2 rfl (by decide) _ 1 (cellsB [48]) rfl (oneB wr w.heap.size 48 hzw) ⟨g, 0, none⟩ L.length cap (cellsB L) rfl ?e1 ?e2 ?e3 ?e4 ?e5 ?e6 ?_))
          case e1 => rw [cellsB_length]; omega
          case e2 => exact fun j u hu => cell_alloc (HCE.out j u hu) _
          case e3 => exact HON.out
          case e4 => unfold maxLen; omega
          case e5 => omega
          case e6 => simp; omega
          intro v' w3 hown3 hgrow _
          have o3 : OwnB w3 w.heap.size v' (48 :: L) := by
            have e : cellsB [48] ++ cellsB L = cellsB (48 :: L) := by rw [← cellsB_append]; rfl
            rw [e, show 1 + L.length = (48 :: L).length by simp; omega] at hown3
            exact hown3
          have B3 : Below w.heap.size w w3 := (hB.alloc hzw _).grown hgrow (by simp; omega) (fun i e => by simp [Value.ownBlock] at e; omega)
          obtain ⟨g3, cap3, rfl⟩ : ∃ g3 cap3, v' = .slice (some ⟨g3, 0, none⟩) (48 :: L).length cap3 := by
            rcases o3.2 with ⟨_, h⟩ | ⟨g3, cap3, _, h, _⟩
            · simp at h
            · exact ⟨g3, cap3, h⟩
          clear hown3 hgrow HCE HON
          go_wp2
          go_roundw
          case rel => exact ⟨0 / 10, g3, cap3, 48 :: L, by omega, by go_num, rfl, o3, B3, HST.out, by simp; omega⟩
          case measure =>
            have hL : L = [] := List.eq_nil_of_length_eq_zero (by have := eq_of_beq hL0; omega)
            subst hL
            simp [intOf]
        · have hk0' : 0 < k := h0
          go_wp2_with ((at_builtin; refine wpList_append_own _ rfl _ _ 54 rfl w.heap.size 5 i0 (.int .u8 0) 1 1 Tryz.underlying54 hi hz0 hz1 hz2 rfl (by decide) _ 1 (cellsB [d]) rfl (oneB wr w.heap.size d hzw) ⟨g, 0, none⟩ L.length cap (cellsB L) rfl ?e1 ?e2 ?e3 ?e4 ?e5 ?e6 ?_))
          case e1 => rw [cellsB_length]; omega
          case e2 => exact fun j u hu => cell_alloc (HCE.out j u hu) _
          case e3 => exact HON.out
          case e4 => unfold maxLen; omega
          case e5 => omega
          case e6 => simp; omega
          intro v' w3 hown3 hgrow _
          have o3 : OwnB w3 w.heap.size v' (d :: L) := by
            have e : cellsB [d] ++ cellsB L = cellsB (d :: L) := by rw [← cellsB_append]; rfl
            rw [e, show 1 + L.length = (d :: L).length by simp; omega] at hown3
            exact hown3
          have B3 : Below w.heap.size w w3 := (hB.alloc hzw _).grown hgrow (by simp; omega) (fun i e => by simp [Value.ownBlock] at e; omega)
          obtain ⟨g3, cap3, rfl⟩ : ∃ g3 cap3, v' = .slice (some ⟨g3, 0, none⟩) (d :: L).length cap3 := by
            rcases o3.2 with ⟨_, h⟩ | ⟨g3, cap3, _, h, _⟩
            · simp at h
            · exact ⟨g3, cap3, h⟩
          clear hown3 hgrow HCE HON
          go_wp2
          go_roundw
          case rel => exact ⟨k / 10, g3, cap3, d :: L, by omega, by go_num, rfl, o3, B3, HST.out, by simp; omega⟩
          case measure => simp [intOf]; omega
      · have hk0 : k = 0 := by omega
        have hLn : L ≠ [] := fun h => hgo (.inr h)
        have hLZ : L = Z := by
          rcases hI.out with ⟨h, _⟩ | ⟨_, _, h⟩ | ⟨_, h, _⟩
          · exact absurd h hLn
          · rw [h]; exact HZ.out
          · omega
        subst hLZ
        subst hk0
        have hl0 : ((L.length : Int) == 0) = false := by
          rw [beq_eq_false_iff_ne]
          have := List.length_pos_iff.2 hLn
          omega
        clear hI hgo hLn HZ
        go_wp2_with fail
        go_meet
        case rel => exact ⟨g, cap, rfl, ho, hB⟩
  case rest =>
    obtain ⟨g, cap, rfl, ho, hB⟩ := hcut
    go_wp2_with fail
    go_loopw [7] (fun v7 wr => ∃ (j g cap : Nat) (L : List UInt8), v7 = .slice (some ⟨g, 0, none⟩) L.length cap ∧ OwnB wr w.heap.size v7 L ∧ Below w.heap.size w wr ∧ Hid (L = List.replicate j c ++ Z) ∧ L.length ≤ j + Z.length ∧ j + Z.length ≤ L.length ∧ j ≤ p - Z.length) (fun v7 _ => p - (match v7 with | .slice _ n _ => n | _ => 0))
    case atStart => exact ⟨0, g, cap, Z, rfl, ho, hB, by show _ = _; simp, by omega, by omega, by omega⟩
    case round =>
      clear ho hB
      obtain ⟨j, g, cap, L, rfl, ho, hB, hL, l1, l2, hj⟩ := hrel
      by_cases hlt : L.length < p
      · have hlt' : (L.length : Int) < p := by omega
        have hcells : ∀ j u, (cellsB L)[j]? = some u → wr.cell? ((⟨g, 0, none⟩ : Addr).add j) = some u := fun j u hu => World.ownsRow.cells ho (g := g) rfl j u hu
        have HCE := Lib.hid hcells
        have hone : ∀ u ∈ cellsB L, u.oneCell' = true := by
          intro u hu
          obtain ⟨c, _, rfl⟩ := List.mem_map.1 hu
          rfl
        have HON := Lib.hid hone
        have hzw := hB.size
        have HL : Hid (c :: L = List.replicate (j + 1) c ++ Z) := by show _ = _; rw [hL.out]; rfl
        clear hcells hone hL
        go_wp2_with ((at_builtin; refine wpList_append_own _ rfl _ _ 54 rfl w.heap.size 5 i0 (.int .u8 0) 1 1 Tryz.underlying54 hi hz0 hz1 hz2 rfl (by decide) _ 1 (cellsB [c]) rfl (oneB wr w.heap.size c hzw) ⟨g, 0, none⟩ L.length cap (cellsB L) rfl ?e1 ?e2 ?e3 ?e4 ?e5 ?e6 ?_))
        case e1 => rw [cellsB_length]; omega
        case e2 => exact fun j u hu => cell_alloc (HCE.out j u hu) _
        case e3 => exact HON.out
        case e4 => unfold maxLen; omega
        case e5 => omega
        case e6 => simp; omega
        intro v' w3 hown3 hgrow _
        have o3 : OwnB w3 w.heap.size v' (c :: L) := by
          have e : cellsB [c] ++ cellsB L = cellsB (c :: L) := by rw [← cellsB_append]; rfl
          rw [e, show 1 + L.length = (c :: L).length by simp; omega] at hown3
          exact hown3
        have B3 : Below w.heap.size w w3 := (hB.alloc hzw _).grown hgrow (by simp; omega) (fun i e => by simp [Value.ownBlock] at e; omega)
        obtain ⟨g3, cap3, rfl⟩ : ∃ g3 cap3, v' = .slice (some ⟨g3, 0, none⟩) (c :: L).length cap3 := by
          rcases o3.2 with ⟨_, h⟩ | ⟨g3, cap3, _, h, _⟩
          · simp at h
          · exact ⟨g3, cap3, h⟩
        clear hown3 hgrow HCE HON
        go_wp2
        go_roundw
        case rel => exact ⟨j + 1, g3, cap3, c :: L, rfl, o3, B3, HL.out, by simp; omega, by simp; omega, by omega⟩
        case measure => simp; omega
      · have hlt' : ¬ (L.length : Int) < p := by omega
        have hcv := fun w0 (h : OwnB w0 w.heap.size (.slice (some ⟨g, 0, none⟩) L.length cap) L) => convert_bytes h.bytes
        have hc1 := hcv wr ho
        have hjj : j = p - Z.length := by omega
        have HJ := Lib.hid hjj
        clear hcv hjj
        go_wp2
        go_ret
        exact ⟨by rw [hL.out, HJ.out]; rfl, hB⟩

end Go.Proofs.YtcjnpklmfcbofaaGreatDoor
end
