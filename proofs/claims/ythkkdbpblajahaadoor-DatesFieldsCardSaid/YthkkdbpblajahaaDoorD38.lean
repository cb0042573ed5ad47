/- The reference's ParseInternal. Printed by gen38.py. -/
import Derived.Test.YthkkdbpblajahaaDoorD36
set_option linter.unusedVariables false
set_option linter.unusedSimpArgs false
namespace Go.Proofs.YthkkdbpblajahaaDoor
open Go.RowKit

theorem refInternal_short (l : List UInt8) (w : World) (h26 : l.length ≠ 26) : Calls Tryd.prog 27 #[.string (bs l)] w fun e w' => e = .returned (pairV (parsedI (refInternalC l))) ∧ Below w.heap.size w w' := by
  have hs : refInternalC l = none := if_pos h26
  rw [hs]
  have n1 : ((l.length : Int) != 26) = true := by rw [bne_iff_ne]; omega
  have n2 : ¬ (l.length : Int) = 26 := by omega
  clear hs
  go_enter Tryd.func27, Tryd.ntmps27
  go_wp2
  go_ret2
  exact ⟨rfl, Below.refl _ _⟩

theorem zoneR_bd (s : List UInt8) (z : Int) (h : zoneR s = some z) : -86400 ≤ z ∧ z ≤ 86400 := by
  have h5 : s.length = 5 := by
    unfold zoneR at h
    split at h
    · cases h
    · rename_i hn
      rcases hA : likeL s [43, 48, 48, 48, 48] with _ | _
      · rcases hB : likeL s [45, 48, 48, 48, 48] with _ | _
        · exact absurd ⟨hA, hB⟩ hn
        · have := likeL_len2 hB; simpa using this
      · have := likeL_len2 hA; simpa using this
  have e := zoneR_eq s h5
  rw [h] at e
  have := zone_bd (show zone s = some (z, []) from e)
  exact ⟨this.1, this.2.1⟩

theorem day_digits (D : List UInt8) (c0 : UInt8) (hl : D.length = 2) (h0 : D.headD 0 = c0) (h : (likeL D [32, 48] || (likeL D [48, 48] && c0 != 48)) = true) : (c0 = 32 → ∀ c ∈ D.drop 1, isD c = true) ∧ (c0 ≠ 32 → ∀ c ∈ D, isD c = true) := by
  match D, hl with
  | [d0, d1], _ =>
    obtain rfl : d0 = c0 := h0
    rw [like2 _ _ _ (by decide), like22, Bool.or_eq_true, Bool.and_eq_true, Bool.and_eq_true, Bool.and_eq_true, beq_iff_eq] at h
    rcases h with h | ⟨h, h'⟩
    · exact ⟨fun _ c hc => by obtain rfl : c = d1 := by simpa using hc
                              exact h.2, fun h9 => absurd h.1 h9⟩
    · refine ⟨fun h9 => ?_, fun _ c hc => ?_⟩
      · rw [h9] at h; exact absurd h.1 (by decide)
      · rcases List.mem_cons.1 hc with rfl | hc
        · exact h.1
        · obtain rfl : c = d1 := by simpa using hc
          exact h.2

set_option maxRecDepth 100000 in
set_option maxHeartbeats 8000000 in
theorem refInternal_26 (l : List UInt8) (w : World) (hl : l.length = 26) : Calls Tryd.prog 27 #[.string (bs l)] w fun e w' => e = .returned (pairV (parsedI (refInternalC l))) ∧ Below w.heap.size w w' := by
  obtain ⟨D, hD⟩ : ∃ D, l.take 2 = D := ⟨_, rfl⟩
  obtain ⟨M, hM⟩ : ∃ M, (l.drop 3).take 3 = M := ⟨_, rfl⟩
  obtain ⟨Z, hZ⟩ : ∃ Z, l.drop 21 = Z := ⟨_, rfl⟩
  obtain ⟨T, hT⟩ : ∃ T, (l.drop 6).take 15 = T := ⟨_, rfl⟩
  obtain ⟨Y, hY⟩ : ∃ Y, (l.drop 7).take 4 = Y := ⟨_, rfl⟩
  obtain ⟨H, hH⟩ : ∃ H, (l.drop 12).take 2 = H := ⟨_, rfl⟩
  obtain ⟨I, hI⟩ : ∃ I, (l.drop 15).take 2 = I := ⟨_, rfl⟩
  obtain ⟨S, hS⟩ : ∃ S, (l.drop 18).take 2 = S := ⟨_, rfl⟩
  obtain ⟨c0, hc0⟩ : ∃ c, l.headD 0 = c := ⟨_, rfl⟩
  obtain ⟨c2, hc2⟩ : ∃ c, l.getD 2 0 = c := ⟨_, rfl⟩
  obtain ⟨day, hday⟩ : ∃ d, (likeL D [32, 48] || (likeL D [48, 48] && c0 != 48)) = d := ⟨_, rfl⟩
  obtain ⟨a, ha⟩ : ∃ a, likeL D [32, 48] = a := ⟨_, rfl⟩
  obtain ⟨b, hb⟩ : ∃ b, likeL D [48, 48] = b := ⟨_, rfl⟩
  obtain ⟨m, hm⟩ : ∃ m, plL 12 0 monthsL M = m := ⟨_, rfl⟩
  obtain ⟨t, ht⟩ : ∃ t, likeL T [45, 48, 48, 48, 48, 32, 48, 48, 58, 48, 48, 58, 48, 48, 32] = t := ⟨_, rfl⟩
  obtain ⟨DD, hDDe⟩ : ∃ DD, (if c0 = 32 then D.drop 1 else D) = DD := ⟨_, rfl⟩
  have hspec : parsedI (refInternalC l) = if zoneR Z = none ∨ day = false ∨ m < 0 ∨ c2 ≠ 45 ∨ t = false then (0, 2)
      else madeI (valueL Y) (m + 1) (valueL DD) (valueL H) (valueL I) (valueL S) ((zoneR Z).getD 0) := by
    unfold refInternalC
    rw [if_neg (fun h => h hl), hD, hM, hZ, hT, hY, hH, hI, hS, hc0, hc2, hday, hm, hDDe]
    unfold patI
    rw [ht]
    rcases zoneR Z with _ | z
    · rw [if_pos (.inl rfl)]; rfl
    · simp only [Option.bind_some, Option.getD_some]
      by_cases hc : day = true ∧ 0 ≤ m ∧ c2 = 45 ∧ t = true
      · rw [if_pos hc, if_neg (by rintro (h | h | h | h | h); cases h; rw [hc.1] at h; cases h; omega; exact h hc.2.2.1; rw [hc.2.2.2] at h; cases h)]
        rfl
      · rw [if_neg hc, if_pos (by
          rcases day with _ | _
          · exact .inr (.inl rfl)
          · by_cases h1 : 0 ≤ m
            · by_cases h2 : c2 = 45
              · exact .inr (.inr (.inr (.inr (Bool.eq_false_iff.2 fun h3 => hc ⟨rfl, h1, h2, h3⟩))))
              · exact .inr (.inr (.inr (.inl h2)))
            · exact .inr (.inr (.inl (by omega))))]
        rfl
  rw [← hDDe] at hspec
  have HS := Lib.hid hspec
  have s1 := fun w0 => run_to l 2 (by omega) w0
  have s2 := fun w0 => run_mid l 3 6 (by decide) (by omega) w0
  have s3 := fun w0 => run_from l 21 (by omega) w0
  have s4 := fun w0 => run_mid l 6 21 (by decide) (by omega) w0
  have s5 := fun w0 => run_mid l 7 11 (by decide) (by omega) w0
  have s6 := fun w0 => run_mid l 12 14 (by decide) (by omega) w0
  have s7 := fun w0 => run_mid l 15 17 (by decide) (by omega) w0
  have s8 := fun w0 => run_mid l 18 20 (by decide) (by omega) w0
  simp only [Nat.reduceSub] at s2 s4 s5 s6 s7 s8
  rw [hD] at s1
  rw [hM] at s2
  rw [hZ] at s3
  rw [hT] at s4
  rw [hY] at s5
  rw [hH] at s6
  rw [hI] at s7
  rw [hS] at s8
  simp at s1 s2 s3 s4 s5 s6 s7 s8
  have hlD : D.length = 2 := by rw [← hD, List.length_take]; omega
  have s9 := fun w0 => run_from D 1 (by omega) w0
  obtain ⟨D1, hD1⟩ : ∃ D1, D.drop 1 = D1 := ⟨_, rfl⟩
  rw [hD1] at s9
  simp at s9
  have hx2 : (bs l)[2]'(by rw [bs_size]; omega) = c2 := by
    rw [← hc2]
    show l[2] = _
    simp [List.getD, show 2 < l.length by omega]
  have hx0 : (bs l)[0]'(by rw [bs_size]; omega) = c0 := by
    rw [← hc0]
    show l[0] = _
    cases l with
    | nil => simp at hl
    | cons c l => rfl
  have hxD : (bs D)[0]'(by rw [bs_size]; omega) = c0 := by
    rw [← hc0]
    show D[0] = _
    subst hD
    cases l with
    | nil => simp at hl
    | cons c l => rfl
  have hlM : M.length ≤ 1099511627776 := by rw [← hM, List.length_take]; omega
  have hlT : T.length = 15 := by rw [← hT, List.length_take, List.length_drop]; omega
  have hlZ : Z.length = 5 := by rw [← hZ, List.length_drop]; omega
  have HLA := Lib.hid (fun w0 => like_any D [32, 48] w0 (by omega))
  have HLB := Lib.hid (fun w0 => like_any D [48, 48] w0 (by omega))
  have HLT := Lib.hid (fun w0 => like_any T [45, 48, 48, 48, 48, 32, 48, 48, 58, 48, 48, 58, 48, 48, 32] w0 (by omega))
  have HPL := Lib.hid (fun w0 => place_any 12 M monthsL w0 (by decide) (by decide) hlM)
  have HZN := Lib.hid (fun w0 => refZone_any Z w0 (by omega))
  have hmb : m ≤ 12 := by rw [← hm]; exact plL_le 12 0 monthsL M
  rw [ha] at HLA
  rw [hb] at HLB
  rw [ht] at HLT
  rw [hm] at HPL
  unfold monthsL at HPL
  have hzb := zoneR_bd Z
  obtain ⟨zn, hzn⟩ : ∃ zn, zoneR Z = zn := ⟨_, rfl⟩
  rw [hzn] at HZN hzb HS
  -- the numbers' digits
  have dT : t = true → (Y.length = 4 ∧ ∀ c ∈ Y, isD c = true) ∧ (H.length = 2 ∧ ∀ c ∈ H, isD c = true) ∧ (I.length = 2 ∧ ∀ c ∈ I, isD c = true) ∧ (S.length = 2 ∧ ∀ c ∈ S, isD c = true) := by
    intro h
    rw [← ht, show [45, 48, 48, 48, 48, 32, 48, 48, 58, 48, 48, 58, 48, 48, 32] = patI from rfl, likeI] at h
    simp only [Bool.and_eq_true] at h
    obtain ⟨_, h1, _, h2, _, h3, _, h4, _⟩ := h
    have eY : (T.drop 1).take 4 = Y := by rw [← hT, ← hY]; simp [List.drop_take, List.take_take]
    have eH : (T.drop 6).take 2 = H := by rw [← hT, ← hH]; simp [List.drop_take, List.take_take]
    have eI : (T.drop 9).take 2 = I := by rw [← hT, ← hI]; simp [List.drop_take, List.take_take]
    have eS : (T.drop 12).take 2 = S := by rw [← hT, ← hS]; simp [List.drop_take, List.take_take]
    rw [eY] at h1
    rw [eH] at h2
    rw [eI] at h3
    rw [eS] at h4
    exact ⟨like_dig (n := 4) h1, like_dig (n := 2) h2, like_dig (n := 2) h3, like_dig (n := 2) h4⟩
  have dD : day = true → (c0 = 32 → ∀ c ∈ D1, isD c = true) ∧ (c0 ≠ 32 → ∀ c ∈ D, isD c = true) := by
    intro h
    rw [← hD1]
    refine day_digits D c0 hlD ?_ (hday.trans h)
    rw [← hc0, ← hD]
    cases l with
    | nil => rfl
    | cons c l => rfl
  rw [ha, hb] at hday
  have l26 : (l.length : Int) = 26 := by omega
  have hl2 : D1.length = 1 := by rw [← hD1, List.length_drop]; omega
  have HVD := Lib.hid (fun w0 (h : ∀ c ∈ D, isD c = true) => value_any D w0 (by omega) h)
  have HVE := Lib.hid (fun w0 (h : ∀ c ∈ D1, isD c = true) => value_any D1 w0 (by omega) h)
  have HVY := Lib.hid (fun w0 (h : Y.length = 4 ∧ ∀ c ∈ Y, isD c = true) => value_any Y w0 (by omega) h.2)
  have HVH := Lib.hid (fun w0 (h : H.length = 2 ∧ ∀ c ∈ H, isD c = true) => value_any H w0 (by omega) h.2)
  have HVI := Lib.hid (fun w0 (h : I.length = 2 ∧ ∀ c ∈ I, isD c = true) => value_any I w0 (by omega) h.2)
  have HVS := Lib.hid (fun w0 (h : S.length = 2 ∧ ∀ c ∈ S, isD c = true) => value_any S w0 (by omega) h.2)
  rw [hD1] at HS
  obtain ⟨vD, evD⟩ : ∃ v, valueL D = v := ⟨_, rfl⟩
  obtain ⟨vE, evE⟩ : ∃ v, valueL D1 = v := ⟨_, rfl⟩
  obtain ⟨vY, evY⟩ : ∃ v, valueL Y = v := ⟨_, rfl⟩
  obtain ⟨vH, evH⟩ : ∃ v, valueL H = v := ⟨_, rfl⟩
  obtain ⟨vI, evI⟩ : ∃ v, valueL I = v := ⟨_, rfl⟩
  obtain ⟨vS, evS⟩ : ∃ v, valueL S = v := ⟨_, rfl⟩
  rw [apply_ite valueL, evD, evE, evY, evH, evI, evS] at HS
  rw [evD] at HVD
  rw [evE] at HVE
  rw [evY] at HVY
  rw [evH] at HVH
  rw [evI] at HVI
  rw [evS] at HVS
  have HDAY := Lib.hid hday
  have HDT := Lib.hid dT
  have HDD := Lib.hid dD
  have HZB := Lib.hid hzb
  have c45 : ((c2.toNat : Int) != 45) = decide (c2 ≠ 45) := by
    by_cases h : c2 = 45
    · subst h; rfl
    · rw [decide_eq_true h, bne_iff_ne]
      intro e
      exact h (UInt8.toNat_inj.1 (by rw [show (45 : UInt8).toNat = 45 from rfl]; omega))
  have c48 : ((c0.toNat : Int) != 48) = (c0 != 48) := by
    by_cases h : c0 = 48
    · subst h; rfl
    · rw [bne_iff_ne.2 h, bne_iff_ne]
      intro e
      exact h (UInt8.toNat_inj.1 (by rw [show (48 : UInt8).toNat = 48 from rfl]; omega))
  have c32 : ((c0.toNat : Int) == 32) = decide (c0 = 32) := by
    by_cases h : c0 = 32
    · subst h; rfl
    · rw [decide_eq_false h, beq_eq_false_iff_ne]
      intro e
      exact h (UInt8.toNat_inj.1 (by rw [show (32 : UInt8).toNat = 32 from rfl]; omega))
  clear hspec hDDe hD hM hZ hT hY hH hI hS hc0 hc2 ha hb hm ht hD1 hlT hlZ hzb hzn dT dD hl2 evD evE evY evH evI evS hday
  obtain ⟨g48, hg48⟩ : ∃ g, (c0 != 48) = g := ⟨_, rfl⟩
  rw [hg48] at c48 HDAY
  clear hg48
  have hz0 : Below w.heap.size w w := Below.refl _ _
  go_enter Tryd.func27, Tryd.ntmps27
  go_wp2_with fail
  refine (HLA.out _).mono ?_
  rintro e w1 ⟨rfl, hb1⟩
  have hz1 := hz0.trans (hb1.mono hz0.size)
  rcases a with _ | _
  · skip
    go_wp2_with fail
    refine (HLB.out _).mono ?_
    rintro e w2 ⟨rfl, hb2⟩
    have hz2 := hz1.trans (hb2.mono hz1.size)
    rcases b with _ | _
    · have hd := HDAY.out
      simp only [Bool.false_or, Bool.false_and] at hd
      subst hd
      go_wp2_with fail
      refine (HPL.out _).mono ?_
      rintro e w3 ⟨rfl, hb3⟩
      have hz3 := hz2.trans (hb3.mono hz2.size)
      rcases zn with _ | z
      · unfold zoneV at HZN
        go_wp2_with fail
        refine (HZN.out _).mono ?_
        rintro e w4 ⟨rfl, hb4⟩
        have hz4 := hz3.trans (hb4.mono hz3.size)
        have hS := HS.out
        rw [if_pos (.inl (by first | rfl | trivial | simp))] at hS
        have HS2 := Lib.hid hS
        clear hS HS HDT HDD HZB HVD HVE HVY HVH HVI HVS HLT
        go_wp2
        all_goals
          go_ret2
          exact ⟨by rw [HS2.out]; rfl, hz4⟩
      · unfold zoneV at HZN
        go_wp2_with fail
        refine (HZN.out _).mono ?_
        rintro e w4 ⟨rfl, hb4⟩
        have hz4 := hz3.trans (hb4.mono hz3.size)
        have hS := HS.out
        rw [if_pos (.inr (.inl (by first | rfl | trivial | simp)))] at hS
        have HS2 := Lib.hid hS
        clear hS HS HDT HDD HZB HVD HVE HVY HVH HVI HVS HLT
        go_wp2
        all_goals
          go_ret2
          exact ⟨by rw [HS2.out]; rfl, hz4⟩
    · have hd := HDAY.out
      simp only [Bool.false_or, Bool.true_and] at hd
      subst hd
      rcases g48 with _ | _
      · skip
        go_wp2_with fail
        refine (HPL.out _).mono ?_
        rintro e w3 ⟨rfl, hb3⟩
        have hz3 := hz2.trans (hb3.mono hz2.size)
        rcases zn with _ | z
        · unfold zoneV at HZN
          go_wp2_with fail
          refine (HZN.out _).mono ?_
          rintro e w4 ⟨rfl, hb4⟩
          have hz4 := hz3.trans (hb4.mono hz3.size)
          have hS := HS.out
          rw [if_pos (.inl (by first | rfl | trivial | simp))] at hS
          have HS2 := Lib.hid hS
          clear hS HS HDT HDD HZB HVD HVE HVY HVH HVI HVS HLT
          go_wp2
          all_goals
            go_ret2
            exact ⟨by rw [HS2.out]; rfl, hz4⟩
        · unfold zoneV at HZN
          go_wp2_with fail
          refine (HZN.out _).mono ?_
          rintro e w4 ⟨rfl, hb4⟩
          have hz4 := hz3.trans (hb4.mono hz3.size)
          have hS := HS.out
          rw [if_pos (.inr (.inl (by first | rfl | trivial | simp)))] at hS
          have HS2 := Lib.hid hS
          clear hS HS HDT HDD HZB HVD HVE HVY HVH HVI HVS HLT
          go_wp2
          all_goals
            go_ret2
            exact ⟨by rw [HS2.out]; rfl, hz4⟩
      · skip
        go_wp2_with fail
        refine (HPL.out _).mono ?_
        rintro e w3 ⟨rfl, hb3⟩
        have hz3 := hz2.trans (hb3.mono hz2.size)
        rcases zn with _ | z
        · unfold zoneV at HZN
          go_wp2_with fail
          refine (HZN.out _).mono ?_
          rintro e w4 ⟨rfl, hb4⟩
          have hz4 := hz3.trans (hb4.mono hz3.size)
          have hS := HS.out
          rw [if_pos (.inl (by first | rfl | trivial | simp))] at hS
          have HS2 := Lib.hid hS
          clear hS HS HDT HDD HZB HVD HVE HVY HVH HVI HVS HLT
          go_wp2
          all_goals
            go_ret2
            exact ⟨by rw [HS2.out]; rfl, hz4⟩
        · unfold zoneV at HZN
          go_wp2_with fail
          refine (HZN.out _).mono ?_
          rintro e w4 ⟨rfl, hb4⟩
          have hz4 := hz3.trans (hb4.mono hz3.size)
          by_cases hm0 : m < 0
          · have hS := HS.out
            rw [if_pos (.inr (.inr (.inl (by omega))))] at hS
            have HS2 := Lib.hid hS
            clear hS HS HDT HDD HZB HVD HVE HVY HVH HVI HVS HLT
            go_wp2
            all_goals
              go_ret2
              exact ⟨by rw [HS2.out]; rfl, hz4⟩
          by_cases h45 : c2 = 45
          · have c45b : ((c2.toNat : Int) != 45) = false := by rw [c45]; simp [h45]
            clear c45
            go_wp2_with fail
            refine (HLT.out _).mono ?_
            rintro e w5 ⟨rfl, hb5⟩
            have hz5 := hz4.trans (hb5.mono hz4.size)
            rcases t with _ | _
            · have hS := HS.out
              rw [if_pos (.inr (.inr (.inr (.inr (by first | rfl | trivial | simp)))))] at hS
              have HS2 := Lib.hid hS
              clear hS HS HDT HDD HZB HVD HVE HVY HVH HVI HVS
              go_wp2
              all_goals
                go_ret2
                exact ⟨by rw [HS2.out]; rfl, hz5⟩
            · have hS := HS.out
              rw [if_neg (by rintro (h | h | h | h | h) <;> first | (cases h; done) | omega | exact h h45 | (simp at h; done)), Option.getD_some] at hS
              obtain ⟨dy, dh, di, ds⟩ := HDT.out (by first | rfl | trivial)
              obtain ⟨d1, d2⟩ := HDD.out (by first | rfl | trivial)
              have hzb := HZB.out z (by first | rfl | trivial)
              replace HVY := Lib.hid (fun w0 => HVY.out w0 dy)
              replace HVH := Lib.hid (fun w0 => HVH.out w0 dh)
              replace HVI := Lib.hid (fun w0 => HVI.out w0 di)
              replace HVS := Lib.hid (fun w0 => HVS.out w0 ds)
              clear dy dh di ds HDT HDD HZB HS
              by_cases h32 : c0 = 32
              · rw [if_pos h32] at hS
                have c32b : ((c0.toNat : Int) == 32) = true := by rw [c32]; simp [h32]
                replace HVD := Lib.hid (fun w0 => HVE.out w0 (d1 h32))
                have hmd := fun w0 => made_any vY (m + 1) vE vH vI vS z w0 hzb
                obtain ⟨X, hX⟩ : ∃ X, madeI vY (m + 1) vE vH vI vS z = X := ⟨_, rfl⟩
                rw [hX] at hmd hS
                obtain ⟨X1, X2⟩ := X
                unfold pairV at hmd
                have HMD := Lib.hid hmd
                have HS2 := Lib.hid hS
                clear hS hX hmd d1 d2 c32 HLT HPL HZN HLA HLB hzb
                go_wp2
                refine wp_region_grow (by kernel_rfl) (by kernel_rfl) ?_
                repeat (go_big_quiet_step ((first | (go_at_call 51; first | with_reducible exact grow_call (HVD.out _) | with_reducible exact grow_call (HVY.out _) | with_reducible exact grow_call (HVH.out _) | with_reducible exact grow_call (HVI.out _) | with_reducible exact grow_call (HVS.out _)) | (go_at_call 50; first | with_reducible exact grow_call (HMD.out _)))))
                refine wpQuiet_nil ?_
                rintro _ ⟨gw, rfl⟩
                go_wp2
                go_ret2
                exact ⟨by rw [HS2.out]; rfl, hz5.trans (gw.h.mono hz5.size)⟩
              · rw [if_neg h32] at hS
                have c32b : ((c0.toNat : Int) == 32) = false := by rw [c32]; simp [h32]
                replace HVD := Lib.hid (fun w0 => HVD.out w0 (d2 h32))
                have hmd := fun w0 => made_any vY (m + 1) vD vH vI vS z w0 hzb
                obtain ⟨X, hX⟩ : ∃ X, madeI vY (m + 1) vD vH vI vS z = X := ⟨_, rfl⟩
                rw [hX] at hmd hS
                obtain ⟨X1, X2⟩ := X
                unfold pairV at hmd
                have HMD := Lib.hid hmd
                have HS2 := Lib.hid hS
                clear hS hX hmd d1 d2 c32 HLT HPL HZN HLA HLB hzb
                go_wp2
                refine wp_region_grow (by kernel_rfl) (by kernel_rfl) ?_
                repeat (go_big_quiet_step ((first | (go_at_call 51; first | with_reducible exact grow_call (HVD.out _) | with_reducible exact grow_call (HVY.out _) | with_reducible exact grow_call (HVH.out _) | with_reducible exact grow_call (HVI.out _) | with_reducible exact grow_call (HVS.out _)) | (go_at_call 50; first | with_reducible exact grow_call (HMD.out _)))))
                refine wpQuiet_nil ?_
                rintro _ ⟨gw, rfl⟩
                go_wp2
                go_ret2
                exact ⟨by rw [HS2.out]; rfl, hz5.trans (gw.h.mono hz5.size)⟩
          · have c45b : ((c2.toNat : Int) != 45) = true := by rw [c45]; simp [h45]
            have hS := HS.out
            rw [if_pos (.inr (.inr (.inr (.inl h45))))] at hS
            have HS2 := Lib.hid hS
            clear hS HS HDT HDD HZB HVD HVE HVY HVH HVI HVS HLT c45 h45
            go_wp2
            all_goals
              go_ret2
              exact ⟨by rw [HS2.out]; rfl, hz4⟩
  · have hd := HDAY.out
    simp only [Bool.true_or] at hd
    subst hd
    go_wp2_with fail
    refine (HPL.out _).mono ?_
    rintro e w2 ⟨rfl, hb2⟩
    have hz2 := hz1.trans (hb2.mono hz1.size)
    rcases zn with _ | z
    · unfold zoneV at HZN
      go_wp2_with fail
      refine (HZN.out _).mono ?_
      rintro e w3 ⟨rfl, hb3⟩
      have hz3 := hz2.trans (hb3.mono hz2.size)
      have hS := HS.out
      rw [if_pos (.inl (by first | rfl | trivial | simp))] at hS
      have HS2 := Lib.hid hS
      clear hS HS HDT HDD HZB HVD HVE HVY HVH HVI HVS HLT
      go_wp2
      all_goals
        go_ret2
        exact ⟨by rw [HS2.out]; rfl, hz3⟩
    · unfold zoneV at HZN
      go_wp2_with fail
      refine (HZN.out _).mono ?_
      rintro e w3 ⟨rfl, hb3⟩
      have hz3 := hz2.trans (hb3.mono hz2.size)
      by_cases hm0 : m < 0
      · have hS := HS.out
        rw [if_pos (.inr (.inr (.inl (by omega))))] at hS
        have HS2 := Lib.hid hS
        clear hS HS HDT HDD HZB HVD HVE HVY HVH HVI HVS HLT
        go_wp2
        all_goals
          go_ret2
          exact ⟨by rw [HS2.out]; rfl, hz3⟩
      by_cases h45 : c2 = 45
      · have c45b : ((c2.toNat : Int) != 45) = false := by rw [c45]; simp [h45]
        clear c45
        go_wp2_with fail
        refine (HLT.out _).mono ?_
        rintro e w4 ⟨rfl, hb4⟩
        have hz4 := hz3.trans (hb4.mono hz3.size)
        rcases t with _ | _
        · have hS := HS.out
          rw [if_pos (.inr (.inr (.inr (.inr (by first | rfl | trivial | simp)))))] at hS
          have HS2 := Lib.hid hS
          clear hS HS HDT HDD HZB HVD HVE HVY HVH HVI HVS
          go_wp2
          all_goals
            go_ret2
            exact ⟨by rw [HS2.out]; rfl, hz4⟩
        · have hS := HS.out
          rw [if_neg (by rintro (h | h | h | h | h) <;> first | (cases h; done) | omega | exact h h45 | (simp at h; done)), Option.getD_some] at hS
          obtain ⟨dy, dh, di, ds⟩ := HDT.out (by first | rfl | trivial)
          obtain ⟨d1, d2⟩ := HDD.out (by first | rfl | trivial)
          have hzb := HZB.out z (by first | rfl | trivial)
          replace HVY := Lib.hid (fun w0 => HVY.out w0 dy)
          replace HVH := Lib.hid (fun w0 => HVH.out w0 dh)
          replace HVI := Lib.hid (fun w0 => HVI.out w0 di)
          replace HVS := Lib.hid (fun w0 => HVS.out w0 ds)
          clear dy dh di ds HDT HDD HZB HS
          by_cases h32 : c0 = 32
          · rw [if_pos h32] at hS
            have c32b : ((c0.toNat : Int) == 32) = true := by rw [c32]; simp [h32]
            replace HVD := Lib.hid (fun w0 => HVE.out w0 (d1 h32))
            have hmd := fun w0 => made_any vY (m + 1) vE vH vI vS z w0 hzb
            obtain ⟨X, hX⟩ : ∃ X, madeI vY (m + 1) vE vH vI vS z = X := ⟨_, rfl⟩
            rw [hX] at hmd hS
            obtain ⟨X1, X2⟩ := X
            unfold pairV at hmd
            have HMD := Lib.hid hmd
            have HS2 := Lib.hid hS
            clear hS hX hmd d1 d2 c32 HLT HPL HZN HLA HLB hzb
            go_wp2
            refine wp_region_grow (by kernel_rfl) (by kernel_rfl) ?_
            repeat (go_big_quiet_step ((first | (go_at_call 51; first | with_reducible exact grow_call (HVD.out _) | with_reducible exact grow_call (HVY.out _) | with_reducible exact grow_call (HVH.out _) | with_reducible exact grow_call (HVI.out _) | with_reducible exact grow_call (HVS.out _)) | (go_at_call 50; first | with_reducible exact grow_call (HMD.out _)))))
            refine wpQuiet_nil ?_
            rintro _ ⟨gw, rfl⟩
            go_wp2
            go_ret2
            exact ⟨by rw [HS2.out]; rfl, hz4.trans (gw.h.mono hz4.size)⟩
          · rw [if_neg h32] at hS
            have c32b : ((c0.toNat : Int) == 32) = false := by rw [c32]; simp [h32]
            replace HVD := Lib.hid (fun w0 => HVD.out w0 (d2 h32))
            have hmd := fun w0 => made_any vY (m + 1) vD vH vI vS z w0 hzb
            obtain ⟨X, hX⟩ : ∃ X, madeI vY (m + 1) vD vH vI vS z = X := ⟨_, rfl⟩
            rw [hX] at hmd hS
            obtain ⟨X1, X2⟩ := X
            unfold pairV at hmd
            have HMD := Lib.hid hmd
            have HS2 := Lib.hid hS
            clear hS hX hmd d1 d2 c32 HLT HPL HZN HLA HLB hzb
            go_wp2
            refine wp_region_grow (by kernel_rfl) (by kernel_rfl) ?_
            repeat (go_big_quiet_step ((first | (go_at_call 51; first | with_reducible exact grow_call (HVD.out _) | with_reducible exact grow_call (HVY.out _) | with_reducible exact grow_call (HVH.out _) | with_reducible exact grow_call (HVI.out _) | with_reducible exact grow_call (HVS.out _)) | (go_at_call 50; first | with_reducible exact grow_call (HMD.out _)))))
            refine wpQuiet_nil ?_
            rintro _ ⟨gw, rfl⟩
            go_wp2
            go_ret2
            exact ⟨by rw [HS2.out]; rfl, hz4.trans (gw.h.mono hz4.size)⟩
      · have c45b : ((c2.toNat : Int) != 45) = true := by rw [c45]; simp [h45]
        have hS := HS.out
        rw [if_pos (.inr (.inr (.inr (.inl h45))))] at hS
        have HS2 := Lib.hid hS
        clear hS HS HDT HDD HZB HVD HVE HVY HVH HVI HVS HLT c45 h45
        go_wp2
        all_goals
          go_ret2
          exact ⟨by rw [HS2.out]; rfl, hz3⟩

end Go.Proofs.YthkkdbpblajahaaDoor
