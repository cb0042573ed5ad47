/- The reference's ParseDay. Printed by gen36.py. -/
import Derived.Test.YthkkdbpblajahaaDoorD35
set_option linter.unusedVariables false
set_option linter.unusedSimpArgs false
namespace Go.Proofs.YthkkdbpblajahaaDoor
open Go.RowKit

/-- what the reference's readers hand back: the moment; the error's number -/
noncomputable def parsedI : Option RuleD → Int × Int
  | none => (0, 2)
  | some ((y, m, d, h, mi, s), z) => madeI y m d h mi s z

theorem plL_le : ∀ (k i : Nat) (t s : List UInt8), plL k i t s ≤ i + k
  | 0, i, t, s => by unfold plL; omega
  | k + 1, i, t, s => by
    unfold plL
    split
    · omega
    · have := plL_le k (i + 1) (t.drop 3) s
      omega

theorem refDay_short (l : List UInt8) (w : World) (h10 : l.length ≠ 10) (h11 : l.length ≠ 11) : Calls Tryd.prog 25 #[.string (bs l)] w fun e w' => e = .returned (pairV (parsedI (refDayC l))) ∧ Below w.heap.size w w' := by
  have hs : refDayC l = none := by
    unfold refDayC
    rw [if_neg h11, if_pos (.inl (by omega))]
  rw [hs]
  have n11 : ((l.length : Int) == 11) = false := by rw [beq_eq_false_iff_ne]; omega
  have n10 : ((l.length : Int) != 10) = true := by rw [bne_iff_ne]; omega
  have n11b : ¬ (l.length : Int) = 11 := by omega
  have n10b : ¬ (l.length : Int) = 10 := by omega
  clear hs
  go_enter Tryd.func25, Tryd.ntmps25
  go_wp2
  refine wp_region_grow (by kernel_rfl) (by kernel_rfl) ?_
  repeat (go_big_quiet_step (fail))
  refine wpQuiet_nil ?_
  rintro _ ⟨gw, rfl⟩
  go_wp2
  go_ret2
  exact ⟨rfl, gw.h⟩

set_option maxRecDepth 100000 in
set_option maxHeartbeats 4000000 in
theorem refDay_11 (l : List UInt8) (w : World) (hl : l.length = 11) : Calls Tryd.prog 25 #[.string (bs l)] w fun e w' => e = .returned (pairV (parsedI (refDayC l))) ∧ Below w.heap.size w w' := by
  have hspec : parsedI (refDayC l) = if likeL (l.take 2) [48, 48] = false ∨ l.getD 2 0 ≠ 45 ∨ plL 12 0 monthsL ((l.drop 3).take 3) < 0 ∨ likeL (l.drop 6) [45, 48, 48, 48, 48] = false then (0, 2)
      else madeI (valueL (l.drop 7)) (plL 12 0 monthsL ((l.drop 3).take 3) + 1) (valueL (l.take 2)) 0 0 0 0 := by
    unfold refDayC
    have hn : (if l.length = 11 then 2 else 1) = 2 := if_pos hl
    rw [hn]
    simp only [hl, ne_eq, Nat.reduceAdd, not_true_eq_false, false_or, List.take_succ_cons, List.take_zero]
    rw [apply_ite parsedI]
    rfl
  obtain ⟨P, hP⟩ : ∃ P, l.take 2 = P := ⟨_, rfl⟩
  obtain ⟨M, hM⟩ : ∃ M, (l.drop 3).take 3 = M := ⟨_, rfl⟩
  obtain ⟨Y, hY⟩ : ∃ Y, l.drop 6 = Y := ⟨_, rfl⟩
  obtain ⟨Z, hZ⟩ : ∃ Z, l.drop 7 = Z := ⟨_, rfl⟩
  obtain ⟨c, hc⟩ : ∃ c, l.getD 2 0 = c := ⟨_, rfl⟩
  rw [hP, hM, hY, hZ, hc] at hspec
  have s1 := fun w0 => run_to l 2 (by omega) w0
  have s2 : ∀ w0 : World, (Instr.slice 9 (.string ⟨#[48, 48]⟩) none (some (.int .i64 2)) none).run Tryd.prog w0 = .ok (.string ⟨#[48, 48]⟩) w0 := fun w0 => run_to [48, 48] 2 (by decide) w0
  have s3 := fun w0 => run_mid l 3 6 (by decide) (by omega) w0
  have s4 := fun w0 => run_from l 6 (by omega) w0
  have s5 := fun w0 => run_from l 7 (by omega) w0
  rw [show 6 - 3 = 3 from rfl] at s3
  rw [hP] at s1
  rw [hM] at s3
  rw [hY] at s4
  rw [hZ] at s5
  simp at s1 s3 s4 s5
  have hx : (bs l)[2]'(by rw [bs_size]; omega) = c := by
    rw [← hc]
    show l[2] = _
    simp [List.getD, show 2 < l.length by omega]
  have hlP : P.length = 2 := by rw [← hP, List.length_take]; omega
  have hlM : M.length = 3 := by rw [← hM, List.length_take, List.length_drop]; omega
  have hlY : Y.length = 5 := by rw [← hY, List.length_drop]; omega
  have hYZ : Y.drop 1 = Z := by rw [← hY, ← hZ, List.drop_drop]
  have HLP := Lib.hid (fun w0 => like_any P [48, 48] w0 (by omega))
  have HLY := Lib.hid (fun w0 => like_any Y [45, 48, 48, 48, 48] w0 (by omega))
  have HPL := Lib.hid (fun w0 => place_any 12 M monthsL w0 (by decide) (by decide) (by omega))
  unfold monthsL at HPL
  have HV1 := Lib.hid (fun w0 (h : ∀ c ∈ P, isD c = true) => value_any P w0 (by omega) h)
  have l11 : (l.length : Int) = 11 := by omega
  have hbd : likeL P [48, 48] = true → (∀ c ∈ P, isD c = true) := fun h => (like_dig (n := 2) h).2
  have hbz : likeL Y [45, 48, 48, 48, 48] = true → Z.length = 4 ∧ (∀ c ∈ Z, isD c = true) := fun h => by
    rw [like5, Bool.and_eq_true, hYZ] at h
    exact like_dig (n := 4) h.2
  have HV2 := Lib.hid (fun w0 (h : Z.length = 4 ∧ ∀ c ∈ Z, isD c = true) => value_any Z w0 (by omega) h.2)
  obtain ⟨a, ha⟩ : ∃ a, likeL P [48, 48] = a := ⟨_, rfl⟩
  obtain ⟨y, hy⟩ : ∃ y, likeL Y [45, 48, 48, 48, 48] = y := ⟨_, rfl⟩
  obtain ⟨m, hm⟩ : ∃ m, plL 12 0 monthsL M = m := ⟨_, rfl⟩
  obtain ⟨p, hp⟩ : ∃ p, valueL P = p := ⟨_, rfl⟩
  obtain ⟨z, hz⟩ : ∃ z, valueL Z = z := ⟨_, rfl⟩
  have hmb : m ≤ 12 := by rw [← hm]; exact plL_le 12 0 monthsL M
  unfold monthsL at hm
  rw [ha, hy, hp, hz] at hspec
  unfold monthsL at hspec
  rw [hm] at hspec HPL
  rw [ha] at HLP hbd
  rw [hy] at HLY hbz
  rw [hp] at HV1
  rw [hz] at HV2
  have HS := Lib.hid hspec
  clear hspec hP hM hY hZ hc hlP hlM hlY hYZ ha hy hm hp hz
  rcases a with _ | _
  · have hS := HS.out
    rw [if_pos (.inl rfl)] at hS
    rw [hS]
    clear hS HS
    go_enter Tryd.func25, Tryd.ntmps25
    go_wp2
    refine wp_region_grow (by kernel_rfl) (by kernel_rfl) ?_
    repeat (go_big_quiet_step ((first | (go_at_call 48; first | with_reducible exact grow_call (HLP.out _) | with_reducible exact grow_call (HLY.out _)) | (go_at_call 49; first | with_reducible exact grow_call (HPL.out _)) | (go_at_call 51; first | with_reducible exact grow_call (HV1.out _) | with_reducible exact grow_call (HV2.out _)) | (go_at_call 50; first | with_reducible exact grow_call (HMD.out _)))))
    refine wpQuiet_nil ?_
    rintro _ ⟨gw, rfl⟩
    go_wp2
    go_ret2
    exact ⟨rfl, gw.h⟩
  by_cases hc45 : c = 45
  · have c1 : ((c.toNat : Int) != 45) = false := by subst hc45; rfl
    by_cases hm0 : m < 0
    · have hS := HS.out
      rw [if_pos (.inr (.inr (.inl hm0)))] at hS
      rw [hS]
      have m1 : decide (m < 0) = true := decide_eq_true hm0
      clear hS HS hbd hbz
      go_enter Tryd.func25, Tryd.ntmps25
      go_wp2
      refine wp_region_grow (by kernel_rfl) (by kernel_rfl) ?_
      repeat (go_big_quiet_step ((first | (go_at_call 48; first | with_reducible exact grow_call (HLP.out _) | with_reducible exact grow_call (HLY.out _)) | (go_at_call 49; first | with_reducible exact grow_call (HPL.out _)) | (go_at_call 51; first | with_reducible exact grow_call (HV1.out _) | with_reducible exact grow_call (HV2.out _)) | (go_at_call 50; first | with_reducible exact grow_call (HMD.out _)))))
      refine wpQuiet_nil ?_
      rintro _ ⟨gw, rfl⟩
      go_wp2
      go_ret2
      exact ⟨rfl, gw.h⟩
    · have m1 : decide (m < 0) = false := decide_eq_false hm0
      rcases y with _ | _
      · have hS := HS.out
        rw [if_pos (.inr (.inr (.inr rfl)))] at hS
        rw [hS]
        clear hS HS hbd hbz
        go_enter Tryd.func25, Tryd.ntmps25
        go_wp2
        refine wp_region_grow (by kernel_rfl) (by kernel_rfl) ?_
        repeat (go_big_quiet_step ((first | (go_at_call 48; first | with_reducible exact grow_call (HLP.out _) | with_reducible exact grow_call (HLY.out _)) | (go_at_call 49; first | with_reducible exact grow_call (HPL.out _)) | (go_at_call 51; first | with_reducible exact grow_call (HV1.out _) | with_reducible exact grow_call (HV2.out _)) | (go_at_call 50; first | with_reducible exact grow_call (HMD.out _)))))
        refine wpQuiet_nil ?_
        rintro _ ⟨gw, rfl⟩
        go_wp2
        go_ret2
        exact ⟨rfl, gw.h⟩
      · have hS := HS.out
        rw [if_neg (by rintro (h | h | h | h); cases h; exact h hc45; exact hm0 h; cases h)] at hS
        rw [hS]
        have hmd := fun w0 => made_any z (m + 1) p 0 0 0 0 w0 (by decide)
        obtain ⟨X, hX⟩ : ∃ X, madeI z (m + 1) p 0 0 0 0 = X := ⟨_, rfl⟩
        rw [hX] at hmd ⊢
        obtain ⟨X1, X2⟩ := X
        unfold pairV at hmd ⊢
        have hv1 := fun w0 => HV1.out w0 (hbd rfl)
        have hv2 := fun w0 => HV2.out w0 (hbz rfl)
        replace HV1 := Lib.hid hv1
        replace HV2 := Lib.hid hv2
        have HMD := Lib.hid hmd
        clear hS HS hbd hbz hX hmd hv1 hv2
        go_enter Tryd.func25, Tryd.ntmps25
        go_wp2
        refine wp_region_grow (by kernel_rfl) (by kernel_rfl) ?_
        repeat (go_big_quiet_step ((first | (go_at_call 48; first | with_reducible exact grow_call (HLP.out _) | with_reducible exact grow_call (HLY.out _)) | (go_at_call 49; first | with_reducible exact grow_call (HPL.out _)) | (go_at_call 51; first | with_reducible exact grow_call (HV1.out _) | with_reducible exact grow_call (HV2.out _)) | (go_at_call 50; first | with_reducible exact grow_call (HMD.out _)))))
        refine wpQuiet_nil ?_
        rintro _ ⟨gw, rfl⟩
        go_wp2
        refine wp_region_grow (by kernel_rfl) (by kernel_rfl) ?_
        repeat (go_big_quiet_step ((first | (go_at_call 48; first | with_reducible exact grow_call (HLP.out _) | with_reducible exact grow_call (HLY.out _)) | (go_at_call 49; first | with_reducible exact grow_call (HPL.out _)) | (go_at_call 51; first | with_reducible exact grow_call (HV1.out _) | with_reducible exact grow_call (HV2.out _)) | (go_at_call 50; first | with_reducible exact grow_call (HMD.out _)))))
        refine wpQuiet_nil ?_
        rintro _ ⟨gw2, rfl⟩
        go_wp2
        go_ret2
        exact ⟨rfl, gw.h.trans (gw2.h.mono gw.h.size)⟩
  · have c1 : ((c.toNat : Int) != 45) = true := by
      rw [bne_iff_ne]; intro e; exact hc45 (UInt8.toNat_inj.1 (by rw [show (45 : UInt8).toNat = 45 from rfl]; omega))
    have hS := HS.out
    rw [if_pos (.inr (.inl hc45))] at hS
    rw [hS]
    clear hS HS hbd hbz
    go_enter Tryd.func25, Tryd.ntmps25
    go_wp2
    refine wp_region_grow (by kernel_rfl) (by kernel_rfl) ?_
    repeat (go_big_quiet_step ((first | (go_at_call 48; first | with_reducible exact grow_call (HLP.out _) | with_reducible exact grow_call (HLY.out _)) | (go_at_call 49; first | with_reducible exact grow_call (HPL.out _)) | (go_at_call 51; first | with_reducible exact grow_call (HV1.out _) | with_reducible exact grow_call (HV2.out _)) | (go_at_call 50; first | with_reducible exact grow_call (HMD.out _)))))
    refine wpQuiet_nil ?_
    rintro _ ⟨gw, rfl⟩
    go_wp2
    go_ret2
    exact ⟨rfl, gw.h⟩

set_option maxRecDepth 100000 in
set_option maxHeartbeats 4000000 in
theorem refDay_10 (l : List UInt8) (w : World) (hl : l.length = 10) : Calls Tryd.prog 25 #[.string (bs l)] w fun e w' => e = .returned (pairV (parsedI (refDayC l))) ∧ Below w.heap.size w w' := by
  have hspec : parsedI (refDayC l) = if likeL (l.take 1) [48] = false ∨ l.getD 1 0 ≠ 45 ∨ plL 12 0 monthsL ((l.drop 2).take 3) < 0 ∨ likeL (l.drop 5) [45, 48, 48, 48, 48] = false then (0, 2)
      else madeI (valueL (l.drop 6)) (plL 12 0 monthsL ((l.drop 2).take 3) + 1) (valueL (l.take 1)) 0 0 0 0 := by
    unfold refDayC
    have hn : (if l.length = 11 then 2 else 1) = 1 := if_neg (by omega)
    rw [hn]
    simp only [hl, ne_eq, Nat.reduceAdd, not_true_eq_false, false_or, List.take_succ_cons, List.take_zero]
    rw [apply_ite parsedI]
    rfl
  obtain ⟨P, hP⟩ : ∃ P, l.take 1 = P := ⟨_, rfl⟩
  obtain ⟨M, hM⟩ : ∃ M, (l.drop 2).take 3 = M := ⟨_, rfl⟩
  obtain ⟨Y, hY⟩ : ∃ Y, l.drop 5 = Y := ⟨_, rfl⟩
  obtain ⟨Z, hZ⟩ : ∃ Z, l.drop 6 = Z := ⟨_, rfl⟩
  obtain ⟨c, hc⟩ : ∃ c, l.getD 1 0 = c := ⟨_, rfl⟩
  rw [hP, hM, hY, hZ, hc] at hspec
  have s1 := fun w0 => run_to l 1 (by omega) w0
  have s2 : ∀ w0 : World, (Instr.slice 9 (.string ⟨#[48, 48]⟩) none (some (.int .i64 1)) none).run Tryd.prog w0 = .ok (.string ⟨#[48]⟩) w0 := fun w0 => run_to [48, 48] 1 (by decide) w0
  have s3 := fun w0 => run_mid l 2 5 (by decide) (by omega) w0
  have s4 := fun w0 => run_from l 5 (by omega) w0
  have s5 := fun w0 => run_from l 6 (by omega) w0
  rw [show 5 - 2 = 3 from rfl] at s3
  rw [hP] at s1
  rw [hM] at s3
  rw [hY] at s4
  rw [hZ] at s5
  simp at s1 s3 s4 s5
  have hx : (bs l)[1]'(by rw [bs_size]; omega) = c := by
    rw [← hc]
    show l[1] = _
    simp [List.getD, show 1 < l.length by omega]
  have hlP : P.length = 1 := by rw [← hP, List.length_take]; omega
  have hlM : M.length = 3 := by rw [← hM, List.length_take, List.length_drop]; omega
  have hlY : Y.length = 5 := by rw [← hY, List.length_drop]; omega
  have hYZ : Y.drop 1 = Z := by rw [← hY, ← hZ, List.drop_drop]
  have HLP := Lib.hid (fun w0 => like_any P [48] w0 (by omega))
  have HLY := Lib.hid (fun w0 => like_any Y [45, 48, 48, 48, 48] w0 (by omega))
  have HPL := Lib.hid (fun w0 => place_any 12 M monthsL w0 (by decide) (by decide) (by omega))
  unfold monthsL at HPL
  have HV1 := Lib.hid (fun w0 (h : ∀ c ∈ P, isD c = true) => value_any P w0 (by omega) h)
  have l11 : (l.length : Int) = 10 := by omega
  have hbd : likeL P [48] = true → (∀ c ∈ P, isD c = true) := fun h => (like_dig (n := 1) h).2
  have hbz : likeL Y [45, 48, 48, 48, 48] = true → Z.length = 4 ∧ (∀ c ∈ Z, isD c = true) := fun h => by
    rw [like5, Bool.and_eq_true, hYZ] at h
    exact like_dig (n := 4) h.2
  have HV2 := Lib.hid (fun w0 (h : Z.length = 4 ∧ ∀ c ∈ Z, isD c = true) => value_any Z w0 (by omega) h.2)
  obtain ⟨a, ha⟩ : ∃ a, likeL P [48] = a := ⟨_, rfl⟩
  obtain ⟨y, hy⟩ : ∃ y, likeL Y [45, 48, 48, 48, 48] = y := ⟨_, rfl⟩
  obtain ⟨m, hm⟩ : ∃ m, plL 12 0 monthsL M = m := ⟨_, rfl⟩
  obtain ⟨p, hp⟩ : ∃ p, valueL P = p := ⟨_, rfl⟩
  obtain ⟨z, hz⟩ : ∃ z, valueL Z = z := ⟨_, rfl⟩
  have hmb : m ≤ 12 := by rw [← hm]; exact plL_le 12 0 monthsL M
  unfold monthsL at hm
  rw [ha, hy, hp, hz] at hspec
  unfold monthsL at hspec
  rw [hm] at hspec HPL
  rw [ha] at HLP hbd
  rw [hy] at HLY hbz
  rw [hp] at HV1
  rw [hz] at HV2
  have HS := Lib.hid hspec
  clear hspec hP hM hY hZ hc hlP hlM hlY hYZ ha hy hm hp hz
  rcases a with _ | _
  · have hS := HS.out
    rw [if_pos (.inl rfl)] at hS
    rw [hS]
    clear hS HS
    go_enter Tryd.func25, Tryd.ntmps25
    go_wp2
    refine wp_region_grow (by kernel_rfl) (by kernel_rfl) ?_
    repeat (go_big_quiet_step ((first | (go_at_call 48; first | with_reducible exact grow_call (HLP.out _) | with_reducible exact grow_call (HLY.out _)) | (go_at_call 49; first | with_reducible exact grow_call (HPL.out _)) | (go_at_call 51; first | with_reducible exact grow_call (HV1.out _) | with_reducible exact grow_call (HV2.out _)) | (go_at_call 50; first | with_reducible exact grow_call (HMD.out _)))))
    refine wpQuiet_nil ?_
    rintro _ ⟨gw, rfl⟩
    go_wp2
    go_ret2
    exact ⟨rfl, gw.h⟩
  by_cases hc45 : c = 45
  · have c1 : ((c.toNat : Int) != 45) = false := by subst hc45; rfl
    by_cases hm0 : m < 0
    · have hS := HS.out
      rw [if_pos (.inr (.inr (.inl hm0)))] at hS
      rw [hS]
      have m1 : decide (m < 0) = true := decide_eq_true hm0
      clear hS HS hbd hbz
      go_enter Tryd.func25, Tryd.ntmps25
      go_wp2
      refine wp_region_grow (by kernel_rfl) (by kernel_rfl) ?_
      repeat (go_big_quiet_step ((first | (go_at_call 48; first | with_reducible exact grow_call (HLP.out _) | with_reducible exact grow_call (HLY.out _)) | (go_at_call 49; first | with_reducible exact grow_call (HPL.out _)) | (go_at_call 51; first | with_reducible exact grow_call (HV1.out _) | with_reducible exact grow_call (HV2.out _)) | (go_at_call 50; first | with_reducible exact grow_call (HMD.out _)))))
      refine wpQuiet_nil ?_
      rintro _ ⟨gw, rfl⟩
      go_wp2
      go_ret2
      exact ⟨rfl, gw.h⟩
    · have m1 : decide (m < 0) = false := decide_eq_false hm0
      rcases y with _ | _
      · have hS := HS.out
        rw [if_pos (.inr (.inr (.inr rfl)))] at hS
        rw [hS]
        clear hS HS hbd hbz
        go_enter Tryd.func25, Tryd.ntmps25
        go_wp2
        refine wp_region_grow (by kernel_rfl) (by kernel_rfl) ?_
        repeat (go_big_quiet_step ((first | (go_at_call 48; first | with_reducible exact grow_call (HLP.out _) | with_reducible exact grow_call (HLY.out _)) | (go_at_call 49; first | with_reducible exact grow_call (HPL.out _)) | (go_at_call 51; first | with_reducible exact grow_call (HV1.out _) | with_reducible exact grow_call (HV2.out _)) | (go_at_call 50; first | with_reducible exact grow_call (HMD.out _)))))
        refine wpQuiet_nil ?_
        rintro _ ⟨gw, rfl⟩
        go_wp2
        go_ret2
        exact ⟨rfl, gw.h⟩
      · have hS := HS.out
        rw [if_neg (by rintro (h | h | h | h); cases h; exact h hc45; exact hm0 h; cases h)] at hS
        rw [hS]
        have hmd := fun w0 => made_any z (m + 1) p 0 0 0 0 w0 (by decide)
        obtain ⟨X, hX⟩ : ∃ X, madeI z (m + 1) p 0 0 0 0 = X := ⟨_, rfl⟩
        rw [hX] at hmd ⊢
        obtain ⟨X1, X2⟩ := X
        unfold pairV at hmd ⊢
        have hv1 := fun w0 => HV1.out w0 (hbd rfl)
        have hv2 := fun w0 => HV2.out w0 (hbz rfl)
        replace HV1 := Lib.hid hv1
        replace HV2 := Lib.hid hv2
        have HMD := Lib.hid hmd
        clear hS HS hbd hbz hX hmd hv1 hv2
        go_enter Tryd.func25, Tryd.ntmps25
        go_wp2
        refine wp_region_grow (by kernel_rfl) (by kernel_rfl) ?_
        repeat (go_big_quiet_step ((first | (go_at_call 48; first | with_reducible exact grow_call (HLP.out _) | with_reducible exact grow_call (HLY.out _)) | (go_at_call 49; first | with_reducible exact grow_call (HPL.out _)) | (go_at_call 51; first | with_reducible exact grow_call (HV1.out _) | with_reducible exact grow_call (HV2.out _)) | (go_at_call 50; first | with_reducible exact grow_call (HMD.out _)))))
        refine wpQuiet_nil ?_
        rintro _ ⟨gw, rfl⟩
        go_wp2
        refine wp_region_grow (by kernel_rfl) (by kernel_rfl) ?_
        repeat (go_big_quiet_step ((first | (go_at_call 48; first | with_reducible exact grow_call (HLP.out _) | with_reducible exact grow_call (HLY.out _)) | (go_at_call 49; first | with_reducible exact grow_call (HPL.out _)) | (go_at_call 51; first | with_reducible exact grow_call (HV1.out _) | with_reducible exact grow_call (HV2.out _)) | (go_at_call 50; first | with_reducible exact grow_call (HMD.out _)))))
        refine wpQuiet_nil ?_
        rintro _ ⟨gw2, rfl⟩
        go_wp2
        go_ret2
        exact ⟨rfl, gw.h.trans (gw2.h.mono gw.h.size)⟩
  · have c1 : ((c.toNat : Int) != 45) = true := by
      rw [bne_iff_ne]; intro e; exact hc45 (UInt8.toNat_inj.1 (by rw [show (45 : UInt8).toNat = 45 from rfl]; omega))
    have hS := HS.out
    rw [if_pos (.inr (.inl hc45))] at hS
    rw [hS]
    clear hS HS hbd hbz
    go_enter Tryd.func25, Tryd.ntmps25
    go_wp2
    refine wp_region_grow (by kernel_rfl) (by kernel_rfl) ?_
    repeat (go_big_quiet_step ((first | (go_at_call 48; first | with_reducible exact grow_call (HLP.out _) | with_reducible exact grow_call (HLY.out _)) | (go_at_call 49; first | with_reducible exact grow_call (HPL.out _)) | (go_at_call 51; first | with_reducible exact grow_call (HV1.out _) | with_reducible exact grow_call (HV2.out _)) | (go_at_call 50; first | with_reducible exact grow_call (HMD.out _)))))
    refine wpQuiet_nil ?_
    rintro _ ⟨gw, rfl⟩
    go_wp2
    go_ret2
    exact ⟨rfl, gw.h⟩

theorem refParseDay_any (l : List UInt8) (w : World) : Calls Tryd.prog 25 #[.string (bs l)] w fun e w' => e = .returned (pairV (parsedI (refDayC l))) ∧ Below w.heap.size w w' := by
  by_cases h11 : l.length = 11
  · exact refDay_11 l w h11
  · by_cases h10 : l.length = 10
    · exact refDay_10 l w h10
    · exact refDay_short l w h10 h11

/-- both read the same -/
theorem read_same (R : Option (RuleD × List UInt8)) : (∃ t, readV R = .good t ∧ parsedI (fullR R) = (t, 0)) ∨ (readV R = .bad 0 ∧ parsedI (fullR R) = (0, 1)) ∨ (readV R = .bad 1 ∧ parsedI (fullR R) = (0, 2)) := by
  rcases R with _ | ⟨⟨⟨y, m, d, h, mi, s⟩, z⟩, r⟩
  · exact .inr (.inr ⟨rfl, rfl⟩)
  · cases r with
    | cons c r =>
      refine .inr (.inr ⟨?_, rfl⟩)
      unfold readV; dsimp only; rw [if_pos (by simp)]
    | nil =>
      have e2 : parsedI (fullR (some (((y, m, d, h, mi, s), z), []))) = madeI y m d h mi s z := rfl
      by_cases hg : Cal.right y m d h mi s
      · by_cases ho : 0 ≤ Cal.mom y m d h mi s - z ∧ Cal.mom y m d h mi s - z ≤ 4102444799
        · refine .inl ⟨Cal.mom y m d h mi s - z, ?_, ?_⟩
          · unfold readV; dsimp only; rw [if_neg (by simp), if_neg (by simpa using hg), if_pos ho]
          · rw [e2]; unfold madeI; rw [if_neg (fun h => h hg), if_pos ho]
        · refine .inr (.inl ⟨?_, ?_⟩)
          · unfold readV; dsimp only; rw [if_neg (by simp), if_neg (by simpa using hg), if_neg ho]
          · rw [e2]; unfold madeI; rw [if_neg (fun h => h hg), if_neg ho]
      · refine .inr (.inl ⟨?_, ?_⟩)
        · unfold readV; dsimp only; rw [if_neg (by simp), if_pos hg]
        · rw [e2]; unfold madeI; rw [if_pos hg]

end Go.Proofs.YthkkdbpblajahaaDoor
