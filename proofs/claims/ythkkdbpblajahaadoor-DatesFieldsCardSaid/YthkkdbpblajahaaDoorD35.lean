/- The reference's zone and made. -/
import Derived.Test.YthkkdbpblajahaaDoorD34
import Derived.Test.YthkkdbpblajahaaDoorD22
import Derived.Test.YthkkdbpblajahaaDoorD7
set_option linter.unusedVariables false
set_option linter.unusedSimpArgs false
namespace Go.Proofs.YthkkdbpblajahaaDoor
open Go.RowKit

def zoneV : Option Int → Value
  | none => .tuple #[.int .i64 0, .bool false]
  | some z => .tuple #[.int .i64 z, .bool true]

theorem like_dig {n : Nat} {s : List UInt8} (h : likeL s (List.replicate n 48) = true) : s.length = n ∧ ∀ c ∈ s, isD c = true := by
  induction n generalizing s with
  | zero => cases s with
    | nil => exact ⟨rfl, by simp⟩
    | cons c s => cases h
  | succ n ih => cases s with
    | nil => cases h
    | cons c s =>
      have h' : (likeB c 48 && likeL s (List.replicate n 48)) = true := h
      rw [Bool.and_eq_true, likeB_dig] at h'
      obtain ⟨a, b⟩ := ih h'.2
      refine ⟨by simp [a], fun d hd => ?_⟩
      rcases List.mem_cons.1 hd with rfl | hd
      · exact h'.1
      · exact b d hd
theorem value_bd : ∀ (s : List UInt8) (n : Int), (∀ c ∈ s, isD c = true) → 0 ≤ n → 0 ≤ s.foldl (fun n c => 10 * n + (((c - 48 : UInt8).toNat : Nat) : Int)) n ∧ s.foldl (fun n c => 10 * n + (((c - 48 : UInt8).toNat : Nat) : Int)) n + 1 ≤ (n + 1) * 10 ^ s.length
  | [], n, _, h => by simp; exact h
  | c :: s, n, hd, h => by
    have h1 := dig_bd (hd c List.mem_cons_self)
    have h2 := isD_sub (hd c List.mem_cons_self)
    obtain ⟨a, b⟩ := value_bd s (10 * n + (((c - 48 : UInt8).toNat : Nat) : Int)) (fun d h => hd d (List.mem_cons_of_mem _ h)) (by omega)
    refine ⟨a, Int.le_trans b ?_⟩
    rw [List.length_cons, Int.pow_succ, show (n + 1) * (10 ^ s.length * 10) = ((n + 1) * 10) * 10 ^ s.length by rw [Int.mul_comm (10 ^ s.length) 10, Int.mul_assoc]]
    exact Int.mul_le_mul_of_nonneg_right (by omega) (Int.pow_nonneg (by omega))
theorem valueL_bd {s : List UInt8} {n : Nat} (h : likeL s (List.replicate n 48) = true) : 0 ≤ valueL s ∧ valueL s + 1 ≤ 10 ^ n := by
  obtain ⟨h1, h2⟩ := like_dig h
  have := value_bd s 0 h2 (by omega)
  rw [h1] at this
  unfold valueL
  simpa using this

theorem like_zone {s : List UInt8} {d : UInt8} (hd : d ≠ 48) (h : likeL s [d, 48, 48, 48, 48] = true) : s.length = 5 ∧ s.headD 0 = d ∧ likeL ((s.drop 1).take 2) (List.replicate 2 48) = true ∧ likeL ((s.drop 3).take 2) (List.replicate 2 48) = true := by
  have hl := likeL_len2 h
  simp at hl
  match s, hl with
  | [c0, c1, c2, c3, c4], _ =>
    have := likeL_append [d] [48, 48, 48, 48] [c0, c1, c2, c3, c4]
    simp only [List.cons_append, List.nil_append, List.length_cons, List.length_nil, List.take_succ_cons, List.take_zero, List.drop_succ_cons, List.drop_zero] at this
    rw [this] at h
    have h2 := likeL_append [48, 48] [48, 48] [c1, c2, c3, c4]
    simp only [List.cons_append, List.nil_append, List.length_cons, List.length_nil, List.take_succ_cons, List.take_zero, List.drop_succ_cons, List.drop_zero] at h2
    rw [h2, Bool.and_eq_true, Bool.and_eq_true] at h
    refine ⟨rfl, ?_, h.2.1, h.2.2⟩
    have := h.1
    simp [likeL, likeB_lit hd] at this
    exact this

set_option maxRecDepth 100000 in
set_option maxHeartbeats 2000000 in
theorem refZone_any (s : List UInt8) (w : World) (hs : s.length ≤ 1099511627776) : Calls Tryd.prog 56 #[.string (bs s)] w fun e w' => e = .returned (zoneV (zoneR s)) ∧ Below w.heap.size w w' := by
  obtain ⟨A, hA⟩ : ∃ A, likeL s [43, 48, 48, 48, 48] = A := ⟨_, rfl⟩
  obtain ⟨B, hB⟩ : ∃ B, likeL s [45, 48, 48, 48, 48] = B := ⟨_, rfl⟩
  have hl1 := fun w0 => like_any s [43, 48, 48, 48, 48] w0 hs
  have hl2 := fun w0 => like_any s [45, 48, 48, 48, 48] w0 hs
  rw [hA] at hl1
  rw [hB] at hl2
  have HL1 := Lib.hid hl1
  have HL2 := Lib.hid hl2
  clear hl1 hl2
  by_cases hno : A = false ∧ B = false
  · obtain ⟨rfl, rfl⟩ := hno
    have hz : zoneR s = none := by unfold zoneR; rw [hA, hB]; rfl
    rw [hz]
    clear hA hB hz
    go_enter Tryd.func56, Tryd.ntmps56
    go_wp2_with fail
    refine (HL1.out _).mono ?_
    rintro e w1 ⟨rfl, hb1⟩
    go_wp2_with fail
    refine (HL2.out _).mono ?_
    rintro e w2 ⟨rfl, hb2⟩
    go_wp2
    go_ret2
    exact ⟨rfl, hb1.trans (hb2.mono hb1.size)⟩
  · have hz0 : ¬ (likeL s [43, 48, 48, 48, 48] = false ∧ likeL s [45, 48, 48, 48, 48] = false) := by rw [hA, hB]; exact hno
    obtain ⟨d, hd, hp5, hh, hx, hy⟩ : ∃ d : UInt8, d ≠ 48 ∧ s.length = 5 ∧ s.headD 0 = d ∧ likeL ((s.drop 1).take 2) (List.replicate 2 48) = true ∧ likeL ((s.drop 3).take 2) (List.replicate 2 48) = true := by
      rcases A with _ | _
      · rcases B with _ | _
        · exact absurd ⟨rfl, rfl⟩ hno
        · have := like_zone (by decide) hB
          exact ⟨45, by decide, this⟩
      · have := like_zone (by decide) hA
        exact ⟨43, by decide, this⟩
    have hzr : zoneR s = if valueL ((s.drop 1).take 2) > 23 ∨ valueL ((s.drop 3).take 2) > 59 then none
        else if s.headD 0 = 45 then some (-3600 * valueL ((s.drop 1).take 2) - 60 * valueL ((s.drop 3).take 2)) else some (3600 * valueL ((s.drop 1).take 2) + 60 * valueL ((s.drop 3).take 2)) := by
      unfold zoneR; rw [if_neg hz0]
    rw [hzr]
    have bx := valueL_bd hx
    have by' := valueL_bd hy
    obtain ⟨lx, dx⟩ := like_dig hx
    obtain ⟨ly, dy⟩ := like_dig hy
    have hv1 := fun w0 => value_any ((s.drop 1).take 2) w0 (by rw [lx]; decide) dx
    have hv2 := fun w0 => value_any ((s.drop 3).take 2) w0 (by rw [ly]; decide) dy
    have s1 := fun w0 => run_mid s 1 3 (by decide) (by omega) w0
    have s2 := fun w0 => run_mid s 3 5 (by decide) (by omega) w0
    obtain ⟨x, hxe⟩ : ∃ x, valueL ((s.drop 1).take 2) = x := ⟨_, rfl⟩
    obtain ⟨y, hye⟩ : ∃ y, valueL ((s.drop 3).take 2) = y := ⟨_, rfl⟩
    obtain ⟨X, hX⟩ : ∃ X, (s.drop 1).take 2 = X := ⟨_, rfl⟩
    obtain ⟨Y, hY⟩ : ∃ Y, (s.drop 3).take 2 = Y := ⟨_, rfl⟩
    rw [show 3 - 1 = 2 from rfl] at s1
    rw [show 5 - 3 = 2 from rfl] at s2
    rw [hxe] at bx hv1 ⊢
    rw [hye] at by' hv2 ⊢
    rw [hX] at s1 hv1
    rw [hY] at s2 hv2
    rw [hh]
    obtain ⟨x0, x1⟩ := bx
    obtain ⟨y0, y1⟩ := by'
    have x9 : x ≤ 99 := by have h9 : x + 1 ≤ 100 := by simpa using x1
                           omega
    have y9 : y ≤ 99 := by have h9 : y + 1 ≤ 100 := by simpa using y1
                           omega
    have hs0 : (bs s)[0]'(by rw [bs_size]; omega) = d := by
      rw [← hh]
      show s[0] = _
      cases s with
      | nil => simp at hp5
      | cons c s => rfl
    have HV1 := Lib.hid hv1
    have HV2 := Lib.hid hv2
    simp at s1 s2
    clear hA hB hz0 hzr hx hy lx dx ly dy hv1 hv2 hxe hye hX hY hh x1 y1
    have h5 : (s.length : Int) = 5 := by omega
    have HDD : Hid (((d.toNat : Int) == 45) = decide (d = 45)) := by
      show _ = _
      by_cases h : d = 45
      · subst h; rfl
      · rw [decide_eq_false h, beq_eq_false_iff_ne]
        intro e
        exact h (UInt8.toNat_inj.1 (by rw [show (45 : UInt8).toNat = 45 from rfl]; omega))
    go_enter Tryd.func56, Tryd.ntmps56
    go_wp2_with fail
    refine (HL1.out _).mono ?_
    rintro e w1 ⟨rfl, hb1⟩
    rcases A with _ | _
    · obtain rfl : B = true := by
        rcases B with _ | _
        · exact absurd ⟨rfl, rfl⟩ hno
        · rfl
      go_wp2_with fail
      refine (HL2.out _).mono ?_
      rintro e w2 ⟨rfl, hb2⟩
      have hbb : Below w.heap.size w w2 := hb1.trans (hb2.mono hb1.size)
      clear hno hb1 hb2 HL1 HL2
      go_wp2
      refine wp_region_grow (by kernel_rfl) (by kernel_rfl) ?_
      repeat (go_big_quiet_step ((go_at_call 51; first | with_reducible exact grow_call (HV1.out _) | with_reducible exact grow_call (HV2.out _))))
      refine wpQuiet_nil ?_
      rintro _ ⟨gw, rfl⟩
      go_wp2
      all_goals
        go_ret2
        refine ⟨?_, hbb.trans (gw.h.mono hbb.size)⟩
        first | rfl | (exfalso; have h9 := HDD.out; simp_all)
    · have hbb : Below w.heap.size w w1 := hb1
      clear hno hb1 HL1 HL2
      go_wp2
      refine wp_region_grow (by kernel_rfl) (by kernel_rfl) ?_
      repeat (go_big_quiet_step ((go_at_call 51; first | with_reducible exact grow_call (HV1.out _) | with_reducible exact grow_call (HV2.out _))))
      refine wpQuiet_nil ?_
      rintro _ ⟨gw, rfl⟩
      go_wp2
      all_goals
        go_ret2
        refine ⟨?_, hbb.trans (gw.h.mono hbb.size)⟩
        first | rfl | (exfalso; have h9 := HDD.out; simp_all)

open Classical in
/-- what the reference makes of a date and a zone: the moment; the error's number -/
noncomputable def madeI (y m d h mi s z : Int) : Int × Int :=
  if ¬ Cal.right y m d h mi s then (0, 1)
  else if 0 ≤ Cal.mom y m d h mi s - z ∧ Cal.mom y m d h mi s - z ≤ 4102444799 then (Cal.mom y m d h mi s - z, 0)
  else (0, 1)
def pairV (p : Int × Int) : Value := .tuple #[.int .i64 p.1, .int .i64 p.2]

set_option maxRecDepth 100000 in
set_option maxHeartbeats 2000000 in
theorem made_any (y m d h mi s z : Int) (w : World) (hz : -86400 ≤ z ∧ z ≤ 86400) : Calls Tryd.prog 50 #[.agg #[.int .i64 y, .int .i64 m, .int .i64 d, .int .i64 h, .int .i64 mi, .int .i64 s, .int .i64 0], .int .i64 z] w fun e w' => e = .returned (pairV (madeI y m d h mi s z)) ∧ Below w.heap.size w w' := by
  obtain ⟨z0, z1⟩ := hz
  obtain ⟨W1, hW1⟩ : ∃ W1, w.alloc (.cells (civA y m d h mi s 0) 27) = W1 := ⟨_, rfl⟩
  have hk : W1.heap[w.heap.size]? = some (.cells (civA y m d h mi s 0) 27 (0, 0)) := by rw [← hW1]; exact heap_new _ _
  have hB : Below w.heap.size w W1 := by rw [← hW1]; exact (Below.refl _ _).alloc (Nat.le_refl _) _
  have hlt : w.heap.size < W1.heap.size := by rw [← hW1]; simp
  unfold civA at hW1
  have HW := Lib.hid hW1
  have HK := Lib.hid hk
  obtain ⟨c0, c1, c2, c3, c4, c5, c6, _⟩ := civA_cells hk
  clear hk hW1
  by_cases hr : Cal.right y m d h mi s
  · have hm := Cal.mom_bd hr
    have e : madeI y m d h mi s z = if 0 ≤ Cal.mom y m d h mi s - z ∧ Cal.mom y m d h mi s - z ≤ 4102444799 then (Cal.mom y m d h mi s - z, 0) else (0, 1) := by
      unfold madeI
      rw [if_neg (fun h => h hr)]
    rw [e]
    have HM := Lib.hid (fun w0 => refMoment_in y m d h mi s 0 w0 hr)
    have HR := Lib.hid hr
    obtain ⟨T, hT⟩ : ∃ T, Cal.mom y m d h mi s = T := ⟨_, rfl⟩
    rw [hT] at hm HM ⊢
    obtain ⟨m0, m1⟩ := hm
    clear e hT hr
    go_enter Tryd.func50, Tryd.ntmps50
    go_wp2_with fail
    rw [HW.out]
    refine (right_yes y m d h mi s 0 _ HR.out).mono ?_
    rintro e w1 ⟨rfl, hb1⟩
    have hbb := hB.trans (hb1.mono hB.size)
    obtain ⟨c0, c1, c2, c3, c4, c5, c6, _⟩ := civA_cells ((hb1.block _ hlt).trans HK.out)
    go_wp2_with fail
    refine (HM.out _).mono ?_
    rintro e w2 ⟨rfl, hb2⟩
    have hbc := hbb.trans (hb2.mono hbb.size)
    clear hb1 hb2 hbb
    go_wp2
    all_goals
      go_ret2
      exact ⟨rfl, hbc⟩
  · have e : madeI y m d h mi s z = (0, 1) := by
      unfold madeI
      rw [if_pos hr]
    rw [e]
    have HR := Lib.hid hr
    clear e hr
    go_enter Tryd.func50, Tryd.ntmps50
    go_wp2_with fail
    rw [HW.out]
    refine (right_no y m d h mi s 0 _ HR.out).mono ?_
    rintro e w1 ⟨rfl, hb1⟩
    go_wp2
    go_ret2
    exact ⟨rfl, hB.trans (hb1.mono hB.size)⟩

end Go.Proofs.YthkkdbpblajahaaDoor
