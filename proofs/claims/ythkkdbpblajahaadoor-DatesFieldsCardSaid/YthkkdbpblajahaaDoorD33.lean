/- The reference's like. -/
import Derived.Test.YthkkdbpblajahaaDoorD32
import Derived.Test.YthkkdbpblajahaaDoorDr
import Derived.LoopTactic
set_option linter.unusedVariables false
set_option linter.unusedSimpArgs false
namespace Go.Proofs.YthkkdbpblajahaaDoor
open Go.RowKit

theorem likeL_len : ∀ (s p : List UInt8), s.length ≠ p.length → likeL s p = false := by
  intro s
  induction s with
  | nil => intro p h; cases p with
    | nil => exact absurd rfl h
    | cons _ _ => rfl
  | cons c s ih => intro p h; cases p with
    | nil => rfl
    | cons d ps => simp only [likeL]; rw [ih ps (by simpa using h)]; simp

set_option maxRecDepth 100000 in
set_option maxHeartbeats 1000000 in
theorem like_any (s p : List UInt8) (w : World) (hs : s.length ≤ 1099511627776) : Calls Tryd.prog 48 #[.string (bs s), .string (bs p)] w fun e w' => e = .returned (.bool (likeL s p)) ∧ Below w.heap.size w w' := by
  obtain ⟨R, hR⟩ : ∃ R, likeL s p = R := ⟨_, rfl⟩
  rw [hR]
  by_cases hl : s.length = p.length
  · have HR := Lib.hid hR
    have hll : ¬ ((s.length : Int) = p.length) → False := fun h => h (by rw [hl])
    have hpl : (p.length : Int) = s.length := by rw [hl]
    clear hR hll
    go_enter Tryd.func48, Tryd.ntmps48
    go_wp2
    go_loopw [5] (fun c wr => ∃ k : Nat, k ≤ s.length ∧ c = .int .i64 k ∧ Hid (likeL (s.drop k) (p.drop k) = R) ∧ Below w.heap.size w wr) (fun c _ => s.length - (intOf c).toNat)
    case atStart => exact ⟨0, Nat.zero_le _, rfl, HR.out, Below.refl _ _⟩
    case round =>
      obtain ⟨k, hk, rfl, hr, hB⟩ := hrel
      by_cases hlt : k < s.length
      · have hlp : k < p.length := by omega
        obtain ⟨c, hc⟩ : ∃ c, (bs s)[k]'(by rw [bs_size]; exact hlt) = c := ⟨_, rfl⟩
        obtain ⟨d, hd⟩ : ∃ d, (bs p)[k]'(by rw [bs_size]; exact hlp) = d := ⟨_, rfl⟩
        have hstep : likeL (s.drop k) (p.drop k) = (likeB c d && likeL (s.drop (k + 1)) (p.drop (k + 1))) := by
          rw [List.drop_eq_getElem_cons hlt, List.drop_eq_getElem_cons hlp, show s[k] = c from hc, show p[k] = d from hd]; rfl
        have hr2 := hr.out
        rw [hstep] at hr2
        have hlt' : (k : Int) < s.length := by omega
        have hlp' : (k : Int) < p.length := by omega
        clear hstep hr
        have h256 := c.toNat_lt
        by_cases h48 : d = 48
        · subst h48
          by_cases hin : 48 ≤ c.toNat ∧ c.toNat ≤ 57
          · have hb : likeB c 48 = true := by unfold likeB; simp [hin]
            rw [hb, Bool.true_and] at hr2
            have HR2 := Lib.hid hr2
            have h1 : ¬ (c.toNat : Int) < 48 := by omega
            have h2 : ¬ 57 < (c.toNat : Int) := by omega
            have n1 : decide ((c.toNat : Int) < 48) = false := decide_eq_false h1
            have n2 : decide ((57 : Int) < (c.toNat : Int)) = false := decide_eq_false h2
            clear hr2 hin hb
            go_wp2
            refine wp_region_grow (by kernel_rfl) (by kernel_rfl) ?_
            repeat (go_big_quiet_step (fail))
            refine wpQuiet_nil ?_
            rintro _ ⟨gw, rfl⟩
            go_wp2
            go_roundw
            case rel => exact ⟨k + 1, by omega, by go_num, HR2.out, hB.trans (gw.h.mono hB.size)⟩
            case measure => simp [intOf]; omega
          · have hb : likeB c 48 = false := by unfold likeB; simp [hin]
            rw [hb, Bool.false_and] at hr2
            subst hr2
            have hcase : (c.toNat : Int) < 48 ∨ (48 : Int) ≤ c.toNat ∧ 57 < (c.toNat : Int) := by omega
            clear hin hb
            rcases hcase with h1 | ⟨h1, h2⟩
            all_goals
              try have n1 : decide ((c.toNat : Int) < 48) = true := decide_eq_true h1
              try have n1 : decide ((c.toNat : Int) < 48) = false := decide_eq_false (by omega)
              try have n2 : decide ((57 : Int) < (c.toNat : Int)) = true := decide_eq_true h2
              go_wp2
              refine wp_region_grow (by kernel_rfl) (by kernel_rfl) ?_
              repeat (go_big_quiet_step (fail))
              refine wpQuiet_nil ?_
              rintro _ ⟨gw, rfl⟩
              go_wp2
              go_ret
              exact ⟨rfl, hB.trans (gw.h.mono hB.size)⟩
        · have hne : ((d.toNat : Int) == 48) = false := by
            rw [beq_eq_false_iff_ne]; intro e; exact h48 (UInt8.toNat_inj.1 (by rw [show (48 : UInt8).toNat = 48 from rfl]; omega))
          have hne2 : ((d.toNat : Int) != 48) = true := by simp [bne, hne]
          by_cases hcd : c = d
          · subst hcd
            have hb : likeB c c = true := by unfold likeB; simp [h48]
            rw [hb, Bool.true_and] at hr2
            have HR2 := Lib.hid hr2
            clear hr2 hb h48
            go_wp2
            refine wp_region_grow (by kernel_rfl) (by kernel_rfl) ?_
            repeat (go_big_quiet_step (fail))
            refine wpQuiet_nil ?_
            rintro _ ⟨gw, rfl⟩
            go_wp2
            go_roundw
            case rel => exact ⟨k + 1, by omega, by go_num, HR2.out, hB.trans (gw.h.mono hB.size)⟩
            case measure => simp [intOf]; omega
          · have hb : likeB c d = false := by unfold likeB; simp [h48, hcd]
            rw [hb, Bool.false_and] at hr2
            subst hr2
            have hcd2 : ((c.toNat : Int) == d.toNat) = false := by
              rw [beq_eq_false_iff_ne]; intro e; exact hcd (UInt8.toNat_inj.1 (by omega))
            have hcd3 : ((c.toNat : Int) != d.toNat) = true := by simp [bne, hcd2]
            clear hb h48 hcd
            go_wp2
            refine wp_region_grow (by kernel_rfl) (by kernel_rfl) ?_
            repeat (go_big_quiet_step (fail))
            refine wpQuiet_nil ?_
            rintro _ ⟨gw, rfl⟩
            go_wp2
            go_ret
            exact ⟨rfl, hB.trans (gw.h.mono hB.size)⟩
      · obtain rfl : k = s.length := by omega
        have hr2 := hr.out
        rw [List.drop_length, hl, List.drop_length] at hr2
        have hr3 : R = true := by rw [← hr2]; rfl
        subst hr3
        go_wp2
        go_ret
        exact ⟨rfl, hB⟩
  · have hR2 : R = false := by rw [← hR]; exact likeL_len s p hl
    subst hR2
    have hl' : ((s.length : Int) == p.length) = false := by
      rw [beq_eq_false_iff_ne]; omega
    have hl2 : ¬ (s.length : Int) = p.length := by omega
    clear hR
    go_enter Tryd.func48, Tryd.ntmps48
    go_wp2
    go_ret
    exact ⟨rfl, Below.refl _ _⟩

end Go.Proofs.YthkkdbpblajahaaDoor
