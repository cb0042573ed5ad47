/- mime.Quote: the walk. -/
import Derived.Test.YthnkgifbbemhfaaGreatDoorVH
import Derived.Lib.LaidTab
import Derived.Lib.AppendIntMem
import Derived.WalkSmall
set_option linter.unusedVariables false
set_option linter.unusedSimpArgs false
namespace Go.Proofs.YthnkgifbbemhfaaGreatDoor
open Go.RowKit Go Go.Sort

def TabQ (w : World) : Prop := Lib.TabIs Tryz.prog w "internal/strconv.uint64pow10" .u64 Lib.pow10Tab
theorem tabQNamed : Tryz.prog.globalNamed "internal/strconv.uint64pow10" = some 4 := by kernel_rfl
theorem TabQ.lt {w : World} (h : TabQ w) : 4 < w.heap.size := cell_lt (Lib.TabIs.cell h tabQNamed 0 (by decide))
theorem TabQ.below {w w' : World} (h : TabQ w) (hb : Below w.heap.size w w') : TabQ w' := var?_below hb tabQNamed h.lt h
theorem decq_length : ∀ (f u : Nat), u < 10 ^ f → 0 < f → (Lib.decDigits u).length ≤ f
  | 0, _, _, h => absurd h (by omega)
  | f + 1, u, h, _ => by
    rw [Lib.decDigits.eq_1]
    split
    · simp
    · rename_i h10
      have hf : 0 < f := by
        rcases Nat.eq_zero_or_pos f with rfl | h0
        · simp at h; omega
        · exact h0
      have := decq_length f (u / 10) (by rw [Nat.pow_succ] at h; omega) hf
      simp
      omega

theorem itoaQ_any (n : Nat) (w : World) (hn : n ≤ 9223372036854775807) (hT : TabQ w) : Calls Tryz.prog 26 #[.int .i64 n] w fun e w' => e = .returned (.string (bs (Lib.decDigits n))) ∧ Below w.heap.size w w' := by
  refine (Tryz.strconv_Itoa n (by omega) (by omega) w hT).mono ?_
  rintro e w' ⟨rfl, k, os, rfl⟩
  have e1 : Lib.itoa n = Lib.decDigits n := by
    unfold Lib.itoa
    rw [if_neg (by omega)]
    simp
  exact ⟨by rw [e1], Lib.below_grow _ _ (Nat.le_refl _) _ _⟩

set_option maxRecDepth 100000 in
set_option maxHeartbeats 2000000 in
theorem quote_any (s : List UInt8) (m : Int) (w : World) (hl : s.length ≤ 1000000000) (hm : w.cell? ⟨2, 0, none⟩ = some (.int .i64 m)) (hT : TabQ w) :
    Calls Tryz.prog 32 #[.string (bs s)] w fun e w' => e = .returned (.string (bs (qtL s))) ∧ Below w.heap.size w w' := by
  have hp := idx_print s
  obtain ⟨ix, hix⟩ : ∃ ix, Lib.idxFunc oddR true (bs s) = ix := ⟨_, rfl⟩
  rw [hix] at hp
  have HIX := Lib.hid hix
  have HM := Lib.hid hm
  have HT := Lib.hid hT
  have hlt := cell_lt hm
  clear hix hm hT
  cases ha : s.all printB with
  | false =>
    have e : qtL s = 123 :: (Lib.decDigits s.length ++ ([125, 13, 10] ++ s)) := by
      unfold qtL
      rw [ha]
      rfl
    rw [e]
    rw [ha] at hp
    have hge : 0 ≤ ix := of_decide_eq_true hp
    clear e ha hp
    have hdl := decq_length 10 s.length (by omega) (by omega)
    go_enter Tryz.func32, Tryz.ntmps32
    go_wp2_with fail
    refine (idxf_any s _).mono ?_
    rintro e w1 ⟨rfl, hb1⟩
    rw [HIX.out]
    go_wp2_with fail
    refine (itoaQ_any s.length _ (by omega) (TabQ.below HT.out hb1)).mono ?_
    rintro e w2 ⟨rfl, hb2⟩
    go_wp2
    go_ret
    exact ⟨by rw [show (⟨#[123]⟩ : ByteArray) = bs [123] from rfl, show (⟨#[125, 13, 10]⟩ : ByteArray) = bs [125, 13, 10] from rfl, bs_append, bs_append, bs_append]; simp, hb1.trans (hb2.mono hb1.size)⟩
  | true =>
    have e : qtL s = 34 :: (escL s ++ [34]) := by
      unfold qtL
      rw [if_pos ha]
    rw [e]
    rw [ha] at hp
    have hge : ¬ 0 ≤ ix := of_decide_eq_false hp
    have hr1 := repB_len 92 [92, 92] (by decide) s
    have he := escL_eq s
    obtain ⟨t, ht⟩ : ∃ t, repB 92 [92, 92] s = t := ⟨_, rfl⟩
    rw [ht] at hr1 he
    have HT2 := Lib.hid ht
    have HE := Lib.hid he
    clear e ha hp he ht
    have hel := escL_len s
    go_enter Tryz.func32, Tryz.ntmps32
    go_wp2_with fail
    refine (idxf_any s _).mono ?_
    rintro e w1 ⟨rfl, hb1⟩
    rw [HIX.out]
    go_wp2_with fail
    refine (repl_any 92 [92, 92] s m _ rfl (by omega) ((hb1.cell (p := ⟨2, 0, none⟩) hlt).trans HM.out)).mono ?_
    rintro e w2 ⟨rfl, hb2⟩
    rw [HT2.out]
    have hb12 := hb1.trans (hb2.mono hb1.size)
    go_wp2_with fail
    refine (repl_any 34 [92, 34] t m _ rfl (by omega) ((hb12.cell (p := ⟨2, 0, none⟩) hlt).trans HM.out)).mono ?_
    rintro e w3 ⟨rfl, hb3⟩
    rw [HE.out]
    go_wp2
    go_ret
    exact ⟨by rw [show (⟨#[34]⟩ : ByteArray) = bs [34] from rfl, bs_append, bs_append]; simp, hb12.trans (hb3.mono hb12.size)⟩

end Go.Proofs.YthnkgifbbemhfaaGreatDoor
