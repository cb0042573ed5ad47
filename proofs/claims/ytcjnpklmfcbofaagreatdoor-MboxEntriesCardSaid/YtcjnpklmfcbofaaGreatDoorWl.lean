/- Texts of one walk, merged: XDh XQ7 XAp XQ8 XMK XMN XMO XMP XMQ XSf. -/
import Derived.Test.YtcjnpklmfcbofaaGreatDoorWk
import Derived.LoopTactic
import Derived.Lib.LaidU8
import Derived.Lib.LaidTab

/- The reference's Box, over its digits by hand. -/
set_option linter.unusedVariables false
set_option linter.unusedSimpArgs false
section
set_option linter.unusedVariables false
set_option linter.unusedSimpArgs false
namespace Go.Proofs.YtcjnpklmfcbofaaGreatDoor
open Go.RowKit Go

theorem rep2 : ∀ n : Nat, n < 100 → List.replicate (2 - (Lib.decDigits n).length) 48 ++ Lib.decDigits n = twoL (n : Int) [48] := by decide +kernel
theorem rep2s : ∀ n : Nat, n < 100 → List.replicate (2 - (Lib.decDigits n).length) 32 ++ Lib.decDigits n = twoL (n : Int) [32] := by decide +kernel
theorem rep4 : ∀ n : Nat, n < 130 → List.replicate (4 - (Lib.decDigits (1970 + n)).length) 48 ++ Lib.decDigits (1970 + n) = Lib.decDigits (1970 + n) := by decide +kernel
theorem digits_two (n : Int) (w : World) (h0 : 0 ≤ n) (h1 : n < 100) : Calls Tryz.prog 44 #[.int .i64 n, .int .i64 2, .int .u8 48] w fun e w' => e = .returned (.string (bs (twoL n [48]))) ∧ Below w.heap.size w w' := by
  obtain ⟨k, rfl⟩ : ∃ k : Nat, n = k := ⟨n.toNat, by omega⟩
  rw [← rep2 k (by omega)]
  exact refDigits_any k 2 48 w (by omega) (by omega)
theorem digits_twos (n : Int) (w : World) (h0 : 0 ≤ n) (h1 : n < 100) : Calls Tryz.prog 44 #[.int .i64 n, .int .i64 2, .int .u8 32] w fun e w' => e = .returned (.string (bs (twoL n [32]))) ∧ Below w.heap.size w w' := by
  obtain ⟨k, rfl⟩ : ∃ k : Nat, n = k := ⟨n.toNat, by omega⟩
  rw [← rep2s k (by omega)]
  exact refDigits_any k 2 32 w (by omega) (by omega)
theorem digits_year (y : Int) (w : World) (h0 : 1970 ≤ y) (h1 : y ≤ 2099) : Calls Tryz.prog 44 #[.int .i64 y, .int .i64 4, .int .u8 48] w fun e w' => e = .returned (.string (bs (Lib.decDigits y.toNat))) ∧ Below w.heap.size w w' := by
  obtain ⟨k, rfl⟩ : ∃ k : Nat, y = ((1970 + k : Nat) : Int) := ⟨(y - 1970).toNat, by omega⟩
  have h := refDigits_any (1970 + k) 4 48 w (by omega) (by omega)
  rw [rep4 k (by omega)] at h
  exact h

theorem refWeek_any (y m d h mi s wk : Int) (w : World) (h0 : 0 ≤ wk) (h1 : wk ≤ 6) : Calls Tryz.prog 42 #[.agg #[.int .i64 y, .int .i64 m, .int .i64 d, .int .i64 h, .int .i64 mi, .int .i64 s, .int .i64 wk]] w fun e w' => e = .returned (.string (bs (weekL wk))) ∧ Below w.heap.size w w' := by
  obtain ⟨k, rfl⟩ : ∃ k : Nat, wk = k := ⟨wk.toNat, by omega⟩
  rcases (by omega : k = 0 ∨ k = 1 ∨ k = 2 ∨ k = 3 ∨ k = 4 ∨ k = 5 ∨ k = 6) with rfl | rfl | rfl | rfl | rfl | rfl | rfl
  all_goals
    go_enter Tryz.func42, Tryz.ntmps42
    go_wp2
    go_ret
    exact ⟨rfl, (Below.refl _ _).alloc (Nat.le_refl _) _⟩

theorem refMonth_any (m : Int) (w : World) (h0 : 1 ≤ m) (h1 : m ≤ 12) : Calls Tryz.prog 43 #[.int .i64 m] w fun e w' => e = .returned (.string (bs (monthL m))) ∧ w' = w := by
  rcases (by omega : m = 1 ∨ m = 2 ∨ m = 3 ∨ m = 4 ∨ m = 5 ∨ m = 6 ∨ m = 7 ∨ m = 8 ∨ m = 9 ∨ m = 10 ∨ m = 11 ∨ m = 12) with rfl | rfl | rfl | rfl | rfl | rfl | rfl | rfl | rfl | rfl | rfl | rfl
  all_goals
    go_enter Tryz.func43, Tryz.ntmps43
    go_wp2
    go_ret
    exact ⟨rfl, rfl⟩

set_option maxRecDepth 100000 in
set_option maxHeartbeats 2000000 in
theorem refClock_any (y m d h mi s wk : Int) (w : World) (h0 : 0 ≤ h) (h1 : h ≤ 23) (i0 : 0 ≤ mi) (i1 : mi ≤ 59) (s0 : 0 ≤ s) (s1 : s ≤ 59) : Calls Tryz.prog 45 #[.agg #[.int .i64 y, .int .i64 m, .int .i64 d, .int .i64 h, .int .i64 mi, .int .i64 s, .int .i64 wk]] w fun e w' => e = .returned (.string (bs (clockL h mi s))) ∧ Below w.heap.size w w' := by
  have l1 := twoL_len h [48] h0 (by omega) (by decide)
  have l2 := twoL_len mi [48] i0 (by omega) (by decide)
  have l3 := twoL_len s [48] s0 (by omega) (by decide)
  obtain ⟨W1, hW1⟩ : ∃ W1, w.alloc (.cells (civA y m d h mi s wk) 64) = W1 := ⟨_, rfl⟩
  have hk : W1.heap[w.heap.size]? = some (.cells (civA y m d h mi s wk) 64 (0, 0)) := by rw [← hW1]; exact heap_new _ _
  have hB : Below w.heap.size w W1 := by rw [← hW1]; exact (Below.refl _ _).alloc (Nat.le_refl _) _
  obtain ⟨c0, c1, c2, c3, c4, c5, c6, _⟩ := civA_cells hk
  have g3 := fun g : Grow W1 => g.cell c3
  have g4 := fun g : Grow W1 => g.cell c4
  have g5 := fun g : Grow W1 => g.cell c5
  unfold civA at hW1
  have HW := Lib.hid hW1
  clear hk c0 c1 c2 c3 c4 c5 c6 hW1
  go_enter Tryz.func45, Tryz.ntmps45
  go_wp2
  rw [HW.out]
  refine wp_region_grow (by kernel_rfl) (by kernel_rfl) ?_
  repeat (go_big_quiet_step ((go_at_call 44; exact grow_call (digits_two _ _ (by omega) (by omega)))))
  refine wpQuiet_nil ?_
  rintro _ ⟨gw, rfl⟩
  go_wp2
  go_ret
  exact ⟨ret_str (by unfold clockL; simp only [← bs_append]), hB.trans (gw.h.mono hB.size)⟩

/-- how the reference's text of a moment in range comes back -/
def boxRef (t : Int) (w : World) (e : Ending) (w' : World) : Prop := ∃ y m d h mi s wk, Cal.civ7 t y m d h mi s wk ∧ e = .returned (.string (bs (boxL y m d h mi s wk))) ∧ Below w.heap.size w w'

set_option maxRecDepth 100000 in
set_option maxHeartbeats 4000000 in
theorem box_ref (t : Int) (w : World) (t0 : 0 ≤ t) (t1 : t ≤ 4102444799) : Calls Tryz.prog 18 #[.int .i64 t] w (boxRef t w) := by
  go_enter Tryz.func18, Tryz.ntmps18
  go_wp2_with fail
  refine (refCivil_in t _ t0 t1).mono ?_
  rintro e w1 ⟨y, m, d, h, mi, s, wk, hcv, rfl, hb1⟩
  obtain ⟨y0, y1, m0, m1, d0, d1, h0, h1, i0, i1, s0, s1, k0, k1⟩ := Cal.civ7_bd t0 hcv
  have l1 := weekL_len wk
  have l2 := twoL_len d [32] (by omega) (by omega) (by decide)
  have l6 := dec_len d.toNat (by omega)
  have l3 := monthL_len m
  have l4 := yearL_len y y0 y1
  have l5 := clockL_len h mi s h0 h1 i0 i1 s0 s1
  have hz1 := hb1.size
  obtain ⟨W1, hW1⟩ : ∃ W1, w1.alloc (.cells (civA y m d h mi s wk) 64) = W1 := ⟨_, rfl⟩
  have hk : W1.heap[w1.heap.size]? = some (.cells (civA y m d h mi s wk) 64 (0, 0)) := by rw [← hW1]; exact heap_new _ _
  have hB : Below w.heap.size w W1 := by rw [← hW1]; exact hb1.alloc hz1 _
  obtain ⟨c0, c1, c2, c3, c4, c5, c6, _⟩ := civA_cells hk
  have g0 := fun g : Grow W1 => g.cell c0
  have g1 := fun g : Grow W1 => g.cell c1
  have g2 := fun g : Grow W1 => g.cell c2
  have g3 := fun g : Grow W1 => g.cell c3
  have g4 := fun g : Grow W1 => g.cell c4
  have g5 := fun g : Grow W1 => g.cell c5
  have g6 := fun g : Grow W1 => g.cell c6
  unfold civA at hW1
  have HW := Lib.hid hW1
  have Hcv := Lib.hid hcv
  clear hk c0 c1 c2 c3 c4 c5 c6 hW1 hcv hb1
  go_wp2
  rw [HW.out]
  refine wp_region_grow (by kernel_rfl) (by kernel_rfl) ?_
  repeat (go_big_quiet_step ((first | (go_at_call 42; exact grow_call (refWeek_any _ _ _ _ _ _ _ _ k0 k1)) | (go_at_call 43; exact grow_same (refMonth_any _ _ m0 m1)) | (go_at_call 45; exact grow_call (refClock_any _ _ _ _ _ _ _ _ h0 h1 i0 i1 s0 s1)) | (go_at_call 44; first | with_reducible exact grow_call (digits_year _ _ y0 y1) | with_reducible exact grow_call (digits_twos _ _ (by omega) (by omega))))))
  refine wpQuiet_nil ?_
  rintro _ ⟨gw, rfl⟩
  go_wp2
  go_ret
  exact ⟨y, m, d, h, mi, s, wk, Hcv.out, ret_str (by unfold boxL; simp only [← bs_append]), hB.trans (gw.h.mono hB.size)⟩

end Go.Proofs.YtcjnpklmfcbofaaGreatDoor
end

/- The reference's Marks, begins. -/
set_option linter.unusedVariables false
set_option linter.unusedSimpArgs false
section
namespace Go.Proofs.YtcjnpklmfcbofaaGreatDoor
open Go.RowKit

theorem looks_take (r : List UInt8) : looks r = decide ((unmark r).take 5 = fromL) := by
  unfold looks
  rw [Bool.eq_iff_iff, decide_eq_true_eq, List.isPrefixOf_iff_prefix, List.prefix_iff_eq_take]
  exact ⟨fun h => h.symm, fun h => h.symm⟩

set_option maxRecDepth 100000 in
set_option maxHeartbeats 1000000 in
theorem marks_any (s : List UInt8) (at' : Nat) (w : World) (ha : at' ≤ s.length) (hs : s.length ≤ 1000000000) : Calls Tryz.prog 25 #[.string (bs s), .int .i64 at'] w fun e w' => e = .returned (.int .i64 (marksL (s.drop at'))) ∧ w = w' := by
  obtain ⟨r, hr⟩ : ∃ r, s.drop at' = r := ⟨_, rfl⟩
  have hrl : r.length = s.length - at' := by rw [← hr]; simp
  have hul := unmark_length r
  obtain ⟨M, hM⟩ : ∃ M, marksL r = M := ⟨_, rfl⟩
  rw [hr, hM]
  have HR := Lib.hid hr
  have HL := Lib.hid hrl
  unfold marksL at hM
  have HM := Lib.hid hM
  clear hr hM hrl
  go_enter Tryz.func25, Tryz.ntmps25
  go_wp2
  go_loop [5] (fun n => ∃ k : Nat, k + at' ≤ s.length ∧ n = .int .i64 k ∧ Hid (unmark r = unmark (r.drop k))) (fun n => s.length - at' - (intOf n).toNat)
  case atStart => exact ⟨0, by omega, rfl, by show _ = _; simp⟩
  case round =>
    obtain ⟨k, hk, rfl, hu⟩ := hrel
    have hrest : r.drop k = s.drop (at' + k) := by rw [← HR.out, List.drop_drop]
    have HE := Lib.hid hrest
    clear hrest
    have fin : ∀ (x : List UInt8), unmark r = r.drop k → x = (s.drop (at' + k)).take 5 → M = if x = fromL then (k : Int) else -1 := by
      intro x h1 h2
      rw [← HM.out, looks_take, h1, HE.out, h2]
      have : (r.length - (s.drop (at' + k)).length : Nat) = k := by rw [HL.out]; simp; omega
      rw [this]
      simp
    have FIN := Lib.hid fin
    clear fin
    have stop : ∀ (hno : headM (r.drop k) = false), unmark r = r.drop k := fun h => by rw [hu.out, unmark_no _ h]
    by_cases hlt : at' + k < s.length
    · obtain ⟨c, hc⟩ : ∃ c, (bs s)[at' + k]'(by rw [bs_size]; exact hlt) = c := ⟨_, rfl⟩
      have hcc : r.drop k = c :: r.drop (k + 1) := by
        rw [HE.out, List.drop_eq_getElem_cons hlt, ← HR.out, List.drop_drop, ← Nat.add_assoc]
        rw [← hc]; rfl
      have HC := Lib.hid hcc
      clear hcc
      by_cases h62 : c = 62
      · subst h62
        clear stop
        go_wp2
        go_round
        case rel => exact ⟨k + 1, by omega, by go_num, by show _ = _; rw [hu.out, HC.out, unmark_mark]⟩
        case measure => simp [intOf]; omega
      · have hst := stop (by rw [HC.out]; unfold headM; simpa using h62)
        have hne : ((c.toNat : Int) == 62) = false := by
          simp
          intro e
          exact h62 (UInt8.toNat_inj.1 (by rw [show (62 : UInt8).toNat = 62 from rfl]; omega))
        have HST := Lib.hid hst
        clear hst stop h62
        by_cases h5 : s.length - at' - k < 5
        · have hM1 := FIN.out _ HST.out rfl
          rw [if_neg (by intro e; have := congrArg List.length e; simp [fromL] at this; omega)] at hM1
          have HM1 := Lib.hid hM1
          clear hM1
          go_wp2
          go_ret
          exact ⟨by rw [HM1.out]; rfl, rfl⟩
        · have hm := run_mid s (at' + k) (at' + k + 5) (by omega) (by omega)
          rw [show at' + k + 5 - (at' + k) = 5 by omega, show ((at' + k + 5 : Nat) : Int) = (at' : Int) + k + 5 by simp, show ((at' + k : Nat) : Int) = (at' : Int) + k by simp] at hm
          obtain ⟨x, hx⟩ : ∃ x, (s.drop (at' + k)).take 5 = x := ⟨_, rfl⟩
          have hM1 := FIN.out x HST.out hx.symm
          rw [hx] at hm
          clear hx
          by_cases hf : x = fromL
          · rw [if_pos hf] at hM1
            have HM1 := Lib.hid hM1
            unfold fromL at hf
            subst hf
            clear hM1
            go_wp2
            go_ret
            exact ⟨by rw [HM1.out]; rfl, rfl⟩
          · rw [if_neg hf] at hM1
            have HM1 := Lib.hid hM1
            unfold fromL at hf
            have hxf : (!x == [70, 114, 111, 109, 32]) = true := by simp [hf]
            have h5d : decide ((s.length : Int) - at' - k < 5) = false := by simp; omega
            clear hM1
            go_wp2
            go_ret
            exact ⟨by rw [HM1.out]; rfl, rfl⟩
    · obtain hk : at' + k = s.length := by omega
      have hst := stop (by rw [HE.out, hk, List.drop_length]; rfl)
      have hM1 := FIN.out _ hst rfl
      rw [if_neg (by intro e; have := congrArg List.length e; simp [fromL] at this; omega)] at hM1
      have HM1 := Lib.hid hM1
      have h5 : (s.length : Int) - at' - k < 5 := by omega
      have hge : (s.length : Int) ≤ at' + k := by omega
      clear hM1 hst stop hk
      go_wp2
      go_ret
      exact ⟨by rw [HM1.out]; rfl, rfl⟩

theorem begins_any (s : List UInt8) (i : Nat) (w : World) (hi : i < s.length) (hs : s.length ≤ 1000000000) : Calls Tryz.prog 24 #[.string (bs s), .int .i64 i] w fun e w' => e = .returned (.bool (decide (i = 0 ∨ s[i - 1]? = some 10))) ∧ w = w' := by
  by_cases h0 : i = 0
  · subst h0
    go_enter Tryz.func24, Tryz.ntmps24
    go_wp2
    go_ret
    exact ⟨by simp, rfl⟩
  · obtain ⟨c, hc⟩ : ∃ c, (bs s)[i - 1]'(by rw [bs_size]; omega) = c := ⟨_, rfl⟩
    have hc2 : s[i - 1]? = some c := List.getElem?_eq_some_iff.2 ⟨by omega, hc⟩
    have HC := Lib.hid hc2
    have e1 : (i : Int) - 1 = ((i - 1 : Nat) : Int) := by omega
    have h1 : 1 ≤ i := by omega
    have hz : ((i : Int) == 0) = false := by simp; omega
    clear hc2
    go_enter Tryz.func24, Tryz.ntmps24
    go_wp2
    go_ret
    refine ⟨?_, rfl⟩
    rw [HC.out]
    have : ((c.toNat : Int) == 10) = decide (i = 0 ∨ some c = some 10) := by
      rw [Bool.eq_iff_iff]
      simp [h0]
      constructor
      · intro e; exact UInt8.toNat_inj.1 (by rw [show (10 : UInt8).toNat = 10 from rfl]; omega)
      · rintro rfl; rfl
    rw [← this]
    rfl

end Go.Proofs.YtcjnpklmfcbofaaGreatDoor
end

/- Appending one byte to a slice that the call itself made. -/
set_option linter.unusedVariables false
set_option linter.unusedSimpArgs false
section
namespace Go.Proofs.YtcjnpklmfcbofaaGreatDoor
open Go.RowKit

/-- w' is w but for the row of v and new blocks -/
structure AppTo (B : Nat) (v : Value) (w w' : World) : Prop where
  below : ∀ m₀ u, m₀ ≤ B → Below m₀ u w → Below m₀ u w'
  block : ∀ k, k < w.heap.size → some k ≠ v.ownBlock → w'.heap[k]? = w.heap[k]?
  size : w.heap.size ≤ w'.heap.size

theorem AppTo.mk' {B : Nat} {v : Value} {w w' : World} {e : TypeId} {size n : Nat} {xs : List Value} {o : Obj} (hown : w.ownsRow B e size v n xs) (hB : B ≤ w.heap.size) (hg : (w.alloc o).grownBy w' v.ownBlock) : AppTo B v w w' where
  below m₀ u hm hb := (hb.alloc (Nat.le_trans hm hB) o).grown hg (by simp; omega) (fun k e => Nat.le_trans hm (World.ownsRow.lt hown k e).1)
  block k hk hne := (hg.block k (by simp; omega) hne).trans (Below.heap_alloc _ _ _ hk)
  size := by have := hg.size; simp at this; omega

theorem app_byte {ops : Array Oper} {rest : List Oper} {o : Oper} {a : Act} {Q : Exit → Act → World → Prop} (w : World) (B : Nat) (v : Value) (l : List UInt8) (c : UInt8) (n : Int) (hn : (c.toNat : Int) = n) (hown : OwnB w B v l) (hB : B ≤ w.heap.size) (hl : l.length < 1099511627776)
    (hgd : o.guard = none) (s x : Operand) (ho : o.op = .call { callee := .builtin .append, args := #[s, x], argTypes := #[54, 54] }) (hs : a.eval s = v) (hx : a.eval x = .slice (some ⟨w.heap.size, 0, none⟩) 1 1)
    (h : ∀ v' w', OwnB w' B v' (l ++ [c]) → AppTo B v w w' → wpList Tryz.prog ops Q rest (a.put o.dst v') w') :
    wpList Tryz.prog ops Q (o :: rest) a (w.alloc (.cells #[.int .u8 n] 5)) := by
  subst hn
  obtain ⟨i0, hi, hz0, hz1, hz2⟩ := info_parts info_u8
  refine wpList_append_own _ hgd s x 54 ho B 5 i0 (.int .u8 0) 1 1 Tryz.underlying54 hi hz0 hz1 hz2 rfl (by decide) v l.length (cellsB l) hs (World.ownsRow.alloc hown _) ⟨w.heap.size, 0, none⟩ 1 1 [.int .u8 c.toNat] hx rfl ?_ ?_ ?_ ?_ ?_ ?_
  · intro j u hj
    match j, hj with
    | 0, hj => simp at hj; subst hj; simp [Addr.add]
  · intro u hu; simp at hu; subst hu; rfl
  · unfold maxLen; omega
  · omega
  · simp; omega
  · intro v' w' h1 h2 _
    exact h v' w' (OwnB.step h1) (AppTo.mk' hown hB h2)

end Go.Proofs.YtcjnpklmfcbofaaGreatDoor
end

/- The reference's Encode. -/
set_option linter.unusedVariables false
set_option linter.unusedSimpArgs false
section
namespace Go.Proofs.YtcjnpklmfcbofaaGreatDoor
open Go.RowKit

def bg (s : List UInt8) (k : Nat) : Bool := decide (k = 0 ∨ s[k - 1]? = some 10)

theorem encR_at {s : List UInt8} {k : Nat} {c : UInt8} (hk : k < s.length) (hc : s[k] = c) : encR (bg s k) (s.drop k) = (if bg s k && looks (s.drop k) then [62] else []) ++ c :: encR (bg s (k + 1)) (s.drop (k + 1)) := by
  have e : s.drop k = c :: s.drop (k + 1) := by rw [List.drop_eq_getElem_cons hk, hc]
  have hb : bg s (k + 1) = (c == 10) := by
    unfold bg
    rw [Nat.add_sub_cancel, List.getElem?_eq_getElem hk, hc, Bool.eq_iff_iff]
    simp
  rw [hb]
  conv => lhs; rw [e, encR_cons, ← e]

set_option maxRecDepth 100000 in
set_option maxHeartbeats 2000000 in
theorem refEncode_any (s : List UInt8) (w : World) (hs : s.length ≤ 100000000) : Calls Tryz.prog 11 #[.string (bs s)] w fun e w' => e = .returned (.string (bs (encodeL s))) ∧ Below w.heap.size w w' := by
  obtain ⟨E, hE⟩ : ∃ E, encR true s = E := ⟨_, rfl⟩
  have hE2 : encodeL s = E ++ [10] := by unfold encodeL; rw [← encR_eq, hE]
  rw [hE2]
  have HE := Lib.hid hE
  clear hE hE2
  go_enter Tryz.func11, Tryz.ntmps11
  go_wp2
  go_loopw [3, 4] (fun out i wr => ∃ (k : Nat) (acc : List UInt8), k ≤ s.length ∧ i = .int .i64 k ∧ OwnB wr w.heap.size out acc ∧ Hid (acc ++ encR (bg s k) (s.drop k) = E) ∧ acc.length ≤ 2 * k ∧ Below w.heap.size w wr) (fun _ i _ => s.length - (intOf i).toNat)
  case atStart => exact ⟨0, [], Nat.zero_le _, rfl, World.ownsRow_lit w #[] 0 (Nat.le_refl _) (by decide) rfl, by show _ = _; simpa [bg] using HE.out, by simp, (Below.refl _ _).alloc (Nat.le_refl _) _⟩
  case round =>
    obtain ⟨k, acc, hk, rfl, hown, hacc, hal, hB⟩ := hrel
    have hzr := hB.size
    by_cases hlt : k < s.length
    · obtain ⟨c, hc⟩ : ∃ c, (bs s)[k]'(by rw [bs_size]; exact hlt) = c := ⟨_, rfl⟩
      have hst := encR_at hlt hc
      have hms := marks_some (s.drop k)
      obtain ⟨b, hb⟩ : ∃ b, bg s k = b := ⟨_, rfl⟩
      obtain ⟨L, hL⟩ : ∃ L, looks (s.drop k) = L := ⟨_, rfl⟩
      obtain ⟨M, hM⟩ : ∃ M, marksL (s.drop k) = M := ⟨_, rfl⟩
      have hacc' := hacc.out
      rw [hst, hb, hL] at hacc'
      rw [hL, hM] at hms
      have HA := Lib.hid hacc'
      have HB := Lib.hid hb
      have HM := Lib.hid hM
      clear hst hacc' hacc hb hL hM
      go_wp2_with fail
      refine (begins_any s k _ hlt (by omega)).mono ?_
      rintro e w' ⟨rfl, rfl⟩
      rw [show decide (k = 0 ∨ s[k - 1]? = some 10) = b from HB.out]
      cases b
      · go_wp2_with (at_builtin; refine app_byte _ w.heap.size _ _ c _ rfl hown hzr (by omega) rfl _ _ rfl rfl rfl ?_; intro v' w2 own2 ap2)
        go_roundw
        case rel => exact ⟨k + 1, acc ++ [c], by omega, by go_num, own2, by show _ = _; rw [← HA.out]; simp, by simp; omega, ap2.below _ _ (Nat.le_refl _) hB⟩
        case measure => simp [intOf]; omega
      · go_wp2_with fail
        refine (marks_any s k _ (by omega) (by omega)).mono ?_
        rintro e w' ⟨rfl, rfl⟩
        rw [HM.out]
        cases L
        · have hneg : decide (0 ≤ M) = false := by simp at hms; simp; omega
          clear hms
          go_wp2_with (at_builtin; refine app_byte _ w.heap.size _ _ c _ rfl hown hzr (by omega) rfl _ _ rfl rfl rfl ?_; intro v' w2 own2 ap2)
          go_roundw
          case rel => exact ⟨k + 1, acc ++ [c], by omega, by go_num, own2, by show _ = _; rw [← HA.out]; simp, by simp; omega, ap2.below _ _ (Nat.le_refl _) hB⟩
          case measure => simp [intOf]; omega
        · have hpos : decide (0 ≤ M) = true := by simp at hms; simpa using hms
          clear hms
          go_wp2_with (first | (at_builtin; refine app_byte _ w.heap.size _ _ 62 _ rfl hown hzr (by omega) rfl _ _ rfl rfl rfl ?_; intro v' w2 own2 ap2; have hz2 := Nat.le_trans hzr ap2.size; have hl2 : (acc ++ [62]).length ≤ 2 * k + 1 := by simp; omega) | (at_builtin; refine app_byte _ w.heap.size _ _ c _ rfl own2 hz2 (by omega) rfl _ _ rfl rfl rfl ?_; intro v3 w3 own3 ap3))
          go_roundw
          case rel => exact ⟨k + 1, (acc ++ [62]) ++ [c], by omega, by go_num, own3, by show _ = _; rw [← HA.out]; simp, by simp; omega, ap3.below _ _ (Nat.le_refl _) (ap2.below _ _ (Nat.le_refl _) hB)⟩
          case measure => simp [intOf]; omega
    · obtain rfl : k = s.length := by omega
      have hE3 : acc = E := by have := hacc.out; rw [List.drop_length] at this; simpa [encR] using this
      subst hE3
      go_wp2_with (at_builtin; refine app_byte _ w.heap.size _ _ 10 _ rfl hown hzr (by omega) rfl _ _ rfl rfl rfl ?_; intro v' w2 own2 ap2; have hcv := convert_bytes own2.bytes)
      go_ret
      exact ⟨rfl, ap2.below _ _ (Nat.le_refl _) hB⟩

end Go.Proofs.YtcjnpklmfcbofaaGreatDoor
end

/- The document's Sender, Entry, Separator. -/
set_option linter.unusedVariables false
set_option linter.unusedSimpArgs false
section
namespace Go.Proofs.YtcjnpklmfcbofaaGreatDoor
open Go.RowKit Go

set_option maxRecDepth 100000 in
set_option maxHeartbeats 1000000 in
theorem refSender_any (s : List UInt8) (w : World) (hl : s.length ≤ 1099511627776) : Calls Tryz.prog 7 #[.string (bs s)] w fun e w' => e = .returned (.bool (senderOk s)) ∧ w = w' := by
  obtain ⟨A, hA⟩ : ∃ A, senderOk s = A := ⟨_, rfl⟩
  rw [hA]
  have HA := Lib.hid hA
  clear hA
  go_enter Tryz.func7, Tryz.ntmps7
  go_wp2
  go_loop [3] (fun i => ∃ k : Nat, k ≤ s.length ∧ i = .int .i64 k ∧ Hid (((s.drop k).all (fun c => !offC c) && decide (1 ≤ s.length ∧ s.length ≤ 200)) = A)) (fun i => s.length - (intOf i).toNat)
  case atStart => exact ⟨0, Nat.zero_le _, rfl, HA.out⟩
  case round =>
    obtain ⟨k, hk, rfl, hok⟩ := hrel
    by_cases hlt : k < s.length
    · have hlt' : (k : Int) < s.length := by omega
      obtain ⟨c, hc⟩ : ∃ c, (bs s)[k]'(by rw [bs_size]; exact hlt) = c := ⟨_, rfl⟩
      have hc2 : s[k] = c := hc
      have hr2 := hok.out
      rw [show s.drop k = c :: s.drop (k + 1) by rw [List.drop_eq_getElem_cons hlt, hc2], List.all_cons] at hr2
      have HR := Lib.hid hr2
      clear hr2 hok hc2
      have fin : ∀ b, offC c = b → (b = true → A = false) ∧ (b = false → Hid (((s.drop (k + 1)).all (fun c => !offC c) && decide (1 ≤ s.length ∧ s.length ≤ 200)) = A)) := by
        intro b hb
        have := HR.out
        rw [hb] at this
        refine ⟨fun h => ?_, fun h => ?_⟩
        · rw [h] at this; simpa using this.symm
        · rw [h] at this; show _ = _; simpa using this
      rcases h1 : decide ((c.toNat : Int) < 33) with _ | _
      · rcases h2 : decide (126 < (c.toNat : Int)) with _ | _
        · have hgo := (fin false (by unfold offC; rw [h1, h2]; rfl)).2 rfl
          clear fin HR
          go_wp2
          go_round
          case rel => exact ⟨k + 1, by omega, by go_num, hgo.out⟩
          case measure => simp [intOf]; omega
        · have hA := (fin true (by unfold offC; rw [h1, h2]; rfl)).1 rfl
          subst hA
          clear fin HR
          go_wp2
          go_ret
          exact ⟨rfl, rfl⟩
      · have hA := (fin true (by unfold offC; rw [h1]; rfl)).1 rfl
        subst hA
        clear fin HR
        go_wp2
        go_ret
        exact ⟨rfl, rfl⟩
    · obtain rfl : k = s.length := by omega
      have hr2 := hok.out
      rw [List.drop_length] at hr2
      have hr3 : decide (1 ≤ s.length ∧ s.length ≤ 200) = A := by rw [← hr2]; simp
      clear hok hr2
      by_cases q1 : 1 ≤ s.length
      · have q1' : (0 : Int) < s.length := by omega
        by_cases q2 : s.length ≤ 200
        · have q2' : (s.length : Int) ≤ 200 := by omega
          have hA : A = true := by rw [← hr3, decide_eq_true ⟨q1, q2⟩]
          subst hA
          clear hr3
          go_wp2
          go_ret
          exact ⟨rfl, rfl⟩
        · have q2' : ¬ (s.length : Int) ≤ 200 := by omega
          have hA : A = false := by rw [← hr3, decide_eq_false (fun h => q2 h.2)]
          subst hA
          clear hr3
          go_wp2
          go_ret
          exact ⟨rfl, rfl⟩
      · have q1' : ¬ (0 : Int) < s.length := by omega
        have hA : A = false := by rw [← hr3, decide_eq_false (fun h => q1 h.1)]
        subst hA
        clear hr3
        go_wp2
        go_ret
        exact ⟨rfl, rfl⟩

set_option maxRecDepth 100000 in
set_option maxHeartbeats 1000000 in
theorem refEntry_any (sender message : List UInt8) (t : Int) (w : World) (hl : sender.length ≤ 200) (hm : message.length ≤ 1000000) (h0 : 0 ≤ t) (h1 : t ≤ 4102444799) :
    Calls Tryz.prog 9 #[.string (bs sender), .int .i64 t, .string (bs message)] w fun e w' => (∃ y m d h mi s wk, Cal.civ7 t y m d h mi s wk ∧ e = .returned (.string (bs (headL sender (boxL y m d h mi s wk) ++ encodeL message))) ∧ Below w.heap.size w w') := by
  have hel := (encode_length message).2
  go_enter Tryz.func9, Tryz.ntmps9
  go_wp2_with fail
  refine (box_ref t _ h0 h1).mono ?_
  rintro e w2 ⟨y, m, d, h, mi, s, wk, hcv, rfl, hb2⟩
  have hbl := boxL_len (Cal.civ7_bd h0 hcv)
  have HCV := Lib.hid hcv
  obtain ⟨X, hX⟩ : ∃ X, boxL y m d h mi s wk = X := ⟨_, rfl⟩
  have HX := Lib.hid hX
  rw [hX] at hbl ⊢
  obtain ⟨E, hE⟩ : ∃ E, encodeL message = E := ⟨_, rfl⟩
  have henc := refEncode_any message w2 (by omega)
  rw [hE] at henc hel
  have HEN := Lib.hid henc
  have HEE := Lib.hid hE
  clear hcv hX henc hE
  go_wp2_with fail
  refine HEN.out.mono ?_
  rintro e w3 ⟨rfl, hb3⟩
  go_wp2
  go_ret
  refine ⟨y, m, d, h, mi, s, wk, HCV.out, ?_, hb2.trans (hb3.mono hb2.size)⟩
  rw [HX.out, HEE.out]
  simp [headL, bs_append, fromL]

end Go.Proofs.YtcjnpklmfcbofaaGreatDoor
end

/- The document's Separator: the walk. -/
set_option linter.unusedVariables false
set_option linter.unusedSimpArgs false
section
namespace Go.Proofs.YtcjnpklmfcbofaaGreatDoor
open Go.RowKit Go

/-- what the document's Separator hands back -/
def RefSepOut (R : Option (List UInt8 × Int)) (e : Ending) (w w' : World) : Prop :=
  (match R with
   | none => e = .returned (.tuple #[.string (bs []), .int .i64 0, .bool false])
   | some p => e = .returned (.tuple #[.string (bs p.1), .int .i64 p.2, .bool true])) ∧ Below w.heap.size w w'

/-- a separator's places -/
theorem sep_places {line s : List UInt8} {t : Int} (h : SepIs line s t) : ∃ X W M D A C Y, BoxParts t X W M D A C Y ∧ (∀ y m d hh mi s wk, Cal.civ7 t y m d hh mi s wk → boxL y m d hh mi s wk = X) ∧ line = headL s X ∧ X.length = 24 ∧ 1 ≤ s.length ∧ senderOk s = true := by
  obtain ⟨hs, t0, t1, y, m, d, hh, mi, sc, wk, hcv, rfl⟩ := h
  obtain ⟨W, M, D, A, C, Y, hp⟩ := box_parts t0 t1 hcv
  have hx : ∀ y' m' d' hh' mi' s' wk', Cal.civ7 t y' m' d' hh' mi' s' wk' → boxL y' m' d' hh' mi' s' wk' = boxL y m d hh mi sc wk := by
    intro y' m' d' hh' mi' s' wk' h'
    obtain ⟨rfl, rfl, rfl, rfl, rfl, rfl, rfl⟩ := civ7_eq hcv h'
    rfl
  have hl : (boxL y m d hh mi sc wk).length = 24 := by
    obtain ⟨l1, l2, l3, l4, l5⟩ := hp.lens
    rw [hp.text]
    simp
    omega
  have h1 : 1 ≤ s.length := by unfold senderOk at hs; simp at hs; exact hs.2.1
  exact ⟨_, W, M, D, A, C, Y, hp, hx, rfl, hl, h1, hs⟩
theorem drop_left2 {α : Type} (a b : List α) (n : Nat) (h : a.length = n) : (a ++ b).drop n = b := by rw [← h]; simp
theorem take_left2 {α : Type} (a b : List α) (n : Nat) (h : a.length = n) : (a ++ b).take n = a := by rw [← h]; simp
/-- what stands at a separator's places -/
theorem sep_at {line s : List UInt8} {t : Int} (h : SepIs line s t) : 31 ≤ line.length ∧ line.take 5 = [70, 114, 111, 109, 32] ∧ (line.drop 5).take (line.length - 26 - 5) = s ∧ line[line.length - 26]? = some 32 ∧ ∃ X, (line.drop (line.length - 26 + 1)).take (line.length - 1 - (line.length - 26 + 1)) = X ∧ X.length = 24 ∧ senderOk s = true ∧
    (∀ y m d hh mi s wk, Cal.civ7 t y m d hh mi s wk → boxL y m d hh mi s wk = X) ∧
    parsedI (refMailC (wordsGo [] (((if ((X.drop 8).take 2).headD 0 = 32 then ((X.drop 8).take 2).drop 1 else (X.drop 8).take 2)) ++ [32] ++ (X.drop 4).take 3 ++ [32] ++ X.drop 20 ++ [32] ++ (X.drop 11).take 8 ++ [32, 43, 48, 48, 48, 48]))) = (t, 0) := by
  obtain ⟨X, W, M, D, A, C, Y, hp, hx, rfl, hl, h1, hs⟩ := sep_places h
  have eL : headL s X = [70, 114, 111, 109, 32] ++ (s ++ ([32] ++ (X ++ [10]))) := by simp [headL, fromL]
  have hn : (headL s X).length = s.length + 31 := by rw [eL]; simp; omega
  have d5 : (headL s X).drop 5 = s ++ ([32] ++ (X ++ [10])) := by rw [eL]; rfl
  have dc : (headL s X).drop (s.length + 5) = [32] ++ (X ++ [10]) := by
    rw [show s.length + 5 = 5 + s.length by omega, ← List.drop_drop, d5]; simp
  have dX : (headL s X).drop (s.length + 6) = X ++ [10] := by
    rw [show s.length + 6 = s.length + 5 + 1 by omega, ← List.drop_drop, dc]; rfl
  rw [hn]
  obtain ⟨l1, l2, l3, l4, l5⟩ := hp.lens
  have e4 : X.drop 4 = M ++ 32 :: (A ++ 32 :: (C ++ 32 :: Y)) := by
    rw [hp.text]
    have := drop_left2 (W ++ [32]) (M ++ 32 :: (A ++ 32 :: (C ++ 32 :: Y))) 4 (by simp; omega)
    simpa using this
  have e8 : X.drop 8 = A ++ 32 :: (C ++ 32 :: Y) := by
    rw [show 8 = 4 + 4 by rfl, ← List.drop_drop, e4]
    have := drop_left2 (M ++ [32]) (A ++ 32 :: (C ++ 32 :: Y)) 4 (by simp; omega)
    simpa using this
  have e11 : X.drop 11 = C ++ 32 :: Y := by
    rw [show 11 = 8 + 3 by rfl, ← List.drop_drop, e8]
    have := drop_left2 (A ++ [32]) (C ++ 32 :: Y) 3 (by simp; omega)
    simpa using this
  have e20 : X.drop 20 = Y := by
    rw [show 20 = 11 + 9 by rfl, ← List.drop_drop, e11]
    have := drop_left2 (C ++ [32]) Y 9 (by simp; omega)
    simpa using this
  refine ⟨by omega, by rw [eL]; rfl, ?_, ?_, X, ?_, hl, hs, hx, ?_⟩
  · rw [d5, show s.length + 31 - 26 - 5 = s.length by omega]; simp
  · have : (headL s X)[s.length + 31 - 26]? = ((headL s X).drop (s.length + 5))[0]? := by
      rw [List.getElem?_drop]; congr 1
    rw [this, dc]; rfl
  · rw [show s.length + 31 - 26 + 1 = s.length + 6 by omega, dX, show s.length + 31 - 1 - (s.length + 6) = 24 by omega]
    exact take_left2 X [10] 24 hl
  · rw [e4, e8, e11, e20, take_left2 M _ 3 l2, take_left2 A _ 2 l3, take_left2 C _ 8 l4]
    have hD : (if A.headD 0 = 32 then A.drop 1 else A) = D := by
      rcases hp.day with ⟨h1, h2⟩ | ⟨h1, h2⟩
      · rw [if_pos h1, h2]
      · rw [if_neg h1, h2]
    rw [hD]
    have ej : D ++ [32] ++ M ++ [32] ++ Y ++ [32] ++ C ++ [32, 43, 48, 48, 48, 48] = joinB [D, M, Y, C, [43, 48, 48, 48, 48]] := by
      have : joinB [D, M, Y, C, [43, 48, 48, 48, 48]] = D ++ 32 :: (M ++ 32 :: (Y ++ 32 :: (C ++ 32 :: [43, 48, 48, 48, 48]))) := rfl
      rw [this]; simp
    rw [ej, hp.words]
    exact hp.ref
theorem parsed_range {R : Option RuleD} {t : Int} (h : parsedI R = (t, 0)) : 0 ≤ t ∧ t ≤ 4102444799 := by
  cases R with
  | none => exact absurd (Prod.mk.inj h).2 (by decide)
  | some q =>
    obtain ⟨⟨y, m, d, hh, mi, s⟩, z⟩ := q
    have h2 : madeI y m d hh mi s z = (t, 0) := h
    unfold madeI at h2
    split at h2
    · exact absurd (Prod.mk.inj h2).2 (by decide)
    · split at h2
      · rename_i hr
        rw [← (Prod.mk.inj h2).1]
        exact hr
      · exact absurd (Prod.mk.inj h2).2 (by decide)

end Go.Proofs.YtcjnpklmfcbofaaGreatDoor
end

/- The document's Separator: the walk. -/
set_option linter.unusedVariables false
set_option linter.unusedSimpArgs false
section
namespace Go.Proofs.YtcjnpklmfcbofaaGreatDoor
open Go.RowKit Go

theorem sepN {line : List UInt8} {R : Option (List UInt8 × Int)} (hR : SepR line R) {P : Prop} (h : ∀ s t, SepIs line s t → P) (hn : ¬ P) : R = none := sepR_none hR (fun s t hs => hn (h s t hs))

set_option maxRecDepth 100000 in
set_option maxHeartbeats 8000000 in
theorem refSeparator_any (line : List UInt8) (R : Option (List UInt8 × Int)) (w : World) (hl : line.length ≤ 2000) (hR : SepR line R) :
    Calls Tryz.prog 12 #[.string (bs line)] w (RefSepOut R · w ·) := by
  have HR := Lib.hid hR
  by_cases h31 : line.length < 31
  · have hR0 : R = none := sepN hR (fun s t hs => (sep_at hs).1) (by omega)
    subst hR0
    have h31' : (line.length : Int) < 31 := by omega
    clear hR HR
    go_enter Tryz.func12, Tryz.ntmps12
    go_wp2
    go_ret3
    exact ⟨rfl, Below.refl _ _⟩
  have h31' : ¬ (line.length : Int) < 31 := by omega
  have r5 := fun w0 => run_to line 5 (by omega) w0
  by_cases hfr : line.take 5 = [70, 114, 111, 109, 32]
  case neg =>
    have hR0 : R = none := sepN hR (fun s t hs => (sep_at hs).2.1) hfr
    subst hR0
    obtain ⟨F, hF⟩ : ∃ F, line.take 5 = F := ⟨_, rfl⟩
    rw [hF] at hfr r5
    have r5' : ∀ w0, (Instr.slice 9 (.string (bs line)) none (some (.int .i64 5)) none).run Tryz.prog w0 = .ok (.string (bs F)) w0 := r5
    have hq : (!F == [70, 114, 111, 109, 32]) = true := by simpa using hfr
    clear hR HR hF hfr r5
    go_enter Tryz.func12, Tryz.ntmps12
    go_wp2
    go_ret3
    exact ⟨rfl, Below.refl _ _⟩
  rw [hfr] at r5
  have r5' : ∀ w0, (Instr.slice 9 (.string (bs line)) none (some (.int .i64 5)) none).run Tryz.prog w0 = .ok (.string (bs [70, 114, 111, 109, 32])) w0 := r5
  have hline5 : line = [70, 114, 111, 109, 32] ++ line.drop 5 := by rw [← hfr, List.take_append_drop]
  obtain ⟨K, hK⟩ : ∃ K, line.length - 26 = K := ⟨_, rfl⟩
  obtain ⟨N1, hN1⟩ : ∃ N1, line.length - 1 = N1 := ⟨_, rfl⟩
  obtain ⟨K1, hK1⟩ : ∃ K1, K + 1 = K1 := ⟨_, rfl⟩
  have e1 : (line.length : Int) - 26 = (K : Int) := by omega
  have e2 : (K : Int) + 1 = (K1 : Int) := by omega
  have e3 : (line.length : Int) - 1 = (N1 : Int) := by omega
  have rS := fun w0 => run_mid line 5 K (by omega) (by omega) w0
  have rD := fun w0 => run_mid line K1 N1 (by omega) (by omega) w0
  have hat : ∀ s t, SepIs line s t → _ := fun s t hs => (sep_at hs).2.2
  rw [hK, hK1, hN1] at hat
  have hKl : K < line.length := by omega
  obtain ⟨c, hc⟩ : ∃ c, (bs line)[K]'(by rw [bs_size]; exact hKl) = c := ⟨_, rfl⟩
  have hc2 : line[K]? = some c := List.getElem?_eq_some_iff.2 ⟨hKl, hc⟩
  have hdecomp : line = [70, 114, 111, 109, 32] ++ ((line.drop 5).take (K - 5) ++ c :: ((line.drop K1).take (N1 - K1) ++ line.drop N1)) := by
    conv => lhs; rw [hline5]
    congr 1
    have a1 : line.drop 5 = (line.drop 5).take (K - 5) ++ line.drop K := by
      conv => lhs; rw [← List.take_append_drop (K - 5) (line.drop 5)]
      rw [List.drop_drop, show 5 + (K - 5) = K by omega]
    have a2 : line.drop K = c :: line.drop K1 := by
      rw [← hK1, List.drop_eq_getElem_cons hKl]
      congr 1
    have a3 : line.drop K1 = (line.drop K1).take (N1 - K1) ++ line.drop N1 := by
      conv => lhs; rw [← List.take_append_drop (N1 - K1) (line.drop K1)]
      rw [List.drop_drop, show K1 + (N1 - K1) = N1 by omega]
    rw [← a3, ← a2, ← a1]
  obtain ⟨S, hS⟩ : ∃ S, (line.drop 5).take (K - 5) = S := ⟨_, rfl⟩
  obtain ⟨D, hD⟩ : ∃ D, (line.drop K1).take (N1 - K1) = D := ⟨_, rfl⟩
  have hDl : D.length = 24 := by rw [← hD, List.length_take, List.length_drop]; omega
  have hSl : S.length ≤ 2000 := by rw [← hS, List.length_take, List.length_drop]; omega
  rw [hS, hD, hc2] at hat
  rw [hS, hD] at hdecomp
  rw [hS] at rS
  rw [hD] at rD
  have rS' : ∀ w0, (Instr.slice 9 (.string (bs line)) (some (.int .i64 5)) (some (.int .i64 K)) none).run Tryz.prog w0 = .ok (.string (bs S)) w0 := rS
  have rA := fun w0 => run_mid D 8 10 (by omega) (by omega) w0
  have rM := fun w0 => run_mid D 4 7 (by omega) (by omega) w0
  have rY := fun w0 => run_from D 20 (by omega) w0
  have rC := fun w0 => run_mid D 11 19 (by omega) (by omega) w0
  have hA2 : ((D.drop 8).take 2).length = 2 := by rw [List.length_take, List.length_drop]; omega
  obtain ⟨a0, a1, hA⟩ : ∃ a0 a1, (D.drop 8).take 2 = [a0, a1] := by
    match hq : (D.drop 8).take 2, hA2 with
    | [a, b], _ => exact ⟨a, b, rfl⟩
  obtain ⟨M, hM⟩ : ∃ M, (D.drop 4).take 3 = M := ⟨_, rfl⟩
  obtain ⟨Y, hY⟩ : ∃ Y, D.drop 20 = Y := ⟨_, rfl⟩
  obtain ⟨C, hC⟩ : ∃ C, (D.drop 11).take 8 = C := ⟨_, rfl⟩
  have lM : M.length ≤ 3 := by rw [← hM, List.length_take]; omega
  have lY : Y.length ≤ 4 := by rw [← hY, List.length_drop]; omega
  have lC : C.length ≤ 8 := by rw [← hC, List.length_take]; omega
  rw [hA] at rA
  rw [hM] at rM
  rw [hY] at rY
  rw [hC] at rC
  have rA' : ∀ w0, (Instr.slice 9 (.string (bs D)) (some (.int .i64 8)) (some (.int .i64 10)) none).run Tryz.prog w0 = .ok (.string (bs [a0, a1])) w0 := rA
  have rM' : ∀ w0, (Instr.slice 9 (.string (bs D)) (some (.int .i64 4)) (some (.int .i64 7)) none).run Tryz.prog w0 = .ok (.string (bs M)) w0 := rM
  have rY' : ∀ w0, (Instr.slice 9 (.string (bs D)) (some (.int .i64 20)) none none).run Tryz.prog w0 = .ok (.string (bs Y)) w0 := rY
  have rC' : ∀ w0, (Instr.slice 9 (.string (bs D)) (some (.int .i64 11)) (some (.int .i64 19)) none).run Tryz.prog w0 = .ok (.string (bs C)) w0 := rC
  have r1 := fun w0 => run_from [a0, a1] 1 (by simp) w0
  have r1' : ∀ w0, (Instr.slice 9 (.string (bs [a0, a1])) (some (.int .i64 1)) none none).run Tryz.prog w0 = .ok (.string (bs [a1])) w0 := r1
  have hKi : (5 : Int) ≤ K := by omega
  have hKi2 : (K : Int) < line.length := by omega
  have hat2 : ∀ s t, SepIs line s t → S = s ∧ c = 32 ∧ senderOk S = true ∧ (∀ y m d hh mi s wk, Cal.civ7 t y m d hh mi s wk → boxL y m d hh mi s wk = D) ∧ parsedI (refMailC (wordsGo [] ((if a0 = 32 then [a1] else [a0, a1]) ++ [32] ++ M ++ [32] ++ Y ++ [32] ++ C ++ [32, 43, 48, 48, 48, 48]))) = (t, 0) := by
    intro s t hs
    obtain ⟨q1, q2, X, rfl, q3, q4, q5, q6⟩ := hat s t hs
    rw [hA, hM, hY, hC] at q6
    exact ⟨q1, by simpa using q2, by rw [q1]; exact q4, q5, q6⟩
  have HAT := Lib.hid hat2
  have HDEC := Lib.hid hdecomp
  have hso := fun w0 => refSender_any S w0 (by omega)
  obtain ⟨so, hso2⟩ : ∃ so, senderOk S = so := ⟨_, rfl⟩
  rw [hso2] at hso
  have HSO := Lib.hid hso
  have HSO2 := Lib.hid hso2
  clear hR hfr r5 rS rA rM rY rC r1 hat hat2 hdecomp hline5 hc2 hS hD hA hM hY hC hA2 hso hso2 hDl hK1 hN1 hK
  cases so with
  | false =>
    have hR0 : R = none := sepN HR.out (fun s t hs => (HAT.out s t hs).2.2.1) (by rw [HSO2.out]; simp)
    subst hR0
    clear HR HAT HDEC HSO2
    go_enter Tryz.func12, Tryz.ntmps12
    go_wp2_with fail
    refine (HSO.out _).mono ?_
    rintro e w1 ⟨rfl, rfl⟩
    go_wp2
    go_ret3
    exact ⟨rfl, Below.refl _ _⟩
  | true =>
  rcases hc32 : ((c.toNat : Int) != 32) with _ | _
  case true =>
    have hR0 : R = none := sepN HR.out (fun s t hs => (HAT.out s t hs).2.1) (by rintro rfl; exact absurd hc32 (by decide))
    subst hR0
    clear HR HAT HDEC HSO2
    go_enter Tryz.func12, Tryz.ntmps12
    go_wp2_with fail
    refine (HSO.out _).mono ?_
    rintro e w1 ⟨rfl, rfl⟩
    go_wp2
    go_ret3
    exact ⟨rfl, Below.refl _ _⟩
  have hcc : c = 32 := by
    apply UInt8.toNat_inj.1
    have : ((c.toNat : Int) == 32) = true := by simpa [bne] using hc32
    have := eq_of_beq this
    show c.toNat = 32
    omega
  have HCC := Lib.hid hcc
  clear hcc
  obtain ⟨dd, hdd⟩ : ∃ dd, (if a0 = 32 then [a1] else [a0, a1]) = dd := ⟨_, rfl⟩
  have hddl : dd.length ≤ 2 := by rw [← hdd]; split <;> simp
  rw [hdd] at HAT
  have HDD := Lib.hid hdd
  clear hdd
  go_enter Tryz.func12, Tryz.ntmps12
  go_wp2_with fail
  refine (HSO.out _).mono ?_
  rintro e w1 ⟨rfl, rfl⟩
  clear HSO
  go_upto_if 45 with fail
  go_cut [8] (fun v8 wc => w = wc ∧ v8 = .string (bs dd))
  case first =>
    rcases hq : ((((bs [a0, a1])[0]'(by rw [bs_size]; simp)).toNat : Int) == 32) with _ | _
    · have hq' : ((a0.toNat : Int) == 32) = false := hq
      have ha0 : ¬ a0 = 32 := by rintro rfl; exact absurd hq' (by decide)
      have hdd := HDD.out
      rw [if_neg ha0] at hdd
      subst hdd
      clear HAT HDD ha0
      try clear hq'
      go_wp2_with fail
      go_meet
      case rel => exact ⟨rfl, rfl⟩
    · have ha0 : a0 = 32 := by
        apply UInt8.toNat_inj.1
        have hq' : ((a0.toNat : Int) == 32) = true := hq
        have := eq_of_beq hq'
        show a0.toNat = 32
        omega
      have hdd := HDD.out
      rw [if_pos ha0] at hdd
      subst hdd
      clear HAT HDD ha0
      try clear hq'
      go_wp2_with fail
      go_meet
      case rel => exact ⟨rfl, rfl⟩
  case rest =>
  obtain ⟨rfl, rfl⟩ := hcut
  have b1 := bs_append dd [32]
  have b2 := bs_append (dd ++ [32]) M
  have b3 := bs_append (dd ++ [32] ++ M) [32]
  have b4 := bs_append (dd ++ [32] ++ M ++ [32]) Y
  have b5 := bs_append (dd ++ [32] ++ M ++ [32] ++ Y) [32]
  have b6 := bs_append (dd ++ [32] ++ M ++ [32] ++ Y ++ [32]) C
  have b7 := bs_append (dd ++ [32] ++ M ++ [32] ++ Y ++ [32] ++ C) [32, 43, 48, 48, 48, 48]
  obtain ⟨P, hP⟩ : ∃ P, dd ++ [32] ++ M ++ [32] ++ Y ++ [32] ++ C ++ [32, 43, 48, 48, 48, 48] = P := ⟨_, rfl⟩
  have hPl : P.length ≤ 1000 := by rw [← hP]; simp; omega
  rw [hP] at b7 HAT
  have hpm := fun w0 => refParseMail_any P w0 hPl
  obtain ⟨⟨pt, pe⟩, hpp⟩ : ∃ p, parsedI (refMailC (wordsGo [] P)) = p := ⟨_, rfl⟩
  rw [hpp] at HAT hpm
  unfold pairV at hpm
  have HPP := Lib.hid hpp
  have HPM := Lib.hid hpm
  have l1 : dd.length + 1 ≤ 1000 := by omega
  have m1 : (dd ++ [32]).length ≤ 3 := by simp; omega
  have m2 : (dd ++ [32] ++ M).length ≤ 6 := by simp; omega
  have m3 : (dd ++ [32] ++ M ++ [32]).length ≤ 7 := by simp; omega
  have m4 : (dd ++ [32] ++ M ++ [32] ++ Y).length ≤ 11 := by simp; omega
  have m5 : (dd ++ [32] ++ M ++ [32] ++ Y ++ [32]).length ≤ 12 := by simp; omega
  have m6 : (dd ++ [32] ++ M ++ [32] ++ Y ++ [32] ++ C).length ≤ 20 := by simp; omega
  obtain ⟨B1, hB1⟩ : ∃ B, dd ++ [32] = B := ⟨_, rfl⟩
  rw [hB1] at b1 b2 b3 b4 b5 b6 b7 m1 m2 m3 m4 m5 m6
  obtain ⟨B2, hB2⟩ : ∃ B, B1 ++ M = B := ⟨_, rfl⟩
  rw [hB2] at b2 b3 b4 b5 b6 b7 m2 m3 m4 m5 m6
  obtain ⟨B3, hB3⟩ : ∃ B, B2 ++ [32] = B := ⟨_, rfl⟩
  rw [hB3] at b3 b4 b5 b6 b7 m3 m4 m5 m6
  obtain ⟨B4, hB4⟩ : ∃ B, B3 ++ Y = B := ⟨_, rfl⟩
  rw [hB4] at b4 b5 b6 b7 m4 m5 m6
  obtain ⟨B5, hB5⟩ : ∃ B, B4 ++ [32] = B := ⟨_, rfl⟩
  rw [hB5] at b5 b6 b7 m5 m6
  obtain ⟨B6, hB6⟩ : ∃ B, B5 ++ C = B := ⟨_, rfl⟩
  rw [hB6] at b6 b7 m6
  clear hB1 hB2 hB3 hB4 hB5 hB6 hP hpp hpm HDD rS' rD rA' r1' r5' hc
  go_upto_region 11 with fail
  refine wp_region_grow (by kernel_rfl) (by kernel_rfl) ?_
  repeat (go_big_quiet_step ((go_at_call 26; exact grow_call (HPM.out _))))
  refine wpQuiet_nil ?_
  rintro _ ⟨gw, rfl⟩
  have hbg := gw.h
  obtain ⟨wg, hwg⟩ : ∃ wg, gw.v = wg := ⟨_, rfl⟩
  rw [hwg] at hbg ⊢
  clear hwg b1 b2 b3 b4 b5 b6 b7 HPM
  by_cases he : pe = 0
  case neg =>
    have hR0 : R = none := sepR_none HR.out (fun s t hs => he (Prod.mk.inj ((HAT.out s t hs).2.2.2.2 : (pt, pe) = (t, 0))).2)
    subst hR0
    have he2 : (pe != 0) = true := by simpa [bne] using he
    clear HR HAT HDEC HSO2 HCC HPP
    go_wp2
    go_ret3
    exact ⟨rfl, hbg⟩
  subst he
  obtain ⟨t0, t1⟩ := parsed_range HPP.out
  have hbx := box_ref pt wg t0 t1
  have HBX := Lib.hid hbx
  clear hbx
  go_wp2_with fail
  refine HBX.out.mono ?_
  rintro e w5 ⟨y, m, d, hh, mi, s, wk, hcv, rfl, hb5⟩
  have hB5 := hbg.trans (hb5.mono hbg.size)
  obtain ⟨X, hX⟩ : ∃ X, boxL y m d hh mi s wk = X := ⟨_, rfl⟩
  have hXl := boxL_len (Cal.civ7_bd t0 hcv)
  rw [hX] at hXl ⊢
  have c1 := bs_append [70, 114, 111, 109, 32] S
  have c2 := bs_append ([70, 114, 111, 109, 32] ++ S) [32]
  have c3 := bs_append ([70, 114, 111, 109, 32] ++ S ++ [32]) X
  have c4 := bs_append ([70, 114, 111, 109, 32] ++ S ++ [32] ++ X) [10]
  have hL : [70, 114, 111, 109, 32] ++ S ++ [32] ++ X ++ [10] = headL S X := rfl
  rw [hL] at c4
  have n1 : ([70, 114, 111, 109, 32] ++ S).length ≤ 2010 := by simp; omega
  have n2 : ([70, 114, 111, 109, 32] ++ S ++ [32]).length ≤ 2020 := by simp; omega
  have n3 : ([70, 114, 111, 109, 32] ++ S ++ [32] ++ X).length ≤ 2100 := by simp; omega
  obtain ⟨E1, hE1⟩ : ∃ B, [70, 114, 111, 109, 32] ++ S = B := ⟨_, rfl⟩
  rw [hE1] at c1 c2 c3 c4 n1 n2 n3
  obtain ⟨E2, hE2⟩ : ∃ B, E1 ++ [32] = B := ⟨_, rfl⟩
  rw [hE2] at c2 c3 c4 n2 n3
  obtain ⟨E3, hE3⟩ : ∃ B, E2 ++ X = B := ⟨_, rfl⟩
  rw [hE3] at c3 c4 n3
  obtain ⟨L, hLL⟩ : ∃ L, headL S X = L := ⟨_, rfl⟩
  rw [hLL] at c4
  have HX := Lib.hid hX
  have HLL := Lib.hid hLL
  have HCV := Lib.hid hcv
  clear hE1 hE2 hE3 hL hLL hX hcv HBX
  by_cases hq : L = line
  · have hR1 : R = some (S, pt) := (HR.out S pt).2 ⟨HSO2.out, t0, t1, y, m, d, hh, mi, s, wk, HCV.out, by rw [HX.out, HLL.out, hq]⟩
    subst hR1
    subst hq
    clear HR HAT HDEC HSO2 HCC HPP HX HLL HCV
    go_wp2
    go_ret3
    exact ⟨rfl, hB5⟩
  · have hR0 : R = none := sepR_none HR.out (fun s' t' hs => by
      obtain ⟨q1, _, _, q4, q5⟩ := HAT.out s' t' hs
      have q6 : t' = pt := (Prod.mk.inj q5).1.symm
      subst q6
      obtain ⟨_, _, _, y', m', d', hh', mi', s2', wk', hcv', hline⟩ := hs
      have q7 := q4 _ _ _ _ _ _ _ hcv'
      have q8 := q4 _ _ _ _ _ _ _ HCV.out
      rw [HX.out] at q8
      rw [q7, ← q8, ← q1] at hline
      exact hq (by rw [← HLL.out]; exact hline.symm))
    subst hR0
    have hq2 : (L == line) = false := by rw [beq_eq_false_iff_ne]; exact hq
    clear HR HAT HDEC HSO2 HCC HPP HX HLL HCV
    go_wp2
    go_ret3
    exact ⟨rfl, hB5⟩

end Go.Proofs.YtcjnpklmfcbofaaGreatDoor
end

/- MboxLines, MboxEntries: the walks. -/
set_option linter.unusedVariables false
set_option linter.unusedSimpArgs false
section
namespace Go.Proofs.YtcjnpklmfcbofaaGreatDoor
open Go.RowKit Go

set_option maxRecDepth 100000 in
set_option maxHeartbeats 4000000 in
theorem mboxLines_list (line : List UInt8) (a : Nat → Addr) (w : World) (hE : Errs w a) (hT : Tab w) (hS : Spaces w) :
    Calls Tryz.prog 4 #[.string (bs line)] w fun e w' => e = .returned (.bool true) ∧ Below w.heap.size w w' := by
  have hal := alive_any (a 1) w (hE.cell 1 (by decide)) hT
  have HE := Lib.hid hE
  have HT := Lib.hid hT
  have HS := Lib.hid hS
  clear hE hT hS
  go_enter Tryz.func4, Tryz.ntmps4
  go_wp2_with fail
  refine hal.mono ?_
  rintro e' w1 ⟨rfl, hb1⟩
  clear hal
  by_cases hl : 1000 < line.length
  · have hl' : (1000 : Int) < line.length := by omega
    go_wp2
    go_ret
    exact ⟨rfl, hb1⟩
  have hl' : ¬ (1000 : Int) < line.length := by omega
  obtain ⟨R, hR⟩ := sepR_exists line
  have hE1 := HE.out.below hb1
  have hs := separator_any line R (a 1) (a 0) w1 (hE1.cell 1 (by decide)) (hE1.cell 0 (by decide)) (HT.out.below hb1) (HS.out.below hb1) (by omega) hR
  have hr := fun w0 => refSeparator_any line R w0 (by omega) hR
  have HSP := Lib.hid hs
  have HRF := Lib.hid hr
  have HE1 := Lib.hid hE1
  clear hs hr hR hE1 HE HT HS
  go_wp2_with fail
  refine HSP.out.mono ?_
  clear HSP
  rintro e' w2 ⟨hm2, hb2⟩
  have hB2 := hb1.trans (hb2.mono hb1.size)
  cases R with
  | none =>
    subst hm2
    simp only [errV]
    go_wp2_with fail
    refine (HRF.out _).mono ?_
    rintro e' w3 ⟨hm3, hb3⟩
    subst hm3
    have hB3 := hB2.trans (hb3.mono hB2.size)
    have hn := num_err w3 a 1 (by decide) ((HE1.out.below hb2).below hb3)
    simp only [errV] at hn
    clear HRF HE1
    go_wp2_with fail
    refine hn.mono ?_
    rintro e' w4 ⟨rfl, hb4⟩
    go_wp2
    go_ret
    exact ⟨by first | rfl | simp, hB3.trans (hb4.mono hB3.size)⟩
  | some p =>
    obtain ⟨s, t⟩ := p
    subst hm2
    go_wp2_with fail
    refine (HRF.out _).mono ?_
    rintro e' w3 ⟨hm3, hb3⟩
    subst hm3
    have hB3 := hB2.trans (hb3.mono hB2.size)
    clear HRF HE1
    go_wp2
    go_ret
    exact ⟨by first | rfl | simp, hB3⟩
theorem mboxLines_any (s : ByteArray) (w : World) (_ : s.size ≤ 9223372036854775807) (a : Nat → Addr) (hE : Errs w a) (hT : Tab w) (hS : Spaces w) :
    Calls Tryz.prog 4 #[.string s] w fun e w' => e = .returned (.bool true) ∧ Below w.heap.size w w' :=
  mboxLines_list s.data.toList a w hE hT hS

end Go.Proofs.YtcjnpklmfcbofaaGreatDoor
end

/- MboxEntries: the walk. -/
set_option linter.unusedVariables false
set_option linter.unusedSimpArgs false
section
namespace Go.Proofs.YtcjnpklmfcbofaaGreatDoor
open Go.RowKit Go

set_option maxRecDepth 100000 in
set_option maxHeartbeats 1000000 in
theorem entry_name (sender message : List UInt8) (t : Int) (x : Addr) (w : World) (hc : w.cell? ⟨0, 0, none⟩ = some (errV x)) (hs : senderOk sender = false) (hl : sender.length ≤ 1000) :
    Calls Tryz.prog 6 #[.string (bs sender), .int .i64 t, .string (bs message)] w fun e w' => e = .returned (.tuple #[.string (bs []), errV x]) ∧ Below w.heap.size w w' := by
  have hr := right_any sender w (by omega)
  rw [hs] at hr
  have HR := Lib.hid hr
  have HC := Lib.hid hc
  clear hr hs hc
  go_enter Tryz.func6, Tryz.ntmps6
  go_wp2_with fail
  refine HR.out.mono ?_
  rintro e w1 ⟨rfl, hb1⟩
  have hc1 := (hb1.cell (cell_lt HC.out)).trans HC.out
  simp only [errV] at hc1
  clear HR
  go_wp2
  go_quiet (fail)
  go_wp2
  go_ret2
  exact ⟨rfl, below_drewN hb1 _⟩
set_option maxRecDepth 100000 in
set_option maxHeartbeats 1000000 in
theorem entry_range (sender message : List UInt8) (t : Int) (x : Addr) (w : World) (hc : w.cell? ⟨1, 0, none⟩ = some (errV x)) (hs : senderOk sender = true) (hl : sender.length ≤ 1000) (ht : t < 0 ∨ 4102444799 < t) :
    Calls Tryz.prog 6 #[.string (bs sender), .int .i64 t, .string (bs message)] w fun e w' => e = .returned (.tuple #[.string (bs []), errV x]) ∧ Below w.heap.size w w' := by
  have hr := right_any sender w (by omega)
  rw [hs] at hr
  have HR := Lib.hid hr
  have HC := Lib.hid hc
  have hb := fun w0 h0 => box_out t w0 x ht h0
  have HB := Lib.hid hb
  clear hr hs hc hb ht
  go_enter Tryz.func6, Tryz.ntmps6
  go_wp2_with fail
  refine HR.out.mono ?_
  rintro e w1 ⟨rfl, hb1⟩
  have hc1 := (hb1.cell (cell_lt HC.out)).trans HC.out
  have HC1 := Lib.hid hc1
  clear HR hc1
  go_wp2_with fail
  refine (HB.out w1 HC1.out).mono ?_
  rintro e w2 ⟨rfl, hb2⟩
  go_wp2
  go_ret2
  exact ⟨rfl, hb1.trans (hb2.mono hb1.size)⟩

set_option maxRecDepth 100000 in
set_option maxHeartbeats 4000000 in
theorem mboxEntries_list (sender message : List UInt8) (t : Int) (a : Nat → Addr) (w : World) (hE : Errs w a) (hT : Tab w) (hS : Spaces w) :
    Calls Tryz.prog 3 #[.string (bs sender), .int .i64 t, .string (bs message)] w fun e w' => e = .returned (.bool true) ∧ Below w.heap.size w w' := by
  have hal := alive_any (a 1) w (hE.cell 1 (by decide)) hT
  have HE := Lib.hid hE
  have HT := Lib.hid hT
  have HS := Lib.hid hS
  clear hE hT hS
  go_enter Tryz.func3, Tryz.ntmps3
  go_wp2_with fail
  refine hal.mono ?_
  rintro e' w1 ⟨rfl, hb1⟩
  clear hal
  by_cases hl : 1000 < sender.length
  · have hl' : (1000 : Int) < sender.length := by omega
    go_wp2
    go_ret
    exact ⟨rfl, hb1⟩
  have hl' : ¬ (1000 : Int) < sender.length := by omega
  by_cases hm : 20000 < message.length
  · have hm' : (20000 : Int) < message.length := by omega
    go_wp2
    go_ret
    exact ⟨rfl, hb1⟩
  have hm' : ¬ (20000 : Int) < message.length := by omega
  have hE1 := HE.out.below hb1
  have hrs := fun w0 => refSender_any sender w0 (by omega)
  obtain ⟨so, hso⟩ : ∃ so, senderOk sender = so := ⟨_, rfl⟩
  rw [hso] at hrs
  have HRS := Lib.hid hrs
  clear hrs
  cases so with
  | false =>
    have hen := entry_name sender message t (a 3) w1 (hE1.cell 3 (by decide)) hso (by omega)
    have HEN := Lib.hid hen
    have HE1 := Lib.hid hE1
    clear hen hE1 hso HE HT HS
    go_wp2_with fail
    refine HEN.out.mono ?_
    rintro e' w2 ⟨rfl, hb2⟩
    have hB2 := hb1.trans (hb2.mono hb1.size)
    clear HEN
    simp only [errV]
    go_wp2_with fail
    refine (HRS.out _).mono ?_
    rintro e' w3 ⟨rfl, rfl⟩
    have hn := num_err w2 a 3 (by decide) (HE1.out.below hb2)
    simp only [errV] at hn
    clear HRS HE1
    go_wp2_with fail
    refine hn.mono ?_
    rintro e' w4 ⟨rfl, hb4⟩
    go_wp2
    go_ret
    exact ⟨by first | rfl | simp, hB2.trans (hb4.mono hB2.size)⟩
  | true =>
  by_cases ht : t < 0 ∨ 4102444799 < t
  · have hen := entry_range sender message t (a 0) w1 (hE1.cell 0 (by decide)) hso (by omega) ht
    have HEN := Lib.hid hen
    have HE1 := Lib.hid hE1
    clear hen hE1 hso HE HT HS
    rcases (by omega : t < 0 ∨ (¬ t < 0 ∧ 4102444799 < t)) with ht | ⟨ht, ht2⟩
    all_goals
      go_wp2_with fail
      refine HEN.out.mono ?_
      rintro e' w2 ⟨rfl, hb2⟩
      have hB2 := hb1.trans (hb2.mono hb1.size)
      simp only [errV]
      go_wp2_with fail
      refine (HRS.out _).mono ?_
      rintro e' w3 ⟨rfl, rfl⟩
      have hn := num_err w2 a 0 (by decide) (HE1.out.below hb2)
      simp only [errV] at hn
      go_wp2_with fail
      refine hn.mono ?_
      rintro e' w4 ⟨rfl, hb4⟩
      go_wp2
      go_ret
      exact ⟨by first | rfl | simp, hB2.trans (hb4.mono hB2.size)⟩
  have t0 : ¬ t < 0 := by omega
  have t1 : ¬ 4102444799 < t := by omega
  have hsl : sender.length ≤ 200 := by unfold senderOk at hso; simp at hso; exact hso.2.2
  have hen := entry_ok sender message t w1 hso hsl (by omega) (by omega) (by omega) (HT.out.below hb1)
  have hrf := fun w0 => refEntry_any sender message t w0 hsl (by omega) (by omega) (by omega)
  have hrc := fun w0 => refEncode_any message w0 (by omega)
  have HEN := Lib.hid hen
  have HRF := Lib.hid hrf
  have HRC := Lib.hid hrc
  have HSO := Lib.hid hso
  have HE1 := Lib.hid hE1
  have HT1 := Lib.hid (HT.out.below hb1)
  have HS1 := Lib.hid (HS.out.below hb1)
  clear hen hrf hrc hso hE1 HE HT HS ht
  go_wp2_with fail
  refine HEN.out.mono ?_
  clear HEN
  rintro e' w2 ⟨y, m, d, hh, mi, s, wk, hcv, rfl, hb2⟩
  have hB2 := hb1.trans (hb2.mono hb1.size)
  have hbl := boxL_len (Cal.civ7_bd (by omega) hcv)
  obtain ⟨R, hR⟩ := sepR_exists (headL sender (boxL y m d hh mi s wk))
  have hR1 : R = some (sender, t) := (hR sender t).2 ⟨HSO.out, by omega, by omega, y, m, d, hh, mi, s, wk, hcv, rfl⟩
  subst hR1
  have hHl : (headL sender (boxL y m d hh mi s wk)).length ≤ 2000 := by unfold headL; simp [fromL]; omega
  have hsp := fun w0 h0 h1 h2 h3 => separator_any (headL sender (boxL y m d hh mi s wk)) _ (a 1) (a 0) w0 h0 h1 h2 h3 hHl hR
  obtain ⟨X, hX⟩ : ∃ X, boxL y m d hh mi s wk = X := ⟨_, rfl⟩
  rw [hX] at hsp hHl ⊢
  obtain ⟨H, hH⟩ : ∃ H, headL sender X = H := ⟨_, rfl⟩
  rw [hH] at hsp hHl ⊢
  obtain ⟨E, hEq⟩ : ∃ E, encodeL message = E := ⟨_, rfl⟩
  have hel := (encode_length message).2
  rw [hEq] at hel ⊢
  obtain ⟨F, hF⟩ : ∃ F, H ++ E = F := ⟨_, rfl⟩
  have hFl : F.length = H.length + E.length := by rw [← hF]; simp
  have hrt := fun w0 => run_to F H.length (by omega) w0
  rw [show F.take H.length = H by rw [← hF]; simp] at hrt
  rw [hF]
  have e1 : (F.length : Int) - (E.length : Int) = (H.length : Int) := by omega
  have hFle : F.length ≤ 100000 := by omega
  have HX := Lib.hid hX
  have HH := Lib.hid hH
  have HEQ := Lib.hid hEq
  have HF := Lib.hid hF
  have HSP := Lib.hid hsp
  have HCV := Lib.hid hcv
  clear hX hH hEq hF hsp hcv hR hFl hbl
  go_wp2_with fail
  refine (HRS.out _).mono ?_
  rintro e' w3 ⟨rfl, rfl⟩
  go_wp2_with fail
  refine (HRF.out _).mono ?_
  rintro e' w4 ⟨y', m', d', hh', mi', s', wk', hcv', rfl, hb4⟩
  obtain ⟨rfl, rfl, rfl, rfl, rfl, rfl, rfl⟩ := civ7_eq HCV.out hcv'
  rw [HX.out, HH.out, HEQ.out, HF.out]
  have hB4 := hB2.trans (hb4.mono hB2.size)
  clear HRS HRF hcv' HCV
  go_wp2_with fail
  refine (HRC.out _).mono ?_
  rintro e' w5 ⟨rfl, hb5⟩
  rw [HEQ.out]
  have hB5 := hB4.trans (hb5.mono hB4.size)
  have hb15 : Below w1.heap.size w1 w5 := (hb2.trans (hb4.mono hb2.size)).trans (hb5.mono (hb2.trans (hb4.mono hb2.size)).size)
  have hE5 := HE1.out.below hb15
  have hsp5 := HSP.out w5 (hE5.cell 1 (by decide)) (hE5.cell 0 (by decide)) (HT1.out.below hb15) (HS1.out.below hb15)
  have HSP5 := Lib.hid hsp5
  clear HRC hE5 hsp5 HSP HX HH HEQ HF HE1 HT1 HS1
  go_wp2_with fail
  refine HSP5.out.mono ?_
  rintro e' w6 ⟨hm6, hb6⟩
  subst hm6
  go_wp2
  go_ret
  exact ⟨by first | rfl | simp, hB5.trans (hb6.mono hB5.size)⟩
theorem mboxEntries_any (s : ByteArray) (t : Int) (m : ByteArray) (w : World) (_ : s.size ≤ 9223372036854775807) (_ : m.size ≤ 9223372036854775807) (a : Nat → Addr) (hE : Errs w a) (hT : Tab w) (hS : Spaces w) :
    Calls Tryz.prog 3 #[.string s, .int .i64 t, .string m] w fun e w' => e = .returned (.bool true) ∧ Below w.heap.size w w' :=
  mboxEntries_list s.data.toList m.data.toList t a w hE hT hS

end Go.Proofs.YtcjnpklmfcbofaaGreatDoor
end

/- The tables of blanks, out of what a row lists. -/
set_option linter.unusedVariables false
set_option linter.unusedSimpArgs false
section
namespace Go.Proofs.YtcjnpklmfcbofaaGreatDoor
open Go.RowKit Go

theorem spaces_of_laid {W : World} {l : List (String × DataW Unit)} (h : laidMet Tryz.prog l W) (h1 : ("strings.asciiSpace", Lib.tabData .u8 Lib.asciiSpaceTab) ∈ l) (h2 : ("unicode.White_Space", Lib.whiteData) ∈ l) : Spaces W := by
  refine ⟨?_, whiteTab_of_reads (Tryz.lays199) ⟨by kernel_rfl, by kernel_rfl, by kernel_rfl, by kernel_rfl, by kernel_rfl, by kernel_rfl, by kernel_rfl, by kernel_rfl⟩ (Lib.laidMet.reads h h2)⟩
  obtain ⟨g', t', cs, fuel, p, hg', ht', hvar, hd⟩ := Lib.laidMet.reads h h1
  obtain rfl := Option.some.inj (spaceNamed.symm.trans hg')
  obtain rfl := Option.some.inj ((show (Tryz.prog.globals[13]?).map (·.type) = some 75 by kernel_rfl).symm.trans ht')
  unfold Lib.TabIs
  rw [hvar, ← Lib.cells_of_tab Tryz.underlying75 Tryz.underlying5 (by kernel_rfl) (by kernel_rfl) hd]

end Go.Proofs.YtcjnpklmfcbofaaGreatDoor
end
