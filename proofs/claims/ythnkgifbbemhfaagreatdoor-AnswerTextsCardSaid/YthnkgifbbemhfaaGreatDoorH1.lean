/- header.text, goesOn, name. -/
import Derived.Test.YthnkgifbbemhfaaGreatDoorHm
import Derived.Test.YthnkgifbbemhfaaGreatDoorS
import Derived.Test.YthnkgifbbemhfaaGreatDoorShelf
import Derived.Test.YthnkgifbbemhfaaGreatDoorCb
import Derived.Shelf.Strings.SlTrimAscii
import Derived.LoopTactic
import Derived.Deep.QuietTactic
import Derived.BigQuiet
set_option linter.unusedVariables false
set_option linter.unusedSimpArgs false
namespace Go.Proofs.YthnkgifbbemhfaaGreatDoor
open Go.RowKit

theorem textL_len (l : List UInt8) : (textL l).length ≤ l.length := by
  have h : ∀ (a b : List UInt8), (Lib.trimSuffix a b).length ≤ a.length := by
    intro a b; unfold Lib.trimSuffix; split <;> simp
  unfold textL
  split
  · exact Nat.le_trans (h _ _) (h _ _)
  · exact Nat.le_refl _

theorem cutSuffix_any (l p : List UInt8) (w : World) (hl : l.length ≤ 9223372036854775807) : Calls Tryz.prog 183 #[.string (bs l), .string (bs p)] w fun e w' => e = .returned (.tuple #[.string (bs (Lib.trimSuffix l p)), .bool (Lib.hasSuffix l p)]) ∧ w = w' :=
  (Tryz.strings_CutSuffix (bs l) (bs p) w (by rw [bs_size]; exact hl)).mono fun _ _ ⟨h, k⟩ => ⟨h, k.symm⟩
theorem trimSuffix_any (l p : List UInt8) (w : World) (hl : l.length ≤ 9223372036854775807) : Calls Tryz.prog 184 #[.string (bs l), .string (bs p)] w fun e w' => e = .returned (.string (bs (Lib.trimSuffix l p))) ∧ w = w' :=
  (Tryz.strings_TrimSuffix (bs l) (bs p) w (by rw [bs_size]; exact hl)).mono fun _ _ ⟨h, k⟩ => ⟨h, k.symm⟩

theorem trimSuffix_len (a b : List UInt8) : (Lib.trimSuffix a b).length ≤ a.length := by unfold Lib.trimSuffix; split <;> simp

theorem text_any (l : List UInt8) (w : World) (hl : l.length ≤ 1099511627776) : Calls Tryz.prog 134 #[.string (bs l)] w fun e w' => e = .returned (.string (bs (textL l))) ∧ w = w' := by
  have h1 := trimSuffix_len l [10]
  unfold textL
  obtain ⟨b, hb⟩ : ∃ b, Lib.hasSuffix l [10] = b := ⟨_, rfl⟩
  obtain ⟨t, ht⟩ : ∃ t, Lib.trimSuffix l [10] = t := ⟨_, rfl⟩
  rw [ht] at h1
  have hno : b = false → t = l := by
    rintro rfl
    rw [← ht]; unfold Lib.trimSuffix; rw [hb]; rfl
  rw [hb, ht]
  have HB := Lib.hid hb
  have HT := Lib.hid ht
  clear hb ht
  cases b
  · obtain rfl := hno rfl
    go_enter Tryz.func134, Tryz.ntmps134
    go_wp2_with fail
    refine (cutSuffix_any _ [10] _ (by omega)).mono ?_
    rintro e w' ⟨rfl, rfl⟩
    rw [HB.out, HT.out]
    go_wp2
    go_ret
    exact ⟨rfl, rfl⟩
  · clear hno
    go_enter Tryz.func134, Tryz.ntmps134
    go_wp2_with fail
    refine (cutSuffix_any l [10] _ (by omega)).mono ?_
    rintro e w' ⟨rfl, rfl⟩
    rw [HB.out, HT.out]
    go_wp2_with fail
    refine (trimSuffix_any t [13] _ (by omega)).mono ?_
    rintro e w' ⟨rfl, rfl⟩
    go_wp2
    go_ret
    exact ⟨rfl, rfl⟩

theorem goesOn_any (t : List UInt8) (w : World) : Calls Tryz.prog 136 #[.string (bs t)] w fun e w' => e = .returned (.bool (goesB t)) ∧ w = w' := by
  cases t with
  | nil =>
    go_enter Tryz.func136, Tryz.ntmps136
    go_wp2
    go_ret
    exact ⟨rfl, rfl⟩
  | cons c r =>
    have hx : (bs (c :: r))[0]'(by rw [bs_size]; simp) = c := rfl
    have hib : Lib.indexByte [32, 9] c = if c = 32 then 0 else if c = 9 then 1 else -1 := by
      by_cases h1 : c = 32
      · subst h1; rfl
      · have e1 : ((32 : UInt8) == c) = false := by simpa using fun e : (32 : UInt8) = c => h1 e.symm
        by_cases h2 : c = 9
        · subst h2; rfl
        · have e2 : ((9 : UInt8) == c) = false := by simpa using fun e : (9 : UInt8) = c => h2 e.symm
          simp [Lib.indexByte, e1, e2, h1, h2]
    have hcall : Calls Tryz.prog 182 #[.string ⟨#[32, 9]⟩, .int .u8 (c.toNat : Int)] w fun e w' => e = .returned (.int .i64 (if c = 32 then 0 else if c = 9 then 1 else -1)) ∧ w = w' := by
      refine (Tryz.strings_IndexByte ⟨#[32, 9]⟩ (c.toNat : Int) w).mono fun _ _ ⟨h, k⟩ => ⟨?_, k.symm⟩
      rw [h, ← hib]
      simp
    have HC := Lib.hid hcall
    unfold goesB blankB
    clear hib hcall
    by_cases h1 : c = 32
    · subst h1
      go_enter Tryz.func136, Tryz.ntmps136
      go_wp2_with fail
      refine HC.out.mono ?_
      rintro e w' ⟨rfl, rfl⟩
      go_wp2
      go_ret
      exact ⟨rfl, rfl⟩
    · by_cases h2 : c = 9
      · subst h2
        go_enter Tryz.func136, Tryz.ntmps136
        go_wp2_with fail
        refine HC.out.mono ?_
        rintro e w' ⟨rfl, rfl⟩
        go_wp2
        go_ret
        exact ⟨rfl, rfl⟩
      · go_enter Tryz.func136, Tryz.ntmps136
        go_wp2_with fail
        refine HC.out.mono ?_
        rintro e w' ⟨rfl, rfl⟩
        rw [if_neg h1, if_neg h2]
        go_wp2
        go_ret
        exact ⟨by simp [h1, h2], rfl⟩

theorem index58 (t : List UInt8) : Lib.indexByte t 58 = match cutC t with | none => -1 | some (a, _) => (a.length : Int) := by
  induction t with
  | nil => rfl
  | cons c t ih =>
    unfold Lib.indexByte cutC
    by_cases hc : c = 58
    · simp [hc]
    · simp only [beq_iff_eq, hc, if_false]
      cases hq : cutC t with
      | none => rw [hq] at ih; simp [ih]
      | some p =>
        obtain ⟨a, b⟩ := p
        rw [hq] at ih
        simp only at ih
        rw [ih, if_neg (by omega)]
        simp
theorem cutC_some {t a r : List UInt8} (e : cutC t = some (a, r)) : t = a ++ 58 :: r := by
  induction t generalizing a r with
  | nil => simp [cutC] at e
  | cons c t ih =>
    unfold cutC at e
    by_cases hc : c = 58
    · rw [if_pos hc] at e
      obtain ⟨rfl, rfl⟩ := Prod.mk.inj (Option.some.inj e)
      simp [hc]
    · rw [if_neg hc] at e
      cases hq : cutC t with
      | none => rw [hq] at e; cases e
      | some p =>
        obtain ⟨x, y⟩ := p
        rw [hq] at e
        obtain ⟨rfl, rfl⟩ := Prod.mk.inj (Option.some.inj e)
        rw [ih hq]; rfl

theorem index_one (t : List UInt8) (w : World) : Calls Tryz.prog 80 #[.string (bs t), .string (bs [58])] w fun e w' => e = .returned (.int .i64 (match cutC t with | none => -1 | some (a, _) => (a.length : Int))) ∧ w = w' :=
  (Tryz.stringslite_Index_one (bs t) 58 w).mono fun _ _ ⟨h, k⟩ => ⟨by rw [h, ← index58], k.symm⟩

theorem cutl_some (t a r : List UInt8) (w : World) (hc : cutC t = some (a, r)) (hl : t.length ≤ 1099511627776) : Calls Tryz.prog 189 #[.string (bs t), .string (bs [58])] w fun e w' => e = .returned (.tuple #[.string (bs a), .string (bs r), .bool true]) ∧ Below w.heap.size w w' := by
  have hi := index_one t
  rw [hc] at hi
  have ht := cutC_some hc
  have htl : t.length = a.length + 1 + r.length := by rw [ht]; simp; omega
  have h1 := run_to t a.length (by omega)
  have h2 := run_from t (a.length + 1) (by omega)
  rw [show t.take a.length = a by rw [ht]; simp] at h1
  rw [show t.drop (a.length + 1) = r by rw [ht, show a ++ 58 :: r = (a ++ [58]) ++ r by simp]; exact List.drop_left' (by simp), show ((a.length + 1 : Nat) : Int) = (a.length : Int) + 1 by simp] at h2
  have hal : a.length + 1 ≤ t.length := by omega
  have HI := Lib.hid hi
  have d0 : decide (0 ≤ (a.length : Int)) = true := by simp
  clear hi hc ht htl
  go_enter Tryz.func189, Tryz.ntmps189
  go_wp2_with fail
  refine (HI.out _).mono ?_
  rintro e w' ⟨rfl, rfl⟩
  go_wp2
  go_quiet (fail)
  go_wp2
  go_ret3
  exact ⟨rfl, below_drewN (Below.refl _ _) _⟩
theorem cutl_none (t : List UInt8) (w : World) (hc : cutC t = none) : Calls Tryz.prog 189 #[.string (bs t), .string (bs [58])] w fun e w' => e = .returned (.tuple #[.string (bs t), .string (bs []), .bool false]) ∧ Below w.heap.size w w' := by
  have hi := index_one t
  rw [hc] at hi
  have HI := Lib.hid hi
  clear hi hc
  go_enter Tryz.func189, Tryz.ntmps189
  go_wp2_with fail
  refine (HI.out _).mono ?_
  rintro e w' ⟨rfl, rfl⟩
  go_wp2
  go_ret3
  exact ⟨rfl, Below.refl _ _⟩
theorem cut_some (t a r : List UInt8) (w : World) (hc : cutC t = some (a, r)) (hl : t.length ≤ 1099511627776) : Calls Tryz.prog 148 #[.string (bs t), .string (bs [58])] w fun e w' => e = .returned (.tuple #[.string (bs a), .string (bs r), .bool true]) ∧ Below w.heap.size w w' := by
  have HC := Lib.hid hc
  clear hc
  go_enter Tryz.func148, Tryz.ntmps148
  go_wp2_with fail
  refine (cutl_some t a r _ HC.out hl).mono ?_
  rintro e w' ⟨rfl, hb⟩
  go_wp2
  go_ret3
  exact ⟨rfl, hb⟩
theorem cut_none (t : List UInt8) (w : World) (hc : cutC t = none) : Calls Tryz.prog 148 #[.string (bs t), .string (bs [58])] w fun e w' => e = .returned (.tuple #[.string (bs t), .string (bs []), .bool false]) ∧ Below w.heap.size w w' := by
  have HC := Lib.hid hc
  clear hc
  go_enter Tryz.func148, Tryz.ntmps148
  go_wp2_with fail
  refine (cutl_none t _ HC.out).mono ?_
  rintro e w' ⟨rfl, hb⟩
  go_wp2
  go_ret3
  exact ⟨rfl, hb⟩

theorem ok_bounds (c : UInt8) : okC c = true ↔ 33 ≤ (c.toNat : Int) ∧ (c.toNat : Int) ≤ 126 := by unfold okC; simp; omega

/-- the loop of name over the bytes ahead of the ":" -/
def nameV (t : List UInt8) (e : Ending) (w w' : World) : Prop :=
  (match nameL t with
   | some (n, v) => e = .returned (.tuple #[.string (bs n), .string (bs v), .bool true])
   | none => ∃ x y, e = .returned (.tuple #[.string (bs x), .string (bs y), .bool false])) ∧ Below w.heap.size w w'

set_option maxRecDepth 100000 in
set_option maxHeartbeats 1000000 in
theorem name_any (t : List UInt8) (w : World) (hl : t.length ≤ 1099511627776) : Calls Tryz.prog 135 #[.string (bs t)] w fun e w' => nameV t e w w' := by
  obtain ⟨a, r, is, hcut, hal, hnm⟩ : ∃ (a r : List UInt8) (is : Bool), Hid (∀ w, Calls Tryz.prog 148 #[.string (bs t), .string (bs [58])] w fun e w' => e = .returned (.tuple #[.string (bs a), .string (bs r), .bool is]) ∧ Below w.heap.size w w') ∧ a.length ≤ t.length ∧ nameL t = if is = true ∧ a ≠ [] ∧ a.all okC = true then some (a, r) else none := by
    cases hc : cutC t with
    | none => exact ⟨t, [], false, fun w => cut_none t w hc, Nat.le_refl _, by unfold nameL; rw [hc]; simp⟩
    | some q =>
      obtain ⟨a, r⟩ := q
      refine ⟨a, r, true, fun w => cut_some t a r w hc hl, by rw [cutC_some hc]; simp, ?_⟩
      unfold nameL
      rw [hc]
      simp
  obtain ⟨R, hR⟩ : ∃ R, nameL t = R := ⟨_, rfl⟩
  unfold nameV
  rw [hR]
  rw [hR] at hnm
  have HN := Lib.hid hnm
  clear hnm hR
  go_enter Tryz.func135, Tryz.ntmps135
  go_wp2_with fail
  refine (hcut.out _).mono ?_
  rintro e w1 ⟨rfl, hb1⟩
  obtain ⟨cap, w2, hconv, hcells, hb2, hlt2⟩ := to_bytes a w1
  have HC := Lib.hid hcells
  clear hcells
  go_wp2
  clear hconv
  go_loop [9, 19] (fun _ i => ∃ k : Nat, k ≤ a.length ∧ i = .int .i64 k ∧ Hid (∀ j, j < k → okC (a.getD j 0) = true)) (fun _ i => a.length - (intOf i).toNat)
  case atStart => exact ⟨0, Nat.zero_le _, rfl, by intro j hj; omega⟩
  case round =>
    obtain ⟨k, hk, rfl, hok⟩ := hrel
    by_cases hlt : k < a.length
    · have hck := HC.out k hlt
      have hlt' : (k : Int) < a.length := by omega
      obtain ⟨c, hc⟩ : ∃ c, a.getD k 0 = c := ⟨_, rfl⟩
      rw [hc] at hck
      have hcm : c ∈ a := by rw [← hc, List.getD_eq_getElem?_getD, List.getElem?_eq_getElem hlt]; exact List.getElem_mem hlt
      have HK := Lib.hid hc
      clear hc
      by_cases ho : okC c = true
      · obtain ⟨o1, o2⟩ := (ok_bounds c).1 ho
        have HO := Lib.hid ho
        clear ho
        go_wp2
        go_round
        case rel =>
          refine ⟨k + 1, by omega, by go_num, ?_⟩
          intro j hj
          rcases Nat.lt_or_ge j k with h1 | h1
          · exact hok.out j h1
          · obtain rfl : j = k := by omega
            rw [HK.out]; exact HO.out
        case measure => simp [intOf]; omega
      · have hnone : R = none := by
          rw [HN.out, if_neg]
          rintro ⟨_, _, h⟩
          exact ho (List.all_eq_true.1 h c hcm)
        subst hnone
        have hb : (c.toNat : Int) < 33 ∨ 33 ≤ (c.toNat : Int) ∧ 126 < (c.toNat : Int) := by
          have := ok_bounds c
          rcases Int.lt_or_le (c.toNat : Int) 33 with h1 | h1
          · exact .inl h1
          · refine .inr ⟨h1, ?_⟩
            rcases Int.lt_or_le 126 (c.toNat : Int) with h2 | h2
            · exact h2
            · exact absurd (this.2 ⟨h1, h2⟩) ho
        clear ho hcm
        rcases hb with hb | ⟨hb, hb'⟩
        all_goals
          go_wp2
          go_ret3
          exact ⟨⟨[], [], rfl⟩, hb1.trans (hb2.mono hb1.size)⟩
    · obtain rfl : k = a.length := by omega
      have hall : a.all okC = true := by
        rw [List.all_eq_true]
        intro c hc
        obtain ⟨j, hj, rfl⟩ := List.mem_iff_getElem.1 hc
        have := hok.out j hj
        rwa [List.getD_eq_getElem?_getD, List.getElem?_eq_getElem hj] at this
      have hR2 := HN.out
      rw [hall] at hR2
      clear hall hok
      by_cases h0 : a = []
      · subst h0
        have hR3 : R = none := by rw [hR2]; simp
        subst hR3
        clear hR2
        cases is
        all_goals
          go_wp2
          go_ret3
          exact ⟨⟨_, _, rfl⟩, hb1.trans (hb2.mono hb1.size)⟩
      · have hne : (!a == []) = true := by simp [h0]
        have hne2 : a.isEmpty = false := by simp [h0]
        cases is
        · have hR3 : R = none := by rw [hR2]; simp
          subst hR3
          clear hR2 h0
          go_wp2
          go_ret3
          exact ⟨⟨_, _, rfl⟩, hb1.trans (hb2.mono hb1.size)⟩
        · have hR3 : R = some (a, r) := by rw [hR2, if_pos ⟨rfl, h0, rfl⟩]
          subst hR3
          clear hR2 h0
          go_wp2
          go_ret3
          exact ⟨rfl, hb1.trans (hb2.mono hb1.size)⟩

end Go.Proofs.YthnkgifbbemhfaaGreatDoor
