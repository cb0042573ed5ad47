/- The reference's Text, colon, blank, trim. -/
import Derived.Test.YtplmekfcnggigaaDoorH1
import Derived.LoopTactic
set_option linter.unusedVariables false
set_option linter.unusedSimpArgs false
namespace Go.Proofs.YtplmekfcnggigaaDoor
open Go.RowKit

theorem byte_ne {c d : UInt8} {n : Int} (hn : (d.toNat : Int) = n) (h : c ≠ d) : ((c.toNat : Int) == n) = false := by
  subst hn
  simp
  intro e
  exact h (UInt8.toNat_inj.1 (by omega))

theorem blank_any (c : UInt8) (w : World) : Calls Tryd.prog 30 #[.int .u8 (c.toNat : Int)] w fun e w' => e = .returned (.bool (blankB c)) ∧ w = w' := by
  unfold blankB
  by_cases h1 : c = 32
  · subst h1
    go_enter Tryd.func30, Tryd.ntmps30
    go_wp2
    go_ret
    exact ⟨rfl, rfl⟩
  · have e1 := byte_ne (d := 32) (n := 32) rfl h1
    by_cases h2 : c = 9
    · subst h2
      go_enter Tryd.func30, Tryd.ntmps30
      go_wp2
      go_ret
      exact ⟨rfl, rfl⟩
    · have e2 := byte_ne (d := 9) (n := 9) rfl h2
      have e3 : (c == 32 || c == 9) = false := by simp [h1, h2]
      rw [e3]
      clear h1 h2 e3
      go_enter Tryd.func30, Tryd.ntmps30
      go_wp2
      go_ret
      exact ⟨rfl, rfl⟩

theorem suffix_last (l : List UInt8) (c : UInt8) : Lib.hasSuffix (l ++ [c]) [10] = (c == 10) ∧ (Lib.trimSuffix (l ++ [c]) [10] = if c = 10 then l else l ++ [c]) := by
  have h : Lib.hasSuffix (l ++ [c]) [10] = (c == 10) := by
    unfold Lib.hasSuffix
    rw [Bool.eq_iff_iff, List.isSuffixOf_iff_suffix]
    simp only [beq_iff_eq]
    constructor
    · rintro ⟨t, ht⟩
      have := congrArg List.getLast? ht
      simpa using this.symm
    · rintro rfl; exact ⟨l, rfl⟩
  refine ⟨h, ?_⟩
  unfold Lib.trimSuffix
  rw [h]
  by_cases hc : c = 10
  · subst hc; simp
  · simp [hc]
theorem suffix_last13 (l : List UInt8) (c : UInt8) : Lib.trimSuffix (l ++ [c]) [13] = if c = 13 then l else l ++ [c] := by
  have h : Lib.hasSuffix (l ++ [c]) [13] = (c == 13) := by
    unfold Lib.hasSuffix
    rw [Bool.eq_iff_iff, List.isSuffixOf_iff_suffix]
    simp only [beq_iff_eq]
    constructor
    · rintro ⟨t, ht⟩
      have := congrArg List.getLast? ht
      simpa using this.symm
    · rintro rfl; exact ⟨l, rfl⟩
  unfold Lib.trimSuffix
  rw [h]
  by_cases hc : c = 13
  · subst hc; simp
  · simp [hc]

set_option maxRecDepth 100000 in
theorem refText_any (l : List UInt8) (w : World) (hl : l.length ≤ 1099511627776) : Calls Tryd.prog 28 #[.string (bs l)] w fun e w' => e = .returned (.string (bs (textL l))) ∧ w = w' := by
  rcases List.eq_nil_or_concat l with rfl | ⟨l1, c, rfl⟩
  · go_enter Tryd.func28, Tryd.ntmps28
    go_wp2
    go_ret
    exact ⟨rfl, rfl⟩
  · rw [List.concat_eq_append] at *
    obtain ⟨hs1, hs2⟩ := suffix_last l1 c
    have hlen : (l1 ++ [c]).length = l1.length + 1 := by simp
    have hl1 : l1.length + 1 ≤ 1099511627776 := by omega
    have hx : (bs (l1 ++ [c]))[l1.length]'(by rw [bs_size]; simp) = c := by
      show (l1 ++ [c])[l1.length]'(by simp) = c
      simp
    by_cases hc : c = 10
    · have ht : textL (l1 ++ [c]) = Lib.trimSuffix l1 [13] := by unfold textL; rw [hs1, hs2, if_pos hc]; simp [hc]
      rw [ht]
      subst hc
      have h1 : (bs (l1 ++ [10])).extract 0 l1.length = bs l1 := by rw [bs_take]; simp
      rcases List.eq_nil_or_concat l1 with rfl | ⟨l2, d, rfl⟩
      · clear hs1 hs2 ht hlen
        go_enter Tryd.func28, Tryd.ntmps28
        go_wp2
        go_ret
        exact ⟨rfl, rfl⟩
      · rw [List.concat_eq_append] at *
        rw [suffix_last13]
        clear hs1 hs2 ht hlen h1 hx
        have e0 : (l2 ++ [d]) ++ [10] = l2 ++ [d, 10] := by simp
        rw [e0]
        have hx : (bs (l2 ++ [d, 10]))[l2.length + 1]'(by rw [bs_size]; simp) = 10 := by
          show (l2 ++ [d, 10])[l2.length + 1]'(by simp) = 10
          simp
        have hy : (bs (l2 ++ [d, 10]))[l2.length]'(by rw [bs_size]; simp) = d := by
          show (l2 ++ [d, 10])[l2.length]'(by simp) = d
          simp
        simp only [List.length_append, List.length_singleton] at hl1
        clear hl e0
        by_cases hd : d = 13
        · subst hd
          rw [if_pos rfl]
          go_enter Tryd.func28, Tryd.ntmps28
          go_wp2
          go_ret
          exact ⟨congrArg (fun x => Ending.returned (Value.string x)) (show (bs (l2 ++ [13, 10])).extract 0 (l2.length + 2 - 1 - 1) = bs l2 by rw [bs_take]; simp), rfl⟩
        · rw [if_neg hd]
          have hd2 := byte_ne (d := 13) (n := 13) rfl hd
          go_enter Tryd.func28, Tryd.ntmps28
          go_wp2
          go_ret
          exact ⟨congrArg (fun x => Ending.returned (Value.string x)) (show (bs (l2 ++ [d, 10])).extract 0 (l2.length + 2 - 1) = bs (l2 ++ [d]) by rw [bs_take, show l2 ++ [d, 10] = (l2 ++ [d]) ++ [10] by simp, List.take_left' (by simp)]), rfl⟩
    · have ht : textL (l1 ++ [c]) = l1 ++ [c] := by unfold textL; rw [hs1]; simp [hc]
      rw [ht]
      have hc2 := byte_ne (d := 10) (n := 10) rfl hc
      have h1 : (bs (l1 ++ [c])).extract 0 (l1.length + 1) = bs (l1 ++ [c]) := by rw [bs_take, List.take_of_length_le (by simp)]
      clear hs1 hs2 ht hlen
      go_enter Tryd.func28, Tryd.ntmps28
      go_wp2
      go_ret
      exact ⟨rfl, rfl⟩

/-- where a field's name ends -/
def colonV (t : List UInt8) : Int := match nameL t with | some (n, _) => (n.length : Int) | none => -1

theorem nameL_colon (n r : List UInt8) (hn : ∀ c ∈ n, okC c = true ∧ c ≠ 58) : nameL (n ++ 58 :: r) = if n = [] then none else some (n, r) := by
  have hc : cutC (n ++ 58 :: r) = some (n, r) := by
    induction n with
    | nil => simp [cutC]
    | cons c n ih =>
      have h := hn c (by simp)
      simp [cutC, h.2, ih (fun x hx => hn x (by simp [hx]))]
  unfold nameL
  rw [hc]
  have ha : n.all okC = true := List.all_eq_true.2 fun c h => (hn c h).1
  by_cases h0 : n = [] <;> simp [h0, ha]
theorem nameL_bad (n r : List UInt8) (c : UInt8) (hn : ∀ c ∈ n, okC c = true ∧ c ≠ 58) (hc : okC c = false) (hc2 : c ≠ 58) : nameL (n ++ c :: r) = none := by
  unfold nameL
  cases hq : cutC (n ++ c :: r) with
  | none => rfl
  | some p =>
    obtain ⟨a, b⟩ := p
    have h := cutC_some hq
    simp only
    rw [if_neg]
    rintro ⟨_, h2⟩
    have hlen : n.length < a.length := by
      rcases Nat.lt_or_ge n.length a.length with h3 | h3
      · exact h3
      · have := congrArg (fun l => l[a.length]?) h
        rw [List.getElem?_append_right (Nat.le_refl _), Nat.sub_self] at this
        rcases Nat.lt_or_ge a.length n.length with h4 | h4
        · rw [List.getElem?_append_left h4] at this
          exact absurd rfl (hn 58 (List.mem_of_getElem? this)).2
        · have h5 : a.length = n.length := by omega
          rw [h5, List.getElem?_append_right (Nat.le_refl _), Nat.sub_self] at this
          simp at this
          exact absurd this hc2
    have hca : c ∈ a := by
      have := congrArg (fun l => l[n.length]?) h
      rw [List.getElem?_append_right (Nat.le_refl _), Nat.sub_self, List.getElem?_append_left hlen] at this
      exact List.mem_of_getElem? this.symm
    rw [List.all_eq_true.1 h2 c hca] at hc
    cases hc
theorem nameL_end (n : List UInt8) (hn : ∀ c ∈ n, okC c = true ∧ c ≠ 58) : nameL n = none := by
  have hc : cutC n = none := by
    induction n with
    | nil => rfl
    | cons c n ih =>
      have h := hn c (by simp)
      simp [cutC, h.2, ih (fun x hx => hn x (by simp [hx]))]
  unfold nameL
  rw [hc]

set_option maxRecDepth 100000 in
set_option maxHeartbeats 1000000 in
theorem colon_any (t : List UInt8) (w : World) (hl : t.length ≤ 1099511627776) : Calls Tryd.prog 29 #[.string (bs t)] w fun e w' => e = .returned (.int .i64 (colonV t)) ∧ w = w' := by
  obtain ⟨V, hV⟩ : ∃ V, colonV t = V := ⟨_, rfl⟩
  rw [hV]
  unfold colonV at hV
  have HV := Lib.hid hV
  clear hV
  go_enter Tryd.func29, Tryd.ntmps29
  go_wp2
  go_loop [3] (fun i => ∃ k : Nat, k ≤ t.length ∧ i = .int .i64 k ∧ Hid (∀ c ∈ t.take k, okC c = true ∧ c ≠ 58)) (fun i => t.length - (intOf i).toNat)
  case atStart => exact ⟨0, Nat.zero_le _, rfl, by intro c hc; simp at hc⟩
  case round =>
    obtain ⟨k, hk, rfl, hok⟩ := hrel
    by_cases hlt : k < t.length
    · obtain ⟨c, hc⟩ : ∃ c, (bs t)[k]'(by rw [bs_size]; exact hlt) = c := ⟨_, rfl⟩
      have hsp : t = t.take k ++ c :: t.drop (k + 1) := by
        conv => lhs; rw [← List.take_append_drop k t, List.drop_eq_getElem_cons hlt, show t[k] = c from hc]
      have htk : (t.take k).length = k := by simp; omega
      have HSP := Lib.hid hsp
      have HTK := Lib.hid htk
      clear hsp htk
      by_cases h58 : c = 58
      · have hn := nameL_colon _ (t.drop (k + 1)) hok.out
        have HV2 := HV.out
        rw [HSP.out, h58, hn] at HV2
        by_cases h0 : k = 0
        · have hV2 : V = -1 := by rw [← HV2, if_pos (by rw [h0]; rfl)]
          subst hV2
          subst h58
          subst h0
          clear hn HV2
          go_wp2
          go_ret
          exact ⟨rfl, rfl⟩
        · have hV2 : V = k := by
            rw [← HV2, if_neg (by intro e; have := congrArg List.length e; rw [HTK.out] at this; exact h0 this)]
            simp only
            rw [HTK.out]
          subst hV2
          subst h58
          have hz : ((k : Int) == 0) = false := by rw [beq_eq_false_iff_ne]; omega
          clear hn HV2
          go_wp2
          go_ret
          exact ⟨rfl, rfl⟩
      · have hne := byte_ne (d := 58) (n := 58) rfl h58
        by_cases ho : okC c = true
        · obtain ⟨o1, o2⟩ := (ok_bounds c).1 ho
          have HO := Lib.hid ho
          clear ho
          go_wp2
          go_round
          case rel =>
            refine ⟨k + 1, by omega, by go_num, ?_⟩
            intro x hx
            rw [List.take_add_one, List.getElem?_eq_getElem hlt, show t[k] = c from hc] at hx
            rcases List.mem_append.1 hx with hx | hx
            · exact hok.out x hx
            · have : x = c := by simpa using hx
              rw [this]; exact ⟨HO.out, h58⟩
          case measure => simp [intOf]; omega
        · have hV2 : V = -1 := by
            have := HV.out
            rw [HSP.out, nameL_bad _ _ c hok.out (by simpa using ho) h58] at this
            exact this.symm
          subst hV2
          have hb : (c.toNat : Int) < 33 ∨ 33 ≤ (c.toNat : Int) ∧ 126 < (c.toNat : Int) := by
            have := ok_bounds c
            rcases Int.lt_or_le (c.toNat : Int) 33 with h1 | h1
            · exact .inl h1
            · refine .inr ⟨h1, ?_⟩
              rcases Int.lt_or_le 126 (c.toNat : Int) with h2 | h2
              · exact h2
              · exact absurd (this.2 ⟨h1, h2⟩) ho
          clear ho h58
          rcases hb with hb | ⟨hb, hb'⟩
          all_goals
            go_wp2
            go_ret
            exact ⟨rfl, rfl⟩
    · obtain rfl : k = t.length := by omega
      have hV2 : V = -1 := by
        have := HV.out
        rw [List.take_length] at hok
        rw [nameL_end _ hok.out] at this
        exact this.symm
      subst hV2
      go_wp2
      go_ret
      exact ⟨rfl, rfl⟩

end Go.Proofs.YtplmekfcnggigaaDoor
