/- The laws QuoteMessages, QuoteTwice, QuoteBack. -/
import Derived.Test.YtbaekebhnlonnaaDoorQA
import Derived.Test.YtbaekebhnlonnaaDoorQ8
set_option linter.unusedVariables false
set_option linter.unusedSimpArgs false
namespace Go.Proofs.YtbaekebhnlonnaaDoor
open Go.RowKit

theorem quoteMessages_list (l : List UInt8) (w : World) : Calls Tryd.prog 6 #[.string (bs l)] w fun e w' => e = .returned (.bool true) ∧ Below w.heap.size w w' := by
  by_cases hl : l.length ≤ 20000
  · have he := encode_length l
    go_enter Tryd.func6, Tryd.ntmps6
    go_wp2_with fail
    refine (alive_any _).mono ?_
    rintro e w1 ⟨rfl, hb1⟩
    go_wp2_with fail
    refine (refEncode_any l _ (by omega)).mono ?_
    rintro e w2 ⟨rfl, hb2⟩
    have hz1 := hb1.trans (hb2.mono hb1.size)
    go_wp2_with fail
    refine (encode_any l _ (by omega)).mono ?_
    rintro e w3 ⟨rfl, hb3⟩
    have hz2 := hz1.trans (hb3.mono hz1.size)
    go_wp2_with fail
    refine (size_any l _ (by omega)).mono ?_
    rintro e w4 ⟨rfl, hb4⟩
    have hz3 := hz2.trans (hb4.mono hz2.size)
    go_wp2
    go_ret
    exact ⟨rfl, hz3⟩
  · have hl' : 20000 < l.length := by omega
    go_enter Tryd.func6, Tryd.ntmps6
    go_wp2_with fail
    refine (alive_any _).mono ?_
    rintro e w1 ⟨rfl, hb1⟩
    go_wp2
    go_ret
    exact ⟨rfl, hb1⟩

theorem quoteMessages_any (s : ByteArray) (w : World) (_ : s.size ≤ 9223372036854775807) : Calls Tryd.prog 6 #[.string s] w fun e w' => e = .returned (.bool true) ∧ Below w.heap.size w w' :=
  quoteMessages_list s.data.toList w

/-- quoted n times -/
def quotes : Nat → List UInt8 → List UInt8
  | 0, l => l
  | n + 1, l => quoteL (quotes n l)
def unquotes : Nat → List UInt8 → List UInt8
  | 0, l => l
  | n + 1, l => unquoteL (unquotes n l)
theorem quotes_len (n : Nat) (l : List UInt8) : (quotes n l).length ≤ l.length + n := by
  induction n with
  | zero => simp [quotes]
  | succ n ih => have := (quote_length (quotes n l)).2; unfold quotes; omega
theorem unquotes_len (n : Nat) (l : List UInt8) : (unquotes n l).length ≤ l.length := by
  induction n with
  | zero => simp [unquotes]
  | succ n ih => have := unquote_length (unquotes n l); unfold unquotes; omega
theorem unquotes_in (n : Nat) (l : List UInt8) : unquotes (n + 1) l = unquotes n (unquoteL l) := by
  induction n with
  | zero => rfl
  | succ n ih => show unquoteL (unquotes (n + 1) l) = unquoteL (unquotes n (unquoteL l)); rw [ih]
theorem unquotes_quotes (n : Nat) (l : List UInt8) : unquotes n (quotes n l) = l := by
  induction n with
  | zero => rfl
  | succ n ih => rw [unquotes_in]; show unquotes n (unquoteL (quoteL (quotes n l))) = l; rw [unquote_quote, ih]

theorem mod_20 (n : Int) : ∃ N : Nat, N < 20 ∧ wrap64 ((IntKind.u64.wrap n).tmod 20) = (N : Int) := by
  rw [IntKind.wrap_u64, Int.tmod_eq_emod_of_nonneg (by omega)]
  exact ⟨(n % 18446744073709551616 % 20).toNat, by omega, by unfold wrap64; omega⟩

set_option maxRecDepth 100000 in
set_option maxHeartbeats 2000000 in
theorem quoteTwice_list (l : List UInt8) (n : Int) (w : World) : Calls Tryd.prog 5 #[.string (bs l), .int .i64 n] w fun e w' => e = .returned (.bool true) ∧ Below w.heap.size w w' := by
  by_cases hl : l.length ≤ 2000
  · obtain ⟨N, hN, eN⟩ := mod_20 n
    have EN := Lib.hid eN
    have hqu := unquotes_quotes N l
    have HQU := Lib.hid hqu
    have hqN := quotes_len N l
    clear eN hqu
    go_enter Tryd.func5, Tryd.ntmps5
    go_wp2_with fail
    refine (alive_any _).mono ?_
    rintro e w1 ⟨rfl, hb1⟩
    go_wp2
    rw [EN.out]
    go_loop [5, 19] (fun s i => ∃ m : Nat, m ≤ N ∧ i = .int .i64 m ∧ s = .string (bs (quotes m l))) (fun _ i => N - (intOf i).toNat)
    case atStart => exact ⟨0, Nat.zero_le _, rfl, rfl⟩
    case round =>
      obtain ⟨m, hm, rfl, rfl⟩ := hrel
      have hlen := quotes_len m l
      by_cases hlt : m < N
      · go_wp2_with fail
        refine (quote_any (quotes m l) _ (by omega)).mono ?_
        rintro e w' ⟨rfl, rfl⟩
        go_wp2
        go_round
        case rel => exact ⟨m + 1, by omega, by go_num, rfl⟩
        case measure => simp [intOf]; omega
      · obtain rfl : m = N := by omega
        go_wp2
        go_loop [5, 25] (fun s i => ∃ k : Nat, k ≤ m ∧ i = .int .i64 k ∧ s = .string (bs (unquotes k (quotes m l)))) (fun _ i => m - (intOf i).toNat)
        case atStart => exact ⟨0, Nat.zero_le _, rfl, rfl⟩
        case round =>
          obtain ⟨k, hk, rfl, rfl⟩ := hrel
          have hlen2 := unquotes_len k (quotes m l)
          by_cases hlt2 : k < m
          · go_wp2_with fail
            refine (unquote_any (unquotes k (quotes m l)) _ (by omega)).mono ?_
            rintro e w' ⟨rfl, rfl⟩
            go_wp2
            go_round
            case rel => exact ⟨k + 1, by omega, by go_num, rfl⟩
            case measure => simp [intOf]; omega
          · obtain rfl : k = m := by omega
            rw [HQU.out]
            obtain ⟨L, hL⟩ : ∃ L, looks l = L := ⟨_, rfl⟩
            obtain ⟨D, hD⟩ : ∃ D, headM l = D := ⟨_, rfl⟩
            have hs : sepB l = (L && !D) := by unfold sepB; rw [hL, hD]
            have hq : quotedB l = (L && D) := by unfold quotedB; rw [hL, hD]
            have hqt : quoteL l = if L then 62 :: l else l := by unfold quoteL; rw [hL]
            have HS := Lib.hid hs
            have HQ := Lib.hid hq
            have HT := Lib.hid hqt
            clear hs hq hqt hL hD
            go_wp2_with fail
            refine (looks_any l _ (by omega)).mono ?_
            rintro e w' ⟨rfl, rfl⟩
            rw [HS.out, HQ.out]
            cases L
            · go_wp2_with fail
              refine (quote_any l _ (by omega)).mono ?_
              rintro e w' ⟨rfl, rfl⟩
              rw [HT.out]
              go_wp2
              go_ret
              exact ⟨rfl, hb1⟩
            · cases D
              all_goals
                go_wp2
                go_ret
                exact ⟨rfl, hb1⟩
  · have hl' : 2000 < l.length := by omega
    go_enter Tryd.func5, Tryd.ntmps5
    go_wp2_with fail
    refine (alive_any _).mono ?_
    rintro e w1 ⟨rfl, hb1⟩
    go_wp2
    go_ret
    exact ⟨rfl, hb1⟩

theorem quoteTwice_any (s : ByteArray) (n : Int) (w : World) (_ : s.size ≤ 9223372036854775807) : Calls Tryd.prog 5 #[.string s, .int .i64 n] w fun e w' => e = .returned (.bool true) ∧ Below w.heap.size w w' :=
  quoteTwice_list s.data.toList n w

set_option maxRecDepth 100000 in
set_option maxHeartbeats 2000000 in
theorem quoteBack_list (l : List UInt8) (w : World) : Calls Tryd.prog 4 #[.string (bs l)] w fun e w' => e = .returned (.bool true) ∧ Below w.heap.size w w' := by
  by_cases hl : l.length ≤ 20000
  · obtain ⟨m, hm⟩ : ∃ m, ((linesOf l).map quoteL).flatten = m := ⟨_, rfl⟩
    have he : encodeL l = m ++ [10] := by unfold encodeL; rw [hm]
    have hel := encode_length l
    have hns := encode_nosep l
    have hdec := decode_encode l
    rw [hm] at hdec
    rw [he] at hel hns
    have hbg := begins_nosep _ hns
    have hml : m.length + 1 ≤ 40001 := by have := hel.2; simp at this; omega
    have hml2 : l.length ≤ m.length := by have := hel.1; simp at this; omega
    have HE := Lib.hid he
    have HD := Lib.hid hdec
    have HN := Lib.hid hns
    have HG := Lib.hid hbg
    clear he hdec hns hbg hm hel
    go_enter Tryd.func4, Tryd.ntmps4
    go_wp2_with fail
    refine (alive_any _).mono ?_
    rintro e w1 ⟨rfl, hb1⟩
    go_wp2_with fail
    refine (encode_any l _ (by omega)).mono ?_
    rintro e w2 ⟨rfl, hb2⟩
    rw [HE.out]
    have hz2 := hb1.trans (hb2.mono hb1.size)
    go_wp2_with fail
    refine (decode_good m _ (by omega) HN.out).mono ?_
    rintro e w3 ⟨rfl, hb3⟩
    rw [HD.out]
    have hz3 := hz2.trans (hb3.mono hz2.size)
    obtain ⟨t, ht⟩ : ∃ t, m ++ [10] = t := ⟨_, rfl⟩
    have htl : t.length = m.length + 1 := by rw [← ht]; simp
    rw [ht] at HG ⊢
    have hlss : decide ((t.length : Int) < (l.length : Int) + 1) = false := by simp; omega
    have htb : t.length ≤ 40001 := by omega
    clear ht htl HN HE HD
    go_wp2
    go_loop [6, 7, 8, 38] (fun _ _ _ c => ∃ k : Nat, k ≤ t.length ∧ c = .int .i64 k) (fun _ _ _ c => t.length - (intOf c).toNat)
    case atStart => exact ⟨0, Nat.zero_le _, rfl⟩
    case round =>
      obtain ⟨k, hk, rfl⟩ := hrel
      by_cases hlt : k < t.length
      · have hsl := run_from t k (by omega)
        have hls : (t.drop k).length ≤ 140737488355328 := by simp; omega
        by_cases h0 : k = 0
        · have hsep := HG.out k hlt (.inl h0)
          subst h0
          rw [List.drop_zero] at hsep hls
          have HS := Lib.hid hsep
          have hx : (bs t).extract 0 t.length = bs t := by rw [bs_take, List.take_length]
          clear hsep hsl
          go_wp2_with fail
          refine (looks_any t _ hls).mono ?_
          rintro e w' ⟨rfl, rfl⟩
          rw [HS.out]
          go_wp2
          go_round
          case rel => exact ⟨1, by omega, rfl⟩
          case measure => simp [intOf]; omega
        · obtain ⟨c, hc⟩ : ∃ c, (bs t)[k - 1]'(by rw [bs_size]; omega) = c := ⟨_, rfl⟩
          have hc2 : t[k - 1]? = some c := List.getElem?_eq_some_iff.2 ⟨by omega, hc⟩
          have e1 : (k : Int) - 1 = ((k - 1 : Nat) : Int) := by omega
          have h1 : 1 ≤ k := by omega
          by_cases h10 : c = 10
          · have hsep := HG.out k hlt (.inr (by rw [hc2, h10]))
            have HS := Lib.hid hsep
            subst h10
            clear hsep hc2
            go_wp2_with fail
            refine (looks_any (t.drop k) _ hls).mono ?_
            rintro e w' ⟨rfl, rfl⟩
            rw [HS.out]
            go_wp2
            go_round
            case rel => exact ⟨k + 1, by omega, by go_num⟩
            case measure => simp [intOf]; omega
          · have hnb : ((c.toNat : Int) != 10) = true := by
              have hz : ((c.toNat : Int) == 10) = false := by
                simp
                intro e
                exact h10 (UInt8.toNat_inj.1 (by rw [show (10 : UInt8).toNat = 10 from rfl]; omega))
              rw [bne, hz]; rfl
            clear hc2 h10
            go_wp2
            go_round
            case rel => exact ⟨k + 1, by omega, by go_num⟩
            case measure => simp [intOf]; omega
      · obtain rfl : k = t.length := by omega
        go_wp2
        go_ret
        exact ⟨rfl, hz3⟩
  · have hl' : 20000 < l.length := by omega
    go_enter Tryd.func4, Tryd.ntmps4
    go_wp2_with fail
    refine (alive_any _).mono ?_
    rintro e w1 ⟨rfl, hb1⟩
    go_wp2
    go_ret
    exact ⟨rfl, hb1⟩

theorem quoteBack_any (s : ByteArray) (w : World) (_ : s.size ≤ 9223372036854775807) : Calls Tryd.prog 4 #[.string s] w fun e w' => e = .returned (.bool true) ∧ Below w.heap.size w w' :=
  quoteBack_list s.data.toList w

end Go.Proofs.YtbaekebhnlonnaaDoor
