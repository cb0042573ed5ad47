/- section: number of any text. -/
import Derived.Test.YtgkbigbekmkobaaDoorK6
set_option linter.unusedVariables false
set_option linter.unusedSimpArgs false
namespace Go.Proofs.YtgkbigbekmkobaaDoor
open Go.RowKit

def digB (c : UInt8) : Bool := decide (48 ≤ (c.toNat : Int)) && decide ((c.toNat : Int) ≤ 57)
def valI (l : List UInt8) : Int := l.foldl (fun n c => 10 * n + ((c.toNat : Int) - 48)) 0
theorem valI_snoc (l : List UInt8) (c : UInt8) : valI (l ++ [c]) = 10 * valI l + ((c.toNat : Int) - 48) := by simp [valI]
/-- the number of digits; 0: none -/
def numL (s : List UInt8) : Int := if s = [] ∨ s.head? = some 48 ∨ 3 < s.length ∨ s.all digB = false then 0 else valI s
theorem digB_iff {c : UInt8} : digB c = true ↔ (48 : Int) ≤ c.toNat ∧ (c.toNat : Int) ≤ 57 := by simp [digB]

set_option maxRecDepth 100000 in
set_option maxHeartbeats 1000000 in
theorem number_any (s : List UInt8) (w : World) (hs : s.length ≤ 1099511627776) : Calls Tryd.prog 18 #[.string (bs s)] w fun e w' => e = .returned (.int .i64 (numL s)) ∧ Below w.heap.size w w' := by
  obtain ⟨A, hA⟩ : ∃ A, numL s = A := ⟨_, rfl⟩
  rw [hA]
  unfold numL at hA
  cases s with
  | nil =>
    rw [if_pos (.inl rfl)] at hA
    subst hA
    go_enter Tryd.func18, Tryd.ntmps18
    go_wp2
    go_ret
    exact ⟨rfl, Below.refl _ _⟩
  | cons c t =>
    have hx : (bs (c :: t))[0]'(by rw [bs_size]; simp) = c := rfl
    by_cases h0 : c = 48
    · rw [if_pos (.inr (.inl (by rw [h0]; rfl)))] at hA
      subst hA
      have d0 : ((c.toNat : Int) == 48) = true := by rw [h0]; rfl
      clear h0
      go_enter Tryd.func18, Tryd.ntmps18
      go_wp2
      go_ret
      exact ⟨rfl, Below.refl _ _⟩
    have d0 : ((c.toNat : Int) == 48) = false := beq_eq_false_iff_ne.2 (fun h => h0 (by
      apply UInt8.toNat_inj.1
      show c.toNat = 48
      omega))
    by_cases h3 : 3 < (c :: t).length
    · rw [if_pos (.inr (.inr (.inl h3)))] at hA
      subst hA
      simp only [List.length_cons] at h3
      clear h0
      go_enter Tryd.func18, Tryd.ntmps18
      go_wp2
      go_ret
      exact ⟨rfl, Below.refl _ _⟩
    have hA2 : A = if (c :: t).all digB = false then 0 else valI (c :: t) := by
      rw [← hA]
      by_cases h : (c :: t).all digB = false
      · rw [if_pos (.inr (.inr (.inr h))), if_pos h]
      · rw [if_neg, if_neg h]
        rintro (h1 | h1 | h1 | h1)
        · cases h1
        · exact h0 (by simpa using h1)
        · exact h3 h1
        · exact h h1
    have HA := Lib.hid hA2
    clear hA hA2 h0
    obtain ⟨cap, w2, hconv, hcells, hb2, hlt2⟩ := to_bytes (c :: t) w
    have HC := Lib.hid hcells
    simp only [List.length_cons] at hconv
    have h3' : (t.length : Int) + 1 ≤ 3 := by simp only [List.length_cons] at h3; omega
    have h3n : t.length + 1 ≤ 3 := by omega
    clear hcells h3
    go_enter Tryd.func18, Tryd.ntmps18
    go_wp2
    clear hconv hx d0
    go_loop [3, 21] (fun n i => ∃ (k : Nat) (N : Int), k ≤ t.length + 1 ∧ i = .int .i64 k ∧ n = .int .i64 N ∧ Hid (valI ((c :: t).take k) = N) ∧ Hid (((c :: t).take k).all digB = true) ∧ 0 ≤ N ∧ N < 10 ^ k) (fun _ i => t.length + 1 - (intOf i).toNat)
    case atStart => exact ⟨0, 0, Nat.zero_le _, rfl, rfl, by show _ = _; rfl, by show _ = _; rfl, by decide, by decide⟩
    case round =>
      obtain ⟨k, N, hk, rfl, rfl, hN, hd, hN0, hN1⟩ := hrel
      by_cases hlt : k < t.length + 1
      · have hck := HC.out k (by simpa using hlt)
        obtain ⟨d, hdd⟩ : ∃ d, (c :: t).getD k 0 = d := ⟨_, rfl⟩
        rw [hdd] at hck
        have hsome : (c :: t)[k]? = some d := by rw [← hdd]; simp only [List.getD]; rw [List.getElem?_eq_getElem (by simpa using hlt)]; rfl
        have htk : (c :: t).take (k + 1) = (c :: t).take k ++ [d] := by rw [List.take_add_one, hsome]; rfl
        have hlt' : (k : Int) < (t.length : Int) + 1 := by omega
        have hNb : N < 1000 := by
          rcases (by omega : k = 0 ∨ k = 1 ∨ k = 2) with rfl | rfl | rfl <;> simp at hN1 <;> omega
        by_cases hg : digB d = true
        · obtain ⟨g1, g2⟩ := digB_iff.1 hg
          have hv : Hid (valI ((c :: t).take (k + 1)) = 10 * N + ((d.toNat : Int) - 48)) := by show _ = _; rw [htk, valI_snoc, hN.out]
          have ha : Hid (((c :: t).take (k + 1)).all digB = true) := by show _ = _; rw [htk, List.all_append, hd.out]; simp [hg]
          have hb : 10 * N + ((d.toNat : Int) - 48) < 10 ^ (k + 1) := by rw [Int.pow_succ]; omega
          have HB := Lib.hid hb
          clear htk hsome hdd hg hN hd hN1 hb
          go_wp2
          go_round
          case rel => exact ⟨k + 1, _, by omega, by go_num, rfl, hv, ha, by omega, HB.out⟩
          case measure => simp [intOf]; omega
        · have hz : A = 0 := by
            rw [HA.out, if_pos]
            rw [Bool.eq_false_iff]
            intro h
            exact hg (List.all_eq_true.1 h d (List.mem_of_getElem? hsome))
          subst hz
          have hb : (d.toNat : Int) < 48 ∨ (48 ≤ (d.toNat : Int) ∧ 57 < (d.toNat : Int)) := by
            have := @digB_iff d
            rcases Int.lt_or_le (d.toNat : Int) 48 with h | h
            · exact .inl h
            · refine .inr ⟨h, ?_⟩
              rcases Int.lt_or_le 57 (d.toNat : Int) with h2 | h2
              · exact h2
              · exact absurd (this.2 ⟨h, h2⟩) hg
          clear htk hsome hdd hg hN hd hN1
          rcases hb with hb | ⟨hb, hb'⟩
          all_goals
            go_wp2
            go_ret
            exact ⟨rfl, hb2⟩
      · obtain rfl : k = t.length + 1 := by omega
        have hz : A = N := by
          have e1 := hN.out
          have e2 := hd.out
          rw [List.take_of_length_le (by simp)] at e1 e2
          rw [HA.out, if_neg (by rw [e2]; simp), e1]
        subst hz
        clear hN hd hN1
        go_wp2
        go_ret
        exact ⟨rfl, hb2⟩

end Go.Proofs.YtgkbigbekmkobaaDoor
