/- The dates' scanner: digits, numbers, names, zones. -/
import Derived.Test.YthkkdbpblajahaaDoorD15
import Derived.Deep.LoopGhost
import Derived.Deep.QuietTactic
import Derived.BigQuiet
import Derived.Outline
set_option linter.unusedVariables false
set_option linter.unusedSimpArgs false
namespace Go.Proofs.YthkkdbpblajahaaDoor
open Go.RowKit

def isD (c : UInt8) : Bool := decide (48 ≤ c.toNat) && decide (c.toNat ≤ 57)
def headD : List UInt8 → Bool
  | [] => false
  | c :: _ => isD c

theorem digit_any (b : Nat) (l : List UInt8) (w : World) (hk : ScAt w b l) : Calls Tryd.prog 75 #[.pointer (some ⟨b, 0, none⟩)] w fun e w' => e = .returned (.bool (headD l)) ∧ w' = w := by
  obtain ⟨c0, f0⟩ := sc_cells hk
  cases l with
  | nil =>
    go_enter Tryd.func75, Tryd.ntmps75
    go_wp2
    go_ret
    exact ⟨rfl, rfl⟩
  | cons c l =>
    have hx : (bs (c :: l))[0]'(by rw [bs_size]; simp) = c := rfl
    unfold headD isD
    rcases (by omega : c.toNat < 48 ∨ 48 ≤ c.toNat ∧ c.toNat ≤ 57 ∨ 57 < c.toNat) with h | h | h
    all_goals
      go_enter Tryd.func75, Tryd.ntmps75
      go_wp2
      go_ret
      refine ⟨?_, rfl⟩
      simp [hx]
      try (first | (intro _; omega) | (rw [Bool.eq_iff_iff]; simp; omega))

/-- a number of so many digits, read behind n; what is left -/
def num : Nat → Int → List UInt8 → Option (Int × List UInt8)
  | 0, n, l => some (n, l)
  | _ + 1, _, [] => none
  | k + 1, n, c :: l => if isD c then num k (10 * n + ((c.toNat : Int) - 48)) l else none

/-- how reading a thing may end -/
def Reads (b : Nat) (a : Addr) (w : World) (r : Option (Int × List UInt8)) (e : Ending) (w' : World) : Prop :=
  match r with
  | none => e = badP (errV a) ∧ Upd b w w'
  | some (v, l) => e = .returned (.int .i64 v) ∧ ScAt w' b l ∧ Upd b w w'

set_option maxRecDepth 100000 in
set_option maxHeartbeats 1000000 in
theorem number_any (b : Nat) (k : Nat) (l : List UInt8) (w : World) (a : Addr) (hc : w.cell? ⟨1, 0, none⟩ = some (errV a)) (hb : 1 ≠ b) (hk : ScAt w b l) (h4 : k ≤ 4) :
    Calls Tryd.prog 47 #[.pointer (some ⟨b, 0, none⟩), .int .i64 k] w (Reads b a w (num k 0 l)) := by
  obtain ⟨R, hR⟩ : ∃ R, num k 0 l = R := ⟨_, rfl⟩
  have HR := Lib.hid hR
  rw [hR]
  clear hR
  go_enter Tryd.func47, Tryd.ntmps47
  go_wp2_with fail
  go_loopg [5, 7] k (fun kq n i wr => ∃ (j : Nat) (v : Int) (r : List UInt8), j ≤ k ∧ kq = k - j ∧ n = .int .i64 v ∧ i = .int .i64 j ∧ ScAt wr b r ∧ Upd b w wr ∧ Hid (num (k - j) v r = R) ∧ 0 ≤ v ∧ v + 1 ≤ 10 ^ j)
  case atStart => exact ⟨0, 0, l, Nat.zero_le _, rfl, rfl, rfl, hk, Upd.refl _ _, HR, by omega, by omega⟩
  case round =>
    obtain ⟨j, v, r, hj, hkq, rfl, rfl, hkr, hur, hnr, hv0, hv1⟩ := hrel
    have hcr := upd_cell hur hb hc
    have hv9 : v ≤ 99999 := by
      rcases (by omega : j = 0 ∨ j = 1 ∨ j = 2 ∨ j = 3 ∨ j = 4) with rfl | rfl | rfl | rfl | rfl <;> omega
    by_cases hjk : j < k
    · go_wp2_with fail
      refine (digit_any b r _ hkr).mono ?_
      rintro e w1 ⟨rfl, rfl⟩
      obtain ⟨m, hm⟩ : ∃ m, k - j = m + 1 := ⟨k - j - 1, by omega⟩
      have hnr' := hnr.out
      rw [hm] at hnr'
      by_cases hd : headD r = true
      · obtain ⟨c, r, rfl⟩ : ∃ c r', r = c :: r' := by
          cases r with
          | nil => cases hd
          | cons c r => exact ⟨c, r, rfl⟩
        have hdc : isD c = true := hd
        unfold num at hnr'
        rw [if_pos hdc] at hnr'
        have hN := Lib.hid hnr'
        obtain ⟨c0, f0⟩ := sc_cells hkr
        have hx : (bs (c :: r))[0]'(by rw [bs_size]; simp) = c := rfl
        have hc1 : 48 ≤ (c.toNat : Int) ∧ (c.toNat : Int) ≤ 57 := by
          unfold isD at hdc
          simp at hdc
          omega
        obtain ⟨hc1, hc2⟩ := hc1
        rw [hd]
        clear hnr hnr' hd hdc
        go_wp2_with fail
        refine (need_yes _ _).mono ?_
        rintro e w2 ⟨rfl, rfl⟩
        go_wp2
        have hz : (bs (c :: r)).extract 1 (r.length + 1) = bs r := by rw [bs_drop _ _ _ (by simp)]; rfl
        have hp : (10 : Int) ^ (j + 1) = 10 ^ j * 10 := Int.pow_succ ..
        rw [hz]
        go_roundg (k - (j + 1))
        case measure => omega
        case rel => exact ⟨j + 1, 10 * v + ((c.toNat : Int) - 48), r, by omega, rfl, rfl, by simp, sc_set hkr _, hur.setCell 0 _, by rw [show k - (j + 1) = m by omega]; exact hN, by omega, by omega⟩
      · have hd : headD r = false := by simpa using hd
        have hR0 : R = none := by
          rw [← hnr']
          cases r with
          | nil => rfl
          | cons c r =>
            unfold num
            rw [if_neg (by unfold headD at hd; simp [hd])]
        subst hR0
        rw [hd]
        clear hnr hnr'
        go_wp2_with fail
        refine (need_no _ _ a hcr).mono ?_
        rintro e w2 ⟨rfl, rfl⟩
        unfold badP
        go_wp2
        exact ⟨rfl, rfl, hur⟩
    · obtain rfl : j = k := by omega
      go_wp2
      go_ret
      have := hnr.out
      rw [Nat.sub_self] at this
      subst this
      exact ⟨rfl, hkr, hur⟩

end Go.Proofs.YthkkdbpblajahaaDoor
