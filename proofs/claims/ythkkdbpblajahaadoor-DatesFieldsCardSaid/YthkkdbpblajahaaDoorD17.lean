/- The dates' scanner: names, days of one or two digits, zones. -/
import Derived.Test.YthkkdbpblajahaaDoorD16
set_option linter.unusedVariables false
set_option linter.unusedSimpArgs false
namespace Go.Proofs.YthkkdbpblajahaaDoor
open Go.RowKit

theorem num_bd : ∀ (k : Nat) (n : Int) (l : List UInt8) (v : Int) (r : List UInt8), num k n l = some (v, r) → 0 ≤ n → 0 ≤ v ∧ v + 1 ≤ (n + 1) * 10 ^ k ∧ r.length ≤ l.length
  | 0, n, l, v, r, h, h0 => by
    unfold num at h
    obtain ⟨rfl, rfl⟩ := Prod.mk.inj (Option.some.inj h)
    simp; omega
  | k + 1, n, [], v, r, h, h0 => by unfold num at h; cases h
  | k + 1, n, c :: l, v, r, h, h0 => by
    unfold num at h
    by_cases hd : isD c = true
    · rw [if_pos hd] at h
      have hd1 : 48 ≤ (c.toNat : Int) ∧ (c.toNat : Int) ≤ 57 := by unfold isD at hd; simp at hd; omega
      obtain ⟨a, b, e⟩ := num_bd k _ _ _ _ h (by omega)
      refine ⟨a, Int.le_trans b ?_, by simp; omega⟩
      rw [Int.pow_succ, show (n + 1) * (10 ^ k * 10) = ((n + 1) * 10) * 10 ^ k by rw [Int.mul_comm (10 ^ k) 10, Int.mul_assoc]]
      exact Int.mul_le_mul_of_nonneg_right (by omega) (Int.pow_nonneg (by omega))
    · rw [if_neg hd] at h; cases h

/-- the first name of a row of names that stands here: its place; what is left -/
def nm : Nat → Nat → List UInt8 → List UInt8 → Option (Int × List UInt8)
  | 0, _, _, _ => none
  | k + 1, i, t, l => if (t.take 3).isPrefixOf l then some ((i : Int), l.drop 3) else nm k (i + 1) (t.drop 3) l

set_option maxRecDepth 100000 in
set_option maxHeartbeats 1000000 in
theorem name_any (b : Nat) (m : Nat) (t l : List UInt8) (w : World) (a : Addr) (hc : w.cell? ⟨1, 0, none⟩ = some (errV a)) (hb : 1 ≠ b) (hk : ScAt w b l) (hm : m ≤ 12) (ht : t.length = 3 * m) (hl : l.length ≤ 140737488355328) :
    Calls Tryd.prog 46 #[.pointer (some ⟨b, 0, none⟩), .string (bs t)] w (Reads b a w (nm m 0 t l)) := by
  obtain ⟨R, hR⟩ : ∃ R, nm m 0 t l = R := ⟨_, rfl⟩
  have HR := Lib.hid hR
  rw [hR]
  clear hR
  have hts : (bs t).size = 3 * m := by rw [bs_size, ht]
  go_enter Tryd.func46, Tryd.ntmps46
  go_wp2_with fail
  go_loopg [5] m (fun kq i wr => ∃ j : Nat, j ≤ m ∧ kq = m - j ∧ i = .int .i64 (3 * (j : Int)) ∧ ScAt wr b l ∧ Upd b w wr ∧ Hid (nm (m - j) j (t.drop (3 * j)) l = R))
  case atStart => exact ⟨0, Nat.zero_le _, rfl, rfl, hk, Upd.refl _ _, HR⟩
  case round =>
    obtain ⟨j, hj, hkq, rfl, hkr, hur, hnr⟩ := hrel
    have hcr := upd_cell hur hb hc
    have hsl : ∀ w : World, j < m → (Instr.slice 9 (.string (bs t)) (some (.int .i64 (3 * (j : Int)))) (some (.int .i64 (3 * (j : Int) + 3))) none).run Tryd.prog w = .ok (.string (bs ((t.drop (3 * j)).take 3))) w := fun w h => by
      have := run_mid t (3 * j) (3 * j + 3) (by omega) (by omega) w
      rw [show 3 * j + 3 - 3 * j = 3 by omega] at this
      simpa using this
    by_cases hjm : j < m
    · have hs2 := fun w => hsl w hjm
      obtain ⟨q, hq⟩ : ∃ q, m - j = q + 1 := ⟨m - j - 1, by omega⟩
      have hn2 := hnr.out
      rw [hq] at hn2
      unfold nm at hn2
      obtain ⟨T, hT⟩ : ∃ T, (t.drop (3 * j)).take 3 = T := ⟨_, rfl⟩
      have hTl : T.length = 3 := by rw [← hT]; simp; omega
      rw [hT] at hn2 hs2
      by_cases hp : T.isPrefixOf l = true
      · rw [if_pos hp] at hn2
        obtain ⟨r, rfl⟩ : ∃ r, l = T ++ r := by
          obtain ⟨r, h⟩ := List.isPrefixOf_iff_prefix.1 hp
          exact ⟨r, h.symm⟩
        rw [show (T ++ r).drop 3 = r by rw [← hTl]; simp] at hn2
        subst hn2
        clear hnr hsl
        go_wp2_with fail
        refine (is_yes T r b _ hkr hl).mono ?_
        rintro e w1 ⟨rfl, hk1, hu1⟩
        go_wp2
        go_ret
        exact ⟨by simp, hk1, hur.trans hu1⟩
      · rw [if_neg hp] at hn2
        have hp' : ¬ T <+: l := fun h => hp (List.isPrefixOf_iff_prefix.2 h)
        have HN := Lib.hid hn2
        clear hnr hn2 hsl
        go_wp2_with fail
        refine (is_no l T b _ hkr hp' hl (by omega)).mono ?_
        rintro e w1 ⟨rfl, hk1, hu1⟩
        go_wp2
        go_roundg (m - (j + 1))
        case measure => omega
        case rel => exact ⟨j + 1, by omega, rfl, by simp; omega, hk1, hur.trans hu1, by rw [show m - (j + 1) = q by omega, show 3 * (j + 1) = 3 * j + 3 by omega, ← List.drop_drop]; exact HN⟩
    · obtain rfl : j = m := by omega
      have hn2 := hnr.out
      rw [Nat.sub_self] at hn2
      unfold nm at hn2
      subst hn2
      clear hnr hsl
      go_wp2_with fail
      refine (need_no _ _ a hcr).mono ?_
      rintro e w2 ⟨rfl, rfl⟩
      unfold badP
      go_wp2
      exact ⟨rfl, rfl, hur⟩

/-- one digit or two -/
def short (l : List UInt8) : Option (Int × List UInt8) :=
  match num 1 0 l with
  | none => none
  | some (v, r) => if headD r then (match num 1 0 r with | none => none | some (x, r') => some (10 * v + x, r')) else some (v, r)

theorem short_any (b : Nat) (l : List UInt8) (w : World) (a : Addr) (hc : w.cell? ⟨1, 0, none⟩ = some (errV a)) (hb : 1 ≠ b) (hk : ScAt w b l) :
    Calls Tryd.prog 44 #[.pointer (some ⟨b, 0, none⟩)] w (Reads b a w (short l)) := by
  obtain ⟨R, hR⟩ : ∃ R, short l = R := ⟨_, rfl⟩
  rw [hR]
  unfold short at hR
  have HR := Lib.hid hR
  clear hR
  go_enter Tryd.func44, Tryd.ntmps44
  go_wp2_with fail
  refine (number_any b 1 l w a hc hb hk (by omega)).mono ?_
  rintro e w1 h1
  rcases hn : num 1 0 l with _ | ⟨v, r⟩
  · rw [hn] at h1
    obtain ⟨rfl, hu1⟩ := h1
    have hR := HR.out
    rw [hn] at hR
    subst hR
    unfold badP
    go_wp2
    exact ⟨rfl, rfl, hu1⟩
  · rw [hn] at h1
    obtain ⟨rfl, hk1, hu1⟩ := h1
    have hc1 := upd_cell hu1 hb hc
    obtain ⟨v0, v1, _⟩ := num_bd _ _ _ _ _ hn (by omega)
    have v1 : v ≤ 9 := by simp at v1; omega
    have hR := HR.out
    rw [hn] at hR
    dsimp only at hR
    clear hn
    go_wp2_with fail
    refine (digit_any b r _ hk1).mono ?_
    rintro e w2 ⟨rfl, rfl⟩
    by_cases hd : headD r = true
    · rw [if_pos hd] at hR
      rw [hd]
      have HR2 := Lib.hid hR
      clear hR
      go_wp2_with fail
      refine (number_any b 1 r _ a hc1 hb hk1 (by omega)).mono ?_
      rintro e w3 h3
      rcases hn : num 1 0 r with _ | ⟨x, r'⟩
      · rw [hn] at h3
        obtain ⟨rfl, hu3⟩ := h3
        have hR := HR2.out
        rw [hn] at hR
        subst hR
        unfold badP
        go_wp2
        exact ⟨rfl, rfl, hu1.trans hu3⟩
      · rw [hn] at h3
        obtain ⟨rfl, hk3, hu3⟩ := h3
        have hR := HR2.out
        rw [hn] at hR
        subst hR
        obtain ⟨x0, x1, _⟩ := num_bd _ _ _ _ _ hn (by omega)
        have x1 : x ≤ 9 := by simp at x1; omega
        clear hn
        go_wp2
        go_ret
        exact ⟨rfl, hk3, hu1.trans hu3⟩
    · rw [if_neg hd] at hR
      subst hR
      have hd : headD r = false := by simpa using hd
      rw [hd]
      go_wp2
      go_ret
      exact ⟨rfl, hk1, hu1⟩

end Go.Proofs.YthkkdbpblajahaaDoor
