/- The dates' scanner: zones. -/
import Derived.Test.YthkkdbpblajahaaDoorD17
set_option linter.unusedVariables false
set_option linter.unusedSimpArgs false
namespace Go.Proofs.YthkkdbpblajahaaDoor
open Go.RowKit

def zoneNum (s : Int) (l : List UInt8) : Option (Int × List UInt8) :=
  match num 2 0 l with
  | none => none
  | some (h, r) => match num 2 0 r with
    | none => none
    | some (m, r') => if h < 24 ∧ m < 60 then some (s * (h * 3600 + m * 60), r') else none

/-- a zone: the seconds ahead -/
def zone : List UInt8 → Option (Int × List UInt8)
  | [] => none
  | c :: r => if c = 43 then zoneNum 1 r else if c = 45 then zoneNum (-1) r else none

theorem pre_one {c d : UInt8} {r : List UInt8} (h : ¬ c = d) : ¬ [d] <+: c :: r := by
  intro ⟨t, e⟩
  exact h (by simpa using (List.cons.inj e).1.symm)

set_option maxRecDepth 100000 in
set_option maxHeartbeats 1000000 in
theorem zone_plus (b : Nat) (r : List UInt8) (w : World) (a : Addr) (hc : w.cell? ⟨1, 0, none⟩ = some (errV a)) (hb : 1 ≠ b) (hk : ScAt w b (43 :: r)) (hl : (43 :: r).length ≤ 140737488355328) :
    Calls Tryd.prog 55 #[.pointer (some ⟨b, 0, none⟩)] w (Reads b a w (zoneNum 1 r)) := by
  obtain ⟨R, hR⟩ : ∃ R, zoneNum 1 r = R := ⟨_, rfl⟩
  rw [hR]
  unfold zoneNum at hR
  have HR := Lib.hid hR
  clear hR
  go_enter Tryd.func55, Tryd.ntmps55
  go_wp2_with fail
  refine (is_yes [43] r b _ hk hl).mono ?_
  rintro e w1 ⟨rfl, hk1, hu1⟩
  have hc1 := upd_cell hu1 hb hc
  go_wp2_with fail
  refine (number_any b 2 r _ a hc1 hb hk1 (by omega)).mono ?_
  rintro e w3 h3
  rcases hn : num 2 0 r with _ | ⟨h, r2⟩
  · rw [hn] at h3
    obtain ⟨rfl, hu3⟩ := h3
    have hR := HR.out
    rw [hn] at hR
    subst hR
    unfold badP
    go_wp2
    exact ⟨rfl, rfl, hu1.trans hu3⟩
  · rw [hn] at h3
    obtain ⟨rfl, hk3, hu3⟩ := h3
    have hc3 := upd_cell hu3 hb hc1
    obtain ⟨x0, x1, _⟩ := num_bd _ _ _ _ _ hn (by omega)
    have x1 : h ≤ 99 := by simp at x1; omega
    have hR := HR.out
    rw [hn] at hR
    dsimp only at hR
    have HR2 := Lib.hid hR
    clear hn hR HR
    go_wp2_with fail
    refine (number_any b 2 r2 _ a hc3 hb hk3 (by omega)).mono ?_
    rintro e w4 h4
    rcases hn : num 2 0 r2 with _ | ⟨m, r4⟩
    · rw [hn] at h4
      obtain ⟨rfl, hu4⟩ := h4
      have hR := HR2.out
      rw [hn] at hR
      subst hR
      unfold badP
      go_wp2
      exact ⟨rfl, rfl, hu1.trans (hu3.trans hu4)⟩
    · rw [hn] at h4
      obtain ⟨rfl, hk4, hu4⟩ := h4
      have hc4 := upd_cell hu4 hb hc3
      obtain ⟨y0, y1, _⟩ := num_bd _ _ _ _ _ hn (by omega)
      have y1 : m ≤ 99 := by simp at y1; omega
      have hR := HR2.out
      rw [hn] at hR
      dsimp only at hR
      clear hn HR2
      by_cases hh : h < 24
      · by_cases hm : m < 60
        · rw [if_pos ⟨hh, hm⟩] at hR
          subst hR
          go_wp2_with fail
          refine (need_yes _ _).mono ?_
          rintro e w5 ⟨rfl, rfl⟩
          go_wp2
          rw [show 1 * (h * 3600 + m * 60) = h * 3600 + m * 60 by omega]
          go_ret
          exact ⟨rfl, hk4, hu1.trans (hu3.trans hu4)⟩
        · rw [if_neg (by omega)] at hR
          subst hR
          have hm : 60 ≤ m := by omega
          have hmf : decide (m < 60) = false := decide_eq_false (by omega)
          go_wp2_with fail
          refine (need_no _ _ a hc4).mono ?_
          rintro e w5 ⟨rfl, rfl⟩
          unfold badP
          go_wp2
          exact ⟨rfl, rfl, hu1.trans (hu3.trans hu4)⟩
      · rw [if_neg (by omega)] at hR
        subst hR
        have hh : 24 ≤ h := by omega
        have hhf : decide (h < 24) = false := decide_eq_false (by omega)
        go_wp2_with fail
        refine (need_no _ _ a hc4).mono ?_
        rintro e w5 ⟨rfl, rfl⟩
        unfold badP
        go_wp2
        exact ⟨rfl, rfl, hu1.trans (hu3.trans hu4)⟩

set_option maxRecDepth 100000 in
set_option maxHeartbeats 1000000 in
theorem zone_minus (b : Nat) (r : List UInt8) (w : World) (a : Addr) (hc : w.cell? ⟨1, 0, none⟩ = some (errV a)) (hb : 1 ≠ b) (hk : ScAt w b (45 :: r)) (hl : (45 :: r).length ≤ 140737488355328) :
    Calls Tryd.prog 55 #[.pointer (some ⟨b, 0, none⟩)] w (Reads b a w (zoneNum (-1) r)) := by
  obtain ⟨R, hR⟩ : ∃ R, zoneNum (-1) r = R := ⟨_, rfl⟩
  rw [hR]
  unfold zoneNum at hR
  have HR := Lib.hid hR
  clear hR
  go_enter Tryd.func55, Tryd.ntmps55
  go_wp2_with fail
  refine (is_no (45 :: r) [43] b _ hk (pre_one (by decide)) hl (by decide)).mono ?_
  rintro e w1 ⟨rfl, hk1, hu1⟩
  have hc1 := upd_cell hu1 hb hc
  go_wp2_with fail
  refine (must_yes [45] r b _ hk1 hl).mono ?_
  rintro e w2 ⟨rfl, hk2, hu2⟩
  have hc2 := upd_cell hu2 hb hc1
  have hu12 := hu1.trans hu2
  go_wp2_with fail
  refine (number_any b 2 r _ a hc2 hb hk2 (by omega)).mono ?_
  rintro e w3 h3
  rcases hn : num 2 0 r with _ | ⟨h, r2⟩
  · rw [hn] at h3
    obtain ⟨rfl, hu3⟩ := h3
    have hR := HR.out
    rw [hn] at hR
    subst hR
    unfold badP
    go_wp2
    exact ⟨rfl, rfl, hu12.trans hu3⟩
  · rw [hn] at h3
    obtain ⟨rfl, hk3, hu3⟩ := h3
    have hc3 := upd_cell hu3 hb hc2
    obtain ⟨x0, x1, _⟩ := num_bd _ _ _ _ _ hn (by omega)
    have x1 : h ≤ 99 := by simp at x1; omega
    have hR := HR.out
    rw [hn] at hR
    dsimp only at hR
    have HR2 := Lib.hid hR
    clear hn hR HR
    go_wp2_with fail
    refine (number_any b 2 r2 _ a hc3 hb hk3 (by omega)).mono ?_
    rintro e w4 h4
    rcases hn : num 2 0 r2 with _ | ⟨m, r4⟩
    · rw [hn] at h4
      obtain ⟨rfl, hu4⟩ := h4
      have hR := HR2.out
      rw [hn] at hR
      subst hR
      unfold badP
      go_wp2
      exact ⟨rfl, rfl, hu12.trans (hu3.trans hu4)⟩
    · rw [hn] at h4
      obtain ⟨rfl, hk4, hu4⟩ := h4
      have hc4 := upd_cell hu4 hb hc3
      obtain ⟨y0, y1, _⟩ := num_bd _ _ _ _ _ hn (by omega)
      have y1 : m ≤ 99 := by simp at y1; omega
      have hR := HR2.out
      rw [hn] at hR
      dsimp only at hR
      clear hn HR2
      by_cases hh : h < 24
      · by_cases hm : m < 60
        · rw [if_pos ⟨hh, hm⟩] at hR
          subst hR
          go_wp2_with fail
          refine (need_yes _ _).mono ?_
          rintro e w5 ⟨rfl, rfl⟩
          go_wp2
          rw [show (-1) * (h * 3600 + m * 60) = -(h * 3600 + m * 60) by omega]
          go_ret
          exact ⟨rfl, hk4, hu12.trans (hu3.trans hu4)⟩
        · rw [if_neg (by omega)] at hR
          subst hR
          have hm : 60 ≤ m := by omega
          have hmf : decide (m < 60) = false := decide_eq_false (by omega)
          go_wp2_with fail
          refine (need_no _ _ a hc4).mono ?_
          rintro e w5 ⟨rfl, rfl⟩
          unfold badP
          go_wp2
          exact ⟨rfl, rfl, hu12.trans (hu3.trans hu4)⟩
      · rw [if_neg (by omega)] at hR
        subst hR
        have hh : 24 ≤ h := by omega
        have hhf : decide (h < 24) = false := decide_eq_false (by omega)
        go_wp2_with fail
        refine (need_no _ _ a hc4).mono ?_
        rintro e w5 ⟨rfl, rfl⟩
        unfold badP
        go_wp2
        exact ⟨rfl, rfl, hu12.trans (hu3.trans hu4)⟩

theorem zone_none (b : Nat) (l : List UInt8) (w : World) (a : Addr) (hc : w.cell? ⟨1, 0, none⟩ = some (errV a)) (hb : 1 ≠ b) (hk : ScAt w b l) (hl : l.length ≤ 140737488355328) (hp : ¬ [43] <+: l) (hm : ¬ [45] <+: l) :
    Calls Tryd.prog 55 #[.pointer (some ⟨b, 0, none⟩)] w (Reads b a w none) := by
  go_enter Tryd.func55, Tryd.ntmps55
  go_wp2_with fail
  refine (is_no l [43] b _ hk hp hl (by decide)).mono ?_
  rintro e w1 ⟨rfl, hk1, hu1⟩
  have hc1 := upd_cell hu1 hb hc
  go_wp2_with fail
  refine (must_no l [45] b _ a hc1 hb hk1 hm hl (by decide)).mono ?_
  rintro e w2 ⟨rfl, hu2⟩
  unfold badP
  go_wp2
  exact ⟨rfl, rfl, hu1.trans hu2⟩

theorem zone_any (b : Nat) (l : List UInt8) (w : World) (a : Addr) (hc : w.cell? ⟨1, 0, none⟩ = some (errV a)) (hb : 1 ≠ b) (hk : ScAt w b l) (hl : l.length ≤ 140737488355328) :
    Calls Tryd.prog 55 #[.pointer (some ⟨b, 0, none⟩)] w (Reads b a w (zone l)) := by
  cases l with
  | nil => exact zone_none b [] w a hc hb hk hl (by simp) (by simp)
  | cons c r =>
    by_cases h1 : c = 43
    · subst h1
      rw [show zone (43 :: r) = zoneNum 1 r by simp [zone]]
      exact zone_plus b r w a hc hb hk hl
    · by_cases h2 : c = 45
      · subst h2
        rw [show zone (45 :: r) = zoneNum (-1) r by simp [zone]]
        exact zone_minus b r w a hc hb hk hl
      · rw [show zone (c :: r) = none by simp [zone, h1, h2]]
        exact zone_none b _ w a hc hb hk hl (pre_one h1) (pre_one h2)

end Go.Proofs.YthkkdbpblajahaaDoor
