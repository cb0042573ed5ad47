/- Texts of one walk, merged: XD15 XD16 XD17 XD18 XD19 XD20 XD23 XD21 XD22 XD27 XD28. -/
import Derived.Test.YtcjnpklmfcbofaaGreatDoorWd
import Derived.BigRegion
import Derived.Deep.DeepFit
import Derived.WalkLawsBesides
import Derived.Lib.Hide
import Derived.Deep.LoopGhost
import Derived.Deep.QuietTactic
import Derived.BigQuiet
import Derived.Outline
import Derived.Defers
import Derived.Recover
import Derived.Laws.Pointers

/- The dates' scanner: what each of its methods does to the text that it stands before; what isn't in form ends it by a panic. -/
set_option linter.unusedVariables false
set_option linter.unusedSimpArgs false
section
set_option linter.unusedVariables false
set_option linter.unusedSimpArgs false
namespace Go.Proofs.YtcjnpklmfcbofaaGreatDoor
open Go.RowKit

/-- all that stood is as it was but block b -/
structure Upd (b : Nat) (w w' : World) : Prop where
  os : w'.os = w.os
  tape : w'.tape = w.tape
  output : w'.output = w.output
  size : w.heap.size ≤ w'.heap.size
  block : ∀ k, k < w.heap.size → k ≠ b → w'.heap[k]? = w.heap[k]?

theorem Upd.refl (b : Nat) (w : World) : Upd b w w := ⟨rfl, rfl, rfl, Nat.le_refl _, fun _ _ _ => rfl⟩
theorem Upd.trans {b : Nat} {u v w : World} (h : Upd b u v) (k : Upd b v w) : Upd b u w :=
  ⟨k.os.trans h.os, k.tape.trans h.tape, k.output.trans h.output, Nat.le_trans h.size k.size, fun i hi hb => (k.block i (Nat.lt_of_lt_of_le hi h.size) hb).trans (h.block i hi hb)⟩
theorem Upd.of_below {b : Nat} {w w' : World} (h : Below w.heap.size w w') : Upd b w w' := ⟨h.os, h.tape, h.output, h.size, fun i hi _ => h.block i hi⟩
theorem Upd.below {b B : Nat} {w w' : World} (h : Upd b w w') (hB : B ≤ b) (hs : B ≤ w.heap.size) : Below B w w' := ⟨h.os, h.tape, h.output, h.size, fun i hi => h.block i (by omega) (by omega)⟩
theorem Upd.drew {b : Nat} {w w' : World} (h : Upd b w w') : Upd b w w'.drew := ⟨h.os, h.tape, h.output, h.size, h.block⟩
theorem Upd.drewN {b : Nat} {w w' : World} (h : Upd b w w') (n : Nat) : Upd b w (w'.drewN n) := ⟨h.os, h.tape, h.output, h.size, h.block⟩
theorem Upd.alloc {b : Nat} {w w' : World} (h : Upd b w w') (o : Obj) : Upd b w (w'.alloc o) :=
  h.trans (.of_below ((Below.refl _ _).alloc (Nat.le_refl _) _))
theorem Upd.setCell {b : Nat} {w w' : World} (h : Upd b w w') (i : Nat) (v : Value) : Upd b w (w'.setCell ⟨b, i, none⟩ v) :=
  h.trans ⟨rfl, rfl, rfl, by simp [World.setCell], fun k _ hk => Below.heap_setCell _ _ _ _ hk⟩

/-- the scanner at block b stands before the text l -/
def ScAt (w : World) (b : Nat) (l : List UInt8) : Prop := w.heap[b]? = some (.cells #[.string (bs l)] 123 (0, 0))

theorem sc_cells {w : World} {b : Nat} {l : List UInt8} (hk : ScAt w b l) : w.cell? ⟨b, 0, none⟩ = some (.string (bs l)) ∧ w.frozen? ⟨b, 0, none⟩ = false := by
  unfold ScAt at hk
  refine ⟨?_, ?_⟩ <;> simp [World.cell?, World.frozen?, hk]
theorem sc_set {w : World} {b : Nat} {l : List UInt8} (hk : ScAt w b l) (l' : List UInt8) : ScAt (w.setCell ⟨b, 0, none⟩ (.string (bs l'))) b l' := by
  unfold ScAt at *
  simp [World.setCell, Array.getElem?_modify, hk]
theorem sc_lt {w : World} {b : Nat} {l : List UInt8} (hk : ScAt w b l) : b < w.heap.size := by
  unfold ScAt at hk
  rcases Nat.lt_or_ge b w.heap.size with h1 | h1
  · exact h1
  · rw [Array.getElem?_eq_none h1] at hk; cases hk

theorem upd_cell {b : Nat} {w w' : World} {g i : Nat} {v : Value} (h : Upd b w w') (hb : g ≠ b) (hc : w.cell? ⟨g, i, none⟩ = some v) : w'.cell? ⟨g, i, none⟩ = some v := by
  have hlt : g < w.heap.size := cell_lt hc
  rw [← hc]
  simp only [World.cell?, h.block g hlt hb]

/-- the scanner's panic -/
def badP (v : Value) : Ending := .panicked [{ v := .iface 120 (.agg #[v]), recovered := false }]

theorem need_yes (p : Value) (w : World) : Calls Tryz.prog 83 #[p, .bool true] w fun e w' => e = .returned (.tuple #[]) ∧ w' = w := by
  go_enter Tryz.func83, Tryz.ntmps83
  go_wp2
  go_end0
  exact ⟨rfl, rfl⟩

theorem need_no (p : Value) (w : World) (a : Addr) (hc : w.cell? ⟨2, 0, none⟩ = some (errV a)) : Calls Tryz.prog 83 #[p, .bool false] w fun e w' => e = badP (errV a) ∧ w' = w := by
  unfold errV at hc
  go_enter Tryz.func83, Tryz.ntmps83
  go_wp2
  exact ⟨rfl, rfl, rfl⟩

theorem ext_list (l : List UInt8) (n : Nat) : ((bs l).extract 0 n).toList = l.take n := by
  rw [bs_take, ByteArray.toList_eq]

theorem cut_yes (t r : List UInt8) (w : World) (hl : (t ++ r).length ≤ 140737488355328) : Calls Tryz.prog 19 #[.string (bs (t ++ r)), .string (bs t)] w fun e w' => e = .returned (.tuple #[.string (bs r), .bool true]) ∧ w' = w := by
  have hx : ((bs (t ++ r)).extract 0 t.length).toList = t := by rw [ext_list]; simp
  have hz : (bs (t ++ r)).extract t.length (t.length + r.length) = bs r := by rw [bs_drop _ _ _ (by simp)]; simp
  have hl2 : t.length + r.length ≤ 140737488355328 := by simpa using hl
  go_enter Tryz.func19, Tryz.ntmps19
  go_wp2
  all_goals (first | contradiction | skip)
  go_ret2
  exact ⟨by simp [hz], rfl⟩

theorem cut_no (l t : List UInt8) (w : World) (hp : ¬ t <+: l) (hl : l.length ≤ 140737488355328) (ht : t.length ≤ 140737488355328) : Calls Tryz.prog 19 #[.string (bs l), .string (bs t)] w fun e w' => e = .returned (.tuple #[.string (bs l), .bool false]) ∧ w' = w := by
  have hx : ¬ ((bs l).extract 0 t.length).toList = t := by
    rw [ext_list]
    intro e
    exact hp (e ▸ List.take_prefix _ _)
  have hxf : (!((bs l).extract 0 t.length).toList == t) = true := by simp [hx]
  go_enter Tryz.func19, Tryz.ntmps19
  go_wp2
  all_goals (first | contradiction | (exfalso; rename_i hq; rw [hxf] at hq; cases hq; done) | skip)
  all_goals
    go_ret2
    exact ⟨rfl, rfl⟩

/-- the text stands here: the scanner goes behind it -/
theorem is_yes (t r : List UInt8) (b : Nat) (w : World) (hk : ScAt w b (t ++ r)) (hl : (t ++ r).length ≤ 140737488355328) : Calls Tryz.prog 55 #[.pointer (some ⟨b, 0, none⟩), .string (bs t)] w fun e w' => e = .returned (.bool true) ∧ ScAt w' b r ∧ Upd b w w' := by
  obtain ⟨c0, f0⟩ := sc_cells hk
  go_enter Tryz.func55, Tryz.ntmps55
  go_wp2_with fail
  refine (cut_yes t r _ hl).mono ?_
  rintro e w1 ⟨rfl, rfl⟩
  go_wp2
  go_ret
  exact ⟨rfl, sc_set hk _, (Upd.refl b _).setCell 0 _⟩

theorem is_no (l t : List UInt8) (b : Nat) (w : World) (hk : ScAt w b l) (hp : ¬ t <+: l) (hl : l.length ≤ 140737488355328) (ht : t.length ≤ 140737488355328) : Calls Tryz.prog 55 #[.pointer (some ⟨b, 0, none⟩), .string (bs t)] w fun e w' => e = .returned (.bool false) ∧ ScAt w' b l ∧ Upd b w w' := by
  obtain ⟨c0, f0⟩ := sc_cells hk
  go_enter Tryz.func55, Tryz.ntmps55
  go_wp2_with fail
  refine (cut_no l t _ hp hl ht).mono ?_
  rintro e w1 ⟨rfl, rfl⟩
  go_wp2
  go_ret
  exact ⟨rfl, sc_set hk _, (Upd.refl b _).setCell 0 _⟩

theorem must_yes (t r : List UInt8) (b : Nat) (w : World) (hk : ScAt w b (t ++ r)) (hl : (t ++ r).length ≤ 140737488355328) : Calls Tryz.prog 56 #[.pointer (some ⟨b, 0, none⟩), .string (bs t)] w fun e w' => e = .returned (.tuple #[]) ∧ ScAt w' b r ∧ Upd b w w' := by
  go_enter Tryz.func56, Tryz.ntmps56
  go_wp2_with fail
  refine (is_yes t r b _ hk hl).mono ?_
  rintro e w1 ⟨rfl, hk1, hu1⟩
  go_wp2_with fail
  refine (need_yes _ _).mono ?_
  rintro e w2 ⟨rfl, rfl⟩
  go_wp2
  go_end0
  exact ⟨rfl, hk1, hu1⟩

theorem must_no (l t : List UInt8) (b : Nat) (w : World) (a : Addr) (hc : w.cell? ⟨2, 0, none⟩ = some (errV a)) (hb : 2 ≠ b) (hk : ScAt w b l) (hp : ¬ t <+: l) (hl : l.length ≤ 140737488355328) (ht : t.length ≤ 140737488355328) : Calls Tryz.prog 56 #[.pointer (some ⟨b, 0, none⟩), .string (bs t)] w fun e w' => e = badP (errV a) ∧ Upd b w w' := by
  go_enter Tryz.func56, Tryz.ntmps56
  go_wp2_with fail
  refine (is_no l t b _ hk hp hl ht).mono ?_
  rintro e w1 ⟨rfl, hk1, hu1⟩
  have hc1 := upd_cell hu1 hb hc
  go_wp2_with fail
  refine (need_no _ _ a hc1).mono ?_
  rintro e w2 ⟨rfl, rfl⟩
  unfold badP
  go_wp2
  exact ⟨rfl, rfl, hu1⟩

end Go.Proofs.YtcjnpklmfcbofaaGreatDoor
end

/- The dates' scanner: digits, numbers, names, zones. -/
set_option linter.unusedVariables false
set_option linter.unusedSimpArgs false
section
namespace Go.Proofs.YtcjnpklmfcbofaaGreatDoor
open Go.RowKit

def isD (c : UInt8) : Bool := decide (48 ≤ c.toNat) && decide (c.toNat ≤ 57)
def headD : List UInt8 → Bool
  | [] => false
  | c :: _ => isD c

theorem digit_any (b : Nat) (l : List UInt8) (w : World) (hk : ScAt w b l) : Calls Tryz.prog 53 #[.pointer (some ⟨b, 0, none⟩)] w fun e w' => e = .returned (.bool (headD l)) ∧ w' = w := by
  obtain ⟨c0, f0⟩ := sc_cells hk
  cases l with
  | nil =>
    go_enter Tryz.func53, Tryz.ntmps53
    go_wp2
    go_ret
    exact ⟨rfl, rfl⟩
  | cons c l =>
    have hx : (bs (c :: l))[0]'(by rw [bs_size]; simp) = c := rfl
    unfold headD isD
    rcases (by omega : c.toNat < 48 ∨ 48 ≤ c.toNat ∧ c.toNat ≤ 57 ∨ 57 < c.toNat) with h | h | h
    all_goals
      go_enter Tryz.func53, Tryz.ntmps53
      go_wp2
      go_ret
      refine ⟨?_, rfl⟩
      simp [hx]
      try (first | (intro _; omega) | (rw [Bool.eq_iff_iff]; simp; omega))

/-- a number of so many digits, read behind n; what is left -/
def num : Nat → Int → List UInt8 → Option (Int × List UInt8)
  | 0, n, l => some (n, l)
  | _ + 1, _, [] => none
  | k + 1, n, c :: l => if isD c then num k (10 * n + ((c.toNat : Int) - 48)) l else none

/-- how reading a thing may end -/
def Reads (b : Nat) (a : Addr) (w : World) (r : Option (Int × List UInt8)) (e : Ending) (w' : World) : Prop :=
  match r with
  | none => e = badP (errV a) ∧ Upd b w w'
  | some (v, l) => e = .returned (.int .i64 v) ∧ ScAt w' b l ∧ Upd b w w'

set_option maxRecDepth 100000 in
set_option maxHeartbeats 1000000 in
theorem number_any (b : Nat) (k : Nat) (l : List UInt8) (w : World) (a : Addr) (hc : w.cell? ⟨2, 0, none⟩ = some (errV a)) (hb : 2 ≠ b) (hk : ScAt w b l) (h4 : k ≤ 4) :
    Calls Tryz.prog 58 #[.pointer (some ⟨b, 0, none⟩), .int .i64 k] w (Reads b a w (num k 0 l)) := by
  obtain ⟨R, hR⟩ : ∃ R, num k 0 l = R := ⟨_, rfl⟩
  have HR := Lib.hid hR
  rw [hR]
  clear hR
  go_enter Tryz.func58, Tryz.ntmps58
  go_wp2_with fail
  go_loopg [5, 7] k (fun kq n i wr => ∃ (j : Nat) (v : Int) (r : List UInt8), j ≤ k ∧ kq = k - j ∧ n = .int .i64 v ∧ i = .int .i64 j ∧ ScAt wr b r ∧ Upd b w wr ∧ Hid (num (k - j) v r = R) ∧ 0 ≤ v ∧ v + 1 ≤ 10 ^ j)
  case atStart => exact ⟨0, 0, l, Nat.zero_le _, rfl, rfl, rfl, hk, Upd.refl _ _, HR, by omega, by omega⟩
  case round =>
    obtain ⟨j, v, r, hj, hkq, rfl, rfl, hkr, hur, hnr, hv0, hv1⟩ := hrel
    have hcr := upd_cell hur hb hc
    have hv9 : v ≤ 99999 := by
      rcases (by omega : j = 0 ∨ j = 1 ∨ j = 2 ∨ j = 3 ∨ j = 4) with rfl | rfl | rfl | rfl | rfl <;> omega
    by_cases hjk : j < k
    · go_wp2_with fail
      refine (digit_any b r _ hkr).mono ?_
      rintro e w1 ⟨rfl, rfl⟩
      obtain ⟨m, hm⟩ : ∃ m, k - j = m + 1 := ⟨k - j - 1, by omega⟩
      have hnr' := hnr.out
      rw [hm] at hnr'
      by_cases hd : headD r = true
      · obtain ⟨c, r, rfl⟩ : ∃ c r', r = c :: r' := by
          cases r with
          | nil => cases hd
          | cons c r => exact ⟨c, r, rfl⟩
        have hdc : isD c = true := hd
        unfold num at hnr'
        rw [if_pos hdc] at hnr'
        have hN := Lib.hid hnr'
        obtain ⟨c0, f0⟩ := sc_cells hkr
        have hx : (bs (c :: r))[0]'(by rw [bs_size]; simp) = c := rfl
        have hc1 : 48 ≤ (c.toNat : Int) ∧ (c.toNat : Int) ≤ 57 := by
          unfold isD at hdc
          simp at hdc
          omega
        obtain ⟨hc1, hc2⟩ := hc1
        rw [hd]
        clear hnr hnr' hd hdc
        go_wp2_with fail
        refine (need_yes _ _).mono ?_
        rintro e w2 ⟨rfl, rfl⟩
        go_wp2
        have hz : (bs (c :: r)).extract 1 (r.length + 1) = bs r := by rw [bs_drop _ _ _ (by simp)]; rfl
        have hp : (10 : Int) ^ (j + 1) = 10 ^ j * 10 := Int.pow_succ ..
        rw [hz]
        go_roundg (k - (j + 1))
        case measure => omega
        case rel => exact ⟨j + 1, 10 * v + ((c.toNat : Int) - 48), r, by omega, rfl, rfl, by simp, sc_set hkr _, hur.setCell 0 _, by rw [show k - (j + 1) = m by omega]; exact hN, by omega, by omega⟩
      · have hd : headD r = false := by simpa using hd
        have hR0 : R = none := by
          rw [← hnr']
          cases r with
          | nil => rfl
          | cons c r =>
            unfold num
            rw [if_neg (by unfold headD at hd; simp [hd])]
        subst hR0
        rw [hd]
        clear hnr hnr'
        go_wp2_with fail
        refine (need_no _ _ a hcr).mono ?_
        rintro e w2 ⟨rfl, rfl⟩
        unfold badP
        go_wp2
        exact ⟨rfl, rfl, hur⟩
    · obtain rfl : j = k := by omega
      go_wp2
      go_ret
      have := hnr.out
      rw [Nat.sub_self] at this
      subst this
      exact ⟨rfl, hkr, hur⟩

end Go.Proofs.YtcjnpklmfcbofaaGreatDoor
end

/- The dates' scanner: names, days of one or two digits, zones. -/
set_option linter.unusedVariables false
set_option linter.unusedSimpArgs false
section
namespace Go.Proofs.YtcjnpklmfcbofaaGreatDoor
open Go.RowKit

theorem num_bd : ∀ (k : Nat) (n : Int) (l : List UInt8) (v : Int) (r : List UInt8), num k n l = some (v, r) → 0 ≤ n → 0 ≤ v ∧ v + 1 ≤ (n + 1) * 10 ^ k ∧ r.length ≤ l.length
  | 0, n, l, v, r, h, h0 => by
    unfold num at h
    obtain ⟨rfl, rfl⟩ := Prod.mk.inj (Option.some.inj h)
    simp; omega
  | k + 1, n, [], v, r, h, h0 => by unfold num at h; cases h
  | k + 1, n, c :: l, v, r, h, h0 => by
    unfold num at h
    by_cases hd : isD c = true
    · rw [if_pos hd] at h
      have hd1 : 48 ≤ (c.toNat : Int) ∧ (c.toNat : Int) ≤ 57 := by unfold isD at hd; simp at hd; omega
      obtain ⟨a, b, e⟩ := num_bd k _ _ _ _ h (by omega)
      refine ⟨a, Int.le_trans b ?_, by simp; omega⟩
      rw [Int.pow_succ, show (n + 1) * (10 ^ k * 10) = ((n + 1) * 10) * 10 ^ k by rw [Int.mul_comm (10 ^ k) 10, Int.mul_assoc]]
      exact Int.mul_le_mul_of_nonneg_right (by omega) (Int.pow_nonneg (by omega))
    · rw [if_neg hd] at h; cases h

/-- the first name of a row of names that stands here: its place; what is left -/
def nm : Nat → Nat → List UInt8 → List UInt8 → Option (Int × List UInt8)
  | 0, _, _, _ => none
  | k + 1, i, t, l => if (t.take 3).isPrefixOf l then some ((i : Int), l.drop 3) else nm k (i + 1) (t.drop 3) l

set_option maxRecDepth 100000 in
set_option maxHeartbeats 1000000 in
theorem name_any (b : Nat) (m : Nat) (t l : List UInt8) (w : World) (a : Addr) (hc : w.cell? ⟨2, 0, none⟩ = some (errV a)) (hb : 2 ≠ b) (hk : ScAt w b l) (hm : m ≤ 12) (ht : t.length = 3 * m) (hl : l.length ≤ 140737488355328) :
    Calls Tryz.prog 54 #[.pointer (some ⟨b, 0, none⟩), .string (bs t)] w (Reads b a w (nm m 0 t l)) := by
  obtain ⟨R, hR⟩ : ∃ R, nm m 0 t l = R := ⟨_, rfl⟩
  have HR := Lib.hid hR
  rw [hR]
  clear hR
  have hts : (bs t).size = 3 * m := by rw [bs_size, ht]
  go_enter Tryz.func54, Tryz.ntmps54
  go_wp2_with fail
  go_loopg [5] m (fun kq i wr => ∃ j : Nat, j ≤ m ∧ kq = m - j ∧ i = .int .i64 (3 * (j : Int)) ∧ ScAt wr b l ∧ Upd b w wr ∧ Hid (nm (m - j) j (t.drop (3 * j)) l = R))
  case atStart => exact ⟨0, Nat.zero_le _, rfl, rfl, hk, Upd.refl _ _, HR⟩
  case round =>
    obtain ⟨j, hj, hkq, rfl, hkr, hur, hnr⟩ := hrel
    have hcr := upd_cell hur hb hc
    have hsl : ∀ w : World, j < m → (Instr.slice 9 (.string (bs t)) (some (.int .i64 (3 * (j : Int)))) (some (.int .i64 (3 * (j : Int) + 3))) none).run Tryz.prog w = .ok (.string (bs ((t.drop (3 * j)).take 3))) w := fun w h => by
      have := run_mid t (3 * j) (3 * j + 3) (by omega) (by omega) w
      rw [show 3 * j + 3 - 3 * j = 3 by omega] at this
      simpa using this
    by_cases hjm : j < m
    · have hs2 := fun w => hsl w hjm
      obtain ⟨q, hq⟩ : ∃ q, m - j = q + 1 := ⟨m - j - 1, by omega⟩
      have hn2 := hnr.out
      rw [hq] at hn2
      unfold nm at hn2
      obtain ⟨T, hT⟩ : ∃ T, (t.drop (3 * j)).take 3 = T := ⟨_, rfl⟩
      have hTl : T.length = 3 := by rw [← hT]; simp; omega
      rw [hT] at hn2 hs2
      by_cases hp : T.isPrefixOf l = true
      · rw [if_pos hp] at hn2
        obtain ⟨r, rfl⟩ : ∃ r, l = T ++ r := by
          obtain ⟨r, h⟩ := List.isPrefixOf_iff_prefix.1 hp
          exact ⟨r, h.symm⟩
        rw [show (T ++ r).drop 3 = r by rw [← hTl]; simp] at hn2
        subst hn2
        clear hnr hsl
        go_wp2_with fail
        refine (is_yes T r b _ hkr hl).mono ?_
        rintro e w1 ⟨rfl, hk1, hu1⟩
        go_wp2
        go_ret
        exact ⟨by simp, hk1, hur.trans hu1⟩
      · rw [if_neg hp] at hn2
        have hp' : ¬ T <+: l := fun h => hp (List.isPrefixOf_iff_prefix.2 h)
        have HN := Lib.hid hn2
        clear hnr hn2 hsl
        go_wp2_with fail
        refine (is_no l T b _ hkr hp' hl (by omega)).mono ?_
        rintro e w1 ⟨rfl, hk1, hu1⟩
        go_wp2
        go_roundg (m - (j + 1))
        case measure => omega
        case rel => exact ⟨j + 1, by omega, rfl, by simp; omega, hk1, hur.trans hu1, by rw [show m - (j + 1) = q by omega, show 3 * (j + 1) = 3 * j + 3 by omega, ← List.drop_drop]; exact HN⟩
    · obtain rfl : j = m := by omega
      have hn2 := hnr.out
      rw [Nat.sub_self] at hn2
      unfold nm at hn2
      subst hn2
      clear hnr hsl
      go_wp2_with fail
      refine (need_no _ _ a hcr).mono ?_
      rintro e w2 ⟨rfl, rfl⟩
      unfold badP
      go_wp2
      exact ⟨rfl, rfl, hur⟩

/-- one digit or two -/
def short (l : List UInt8) : Option (Int × List UInt8) :=
  match num 1 0 l with
  | none => none
  | some (v, r) => if headD r then (match num 1 0 r with | none => none | some (x, r') => some (10 * v + x, r')) else some (v, r)

theorem short_any (b : Nat) (l : List UInt8) (w : World) (a : Addr) (hc : w.cell? ⟨2, 0, none⟩ = some (errV a)) (hb : 2 ≠ b) (hk : ScAt w b l) :
    Calls Tryz.prog 57 #[.pointer (some ⟨b, 0, none⟩)] w (Reads b a w (short l)) := by
  obtain ⟨R, hR⟩ : ∃ R, short l = R := ⟨_, rfl⟩
  rw [hR]
  unfold short at hR
  have HR := Lib.hid hR
  clear hR
  go_enter Tryz.func57, Tryz.ntmps57
  go_wp2_with fail
  refine (number_any b 1 l w a hc hb hk (by omega)).mono ?_
  rintro e w1 h1
  rcases hn : num 1 0 l with _ | ⟨v, r⟩
  · rw [hn] at h1
    obtain ⟨rfl, hu1⟩ := h1
    have hR := HR.out
    rw [hn] at hR
    subst hR
    unfold badP
    go_wp2
    exact ⟨rfl, rfl, hu1⟩
  · rw [hn] at h1
    obtain ⟨rfl, hk1, hu1⟩ := h1
    have hc1 := upd_cell hu1 hb hc
    obtain ⟨v0, v1, _⟩ := num_bd _ _ _ _ _ hn (by omega)
    have v1 : v ≤ 9 := by simp at v1; omega
    have hR := HR.out
    rw [hn] at hR
    dsimp only at hR
    clear hn
    go_wp2_with fail
    refine (digit_any b r _ hk1).mono ?_
    rintro e w2 ⟨rfl, rfl⟩
    by_cases hd : headD r = true
    · rw [if_pos hd] at hR
      rw [hd]
      have HR2 := Lib.hid hR
      clear hR
      go_wp2_with fail
      refine (number_any b 1 r _ a hc1 hb hk1 (by omega)).mono ?_
      rintro e w3 h3
      rcases hn : num 1 0 r with _ | ⟨x, r'⟩
      · rw [hn] at h3
        obtain ⟨rfl, hu3⟩ := h3
        have hR := HR2.out
        rw [hn] at hR
        subst hR
        unfold badP
        go_wp2
        exact ⟨rfl, rfl, hu1.trans hu3⟩
      · rw [hn] at h3
        obtain ⟨rfl, hk3, hu3⟩ := h3
        have hR := HR2.out
        rw [hn] at hR
        subst hR
        obtain ⟨x0, x1, _⟩ := num_bd _ _ _ _ _ hn (by omega)
        have x1 : x ≤ 9 := by simp at x1; omega
        clear hn
        go_wp2
        go_ret
        exact ⟨rfl, hk3, hu1.trans hu3⟩
    · rw [if_neg hd] at hR
      subst hR
      have hd : headD r = false := by simpa using hd
      rw [hd]
      go_wp2
      go_ret
      exact ⟨rfl, hk1, hu1⟩

end Go.Proofs.YtcjnpklmfcbofaaGreatDoor
end

/- The dates' scanner: zones. -/
set_option linter.unusedVariables false
set_option linter.unusedSimpArgs false
section
namespace Go.Proofs.YtcjnpklmfcbofaaGreatDoor
open Go.RowKit

def zoneNum (s : Int) (l : List UInt8) : Option (Int × List UInt8) :=
  match num 2 0 l with
  | none => none
  | some (h, r) => match num 2 0 r with
    | none => none
    | some (m, r') => if h < 24 ∧ m < 60 then some (s * (h * 3600 + m * 60), r') else none

/-- a zone: the seconds ahead -/
def zone : List UInt8 → Option (Int × List UInt8)
  | [] => none
  | c :: r => if c = 43 then zoneNum 1 r else if c = 45 then zoneNum (-1) r else none

theorem pre_one {c d : UInt8} {r : List UInt8} (h : ¬ c = d) : ¬ [d] <+: c :: r := by
  intro ⟨t, e⟩
  exact h (by simpa using (List.cons.inj e).1.symm)

set_option maxRecDepth 100000 in
set_option maxHeartbeats 1000000 in
theorem zone_plus (b : Nat) (r : List UInt8) (w : World) (a : Addr) (hc : w.cell? ⟨2, 0, none⟩ = some (errV a)) (hb : 2 ≠ b) (hk : ScAt w b (43 :: r)) (hl : (43 :: r).length ≤ 140737488355328) :
    Calls Tryz.prog 59 #[.pointer (some ⟨b, 0, none⟩)] w (Reads b a w (zoneNum 1 r)) := by
  obtain ⟨R, hR⟩ : ∃ R, zoneNum 1 r = R := ⟨_, rfl⟩
  rw [hR]
  unfold zoneNum at hR
  have HR := Lib.hid hR
  clear hR
  go_enter Tryz.func59, Tryz.ntmps59
  go_wp2_with fail
  refine (is_yes [43] r b _ hk hl).mono ?_
  rintro e w1 ⟨rfl, hk1, hu1⟩
  have hc1 := upd_cell hu1 hb hc
  go_wp2_with fail
  refine (number_any b 2 r _ a hc1 hb hk1 (by omega)).mono ?_
  rintro e w3 h3
  rcases hn : num 2 0 r with _ | ⟨h, r2⟩
  · rw [hn] at h3
    obtain ⟨rfl, hu3⟩ := h3
    have hR := HR.out
    rw [hn] at hR
    subst hR
    unfold badP
    go_wp2
    exact ⟨rfl, rfl, hu1.trans hu3⟩
  · rw [hn] at h3
    obtain ⟨rfl, hk3, hu3⟩ := h3
    have hc3 := upd_cell hu3 hb hc1
    obtain ⟨x0, x1, _⟩ := num_bd _ _ _ _ _ hn (by omega)
    have x1 : h ≤ 99 := by simp at x1; omega
    have hR := HR.out
    rw [hn] at hR
    dsimp only at hR
    have HR2 := Lib.hid hR
    clear hn hR HR
    go_wp2_with fail
    refine (number_any b 2 r2 _ a hc3 hb hk3 (by omega)).mono ?_
    rintro e w4 h4
    rcases hn : num 2 0 r2 with _ | ⟨m, r4⟩
    · rw [hn] at h4
      obtain ⟨rfl, hu4⟩ := h4
      have hR := HR2.out
      rw [hn] at hR
      subst hR
      unfold badP
      go_wp2
      exact ⟨rfl, rfl, hu1.trans (hu3.trans hu4)⟩
    · rw [hn] at h4
      obtain ⟨rfl, hk4, hu4⟩ := h4
      have hc4 := upd_cell hu4 hb hc3
      obtain ⟨y0, y1, _⟩ := num_bd _ _ _ _ _ hn (by omega)
      have y1 : m ≤ 99 := by simp at y1; omega
      have hR := HR2.out
      rw [hn] at hR
      dsimp only at hR
      clear hn HR2
      by_cases hh : h < 24
      · by_cases hm : m < 60
        · rw [if_pos ⟨hh, hm⟩] at hR
          subst hR
          go_wp2_with fail
          refine (need_yes _ _).mono ?_
          rintro e w5 ⟨rfl, rfl⟩
          go_wp2
          rw [show 1 * (h * 3600 + m * 60) = h * 3600 + m * 60 by omega]
          go_ret
          exact ⟨rfl, hk4, hu1.trans (hu3.trans hu4)⟩
        · rw [if_neg (by omega)] at hR
          subst hR
          have hm : 60 ≤ m := by omega
          have hmf : decide (m < 60) = false := decide_eq_false (by omega)
          go_wp2_with fail
          refine (need_no _ _ a hc4).mono ?_
          rintro e w5 ⟨rfl, rfl⟩
          unfold badP
          go_wp2
          exact ⟨rfl, rfl, hu1.trans (hu3.trans hu4)⟩
      · rw [if_neg (by omega)] at hR
        subst hR
        have hh : 24 ≤ h := by omega
        have hhf : decide (h < 24) = false := decide_eq_false (by omega)
        go_wp2_with fail
        refine (need_no _ _ a hc4).mono ?_
        rintro e w5 ⟨rfl, rfl⟩
        unfold badP
        go_wp2
        exact ⟨rfl, rfl, hu1.trans (hu3.trans hu4)⟩

set_option maxRecDepth 100000 in
set_option maxHeartbeats 1000000 in
theorem zone_minus (b : Nat) (r : List UInt8) (w : World) (a : Addr) (hc : w.cell? ⟨2, 0, none⟩ = some (errV a)) (hb : 2 ≠ b) (hk : ScAt w b (45 :: r)) (hl : (45 :: r).length ≤ 140737488355328) :
    Calls Tryz.prog 59 #[.pointer (some ⟨b, 0, none⟩)] w (Reads b a w (zoneNum (-1) r)) := by
  obtain ⟨R, hR⟩ : ∃ R, zoneNum (-1) r = R := ⟨_, rfl⟩
  rw [hR]
  unfold zoneNum at hR
  have HR := Lib.hid hR
  clear hR
  go_enter Tryz.func59, Tryz.ntmps59
  go_wp2_with fail
  refine (is_no (45 :: r) [43] b _ hk (pre_one (by decide)) hl (by decide)).mono ?_
  rintro e w1 ⟨rfl, hk1, hu1⟩
  have hc1 := upd_cell hu1 hb hc
  go_wp2_with fail
  refine (must_yes [45] r b _ hk1 hl).mono ?_
  rintro e w2 ⟨rfl, hk2, hu2⟩
  have hc2 := upd_cell hu2 hb hc1
  have hu12 := hu1.trans hu2
  go_wp2_with fail
  refine (number_any b 2 r _ a hc2 hb hk2 (by omega)).mono ?_
  rintro e w3 h3
  rcases hn : num 2 0 r with _ | ⟨h, r2⟩
  · rw [hn] at h3
    obtain ⟨rfl, hu3⟩ := h3
    have hR := HR.out
    rw [hn] at hR
    subst hR
    unfold badP
    go_wp2
    exact ⟨rfl, rfl, hu12.trans hu3⟩
  · rw [hn] at h3
    obtain ⟨rfl, hk3, hu3⟩ := h3
    have hc3 := upd_cell hu3 hb hc2
    obtain ⟨x0, x1, _⟩ := num_bd _ _ _ _ _ hn (by omega)
    have x1 : h ≤ 99 := by simp at x1; omega
    have hR := HR.out
    rw [hn] at hR
    dsimp only at hR
    have HR2 := Lib.hid hR
    clear hn hR HR
    go_wp2_with fail
    refine (number_any b 2 r2 _ a hc3 hb hk3 (by omega)).mono ?_
    rintro e w4 h4
    rcases hn : num 2 0 r2 with _ | ⟨m, r4⟩
    · rw [hn] at h4
      obtain ⟨rfl, hu4⟩ := h4
      have hR := HR2.out
      rw [hn] at hR
      subst hR
      unfold badP
      go_wp2
      exact ⟨rfl, rfl, hu12.trans (hu3.trans hu4)⟩
    · rw [hn] at h4
      obtain ⟨rfl, hk4, hu4⟩ := h4
      have hc4 := upd_cell hu4 hb hc3
      obtain ⟨y0, y1, _⟩ := num_bd _ _ _ _ _ hn (by omega)
      have y1 : m ≤ 99 := by simp at y1; omega
      have hR := HR2.out
      rw [hn] at hR
      dsimp only at hR
      clear hn HR2
      by_cases hh : h < 24
      · by_cases hm : m < 60
        · rw [if_pos ⟨hh, hm⟩] at hR
          subst hR
          go_wp2_with fail
          refine (need_yes _ _).mono ?_
          rintro e w5 ⟨rfl, rfl⟩
          go_wp2
          rw [show (-1) * (h * 3600 + m * 60) = -(h * 3600 + m * 60) by omega]
          go_ret
          exact ⟨rfl, hk4, hu12.trans (hu3.trans hu4)⟩
        · rw [if_neg (by omega)] at hR
          subst hR
          have hm : 60 ≤ m := by omega
          have hmf : decide (m < 60) = false := decide_eq_false (by omega)
          go_wp2_with fail
          refine (need_no _ _ a hc4).mono ?_
          rintro e w5 ⟨rfl, rfl⟩
          unfold badP
          go_wp2
          exact ⟨rfl, rfl, hu12.trans (hu3.trans hu4)⟩
      · rw [if_neg (by omega)] at hR
        subst hR
        have hh : 24 ≤ h := by omega
        have hhf : decide (h < 24) = false := decide_eq_false (by omega)
        go_wp2_with fail
        refine (need_no _ _ a hc4).mono ?_
        rintro e w5 ⟨rfl, rfl⟩
        unfold badP
        go_wp2
        exact ⟨rfl, rfl, hu12.trans (hu3.trans hu4)⟩

theorem zone_none (b : Nat) (l : List UInt8) (w : World) (a : Addr) (hc : w.cell? ⟨2, 0, none⟩ = some (errV a)) (hb : 2 ≠ b) (hk : ScAt w b l) (hl : l.length ≤ 140737488355328) (hp : ¬ [43] <+: l) (hm : ¬ [45] <+: l) :
    Calls Tryz.prog 59 #[.pointer (some ⟨b, 0, none⟩)] w (Reads b a w none) := by
  go_enter Tryz.func59, Tryz.ntmps59
  go_wp2_with fail
  refine (is_no l [43] b _ hk hp hl (by decide)).mono ?_
  rintro e w1 ⟨rfl, hk1, hu1⟩
  have hc1 := upd_cell hu1 hb hc
  go_wp2_with fail
  refine (must_no l [45] b _ a hc1 hb hk1 hm hl (by decide)).mono ?_
  rintro e w2 ⟨rfl, hu2⟩
  unfold badP
  go_wp2
  exact ⟨rfl, rfl, hu1.trans hu2⟩

theorem zone_any (b : Nat) (l : List UInt8) (w : World) (a : Addr) (hc : w.cell? ⟨2, 0, none⟩ = some (errV a)) (hb : 2 ≠ b) (hk : ScAt w b l) (hl : l.length ≤ 140737488355328) :
    Calls Tryz.prog 59 #[.pointer (some ⟨b, 0, none⟩)] w (Reads b a w (zone l)) := by
  cases l with
  | nil => exact zone_none b [] w a hc hb hk hl (by simp) (by simp)
  | cons c r =>
    by_cases h1 : c = 43
    · subst h1
      rw [show zone (43 :: r) = zoneNum 1 r by simp [zone]]
      exact zone_plus b r w a hc hb hk hl
    · by_cases h2 : c = 45
      · subst h2
        rw [show zone (45 :: r) = zoneNum (-1) r by simp [zone]]
        exact zone_minus b r w a hc hb hk hl
      · rw [show zone (c :: r) = none by simp [zone, h1, h2]]
        exact zone_none b _ w a hc hb hk hl (pre_one h1) (pre_one h2)

end Go.Proofs.YtcjnpklmfcbofaaGreatDoor
end

/- The dates' reader: the deferred closure that recovers; read. -/
set_option linter.unusedVariables false
set_option linter.unusedSimpArgs false
section
namespace Go.Proofs.YtcjnpklmfcbofaaGreatDoor
open Go.RowKit

theorem tm18 (p q x : Value) : #[p, q] ++ ((Array.replicate 16 undef).setIfInBounds 3 x).setIfInBounds 0 x = #[p, q, x, undef, undef, x, undef, undef, undef, undef, undef, undef, undef, undef, undef, undef, undef, undef] := by
  simp [Array.replicate]

theorem ta_bad (v : Value) (w : World) : (Instr.typeAssert (.iface 120 v) 20 120 true).run Tryz.prog w = .ok (.tuple #[v, .bool true]) w := by kernel_rfl

set_option maxRecDepth 100000 in
theorem catch_bad (B C : Nat) (x y : Value) (a : Addr) (older : List PanicEntry) (w : World) (hp : w.cell? ⟨B, 0, none⟩ = some x) (hq : w.cell? ⟨C, 0, none⟩ = some y) (zp : w.frozen? ⟨B, 0, none⟩ = false) (zq : w.frozen? ⟨C, 0, none⟩ = false) (hBC : B ≠ C) :
    CallsD Tryz.prog 82 #[.pointer (some ⟨B, 0, none⟩), .pointer (some ⟨C, 0, none⟩)] (.panicking ({ v := .iface 120 (.agg #[.iface 182 (.pointer (some a))]), recovered := false } :: older)) w fun e u' w' =>
      e = .returned (.tuple #[]) ∧ u' = .panicking ({ v := .iface 120 (.agg #[.iface 182 (.pointer (some a))]), recovered := true } :: older) ∧ w' = (((w.alloc (.cells #[.iface 182 (.pointer (some a))] 120)).setCell ⟨B, 0, none⟩ (.int .i64 0)).setCell ⟨C, 0, none⟩ (.iface 182 (.pointer (some a)))).drew := by
  refine callsD_of_wpS Tryz.func82 rfl fun c₀ cs hu => ?_
  apply wpS_seq
  apply wpS_region
  simp [wpOpsS, go_sem, recoverD, hu, Tryz.ntmps82, Exit.thenS]
  refine wpS_of_wp ?_
  rw [tm18]
  have hta := ta_bad (.agg #[.iface 182 (.pointer (some a))])
  go_wp2
  obtain ⟨W1, hW1⟩ : ∃ W1, w.alloc (.cells #[.iface 182 (.pointer (some a))] 120) = W1 := ⟨_, rfl⟩
  have hB0 : Below w.heap.size w W1 := by rw [← hW1]; exact (Below.refl _ _).alloc (Nat.le_refl _) _
  have hnB : ¬ B = w.heap.size := Nat.ne_of_lt (cell_lt hp)
  have hnC : ¬ C = w.heap.size := Nat.ne_of_lt (cell_lt hq)
  have hn : W1.cell? ⟨w.heap.size, 0, none⟩ = some (.iface 182 (.pointer (some a))) := by rw [← hW1]; simp [go_sem]
  have hp1 : W1.cell? ⟨B, 0, none⟩ = some x := (hB0.cell (cell_lt hp)).trans hp
  have hq1 : W1.cell? ⟨C, 0, none⟩ = some y := (hB0.cell (cell_lt hq)).trans hq
  have zp1 : W1.frozen? ⟨B, 0, none⟩ = false := by rw [← zp]; simp only [World.frozen?, hB0.block B (cell_lt hp)]
  have zq1 : W1.frozen? ⟨C, 0, none⟩ = false := by rw [← zq]; simp only [World.frozen?, hB0.block C (cell_lt hq)]
  rw [hW1]
  have HW := Lib.hid hW1
  clear hW1
  go_region
  have hW := HW.out
  subst hW
  clear HW hB0 hn hp1 hq1 zp1 zq1 hnB hnC hp hq zp zq hta
  show bodyPostS _ _ _ _ _ _ _ _ _
  simp [bodyPostS, results, Tryz.results82]

set_option maxRecDepth 100000 in
theorem catch_idle (p q : Addr) (w : World) :
    CallsD Tryz.prog 82 #[.pointer (some p), .pointer (some q)] .returning w fun e u' w' => e = .returned (.tuple #[]) ∧ u' = .returning ∧ w' = w := by
  refine callsD_of_wpS Tryz.func82 rfl fun c₀ cs hu => ?_
  apply wpS_seq
  apply wpS_region
  simp [wpOpsS, go_sem, recoverD, hu, Tryz.ntmps82, Exit.thenS]
  refine wpS_of_wp ?_
  rw [tm18]
  go_wp2
  cases c₀
  simp_all [bodyPostS, results, Tryz.results82]

end Go.Proofs.YtcjnpklmfcbofaaGreatDoor
end

/- The dates' reader: read, by a rule. -/
set_option linter.unusedVariables false
set_option linter.unusedSimpArgs false
section
namespace Go.Proofs.YtcjnpklmfcbofaaGreatDoor
open Go.RowKit

end Go.Proofs.YtcjnpklmfcbofaaGreatDoor
end

/- The dates' rules: what stands between two steps of a rule. -/
set_option linter.unusedVariables false
set_option linter.unusedSimpArgs false
section
namespace Go.Proofs.YtcjnpklmfcbofaaGreatDoor
open Go.RowKit

def lit (t l : List UInt8) : Option (List UInt8) := if t.isPrefixOf l then some (l.drop t.length) else none
def skip (t l : List UInt8) : List UInt8 := if t.isPrefixOf l then l.drop t.length else l

theorem lit_len {t l r : List UInt8} (h : lit t l = some r) : r.length ≤ l.length ∧ l = t ++ r := by
  unfold lit at h
  by_cases hp : t.isPrefixOf l = true
  · rw [if_pos hp] at h
    obtain rfl := Option.some.inj h
    obtain ⟨r, rfl⟩ := List.isPrefixOf_iff_prefix.1 hp
    exact ⟨by simp, by simp⟩
  · rw [if_neg hp] at h; cases h
theorem skip_len (t l : List UInt8) : (skip t l).length ≤ l.length := by
  unfold skip
  split <;> simp

theorem is_any (t l : List UInt8) (b : Nat) (w : World) (hk : ScAt w b l) (hl : l.length ≤ 140737488355328) (ht : t.length ≤ 140737488355328) : Calls Tryz.prog 55 #[.pointer (some ⟨b, 0, none⟩), .string (bs t)] w fun e w' => e = .returned (.bool (t.isPrefixOf l)) ∧ ScAt w' b (skip t l) ∧ Upd b w w' := by
  unfold skip
  by_cases hp : t.isPrefixOf l = true
  · rw [if_pos hp, hp]
    obtain ⟨r, rfl⟩ := List.isPrefixOf_iff_prefix.1 hp
    rw [List.drop_left]
    exact is_yes t r b w hk hl
  · rw [if_neg hp, Bool.eq_false_iff.2 hp]
    exact is_no l t b w hk (fun h => hp (List.isPrefixOf_iff_prefix.2 h)) hl ht

/-- how reading a text that must stand may end -/
def Musts (b : Nat) (a : Addr) (w : World) (r : Option (List UInt8)) (e : Ending) (w' : World) : Prop :=
  match r with
  | none => e = badP (errV a) ∧ Upd b w w'
  | some l => e = .returned (.tuple #[]) ∧ ScAt w' b l ∧ Upd b w w'

theorem must_any (t l : List UInt8) (b : Nat) (w : World) (a : Addr) (hc : w.cell? ⟨2, 0, none⟩ = some (errV a)) (hb : 2 ≠ b) (hk : ScAt w b l) (hl : l.length ≤ 140737488355328) (ht : t.length ≤ 140737488355328) :
    Calls Tryz.prog 56 #[.pointer (some ⟨b, 0, none⟩), .string (bs t)] w (Musts b a w (lit t l)) := by
  unfold lit
  by_cases hp : t.isPrefixOf l = true
  · rw [if_pos hp]
    obtain ⟨r, rfl⟩ := List.isPrefixOf_iff_prefix.1 hp
    rw [List.drop_left]
    exact must_yes t r b w hk hl
  · rw [if_neg hp]
    exact must_no l t b w a hc hb hk (fun h => hp (List.isPrefixOf_iff_prefix.2 h)) hl ht

/-- between two steps of a rule: the scanner at block b stands before r; the date lies in block C, the result in block D -/
structure St (w : World) (b C D : Nat) (a : Addr) (cs : Array Value) (r : List UInt8) (wi : World) : Prop where
  sc : ScAt wi b r
  upd : Upd b w wi
  box : wi.heap[C]? = some (.cells cs 64 (0, 0))
  res : wi.heap[D]? = some (.cells civ0 64 (0, 0))
  err : wi.cell? ⟨2, 0, none⟩ = some (errV a)
  len : r.length ≤ 140737488355328

theorem St.call {w wi w' : World} {b C D : Nat} {a : Addr} {cs : Array Value} {r r' : List UInt8} (h : St w b C D a cs r wi) (hC : C ≠ b) (hD : D ≠ b) (hb : 2 ≠ b) (hk : ScAt w' b r') (hu : Upd b wi w') (hl : r'.length ≤ r.length) : St w b C D a cs r' w' where
  sc := hk
  upd := h.upd.trans hu
  box := (hu.block C (Array.getElem?_eq_some_iff.1 h.box).1 hC).trans h.box
  res := (hu.block D (Array.getElem?_eq_some_iff.1 h.res).1 hD).trans h.res
  err := upd_cell hu hb h.err
  len := Nat.le_trans hl h.len

theorem St.set {w wi : World} {b C D : Nat} {a : Addr} {cs : Array Value} {r : List UInt8} (h : St w b C D a cs r wi) (hC : C ≠ b) (hCD : D ≠ C) (hw : w.heap.size ≤ C) (hE : 2 ≠ C) (f : Nat) (v : Value) : St w b C D a (cs.setIfInBounds f v) r (wi.setCell ⟨C, f, none⟩ v) where
  sc := (Below.heap_setCell _ _ _ _ (by simpa using fun e => hC e.symm)).trans h.sc
  upd := ⟨h.upd.os, h.upd.tape, h.upd.output, by simpa [World.setCell] using h.upd.size, fun k hk hb => (Below.heap_setCell _ _ _ _ (by simp; omega)).trans (h.upd.block k hk hb)⟩
  box := blk_set h.box f v
  res := (Below.heap_setCell _ _ _ _ (by simpa using hCD)).trans h.res
  err := by
    have := h.err
    simp only [World.cell?] at this ⊢
    rw [Below.heap_setCell _ _ _ _ (by simpa using hE)]
    exact this
  len := h.len

theorem St.drew {w wi : World} {b C D : Nat} {a : Addr} {cs : Array Value} {r : List UInt8} (h : St w b C D a cs r wi) : St w b C D a cs r wi.drew := ⟨h.sc, h.upd.drew, h.box, h.res, h.err, h.len⟩

theorem St.cells {w wi : World} {b C D : Nat} {a : Addr} {cs : Array Value} {r : List UInt8} (h : St w b C D a cs r wi) (i : Nat) : wi.cell? ⟨C, i, none⟩ = cs[i]? ∧ wi.frozen? ⟨C, i, none⟩ = false := ⟨blk_cell h.box i, blk_free h.box i⟩

theorem St.fin {w W : World} {b C D : Nat} {a : Addr} {cs : Array Value} {r : List UInt8} (h : St w b C D a cs r W) (hDb : D ≠ b) (hw : w.heap.size ≤ D) (v0 v1 v2 v3 v4 v5 v6 : Value) :
    (((((((W.setCell ⟨D, 0, none⟩ v0).setCell ⟨D, 1, none⟩ v1).setCell ⟨D, 2, none⟩ v2).setCell ⟨D, 3, none⟩ v3).setCell ⟨D, 4, none⟩ v4).setCell ⟨D, 5, none⟩ v5).setCell ⟨D, 6, none⟩ v6).heap[D]? = some (.cells #[v0, v1, v2, v3, v4, v5, v6] 64 (0, 0)) ∧
    ScAt (((((((W.setCell ⟨D, 0, none⟩ v0).setCell ⟨D, 1, none⟩ v1).setCell ⟨D, 2, none⟩ v2).setCell ⟨D, 3, none⟩ v3).setCell ⟨D, 4, none⟩ v4).setCell ⟨D, 5, none⟩ v5).setCell ⟨D, 6, none⟩ v6) b r ∧
    Upd b w (((((((W.setCell ⟨D, 0, none⟩ v0).setCell ⟨D, 1, none⟩ v1).setCell ⟨D, 2, none⟩ v2).setCell ⟨D, 3, none⟩ v3).setCell ⟨D, 4, none⟩ v4).setCell ⟨D, 5, none⟩ v5).setCell ⟨D, 6, none⟩ v6) := by
  have sc1 : ∀ (V : World) (i : Nat) (v : Value), ScAt V b r → ScAt (V.setCell ⟨D, i, none⟩ v) b r := fun V i v hs => (Below.heap_setCell _ _ _ _ (by simpa using fun e => hDb e.symm)).trans hs
  have up1 : ∀ (V : World) (i : Nat) (v : Value), Upd b w V → Upd b w (V.setCell ⟨D, i, none⟩ v) := fun V i v hu => ⟨hu.os, hu.tape, hu.output, by simpa [World.setCell] using hu.size, fun k hk hb => (Below.heap_setCell _ _ _ _ (by simp; omega)).trans (hu.block k hk hb)⟩
  exact ⟨blk_set (blk_set (blk_set (blk_set (blk_set (blk_set (blk_set h.res 0 v0) 1 v1) 2 v2) 3 v3) 4 v4) 5 v5) 6 v6,
    sc1 _ _ _ (sc1 _ _ _ (sc1 _ _ _ (sc1 _ _ _ (sc1 _ _ _ (sc1 _ _ _ (sc1 _ _ _ h.sc)))))), up1 _ _ _ (up1 _ _ _ (up1 _ _ _ (up1 _ _ _ (up1 _ _ _ (up1 _ _ _ (up1 _ _ _ h.upd))))))⟩

def RuleD : Type := (Int × Int × Int × Int × Int × Int) × Int
def dateV (y m d h mi s : Int) : Value := .agg #[.int .i64 y, .int .i64 m, .int .i64 d, .int .i64 h, .int .i64 mi, .int .i64 s, .int .i64 0]

/-- how a rule may end -/
def Rules (b : Nat) (a : Addr) (w : World) (R : Option (RuleD × List UInt8)) (e : Ending) (w' : World) : Prop :=
  match R with
  | none => e = badP (errV a) ∧ Upd b w w'
  | some (((y, m, d, h, mi, s), z), r) => e = .returned (.tuple #[dateV y m d h mi s, .int .i64 z]) ∧ ScAt w' b r ∧ Upd b w w'

/-- the names of the months -/
def monthsL : List UInt8 := [74, 97, 110, 70, 101, 98, 77, 97, 114, 65, 112, 114, 77, 97, 121, 74, 117, 110, 74, 117, 108, 65, 117, 103, 83, 101, 112, 79, 99, 116, 78, 111, 118, 68, 101, 99]
def daysL : List UInt8 := [83, 117, 110, 77, 111, 110, 84, 117, 101, 87, 101, 100, 84, 104, 117, 70, 114, 105, 83, 97, 116]

theorem nm_bd : ∀ (k i : Nat) (t l : List UInt8) (v : Int) (r : List UInt8), nm k i t l = some (v, r) → (i : Int) ≤ v ∧ v < i + k ∧ r.length ≤ l.length
  | 0, _, _, _, _, _, h => by unfold nm at h; cases h
  | k + 1, i, t, l, v, r, h => by
    unfold nm at h
    split at h
    · obtain ⟨rfl, rfl⟩ := Prod.mk.inj (Option.some.inj h)
      simp; omega
    · obtain ⟨a, b, c⟩ := nm_bd k (i + 1) _ _ _ _ h
      exact ⟨by omega, by omega, c⟩
theorem short_bd {l : List UInt8} {v : Int} {r : List UInt8} (h : short l = some (v, r)) : 0 ≤ v ∧ v ≤ 99 ∧ r.length ≤ l.length := by
  unfold short at h
  rcases hn : num 1 0 l with _ | ⟨x, r1⟩
  · rw [hn] at h; cases h
  · rw [hn] at h
    obtain ⟨a1, a2, a3⟩ := num_bd _ _ _ _ _ hn (by omega)
    simp only at h
    split at h
    · rcases hm : num 1 0 r1 with _ | ⟨y, r2⟩
      · rw [hm] at h; cases h
      · rw [hm] at h
        obtain ⟨b1, b2, b3⟩ := num_bd _ _ _ _ _ hm (by omega)
        obtain ⟨rfl, rfl⟩ := Prod.mk.inj (Option.some.inj h)
        simp at a2 b2
        omega
    · obtain ⟨rfl, rfl⟩ := Prod.mk.inj (Option.some.inj h)
      simp at a2
      omega
theorem zoneNum_bd {sg : Int} (hs : sg = 1 ∨ sg = -1) {l : List UInt8} {z : Int} {r : List UInt8} (h : zoneNum sg l = some (z, r)) : -86400 ≤ z ∧ z ≤ 86400 ∧ r.length ≤ l.length := by
  unfold zoneNum at h
  rcases hn : num 2 0 l with _ | ⟨x, r1⟩
  · rw [hn] at h; cases h
  · rw [hn] at h
    obtain ⟨a1, a2, a3⟩ := num_bd _ _ _ _ _ hn (by omega)
    simp only at h
    rcases hm : num 2 0 r1 with _ | ⟨y, r2⟩
    · rw [hm] at h; cases h
    · rw [hm] at h
      obtain ⟨b1, b2, b3⟩ := num_bd _ _ _ _ _ hm (by omega)
      simp only at h
      split at h
      · obtain ⟨rfl, rfl⟩ := Prod.mk.inj (Option.some.inj h)
        rcases hs with rfl | rfl <;> omega
      · cases h
theorem zone_bd {l : List UInt8} {z : Int} {r : List UInt8} (h : zone l = some (z, r)) : -86400 ≤ z ∧ z ≤ 86400 ∧ r.length ≤ l.length := by
  cases l with
  | nil => cases h
  | cons c t =>
    have e : zone (c :: t) = if c = 43 then zoneNum 1 t else if c = 45 then zoneNum (-1) t else none := rfl
    rw [e] at h
    by_cases h1 : c = 43
    · rw [if_pos h1] at h
      obtain ⟨a, b, c⟩ := zoneNum_bd (.inl rfl) h
      exact ⟨a, b, by simp; omega⟩
    · rw [if_neg h1] at h
      by_cases h2 : c = 45
      · rw [if_pos h2] at h
        obtain ⟨a, b, c⟩ := zoneNum_bd (.inr rfl) h
        exact ⟨a, b, by simp; omega⟩
      · rw [if_neg h2] at h; cases h

end Go.Proofs.YtcjnpklmfcbofaaGreatDoor
end

/- The dates' reader: read at a rule that reads a date. -/
set_option linter.unusedVariables false
set_option linter.unusedSimpArgs false
section
namespace Go.Proofs.YtcjnpklmfcbofaaGreatDoor
open Go.RowKit

end Go.Proofs.YtcjnpklmfcbofaaGreatDoor
end

/- The dates' reader: read at a rule that reads a date to the text's end. -/
set_option linter.unusedVariables false
set_option linter.unusedSimpArgs false
section
namespace Go.Proofs.YtcjnpklmfcbofaaGreatDoor
open Go.RowKit

theorem Cal.mom_bd {y m d h mi s : Int} (hr : Cal.right y m d h mi s) : 0 ≤ Cal.mom y m d h mi s ∧ Cal.mom y m d h mi s ≤ 4102444799 := by
  obtain ⟨⟨y0, y1⟩, ⟨m0, m1⟩, ⟨d0, d1⟩, ⟨h0, h1⟩, ⟨i0, i1⟩, ⟨s0, s1⟩⟩ := hr
  have a := Cal.cum_succ y m m0 m1
  have b := Cal.cum_mono y (m + 1) (by omega) (12 - m).toNat 13 (by omega) (by omega)
  have c := Cal.cum_13 y
  have e := Cal.dby_succ y y0 y1
  have f := (Cal.dby_bd (y + 1) (by omega) (by omega)).2
  have g := (Cal.dby_bd y y0 (by omega)).1
  have k := (Cal.cum_bd y m m0 (by omega)).1
  generalize (if Cal.lp y = true then (1 : Int) else 0) = q at c e
  unfold Cal.mom Cal.dnum
  omega
theorem blk2 {w : World} {B : Nat} {v : Value} {t : TypeId} (h : w.heap[B]? = some (.cells #[v] t (0, 0))) : w.cell? ⟨B, 0, none⟩ = some v ∧ w.frozen? ⟨B, 0, none⟩ = false := by
  refine ⟨?_, ?_⟩ <;> simp [World.cell?, World.frozen?, h]
theorem blk_set1 {w : World} {B : Nat} {v : Value} {t : TypeId} (h : w.heap[B]? = some (.cells #[v] t (0, 0))) (u : Value) : (w.setCell ⟨B, 0, none⟩ u).heap[B]? = some (.cells #[u] t (0, 0)) := by
  simp [World.setCell, Array.getElem?_modify, h]
theorem two_set {W : World} {B : Nat} {v u : Value} {t t' : TypeId} (hp : W.heap[B]? = some (.cells #[v] t (0, 0))) (hq : W.heap[B + 1]? = some (.cells #[u] t' (0, 0))) (x y : Value) :
    ((W.setCell ⟨B, 0, none⟩ x).setCell ⟨B + 1, 0, none⟩ y).heap[B]? = some (.cells #[x] t (0, 0)) ∧ ((W.setCell ⟨B, 0, none⟩ x).setCell ⟨B + 1, 0, none⟩ y).heap[B + 1]? = some (.cells #[y] t' (0, 0)) ∧ ∀ n W0, Below n W0 W → n ≤ B → Below n W0 ((W.setCell ⟨B, 0, none⟩ x).setCell ⟨B + 1, 0, none⟩ y) := by
  refine ⟨?_, ?_, fun n W0 h hn => (h.setCell (p := ⟨B, 0, none⟩) hn _).setCell (p := ⟨B + 1, 0, none⟩) (by show n ≤ B + 1; omega) _⟩
  · exact (Below.heap_setCell _ _ _ _ (by simp)).trans (blk_set1 hp x)
  · exact blk_set1 ((Below.heap_setCell _ _ _ _ (by simp)).trans hq) y
theorem blk_other {w : World} {B C : Nat} {o : Obj} (h : w.heap[B]? = some o) (hne : B ≠ C) (u : Value) : (w.setCell ⟨C, 0, none⟩ u).heap[B]? = some o :=
  (Below.heap_setCell _ _ _ _ (by simpa using hne)).trans h

end Go.Proofs.YtcjnpklmfcbofaaGreatDoor
end

/- The dates' reader: read at the rules of ParseInternal and ParseMail (bad). Printed by gen27.py. -/
set_option linter.unusedVariables false
set_option linter.unusedSimpArgs false
section
namespace Go.Proofs.YtcjnpklmfcbofaaGreatDoor
open Go.RowKit

set_option maxRecDepth 100000 in
theorem readMail_bad (l : List UInt8) (w : World) (a : Addr) (hc : w.cell? ⟨2, 0, none⟩ = some (errV a)) (hl : l.length ≤ 140737488355328)
    (hF : ∀ (b : Nat) (w1 : World), ScAt w1 b l → w1.cell? ⟨2, 0, none⟩ = some (errV a) → 2 ≠ b → Calls Tryz.prog 52 #[.pointer (some ⟨b, 0, none⟩)] w1 fun e w' => e = badP (errV a) ∧ Upd b w1 w') :
    Calls Tryz.prog 51 #[.string (bs l), .func (.func 52) #[] #[]] w fun e w' => e = .returned (.tuple #[.int .i64 0, errV a]) ∧ Below w.heap.size w w' := by
  have hmf : ∀ (fn : Fn) (first cap : Array Value) (w : World), (Instr.makeFunc fn first cap).run Tryz.prog w = .ok (.func fn first cap) w := fun _ _ _ _ => rfl
  go_enter_defers Tryz.func51, Tryz.ntmps51
  go_wp2_with fail
  obtain ⟨W1, hW1⟩ : ∃ W1, (((w.alloc (.cells #[.int .i64 0] 3)).alloc (.cells #[.nilIface] 24)).alloc (.cells #[.string (bs l)] 123)) = W1 := ⟨_, rfl⟩
  rw [hW1]
  have hk1 : ScAt W1 (w.heap.size + 1 + 1) l := by
    rw [← hW1]
    have := heap_new ((w.alloc (.cells #[.int .i64 0] 3)).alloc (.cells #[.nilIface] 24)) (.cells #[.string (bs l)] 123)
    rw [size_alloc, size_alloc] at this
    exact this
  have hB1 : Below w.heap.size w W1 := by
    rw [← hW1]
    exact (((Below.refl _ _).alloc (Nat.le_refl _) _).alloc (by simp) _).alloc (by simp; omega) _
  have hc1 := (hB1.cell (cell_lt hc)).trans hc
  have hs1 : W1.heap.size = w.heap.size + 1 + 1 + 1 := by rw [← hW1]; simp
  have hp1 : W1.heap[w.heap.size]? = some (.cells #[.int .i64 0] 3 (0, 0)) := by
    rw [← hW1, heap_old _ _ _ (by simp; omega), heap_old _ _ _ (by simp)]
    exact heap_new _ _
  have hq1 : W1.heap[w.heap.size + 1]? = some (.cells #[.nilIface] 24 (0, 0)) := by
    rw [← hW1, heap_old _ _ _ (by simp)]
    have := heap_new (w.alloc (.cells #[.int .i64 0] 3)) (.cells #[.nilIface] 24)
    rw [size_alloc] at this
    exact this
  have hlt : 2 < w.heap.size := cell_lt hc
  clear hW1
  refine (hF _ _ hk1 hc1 (by omega)).mono ?_
  rintro e w2 ⟨rfl, hu2⟩
  have hp2 := (hu2.block (w.heap.size) (by omega) (by omega)).trans hp1
  have hq2 := (hu2.block (w.heap.size + 1) (by omega) (by omega)).trans hq1
  unfold badP errV
  go_wp2
  refine leaves_cons (f := 82) (args := #[.pointer (some ⟨w.heap.size, 0, none⟩), .pointer (some ⟨w.heap.size + 1, 0, none⟩)]) (by simp) (by simp [go_sem]) ?_
  refine (catch_bad w.heap.size (w.heap.size + 1) (.int .i64 0) .nilIface a [] _ ?_ ?_ ?_ ?_ (by omega)).mono ?_
  · simp [World.cell?, hp2]
  · simp [World.cell?, hq2]
  · simp [World.frozen?, hp2]
  · simp [World.frozen?, hq2]
  rintro e u' w3 ⟨rfl, rfl, rfl⟩
  have hb2 : Below w.heap.size w w2 := hB1.trans (hu2.below (by omega) (by omega))
  have hz2 := hb2.size
  have hz := hu2.size
  obtain ⟨O, hO⟩ : ∃ O : Obj, .cells #[.iface 182 (.pointer (some a))] 120 = O := ⟨_, rfl⟩
  rw [hO]
  have hp3 : (w2.alloc O).heap[w.heap.size]? = some (.cells #[.int .i64 0] 3 (0, 0)) := (heap_old _ _ _ (by omega)).trans hp2
  have hq3 : (w2.alloc O).heap[w.heap.size + 1]? = some (.cells #[.nilIface] 24 (0, 0)) := (heap_old _ _ _ (by omega)).trans hq2
  obtain ⟨W2, hW2⟩ : ∃ W2, w2.alloc O = W2 := ⟨_, rfl⟩
  rw [hW2] at hp3 hq3 ⊢
  have hb3 : Below w.heap.size w W2 := by rw [← hW2]; exact hb2.alloc hz2 _
  obtain ⟨W3, hW3⟩ : ∃ W3, ((W2.setCell ⟨w.heap.size, 0, none⟩ (.int .i64 0)).setCell ⟨w.heap.size + 1, 0, none⟩ (.iface 182 (.pointer (some a)))).drew = W3 := ⟨_, rfl⟩
  rw [hW3]
  have c3 : W3.cell? ⟨w.heap.size, 0, none⟩ = some (.int .i64 0) := by
    rw [← hW3]; simp [World.cell?, World.drew, World.setCell, Array.getElem?_modify, hp3]
  have d3 : W3.cell? ⟨w.heap.size + 1, 0, none⟩ = some (.iface 182 (.pointer (some a))) := by
    rw [← hW3]; simp [World.cell?, World.drew, World.setCell, Array.getElem?_modify, hq3]
  have hb4 : Below w.heap.size w W3 := by
    rw [← hW3]
    refine (hb3.trans ?_)
    exact ⟨rfl, rfl, rfl, by simp [World.setCell, World.drew], fun k hk => (Below.heap_setCell _ _ _ _ (by simp; omega)).trans (Below.heap_setCell _ _ _ _ (by simp; omega))⟩
  clear hW3 hW2 hO hp3 hq3 hp2 hq2 hp1 hq1 hk1 hB1 hc1
  simp [Leaves, settle, results, Tryz.results51, go_sem, c3, d3]
  exact ⟨rfl, hb4⟩



end Go.Proofs.YtcjnpklmfcbofaaGreatDoor
end

/- The dates' reader: read at the rules of ParseInternal and ParseMail (rest). Printed by gen27.py. -/
set_option linter.unusedVariables false
set_option linter.unusedSimpArgs false
section
namespace Go.Proofs.YtcjnpklmfcbofaaGreatDoor
open Go.RowKit

set_option maxRecDepth 100000 in
theorem readMail_rest (l : List UInt8) (w : World) (a : Addr) (hc : w.cell? ⟨2, 0, none⟩ = some (errV a)) (hl : l.length ≤ 140737488355328) (y m d h mi s z : Int) (r : List UInt8) (hr : r ≠ [])
    (hF : ∀ (b : Nat) (w1 : World), ScAt w1 b l → w1.cell? ⟨2, 0, none⟩ = some (errV a) → 2 ≠ b → Calls Tryz.prog 52 #[.pointer (some ⟨b, 0, none⟩)] w1 fun e w' => e = .returned (.tuple #[dateV y m d h mi s, .int .i64 z]) ∧ ScAt w' b r ∧ Upd b w1 w') :
    Calls Tryz.prog 51 #[.string (bs l), .func (.func 52) #[] #[]] w fun e w' => e = .returned (.tuple #[.int .i64 0, errV a]) ∧ Below w.heap.size w w' := by
  have hmf : ∀ (fn : Fn) (first cap : Array Value) (w : World), (Instr.makeFunc fn first cap).run Tryz.prog w = .ok (.func fn first cap) w := fun _ _ _ _ => rfl
  go_enter_defers Tryz.func51, Tryz.ntmps51
  go_wp2_with fail
  obtain ⟨W1, hW1⟩ : ∃ W1, (((w.alloc (.cells #[.int .i64 0] 3)).alloc (.cells #[.nilIface] 24)).alloc (.cells #[.string (bs l)] 123)) = W1 := ⟨_, rfl⟩
  rw [hW1]
  have hk1 : ScAt W1 (w.heap.size + 1 + 1) l := by
    rw [← hW1]
    have := heap_new ((w.alloc (.cells #[.int .i64 0] 3)).alloc (.cells #[.nilIface] 24)) (.cells #[.string (bs l)] 123)
    rw [size_alloc, size_alloc] at this
    exact this
  have hB1 : Below w.heap.size w W1 := by
    rw [← hW1]
    exact (((Below.refl _ _).alloc (Nat.le_refl _) _).alloc (by simp) _).alloc (by simp; omega) _
  have hc1 := (hB1.cell (cell_lt hc)).trans hc
  have hs1 : W1.heap.size = w.heap.size + 1 + 1 + 1 := by rw [← hW1]; simp
  have hp1 : W1.heap[w.heap.size]? = some (.cells #[.int .i64 0] 3 (0, 0)) := by
    rw [← hW1, heap_old _ _ _ (by simp; omega), heap_old _ _ _ (by simp)]
    exact heap_new _ _
  have hq1 : W1.heap[w.heap.size + 1]? = some (.cells #[.nilIface] 24 (0, 0)) := by
    rw [← hW1, heap_old _ _ _ (by simp)]
    have := heap_new (w.alloc (.cells #[.int .i64 0] 3)) (.cells #[.nilIface] 24)
    rw [size_alloc] at this
    exact this
  have hlt : 2 < w.heap.size := cell_lt hc
  clear hW1
  refine (hF _ _ hk1 hc1 (by omega)).mono ?_
  rintro e v2 ⟨rfl, hk2, gu2⟩
  have gp2 := (gu2.block (w.heap.size) (by omega) (by omega)).trans hp1
  have gq2 := (gu2.block (w.heap.size + 1) (by omega) (by omega)).trans hq1
  have gc2 := upd_cell gu2 (by omega) hc1
  have gz := gu2.size
  obtain ⟨k0, f0⟩ := sc_cells hk2
  obtain ⟨c, r, rfl⟩ : ∃ c r', r = c :: r' := by
    cases r with
    | nil => exact absurd rfl hr
    | cons c r => exact ⟨c, r, rfl⟩
  have k1 := fun o => cell_alloc k0 o
  have hsz : (bs (c :: r)).toList.isEmpty = false := by simp [ByteArray.toList_eq]
  unfold dateV
  go_wp2_with fail
  have hp2 := fun o => (heap_old v2 o _ (by omega)).trans gp2
  have hq2 := fun o => (heap_old v2 o _ (by omega)).trans gq2
  have hu2 := fun o => gu2.alloc o
  have hc2 := fun o => cell_alloc gc2 o
  obtain ⟨O1, hO1⟩ : ∃ O1, Obj.cells #[.int .i64 y, .int .i64 m, .int .i64 d, .int .i64 h, .int .i64 mi, .int .i64 s, .int .i64 0] 64 = O1 := ⟨_, rfl⟩
  rw [hO1]
  replace hp2 := hp2 O1
  replace hq2 := hq2 O1
  replace hu2 := hu2 O1
  replace hc2 := hc2 O1
  obtain ⟨w2, hw2⟩ : ∃ w2, v2.alloc O1 = w2 := ⟨_, rfl⟩
  rw [hw2] at hp2 hq2 hu2 hc2 ⊢
  clear hw2 hO1 k1 k0 f0 hk2 gu2 gp2 gq2 gc2 gz
  refine (need_no _ _ a hc2).mono ?_
  rintro e w9 ⟨rfl, hw9⟩
  rw [hw9]
  clear hw9
  unfold badP errV
  go_wp2
  refine leaves_cons (f := 82) (args := #[.pointer (some ⟨w.heap.size, 0, none⟩), .pointer (some ⟨w.heap.size + 1, 0, none⟩)]) (by simp) (by simp [go_sem]) ?_
  refine (catch_bad w.heap.size (w.heap.size + 1) (.int .i64 0) .nilIface a [] _ ?_ ?_ ?_ ?_ (by omega)).mono ?_
  · simp [World.cell?, hp2]
  · simp [World.cell?, hq2]
  · simp [World.frozen?, hp2]
  · simp [World.frozen?, hq2]
  rintro e u' w3 ⟨rfl, rfl, rfl⟩
  have hb2 : Below w.heap.size w w2 := hB1.trans (hu2.below (by omega) (by omega))
  have hz2 := hb2.size
  have hz := hu2.size
  obtain ⟨O, hO⟩ : ∃ O : Obj, .cells #[.iface 182 (.pointer (some a))] 120 = O := ⟨_, rfl⟩
  rw [hO]
  have hp3 : (w2.alloc O).heap[w.heap.size]? = some (.cells #[.int .i64 0] 3 (0, 0)) := (heap_old _ _ _ (by omega)).trans hp2
  have hq3 : (w2.alloc O).heap[w.heap.size + 1]? = some (.cells #[.nilIface] 24 (0, 0)) := (heap_old _ _ _ (by omega)).trans hq2
  obtain ⟨W2, hW2⟩ : ∃ W2, w2.alloc O = W2 := ⟨_, rfl⟩
  rw [hW2] at hp3 hq3 ⊢
  have hb3 : Below w.heap.size w W2 := by rw [← hW2]; exact hb2.alloc hz2 _
  obtain ⟨W3, hW3⟩ : ∃ W3, ((W2.setCell ⟨w.heap.size, 0, none⟩ (.int .i64 0)).setCell ⟨w.heap.size + 1, 0, none⟩ (.iface 182 (.pointer (some a)))).drew = W3 := ⟨_, rfl⟩
  rw [hW3]
  have c3 : W3.cell? ⟨w.heap.size, 0, none⟩ = some (.int .i64 0) := by
    rw [← hW3]; simp [World.cell?, World.drew, World.setCell, Array.getElem?_modify, hp3]
  have d3 : W3.cell? ⟨w.heap.size + 1, 0, none⟩ = some (.iface 182 (.pointer (some a))) := by
    rw [← hW3]; simp [World.cell?, World.drew, World.setCell, Array.getElem?_modify, hq3]
  have hb4 : Below w.heap.size w W3 := by
    rw [← hW3]
    refine (hb3.trans ?_)
    exact ⟨rfl, rfl, rfl, by simp [World.setCell, World.drew], fun k hk => (Below.heap_setCell _ _ _ _ (by simp; omega)).trans (Below.heap_setCell _ _ _ _ (by simp; omega))⟩
  clear hW3 hW2 hO hp3 hq3 hp2 hq2 hp1 hq1 hk1 hB1 hc1
  simp [Leaves, settle, results, Tryz.results51, go_sem, c3, d3]
  exact ⟨rfl, hb4⟩





end Go.Proofs.YtcjnpklmfcbofaaGreatDoor
end
