/- The dates' scanner: what each of its methods does to the text that it stands before; what isn't in form ends it by a panic. -/
import Derived.Test.YthkkdbpblajahaaDoorS
import Derived.Test.YthkkdbpblajahaaDoorEr
import Derived.BigRegion
import Derived.Deep.DeepFit
import Derived.WalkLawsBesides
import Derived.Lib.Hide
set_option linter.unusedVariables false
set_option linter.unusedSimpArgs false
namespace Go.Proofs.YthkkdbpblajahaaDoor
open Go.RowKit

/-- all that stood is as it was but block b -/
structure Upd (b : Nat) (w w' : World) : Prop where
  os : w'.os = w.os
  tape : w'.tape = w.tape
  output : w'.output = w.output
  size : w.heap.size ≤ w'.heap.size
  block : ∀ k, k < w.heap.size → k ≠ b → w'.heap[k]? = w.heap[k]?

theorem Upd.refl (b : Nat) (w : World) : Upd b w w := ⟨rfl, rfl, rfl, Nat.le_refl _, fun _ _ _ => rfl⟩
theorem Upd.trans {b : Nat} {u v w : World} (h : Upd b u v) (k : Upd b v w) : Upd b u w :=
  ⟨k.os.trans h.os, k.tape.trans h.tape, k.output.trans h.output, Nat.le_trans h.size k.size, fun i hi hb => (k.block i (Nat.lt_of_lt_of_le hi h.size) hb).trans (h.block i hi hb)⟩
theorem Upd.of_below {b : Nat} {w w' : World} (h : Below w.heap.size w w') : Upd b w w' := ⟨h.os, h.tape, h.output, h.size, fun i hi _ => h.block i hi⟩
theorem Upd.below {b B : Nat} {w w' : World} (h : Upd b w w') (hB : B ≤ b) (hs : B ≤ w.heap.size) : Below B w w' := ⟨h.os, h.tape, h.output, h.size, fun i hi => h.block i (by omega) (by omega)⟩
theorem Upd.drew {b : Nat} {w w' : World} (h : Upd b w w') : Upd b w w'.drew := ⟨h.os, h.tape, h.output, h.size, h.block⟩
theorem Upd.drewN {b : Nat} {w w' : World} (h : Upd b w w') (n : Nat) : Upd b w (w'.drewN n) := ⟨h.os, h.tape, h.output, h.size, h.block⟩
theorem Upd.alloc {b : Nat} {w w' : World} (h : Upd b w w') (o : Obj) : Upd b w (w'.alloc o) :=
  h.trans (.of_below ((Below.refl _ _).alloc (Nat.le_refl _) _))
theorem Upd.setCell {b : Nat} {w w' : World} (h : Upd b w w') (i : Nat) (v : Value) : Upd b w (w'.setCell ⟨b, i, none⟩ v) :=
  h.trans ⟨rfl, rfl, rfl, by simp [World.setCell], fun k _ hk => Below.heap_setCell _ _ _ _ hk⟩

/-- the scanner at block b stands before the text l -/
def ScAt (w : World) (b : Nat) (l : List UInt8) : Prop := w.heap[b]? = some (.cells #[.string (bs l)] 81 (0, 0))

theorem sc_cells {w : World} {b : Nat} {l : List UInt8} (hk : ScAt w b l) : w.cell? ⟨b, 0, none⟩ = some (.string (bs l)) ∧ w.frozen? ⟨b, 0, none⟩ = false := by
  unfold ScAt at hk
  refine ⟨?_, ?_⟩ <;> simp [World.cell?, World.frozen?, hk]
theorem sc_set {w : World} {b : Nat} {l : List UInt8} (hk : ScAt w b l) (l' : List UInt8) : ScAt (w.setCell ⟨b, 0, none⟩ (.string (bs l'))) b l' := by
  unfold ScAt at *
  simp [World.setCell, Array.getElem?_modify, hk]
theorem sc_lt {w : World} {b : Nat} {l : List UInt8} (hk : ScAt w b l) : b < w.heap.size := by
  unfold ScAt at hk
  rcases Nat.lt_or_ge b w.heap.size with h1 | h1
  · exact h1
  · rw [Array.getElem?_eq_none h1] at hk; cases hk

theorem upd_cell {b : Nat} {w w' : World} {g i : Nat} {v : Value} (h : Upd b w w') (hb : g ≠ b) (hc : w.cell? ⟨g, i, none⟩ = some v) : w'.cell? ⟨g, i, none⟩ = some v := by
  have hlt : g < w.heap.size := cell_lt hc
  rw [← hc]
  simp only [World.cell?, h.block g hlt hb]

/-- the scanner's panic -/
def badP (v : Value) : Ending := .panicked [{ v := .iface 78 (.agg #[v]), recovered := false }]

theorem need_yes (p : Value) (w : World) : Calls Tryd.prog 54 #[p, .bool true] w fun e w' => e = .returned (.tuple #[]) ∧ w' = w := by
  go_enter Tryd.func54, Tryd.ntmps54
  go_wp2
  go_end0
  exact ⟨rfl, rfl⟩

theorem need_no (p : Value) (w : World) (a : Addr) (hc : w.cell? ⟨1, 0, none⟩ = some (errV a)) : Calls Tryd.prog 54 #[p, .bool false] w fun e w' => e = badP (errV a) ∧ w' = w := by
  unfold errV at hc
  go_enter Tryd.func54, Tryd.ntmps54
  go_wp2
  exact ⟨rfl, rfl, rfl⟩

theorem ext_list (l : List UInt8) (n : Nat) : ((bs l).extract 0 n).toList = l.take n := by
  rw [bs_take, ByteArray.toList_eq]

theorem cut_yes (t r : List UInt8) (w : World) (hl : (t ++ r).length ≤ 140737488355328) : Calls Tryd.prog 80 #[.string (bs (t ++ r)), .string (bs t)] w fun e w' => e = .returned (.tuple #[.string (bs r), .bool true]) ∧ w' = w := by
  have hx : ((bs (t ++ r)).extract 0 t.length).toList = t := by rw [ext_list]; simp
  have hz : (bs (t ++ r)).extract t.length (t.length + r.length) = bs r := by rw [bs_drop _ _ _ (by simp)]; simp
  have hl2 : t.length + r.length ≤ 140737488355328 := by simpa using hl
  go_enter Tryd.func80, Tryd.ntmps80
  go_wp2
  all_goals (first | contradiction | skip)
  go_ret2
  exact ⟨by simp [hz], rfl⟩

theorem cut_no (l t : List UInt8) (w : World) (hp : ¬ t <+: l) (hl : l.length ≤ 140737488355328) (ht : t.length ≤ 140737488355328) : Calls Tryd.prog 80 #[.string (bs l), .string (bs t)] w fun e w' => e = .returned (.tuple #[.string (bs l), .bool false]) ∧ w' = w := by
  have hx : ¬ ((bs l).extract 0 t.length).toList = t := by
    rw [ext_list]
    intro e
    exact hp (e ▸ List.take_prefix _ _)
  have hxf : (!((bs l).extract 0 t.length).toList == t) = true := by simp [hx]
  go_enter Tryd.func80, Tryd.ntmps80
  go_wp2
  all_goals (first | contradiction | (exfalso; rename_i hq; rw [hxf] at hq; cases hq; done) | skip)
  all_goals
    go_ret2
    exact ⟨rfl, rfl⟩

/-- the text stands here: the scanner goes behind it -/
theorem is_yes (t r : List UInt8) (b : Nat) (w : World) (hk : ScAt w b (t ++ r)) (hl : (t ++ r).length ≤ 140737488355328) : Calls Tryd.prog 53 #[.pointer (some ⟨b, 0, none⟩), .string (bs t)] w fun e w' => e = .returned (.bool true) ∧ ScAt w' b r ∧ Upd b w w' := by
  obtain ⟨c0, f0⟩ := sc_cells hk
  go_enter Tryd.func53, Tryd.ntmps53
  go_wp2_with fail
  refine (cut_yes t r _ hl).mono ?_
  rintro e w1 ⟨rfl, rfl⟩
  go_wp2
  go_ret
  exact ⟨rfl, sc_set hk _, (Upd.refl b _).setCell 0 _⟩

theorem is_no (l t : List UInt8) (b : Nat) (w : World) (hk : ScAt w b l) (hp : ¬ t <+: l) (hl : l.length ≤ 140737488355328) (ht : t.length ≤ 140737488355328) : Calls Tryd.prog 53 #[.pointer (some ⟨b, 0, none⟩), .string (bs t)] w fun e w' => e = .returned (.bool false) ∧ ScAt w' b l ∧ Upd b w w' := by
  obtain ⟨c0, f0⟩ := sc_cells hk
  go_enter Tryd.func53, Tryd.ntmps53
  go_wp2_with fail
  refine (cut_no l t _ hp hl ht).mono ?_
  rintro e w1 ⟨rfl, rfl⟩
  go_wp2
  go_ret
  exact ⟨rfl, sc_set hk _, (Upd.refl b _).setCell 0 _⟩

theorem must_yes (t r : List UInt8) (b : Nat) (w : World) (hk : ScAt w b (t ++ r)) (hl : (t ++ r).length ≤ 140737488355328) : Calls Tryd.prog 45 #[.pointer (some ⟨b, 0, none⟩), .string (bs t)] w fun e w' => e = .returned (.tuple #[]) ∧ ScAt w' b r ∧ Upd b w w' := by
  go_enter Tryd.func45, Tryd.ntmps45
  go_wp2_with fail
  refine (is_yes t r b _ hk hl).mono ?_
  rintro e w1 ⟨rfl, hk1, hu1⟩
  go_wp2_with fail
  refine (need_yes _ _).mono ?_
  rintro e w2 ⟨rfl, rfl⟩
  go_wp2
  go_end0
  exact ⟨rfl, hk1, hu1⟩

theorem must_no (l t : List UInt8) (b : Nat) (w : World) (a : Addr) (hc : w.cell? ⟨1, 0, none⟩ = some (errV a)) (hb : 1 ≠ b) (hk : ScAt w b l) (hp : ¬ t <+: l) (hl : l.length ≤ 140737488355328) (ht : t.length ≤ 140737488355328) : Calls Tryd.prog 45 #[.pointer (some ⟨b, 0, none⟩), .string (bs t)] w fun e w' => e = badP (errV a) ∧ Upd b w w' := by
  go_enter Tryd.func45, Tryd.ntmps45
  go_wp2_with fail
  refine (is_no l t b _ hk hp hl ht).mono ?_
  rintro e w1 ⟨rfl, hk1, hu1⟩
  have hc1 := upd_cell hu1 hb hc
  go_wp2_with fail
  refine (need_no _ _ a hc1).mono ?_
  rintro e w2 ⟨rfl, rfl⟩
  unfold badP
  go_wp2
  exact ⟨rfl, rfl, hu1⟩

end Go.Proofs.YthkkdbpblajahaaDoor
