/- The lines package's reader: its methods, by their contracts. -/
import Derived.Test.YtglopeijohdobaaDoorLs
import Derived.Test.YtglopeijohdobaaDoorOb
import Derived.Test.YtglopeijohdobaaDoorShelf
import Derived.Test.YtglopeijohdobaaDoorLm
import Derived.Laws.BytesArg
import Derived.BigRegion
import Derived.Deep.DeepFit
set_option linter.unusedVariables false
set_option linter.unusedSimpArgs false
namespace Go.Proofs.YtglopeijohdobaaDoor
open Go.RowKit

/-- a reader lies at block b: what it holds, how many bytes it waits for -/
def RdAt (w : World) (b : Nat) (h : List UInt8) (k : Int) : Prop := w.heap[b]? = some (.cells #[.string (bs h), .int .i64 k] 59 (0, 0))

/-- of what was there only block b may have turned -/
structure Upd (b : Nat) (w w' : World) : Prop where
  os : w'.os = w.os
  tape : w'.tape = w.tape
  output : w'.output = w.output
  size : w.heap.size ≤ w'.heap.size
  block : ∀ k, k < w.heap.size → k ≠ b → w'.heap[k]? = w.heap[k]?

theorem Upd.refl (b : Nat) (w : World) : Upd b w w := ⟨rfl, rfl, rfl, Nat.le_refl _, fun _ _ _ => rfl⟩
theorem Upd.trans {b : Nat} {u v w : World} (h : Upd b u v) (k : Upd b v w) : Upd b u w :=
  ⟨k.os.trans h.os, k.tape.trans h.tape, k.output.trans h.output, Nat.le_trans h.size k.size, fun i hi hb => (k.block i (Nat.lt_of_lt_of_le hi h.size) hb).trans (h.block i hi hb)⟩
theorem Upd.of_below {b : Nat} {w w' : World} (h : Below w.heap.size w w') : Upd b w w' := ⟨h.os, h.tape, h.output, h.size, fun i hi _ => h.block i hi⟩
theorem Upd.below {b B : Nat} {w w' : World} (h : Upd b w w') (hB : B ≤ b) (hs : B ≤ w.heap.size) : Below B w w' := ⟨h.os, h.tape, h.output, h.size, fun i hi => h.block i (by omega) (by omega)⟩
theorem Upd.drew {b : Nat} {w w' : World} (h : Upd b w w') : Upd b w w'.drew := ⟨h.os, h.tape, h.output, h.size, h.block⟩
theorem Upd.drewN {b : Nat} {w w' : World} (h : Upd b w w') (n : Nat) : Upd b w (w'.drewN n) := ⟨h.os, h.tape, h.output, h.size, h.block⟩
theorem Upd.alloc {b : Nat} {w w' : World} (h : Upd b w w') (o : Obj) : Upd b w (w'.alloc o) :=
  h.trans (.of_below ((Below.refl _ _).alloc (Nat.le_refl _) _))
theorem Upd.setCell {b : Nat} {w w' : World} (h : Upd b w w') (i : Nat) (v : Value) : Upd b w (w'.setCell ⟨b, i, none⟩ v) :=
  h.trans ⟨rfl, rfl, rfl, by simp [World.setCell], fun k _ hk => Below.heap_setCell _ _ _ _ hk⟩

theorem Upd.setNew {b B : Nat} {w w' : World} (h : Upd b w w') (hB : w.heap.size ≤ B) (i : Nat) (v : Value) : Upd b w (w'.setCell ⟨B, i, none⟩ v) :=
  ⟨h.os, h.tape, h.output, by simpa [World.setCell] using h.size, fun k hk hb => (Below.heap_setCell _ _ _ _ (by simp; omega)).trans (h.block k hk hb)⟩
theorem RdAt.far {w : World} {b B : Nat} {h : List UInt8} {k : Int} (hk : RdAt w b h k) (hB : b ≠ B) (i : Nat) (v : Value) : RdAt (w.setCell ⟨B, i, none⟩ v) b h k :=
  (Below.heap_setCell _ _ _ _ (by simpa using hB)).trans hk

theorem rd_cells {w : World} {b : Nat} {h : List UInt8} {k : Int} (hk : RdAt w b h k) : w.cell? ⟨b, 0, none⟩ = some (.string (bs h)) ∧ w.cell? ⟨b, 1, none⟩ = some (.int .i64 k) ∧ w.frozen? ⟨b, 0, none⟩ = false ∧ w.frozen? ⟨b, 1, none⟩ = false := by
  unfold RdAt at hk
  refine ⟨?_, ?_, ?_, ?_⟩ <;> simp [World.cell?, World.frozen?, hk]
theorem rd_set0 {w : World} {b : Nat} {h : List UInt8} {k : Int} (hk : RdAt w b h k) (h' : List UInt8) : RdAt (w.setCell ⟨b, 0, none⟩ (.string (bs h'))) b h' k := by
  unfold RdAt at *
  simp [World.setCell, Array.getElem?_modify, hk]
theorem rd_set1 {w : World} {b : Nat} {h : List UInt8} {k : Int} (hk : RdAt w b h k) (k' : Int) : RdAt (w.setCell ⟨b, 1, none⟩ (.int .i64 k')) b h k' := by
  unfold RdAt at *
  simp [World.setCell, Array.getElem?_modify, hk]

theorem left_any (w : World) (b : Nat) (h : List UInt8) (k : Int) (hk : RdAt w b h k) (hl : h.length ≤ 9223372036854775807) :
    Calls Tryd.prog 11 #[.pointer (some ⟨b, 0, none⟩)] w fun e w' => e = .returned (.int .i64 h.length) ∧ w = w' := by
  obtain ⟨c0, c1, f0, f1⟩ := rd_cells hk
  clear hk
  go_enter Tryd.func11, Tryd.ntmps11
  go_wp2
  go_ret
  exact ⟨by simp [ByteArray.size], rfl⟩

theorem new_any (w : World) : Calls Tryd.prog 8 #[] w fun e w' => e = .returned (.pointer (some ⟨w.heap.size, 0, none⟩)) ∧ w.alloc (.cells #[.string ⟨#[]⟩, .int .i64 0] 59) = w' := by
  go_enter Tryd.func8, Tryd.ntmps8
  go_wp2
  go_ret
  exact ⟨rfl, rfl⟩

theorem clone_any (l : List UInt8) (w : World) (hl : l.length ≤ 281474976710656) : Calls Tryd.prog 31 #[.string (bs l)] w fun e w' => e = .returned (.string (bs l)) ∧ Below w.heap.size w w' := by
  have hb : Hid ((bs l).size ≤ 281474976710656) := by rw [bs_size]; exact hl
  clear hl
  go_enter Tryd.func31, Tryd.ntmps31
  go_wp2_with (go_at_call 40; refine (Tryd.stringslite_Clone _ _ hb.out).mono ?_; rintro e w' ⟨rfl, hb1⟩)
  go_ret
  exact ⟨rfl, hb1⟩

set_option maxRecDepth 100000 in
theorem take_any (w : World) (b : Nat) (h : List UInt8) (k : Int) (n : Nat) (hk : RdAt w b h k) (hn : n ≤ h.length) (hl : h.length ≤ 140737488355328) :
    Calls Tryd.prog 25 #[.pointer (some ⟨b, 0, none⟩), .int .i64 n] w fun e w' => e = .returned (.string (bs (h.take n))) ∧ RdAt w' b (h.drop n) k ∧ Upd b w w' := by
  obtain ⟨c0, c1, f0, f1⟩ := rd_cells hk
  have hlt : b < w.heap.size := cell_lt c0
  have h1 := run_to h n hn
  have h2 := run_from h n hn
  have hd : (h.drop n).length ≤ 281474976710656 := by simp; omega
  have Hd := Lib.hid hd
  clear hd
  go_enter Tryd.func25, Tryd.ntmps25
  go_wp2_with fail
  refine (clone_any _ _ Hd.out).mono ?_
  rintro e w1 ⟨rfl, hb1⟩
  have hk1 : RdAt w1 b h k := (hb1.block b hlt).trans hk
  obtain ⟨d0, d1, g0, g1⟩ := rd_cells hk1
  go_wp2
  go_ret
  exact ⟨rfl, rd_set0 hk1 _, (Upd.of_below hb1).setCell 0 _⟩

set_option maxRecDepth 100000 in
theorem put_any (w : World) (b : Nat) (h : List UInt8) (k : Int) (v : Value) (l : List UInt8) (hk : RdAt w b h k) (hv : BytesAt w v l) (hs : h.length + l.length ≤ 140737488355328) :
    Calls Tryd.prog 9 #[.pointer (some ⟨b, 0, none⟩), v] w fun e w' => e = .returned (.tuple #[]) ∧ RdAt w' b (h ++ l) k ∧ Upd b w w' := by
  obtain ⟨c0, c1, f0, f1⟩ := rd_cells hk
  have hcv := convert_bytes (w := w.drew) hv
  go_enter Tryd.func9, Tryd.ntmps9
  go_wp2
  go_region
  all_goals
    go_end0
    refine ⟨rfl, ?_, ?_⟩
    · rw [bs_append]
      exact rd_set0 hk _
    · exact ((Upd.refl b w).setCell 0 _).drew

/-- the reader has no line -/
theorem line_no (w : World) (b : Nat) (h : List UInt8) (k : Int) (hk : RdAt w b h k) (hc : cutNl h = none) :
    Calls Tryd.prog 10 #[.pointer (some ⟨b, 0, none⟩)] w fun e w' => e = .returned (.tuple #[.agg #[.string (bs []), .bool false], .bool false]) ∧ Below w.heap.size w w' := by
  obtain ⟨c0, c1, f0, f1⟩ := rd_cells hk
  have a0 := fun o => cell_alloc c0 o
  have a1 := fun o => cell_alloc c1 o
  clear hk
  have Hc := Lib.hid hc
  clear hc
  go_enter Tryd.func10, Tryd.ntmps10
  go_wp2_with (go_at_call 24; refine (index_no _ _ Hc.out).mono ?_; rintro e w' ⟨rfl, rfl⟩)
  refine bodyPost_ret (v := .tuple #[.agg #[.string (bs []), .bool false], .bool false]) (by simp [results, Tryd.results10, go_sem]) rfl ⟨rfl, ?_⟩
  exact (Below.refl _ _).alloc (Nat.le_refl _) _

/-- a stretch is waited for: no line -/
theorem line_waits (w : World) (b : Nat) (h s r : List UInt8) (k : Int) (hk : RdAt w b h k) (hc : cutNl h = some (s, r)) (h0 : 0 < k) :
    Calls Tryd.prog 10 #[.pointer (some ⟨b, 0, none⟩)] w fun e w' => e = .returned (.tuple #[.agg #[.string (bs []), .bool false], .bool false]) ∧ Below w.heap.size w w' := by
  obtain ⟨c0, c1, f0, f1⟩ := rd_cells hk
  have a0 := fun o => cell_alloc c0 o
  have a1 := fun o => cell_alloc c1 o
  clear hk
  have Hc := Lib.hid hc
  clear hc
  have d0 : decide ((s.length : Int) < 0) = false := by simp
  go_enter Tryd.func10, Tryd.ntmps10
  go_wp2_with (go_at_call 24; refine (index_yes _ _ _ _ Hc.out).mono ?_; rintro e w' ⟨rfl, rfl⟩)
  refine bodyPost_ret (v := .tuple #[.agg #[.string (bs []), .bool false], .bool false]) (by simp [results, Tryd.results10, go_sem]) rfl ⟨rfl, ?_⟩
  exact (Below.refl _ _).alloc (Nat.le_refl _) _

set_option maxRecDepth 100000 in
/-- a line is told -/
theorem line_yes (w : World) (b : Nat) (h s r : List UInt8) (k : Int) (hk : RdAt w b h k) (hc : cutNl h = some (s, r)) (h0 : k ≤ 0) (hl : h.length ≤ 140737488355328) :
    Calls Tryd.prog 10 #[.pointer (some ⟨b, 0, none⟩)] w fun e w' => e = .returned (.tuple #[.agg #[.string (bs (lineText s)), .bool (lineLong s)], .bool true]) ∧ RdAt w' b r k ∧ Upd b w w' := by
  obtain ⟨c0, c1, f0, f1⟩ := rd_cells hk
  have a0 := fun o => cell_alloc c0 o
  have a1 := fun o => cell_alloc c1 o
  have hlt : b < w.heap.size := cell_lt c0
  obtain ⟨he, _⟩ := cutNl_some hc
  have hlen : h.length = s.length + 1 + r.length := by rw [he]; simp; omega
  have hsl : s.length + 1 ≤ h.length := by omega
  have ht : Hid (h.take (s.length + 1) = s ++ [10]) := by show _ = _; rw [he, List.take_append]; simp [List.take_of_length_le]
  have hd : Hid (h.drop (s.length + 1) = r) := by show _ = _; rw [he, List.drop_append]; simp [List.drop_of_length_le]
  have Hc := Lib.hid hc
  have HL := Lib.hid hl
  have hsb : s.length < 140737488355328 := by omega
  clear hc he hlen hl
  have d0 : decide ((s.length : Int) < 0) = false := by simp
  have d1 : decide (0 < k) = false := by simp; omega
  have hk1 : ∀ o, RdAt (w.alloc o) b h k := fun o => (heap_old w o b hlt).trans hk
  have h1 := run_to (s ++ [10]) s.length (by simp)
  go_enter Tryd.func10, Tryd.ntmps10
  go_wp2_with (go_at_call 24; refine (index_yes _ _ _ _ Hc.out).mono ?_; rintro e w' ⟨rfl, rfl⟩)
  rw [show ((s.length : Int) + 1) = ((s.length + 1 : Nat) : Int) from by omega]
  refine (take_any _ b h k (s.length + 1) (hk1 _) hsl HL.out).mono ?_
  rintro e w1 ⟨rfl, hk2, hu⟩
  rw [ht.out]
  rw [hd.out] at hk2
  have hz := hu.size
  simp only [World.size_alloc] at hz
  have hr := hu.block w.heap.size (by simp) (by omega)
  rw [heap_new] at hr
  have q0 : w1.cell? ⟨w.heap.size, 0, none⟩ = some (.string ⟨#[]⟩) := by simp [World.cell?, hr]
  have q1 : w1.cell? ⟨w.heap.size, 1, none⟩ = some (.bool false) := by simp [World.cell?, hr]
  have g0 : w1.frozen? ⟨w.heap.size, 0, none⟩ = false := by simp [World.frozen?, hr]
  have g1 : w1.frozen? ⟨w.heap.size, 1, none⟩ = false := by simp [World.frozen?, hr]
  have hU : Upd b w w1 := (Upd.alloc (Upd.refl b w) _).trans hu
  have HU := Lib.hid hU
  have HK := Lib.hid hk2
  clear hu hU hk2 hr hk1 ht hd
  by_cases hlong : s.length > 1000
  · go_wp2
    refine bodyPost_ret (v := .tuple #[.agg #[.string (bs (lineText s)), .bool (lineLong s)], .bool true]) (by simp [results, Tryd.results10, go_sem, q0, q1, g0, g1, lineText, lineLong, hlong]) rfl ⟨rfl, (HK.out.far (by omega) _ _).far (by omega) _ _, (HU.out.setNew (Nat.le_refl _) _ _).setNew (Nat.le_refl _) _ _⟩
  · have hs : Hid ((bs s).size ≤ 9223372036854775807) := by show _ ≤ _; rw [bs_size]; have := HL.out; omega
    go_wp2_with (go_at_call 26; refine (Tryd.strings_TrimSuffix _ _ _ hs.out).mono ?_; rintro e w' ⟨rfl, rfl⟩)
    refine bodyPost_ret (v := .tuple #[.agg #[.string (bs (lineText s)), .bool (lineLong s)], .bool true]) (by simp [results, Tryd.results10, go_sem, q0, q1, g0, g1, lineText, lineLong, hlong]) rfl ⟨rfl, (HK.out.far (by omega) _ _).far (by omega) _ _, (HU.out.setNew (Nat.le_refl _) _ _).setNew (Nat.le_refl _) _ _⟩

end Go.Proofs.YtglopeijohdobaaDoor
