/- Texts of one walk, merged: XT XS XOb XCb XBu XSl XLw XAs XGq XGr XVH XVI XVK XBx XLm XLp. -/
import Derived.WalkKit
import Derived.WalkLawsBesides
import Derived.WalkSpells
import Derived.Lib.Hide
import Derived.Deep.QuietTactic
import Derived.BigQuiet
import Derived.Test.YthnkgifbbemhfaaGreatDoorProg
import Derived.Laws.BytesArg
import Derived.Laws.AppendOwn
import Derived.Laws.OwnMore
import Derived.Laws.IdiomStrings
import Derived.Lib.ItoaNum
import Derived.Lib.Join
import Derived.Lib.Replace
import Derived.Lib.DecodeNEq
import Derived.Shelf.GgClosure.StringsIndexFunc
import Derived.Test.YthnkgifbbemhfaaGreatDoorShelf
import Derived.Deep.DeepFit
import Derived.Lib.LaidTab
import Derived.Lib.AppendIntMem
import Derived.WalkSmall
import Derived.LoopTactic
import Derived.RangeFuncNested
import Derived.RangeFuncBound
import Derived.RangeFuncCalls
import Derived.RangeFuncLeaves
import Derived.RangeFuncBox
import Derived.Lib.IndexBytes
import Derived.Lib.Strings

/- Small tools of the walks: worlds that grow, cells that stay. -/
set_option linter.unusedVariables false
set_option linter.unusedSimpArgs false
section
set_option linter.unusedVariables false
set_option linter.unusedSimpArgs false
namespace Go.Proofs.YthnkgifbbemhfaaGreatDoor
open Go.RowKit

theorem ret_int {k : IntKind} {a b : Int} (h : a = b) : Ending.returned (.int k a) = .returned (.int k b) := by rw [h]

theorem cell_lt {w : World} {p : Addr} {v : Value} (h : w.cell? p = some v) : p.block < w.heap.size := by
  rcases Nat.lt_or_ge p.block w.heap.size with h1 | h1
  · exact h1
  · simp [World.cell?, Array.getElem?_eq_none h1] at h

theorem cell_alloc {w : World} {p : Addr} {v : Value} (h : w.cell? p = some v) (o : Obj) : (w.alloc o).cell? p = some v := by
  rw [((Below.refl _ w).alloc (Nat.le_refl _) o).cell (cell_lt h)]; exact h

theorem below_drewN {B : Nat} {a w : World} (h : Below B a w) (n : Nat) : Below B a (w.drewN n) := ⟨h.os, h.tape, h.output, h.size, h.block⟩

/-- behind a callee that made memory: all old cells and marks read as before -/
theorem bcell {W w1 : World} (hb : Below W.heap.size W w1) : (∀ b o, b < W.heap.size → w1.cell? ⟨b, o, none⟩ = W.cell? ⟨b, o, none⟩) ∧ (∀ b o, b < W.heap.size → w1.frozen? ⟨b, o, none⟩ = W.frozen? ⟨b, o, none⟩) :=
  ⟨fun b o h => hb.cell (p := ⟨b, o, none⟩) h, fun b o h => hb.frozen (p := ⟨b, o, none⟩) h⟩

theorem heap_new (w : World) (o : Obj) : (w.alloc o).heap[w.heap.size]? = some o := by
  show (w.heap.push o)[w.heap.size]? = _
  simp
theorem heap_old (w : World) (o : Obj) (k : Nat) (h : k < w.heap.size) : (w.alloc o).heap[k]? = w.heap[k]? := Below.heap_alloc w o k h
theorem size_alloc (w : World) (o : Obj) : (w.alloc o).heap.size = w.heap.size + 1 := by simp

/-! ### A region that draws its order, whose operations only read old cells and whose callees may make memory: one walk, in the text's order -/

/-- a world that has grown beyond w -/
structure Grow (w : World) where
  v : World
  h : Below w.heap.size w v
instance (w : World) : Nonempty (Grow w) := ⟨⟨w, Below.refl _ _⟩⟩

theorem Grow.cell {w : World} {p : Addr} {v : Value} (g : Grow w) (h : w.cell? p = some v) : g.v.cell? p = some v := (g.h.cell (cell_lt h)).trans h

theorem grow_call {P : Program} {w : World} {g : Grow w} {f : FuncId} {args : Array Value} {v : Value} (h : Calls P f args g.v fun e w' => e = .returned v ∧ Below g.v.heap.size g.v w') :
    Calls P f args g.v fun e w'' => e = .returned v ∧ ∃ g' : Grow w, w'' = g'.v :=
  h.mono fun _ w'' ⟨he, hb⟩ => ⟨he, ⟨w'', g.h.trans (hb.mono g.h.size)⟩, rfl⟩
theorem grow_same {P : Program} {w : World} {g : Grow w} {f : FuncId} {args : Array Value} {v : Value} (h : Calls P f args g.v fun e w' => e = .returned v ∧ w' = g.v) :
    Calls P f args g.v fun e w'' => e = .returned v ∧ ∃ g' : Grow w, w'' = g'.v :=
  h.mono fun _ _ ⟨he, hb⟩ => ⟨he, g, hb⟩

theorem wp_region_grow {P : Program} {id : Nat} {Q : Exit → Act → World → Prop} {a : Act} {w : World} {l : List Oper} (hm : P.follows .mixedOrders = true) (hB : Region.lexB .any l.toArray = true)
    (h : wpQuiet P l.toArray (fun w' => ∃ g : Grow w, w' = g.v) (fun a' => ∀ w', (∃ g : Grow w, w' = g.v) → Q .normal a' w') l a) : (Code.region id l.toArray true).wp P Q a w :=
  wp_region_quiet (C := fun w' => ∃ g : Grow w, w' = g.v) hm hB ⟨⟨w.drew, (Below.refl _ _).drew⟩, rfl⟩ (by simpa using h)

end Go.Proofs.YthnkgifbbemhfaaGreatDoor
end

/- Strings as the lists of their bytes. -/
set_option linter.unusedVariables false
set_option linter.unusedSimpArgs false
section
namespace Go.Proofs.YthnkgifbbemhfaaGreatDoor
open Go.RowKit

/-- a string, as the list of its bytes -/
abbrev bs (l : List UInt8) : ByteArray := ⟨l.toArray⟩

theorem bs_size (l : List UInt8) : (bs l).size = l.length := by simp [ByteArray.size]
theorem bs_append (a b : List UInt8) : bs a ++ bs b = bs (a ++ b) := by
  apply ByteArray.ext
  simp
theorem bs_take (l : List UInt8) (n : Nat) : (bs l).extract 0 n = bs (l.take n) := by
  apply ByteArray.ext
  simp [ByteArray.data_extract]
theorem bs_drop (l : List UInt8) (n m : Nat) (h : l.length ≤ m) : (bs l).extract n m = bs (l.drop n) := by
  apply ByteArray.ext
  simp [ByteArray.data_extract]
  rw [List.take_of_length_le (by simp; omega)]

/-- s[:n], s[n:] of a string given as a list -/
theorem run_to (l : List UInt8) (n : Nat) (h : n ≤ l.length) (w : World) : (Instr.slice 9 (.string (bs l)) none (some (.int .i64 n)) none).run Tryz.prog w = .ok (.string (bs (l.take n))) w := by
  rw [run_slice_string_to_if w _ _ _ _ Tryz.underlying9, if_pos (by rw [bs_size]; omega)]
  simp [bs_take]
theorem run_from (l : List UInt8) (n : Nat) (h : n ≤ l.length) (w : World) : (Instr.slice 9 (.string (bs l)) (some (.int .i64 n)) none none).run Tryz.prog w = .ok (.string (bs (l.drop n))) w := by
  rw [run_slice_string_from_if w _ _ _ _ Tryz.underlying9, if_pos (by rw [bs_size]; omega)]
  simp [bs_drop, bs_size]

theorem bs_mid (l : List UInt8) (i j : Nat) : (bs l).extract i j = bs ((l.drop i).take (j - i)) := by
  apply ByteArray.ext
  simp [ByteArray.data_extract, List.drop_take]
/-- s[i:j] -/
theorem run_mid (l : List UInt8) (i j : Nat) (h : i ≤ j) (hj : j ≤ l.length) (w : World) : (Instr.slice 9 (.string (bs l)) (some (.int .i64 i)) (some (.int .i64 j)) none).run Tryz.prog w = .ok (.string (bs ((l.drop i).take (j - i)))) w := by
  rw [run_slice_string_if w _ _ _ _ _ _ Tryz.underlying9, if_pos (by rw [bs_size]; omega), if_pos (by omega)]
  simp [bs_mid]

end Go.Proofs.YthnkgifbbemhfaaGreatDoor
end

/- Slices of bytes, as lists. -/
set_option linter.unusedVariables false
set_option linter.unusedSimpArgs false
section
namespace Go.Proofs.YthnkgifbbemhfaaGreatDoor
open Go.RowKit

/-- a slice of bytes reads as the list l -/
def BytesAt (w : World) (v : Value) (l : List UInt8) : Prop :=
  (v = .slice none 0 0 ∧ l = []) ∨ ∃ (sb so cap : Nat), v = .slice (some ⟨sb, so, none⟩) l.length cap ∧ ∀ i, i < l.length → w.cell? ⟨sb, so + i, none⟩ = some (.int .u8 (l.getD i 0).toNat)

theorem bs_strOfNums (l : List UInt8) : strOfNums (l.map fun c => ((c.toNat : Nat) : Int)) = bs l := by
  apply ByteArray.ext
  apply Array.toList_inj.1
  rw [strOfNums_data]
  simp [Function.comp_def]

theorem convert_bytes {w : World} {v : Value} {l : List UInt8} (h : BytesAt w v l) : (convert 83 9 v).run Tryz.prog w = .ok (.string (bs l)) w := by
  rcases h with ⟨rfl, rfl⟩ | ⟨sb, so, cap, rfl, hc⟩
  · exact run_convert_bytes_nil w 83 5 Tryz.underlying83 Tryz.underlying5 0 0 9 Tryz.underlying9
  · rw [← bs_strOfNums]
    refine run_convert_bytes_arg w 83 5 Tryz.underlying83 Tryz.underlying5 sb so l.length cap _ (by simp) (fun i hi => ?_) 9 Tryz.underlying9
    rw [hc i hi]
    simp [List.getD, hi]

theorem info_u8 : (Tryz.prog.info? 5).map (fun i => (i.zero, i.size, i.bytes)) = some (some (.int .u8 0), 1, 1) := by kernel_rfl

/-- bytes as cells -/
def cellsB (l : List UInt8) : List Value := l.map fun c => .int .u8 ((c.toNat : Nat) : Int)
theorem cellsB_length (l : List UInt8) : (cellsB l).length = l.length := by simp [cellsB]
theorem cellsB_append (a b : List UInt8) : cellsB (a ++ b) = cellsB a ++ cellsB b := by simp [cellsB]

/-- a slice of bytes that the call itself made -/
def OwnB (w : World) (base : Nat) (v : Value) (l : List UInt8) : Prop := w.ownsRow base 5 1 v l.length (cellsB l)

theorem OwnB.bytes {w : World} {base : Nat} {v : Value} {l : List UInt8} (h : OwnB w base v l) : BytesAt w v l := by
  rcases h.2 with ⟨rfl, h0⟩ | ⟨g, cap, cur, rfl, _, hg, _, _, _, ht⟩
  · exact Or.inl ⟨rfl, List.eq_nil_of_length_eq_zero h0⟩
  · refine Or.inr ⟨g, 0, cap, rfl, fun i hi => ?_⟩
    have e : (cellsB l)[i]? = some (.int .u8 (l.getD i 0).toNat) := by simp [cellsB, hi]
    rw [← ht, List.getElem?_take, if_pos (by omega)] at e
    simp only [World.cell?, hg, Nat.zero_add]
    simpa using e

theorem OwnB.step {w' : World} {base : Nat} {v' : Value} {l : List UInt8} {c : UInt8} (h : w'.ownsRow base 5 1 v' (l.length + 1) (cellsB l ++ [.int .u8 ((c.toNat : Nat) : Int)])) : OwnB w' base v' (l ++ [c]) := by
  unfold OwnB
  rw [cellsB_append, List.length_append]
  exact h

theorem OwnB.form {w : World} {base : Nat} {v : Value} {l : List UInt8} (h : OwnB w base v l) : ∃ a n cap, v = .slice a n cap ∧ Hid (n = l.length) := by
  rcases h.2 with ⟨rfl, h0⟩ | ⟨g, cap, cur, rfl, _, _, _, _, _, _⟩
  · exact ⟨none, 0, 0, rfl, h0.symm⟩
  · exact ⟨_, _, _, rfl, rfl⟩

theorem OwnB.below {B : Nat} {u w w' : World} {v : Value} {l : List UInt8} (hb : Below B u w) (h : OwnB w B v l) (hg : w.grownBy w' v.ownBlock) (hB : B ≤ w.heap.size) : Below B u w' :=
  hb.grown hg hB (fun k e => (World.ownsRow.lt h k e).1)


end Go.Proofs.YthnkgifbbemhfaaGreatDoor
end

/- []byte(s). -/
set_option linter.unusedVariables false
set_option linter.unusedSimpArgs false
section
namespace Go.Proofs.YthnkgifbbemhfaaGreatDoor
open Go.RowKit

theorem to_bytes (l : List UInt8) (w : World) : ∃ (cap : Nat) (w' : World), (convert 9 83 (.string (bs l))).run Tryz.prog w = .ok (.slice (some ⟨w.heap.size, 0, none⟩) l.length cap) w' ∧
    (∀ i, i < l.length → w'.cell? ⟨w.heap.size, i, none⟩ = some (.int .u8 ((l.getD i 0).toNat : Int))) ∧ Below w.heap.size w w' ∧ w.heap.size < w'.heap.size := by
  have h := run_bytes_of_string (P := Tryz.prog) w 9 83 5 (bs l) Tryz.underlying9 Tryz.underlying83 Tryz.underlying5
  rw [bs_size] at h
  refine ⟨_, _, h, fun i hi => ?_, ((Below.refl _ w).drew).alloc (Nat.le_refl _) _, by simp⟩
  have hb := bytesRow_at (bs l) (grownCap w l.length 0 5) i (by simpa using hi)
  have hn : (w.drew.alloc (.cells (bytesRow (bs l) (grownCap w l.length 0 5)) 5 ((bytesRow (bs l) (grownCap w l.length 0 5)).size, (bytesRow (bs l) (grownCap w l.length 0 5)).size + 1))).heap[w.heap.size]? = some (.cells (bytesRow (bs l) (grownCap w l.length 0 5)) 5 ((bytesRow (bs l) (grownCap w l.length 0 5)).size, (bytesRow (bs l) (grownCap w l.length 0 5)).size + 1)) := heap_new w.drew _
  simp only [World.cell?, hn]
  simp only [Option.isSome_none, Bool.false_eq_true, if_false]
  rw [hb]
  simp [List.getD, hi]

end Go.Proofs.YthnkgifbbemhfaaGreatDoor
end

/- A buffer of bytes: []byte(s) that is written into. -/
set_option linter.unusedVariables false
set_option linter.unusedSimpArgs false
section
namespace Go.Proofs.YthnkgifbbemhfaaGreatDoor
open Go.RowKit

/-- a buffer of bytes -/
def BufAt (w : World) (g z : Nat) (l : List UInt8) : Prop := ∃ cs, w.heap[g]? = some (.cells cs 5 (z, z + 1)) ∧ l.length ≤ z ∧ ∀ i, i < l.length → cs[i]? = some (.int .u8 ((l.getD i 0).toNat : Int))
theorem BufAt.cell {w : World} {g z i : Nat} {l : List UInt8} (h : BufAt w g z l) (hi : i < l.length) : w.cell? ⟨g, i, none⟩ = some (.int .u8 ((l.getD i 0).toNat : Int)) ∧ w.frozen? ⟨g, i, none⟩ = false := by
  obtain ⟨cs, h1, h2, h3⟩ := h
  refine ⟨by simp [World.cell?, h1, h3 i hi], ?_⟩
  simp [World.frozen?, h1]
  omega
theorem BufAt.set {w : World} {g z i : Nat} {l : List UInt8} (h : BufAt w g z l) (hi : i < l.length) (c : UInt8) (k : Int) (hk : k = (c.toNat : Int)) : BufAt (w.setCell ⟨g, i, none⟩ (.int .u8 k)) g z (l.set i c) := by
  subst hk
  obtain ⟨cs, h1, h2, h3⟩ := h
  have hics : i < cs.size := (Array.getElem?_eq_some_iff.1 (h3 i hi)).1
  refine ⟨cs.setIfInBounds i (.int .u8 (c.toNat : Int)), by simp [World.setCell, Array.getElem?_modify, h1], by simpa using h2, fun j hj => ?_⟩
  rw [List.length_set] at hj
  rw [Array.getElem?_setIfInBounds]
  by_cases hij : i = j
  · subst hij
    simp [hics, List.getD, hi]
  · rw [if_neg hij, h3 j hj]
    simp [List.getD, hij]
theorem to_buf (l : List UInt8) (w : World) : ∃ (cap z : Nat) (w' : World), (convert 9 83 (.string (bs l))).run Tryz.prog w = .ok (.slice (some ⟨w.heap.size, 0, none⟩) l.length cap) w' ∧
    BufAt w' w.heap.size z l ∧ Below w.heap.size w w' ∧ w.heap.size < w'.heap.size := by
  have h := run_bytes_of_string (P := Tryz.prog) w 9 83 5 (bs l) Tryz.underlying9 Tryz.underlying83 Tryz.underlying5
  rw [bs_size] at h
  have hb : ∀ i, i < l.length → (bytesRow (bs l) (grownCap w l.length 0 5))[i]? = some (.int .u8 ((l.getD i 0).toNat : Int)) := fun i hi => by
    rw [bytesRow_at (bs l) (grownCap w l.length 0 5) i (by simpa using hi)]
    simp [List.getD, hi]
  refine ⟨_, (bytesRow (bs l) (grownCap w l.length 0 5)).size, _, h, ⟨_, heap_new w.drew _, ?_, hb⟩, ((Below.refl _ w).drew).alloc (Nat.le_refl _) _, by simp⟩
  rcases Nat.eq_zero_or_pos l.length with h0 | h0
  · omega
  · have := (Array.getElem?_eq_some_iff.1 (hb (l.length - 1) (by omega))).1
    omega
theorem below_set {B g : Nat} {w w' : World} (h : Below B w w') (hg : B ≤ g) (i : Nat) (v : Value) : Below B w (w'.setCell ⟨g, i, none⟩ v) :=
  ⟨h.os, h.tape, h.output, by simpa [World.setCell] using h.size, fun k hk => (Below.heap_setCell _ _ _ _ (by simp; omega)).trans (h.block k hk)⟩

end Go.Proofs.YthnkgifbbemhfaaGreatDoor
end

/- Small letters (plain). -/
set_option linter.unusedVariables false
set_option linter.unusedSimpArgs false
section
namespace Go.Proofs.YthnkgifbbemhfaaGreatDoor

/-- a byte's small letter -/
def lowB (c : UInt8) : UInt8 := if 65 ≤ c.toNat ∧ c.toNat ≤ 90 then c + 32 else c
def lowL (l : List UInt8) : List UInt8 := l.map lowB
theorem lowL_length (l : List UInt8) : (lowL l).length = l.length := by simp [lowL]
theorem lowB_yes {c : UInt8} (h1 : 65 ≤ c.toNat) (h2 : c.toNat ≤ 90) : (lowB c).toNat = c.toNat + 32 := by
  unfold lowB
  rw [if_pos ⟨h1, h2⟩, UInt8.toNat_add]
  simp; omega
theorem lowB_no {c : UInt8} (h : ¬ (65 ≤ c.toNat ∧ c.toNat ≤ 90)) : lowB c = c := by
  unfold lowB; rw [if_neg h]
theorem low_take {l : List UInt8} {k : Nat} (h : k < l.length) {c : UInt8} (hc : l.getD k 0 = c) : (lowL l).take (k + 1) = (lowL l).take k ++ [lowB c] := by
  have e : l[k]? = some c := by rw [← hc]; simp [List.getD, h]
  rw [List.take_add_one]
  congr 1
  simp [lowL, e]

end Go.Proofs.YthnkgifbbemhfaaGreatDoor
end

/- Small letters, byte by byte in a buffer (plain). -/
set_option linter.unusedVariables false
set_option linter.unusedSimpArgs false
section
namespace Go.Proofs.YthnkgifbbemhfaaGreatDoor
open Go.RowKit

theorem low_step (l : List UInt8) (k : Nat) (hk : k < l.length) (c : UInt8) (hc : l.getD k 0 = c) : (lowL (l.take k) ++ l.drop k).set k (lowB c) = lowL (l.take (k + 1)) ++ l.drop (k + 1) := by
  have e : l[k]? = some c := by rw [← hc]; simp [List.getD, hk]
  have e2 : l[k] = c := (List.getElem?_eq_some_iff.1 e).2
  rw [List.drop_eq_getElem_cons hk, e2, List.take_add_one, e]
  have hl : (lowL (l.take k)).length = k := by simp [lowL]; omega
  rw [List.set_append_right _ _ (by omega), hl, Nat.sub_self, List.set_cons_zero]
  simp [lowL]
theorem low_at (l : List UInt8) (k : Nat) (hk : k < l.length) : (lowL (l.take k) ++ l.drop k).getD k 0 = l.getD k 0 := by
  have hl : (lowL (l.take k)).length = k := by simp [lowL]; omega
  simp only [List.getD]
  rw [List.getElem?_append_right (by omega), hl, Nat.sub_self, List.getElem?_drop]
  simp
theorem low_same (l : List UInt8) (k : Nat) (hk : k < l.length) (c : UInt8) (hc : l.getD k 0 = c) (hu : lowB c = c) : lowL (l.take (k + 1)) ++ l.drop (k + 1) = lowL (l.take k) ++ l.drop k := by
  have e : l[k]? = some c := by rw [← hc]; simp [List.getD, hk]
  have e2 : l[k] = c := (List.getElem?_eq_some_iff.1 e).2
  rw [List.take_add_one, e, List.drop_eq_getElem_cons hk, e2]
  simp [lowL, hu]
theorem low_len (l : List UInt8) (k : Nat) : (lowL (l.take k) ++ l.drop k).length = l.length := by simp [lowL]; omega
theorem lowB_num {c : UInt8} (h1 : 65 ≤ c.toNat) (h2 : c.toNat ≤ 90) : ((lowB c).toNat : Int) = (c.toNat : Int) + 32 := by
  rw [lowB_yes h1 h2]; simp

end Go.Proofs.YthnkgifbbemhfaaGreatDoor
end

/- answer.small: the walk. -/
set_option linter.unusedVariables false
set_option linter.unusedSimpArgs false
section
namespace Go.Proofs.YthnkgifbbemhfaaGreatDoor
open Go.RowKit

set_option maxRecDepth 100000 in
set_option maxHeartbeats 1000000 in
theorem ansSmall_any (l : List UInt8) (w : World) (hl : l.length ≤ 1099511627776) : Calls Tryz.prog 30 #[.string (bs l)] w fun e w' => e = .returned (.string (bs (lowL l))) ∧ Below w.heap.size w w' := by
  obtain ⟨cap, z, w2, hconv, hbuf, hb2, hlt2⟩ := to_buf l w
  obtain ⟨g, hg⟩ : ∃ g, w.heap.size = g := ⟨_, rfl⟩
  rw [hg] at hconv hbuf
  go_enter Tryz.func30, Tryz.ntmps30
  go_wp2
  clear hconv
  go_loopw [10] (fun i wr => ∃ k : Nat, k ≤ l.length ∧ i = .int .i64 k ∧ BufAt wr g z (lowL (l.take k) ++ l.drop k) ∧ Below w.heap.size w wr) (fun i _ => l.length - (intOf i).toNat)
  case atStart => exact ⟨0, Nat.zero_le _, rfl, by simpa [lowL] using hbuf, hb2⟩
  case round =>
    obtain ⟨k, hk, rfl, hbuf, hB⟩ := hrel
    by_cases hlt : k < l.length
    · obtain ⟨hck, hfk⟩ := hbuf.cell (i := k) (by rw [low_len]; exact hlt)
      rw [low_at l k hlt] at hck
      obtain ⟨c, hc⟩ : ∃ c, l.getD k 0 = c := ⟨_, rfl⟩
      rw [hc] at hck
      have hst := low_step l k hlt c hc
      have HST := Lib.hid hst
      have hlt' : (k : Int) < l.length := by omega
      have HC' := Lib.hid hc
      clear hc hst
      by_cases ho : 65 ≤ c.toNat ∧ c.toNat ≤ 90
      · obtain ⟨o1, o2⟩ := ho
        have hset := hbuf.set (i := k) (by rw [low_len]; exact hlt) (lowB c) ((c.toNat : Int) + 32) (lowB_num o1 o2).symm
        rw [HST.out] at hset
        have p1 : (65 : Int) ≤ c.toNat := by omega
        have p2 : (c.toNat : Int) ≤ 90 := by omega
        have HS := Lib.hid hset
        clear hset hbuf o1 o2
        go_wp2
        go_roundw
        case rel =>
          refine ⟨k + 1, by omega, by go_num, ?_, ?_⟩
          · rw [show (c.toNat : Int) + 97 - 65 = (c.toNat : Int) + 32 by omega]
            exact HS.out
          · exact below_set hB (by omega) _ _
        case measure => simp [intOf]; omega
      · have hu : lowB c = c := lowB_no ho
        have hsame := low_same l k hlt c HC'.out hu
        rw [← hsame] at hbuf
        have HB := Lib.hid hbuf
        have ho' : (c.toNat : Int) < 65 ∨ 65 ≤ (c.toNat : Int) ∧ 90 < (c.toNat : Int) := by omega
        clear hsame hbuf ho hu
        rcases ho' with ho | ⟨ho, ho'⟩
        all_goals
          go_wp2
          go_roundw
          case rel => exact ⟨k + 1, by omega, by go_num, HB.out, hB⟩
          case measure => simp [intOf]; omega
    · obtain rfl : k = l.length := by omega
      rw [List.take_length, List.drop_length, List.append_nil] at hbuf
      have hlen : (lowL l).length = l.length := by simp [lowL]
      have hv : BytesAt wr (.slice (some ⟨g, 0, none⟩) l.length cap) (lowL l) := by
        refine Or.inr ⟨g, 0, cap, by rw [hlen], fun i hi => ?_⟩
        rw [Nat.zero_add]
        exact (hbuf.cell hi).1
      have hcv := convert_bytes hv
      clear hv hlen hbuf
      go_wp2
      go_ret
      exact ⟨rfl, hB⟩

end Go.Proofs.YthnkgifbbemhfaaGreatDoor
end

/- How IMAP tells a text (plain). -/
set_option linter.unusedVariables false
set_option linter.unusedSimpArgs false
section
namespace Go.Proofs.YthnkgifbbemhfaaGreatDoor
open Go

/-! ### how IMAP tells a text -/
def printB (c : UInt8) : Bool := decide (32 ≤ c.toNat) && decide (c.toNat ≤ 126)
def escL (l : List UInt8) : List UInt8 := l.flatMap fun c => if c = 34 ∨ c = 92 then [92, c] else [c]
def qtL (s : List UInt8) : List UInt8 := if s.all printB = true then 34 :: (escL s ++ [34]) else 123 :: (Lib.decDigits s.length ++ ([125, 13, 10] ++ s))
def nilL : List UInt8 := [78, 73, 76]
def nilOr (s : List UInt8) : List UInt8 := if s = [] then nilL else qtL s
def joinSp : List (List UInt8) → List UInt8
  | [] => []
  | [x] => x
  | x :: y :: r => x ++ 32 :: joinSp (y :: r)
theorem joinSp_snoc : ∀ (l : List (List UInt8)) (x : List UInt8), l ≠ [] → joinSp (l ++ [x]) = joinSp l ++ 32 :: x
  | [], _, h => absurd rfl h
  | [a], x, _ => rfl
  | a :: b :: r, x, _ => by
    have ih := joinSp_snoc (b :: r) x (by simp)
    rw [List.cons_append, List.cons_append, joinSp, ← List.cons_append, ih, joinSp]
    simp
theorem joinSp_lib : ∀ l : List (List UInt8), Lib.join l [32] = joinSp l
  | [] => rfl
  | [x] => by simp [Lib.join, joinSp]
  | x :: y :: r => by
    have h : Lib.join (x :: y :: r) [32] = x ++ ([32] ++ Lib.join (y :: r) [32]) := rfl
    rw [h, joinSp_lib (y :: r)]
    rfl
theorem joinSp_len : ∀ l : List (List UInt8), (joinSp l).length ≤ l.flatten.length + l.length
  | [] => by simp [joinSp]
  | [x] => by simp [joinSp]
  | x :: y :: r => by
    have ih := joinSp_len (y :: r)
    simp only [joinSp, List.length_append, List.length_cons, List.flatten_cons] at ih ⊢
    omega
theorem escL_len (l : List UInt8) : (escL l).length ≤ 2 * l.length := by
  unfold escL
  induction l with
  | nil => simp
  | cons c r ih =>
    rw [List.flatMap_cons, List.length_append, List.length_cons]
    split <;> simp only [List.length_cons, List.length_nil] <;> omega

end Go.Proofs.YthnkgifbbemhfaaGreatDoor
end

/- How IMAP quotes a text (plain): which runes are printed, one byte replaced. -/
set_option linter.unusedVariables false
set_option linter.unusedSimpArgs false
section
namespace Go.Proofs.YthnkgifbbemhfaaGreatDoor
open Go

/-- a rune that is not printed -/
def oddR (r : Nat) : Bool := decide ((r : Int) < 32) || decide (126 < (r : Int))
theorem odd_byte (c : UInt8) : oddR c.toNat = !printB c := by
  unfold oddR printB
  rw [Bool.eq_iff_iff]
  simp
  omega
theorem decodeN_odd (n b0 b1 b2 b3 : Nat) : (b0 < 128 ∧ Lib.decodeN n b0 b1 b2 b3 = (b0, 1)) ∨ (128 ≤ b0 ∧ 128 ≤ (Lib.decodeN n b0 b1 b2 b3).1) := by
  obtain ⟨D, hD⟩ : ∃ D, Lib.decodeN n b0 b1 b2 b3 = D := ⟨_, rfl⟩
  rw [hD]
  subst hD
  unfold Lib.decodeN
  repeat' split
  all_goals first
    | exact .inl ⟨by assumption, rfl⟩
    | (right; simp only; omega)
theorem get_byte (l : List UInt8) (i : Nat) (c : UInt8) (h : l[i]? = some c) : (bs l).get! i = c := by
  obtain ⟨hlt, hc⟩ := List.getElem?_eq_some_iff.1 h
  show (l.toArray)[i]! = c
  rw [getElem!_pos l.toArray i (by simpa using hlt)]
  simpa using hc
theorem idx_odd (l : List UInt8) : ∀ (f pos : Nat), pos ≤ l.length → l.length ≤ pos + f → (decide (0 ≤ Lib.idxFuncFrom oddR true (bs l) f pos)) = !((l.drop pos).all printB)
  | 0, pos, h1, h2 => by
    have : pos = l.length := by omega
    rw [this, List.drop_length]
    rfl
  | f + 1, pos, h1, h2 => by
    by_cases hlt : pos < l.length
    · obtain ⟨c, hc⟩ : ∃ c, l[pos]? = some c := ⟨_, List.getElem?_eq_getElem hlt⟩
      have hd : l.drop pos = c :: l.drop (pos + 1) := by
        rw [List.drop_eq_getElem_cons hlt, (List.getElem?_eq_some_iff.1 hc).2]
      rw [hd, List.all_cons]
      unfold Lib.idxFuncFrom
      rw [if_pos (by rw [bs_size]; exact hlt), Lib.decode_at, get_byte l pos c hc]
      rcases decodeN_odd ((bs l).size - pos) c.toNat ((bs l).get! (pos + 1)).toNat ((bs l).get! (pos + 2)).toNat ((bs l).get! (pos + 3)).toNat with ⟨h3, h4⟩ | ⟨h3, h4⟩
      · rw [h4]
        simp only
        rw [odd_byte]
        cases hp : printB c with
        | true =>
          simp only [Bool.not_true, Bool.false_eq_true, if_false, Bool.true_and]
          exact idx_odd l f (pos + 1) (by omega) (by omega)
        | false =>
          simp only [Bool.not_false, if_true, Bool.false_and]
          simp
      · have ho : oddR (Lib.decodeN ((bs l).size - pos) c.toNat ((bs l).get! (pos + 1)).toNat ((bs l).get! (pos + 2)).toNat ((bs l).get! (pos + 3)).toNat).1 = true := by
          unfold oddR
          rw [Bool.or_eq_true, decide_eq_true_eq, decide_eq_true_eq]
          right; omega
        have hp : printB c = false := by
          unfold printB
          rw [Bool.and_eq_false_iff]
          right
          simp; omega
        rw [if_pos ho, hp]
        simp
    · have : pos = l.length := by omega
      rw [Lib.idxFuncFrom_end _ _ _ _ _ (by rw [bs_size]; exact hlt), this, List.drop_length]
      rfl
theorem idx_print (l : List UInt8) : decide (0 ≤ Lib.idxFunc oddR true (bs l)) = !(l.all printB) := by
  have := idx_odd l l.length 0 (by omega) (by omega)
  rw [List.drop_zero] at this
  unfold Lib.idxFunc
  rw [bs_size]
  exact this

/-- one byte replaced by a text -/
def repB (c : UInt8) (new : List UInt8) (l : List UInt8) : List UInt8 := l.flatMap fun b => if b = c then new else [b]
theorem index_nil (c : UInt8) : Lib.index [] [c] = -1 := rfl
theorem replaceK_ne (c b : UInt8) (new : List UInt8) (h : b ≠ c) : ∀ (k : Nat) (l : List UInt8), Lib.replaceK [c] new k (b :: l) = b :: Lib.replaceK [c] new k l
  | 0, l => rfl
  | k + 1, l => by
    have hp : ([c] : List UInt8).isPrefixOf (b :: l) = false := by simp [List.isPrefixOf, Ne.symm h]
    have hix : Lib.index (b :: l) [c] = if Lib.index l [c] == -1 then -1 else Lib.index l [c] + 1 := by rw [Lib.index, hp]; simp
    have hge := Lib.index_ge l [c]
    rw [Lib.replaceK, Lib.replaceK, hix]
    by_cases hm : Lib.index l [c] = -1
    · rw [hm]; simp
    · obtain ⟨i, hi⟩ : ∃ i : Nat, Lib.index l [c] = i := ⟨(Lib.index l [c]).toNat, by omega⟩
      rw [hi]
      have e1 : ((i : Int) == -1) = false := by rw [beq_eq_false_iff_ne]; omega
      have e2 : ((i : Int) + 1 == -1) = false := by rw [beq_eq_false_iff_ne]; omega
      rw [e1]
      simp only [Bool.false_eq_true, if_false]
      rw [e2]
      simp only [Bool.false_eq_true, if_false]
      rw [show ((i : Int) + 1).toNat = i + 1 by omega, show ((i : Int)).toNat = i by omega]
      simp only [List.take_succ_cons, List.cons_append, List.length_singleton, List.drop_succ_cons]
theorem replace_one (c : UInt8) (new : List UInt8) : ∀ l : List UInt8, Lib.replaceK [c] new (Lib.count l [c]) l = repB c new l
  | [] => by
    rw [Lib.count_one]
    rfl
  | b :: l => by
    have ih := replace_one c new l
    unfold repB at ih ⊢
    rw [List.flatMap_cons]
    by_cases h : b = c
    · subst h
      rw [Lib.count_cons_eq, if_pos rfl, show 1 + Lib.count l [b] = Lib.count l [b] + 1 by omega]
      have hix : Lib.index (b :: l) [b] = ((0 : Nat) : Int) := by rw [Lib.index]; simp [List.isPrefixOf]
      rw [Lib.replaceK_hit [b] new _ _ 0 hix]
      simp only [List.take_zero, List.nil_append, Nat.zero_add, List.length_singleton, List.drop_succ_cons, List.drop_zero]
      rw [ih]
    · rw [Lib.count_cons_ne b c l h, replaceK_ne c b new h, ih, if_neg h]
      rfl
theorem replaceAll_one (c : UInt8) (new l : List UInt8) (h : ¬ ([c] : List UInt8) == new) : Lib.replaceAll l [c] new = repB c new l := by
  unfold Lib.replaceAll Lib.replace Lib.replaceNum
  rw [if_neg h, if_pos (by omega)]
  exact replace_one c new l
theorem escL_eq (l : List UInt8) : repB 34 [92, 34] (repB 92 [92, 92] l) = escL l := by
  unfold repB escL
  induction l with
  | nil => rfl
  | cons c r ih =>
    rw [List.flatMap_cons, List.flatMap_append, ih, List.flatMap_cons]
    congr 1
    by_cases h1 : c = 92
    · subst h1; rfl
    · by_cases h2 : c = 34
      · subst h2; rfl
      · rw [if_neg h1]
        simp [h1, h2]
theorem repB_len (c : UInt8) (new : List UInt8) (h : new.length ≤ 2) : ∀ l : List UInt8, (repB c new l).length ≤ 2 * l.length
  | [] => by simp [repB]
  | b :: l => by
    have ih := repB_len c new h l
    unfold repB at ih ⊢
    rw [List.flatMap_cons, List.length_append, List.length_cons]
    split
    · omega
    · simp only [List.length_cons, List.length_nil]; omega

end Go.Proofs.YthnkgifbbemhfaaGreatDoor
end

/- mime.Quote: the walk. -/
set_option linter.unusedVariables false
set_option linter.unusedSimpArgs false
section
namespace Go.Proofs.YthnkgifbbemhfaaGreatDoor
open Go.RowKit Go

theorem odd_pred (x : Nat) (w : World) : Calls Tryz.prog 51 #[.int .i32 x] w fun e w' => e = .returned (.bool (oddR x)) ∧ Below w.heap.size w w' := by
  unfold oddR
  by_cases h1 : (x : Int) < 32
  · have e1 : decide ((x : Int) < 32) = true := by simpa using h1
    rw [e1, Bool.true_or]
    clear e1
    go_enter Tryz.func51, Tryz.ntmps51
    go_wp2
    go_ret
    exact ⟨rfl, Below.refl _ _⟩
  · have e1 : decide ((x : Int) < 32) = false := by simpa using h1
    rw [e1, Bool.false_or]
    clear e1
    by_cases h2 : 126 < (x : Int)
    · have e2 : decide (126 < (x : Int)) = true := by simpa using h2
      rw [e2]
      clear e2
      go_enter Tryz.func51, Tryz.ntmps51
      go_wp2
      go_ret
      exact ⟨rfl, Below.refl _ _⟩
    · have e2 : decide (126 < (x : Int)) = false := by simpa using h2
      rw [e2]
      clear e2
      go_enter Tryz.func51, Tryz.ntmps51
      go_wp2
      go_ret
      exact ⟨rfl, Below.refl _ _⟩

theorem idxf_any (s : List UInt8) (w : World) : Calls Tryz.prog 50 #[.string (bs s), .func (.func 51) #[] #[]] w fun e w' => e = .returned (.int .i64 (Lib.idxFunc oddR true (bs s))) ∧ Below w.heap.size w w' :=
  Tryz.strings_IndexFunc_grows 51 #[] (enters_of Tryz.func51 (by kernel_rfl) rfl) oddR (bs s) w (fun W x _ _ => odd_pred x W)

theorem count_one_le (c : UInt8) : ∀ l : List UInt8, Lib.count l [c] ≤ l.length
  | [] => by rw [Lib.count_one]; simp
  | b :: l => by
    have ih := count_one_le c l
    by_cases h : b = c
    · subst h
      rw [Lib.count_cons_eq]; simp; omega
    · rw [Lib.count_cons_ne b c l h]; simp; omega

theorem repl_any (c : UInt8) (new l : List UInt8) (m : Int) (w : World) (hn : new.length = 2) (hl : l.length ≤ 2000000000) (hm : w.cell? ⟨2, 0, none⟩ = some (.int .i64 m)) :
    Calls Tryz.prog 52 #[.string (bs l), .string (bs [c]), .string (bs new)] w fun e w' => e = .returned (.string (bs (repB c new l))) ∧ Below w.heap.size w w' := by
  have hc := count_one_le c l
  refine (Tryz.strings_ReplaceAll (bs l) (bs [c]) (bs new) m w (by rw [bs_size]; omega) hm (by rw [bs_size]; simp) ?_).mono ?_
  · have : Lib.countB (bs l) (bs [c]) = Lib.count l [c] := rfl
    rw [this, bs_size, bs_size, hn]
    omega
  · rintro e w' ⟨rfl, hb⟩
    refine ⟨?_, hb⟩
    have e1 := replaceAll_one c new l (by intro h; have := congrArg List.length (eq_of_beq h); simp [hn] at this)
    rw [← e1]

end Go.Proofs.YthnkgifbbemhfaaGreatDoor
end

/- mime.Quote: the walk. -/
set_option linter.unusedVariables false
set_option linter.unusedSimpArgs false
section
namespace Go.Proofs.YthnkgifbbemhfaaGreatDoor
open Go.RowKit Go Go.Sort

def TabQ (w : World) : Prop := Lib.TabIs Tryz.prog w "internal/strconv.uint64pow10" .u64 Lib.pow10Tab
theorem tabQNamed : Tryz.prog.globalNamed "internal/strconv.uint64pow10" = some 4 := by kernel_rfl
theorem TabQ.lt {w : World} (h : TabQ w) : 4 < w.heap.size := cell_lt (Lib.TabIs.cell h tabQNamed 0 (by decide))
theorem TabQ.below {w w' : World} (h : TabQ w) (hb : Below w.heap.size w w') : TabQ w' := var?_below hb tabQNamed h.lt h
theorem decq_length : ∀ (f u : Nat), u < 10 ^ f → 0 < f → (Lib.decDigits u).length ≤ f
  | 0, _, _, h => absurd h (by omega)
  | f + 1, u, h, _ => by
    rw [Lib.decDigits.eq_1]
    split
    · simp
    · rename_i h10
      have hf : 0 < f := by
        rcases Nat.eq_zero_or_pos f with rfl | h0
        · simp at h; omega
        · exact h0
      have := decq_length f (u / 10) (by rw [Nat.pow_succ] at h; omega) hf
      simp
      omega

theorem itoaQ_any (n : Nat) (w : World) (hn : n ≤ 9223372036854775807) (hT : TabQ w) : Calls Tryz.prog 26 #[.int .i64 n] w fun e w' => e = .returned (.string (bs (Lib.decDigits n))) ∧ Below w.heap.size w w' := by
  refine (Tryz.strconv_Itoa n (by omega) (by omega) w hT).mono ?_
  rintro e w' ⟨rfl, k, os, rfl⟩
  have e1 : Lib.itoa n = Lib.decDigits n := by
    unfold Lib.itoa
    rw [if_neg (by omega)]
    simp
  exact ⟨by rw [e1], Lib.below_grow _ _ (Nat.le_refl _) _ _⟩

set_option maxRecDepth 100000 in
set_option maxHeartbeats 2000000 in
theorem quote_any (s : List UInt8) (m : Int) (w : World) (hl : s.length ≤ 1000000000) (hm : w.cell? ⟨2, 0, none⟩ = some (.int .i64 m)) (hT : TabQ w) :
    Calls Tryz.prog 32 #[.string (bs s)] w fun e w' => e = .returned (.string (bs (qtL s))) ∧ Below w.heap.size w w' := by
  have hp := idx_print s
  obtain ⟨ix, hix⟩ : ∃ ix, Lib.idxFunc oddR true (bs s) = ix := ⟨_, rfl⟩
  rw [hix] at hp
  have HIX := Lib.hid hix
  have HM := Lib.hid hm
  have HT := Lib.hid hT
  have hlt := cell_lt hm
  clear hix hm hT
  cases ha : s.all printB with
  | false =>
    have e : qtL s = 123 :: (Lib.decDigits s.length ++ ([125, 13, 10] ++ s)) := by
      unfold qtL
      rw [ha]
      rfl
    rw [e]
    rw [ha] at hp
    have hge : 0 ≤ ix := of_decide_eq_true hp
    clear e ha hp
    have hdl := decq_length 10 s.length (by omega) (by omega)
    go_enter Tryz.func32, Tryz.ntmps32
    go_wp2_with fail
    refine (idxf_any s _).mono ?_
    rintro e w1 ⟨rfl, hb1⟩
    rw [HIX.out]
    go_wp2_with fail
    refine (itoaQ_any s.length _ (by omega) (TabQ.below HT.out hb1)).mono ?_
    rintro e w2 ⟨rfl, hb2⟩
    go_wp2
    go_ret
    exact ⟨by rw [show (⟨#[123]⟩ : ByteArray) = bs [123] from rfl, show (⟨#[125, 13, 10]⟩ : ByteArray) = bs [125, 13, 10] from rfl, bs_append, bs_append, bs_append]; simp, hb1.trans (hb2.mono hb1.size)⟩
  | true =>
    have e : qtL s = 34 :: (escL s ++ [34]) := by
      unfold qtL
      rw [if_pos ha]
    rw [e]
    rw [ha] at hp
    have hge : ¬ 0 ≤ ix := of_decide_eq_false hp
    have hr1 := repB_len 92 [92, 92] (by decide) s
    have he := escL_eq s
    obtain ⟨t, ht⟩ : ∃ t, repB 92 [92, 92] s = t := ⟨_, rfl⟩
    rw [ht] at hr1 he
    have HT2 := Lib.hid ht
    have HE := Lib.hid he
    clear e ha hp he ht
    have hel := escL_len s
    go_enter Tryz.func32, Tryz.ntmps32
    go_wp2_with fail
    refine (idxf_any s _).mono ?_
    rintro e w1 ⟨rfl, hb1⟩
    rw [HIX.out]
    go_wp2_with fail
    refine (repl_any 92 [92, 92] s m _ rfl (by omega) ((hb1.cell (p := ⟨2, 0, none⟩) hlt).trans HM.out)).mono ?_
    rintro e w2 ⟨rfl, hb2⟩
    rw [HT2.out]
    have hb12 := hb1.trans (hb2.mono hb1.size)
    go_wp2_with fail
    refine (repl_any 34 [92, 34] t m _ rfl (by omega) ((hb12.cell (p := ⟨2, 0, none⟩) hlt).trans HM.out)).mono ?_
    rintro e w3 ⟨rfl, hb3⟩
    rw [HE.out]
    go_wp2
    go_ret
    exact ⟨by rw [show (⟨#[34]⟩ : ByteArray) = bs [34] from rfl, bs_append, bs_append]; simp, hb12.trans (hb3.mono hb12.size)⟩

end Go.Proofs.YthnkgifbbemhfaaGreatDoor
end

/- The document's Digits. -/
set_option linter.unusedVariables false
set_option linter.unusedSimpArgs false
section
namespace Go.Proofs.YthnkgifbbemhfaaGreatDoor
open Go.RowKit Go

theorem oneByte (w : World) (c : UInt8) : (convert 83 9 (.slice (some ⟨w.heap.size, 0, none⟩) 1 1)).run Tryz.prog (w.alloc (.cells #[.int .u8 ((c.toNat : Nat) : Int)] 5)) = .ok (.string (bs [c])) (w.alloc (.cells #[.int .u8 ((c.toNat : Nat) : Int)] 5)) := by
  have h : OwnB (w.alloc (.cells #[.int .u8 ((c.toNat : Nat) : Int)] 5)) 0 (.slice (some ⟨w.heap.size, 0, none⟩) 1 1) [c] := World.ownsRow_lit (base := 0) (e := 5) (size := 1) w #[.int .u8 ((c.toNat : Nat) : Int)] 1 (Nat.zero_le _) (by unfold maxLen; omega) rfl
  exact convert_bytes h.bytes

set_option maxRecDepth 100000 in
set_option maxHeartbeats 2000000 in
theorem refDigits10_any (n : Nat) (w : World) (hn : n ≤ 9223372036854775807) : Calls Tryz.prog 28 #[.int .i64 n] w fun e w' => e = .returned (.string (bs (Lib.decDigits n))) ∧ Below w.heap.size w w' := by
  have hdl := decq_length 19 n (by omega) (by omega)
  obtain ⟨Z, hZ⟩ : ∃ Z, Lib.decDigits n = Z := ⟨_, rfl⟩
  rw [hZ] at hdl ⊢
  have HZ := Lib.hid hZ
  clear hZ
  go_enter Tryz.func28, Tryz.ntmps28
  go_wp2
  go_loopw [0, 3] (fun v0 v3 wr => ∃ (k : Nat) (L : List UInt8), k ≤ n ∧ v0 = .int .i64 k ∧ v3 = .string (bs L) ∧ Hid (Lib.decDigits k ++ L = Z) ∧ L.length ≤ 19 ∧ Below w.heap.size w wr) (fun v0 _ _ => (intOf v0).toNat)
  case atStart => exact ⟨n, [], Nat.le_refl _, rfl, rfl, by show _ = _; rw [HZ.out, List.append_nil], by simp, Below.refl _ _⟩
  case round =>
    obtain ⟨k, L, hk, rfl, rfl, hd, hL, hB⟩ := hrel
    have hzr := hB.size
    have hlen : (Lib.decDigits k).length + L.length ≤ 19 := by rw [← List.length_append, hd.out]; exact hdl
    by_cases h9 : 9 < k
    · have h1 := hd.out
      rw [Lib.decDigits.eq_1, dif_neg (by omega)] at h1
      have hl2 := hlen
      rw [Lib.decDigits.eq_1, dif_neg (by omega)] at hl2
      simp only [List.length_append, List.length_cons, List.length_nil] at hl2
      have e9 : (48 : Int) + (k : Int) % 10 = ((48 + k % 10 : Nat) : Int) := by omega
      have hin : ((48 + k % 10 : Nat) : Int) = (((UInt8.ofNat (48 + k % 10)).toNat : Nat) : Int) := by
        rw [UInt8.toNat_ofNat']; omega
      obtain ⟨d, hdd⟩ : ∃ d, UInt8.ofNat (48 + k % 10) = d := ⟨_, rfl⟩
      rw [hdd] at hin h1
      have hcv := oneByte wr d
      have h9' : (9 : Int) < k := by omega
      have H1 : Hid (Lib.decDigits (k / 10) ++ (d :: L) = Z) := by
        show _ = _
        rw [← h1]; simp
      clear hd h1 hdd hlen
      go_wp2
      go_roundw
      case rel => exact ⟨k / 10, d :: L, by omega, by go_num, by rw [bs_append]; rfl, H1, by simp; omega, hB.alloc hzr _⟩
      case measure => simp [intOf]; omega
    · have h1 := hd.out
      rw [Lib.decDigits.eq_1, dif_pos (by omega)] at h1
      have e9 : (48 : Int) + (k : Int) = ((48 + k : Nat) : Int) := by omega
      have hin : ((48 + k : Nat) : Int) = (((UInt8.ofNat (48 + k)).toNat : Nat) : Int) := by
        rw [UInt8.toNat_ofNat']; omega
      obtain ⟨d, hdd⟩ : ∃ d, UInt8.ofNat (48 + k) = d := ⟨_, rfl⟩
      rw [hdd] at hin h1
      have hcv := oneByte wr d
      have h9' : ¬ (9 : Int) < k := by omega
      subst h1
      clear hd hdd hlen hdl
      go_wp2
      go_ret
      exact ⟨by rw [bs_append]; rfl, hB.alloc hzr _⟩

end Go.Proofs.YthnkgifbbemhfaaGreatDoor
end

/- A range over a function whose iterator keeps its state in a cell of its own (strings.Lines): the statement's law. -/
set_option linter.unusedVariables false
set_option linter.unusedSimpArgs false
section
namespace Go.Proofs.YthnkgifbbemhfaaGreatDoor
open Go.RowKit Go

variable {F : Fence} {n : Nat} {P : Program}

/-- J stays whatever becomes of block b. -/
def AbidesBox {β : Type} (b : Nat) (J : β → World → Prop) : Prop := ∀ s W W', J s W → W.grownBy W' (some b) → J s W'
theorem AbidesBox.and {β : Type} {b : Nat} {I I' : β → World → Prop} (h : AbidesBox b I) (h' : AbidesBox b I') : AbidesBox b (fun s W => I s W ∧ I' s W) := fun s W W' hs hg => ⟨h s W W' hs.1 hg, h' s W W' hs.2 hg⟩
theorem abidesBox_size {β : Type} {b k : Nat} : AbidesBox b (fun (_ : β) W => k ≤ W.heap.size) := fun _ _ _ h hg => Nat.le_trans h hg.size
theorem ownFrom_size {β : Type} {B k : Nat} : OwnFrom B (fun (_ : β) W => k ≤ W.heap.size) := fun _ _ _ _ h hg _ => Nat.le_trans h hg.size
theorem abidesBox_below {β : Type} {b n₀ : Nat} {w₀ : World} (hn : n₀ ≤ b) (hs : n₀ ≤ w₀.heap.size) : AbidesBox b (fun (_ : β) W => Below n₀ w₀ W) := fun _ _ _ h hg => h.grown hg (Nat.le_trans hs h.size) (fun k e => by cases e; exact hn)

/-- An iterator over xs whose state lies in block b, where v stands at the beginning: the caller's rounds leave b alone. -/
def SeqBox {α : Type} (F : Fence) (n : Nat) (P : Program) (g : Nat) (b : Nat) (t : TypeId) (enc : α → Value) (xs : List α) (v : Value) : Prop :=
  ∀ (l : Nat) (J Jx : List α → World → Prop) (W : World), AbidesBox b J → AbidesBox b Jx →
    (∀ pre x W1, pre ++ [x] <+: xs → J pre W1 → YieldAt F (n - 1) P l #[enc x] W1 fun e W' =>
      (e = .returned (.bool true) ∧ J (pre ++ [x]) W' ∧ W'.heap[b]? = W1.heap[b]?) ∨ (e = .returned (.bool false) ∧ Jx (pre ++ [x]) W')) →
    J [] W → Boxed W b t v →
    CallsIn F n P g #[.func (.yield l) #[] #[], .pointer (some ⟨b, 0, none⟩)] W fun e W' => (∃ v, e = .returned v) ∧ (J xs W' ∨ ∃ pre, pre <+: xs ∧ Jx pre W')

/-- How the body of a round may be left. -/
def boxPost {α : Type} (B b : Nat) (I : List α → World → Prop) (Ix : Code → List α → World → Prop) (xs : List α) (W : World) : Exit → Act → World → Prop
  | .normal, _, W' => KeepsFrom B W W' ∧ W'.heap[b]? = W.heap[b]? ∧ I xs W'
  | .ret, _, W' => KeepsFrom B W W' ∧ Ix .ret xs W'
  | .exit id, _, W' => KeepsFrom B W W' ∧ Ix (.exit id) xs W'
  | .goto t, _, W' => KeepsFrom B W W' ∧ Ix (.goto t) xs W'
  | .panic _, _, _ => False
  | .outgrown, _, _ => False

theorem heap_grown {W W' : World} {b k : Nat} {o : Obj} (hg : W.grownBy W' (some b)) (h : k ≠ b) (ho : W.heap[k]? = some o) : W'.heap[k]? = some o :=
  (hg.block k (Array.getElem?_eq_some_iff.1 ho).1 (fun e => h (Option.some.inj e))).trans ho

/-- **for x := range g { .. } where g's state lies in block b.** -/
theorem wpIn_rangeFunc_box {α : Type} {g : Operand} {ps : Array Tmp} {assign body : Code} {Q : Exit → Act → World → Prop} {a : Act} {w : World}
    (hro : F.round = none) (h1 : 1 ≤ n) {gf b : Nat} {t : TypeId} (hg : a.eval g = .func (.func gf) #[] #[.pointer (some ⟨b, 0, none⟩)]) (hFg : F.fn gf) (eg : ∀ args w, (callFunc gf args).run P w = .ok (.enter gf args) w)
    {enc : α → Value} {xs : List α} {v : Value} (hseq : SeqBox F (n - 1) P gf b t enc xs v) (hbox : Boxed w b t v) (hps : ps.size = 1)
    (I : List α → World → Prop) (Ix : Code → List α → World → Prop) (hI : OwnFrom w.heap.size I) (hIx : ∀ c, OwnFrom w.heap.size (Ix c)) (hIb : AbidesBox b I) (hIxb : ∀ c, AbidesBox b (Ix c)) (h0 : I [] w) (a₁ : α → Act)
    (hassign : ∀ (l : Nat) (x : α) (W : World) (K : Act → World → Prop), K (a₁ x) W →
      assign.wpIn (F.inRound l) (n - 1 - 1) P (Exit.then K (fun _ _ _ => False)) { tmps := (ps.zip #[enc x]).foldl (fun t (p, v) => t.setIfInBounds p v) a.tmps, defers := [] } W)
    (hbody : ∀ (l : Nat) (pre : List α) (x : α) (W : World), pre ++ [x] <+: xs → I pre W → body.wpIn (F.inRound l) (n - 1 - 1) P (boxPost w.heap.size b I Ix (pre ++ [x]) W) (a₁ x) W)
    (hdone : ∀ (D : Nat) (W : World), w.heap.size ≤ D → I xs W → W.heap[D]? = some (.deferred (some [])) → Q .normal { a with defers := { target := .collected D, args := #[] } :: a.defers } W)
    (hstop : ∀ (D : Nat) (c : Code) (pre : List α) (W : World), w.heap.size ≤ D → pre <+: xs → Ix c pre W → W.heap[D]? = some (.deferred (some [])) → c.wpIn F n P Q { a with defers := { target := .collected D, args := #[] } :: a.defers } W) :
    (Code.rangeFunc g ps assign body).wpIn F n P Q a w := by
  have hbl : b < w.heap.size := hbox.lt
  refine wpIn_rangeFunc ?_
  intro fn hfn
  rw [hro]
  obtain ⟨rec, hrec⟩ : ∃ rec : LoopState → Option Code → Loop, rec = fun st pe => { state := st, pending := pe, fn, tmps := a.tmps, params := ps, assign, body, defers := w.heap.size } := ⟨_, rfl⟩
  obtain ⟨W1, hW1⟩ : ∃ W1, (w.alloc (.deferred (some []))).alloc (.loop (rec .ready none)) = W1 := ⟨_, rfl⟩
  have hL1 : W1.heap[w.heap.size + 1]? = some (.loop (rec .ready none)) := by
    rw [← hW1]; have := World.alloc_heap_new (w.alloc (.deferred (some []))) (.loop (rec .ready none)); rwa [World.size_alloc] at this
  have hK1 : W1.heap[w.heap.size]? = some (.deferred (some [])) := by
    rw [← hW1]; exact (Below.heap_alloc _ _ _ (by simp)).trans (World.alloc_heap_new w _)
  have hI1 : I [] W1 := by rw [← hW1]; exact hI.alloc _ (hI.alloc _ h0)
  have hb1 : Boxed W1 b t v := by rw [← hW1]; exact (hbox.alloc _).alloc _
  refine ⟨w.heap.size + 1, [{ target := .collected w.heap.size, args := #[] }], W1, { target := .fn (.func gf) #[.pointer (some ⟨b, 0, none⟩)], args := #[.func (.yield (w.heap.size + 1)) #[] #[]] }, W1, gf,
    #[.func (.yield (w.heap.size + 1)) #[] #[]] ++ #[.pointer (some ⟨b, 0, none⟩)], W1, ?_, ?_, ?_, ?_, fun _ => h1, ?_⟩
  · rw [← hW1, hrec]; exact run_enterLoop_outer _ _ _ _ _
  · simp only [resolve, hg]
    simp [go_sem]
  · intro f' hf'; simp [Target.leads] at hf'; subst hf'; exact hFg
  · simp [invoke, go_sem, eg]
  · refine (hseq (w.heap.size + 1)
      (fun pre W => I pre W ∧ W.heap[w.heap.size + 1]? = some (.loop (rec .ready none)) ∧ W.heap[w.heap.size]? = some (.deferred (some [])))
      (fun pre W => ∃ c, Ix c pre W ∧ W.heap[w.heap.size + 1]? = some (.loop (rec .done (some c))) ∧ W.heap[w.heap.size]? = some (.deferred (some [])))
      W1 (fun s A u hs hg => ⟨hIb _ _ _ hs.1 hg, heap_grown hg (by omega) hs.2.1, heap_grown hg (by omega) hs.2.2⟩)
      (fun s A u hs hg => by
        obtain ⟨c, hc, hl, hk⟩ := hs
        exact ⟨c, hIxb _ _ _ _ hc hg, heap_grown hg (by omega) hl, heap_grown hg (by omega) hk⟩)
      ?_ ⟨hI1, hL1, hK1⟩ hb1).mono ?_
    · rintro pre x W hpre ⟨hi, hl, hk⟩
      have hlt : w.heap.size + 1 < W.heap.size := (Array.getElem?_eq_some_iff.1 hl).1
      have hy := run_yield (P := P) (args := #[enc x]) hl (by rw [hrec]; exact hps.symm)
      rw [hrec] at hy
      refine ⟨fn, _, assign, body, hy, roundIn_of_wpIn hfn (hassign _ x W _ ⟨_, run_beginRound hl (by rw [hrec]), ?_⟩)⟩
      have hl2 : (W.putObj (w.heap.size + 1) (.loop { rec .ready none with state := .busy })).heap[w.heap.size + 1]? = some (.loop { rec .ready none with state := .busy }) := World.putObj_heap_same hlt
      have hk2 : (W.putObj (w.heap.size + 1) (.loop { rec .ready none with state := .busy })).heap[w.heap.size]? = some (.deferred (some [])) := (World.putObj_heap_other (by omega)).trans hk
      have hw2 : (W.putObj (w.heap.size + 1) (.loop { rec .ready none with state := .busy })).heap[b]? = W.heap[b]? := World.putObj_heap_other (by omega)
      refine wpIn_mono (hbody _ pre x _ hpre (hI.putObj _ hi (by omega) hl rfl)) ?_
      have fin : ∀ (jump : Option Code) (W3 : World), KeepsFrom w.heap.size (W.putObj (w.heap.size + 1) (.loop { rec .ready none with state := .busy })) W3 →
          (Instr.endRound (w.heap.size + 1) jump).run P W3 = .ok (.bool jump.isNone) (W3.putObj (w.heap.size + 1) (.loop (rec (if jump.isNone then .ready else .done) jump))) ∧
          W3.heap[w.heap.size + 1]? = some (.loop { rec .ready none with state := .busy }) ∧
          (W3.putObj (w.heap.size + 1) (.loop (rec (if jump.isNone then .ready else .done) jump))).heap[w.heap.size + 1]? = some (.loop (rec (if jump.isNone then .ready else .done) jump)) ∧
          (W3.putObj (w.heap.size + 1) (.loop (rec (if jump.isNone then .ready else .done) jump))).heap[w.heap.size]? = some (.deferred (some [])) := fun jump W3 hk3 => by
        have hl3 := hk3.same _ _ (by omega) hl2 rfl
        have := run_endRound (P := P) jump hl3
        rw [hrec] at this ⊢
        exact ⟨this, by rw [hrec] at hl3; exact hl3, World.putObj_heap_same (Array.getElem?_eq_some_iff.1 hl3).1, (World.putObj_heap_other (by omega)).trans (hk3.same _ _ (Nat.le_refl _) hk2 rfl)⟩
      rintro e a3 W3 hp
      cases e with
      | normal =>
        obtain ⟨hk3, hkp3, hi3⟩ := hp
        obtain ⟨hr, hl3, hl4, hk4⟩ := fin none W3 hk3
        exact ⟨_, _, hr, .inl ⟨rfl, ⟨hI.putObj _ hi3 (by omega) hl3 rfl, hl4, hk4⟩, (World.putObj_heap_other (by omega)).trans (hkp3.trans hw2)⟩⟩
      | ret =>
        obtain ⟨hk3, hi3⟩ := hp
        obtain ⟨hr, hl3, hl4, hk4⟩ := fin (some .ret) W3 hk3
        exact ⟨_, _, hr, .inr ⟨rfl, .ret, (hIx _).putObj _ hi3 (by omega) hl3 rfl, hl4, hk4⟩⟩
      | exit id =>
        obtain ⟨hk3, hi3⟩ := hp
        obtain ⟨hr, hl3, hl4, hk4⟩ := fin (some (.exit id)) W3 hk3
        exact ⟨_, _, hr, .inr ⟨rfl, .exit id, (hIx _).putObj _ hi3 (by omega) hl3 rfl, hl4, hk4⟩⟩
      | goto t =>
        obtain ⟨hk3, hi3⟩ := hp
        obtain ⟨hr, hl3, hl4, hk4⟩ := fin (some (.goto t)) W3 hk3
        exact ⟨_, _, hr, .inr ⟨rfl, .goto t, (hIx _).putObj _ hi3 (by omega) hl3 rfl, hl4, hk4⟩⟩
      | panic ch => exact hp.elim
      | outgrown => exact hp.elim
    · rintro e W2 ⟨⟨v, rfl⟩, (⟨hi, hl, hk⟩ | ⟨pre, hSp, c, hi, hl, hk⟩)⟩
      · exact ⟨none, _, by have := run_endLoop (P := P) hl (by rw [hrec]; simp); rw [hrec] at this; exact this, hdone _ _ (Nat.le_refl _) (hI.putObj _ hi (by omega) hl rfl) ((World.putObj_heap_other (by omega)).trans hk)⟩
      · exact ⟨some c, _, by have := run_endLoop (P := P) hl (by rw [hrec]; simp); rw [hrec] at this; exact this, hstop _ c pre _ (Nat.le_refl _) hSp ((hIx c).putObj _ hi (by omega) hl rfl) ((World.putObj_heap_other (by omega)).trans hk)⟩

/-- out = append(out, ..) into a variable's box, the row's base and what lies below apart -/
theorem boxed_appended {W w1 : World} {n₀ m₀ B : Nat} {t e : TypeId} {size : Nat} {v v' : Value} {k m : Nat} {xs ys : List Value} {tmp : Obj}
    (hv : Boxed W B t v) (hte : t ≠ e) (hrow : W.ownsRow n₀ e size v k xs) (hm : m₀ ≤ n₀) (hn₀ : m₀ ≤ W.heap.size) (hB : m₀ ≤ B)
    (hown' : w1.ownsRow n₀ e size v' m ys) (hgrow : (W.alloc tmp).grownBy w1 v.ownBlock) :
    Boxed w1 B t v ∧ Boxed (w1.setCell ⟨B, 0, none⟩ v') B t v' ∧ (w1.setCell ⟨B, 0, none⟩ v').ownsRow n₀ e size v' m ys ∧ KeepsOthers W (w1.setCell ⟨B, 0, none⟩ v') ∧ Below m₀ W (w1.setCell ⟨B, 0, none⟩ v') ∧
      ∀ b, b < W.heap.size → b < n₀ → b ≠ B → (w1.setCell ⟨B, 0, none⟩ v').heap[b]? = W.heap[b]? := by
  have hv1 : Boxed w1 B t v := (hv.alloc tmp).kept hgrow (hv.not_row hte hrow)
  have hlt := World.ownsRow.lt hrow
  refine ⟨hv1, hv1.set v', hown'.kept (grownBy_setCell' w1 B v') (.inr (hv1.not_row hte hown').symm), ?_, ?_, ?_⟩
  · refine ((KeepsOthers.alloc W tmp).trans (KeepsOthers.of_grownBy hgrow fun j o ej hj => ?_)).trans (KeepsOthers.setCell _ _ _)
    rcases (hrow.alloc tmp).2 with ⟨rfl, _⟩ | ⟨g, cap, cur, rfl, _, hgb, _⟩
    · simp [Value.ownBlock] at ej
    · obtain rfl : g = j := by simpa [Value.ownBlock] using ej
      rw [hgb] at hj; cases hj; rfl
  · refine (((Below.refl m₀ W).alloc hn₀ tmp).grown hgrow (by simp; omega) fun j ej => Nat.le_trans hm (hlt j ej).1).setCell (p := ⟨B, 0, none⟩) hB v'
  · intro b hb hbn hbB
    rw [Below.heap_setCell _ _ _ _ (by simpa using hbB), hgrow.block b (by simp; omega) (fun e => by have := (hlt b e.symm).1; omega), Below.heap_alloc _ _ _ hb]

end Go.Proofs.YthnkgifbbemhfaaGreatDoor
end

/- Plain facts on lines: cutting a list of bytes at its first line feed. -/
set_option linter.unusedVariables false
set_option linter.unusedSimpArgs false
section
namespace Go.Proofs.YthnkgifbbemhfaaGreatDoor

/-- what is ahead of the first line feed, and what is behind it -/
def cutNl : List UInt8 → Option (List UInt8 × List UInt8)
  | [] => none
  | c :: r => if c = 10 then some ([], r) else match cutNl r with
    | none => none
    | some (a, b) => some (c :: a, b)

theorem cutNl_some {h s r : List UInt8} (e : cutNl h = some (s, r)) : h = s ++ 10 :: r ∧ ∀ c ∈ s, c ≠ 10 := by
  induction h generalizing s r with
  | nil => simp [cutNl] at e
  | cons c t ih =>
    unfold cutNl at e
    by_cases hc : c = 10
    · rw [if_pos hc] at e
      obtain ⟨rfl, rfl⟩ := Prod.mk.inj (Option.some.inj e)
      exact ⟨by simp [hc], by simp⟩
    · rw [if_neg hc] at e
      cases hq : cutNl t with
      | none => rw [hq] at e; cases e
      | some p =>
        obtain ⟨a, b⟩ := p
        rw [hq] at e
        obtain ⟨rfl, rfl⟩ := Prod.mk.inj (Option.some.inj e)
        obtain ⟨h1, h2⟩ := ih hq
        exact ⟨by rw [h1]; simp, by intro x hx; rcases List.mem_cons.1 hx with rfl | hx; exact hc; exact h2 x hx⟩

theorem cutNl_none {h : List UInt8} (e : cutNl h = none) : ∀ c ∈ h, c ≠ 10 := by
  induction h with
  | nil => simp
  | cons c t ih =>
    unfold cutNl at e
    by_cases hc : c = 10
    · rw [if_pos hc] at e; cases e
    · rw [if_neg hc] at e
      cases hq : cutNl t with
      | none => intro x hx; rcases List.mem_cons.1 hx with rfl | hx; exact hc; exact ih hq x hx
      | some p => rw [hq] at e; cases e

theorem cutNl_mk (s r : List UInt8) (h : ∀ c ∈ s, c ≠ 10) : cutNl (s ++ 10 :: r) = some (s, r) := by
  induction s with
  | nil => simp [cutNl]
  | cons c t ih =>
    have hc : c ≠ 10 := h c (by simp)
    simp [cutNl, hc, ih (fun x hx => h x (by simp [hx]))]

theorem cutNl_no (h : List UInt8) (e : ∀ c ∈ h, c ≠ 10) : cutNl h = none := by
  cases hq : cutNl h with
  | none => rfl
  | some p =>
    obtain ⟨a, b⟩ := p
    obtain ⟨h1, _⟩ := cutNl_some hq
    exact absurd rfl (e 10 (by rw [h1]; simp))

theorem index_both (h : List UInt8) : Lib.indexByte h 10 = match cutNl h with | none => -1 | some (s, _) => (s.length : Int) := by
  induction h with
  | nil => rfl
  | cons c t ih =>
    unfold Lib.indexByte cutNl
    by_cases hc : c = 10
    · simp [hc]
    · simp only [beq_iff_eq, hc, if_false]
      cases hq : cutNl t with
      | none => rw [hq] at ih; simp [ih]
      | some p =>
        obtain ⟨a, b⟩ := p
        rw [hq] at ih
        simp only at ih
        rw [ih, if_neg (by omega)]
        simp
theorem index_some {h s r : List UInt8} (e : cutNl h = some (s, r)) : Lib.indexByte h 10 = (s.length : Int) := by
  rw [index_both, e]
theorem index_none {h : List UInt8} (e : cutNl h = none) : Lib.indexByte h 10 = -1 := by
  rw [index_both, e]

/-- a line as it is told: its text, and whether it is too long -/
def lineText (s : List UInt8) : List UInt8 := if s.length > 1000 then [] else Lib.trimSuffix s [13]
def lineLong (s : List UInt8) : Bool := decide (s.length > 1000)

end Go.Proofs.YthnkgifbbemhfaaGreatDoor
end

/- Plain facts on a text's lines. -/
set_option linter.unusedVariables false
set_option linter.unusedSimpArgs false
section
namespace Go.Proofs.YthnkgifbbemhfaaGreatDoor

/-- a text's lines, each with its end -/
def linesOf : List UInt8 → List (List UInt8)
  | [] => []
  | c :: r => if c = 10 then [10] :: linesOf r else match linesOf r with
    | [] => [[c]]
    | x :: xs => (c :: x) :: xs

theorem linesOf_nil : linesOf [] = [] := rfl
theorem linesOf_cons (c : UInt8) (r : List UInt8) : linesOf (c :: r) = if c = 10 then [10] :: linesOf r else match linesOf r with | [] => [[c]] | x :: xs => (c :: x) :: xs := rfl
theorem linesOf_nl (a r : List UInt8) (h : ∀ c ∈ a, c ≠ 10) : linesOf (a ++ 10 :: r) = (a ++ [10]) :: linesOf r := by
  induction a with
  | nil => simp [linesOf]
  | cons c t ih =>
    have hc : c ≠ 10 := h c (by simp)
    rw [List.cons_append]
    rw [linesOf_cons]
    rw [if_neg hc, ih (fun x hx => h x (by simp [hx]))]
    rfl
theorem linesOf_end (a : List UInt8) (h : ∀ c ∈ a, c ≠ 10) (ha : a ≠ []) : linesOf a = [a] := by
  induction a with
  | nil => exact absurd rfl ha
  | cons c t ih =>
    have hc : c ≠ 10 := h c (by simp)
    rw [linesOf_cons]
    rw [if_neg hc]
    cases t with
    | nil => rfl
    | cons d t => rw [ih (fun x hx => h x (by simp [hx])) (by simp)]

/-- by the first line feed -/
theorem linesOf_cut {l s r : List UInt8} (h : cutNl l = some (s, r)) : linesOf l = (s ++ [10]) :: linesOf r := by
  obtain ⟨rfl, h2⟩ := cutNl_some h
  exact linesOf_nl s r h2
theorem linesOf_cutNo {l : List UInt8} (h : cutNl l = none) (hl : l ≠ []) : linesOf l = [l] := linesOf_end l (cutNl_none h) hl

/-- rows that are a text's lines -/
def wfLines : List (List UInt8) → Prop
  | [] => True
  | [x] => x ≠ [] ∧ ∀ c ∈ x.dropLast, c ≠ 10
  | x :: y :: r => (∃ a, x = a ++ [10] ∧ ∀ c ∈ a, c ≠ 10) ∧ wfLines (y :: r)

/-- an induction by a text's lines -/
theorem lines_induction {p : List UInt8 → Prop} (h0 : p []) (h1 : ∀ a, a ≠ [] → (∀ c ∈ a, c ≠ 10) → p a) (h2 : ∀ a r, (∀ c ∈ a, c ≠ 10) → p r → p (a ++ 10 :: r)) : ∀ l, p l := by
  intro l
  induction h : l.length using Nat.strongRecOn generalizing l with
  | ind m ih =>
    subst h
    cases hc : cutNl l with
    | none =>
      by_cases hl : l = []
      · rw [hl]; exact h0
      · exact h1 l hl (cutNl_none hc)
    | some p =>
      obtain ⟨s, r⟩ := p
      obtain ⟨e, hs⟩ := cutNl_some hc
      rw [e]
      exact h2 s r hs (ih r.length (by rw [e]; simp; omega) r rfl)

theorem linesOf_flatten (l : List UInt8) : (linesOf l).flatten = l := by
  refine lines_induction (p := fun l => (linesOf l).flatten = l) rfl (fun a ha h => ?_) (fun a r h ih => ?_) l
  · show (linesOf a).flatten = a
    rw [linesOf_end a h ha]; simp
  · show (linesOf (a ++ 10 :: r)).flatten = a ++ 10 :: r
    rw [linesOf_nl a r h]; simp [ih]

theorem wf_cons (a : List UInt8) (h : ∀ c ∈ a, c ≠ 10) (ls : List (List UInt8)) (hl : wfLines ls) : wfLines ((a ++ [10]) :: ls) := by
  cases ls with
  | nil => exact ⟨by simp, by simpa using h⟩
  | cons y r => exact ⟨⟨a, rfl, h⟩, hl⟩

theorem linesOf_wf (l : List UInt8) : wfLines (linesOf l) := by
  refine lines_induction (p := fun l => wfLines (linesOf l)) trivial (fun a ha h => ?_) (fun a r h ih => ?_) l
  · show wfLines (linesOf a)
    rw [linesOf_end a h ha]
    exact ⟨ha, fun c hc => h c (List.dropLast_subset _ hc)⟩
  · show wfLines (linesOf (a ++ 10 :: r))
    rw [linesOf_nl a r h]
    exact wf_cons a h _ ih

theorem linesOf_single (x : List UInt8) (hx : x ≠ []) (h : ∀ c ∈ x.dropLast, c ≠ 10) : linesOf x = [x] := by
  by_cases e : x.getLast hx = 10
  · have : x = x.dropLast ++ 10 :: [] := by rw [← e]; exact (List.dropLast_concat_getLast hx).symm
    rw [this, linesOf_nl _ _ h]; rfl
  · refine linesOf_end x (fun c hc => ?_) hx
    rw [← List.dropLast_concat_getLast hx] at hc
    rcases List.mem_append.1 hc with hc | hc
    · exact h c hc
    · rw [List.mem_singleton.1 hc]; exact e

theorem linesOf_of_wf : ∀ (ls : List (List UInt8)), wfLines ls → linesOf ls.flatten = ls
  | [], _ => rfl
  | [x], ⟨hx, h⟩ => by simp only [List.flatten_cons, List.flatten_nil, List.append_nil]; exact linesOf_single x hx h
  | x :: y :: r, ⟨⟨a, e, h⟩, hr⟩ => by
    rw [List.flatten_cons, e, List.append_assoc, List.singleton_append, linesOf_nl a _ h, linesOf_of_wf (y :: r) hr]

theorem linesOf_length (l : List UInt8) : (linesOf l).length ≤ l.length := by
  refine lines_induction (p := fun l => (linesOf l).length ≤ l.length) (by simp [linesOf]) (fun a ha h => ?_) (fun a r h ih => ?_) l
  · show (linesOf a).length ≤ a.length
    rw [linesOf_end a h ha]
    cases a with
    | nil => exact absurd rfl ha
    | cons c t => simp
  · show (linesOf (a ++ 10 :: r)).length ≤ (a ++ 10 :: r).length
    rw [linesOf_nl a r h]; simp; omega

theorem linesOf_mem {l x : List UInt8} (h : x ∈ linesOf l) : x ≠ [] ∧ x.length ≤ l.length := by
  revert x
  refine lines_induction (p := fun l => ∀ {x}, x ∈ linesOf l → x ≠ [] ∧ x.length ≤ l.length) (by simp [linesOf]) (fun a ha h => ?_) (fun a r h ih => ?_) l
  · intro x hx
    rw [linesOf_end a h ha] at hx
    obtain rfl := List.mem_singleton.1 hx
    exact ⟨ha, Nat.le_refl _⟩
  · intro x hx
    rw [linesOf_nl a r h] at hx
    rcases List.mem_cons.1 hx with rfl | hx
    · exact ⟨by simp, by simp⟩
    · obtain ⟨h1, h2⟩ := ih hx
      exact ⟨h1, by simp; omega⟩

end Go.Proofs.YthnkgifbbemhfaaGreatDoor
end
