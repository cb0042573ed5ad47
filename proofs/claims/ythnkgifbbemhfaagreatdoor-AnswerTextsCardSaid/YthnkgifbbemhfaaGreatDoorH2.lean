/- header's reader: where it lies, what a line turns. -/
import Derived.Test.YthnkgifbbemhfaaGreatDoorH1
import Derived.Laws.AppendOwn
import Derived.Laws.OwnMore
import Derived.Deep.AppendLies
import Derived.Deep.RegionLaw
import Derived.BigRegion
import Derived.Deep.DeepFit
set_option linter.unusedVariables false
set_option linter.unusedSimpArgs false
namespace Go.Proofs.YthnkgifbbemhfaaGreatDoor
open Go.RowKit

theorem info_fld : (Tryz.prog.info? 135).map (fun i => (i.zero, i.size, i.bytes)) = some (some (.agg #[.string ⟨#[]⟩, .string ⟨#[]⟩, .int .i64 0, .int .i64 0]), 4, 48) := by kernel_rfl

def cellsFld (f : Fld) : List Value := [.string (bs f.name), .string (bs f.value), .int .i64 f.pos, .int .i64 f.fin]
/-- fields as cells -/
def cellsF (fs : List Fld) : List Value := fs.flatMap cellsFld
theorem cellsF_length (fs : List Fld) : (cellsF fs).length = fs.length * 4 := by
  induction fs with
  | nil => rfl
  | cons f r ih => simp only [cellsF, List.flatMap_cons, List.length_append, List.length_cons] at ih ⊢; rw [ih]; simp [cellsFld]; omega
theorem cellsF_append (a b : List Fld) : cellsF (a ++ b) = cellsF a ++ cellsF b := by simp [cellsF]
theorem cellsF_at (fs : List Fld) (i j : Nat) (f : Fld) (hf : fs[i]? = some f) (hj : j < 4) : (cellsF fs)[i * 4 + j]? = (cellsFld f)[j]? := by
  induction fs generalizing i with
  | nil => simp at hf
  | cons x r ih =>
    have hc : cellsF (x :: r) = cellsFld x ++ cellsF r := rfl
    have hx : (cellsFld x).length = 4 := rfl
    rw [hc]
    cases i with
    | zero =>
      obtain rfl : x = f := by simpa using hf
      rw [Nat.zero_mul, Nat.zero_add, List.getElem?_append_left (by omega)]
    | succ i =>
      rw [List.getElem?_append_right (by omega), hx, show (i + 1) * 4 + j - 4 = i * 4 + j by omega]
      exact ih i (by simpa using hf)

/-- a slice of fields that the call itself made, in blocks from B on -/
def OwnF (w : World) (B : Nat) (v : Value) (fs : List Fld) : Prop := w.ownsRow B 135 4 v fs.length (cellsF fs)

theorem OwnF.parts {w : World} {B : Nat} {v : Value} {fs : List Fld} (h : OwnF w B v fs) : (v = .slice none 0 0 ∧ fs = []) ∨ ∃ g cap, v = .slice (some ⟨g, 0, none⟩) fs.length cap ∧ B ≤ g ∧ g < w.heap.size := by
  have hlt := World.ownsRow.lt h
  rcases h.2 with ⟨rfl, h0⟩ | ⟨g, cap, cur, rfl, hb, hg, hc, _, _, ht⟩
  · exact .inl ⟨rfl, List.eq_nil_of_length_eq_zero h0⟩
  · exact .inr ⟨g, cap, rfl, hb, (hlt g rfl).2⟩
theorem OwnF.later {w w' : World} {B : Nat} {v : Value} {fs : List Fld} (h : OwnF w B v fs) (hb : ∀ k, v.ownBlock = some k → w'.heap[k]? = w.heap[k]?) : OwnF w' B v fs := by
  refine ⟨h.1, ?_⟩
  rcases h.2 with h0 | ⟨g, cap, cur, rfl, h1, h2, r⟩
  · exact .inl h0
  · exact .inr ⟨g, cap, cur, rfl, h1, (hb g rfl).trans h2, r⟩
theorem OwnF.below {w w' : World} {B : Nat} {v : Value} {fs : List Fld} (h : OwnF w B v fs) (hb : Below w.heap.size w w') : OwnF w' B v fs :=
  h.later fun k hk => hb.block k (World.ownsRow.lt h k hk).2
theorem OwnF.cell {w : World} {B g n cap : Nat} {fs : List Fld} (h : OwnF w B (.slice (some ⟨g, 0, none⟩) n cap) fs) (i j : Nat) (f : Fld) (hf : fs[i]? = some f) (hj : j < 4) : w.cell? ⟨g, i * 4 + j, none⟩ = (cellsFld f)[j]? := by
  have hc := cellsF_at fs i j f hf hj
  have hlt : j < (cellsFld f).length := hj
  rw [List.getElem?_eq_getElem hlt] at hc ⊢
  have := World.ownsRow.cells h (g := g) rfl (i * 4 + j) _ hc
  rw [← this]
  by_cases h0 : i * 4 + j = 0
  · rw [h0]; rfl
  · have e : (⟨g, 0, none⟩ : Addr).add (i * 4 + j) = ⟨g, i * 4 + j, none⟩ := by
      unfold Addr.add
      rw [if_neg h0]
      simp
    rw [e]

theorem frozenF {w : World} {B g n cap : Nat} {fs : List Fld} (h : OwnF w B (.slice (some ⟨g, 0, none⟩) n cap) fs) (j : Nat) : w.frozen? ⟨g, j, none⟩ = false := by
  rcases h.2 with ⟨h', _⟩ | ⟨g', cap', cur, h', _, hg, _⟩
  · simp at h'
  · simp at h'
    obtain ⟨rfl, _⟩ := h'
    simp [World.frozen?, hg]
theorem setF (fs0 : List Fld) (f : Fld) (j : Nat) (x : Value) : (cellsF (fs0 ++ [f])).set (fs0.length * 4 + j) x = cellsF fs0 ++ (cellsFld f).set j x := by
  rw [cellsF_append, List.set_append_right _ _ (by rw [cellsF_length]; omega), cellsF_length, show fs0.length * 4 + j - fs0.length * 4 = j by omega]
  simp [cellsF]
theorem cellsF_setv (fs : List Fld) (i : Nat) (f : Fld) (hf : fs[i]? = some f) (v : List UInt8) : (cellsF fs).set (i * 4 + 1) (.string (bs v)) = cellsF (fs.set i { f with value := v }) := by
  induction fs generalizing i with
  | nil => simp at hf
  | cons x r ih =>
    have hc : cellsF (x :: r) = cellsFld x ++ cellsF r := rfl
    have hx : (cellsFld x).length = 4 := rfl
    rw [hc]
    cases i with
    | zero =>
      obtain rfl : x = f := by simpa using hf
      rfl
    | succ i =>
      rw [List.set_append_right _ _ (by omega), hx, show (i + 1) * 4 + 1 - 4 = i * 4 + 1 by omega, ih i (by simpa using hf)]
      rfl
/-- a field's value turned -/
theorem OwnF.setv {w : World} {B g n cap : Nat} {fs : List Fld} (h : OwnF w B (.slice (some ⟨g, 0, none⟩) n cap) fs) (i : Nat) (f : Fld) (hf : fs[i]? = some f) (v : List UInt8) :
    OwnF (w.setCell ⟨g, i * 4 + 1, none⟩ (.string (bs v))) B (.slice (some ⟨g, 0, none⟩) n cap) (fs.set i { f with value := v }) := by
  obtain rfl : n = fs.length := by
    rcases h.2 with ⟨h', _⟩ | ⟨g', cap', cur, h', _⟩
    · simp at h'
    · simp at h'; exact h'.2.1
  unfold OwnF at *
  rw [List.length_set, ← cellsF_setv fs i f hf v]
  exact (World.ownsRow.stored h (i * 4 + 1) (.string (bs v))).1

/-- the last field's value and end turned -/
theorem OwnF.turn {w : World} {B g cap : Nat} {fs0 : List Fld} {f : Fld} (h : OwnF w B (.slice (some ⟨g, 0, none⟩) (fs0.length + 1) cap) (fs0 ++ [f])) (v : List UInt8) (q : Nat) :
    OwnF ((w.setCell ⟨g, fs0.length * 4 + 1, none⟩ (.string (bs v))).setCell ⟨g, fs0.length * 4 + 3, none⟩ (.int .i64 q)) B (.slice (some ⟨g, 0, none⟩) (fs0.length + 1) cap) (fs0 ++ [{ f with value := v, fin := q }]) := by
  unfold OwnF at *
  have e1 : (fs0 ++ [f]).length = fs0.length + 1 := by simp
  have e2 : (fs0 ++ [{ f with value := v, fin := q }]).length = fs0.length + 1 := by simp
  rw [e1] at h
  rw [e2]
  have h1 := (World.ownsRow.stored h (fs0.length * 4 + 1) (.string (bs v))).1
  have h2 := (World.ownsRow.stored h1 (fs0.length * 4 + 3) (.int .i64 q)).1
  rw [setF, ← show cellsF (fs0 ++ [{ f with value := v }]) = cellsF fs0 ++ (cellsFld f).set 1 (.string (bs v)) by rw [cellsF_append]; simp [cellsF, cellsFld], setF,
    ← show cellsF (fs0 ++ [{ f with value := v, fin := q }]) = cellsF fs0 ++ (cellsFld { f with value := v }).set 3 (.int .i64 q) by rw [cellsF_append]; simp [cellsF, cellsFld]] at h2
  exact h2

/-- the reader at block b: its fields' slice, whether the last one may go on, where it is -/
def RdrAt (w : World) (b : Nat) (v : Value) (op : Bool) (p : Nat) : Prop := w.heap[b]? = some (.cells #[v, .bool op, .int .i64 p] 97 (0, 0))
theorem RdrAt.lt {w : World} {b : Nat} {v : Value} {op : Bool} {p : Nat} (h : RdrAt w b v op p) : b < w.heap.size := (Array.getElem?_eq_some_iff.1 h).1
theorem RdrAt.cells {w : World} {b : Nat} {v : Value} {op : Bool} {p : Nat} (h : RdrAt w b v op p) : w.cell? ⟨b, 0, none⟩ = some v ∧ w.cell? ⟨b, 1, none⟩ = some (.bool op) ∧ w.cell? ⟨b, 2, none⟩ = some (.int .i64 p) ∧ w.frozen? ⟨b, 0, none⟩ = false ∧ w.frozen? ⟨b, 1, none⟩ = false ∧ w.frozen? ⟨b, 2, none⟩ = false := by
  unfold RdrAt at h
  refine ⟨?_, ?_, ?_, ?_, ?_, ?_⟩ <;> simp [World.cell?, World.frozen?, h]
theorem RdrAt.set0 {w : World} {b : Nat} {v : Value} {op : Bool} {p : Nat} (h : RdrAt w b v op p) (v' : Value) : RdrAt (w.setCell ⟨b, 0, none⟩ v') b v' op p := by
  unfold RdrAt at *; simp [World.setCell, Array.getElem?_modify, h]
theorem RdrAt.set1 {w : World} {b : Nat} {v : Value} {op : Bool} {p : Nat} (h : RdrAt w b v op p) (o' : Bool) : RdrAt (w.setCell ⟨b, 1, none⟩ (.bool o')) b v o' p := by
  unfold RdrAt at *; simp [World.setCell, Array.getElem?_modify, h]
theorem RdrAt.set2 {w : World} {b : Nat} {v : Value} {op : Bool} {p : Nat} (h : RdrAt w b v op p) (p' : Nat) : RdrAt (w.setCell ⟨b, 2, none⟩ (.int .i64 p')) b v op p' := by
  unfold RdrAt at *; simp [World.setCell, Array.getElem?_modify, h]
theorem RdrAt.below {w w' : World} {b : Nat} {v : Value} {op : Bool} {p : Nat} (h : RdrAt w b v op p) (hb : Below w.heap.size w w') : RdrAt w' b v op p := (hb.block b h.lt).trans h
theorem RdrAt.not_row {w : World} {b B : Nat} {v u : Value} {op : Bool} {p : Nat} {fs : List Fld} (h : RdrAt w b v op p) (ho : OwnF w B u fs) : u.ownBlock ≠ some b := by
  intro e
  rcases ho.2 with ⟨rfl, _⟩ | ⟨g, cap, cur, rfl, _, hg, _⟩
  · cases e
  · obtain rfl : g = b := by simpa [Value.ownBlock] using e
    unfold RdrAt at h
    rw [hg] at h
    simp at h

/-- of what was there only the reader at b and the row of v may have turned -/
structure Frm (b : Nat) (v : Value) (w w' : World) : Prop where
  os : w'.os = w.os
  tape : w'.tape = w.tape
  output : w'.output = w.output
  size : w.heap.size ≤ w'.heap.size
  block : ∀ k, k < w.heap.size → k ≠ b → v.ownBlock ≠ some k → w'.heap[k]? = w.heap[k]?
theorem Frm.refl (b : Nat) (v : Value) (w : World) : Frm b v w w := ⟨rfl, rfl, rfl, Nat.le_refl _, fun _ _ _ _ => rfl⟩
theorem Frm.of_below {b : Nat} {v : Value} {w w' : World} (h : Below w.heap.size w w') : Frm b v w w' := ⟨h.os, h.tape, h.output, h.size, fun k hk _ _ => h.block k hk⟩
theorem Frm.trans {b : Nat} {v v' : Value} {u w w' : World} (h : Frm b v u w) (k : Frm b v' w w') (hv : ∀ k, v'.ownBlock = some k → v.ownBlock = some k ∨ u.heap.size ≤ k) : Frm b v u w' :=
  ⟨k.os.trans h.os, k.tape.trans h.tape, k.output.trans h.output, Nat.le_trans h.size k.size, fun i hi hb hr => (k.block i (Nat.lt_of_lt_of_le hi h.size) hb (fun e => by rcases hv i e with h1 | h1; exact hr h1; omega)).trans (h.block i hi hb hr)⟩
theorem Frm.set {b : Nat} {v : Value} {w w' : World} (h : Frm b v w w') (i : Nat) (x : Value) : Frm b v w (w'.setCell ⟨b, i, none⟩ x) :=
  ⟨h.os, h.tape, h.output, by simpa [World.setCell] using h.size, fun k hk hb hr => (Below.heap_setCell _ _ _ _ (by simpa using hb)).trans (h.block k hk hb hr)⟩
theorem Frm.setRow {b g : Nat} {v : Value} {w w' : World} (h : Frm b v w w') (hg : v.ownBlock = some g) (i : Nat) (x : Value) : Frm b v w (w'.setCell ⟨g, i, none⟩ x) :=
  ⟨h.os, h.tape, h.output, by simpa [World.setCell] using h.size, fun k hk hb hr => (Below.heap_setCell _ _ _ _ (by simp; rintro rfl; exact hr hg)).trans (h.block k hk hb hr)⟩
theorem Frm.drew {b : Nat} {v : Value} {w w' : World} (h : Frm b v w w') : Frm b v w w'.drew := ⟨h.os, h.tape, h.output, h.size, h.block⟩
theorem Frm.drewN {b : Nat} {v : Value} {w w' : World} (h : Frm b v w w') (n : Nat) : Frm b v w (w'.drewN n) := ⟨h.os, h.tape, h.output, h.size, h.block⟩
theorem Frm.below {b B : Nat} {v : Value} {w w' : World} (h : Frm b v w w') (hb : B ≤ b) (hv : ∀ k, v.ownBlock = some k → B ≤ k) (hB : B ≤ w.heap.size) : Below B w w' :=
  ⟨h.os, h.tape, h.output, h.size, fun k hk => h.block k (by omega) (by omega) (fun e => by have := hv k e; omega)⟩

/-- what a line leaves -/
def LineP (b B : Nat) (v : Value) (w : World) (fs : List Fld) (op go : Bool) (q : Nat) (e : Ending) (w' : World) : Prop :=
  ∃ v', e = .returned (.bool go) ∧ RdrAt w' b v' op q ∧ OwnF w' B v' fs ∧ Frm b v w w' ∧ (∀ k, v'.ownBlock = some k → v.ownBlock = some k ∨ w.heap.size ≤ k)

theorem nameL_goes {t : List UInt8} (h : goesB t = true) : nameL t = none := by
  cases t with
  | nil => cases h
  | cons c r =>
    have hc : c = 32 ∨ c = 9 := by simpa [goesB, blankB] using h
    unfold nameL
    cases hq : cutC (c :: r) with
    | none => rfl
    | some p =>
      obtain ⟨n, s⟩ := p
      have := cutC_some hq
      simp only
      rw [if_neg]
      rintro ⟨h1, h2⟩
      cases n with
      | nil => exact h1 rfl
      | cons x n =>
        obtain ⟨rfl, _⟩ := List.cons.inj this
        simp at h2
        have h3 := h2.1
        rcases hc with rfl | rfl <;> exact absurd h3 (by decide)

end Go.Proofs.YthnkgifbbemhfaaGreatDoor
