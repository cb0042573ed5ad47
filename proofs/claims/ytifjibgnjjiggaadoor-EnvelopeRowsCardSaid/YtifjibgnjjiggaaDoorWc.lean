/- Texts of one walk, merged: XH2 XHA XVM XVN XVO XGr XVH XVI XVK. -/
import Derived.Test.YtifjibgnjjiggaaDoorWb
import Derived.Laws.AppendOwn
import Derived.Laws.OwnMore
import Derived.Deep.AppendLies
import Derived.Deep.RegionLaw
import Derived.BigRegion
import Derived.Deep.DeepFit
import Derived.Lib.SlTrimSet
import Derived.Lib.LastIndexByte
import Derived.Shelf.Strings.SlTrimAscii
import Derived.Lib.Replace
import Derived.Lib.DecodeNEq
import Derived.Shelf.GgClosure.StringsIndexFunc
import Derived.Test.YtifjibgnjjiggaaDoorShelf
import Derived.Lib.LaidTab
import Derived.Lib.AppendIntMem
import Derived.WalkSmall
import Derived.LoopTactic

/- header's reader: where it lies, what a line turns. -/
set_option linter.unusedVariables false
set_option linter.unusedSimpArgs false
section
set_option linter.unusedVariables false
set_option linter.unusedSimpArgs false
namespace Go.Proofs.YtifjibgnjjiggaaDoor
open Go.RowKit

theorem info_fld : (Tryd.prog.info? 87).map (fun i => (i.zero, i.size, i.bytes)) = some (some (.agg #[.string ⟨#[]⟩, .string ⟨#[]⟩, .int .i64 0, .int .i64 0]), 4, 48) := by kernel_rfl

def cellsFld (f : Fld) : List Value := [.string (bs f.name), .string (bs f.value), .int .i64 f.pos, .int .i64 f.fin]
/-- fields as cells -/
def cellsF (fs : List Fld) : List Value := fs.flatMap cellsFld
theorem cellsF_length (fs : List Fld) : (cellsF fs).length = fs.length * 4 := by
  induction fs with
  | nil => rfl
  | cons f r ih => simp only [cellsF, List.flatMap_cons, List.length_append, List.length_cons] at ih ⊢; rw [ih]; simp [cellsFld]; omega
theorem cellsF_append (a b : List Fld) : cellsF (a ++ b) = cellsF a ++ cellsF b := by simp [cellsF]
theorem cellsF_at (fs : List Fld) (i j : Nat) (f : Fld) (hf : fs[i]? = some f) (hj : j < 4) : (cellsF fs)[i * 4 + j]? = (cellsFld f)[j]? := by
  induction fs generalizing i with
  | nil => simp at hf
  | cons x r ih =>
    have hc : cellsF (x :: r) = cellsFld x ++ cellsF r := rfl
    have hx : (cellsFld x).length = 4 := rfl
    rw [hc]
    cases i with
    | zero =>
      obtain rfl : x = f := by simpa using hf
      rw [Nat.zero_mul, Nat.zero_add, List.getElem?_append_left (by omega)]
    | succ i =>
      rw [List.getElem?_append_right (by omega), hx, show (i + 1) * 4 + j - 4 = i * 4 + j by omega]
      exact ih i (by simpa using hf)

/-- a slice of fields that the call itself made, in blocks from B on -/
def OwnF (w : World) (B : Nat) (v : Value) (fs : List Fld) : Prop := w.ownsRow B 87 4 v fs.length (cellsF fs)

theorem OwnF.parts {w : World} {B : Nat} {v : Value} {fs : List Fld} (h : OwnF w B v fs) : (v = .slice none 0 0 ∧ fs = []) ∨ ∃ g cap, v = .slice (some ⟨g, 0, none⟩) fs.length cap ∧ B ≤ g ∧ g < w.heap.size := by
  have hlt := World.ownsRow.lt h
  rcases h.2 with ⟨rfl, h0⟩ | ⟨g, cap, cur, rfl, hb, hg, hc, _, _, ht⟩
  · exact .inl ⟨rfl, List.eq_nil_of_length_eq_zero h0⟩
  · exact .inr ⟨g, cap, rfl, hb, (hlt g rfl).2⟩
theorem OwnF.later {w w' : World} {B : Nat} {v : Value} {fs : List Fld} (h : OwnF w B v fs) (hb : ∀ k, v.ownBlock = some k → w'.heap[k]? = w.heap[k]?) : OwnF w' B v fs := by
  refine ⟨h.1, ?_⟩
  rcases h.2 with h0 | ⟨g, cap, cur, rfl, h1, h2, r⟩
  · exact .inl h0
  · exact .inr ⟨g, cap, cur, rfl, h1, (hb g rfl).trans h2, r⟩
theorem OwnF.below {w w' : World} {B : Nat} {v : Value} {fs : List Fld} (h : OwnF w B v fs) (hb : Below w.heap.size w w') : OwnF w' B v fs :=
  h.later fun k hk => hb.block k (World.ownsRow.lt h k hk).2
theorem OwnF.cell {w : World} {B g n cap : Nat} {fs : List Fld} (h : OwnF w B (.slice (some ⟨g, 0, none⟩) n cap) fs) (i j : Nat) (f : Fld) (hf : fs[i]? = some f) (hj : j < 4) : w.cell? ⟨g, i * 4 + j, none⟩ = (cellsFld f)[j]? := by
  have hc := cellsF_at fs i j f hf hj
  have hlt : j < (cellsFld f).length := hj
  rw [List.getElem?_eq_getElem hlt] at hc ⊢
  have := World.ownsRow.cells h (g := g) rfl (i * 4 + j) _ hc
  rw [← this]
  by_cases h0 : i * 4 + j = 0
  · rw [h0]; rfl
  · have e : (⟨g, 0, none⟩ : Addr).add (i * 4 + j) = ⟨g, i * 4 + j, none⟩ := by
      unfold Addr.add
      rw [if_neg h0]
      simp
    rw [e]

theorem frozenF {w : World} {B g n cap : Nat} {fs : List Fld} (h : OwnF w B (.slice (some ⟨g, 0, none⟩) n cap) fs) (j : Nat) : w.frozen? ⟨g, j, none⟩ = false := by
  rcases h.2 with ⟨h', _⟩ | ⟨g', cap', cur, h', _, hg, _⟩
  · simp at h'
  · simp at h'
    obtain ⟨rfl, _⟩ := h'
    simp [World.frozen?, hg]
theorem setF (fs0 : List Fld) (f : Fld) (j : Nat) (x : Value) : (cellsF (fs0 ++ [f])).set (fs0.length * 4 + j) x = cellsF fs0 ++ (cellsFld f).set j x := by
  rw [cellsF_append, List.set_append_right _ _ (by rw [cellsF_length]; omega), cellsF_length, show fs0.length * 4 + j - fs0.length * 4 = j by omega]
  simp [cellsF]
theorem cellsF_setv (fs : List Fld) (i : Nat) (f : Fld) (hf : fs[i]? = some f) (v : List UInt8) : (cellsF fs).set (i * 4 + 1) (.string (bs v)) = cellsF (fs.set i { f with value := v }) := by
  induction fs generalizing i with
  | nil => simp at hf
  | cons x r ih =>
    have hc : cellsF (x :: r) = cellsFld x ++ cellsF r := rfl
    have hx : (cellsFld x).length = 4 := rfl
    rw [hc]
    cases i with
    | zero =>
      obtain rfl : x = f := by simpa using hf
      rfl
    | succ i =>
      rw [List.set_append_right _ _ (by omega), hx, show (i + 1) * 4 + 1 - 4 = i * 4 + 1 by omega, ih i (by simpa using hf)]
      rfl
/-- a field's value turned -/
theorem OwnF.setv {w : World} {B g n cap : Nat} {fs : List Fld} (h : OwnF w B (.slice (some ⟨g, 0, none⟩) n cap) fs) (i : Nat) (f : Fld) (hf : fs[i]? = some f) (v : List UInt8) :
    OwnF (w.setCell ⟨g, i * 4 + 1, none⟩ (.string (bs v))) B (.slice (some ⟨g, 0, none⟩) n cap) (fs.set i { f with value := v }) := by
  obtain rfl : n = fs.length := by
    rcases h.2 with ⟨h', _⟩ | ⟨g', cap', cur, h', _⟩
    · simp at h'
    · simp at h'; exact h'.2.1
  unfold OwnF at *
  rw [List.length_set, ← cellsF_setv fs i f hf v]
  exact (World.ownsRow.stored h (i * 4 + 1) (.string (bs v))).1

/-- the last field's value and end turned -/
theorem OwnF.turn {w : World} {B g cap : Nat} {fs0 : List Fld} {f : Fld} (h : OwnF w B (.slice (some ⟨g, 0, none⟩) (fs0.length + 1) cap) (fs0 ++ [f])) (v : List UInt8) (q : Nat) :
    OwnF ((w.setCell ⟨g, fs0.length * 4 + 1, none⟩ (.string (bs v))).setCell ⟨g, fs0.length * 4 + 3, none⟩ (.int .i64 q)) B (.slice (some ⟨g, 0, none⟩) (fs0.length + 1) cap) (fs0 ++ [{ f with value := v, fin := q }]) := by
  unfold OwnF at *
  have e1 : (fs0 ++ [f]).length = fs0.length + 1 := by simp
  have e2 : (fs0 ++ [{ f with value := v, fin := q }]).length = fs0.length + 1 := by simp
  rw [e1] at h
  rw [e2]
  have h1 := (World.ownsRow.stored h (fs0.length * 4 + 1) (.string (bs v))).1
  have h2 := (World.ownsRow.stored h1 (fs0.length * 4 + 3) (.int .i64 q)).1
  rw [setF, ← show cellsF (fs0 ++ [{ f with value := v }]) = cellsF fs0 ++ (cellsFld f).set 1 (.string (bs v)) by rw [cellsF_append]; simp [cellsF, cellsFld], setF,
    ← show cellsF (fs0 ++ [{ f with value := v, fin := q }]) = cellsF fs0 ++ (cellsFld { f with value := v }).set 3 (.int .i64 q) by rw [cellsF_append]; simp [cellsF, cellsFld]] at h2
  exact h2

/-- the reader at block b: its fields' slice, whether the last one may go on, where it is -/
def RdrAt (w : World) (b : Nat) (v : Value) (op : Bool) (p : Nat) : Prop := w.heap[b]? = some (.cells #[v, .bool op, .int .i64 p] 75 (0, 0))
theorem RdrAt.lt {w : World} {b : Nat} {v : Value} {op : Bool} {p : Nat} (h : RdrAt w b v op p) : b < w.heap.size := (Array.getElem?_eq_some_iff.1 h).1
theorem RdrAt.cells {w : World} {b : Nat} {v : Value} {op : Bool} {p : Nat} (h : RdrAt w b v op p) : w.cell? ⟨b, 0, none⟩ = some v ∧ w.cell? ⟨b, 1, none⟩ = some (.bool op) ∧ w.cell? ⟨b, 2, none⟩ = some (.int .i64 p) ∧ w.frozen? ⟨b, 0, none⟩ = false ∧ w.frozen? ⟨b, 1, none⟩ = false ∧ w.frozen? ⟨b, 2, none⟩ = false := by
  unfold RdrAt at h
  refine ⟨?_, ?_, ?_, ?_, ?_, ?_⟩ <;> simp [World.cell?, World.frozen?, h]
theorem RdrAt.set0 {w : World} {b : Nat} {v : Value} {op : Bool} {p : Nat} (h : RdrAt w b v op p) (v' : Value) : RdrAt (w.setCell ⟨b, 0, none⟩ v') b v' op p := by
  unfold RdrAt at *; simp [World.setCell, Array.getElem?_modify, h]
theorem RdrAt.set1 {w : World} {b : Nat} {v : Value} {op : Bool} {p : Nat} (h : RdrAt w b v op p) (o' : Bool) : RdrAt (w.setCell ⟨b, 1, none⟩ (.bool o')) b v o' p := by
  unfold RdrAt at *; simp [World.setCell, Array.getElem?_modify, h]
theorem RdrAt.set2 {w : World} {b : Nat} {v : Value} {op : Bool} {p : Nat} (h : RdrAt w b v op p) (p' : Nat) : RdrAt (w.setCell ⟨b, 2, none⟩ (.int .i64 p')) b v op p' := by
  unfold RdrAt at *; simp [World.setCell, Array.getElem?_modify, h]
theorem RdrAt.below {w w' : World} {b : Nat} {v : Value} {op : Bool} {p : Nat} (h : RdrAt w b v op p) (hb : Below w.heap.size w w') : RdrAt w' b v op p := (hb.block b h.lt).trans h
theorem RdrAt.not_row {w : World} {b B : Nat} {v u : Value} {op : Bool} {p : Nat} {fs : List Fld} (h : RdrAt w b v op p) (ho : OwnF w B u fs) : u.ownBlock ≠ some b := by
  intro e
  rcases ho.2 with ⟨rfl, _⟩ | ⟨g, cap, cur, rfl, _, hg, _⟩
  · cases e
  · obtain rfl : g = b := by simpa [Value.ownBlock] using e
    unfold RdrAt at h
    rw [hg] at h
    simp at h

/-- of what was there only the reader at b and the row of v may have turned -/
structure Frm (b : Nat) (v : Value) (w w' : World) : Prop where
  os : w'.os = w.os
  tape : w'.tape = w.tape
  output : w'.output = w.output
  size : w.heap.size ≤ w'.heap.size
  block : ∀ k, k < w.heap.size → k ≠ b → v.ownBlock ≠ some k → w'.heap[k]? = w.heap[k]?
theorem Frm.refl (b : Nat) (v : Value) (w : World) : Frm b v w w := ⟨rfl, rfl, rfl, Nat.le_refl _, fun _ _ _ _ => rfl⟩
theorem Frm.of_below {b : Nat} {v : Value} {w w' : World} (h : Below w.heap.size w w') : Frm b v w w' := ⟨h.os, h.tape, h.output, h.size, fun k hk _ _ => h.block k hk⟩
theorem Frm.trans {b : Nat} {v v' : Value} {u w w' : World} (h : Frm b v u w) (k : Frm b v' w w') (hv : ∀ k, v'.ownBlock = some k → v.ownBlock = some k ∨ u.heap.size ≤ k) : Frm b v u w' :=
  ⟨k.os.trans h.os, k.tape.trans h.tape, k.output.trans h.output, Nat.le_trans h.size k.size, fun i hi hb hr => (k.block i (Nat.lt_of_lt_of_le hi h.size) hb (fun e => by rcases hv i e with h1 | h1; exact hr h1; omega)).trans (h.block i hi hb hr)⟩
theorem Frm.set {b : Nat} {v : Value} {w w' : World} (h : Frm b v w w') (i : Nat) (x : Value) : Frm b v w (w'.setCell ⟨b, i, none⟩ x) :=
  ⟨h.os, h.tape, h.output, by simpa [World.setCell] using h.size, fun k hk hb hr => (Below.heap_setCell _ _ _ _ (by simpa using hb)).trans (h.block k hk hb hr)⟩
theorem Frm.setRow {b g : Nat} {v : Value} {w w' : World} (h : Frm b v w w') (hg : v.ownBlock = some g) (i : Nat) (x : Value) : Frm b v w (w'.setCell ⟨g, i, none⟩ x) :=
  ⟨h.os, h.tape, h.output, by simpa [World.setCell] using h.size, fun k hk hb hr => (Below.heap_setCell _ _ _ _ (by simp; rintro rfl; exact hr hg)).trans (h.block k hk hb hr)⟩
theorem Frm.drew {b : Nat} {v : Value} {w w' : World} (h : Frm b v w w') : Frm b v w w'.drew := ⟨h.os, h.tape, h.output, h.size, h.block⟩
theorem Frm.drewN {b : Nat} {v : Value} {w w' : World} (h : Frm b v w w') (n : Nat) : Frm b v w (w'.drewN n) := ⟨h.os, h.tape, h.output, h.size, h.block⟩
theorem Frm.below {b B : Nat} {v : Value} {w w' : World} (h : Frm b v w w') (hb : B ≤ b) (hv : ∀ k, v.ownBlock = some k → B ≤ k) (hB : B ≤ w.heap.size) : Below B w w' :=
  ⟨h.os, h.tape, h.output, h.size, fun k hk => h.block k (by omega) (by omega) (fun e => by have := hv k e; omega)⟩

/-- what a line leaves -/
def LineP (b B : Nat) (v : Value) (w : World) (fs : List Fld) (op go : Bool) (q : Nat) (e : Ending) (w' : World) : Prop :=
  ∃ v', e = .returned (.bool go) ∧ RdrAt w' b v' op q ∧ OwnF w' B v' fs ∧ Frm b v w w' ∧ (∀ k, v'.ownBlock = some k → v.ownBlock = some k ∨ w.heap.size ≤ k)

theorem nameL_goes {t : List UInt8} (h : goesB t = true) : nameL t = none := by
  cases t with
  | nil => cases h
  | cons c r =>
    have hc : c = 32 ∨ c = 9 := by simpa [goesB, blankB] using h
    unfold nameL
    cases hq : cutC (c :: r) with
    | none => rfl
    | some p =>
      obtain ⟨n, s⟩ := p
      have := cutC_some hq
      simp only
      rw [if_neg]
      rintro ⟨h1, h2⟩
      cases n with
      | nil => exact h1 rfl
      | cons x n =>
        obtain ⟨rfl, _⟩ := List.cons.inj this
        simp at h2
        have h3 := h2.1
        rcases hc with rfl | rfl <;> exact absurd h3 (by decide)

end Go.Proofs.YtifjibgnjjiggaaDoor
end

/- The reference's trim, Same. -/
set_option linter.unusedVariables false
set_option linter.unusedSimpArgs false
section
namespace Go.Proofs.YtifjibgnjjiggaaDoor
open Go.RowKit

def dropL (l : List UInt8) : List UInt8 := l.dropWhile blankB
def dropR (l : List UInt8) : List UInt8 := (l.reverse.dropWhile blankB).reverse

theorem dropR_nil : dropR [] = [] := rfl
theorem dropR_snoc (l : List UInt8) (c : UInt8) : dropR (l ++ [c]) = if blankB c = true then dropR l else l ++ [c] := by
  unfold dropR
  rw [List.reverse_append, List.reverse_singleton, List.singleton_append, List.dropWhile_cons]
  by_cases h : blankB c = true
  · rw [if_pos h, if_pos h]
  · rw [if_neg h, if_neg h]; simp
theorem dropR_cons (c : UInt8) (t : List UInt8) : dropR (c :: t) = if dropR t = [] then (if blankB c = true then [] else [c]) else c :: dropR t := by
  unfold dropR
  rw [List.reverse_cons, List.dropWhile_append]
  by_cases h : (t.reverse.dropWhile blankB).isEmpty = true
  · rw [if_pos h]
    have h2 : t.reverse.dropWhile blankB = [] := by simpa using h
    rw [h2, List.reverse_nil, if_pos rfl, List.dropWhile_cons]
    by_cases hc : blankB c = true
    · rw [if_pos hc, if_pos hc]; rfl
    · rw [if_neg hc, if_neg hc]; rfl
  · rw [if_neg h]
    have h2 : (t.reverse.dropWhile blankB).reverse ≠ [] := by
      intro e
      exact h (by simpa using e)
    rw [if_neg h2]; simp
theorem drop_comm (l : List UInt8) : dropL (dropR l) = dropR (dropL l) := by
  induction l with
  | nil => rfl
  | cons c t ih =>
    have hL : dropL (c :: t) = if blankB c = true then dropL t else c :: t := by unfold dropL; rw [List.dropWhile_cons]
    rw [dropR_cons, hL]
    by_cases hc : blankB c = true
    · rw [if_pos hc, if_pos hc]
      by_cases h0 : dropR t = []
      · rw [if_pos h0, ← ih, h0]
      · rw [if_neg h0, ← ih]
        show dropL (c :: dropR t) = _
        unfold dropL; rw [List.dropWhile_cons, if_pos hc]
    · rw [if_neg hc, if_neg hc, dropR_cons, if_neg hc]
      by_cases h0 : dropR t = []
      · rw [if_pos h0]; unfold dropL; rw [List.dropWhile_cons, if_neg hc]
      · rw [if_neg h0]; unfold dropL; rw [List.dropWhile_cons, if_neg hc]
theorem trimB_eq (l : List UInt8) : trimB l = dropR (dropL l) := by
  rw [← drop_comm]
  have hf : (fun c : UInt8 => ([32, 9] : List UInt8).contains c) = blankB := by
    funext c
    by_cases h1 : c = 32 <;> by_cases h2 : c = 9 <;> simp [blankB, h1, h2]
  unfold trimB Lib.trimS Lib.trimLeftS Lib.trimRightS dropL dropR
  rw [hf]

end Go.Proofs.YtifjibgnjjiggaaDoor
end

/- envelope.address: the walk. -/
set_option linter.unusedVariables false
set_option linter.unusedSimpArgs false
section
namespace Go.Proofs.YtifjibgnjjiggaaDoor
open Go.RowKit Go

theorem trimA_any (l : List UInt8) (w : World) (hl : l.length ≤ 1099511627776) : Calls Tryd.prog 19 #[.string (bs l), .string (bs [32, 9])] w fun e w' => e = .returned (.string (bs (trimB l))) ∧ Below w.heap.size w w' :=
  Any.strings_Trim_laid Tryd.lays160 (by kernel_rfl) (bs l) (bs [32, 9]) w (by rw [bs_size]; omega) (by decide) (ascii_of_all (by decide))
theorem trimB_le (l : List UInt8) : (trimB l).length ≤ l.length := by
  rw [trimB_eq]
  unfold dropR dropL
  rw [List.length_reverse]
  refine Nat.le_trans (List.dropWhile_sublist _).length_le ?_
  rw [List.length_reverse]
  exact (List.dropWhile_sublist _).length_le

theorem upTo_cut (t : List UInt8) : upTo62 t = match cutB 62 t with | none => t | some (a, _) => a := by
  induction t with
  | nil => rfl
  | cons c t ih =>
    unfold upTo62 at ih ⊢
    unfold cutB
    rw [List.takeWhile_cons]
    by_cases h : c = 62
    · subst h; rfl
    · rw [if_pos (by simpa using h), if_neg h, ih]
      cases cutB 62 t with
      | none => rfl
      | some q => rfl
theorem cutFirst_any (t : List UInt8) (w : World) (hl : t.length ≤ 1099511627776) : Calls Tryd.prog 42 #[.string (bs t), .string (bs [62])] w fun e w' => (∃ r b, e = .returned (.tuple #[.string (bs (upTo62 t)), .string r, .bool b])) ∧ Below w.heap.size w w' := by
  cases hc : cutB 62 t with
  | none =>
    refine (cutOne_none 62 t w hc).mono ?_
    rintro e w' ⟨rfl, hb⟩
    exact ⟨⟨_, _, by rw [upTo_cut, hc]⟩, hb⟩
  | some q =>
    obtain ⟨a, r⟩ := q
    refine (cutOne_some 62 t a r w hc hl).mono ?_
    rintro e w' ⟨rfl, hb⟩
    exact ⟨⟨_, _, by rw [upTo_cut, hc]⟩, hb⟩
theorem upTo_le (t : List UInt8) : (upTo62 t).length ≤ t.length := (List.takeWhile_sublist _).length_le

def lastV (r : Option Nat) : Int := match r with | none => -1 | some i => (i : Int)
theorem lastIdx_K (l : List UInt8) : ∀ k, k ≤ l.length → Lib.lastIdx (bs l) 64 k = lastV (lastK l k)
  | 0, _ => rfl
  | k + 1, h => by
    have ih := lastIdx_K l k (by omega)
    have hx : ((bs l).data[k]!) = l.getD k 0 := by
      show (l.toArray)[k]! = _
      rw [getElem!_pos l.toArray k (by simp; omega)]
      simp [List.getD_eq_getElem?_getD, List.getElem?_eq_getElem (show k < l.length by omega)]
    rw [Lib.lastIdx, hx, lastK, ih]
    by_cases hc : l.getD k 0 = 64
    · rw [if_pos hc, if_pos (by rw [hc]; rfl)]
      rfl
    · rw [if_neg hc, if_neg]
      intro e
      exact hc (UInt8.toNat_inj.1 (by rw [show (64 : UInt8).toNat = 64 from rfl]; omega))
theorem lastAt_any (l : List UInt8) (w : World) (hl : l.length ≤ 1099511627776) : Calls Tryd.prog 43 #[.string (bs l), .int .u8 64] w fun e w' => e = .returned (.int .i64 (lastV (lastK l l.length))) ∧ w = w' :=
  (Tryd.strings_LastIndexByte (bs l) 64 (by rw [bs_size]; omega) w).mono fun _ _ ⟨h, k⟩ => ⟨by rw [h]; unfold Lib.lastIndexByte; rw [bs_size, lastIdx_K l _ (Nat.le_refl _)], k.symm⟩
theorem mailL2_last (nm p : List UInt8) : mailL2 nm p = match lastK p p.length with | none => ⟨nm, p, []⟩ | some j => ⟨nm, p.take j, p.drop (j + 1)⟩ := by
  unfold mailL2
  rw [cutAt_last]
  cases lastK p p.length with
  | none => rfl
  | some j => rfl

end Go.Proofs.YtifjibgnjjiggaaDoor
end

/- envelope.address: the walk. -/
set_option linter.unusedVariables false
set_option linter.unusedSimpArgs false
section
namespace Go.Proofs.YtifjibgnjjiggaaDoor
open Go.RowKit Go

theorem AdrAt.far {w : World} {b g : Nat} {a : Adr} (h : AdrAt w b a) (hg : b ≠ g) (i : Nat) (x : Value) : AdrAt (w.setCell ⟨g, i, none⟩ x) b a :=
  (Below.heap_setCell _ _ _ _ (by simpa using hg)).trans h
theorem adr_fin {w T : World} {g : Nat} {a : Adr} (h : AdrAt T g a) (hB : Below g w T) (r : Adr) :
    AdrAt (((T.setCell ⟨g, 0, none⟩ (.string (bs r.name))).setCell ⟨g, 1, none⟩ (.string (bs r.loc))).setCell ⟨g, 2, none⟩ (.string (bs r.dom))) g r ∧ Below g w (((T.setCell ⟨g, 0, none⟩ (.string (bs r.name))).setCell ⟨g, 1, none⟩ (.string (bs r.loc))).setCell ⟨g, 2, none⟩ (.string (bs r.dom))) :=
  ⟨((h.set0 _).set1 _).set2 _, below_cell (below_cell (below_cell hB (Nat.le_refl _) _ _) (Nat.le_refl _) _ _) (Nat.le_refl _) _ _⟩

set_option maxRecDepth 100000 in
set_option maxHeartbeats 4000000 in
theorem address_any (p : List UInt8) (w : World) (hl : p.length ≤ 100000000) : Calls Tryd.prog 20 #[.string (bs p)] w fun e w' => e = .returned (adrV (adrL p)) ∧ Below w.heap.size w w' := by
  obtain ⟨R, hR⟩ : ∃ R, adrL p = R := ⟨_, rfl⟩
  rw [hR]
  obtain ⟨i, hi⟩ : ∃ i, braS st0 p = i := ⟨_, rfl⟩
  have hlt : ∀ j, i = some j → j < p.length := fun j h => braS_lt p st0 j (by rw [hi]; exact h)
  unfold adrL at hR
  rw [hi] at hR
  have HR := Lib.hid hR
  have HI := Lib.hid hi
  have HLT := Lib.hid hlt
  clear hi hR hlt
  go_enter Tryd.func20, Tryd.ntmps20
  go_wp2_with fail
  obtain ⟨w0, hw0⟩ : ∃ w0, (w.alloc (.cells #[.string ⟨#[]⟩, .string ⟨#[]⟩, .string ⟨#[]⟩] 25)).alloc (.cells #[.string ⟨#[]⟩, .string ⟨#[]⟩, .string ⟨#[]⟩] 25) = w0 := ⟨_, rfl⟩
  have s2 : AdrAt w0 w.heap.size ⟨[], [], []⟩ := by rw [← hw0]; exact (heap_old _ _ _ (by simp)).trans (heap_new _ _)
  have s3 : AdrAt w0 (w.heap.size + 1) ⟨[], [], []⟩ := by
    rw [← hw0, ← size_alloc w (.cells #[.string ⟨#[]⟩, .string ⟨#[]⟩, .string ⟨#[]⟩] 25)]
    exact heap_new _ _
  have b0 : Below w.heap.size w w0 := by rw [← hw0]; exact ((Below.refl _ _).alloc (Nat.le_refl _) _).alloc (by simp) _
  rw [hw0]
  clear hw0
  obtain ⟨g2, hg2⟩ : ∃ g, w.heap.size = g := ⟨_, rfl⟩
  rw [hg2] at s2 s3 b0 ⊢
  obtain ⟨g3, hg3⟩ : ∃ g, g2 + 1 = g := ⟨_, rfl⟩
  rw [hg3] at s3 ⊢
  have hne : g2 ≠ g3 := by omega
  refine (bracket_any p _ (by omega)).mono ?_
  rintro e w1 ⟨rfl, hb1⟩
  rw [HI.out]
  have s2' := s2.below hb1
  have s3' := s3.below hb1
  have hzz := s2.lt
  have B1 : Below g2 w w1 := b0.trans (hb1.mono (by omega))
  clear s2 s3 b0 hb1 hzz HI
  cases i with
  | none =>
    have hR2 : mailL2 [] p = R := HR.out
    rw [mailL2_last] at hR2
    have HR2 := Lib.hid hR2
    rw [show braV none = -1 from rfl]
    obtain ⟨c0, c1, c2, f0, f1, f2⟩ := s3'.cells
    clear hR2 HR HLT
    go_wp2_with fail
    have t3 := s3'.set1 p
    have t2 := s2'.far hne 1 (.string (bs p))
    have BT := below_cell B1 (show g2 ≤ g3 by omega) 1 (.string (bs p))
    clear c0 c1 c2 f0 f1 f2 s2' s3' B1
    obtain ⟨T, hT⟩ : ∃ T, w1.setCell ⟨g3, 1, none⟩ (.string (bs p)) = T := ⟨_, rfl⟩
    rw [hT] at t2 t3 BT ⊢
    clear hT
    refine (lastAt_any p _ (by omega)).mono ?_
    rintro e w2 ⟨rfl, rfl⟩
    obtain ⟨c0, c1, c2, f0, f1, f2⟩ := t3.cells
    cases hk : lastK p p.length with
    | none =>
      have h3 := HR2.out
      rw [hk] at h3
      subst h3
      rw [show lastV none = -1 from rfl]
      obtain ⟨k0, k1, k2, e0, e1, e2⟩ := t2.cells
      clear hk HR2
      go_wp2
      obtain ⟨r2, rB⟩ := adr_fin t2 BT ⟨[], p, []⟩
      clear k0 k1 k2 e0 e1 e2
      dsimp only at r2 rB
      obtain ⟨w7, hw7⟩ : ∃ w7, ((T.setCell ⟨g2, 0, none⟩ (.string (bs []))).setCell ⟨g2, 1, none⟩ (.string (bs p))).setCell ⟨g2, 2, none⟩ (.string (bs [])) = w7 := ⟨_, rfl⟩
      rw [hw7] at r2 rB ⊢
      obtain ⟨k0, k1, k2, e0, e1, e2⟩ := r2.cells
      refine bodyPost_ret (v := adrV ⟨[], p, []⟩) (by simp [results, Tryd.results20, go_sem, k0, k1, k2, adrV]) rfl ⟨rfl, rB⟩
    | some j =>
      have h3 := HR2.out
      rw [hk] at h3
      subst h3
      rw [show lastV (some j) = (j : Int) from rfl]
      have hj := lastK_lt p _ _ hk
      have hm1 := run_to p j (by omega)
      have hm2 := run_from p (j + 1) (by omega)
      rw [show ((j + 1 : Nat) : Int) = (j : Int) + 1 by omega] at hm2
      clear hk HR2
      go_wp2
      go_region
      have u3 : AdrAt ((T.setCell ⟨g3, 1, none⟩ (.string (bs (p.take j)))).setCell ⟨g3, 2, none⟩ (.string (bs (p.drop (j + 1))))).drew g3 ⟨[], p.take j, p.drop (j + 1)⟩ := (t3.set1 (p.take j)).set2 (p.drop (j + 1))
      have u2 : AdrAt ((T.setCell ⟨g3, 1, none⟩ (.string (bs (p.take j)))).setCell ⟨g3, 2, none⟩ (.string (bs (p.drop (j + 1))))).drew g2 ⟨[], [], []⟩ := (t2.far hne 1 _).far hne 2 _
      have BU := (below_cell (below_cell BT (show g2 ≤ g3 by omega) 1 (.string (bs (p.take j)))) (show g2 ≤ g3 by omega) 2 (.string (bs (p.drop (j + 1))))).drew
      clear c0 c1 c2 f0 f1 f2 hm1 hm2 t2 t3 BT
      obtain ⟨U, hU⟩ : ∃ U, ((T.setCell ⟨g3, 1, none⟩ (.string (bs (p.take j)))).setCell ⟨g3, 2, none⟩ (.string (bs (p.drop (j + 1))))).drew = U := ⟨_, rfl⟩
      rw [hU] at u2 u3 BU ⊢
      clear hU
      obtain ⟨c0, c1, c2, f0, f1, f2⟩ := u3.cells
      obtain ⟨k0, k1, k2, e0, e1, e2⟩ := u2.cells
      go_wp2
      obtain ⟨r2, rB⟩ := adr_fin u2 BU ⟨[], p.take j, p.drop (j + 1)⟩
      clear k0 k1 k2 e0 e1 e2
      dsimp only at r2 rB
      obtain ⟨w7, hw7⟩ : ∃ w7, ((U.setCell ⟨g2, 0, none⟩ (.string (bs []))).setCell ⟨g2, 1, none⟩ (.string (bs (p.take j)))).setCell ⟨g2, 2, none⟩ (.string (bs (p.drop (j + 1)))) = w7 := ⟨_, rfl⟩
      rw [hw7] at r2 rB ⊢
      obtain ⟨k0, k1, k2, e0, e1, e2⟩ := r2.cells
      refine bodyPost_ret (v := adrV ⟨[], (p.take j), (p.drop (j + 1))⟩) (by simp [results, Tryd.results20, go_sem, k0, k1, k2, adrV]) rfl ⟨rfl, rB⟩
  | some i =>
    have hi := HLT.out i rfl
    have hR2 : mailL2 (meantL (trimB (p.take i))) (upTo62 (p.drop (i + 1))) = R := HR.out
    have hql := upTo_le (p.drop (i + 1))
    have htl := trimB_le (p.take i)
    rw [List.length_drop] at hql
    rw [List.length_take] at htl
    obtain ⟨nm, hnm⟩ : ∃ nm, meantL (trimB (p.take i)) = nm := ⟨_, rfl⟩
    obtain ⟨q, hq⟩ : ∃ q, upTo62 (p.drop (i + 1)) = q := ⟨_, rfl⟩
    rw [hnm, hq, mailL2_last] at hR2
    rw [hq] at hql
    have HR2 := Lib.hid hR2
    have HNM := Lib.hid hnm
    have HQ := Lib.hid hq
    have HTL := Lib.hid htl
    rw [show braV (some i) = (i : Int) from rfl]
    have hm1 := run_to p i (by omega)
    have hm2 := run_from p (i + 1) (by omega)
    rw [show ((i + 1 : Nat) : Int) = (i : Int) + 1 by omega] at hm2
    clear hR2 HR HLT hnm hq htl
    go_wp2_with fail
    refine (trimA_any (p.take i) _ (by rw [List.length_take]; omega)).mono ?_
    rintro e w2 ⟨rfl, hb2⟩
    go_wp2_with fail
    refine (meant_any (trimB (p.take i)) _ (by have := HTL.out; omega)).mono ?_
    rintro e w3 ⟨rfl, hb3⟩
    rw [HNM.out]
    have hb13 := hb2.trans (hb3.mono hb2.size)
    have v3 := s3'.below hb13
    have v2 := s2'.below hb13
    have B3 : Below g2 w w3 := B1.trans (hb13.mono (by have := s2'.lt; omega))
    obtain ⟨c0, c1, c2, f0, f1, f2⟩ := v3.cells
    clear s2' s3' hb2 hb3 hb13 B1
    go_wp2_with fail
    have x3 := v3.set0 nm
    have x2 := v2.far hne 0 (.string (bs nm))
    have BX := below_cell B3 (show g2 ≤ g3 by omega) 0 (.string (bs nm))
    obtain ⟨w4, hw4⟩ : ∃ w4, w3.setCell ⟨g3, 0, none⟩ (.string (bs nm)) = w4 := ⟨_, rfl⟩
    rw [hw4] at x2 x3 BX ⊢
    clear hw4 c0 c1 c2 f0 f1 f2 v2 v3 B3
    refine (cutFirst_any (p.drop (i + 1)) _ (by rw [List.length_drop]; omega)).mono ?_
    rintro e w5 ⟨⟨r', b', rfl⟩, hb5⟩
    rw [HQ.out]
    have y3 := x3.below hb5
    have y2 := x2.below hb5
    have BY : Below g2 w w5 := BX.trans (hb5.mono (by have := x2.lt; omega))
    clear x2 x3 BX hb5 hm1 hm2
    obtain ⟨c0, c1, c2, f0, f1, f2⟩ := y3.cells
    go_wp2_with fail
    have t3 := y3.set1 q
    have t2 := y2.far hne 1 (.string (bs q))
    have BT := below_cell BY (show g2 ≤ g3 by omega) 1 (.string (bs q))
    clear c0 c1 c2 f0 f1 f2 y2 y3 BY
    obtain ⟨T, hT⟩ : ∃ T, w5.setCell ⟨g3, 1, none⟩ (.string (bs q)) = T := ⟨_, rfl⟩
    rw [hT] at t2 t3 BT ⊢
    clear hT
    refine (lastAt_any q _ (by omega)).mono ?_
    rintro e w6 ⟨rfl, rfl⟩
    obtain ⟨c0, c1, c2, f0, f1, f2⟩ := t3.cells
    cases hk : lastK q q.length with
    | none =>
      have h3 := HR2.out
      rw [hk] at h3
      subst h3
      rw [show lastV none = -1 from rfl]
      obtain ⟨k0, k1, k2, e0, e1, e2⟩ := t2.cells
      clear hk HR2
      go_wp2
      obtain ⟨r2, rB⟩ := adr_fin t2 BT ⟨nm, q, []⟩
      clear k0 k1 k2 e0 e1 e2
      dsimp only at r2 rB
      obtain ⟨w7, hw7⟩ : ∃ w7, ((T.setCell ⟨g2, 0, none⟩ (.string (bs nm))).setCell ⟨g2, 1, none⟩ (.string (bs q))).setCell ⟨g2, 2, none⟩ (.string (bs [])) = w7 := ⟨_, rfl⟩
      rw [hw7] at r2 rB ⊢
      obtain ⟨k0, k1, k2, e0, e1, e2⟩ := r2.cells
      refine bodyPost_ret (v := adrV ⟨nm, q, []⟩) (by simp [results, Tryd.results20, go_sem, k0, k1, k2, adrV]) rfl ⟨rfl, rB⟩
    | some j =>
      have h3 := HR2.out
      rw [hk] at h3
      subst h3
      rw [show lastV (some j) = (j : Int) from rfl]
      have hj := lastK_lt q _ _ hk
      have hm1 := run_to q j (by omega)
      have hm2 := run_from q (j + 1) (by omega)
      rw [show ((j + 1 : Nat) : Int) = (j : Int) + 1 by omega] at hm2
      clear hk HR2
      go_wp2
      go_region
      have u3 : AdrAt ((T.setCell ⟨g3, 1, none⟩ (.string (bs (q.take j)))).setCell ⟨g3, 2, none⟩ (.string (bs (q.drop (j + 1))))).drew g3 ⟨nm, q.take j, q.drop (j + 1)⟩ := (t3.set1 (q.take j)).set2 (q.drop (j + 1))
      have u2 : AdrAt ((T.setCell ⟨g3, 1, none⟩ (.string (bs (q.take j)))).setCell ⟨g3, 2, none⟩ (.string (bs (q.drop (j + 1))))).drew g2 ⟨[], [], []⟩ := (t2.far hne 1 _).far hne 2 _
      have BU := (below_cell (below_cell BT (show g2 ≤ g3 by omega) 1 (.string (bs (q.take j)))) (show g2 ≤ g3 by omega) 2 (.string (bs (q.drop (j + 1))))).drew
      clear c0 c1 c2 f0 f1 f2 hm1 hm2 t2 t3 BT
      obtain ⟨U, hU⟩ : ∃ U, ((T.setCell ⟨g3, 1, none⟩ (.string (bs (q.take j)))).setCell ⟨g3, 2, none⟩ (.string (bs (q.drop (j + 1))))).drew = U := ⟨_, rfl⟩
      rw [hU] at u2 u3 BU ⊢
      clear hU
      obtain ⟨c0, c1, c2, f0, f1, f2⟩ := u3.cells
      obtain ⟨k0, k1, k2, e0, e1, e2⟩ := u2.cells
      go_wp2
      obtain ⟨r2, rB⟩ := adr_fin u2 BU ⟨nm, q.take j, q.drop (j + 1)⟩
      clear k0 k1 k2 e0 e1 e2
      dsimp only at r2 rB
      obtain ⟨w7, hw7⟩ : ∃ w7, ((U.setCell ⟨g2, 0, none⟩ (.string (bs nm))).setCell ⟨g2, 1, none⟩ (.string (bs (q.take j)))).setCell ⟨g2, 2, none⟩ (.string (bs (q.drop (j + 1)))) = w7 := ⟨_, rfl⟩
      rw [hw7] at r2 rB ⊢
      obtain ⟨k0, k1, k2, e0, e1, e2⟩ := r2.cells
      refine bodyPost_ret (v := adrV ⟨nm, (q.take j), (q.drop (j + 1))⟩) (by simp [results, Tryd.results20, go_sem, k0, k1, k2, adrV]) rfl ⟨rfl, rB⟩

end Go.Proofs.YtifjibgnjjiggaaDoor
end

/- envelope.Addresses: the walk. -/
set_option linter.unusedVariables false
set_option linter.unusedSimpArgs false
section
namespace Go.Proofs.YtifjibgnjjiggaaDoor
open Go.RowKit Go

theorem colL_yes {ps : List (List UInt8)} {p : List UInt8} (h : neB (trimB p) = true) (hl : (colL ps).length < 50) : colL (ps ++ [p]) = colL ps ++ [adrL (trimB p)] := by rw [colL_snoc, if_pos ⟨h, hl⟩]
theorem colL_no {ps : List (List UInt8)} {p : List UInt8} (h : ¬ (neB (trimB p) = true ∧ (colL ps).length < 50)) : colL (ps ++ [p]) = colL ps := by rw [colL_snoc, if_neg h]
theorem colL_le (ps : List (List UInt8)) : (colL ps).length ≤ 50 := by
  unfold colL
  simp
  omega
theorem OwnA.grow {B : Nat} {u w w' : World} {v : Value} {l : List Adr} {o : Obj} (hb : Below B u w) (h : OwnA w B v l) (hg : (w.alloc o).grownBy w' v.ownBlock) (hB : B ≤ w.heap.size) : Below B u w' :=
  (hb.alloc hB o).grown hg (by simp; omega) (fun k e => (World.ownsRow.lt h k e).1)
theorem OwnA.form {w : World} {B : Nat} {v : Value} {l : List Adr} (h : OwnA w B v l) : ∃ a cap, v = .slice a l.length cap := by
  rcases h.parts with ⟨rfl, rfl⟩ | ⟨g, cap, rfl, _⟩
  · exact ⟨_, _, rfl⟩
  · exact ⟨_, _, rfl⟩
theorem adr_news (w : World) (a : Adr) : ∀ j u, (cellsAdr a)[j]? = some u → (w.alloc (.cells #[.string (bs a.name), .string (bs a.loc), .string (bs a.dom)] 25)).cell? ((⟨w.heap.size, 0, none⟩ : Addr).add j) = some u := by
  intro j u hj
  match j, hj with
  | 0, hj => simp [cellsAdr] at hj; subst hj; simp [Addr.add]
  | 1, hj => simp [cellsAdr] at hj; subst hj; simp [Addr.add]
  | 2, hj => simp [cellsAdr] at hj; subst hj; simp [Addr.add]
  | n + 3, hj => simp [cellsAdr] at hj
theorem adr_one (a : Adr) : ∀ u ∈ cellsAdr a, u.oneCell' = true := by
  intro u hu
  simp [cellsAdr] at hu
  rcases hu with rfl | rfl | rfl <;> rfl

set_option maxRecDepth 100000 in
set_option maxHeartbeats 4000000 in
theorem addresses_any (v : List UInt8) (w : World) (hl : v.length ≤ 10000000) : Calls Tryd.prog 10 #[.string (bs v)] w fun e w' => (∃ x, e = .returned x ∧ OwnA w' w.heap.size x (adrsL v)) ∧ Below w.heap.size w w' := by
  obtain ⟨i0, hi0, hz0, hz1, hz2⟩ := info_parts info_adr
  obtain ⟨hp1, hp2⟩ := piecesS_len v st0 []
  rw [adrsL_col]
  have e0 : piecesS st0 [] v = piecesL v := rfl
  rw [e0] at hp1 hp2
  obtain ⟨ls, hls⟩ : ∃ ls, piecesL v = ls := ⟨_, rfl⟩
  rw [hls] at hp1 hp2 ⊢
  have HLS := Lib.hid hls
  have HP2 := Lib.hid hp2
  clear hls hp2 e0
  go_enter Tryd.func10, Tryd.ntmps10
  go_wp2_with fail
  refine (pieces_any v _ (by omega)).mono ?_
  rintro e w1 ⟨pv, rfl, hpv, hb1⟩
  rw [HLS.out] at hpv
  have hst := hpv.strs
  obtain ⟨B, hB0⟩ : ∃ B, w.heap.size = B := ⟨_, rfl⟩
  have hz := hb1.size
  rw [hB0] at hb1 hz
  rcases hst with ⟨rfl, rfl⟩ | ⟨g, o, c, rfl, hlc, hg, hc⟩
  · go_wp2
    go_loopw [3, 9] (fun out i wr => out = .slice none 0 0 ∧ i = .int .i64 0 ∧ wr = w1) (fun _ _ _ => 0)
    case atStart => exact ⟨rfl, rfl, rfl⟩
    case round =>
      obtain ⟨rfl, rfl, rfl⟩ := hrel
      go_wp2
      go_ret
      exact ⟨⟨_, rfl, World.ownsRow_nil _ _ _ _⟩, by rw [hB0]; exact hb1⟩
  · have HC := Lib.hid hc
    clear hc hpv
    go_wp2
    go_loopw [3, 9] (fun out i wr => ∃ (k : Nat), k ≤ ls.length ∧ i = .int .i64 k ∧ OwnA wr w1.heap.size out (colL (ls.take k)) ∧ Below w1.heap.size w1 wr) (fun _ i _ => ls.length - (intOf i).toNat)
    case atStart => exact ⟨0, Nat.zero_le _, rfl, World.ownsRow_nil _ _ _ _, Below.refl _ _⟩
    case round =>
      obtain ⟨k, hk, rfl, hown, hBr⟩ := hrel
      have hzr := hBr.size
      by_cases hlt : k < ls.length
      · obtain ⟨x, hx⟩ : ∃ x, ls[k]? = some x := ⟨_, List.getElem?_eq_getElem hlt⟩
        have hxl := HP2.out x (List.mem_of_getElem? hx)
        simp only [List.length_nil, Nat.zero_add] at hxl
        have hxd : ls.getD k [] = x := by simp [List.getD, hx]
        have cx : wr.cell? ⟨g, o + k, none⟩ = some (.string (bs x)) := by
          rw [← hxd]
          exact (hBr.cell (p := ⟨g, o + k, none⟩) hg).trans (HC.out k hlt)
        have htk : ls.take (k + 1) = ls.take k ++ [x] := by rw [List.take_add_one, hx]; rfl
        have HTK := Lib.hid htk
        have htl := trimB_le x
        have hcl := colL_le (ls.take k)
        have hlt' : (k : Int) < ls.length := by omega
        clear hx hxd htk
        go_wp2_with fail
        refine (trimA_any x _ (by omega)).mono ?_
        rintro e w2 ⟨rfl, hb2⟩
        have hown2 := hown.below hb2
        have hB2 := hBr.trans (hb2.mono hzr)
        obtain ⟨L, hL⟩ : ∃ L, colL (ls.take k) = L := ⟨_, rfl⟩
        rw [hL] at hown2 hcl
        have HL := Lib.hid hL
        obtain ⟨oa, oc, rfl⟩ := hown2.form
        have hzw : w1.heap.size ≤ w2.heap.size := hB2.size
        clear hL hown hBr hb2 cx
        rcases hy : trimB x with _ | ⟨c0, t⟩
        · have hno : colL (ls.take (k + 1)) = L := by
            rw [HTK.out, colL_no (by rw [hy]; simp [neB]), HL.out]
          clear hy htl
          go_wp2
          go_roundw
          case rel => exact ⟨k + 1, by omega, by go_num, by rw [hno]; exact hown2, hB2⟩
          case measure => simp [intOf]; omega
        · by_cases h50 : L.length < 50
          · have hye : colL (ls.take (k + 1)) = L ++ [adrL (c0 :: t)] := by
              rw [HTK.out, colL_yes (by rw [hy]; rfl) (by rw [HL.out]; exact h50), HL.out, hy]
            rw [hy] at htl
            have h50' : (L.length : Int) < 50 := by omega
            have HYE := Lib.hid hye
            clear hy hye
            go_wp2_with fail
            refine (address_any (c0 :: t) _ (by omega)).mono ?_
            rintro e w3 ⟨rfl, hb3⟩
            obtain ⟨A, hA⟩ : ∃ A, adrL (c0 :: t) = A := ⟨_, rfl⟩
            rw [hA]
            have HYE2 := HYE.out
            rw [hA] at HYE2
            have HY := Lib.hid HYE2
            have hown3 := hown2.below hb3
            have hB3 := hB2.trans (hb3.mono hzw)
            have hzx := hB3.size
            have hnews := adr_news w3 A
            have hone := adr_one A
            clear hA HYE HYE2 hown2 hB2 hb3
            unfold adrV
            go_wp2_with (at_builtin; refine wpList_append_own _ rfl _ _ 22 rfl w1.heap.size 25 i0 _ 3 48 Tryd.underlying22 hi0 hz0 hz1 hz2 rfl (by decide) _ _ _ rfl (World.ownsRow.alloc hown3 _) ⟨w3.heap.size, 0, none⟩ 1 1 (cellsAdr A) rfl rfl hnews hone ?c3 ?c4 ?c5 ?_)
            case c3 => unfold maxLen; omega
            case c4 => omega
            case c5 => simp; omega
            intro v' w4 hown4 hgrow _
            have R1 : OwnA w4 w1.heap.size v' (L ++ [A]) := OwnA.step hown4
            have R2 : Below w1.heap.size w1 w4 := OwnA.grow hB3 hown3 hgrow hzx
            clear hown4 hgrow hown3 hnews hone
            go_wp2
            go_roundw
            case rel => exact ⟨k + 1, by omega, by go_num, by rw [HY.out]; exact R1, R2⟩
            case measure => simp [intOf]; omega
          · have hno : colL (ls.take (k + 1)) = L := by
              rw [HTK.out, colL_no (by rw [HL.out]; omega), HL.out]
            have h50' : ¬ (L.length : Int) < 50 := by omega
            clear hy htl
            go_wp2
            go_roundw
            case rel => exact ⟨k + 1, by omega, by go_num, by rw [hno]; exact hown2, hB2⟩
            case measure => simp [intOf]; omega
      · obtain rfl : k = ls.length := by omega
        rw [List.take_length] at hown
        go_wp2
        go_ret
        exact ⟨⟨_, rfl, by rw [hB0]; exact hown.base hz⟩, by rw [hB0]; exact hb1.trans (hBr.mono hz)⟩

end Go.Proofs.YtifjibgnjjiggaaDoor
end

/- How IMAP quotes a text (plain): which runes are printed, one byte replaced. -/
set_option linter.unusedVariables false
set_option linter.unusedSimpArgs false
section
namespace Go.Proofs.YtifjibgnjjiggaaDoor
open Go

/-- a rune that is not printed -/
def oddR (r : Nat) : Bool := decide ((r : Int) < 32) || decide (126 < (r : Int))
theorem odd_byte (c : UInt8) : oddR c.toNat = !printB c := by
  unfold oddR printB
  rw [Bool.eq_iff_iff]
  simp
  omega
theorem decodeN_odd (n b0 b1 b2 b3 : Nat) : (b0 < 128 ∧ Lib.decodeN n b0 b1 b2 b3 = (b0, 1)) ∨ (128 ≤ b0 ∧ 128 ≤ (Lib.decodeN n b0 b1 b2 b3).1) := by
  obtain ⟨D, hD⟩ : ∃ D, Lib.decodeN n b0 b1 b2 b3 = D := ⟨_, rfl⟩
  rw [hD]
  subst hD
  unfold Lib.decodeN
  repeat' split
  all_goals first
    | exact .inl ⟨by assumption, rfl⟩
    | (right; simp only; omega)
theorem get_byte (l : List UInt8) (i : Nat) (c : UInt8) (h : l[i]? = some c) : (bs l).get! i = c := by
  obtain ⟨hlt, hc⟩ := List.getElem?_eq_some_iff.1 h
  show (l.toArray)[i]! = c
  rw [getElem!_pos l.toArray i (by simpa using hlt)]
  simpa using hc
theorem idx_odd (l : List UInt8) : ∀ (f pos : Nat), pos ≤ l.length → l.length ≤ pos + f → (decide (0 ≤ Lib.idxFuncFrom oddR true (bs l) f pos)) = !((l.drop pos).all printB)
  | 0, pos, h1, h2 => by
    have : pos = l.length := by omega
    rw [this, List.drop_length]
    rfl
  | f + 1, pos, h1, h2 => by
    by_cases hlt : pos < l.length
    · obtain ⟨c, hc⟩ : ∃ c, l[pos]? = some c := ⟨_, List.getElem?_eq_getElem hlt⟩
      have hd : l.drop pos = c :: l.drop (pos + 1) := by
        rw [List.drop_eq_getElem_cons hlt, (List.getElem?_eq_some_iff.1 hc).2]
      rw [hd, List.all_cons]
      unfold Lib.idxFuncFrom
      rw [if_pos (by rw [bs_size]; exact hlt), Lib.decode_at, get_byte l pos c hc]
      rcases decodeN_odd ((bs l).size - pos) c.toNat ((bs l).get! (pos + 1)).toNat ((bs l).get! (pos + 2)).toNat ((bs l).get! (pos + 3)).toNat with ⟨h3, h4⟩ | ⟨h3, h4⟩
      · rw [h4]
        simp only
        rw [odd_byte]
        cases hp : printB c with
        | true =>
          simp only [Bool.not_true, Bool.false_eq_true, if_false, Bool.true_and]
          exact idx_odd l f (pos + 1) (by omega) (by omega)
        | false =>
          simp only [Bool.not_false, if_true, Bool.false_and]
          simp
      · have ho : oddR (Lib.decodeN ((bs l).size - pos) c.toNat ((bs l).get! (pos + 1)).toNat ((bs l).get! (pos + 2)).toNat ((bs l).get! (pos + 3)).toNat).1 = true := by
          unfold oddR
          rw [Bool.or_eq_true, decide_eq_true_eq, decide_eq_true_eq]
          right; omega
        have hp : printB c = false := by
          unfold printB
          rw [Bool.and_eq_false_iff]
          right
          simp; omega
        rw [if_pos ho, hp]
        simp
    · have : pos = l.length := by omega
      rw [Lib.idxFuncFrom_end _ _ _ _ _ (by rw [bs_size]; exact hlt), this, List.drop_length]
      rfl
theorem idx_print (l : List UInt8) : decide (0 ≤ Lib.idxFunc oddR true (bs l)) = !(l.all printB) := by
  have := idx_odd l l.length 0 (by omega) (by omega)
  rw [List.drop_zero] at this
  unfold Lib.idxFunc
  rw [bs_size]
  exact this

/-- one byte replaced by a text -/
def repB (c : UInt8) (new : List UInt8) (l : List UInt8) : List UInt8 := l.flatMap fun b => if b = c then new else [b]
theorem index_nil (c : UInt8) : Lib.index [] [c] = -1 := rfl
theorem replaceK_ne (c b : UInt8) (new : List UInt8) (h : b ≠ c) : ∀ (k : Nat) (l : List UInt8), Lib.replaceK [c] new k (b :: l) = b :: Lib.replaceK [c] new k l
  | 0, l => rfl
  | k + 1, l => by
    have hp : ([c] : List UInt8).isPrefixOf (b :: l) = false := by simp [List.isPrefixOf, Ne.symm h]
    have hix : Lib.index (b :: l) [c] = if Lib.index l [c] == -1 then -1 else Lib.index l [c] + 1 := by rw [Lib.index, hp]; simp
    have hge := Lib.index_ge l [c]
    rw [Lib.replaceK, Lib.replaceK, hix]
    by_cases hm : Lib.index l [c] = -1
    · rw [hm]; simp
    · obtain ⟨i, hi⟩ : ∃ i : Nat, Lib.index l [c] = i := ⟨(Lib.index l [c]).toNat, by omega⟩
      rw [hi]
      have e1 : ((i : Int) == -1) = false := by rw [beq_eq_false_iff_ne]; omega
      have e2 : ((i : Int) + 1 == -1) = false := by rw [beq_eq_false_iff_ne]; omega
      rw [e1]
      simp only [Bool.false_eq_true, if_false]
      rw [e2]
      simp only [Bool.false_eq_true, if_false]
      rw [show ((i : Int) + 1).toNat = i + 1 by omega, show ((i : Int)).toNat = i by omega]
      simp only [List.take_succ_cons, List.cons_append, List.length_singleton, List.drop_succ_cons]
theorem replace_one (c : UInt8) (new : List UInt8) : ∀ l : List UInt8, Lib.replaceK [c] new (Lib.count l [c]) l = repB c new l
  | [] => by
    rw [Lib.count_one]
    rfl
  | b :: l => by
    have ih := replace_one c new l
    unfold repB at ih ⊢
    rw [List.flatMap_cons]
    by_cases h : b = c
    · subst h
      rw [Lib.count_cons_eq, if_pos rfl, show 1 + Lib.count l [b] = Lib.count l [b] + 1 by omega]
      have hix : Lib.index (b :: l) [b] = ((0 : Nat) : Int) := by rw [Lib.index]; simp [List.isPrefixOf]
      rw [Lib.replaceK_hit [b] new _ _ 0 hix]
      simp only [List.take_zero, List.nil_append, Nat.zero_add, List.length_singleton, List.drop_succ_cons, List.drop_zero]
      rw [ih]
    · rw [Lib.count_cons_ne b c l h, replaceK_ne c b new h, ih, if_neg h]
      rfl
theorem replaceAll_one (c : UInt8) (new l : List UInt8) (h : ¬ ([c] : List UInt8) == new) : Lib.replaceAll l [c] new = repB c new l := by
  unfold Lib.replaceAll Lib.replace Lib.replaceNum
  rw [if_neg h, if_pos (by omega)]
  exact replace_one c new l
theorem escL_eq (l : List UInt8) : repB 34 [92, 34] (repB 92 [92, 92] l) = escL l := by
  unfold repB escL
  induction l with
  | nil => rfl
  | cons c r ih =>
    rw [List.flatMap_cons, List.flatMap_append, ih, List.flatMap_cons]
    congr 1
    by_cases h1 : c = 92
    · subst h1; rfl
    · by_cases h2 : c = 34
      · subst h2; rfl
      · rw [if_neg h1]
        simp [h1, h2]
theorem repB_len (c : UInt8) (new : List UInt8) (h : new.length ≤ 2) : ∀ l : List UInt8, (repB c new l).length ≤ 2 * l.length
  | [] => by simp [repB]
  | b :: l => by
    have ih := repB_len c new h l
    unfold repB at ih ⊢
    rw [List.flatMap_cons, List.length_append, List.length_cons]
    split
    · omega
    · simp only [List.length_cons, List.length_nil]; omega

end Go.Proofs.YtifjibgnjjiggaaDoor
end

/- mime.Quote: the walk. -/
set_option linter.unusedVariables false
set_option linter.unusedSimpArgs false
section
namespace Go.Proofs.YtifjibgnjjiggaaDoor
open Go.RowKit Go

theorem odd_pred (x : Nat) (w : World) : Calls Tryd.prog 29 #[.int .i32 x] w fun e w' => e = .returned (.bool (oddR x)) ∧ Below w.heap.size w w' := by
  unfold oddR
  by_cases h1 : (x : Int) < 32
  · have e1 : decide ((x : Int) < 32) = true := by simpa using h1
    rw [e1, Bool.true_or]
    clear e1
    go_enter Tryd.func29, Tryd.ntmps29
    go_wp2
    go_ret
    exact ⟨rfl, Below.refl _ _⟩
  · have e1 : decide ((x : Int) < 32) = false := by simpa using h1
    rw [e1, Bool.false_or]
    clear e1
    by_cases h2 : 126 < (x : Int)
    · have e2 : decide (126 < (x : Int)) = true := by simpa using h2
      rw [e2]
      clear e2
      go_enter Tryd.func29, Tryd.ntmps29
      go_wp2
      go_ret
      exact ⟨rfl, Below.refl _ _⟩
    · have e2 : decide (126 < (x : Int)) = false := by simpa using h2
      rw [e2]
      clear e2
      go_enter Tryd.func29, Tryd.ntmps29
      go_wp2
      go_ret
      exact ⟨rfl, Below.refl _ _⟩

theorem idxf_any (s : List UInt8) (w : World) : Calls Tryd.prog 28 #[.string (bs s), .func (.func 29) #[] #[]] w fun e w' => e = .returned (.int .i64 (Lib.idxFunc oddR true (bs s))) ∧ Below w.heap.size w w' :=
  Tryd.strings_IndexFunc_grows 29 #[] (enters_of Tryd.func29 (by kernel_rfl) rfl) oddR (bs s) w (fun W x _ _ => odd_pred x W)

theorem count_one_le (c : UInt8) : ∀ l : List UInt8, Lib.count l [c] ≤ l.length
  | [] => by rw [Lib.count_one]; simp
  | b :: l => by
    have ih := count_one_le c l
    by_cases h : b = c
    · subst h
      rw [Lib.count_cons_eq]; simp; omega
    · rw [Lib.count_cons_ne b c l h]; simp; omega

theorem repl_any (c : UInt8) (new l : List UInt8) (m : Int) (w : World) (hn : new.length = 2) (hl : l.length ≤ 2000000000) (hm : w.cell? ⟨1, 0, none⟩ = some (.int .i64 m)) :
    Calls Tryd.prog 31 #[.string (bs l), .string (bs [c]), .string (bs new)] w fun e w' => e = .returned (.string (bs (repB c new l))) ∧ Below w.heap.size w w' := by
  have hc := count_one_le c l
  refine (Tryd.strings_ReplaceAll (bs l) (bs [c]) (bs new) m w (by rw [bs_size]; omega) hm (by rw [bs_size]; simp) ?_).mono ?_
  · have : Lib.countB (bs l) (bs [c]) = Lib.count l [c] := rfl
    rw [this, bs_size, bs_size, hn]
    omega
  · rintro e w' ⟨rfl, hb⟩
    refine ⟨?_, hb⟩
    have e1 := replaceAll_one c new l (by intro h; have := congrArg List.length (eq_of_beq h); simp [hn] at this)
    rw [← e1]

end Go.Proofs.YtifjibgnjjiggaaDoor
end

/- mime.Quote: the walk. -/
set_option linter.unusedVariables false
set_option linter.unusedSimpArgs false
section
namespace Go.Proofs.YtifjibgnjjiggaaDoor
open Go.RowKit Go Go.Sort

def TabQ (w : World) : Prop := Lib.TabIs Tryd.prog w "internal/strconv.uint64pow10" .u64 Lib.pow10Tab
theorem tabQNamed : Tryd.prog.globalNamed "internal/strconv.uint64pow10" = some 4 := by kernel_rfl
theorem TabQ.lt {w : World} (h : TabQ w) : 4 < w.heap.size := cell_lt (Lib.TabIs.cell h tabQNamed 0 (by decide))
theorem TabQ.below {w w' : World} (h : TabQ w) (hb : Below w.heap.size w w') : TabQ w' := var?_below hb tabQNamed h.lt h
theorem decq_length : ∀ (f u : Nat), u < 10 ^ f → 0 < f → (Lib.decDigits u).length ≤ f
  | 0, _, _, h => absurd h (by omega)
  | f + 1, u, h, _ => by
    rw [Lib.decDigits.eq_1]
    split
    · simp
    · rename_i h10
      have hf : 0 < f := by
        rcases Nat.eq_zero_or_pos f with rfl | h0
        · simp at h; omega
        · exact h0
      have := decq_length f (u / 10) (by rw [Nat.pow_succ] at h; omega) hf
      simp
      omega

theorem itoaQ_any (n : Nat) (w : World) (hn : n ≤ 9223372036854775807) (hT : TabQ w) : Calls Tryd.prog 30 #[.int .i64 n] w fun e w' => e = .returned (.string (bs (Lib.decDigits n))) ∧ Below w.heap.size w w' := by
  refine (Tryd.strconv_Itoa n (by omega) (by omega) w hT).mono ?_
  rintro e w' ⟨rfl, k, os, rfl⟩
  have e1 : Lib.itoa n = Lib.decDigits n := by
    unfold Lib.itoa
    rw [if_neg (by omega)]
    simp
  exact ⟨by rw [e1], Lib.below_grow _ _ (Nat.le_refl _) _ _⟩

set_option maxRecDepth 100000 in
set_option maxHeartbeats 2000000 in
theorem quote_any (s : List UInt8) (m : Int) (w : World) (hl : s.length ≤ 1000000000) (hm : w.cell? ⟨1, 0, none⟩ = some (.int .i64 m)) (hT : TabQ w) :
    Calls Tryd.prog 15 #[.string (bs s)] w fun e w' => e = .returned (.string (bs (qtL s))) ∧ Below w.heap.size w w' := by
  have hp := idx_print s
  obtain ⟨ix, hix⟩ : ∃ ix, Lib.idxFunc oddR true (bs s) = ix := ⟨_, rfl⟩
  rw [hix] at hp
  have HIX := Lib.hid hix
  have HM := Lib.hid hm
  have HT := Lib.hid hT
  have hlt := cell_lt hm
  clear hix hm hT
  cases ha : s.all printB with
  | false =>
    have e : qtL s = 123 :: (Lib.decDigits s.length ++ ([125, 13, 10] ++ s)) := by
      unfold qtL
      rw [ha]
      rfl
    rw [e]
    rw [ha] at hp
    have hge : 0 ≤ ix := of_decide_eq_true hp
    clear e ha hp
    have hdl := decq_length 10 s.length (by omega) (by omega)
    go_enter Tryd.func15, Tryd.ntmps15
    go_wp2_with fail
    refine (idxf_any s _).mono ?_
    rintro e w1 ⟨rfl, hb1⟩
    rw [HIX.out]
    go_wp2_with fail
    refine (itoaQ_any s.length _ (by omega) (TabQ.below HT.out hb1)).mono ?_
    rintro e w2 ⟨rfl, hb2⟩
    go_wp2
    go_ret
    exact ⟨by rw [show (⟨#[123]⟩ : ByteArray) = bs [123] from rfl, show (⟨#[125, 13, 10]⟩ : ByteArray) = bs [125, 13, 10] from rfl, bs_append, bs_append, bs_append]; simp, hb1.trans (hb2.mono hb1.size)⟩
  | true =>
    have e : qtL s = 34 :: (escL s ++ [34]) := by
      unfold qtL
      rw [if_pos ha]
    rw [e]
    rw [ha] at hp
    have hge : ¬ 0 ≤ ix := of_decide_eq_false hp
    have hr1 := repB_len 92 [92, 92] (by decide) s
    have he := escL_eq s
    obtain ⟨t, ht⟩ : ∃ t, repB 92 [92, 92] s = t := ⟨_, rfl⟩
    rw [ht] at hr1 he
    have HT2 := Lib.hid ht
    have HE := Lib.hid he
    clear e ha hp he ht
    have hel := escL_len s
    go_enter Tryd.func15, Tryd.ntmps15
    go_wp2_with fail
    refine (idxf_any s _).mono ?_
    rintro e w1 ⟨rfl, hb1⟩
    rw [HIX.out]
    go_wp2_with fail
    refine (repl_any 92 [92, 92] s m _ rfl (by omega) ((hb1.cell (p := ⟨1, 0, none⟩) hlt).trans HM.out)).mono ?_
    rintro e w2 ⟨rfl, hb2⟩
    rw [HT2.out]
    have hb12 := hb1.trans (hb2.mono hb1.size)
    go_wp2_with fail
    refine (repl_any 34 [92, 34] t m _ rfl (by omega) ((hb12.cell (p := ⟨1, 0, none⟩) hlt).trans HM.out)).mono ?_
    rintro e w3 ⟨rfl, hb3⟩
    rw [HE.out]
    go_wp2
    go_ret
    exact ⟨by rw [show (⟨#[34]⟩ : ByteArray) = bs [34] from rfl, bs_append, bs_append]; simp, hb12.trans (hb3.mono hb12.size)⟩

end Go.Proofs.YtifjibgnjjiggaaDoor
end

/- The document's Digits. -/
set_option linter.unusedVariables false
set_option linter.unusedSimpArgs false
section
namespace Go.Proofs.YtifjibgnjjiggaaDoor
open Go.RowKit Go

theorem oneByte (w : World) (c : UInt8) : (convert 34 9 (.slice (some ⟨w.heap.size, 0, none⟩) 1 1)).run Tryd.prog (w.alloc (.cells #[.int .u8 ((c.toNat : Nat) : Int)] 5)) = .ok (.string (bs [c])) (w.alloc (.cells #[.int .u8 ((c.toNat : Nat) : Int)] 5)) := by
  have h : OwnB (w.alloc (.cells #[.int .u8 ((c.toNat : Nat) : Int)] 5)) 0 (.slice (some ⟨w.heap.size, 0, none⟩) 1 1) [c] := World.ownsRow_lit (base := 0) (e := 5) (size := 1) w #[.int .u8 ((c.toNat : Nat) : Int)] 1 (Nat.zero_le _) (by unfold maxLen; omega) rfl
  exact convert_bytes h.bytes

set_option maxRecDepth 100000 in
set_option maxHeartbeats 2000000 in
theorem refDigits10_any (n : Nat) (w : World) (hn : n ≤ 1000000000) : Calls Tryd.prog 26 #[.int .i64 n] w fun e w' => e = .returned (.string (bs (Lib.decDigits n))) ∧ Below w.heap.size w w' := by
  have hdl := decq_length 10 n (by omega) (by omega)
  obtain ⟨Z, hZ⟩ : ∃ Z, Lib.decDigits n = Z := ⟨_, rfl⟩
  rw [hZ] at hdl ⊢
  have HZ := Lib.hid hZ
  clear hZ
  go_enter Tryd.func26, Tryd.ntmps26
  go_wp2
  go_loopw [0, 3] (fun v0 v3 wr => ∃ (k : Nat) (L : List UInt8), k ≤ n ∧ v0 = .int .i64 k ∧ v3 = .string (bs L) ∧ Hid (Lib.decDigits k ++ L = Z) ∧ L.length ≤ 10 ∧ Below w.heap.size w wr) (fun v0 _ _ => (intOf v0).toNat)
  case atStart => exact ⟨n, [], Nat.le_refl _, rfl, rfl, by show _ = _; rw [HZ.out, List.append_nil], by simp, Below.refl _ _⟩
  case round =>
    obtain ⟨k, L, hk, rfl, rfl, hd, hL, hB⟩ := hrel
    have hzr := hB.size
    have hlen : (Lib.decDigits k).length + L.length ≤ 10 := by rw [← List.length_append, hd.out]; exact hdl
    by_cases h9 : 9 < k
    · have h1 := hd.out
      rw [Lib.decDigits.eq_1, dif_neg (by omega)] at h1
      have hl2 := hlen
      rw [Lib.decDigits.eq_1, dif_neg (by omega)] at hl2
      simp only [List.length_append, List.length_cons, List.length_nil] at hl2
      have e9 : (48 : Int) + (k : Int) % 10 = ((48 + k % 10 : Nat) : Int) := by omega
      have hin : ((48 + k % 10 : Nat) : Int) = (((UInt8.ofNat (48 + k % 10)).toNat : Nat) : Int) := by
        rw [UInt8.toNat_ofNat']; omega
      obtain ⟨d, hdd⟩ : ∃ d, UInt8.ofNat (48 + k % 10) = d := ⟨_, rfl⟩
      rw [hdd] at hin h1
      have hcv := oneByte wr d
      have h9' : (9 : Int) < k := by omega
      have H1 : Hid (Lib.decDigits (k / 10) ++ (d :: L) = Z) := by
        show _ = _
        rw [← h1]; simp
      clear hd h1 hdd hlen
      go_wp2
      go_roundw
      case rel => exact ⟨k / 10, d :: L, by omega, by go_num, by rw [bs_append]; rfl, H1, by simp; omega, hB.alloc hzr _⟩
      case measure => simp [intOf]; omega
    · have h1 := hd.out
      rw [Lib.decDigits.eq_1, dif_pos (by omega)] at h1
      have e9 : (48 : Int) + (k : Int) = ((48 + k : Nat) : Int) := by omega
      have hin : ((48 + k : Nat) : Int) = (((UInt8.ofNat (48 + k)).toNat : Nat) : Int) := by
        rw [UInt8.toNat_ofNat']; omega
      obtain ⟨d, hdd⟩ : ∃ d, UInt8.ofNat (48 + k) = d := ⟨_, rfl⟩
      rw [hdd] at hin h1
      have hcv := oneByte wr d
      have h9' : ¬ (9 : Int) < k := by omega
      subst h1
      clear hd hdd hlen hdl
      go_wp2
      go_ret
      exact ⟨by rw [bs_append]; rfl, hB.alloc hzr _⟩

end Go.Proofs.YtifjibgnjjiggaaDoor
end
