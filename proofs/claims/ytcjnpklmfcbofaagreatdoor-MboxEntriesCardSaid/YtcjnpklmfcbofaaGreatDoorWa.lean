/- Texts of one walk, merged: XT XS XM1 XLm XLp XQm XM2 XM3 XM4. -/
import Derived.WalkKit
import Derived.WalkLawsBesides
import Derived.WalkSpells
import Derived.Lib.Hide
import Derived.Deep.QuietTactic
import Derived.BigQuiet
import Derived.Test.YtcjnpklmfcbofaaGreatDoorProg
import Derived.Laws.BytesArg
import Derived.Laws.AppendOwn
import Derived.Laws.OwnMore
import Derived.Deep.AppendLies
import Derived.Deep.RegionLaw
import Derived.BigRegion
import Derived.Deep.DeepFit
import Derived.Lib.IndexBytes
import Derived.Lib.Strings

/- Small tools of the walks: worlds that grow, cells that stay. -/
set_option linter.unusedVariables false
set_option linter.unusedSimpArgs false
section
set_option linter.unusedVariables false
set_option linter.unusedSimpArgs false
namespace Go.Proofs.YtcjnpklmfcbofaaGreatDoor
open Go.RowKit

theorem ret_int {k : IntKind} {a b : Int} (h : a = b) : Ending.returned (.int k a) = .returned (.int k b) := by rw [h]

theorem cell_lt {w : World} {p : Addr} {v : Value} (h : w.cell? p = some v) : p.block < w.heap.size := by
  rcases Nat.lt_or_ge p.block w.heap.size with h1 | h1
  · exact h1
  · simp [World.cell?, Array.getElem?_eq_none h1] at h

theorem cell_alloc {w : World} {p : Addr} {v : Value} (h : w.cell? p = some v) (o : Obj) : (w.alloc o).cell? p = some v := by
  rw [((Below.refl _ w).alloc (Nat.le_refl _) o).cell (cell_lt h)]; exact h

theorem below_drewN {B : Nat} {a w : World} (h : Below B a w) (n : Nat) : Below B a (w.drewN n) := ⟨h.os, h.tape, h.output, h.size, h.block⟩

/-- behind a callee that made memory: all old cells and marks read as before -/
theorem bcell {W w1 : World} (hb : Below W.heap.size W w1) : (∀ b o, b < W.heap.size → w1.cell? ⟨b, o, none⟩ = W.cell? ⟨b, o, none⟩) ∧ (∀ b o, b < W.heap.size → w1.frozen? ⟨b, o, none⟩ = W.frozen? ⟨b, o, none⟩) :=
  ⟨fun b o h => hb.cell (p := ⟨b, o, none⟩) h, fun b o h => hb.frozen (p := ⟨b, o, none⟩) h⟩

theorem heap_new (w : World) (o : Obj) : (w.alloc o).heap[w.heap.size]? = some o := by
  show (w.heap.push o)[w.heap.size]? = _
  simp
theorem heap_old (w : World) (o : Obj) (k : Nat) (h : k < w.heap.size) : (w.alloc o).heap[k]? = w.heap[k]? := Below.heap_alloc w o k h
theorem size_alloc (w : World) (o : Obj) : (w.alloc o).heap.size = w.heap.size + 1 := by simp

/-! ### A region that draws its order, whose operations only read old cells and whose callees may make memory: one walk, in the text's order -/

/-- a world that has grown beyond w -/
structure Grow (w : World) where
  v : World
  h : Below w.heap.size w v
instance (w : World) : Nonempty (Grow w) := ⟨⟨w, Below.refl _ _⟩⟩

theorem Grow.cell {w : World} {p : Addr} {v : Value} (g : Grow w) (h : w.cell? p = some v) : g.v.cell? p = some v := (g.h.cell (cell_lt h)).trans h

theorem grow_call {P : Program} {w : World} {g : Grow w} {f : FuncId} {args : Array Value} {v : Value} (h : Calls P f args g.v fun e w' => e = .returned v ∧ Below g.v.heap.size g.v w') :
    Calls P f args g.v fun e w'' => e = .returned v ∧ ∃ g' : Grow w, w'' = g'.v :=
  h.mono fun _ w'' ⟨he, hb⟩ => ⟨he, ⟨w'', g.h.trans (hb.mono g.h.size)⟩, rfl⟩
theorem grow_same {P : Program} {w : World} {g : Grow w} {f : FuncId} {args : Array Value} {v : Value} (h : Calls P f args g.v fun e w' => e = .returned v ∧ w' = g.v) :
    Calls P f args g.v fun e w'' => e = .returned v ∧ ∃ g' : Grow w, w'' = g'.v :=
  h.mono fun _ _ ⟨he, hb⟩ => ⟨he, g, hb⟩

theorem wp_region_grow {P : Program} {id : Nat} {Q : Exit → Act → World → Prop} {a : Act} {w : World} {l : List Oper} (hm : P.follows .mixedOrders = true) (hB : Region.lexB .any l.toArray = true)
    (h : wpQuiet P l.toArray (fun w' => ∃ g : Grow w, w' = g.v) (fun a' => ∀ w', (∃ g : Grow w, w' = g.v) → Q .normal a' w') l a) : (Code.region id l.toArray true).wp P Q a w :=
  wp_region_quiet (C := fun w' => ∃ g : Grow w, w' = g.v) hm hB ⟨⟨w.drew, (Below.refl _ _).drew⟩, rfl⟩ (by simpa using h)

end Go.Proofs.YtcjnpklmfcbofaaGreatDoor
end

/- Strings as the lists of their bytes. -/
set_option linter.unusedVariables false
set_option linter.unusedSimpArgs false
section
namespace Go.Proofs.YtcjnpklmfcbofaaGreatDoor
open Go.RowKit

/-- a string, as the list of its bytes -/
abbrev bs (l : List UInt8) : ByteArray := ⟨l.toArray⟩

theorem bs_size (l : List UInt8) : (bs l).size = l.length := by simp [ByteArray.size]
theorem bs_append (a b : List UInt8) : bs a ++ bs b = bs (a ++ b) := by
  apply ByteArray.ext
  simp
theorem bs_take (l : List UInt8) (n : Nat) : (bs l).extract 0 n = bs (l.take n) := by
  apply ByteArray.ext
  simp [ByteArray.data_extract]
theorem bs_drop (l : List UInt8) (n m : Nat) (h : l.length ≤ m) : (bs l).extract n m = bs (l.drop n) := by
  apply ByteArray.ext
  simp [ByteArray.data_extract]
  rw [List.take_of_length_le (by simp; omega)]

/-- s[:n], s[n:] of a string given as a list -/
theorem run_to (l : List UInt8) (n : Nat) (h : n ≤ l.length) (w : World) : (Instr.slice 9 (.string (bs l)) none (some (.int .i64 n)) none).run Tryz.prog w = .ok (.string (bs (l.take n))) w := by
  rw [run_slice_string_to_if w _ _ _ _ Tryz.underlying9, if_pos (by rw [bs_size]; omega)]
  simp [bs_take]
theorem run_from (l : List UInt8) (n : Nat) (h : n ≤ l.length) (w : World) : (Instr.slice 9 (.string (bs l)) (some (.int .i64 n)) none none).run Tryz.prog w = .ok (.string (bs (l.drop n))) w := by
  rw [run_slice_string_from_if w _ _ _ _ Tryz.underlying9, if_pos (by rw [bs_size]; omega)]
  simp [bs_drop, bs_size]

theorem bs_mid (l : List UInt8) (i j : Nat) : (bs l).extract i j = bs ((l.drop i).take (j - i)) := by
  apply ByteArray.ext
  simp [ByteArray.data_extract, List.drop_take]
/-- s[i:j] -/
theorem run_mid (l : List UInt8) (i j : Nat) (h : i ≤ j) (hj : j ≤ l.length) (w : World) : (Instr.slice 9 (.string (bs l)) (some (.int .i64 i)) (some (.int .i64 j)) none).run Tryz.prog w = .ok (.string (bs ((l.drop i).take (j - i)))) w := by
  rw [run_slice_string_if w _ _ _ _ _ _ Tryz.underlying9, if_pos (by rw [bs_size]; omega), if_pos (by omega)]
  simp [bs_mid]

end Go.Proofs.YtcjnpklmfcbofaaGreatDoor
end

/- mbox: rows of spans. -/
set_option linter.unusedVariables false
set_option linter.unusedSimpArgs false
section
namespace Go.Proofs.YtcjnpklmfcbofaaGreatDoor
open Go.RowKit

/-- where an entry stands -/
structure Sp where
  head : Nat
  body : Nat
  fin : Nat

theorem info_sp : (Tryz.prog.info? 40).map (fun i => (i.zero, i.size, i.bytes)) = some (some (.agg #[.int .i64 0, .int .i64 0, .int .i64 0]), 3, 24) := by kernel_rfl
def cellsSp1 (f : Sp) : List Value := [.int .i64 f.head, .int .i64 f.body, .int .i64 f.fin]
def cellsSp (fs : List Sp) : List Value := fs.flatMap cellsSp1
theorem cellsSp_length (fs : List Sp) : (cellsSp fs).length = fs.length * 3 := by
  induction fs with
  | nil => rfl
  | cons f r ih => simp only [cellsSp, List.flatMap_cons, List.length_append, List.length_cons] at ih ⊢; rw [ih]; simp [cellsSp1]; omega
theorem cellsSp_append (a b : List Sp) : cellsSp (a ++ b) = cellsSp a ++ cellsSp b := by simp [cellsSp]
theorem cellsSp_at (fs : List Sp) (i j : Nat) (f : Sp) (hf : fs[i]? = some f) (hj : j < 3) : (cellsSp fs)[i * 3 + j]? = (cellsSp1 f)[j]? := by
  induction fs generalizing i with
  | nil => simp at hf
  | cons x r ih =>
    have hc : cellsSp (x :: r) = cellsSp1 x ++ cellsSp r := rfl
    have hx : (cellsSp1 x).length = 3 := rfl
    rw [hc]
    cases i with
    | zero =>
      obtain rfl : x = f := by simpa using hf
      rw [Nat.zero_mul, Nat.zero_add, List.getElem?_append_left (by omega)]
    | succ i =>
      rw [List.getElem?_append_right (by omega), hx, show (i + 1) * 3 + j - 3 = i * 3 + j by omega]
      exact ih i (by simpa using hf)

/-- a slice of spans that the call itself made, in blocks from B on -/
def OwnP (w : World) (B : Nat) (v : Value) (fs : List Sp) : Prop := w.ownsRow B 40 3 v fs.length (cellsSp fs)
theorem OwnP.form {w : World} {B : Nat} {v : Value} {fs : List Sp} (h : OwnP w B v fs) : ∃ a n cap, v = .slice a n cap ∧ Hid (n = fs.length) := by
  rcases h.2 with ⟨rfl, h0⟩ | ⟨g, cap, cur, rfl, _⟩
  · exact ⟨none, 0, 0, rfl, h0.symm⟩
  · exact ⟨_, _, _, rfl, rfl⟩
theorem OwnP.parts {w : World} {B : Nat} {v : Value} {fs : List Sp} (h : OwnP w B v fs) : (v = .slice none 0 0 ∧ fs = []) ∨ ∃ g cap, v = .slice (some ⟨g, 0, none⟩) fs.length cap ∧ B ≤ g ∧ g < w.heap.size := by
  have hlt := World.ownsRow.lt h
  rcases h.2 with ⟨rfl, h0⟩ | ⟨g, cap, cur, rfl, hb, hg, hc, _, _, ht⟩
  · exact .inl ⟨rfl, List.eq_nil_of_length_eq_zero h0⟩
  · exact .inr ⟨g, cap, rfl, hb, (hlt g rfl).2⟩
theorem OwnP.later {w w' : World} {B : Nat} {v : Value} {fs : List Sp} (h : OwnP w B v fs) (hb : ∀ k, v.ownBlock = some k → w'.heap[k]? = w.heap[k]?) : OwnP w' B v fs := by
  refine ⟨h.1, ?_⟩
  rcases h.2 with h0 | ⟨g, cap, cur, rfl, h1, h2, r⟩
  · exact .inl h0
  · exact .inr ⟨g, cap, cur, rfl, h1, (hb g rfl).trans h2, r⟩
theorem OwnP.below {w w' : World} {B : Nat} {v : Value} {fs : List Sp} (h : OwnP w B v fs) (hb : Below w.heap.size w w') : OwnP w' B v fs :=
  h.later fun k hk => hb.block k (World.ownsRow.lt h k hk).2
theorem OwnP.step {w' : World} {B : Nat} {v' : Value} {ls : List Sp} {f : Sp} (h : w'.ownsRow B 40 3 v' (ls.length + 1) (cellsSp ls ++ cellsSp1 f)) : OwnP w' B v' (ls ++ [f]) := by
  unfold OwnP
  rw [List.length_append, cellsSp_append]
  simpa [cellsSp] using h
theorem OwnP.cell {w : World} {B g n cap : Nat} {fs : List Sp} (h : OwnP w B (.slice (some ⟨g, 0, none⟩) n cap) fs) (i j : Nat) (f : Sp) (hf : fs[i]? = some f) (hj : j < 3) : w.cell? ⟨g, i * 3 + j, none⟩ = (cellsSp1 f)[j]? := by
  have hc := cellsSp_at fs i j f hf hj
  have hlt : j < (cellsSp1 f).length := hj
  rw [List.getElem?_eq_getElem hlt] at hc ⊢
  have := World.ownsRow.cells h (g := g) rfl (i * 3 + j) _ hc
  rw [← this]
  by_cases h0 : i * 3 + j = 0
  · rw [h0]; rfl
  · have e : (⟨g, 0, none⟩ : Addr).add (i * 3 + j) = ⟨g, i * 3 + j, none⟩ := by
      unfold Addr.add
      rw [if_neg h0]
      simp
    rw [e]
theorem frozenP {w : World} {B g n cap : Nat} {fs : List Sp} (h : OwnP w B (.slice (some ⟨g, 0, none⟩) n cap) fs) (j : Nat) : w.frozen? ⟨g, j, none⟩ = false := by
  rcases h.2 with ⟨h', _⟩ | ⟨g', cap', cur, h', _, hg, _⟩
  · simp at h'
  · simp at h'
    obtain ⟨rfl, _⟩ := h'
    simp [World.frozen?, hg]
/-- the last span's end turned -/
theorem OwnP.turn {w : World} {B g cap : Nat} {fs0 : List Sp} {f : Sp} (h : OwnP w B (.slice (some ⟨g, 0, none⟩) (fs0.length + 1) cap) (fs0 ++ [f])) (q : Nat) :
    OwnP (w.setCell ⟨g, fs0.length * 3 + 2, none⟩ (.int .i64 q)) B (.slice (some ⟨g, 0, none⟩) (fs0.length + 1) cap) (fs0 ++ [{ f with fin := q }]) := by
  unfold OwnP at *
  have e1 : (fs0 ++ [f]).length = fs0.length + 1 := by simp
  have e2 : (fs0 ++ [{ f with fin := q }]).length = fs0.length + 1 := by simp
  rw [e1] at h
  rw [e2]
  have h1 := (World.ownsRow.stored h (fs0.length * 3 + 2) (.int .i64 q)).1
  have e3 : (cellsSp (fs0 ++ [f])).set (fs0.length * 3 + 2) (.int .i64 q) = cellsSp (fs0 ++ [{ f with fin := q }]) := by
    rw [cellsSp_append, cellsSp_append, List.set_append_right _ _ (by rw [cellsSp_length]; omega), cellsSp_length, show fs0.length * 3 + 2 - fs0.length * 3 = 2 by omega]
    simp [cellsSp, cellsSp1]
  rwa [e3] at h1

end Go.Proofs.YtcjnpklmfcbofaaGreatDoor
end

/- Plain facts on lines: cutting a list of bytes at its first line feed. -/
set_option linter.unusedVariables false
set_option linter.unusedSimpArgs false
section
namespace Go.Proofs.YtcjnpklmfcbofaaGreatDoor

/-- what is ahead of the first line feed, and what is behind it -/
def cutNl : List UInt8 → Option (List UInt8 × List UInt8)
  | [] => none
  | c :: r => if c = 10 then some ([], r) else match cutNl r with
    | none => none
    | some (a, b) => some (c :: a, b)

theorem cutNl_some {h s r : List UInt8} (e : cutNl h = some (s, r)) : h = s ++ 10 :: r ∧ ∀ c ∈ s, c ≠ 10 := by
  induction h generalizing s r with
  | nil => simp [cutNl] at e
  | cons c t ih =>
    unfold cutNl at e
    by_cases hc : c = 10
    · rw [if_pos hc] at e
      obtain ⟨rfl, rfl⟩ := Prod.mk.inj (Option.some.inj e)
      exact ⟨by simp [hc], by simp⟩
    · rw [if_neg hc] at e
      cases hq : cutNl t with
      | none => rw [hq] at e; cases e
      | some p =>
        obtain ⟨a, b⟩ := p
        rw [hq] at e
        obtain ⟨rfl, rfl⟩ := Prod.mk.inj (Option.some.inj e)
        obtain ⟨h1, h2⟩ := ih hq
        exact ⟨by rw [h1]; simp, by intro x hx; rcases List.mem_cons.1 hx with rfl | hx; exact hc; exact h2 x hx⟩

theorem cutNl_none {h : List UInt8} (e : cutNl h = none) : ∀ c ∈ h, c ≠ 10 := by
  induction h with
  | nil => simp
  | cons c t ih =>
    unfold cutNl at e
    by_cases hc : c = 10
    · rw [if_pos hc] at e; cases e
    · rw [if_neg hc] at e
      cases hq : cutNl t with
      | none => intro x hx; rcases List.mem_cons.1 hx with rfl | hx; exact hc; exact ih hq x hx
      | some p => rw [hq] at e; cases e

theorem cutNl_mk (s r : List UInt8) (h : ∀ c ∈ s, c ≠ 10) : cutNl (s ++ 10 :: r) = some (s, r) := by
  induction s with
  | nil => simp [cutNl]
  | cons c t ih =>
    have hc : c ≠ 10 := h c (by simp)
    simp [cutNl, hc, ih (fun x hx => h x (by simp [hx]))]

theorem cutNl_no (h : List UInt8) (e : ∀ c ∈ h, c ≠ 10) : cutNl h = none := by
  cases hq : cutNl h with
  | none => rfl
  | some p =>
    obtain ⟨a, b⟩ := p
    obtain ⟨h1, _⟩ := cutNl_some hq
    exact absurd rfl (e 10 (by rw [h1]; simp))

theorem index_both (h : List UInt8) : Lib.indexByte h 10 = match cutNl h with | none => -1 | some (s, _) => (s.length : Int) := by
  induction h with
  | nil => rfl
  | cons c t ih =>
    unfold Lib.indexByte cutNl
    by_cases hc : c = 10
    · simp [hc]
    · simp only [beq_iff_eq, hc, if_false]
      cases hq : cutNl t with
      | none => rw [hq] at ih; simp [ih]
      | some p =>
        obtain ⟨a, b⟩ := p
        rw [hq] at ih
        simp only at ih
        rw [ih, if_neg (by omega)]
        simp
theorem index_some {h s r : List UInt8} (e : cutNl h = some (s, r)) : Lib.indexByte h 10 = (s.length : Int) := by
  rw [index_both, e]
theorem index_none {h : List UInt8} (e : cutNl h = none) : Lib.indexByte h 10 = -1 := by
  rw [index_both, e]

/-- a line as it is told: its text, and whether it is too long -/
def lineText (s : List UInt8) : List UInt8 := if s.length > 1000 then [] else Lib.trimSuffix s [13]
def lineLong (s : List UInt8) : Bool := decide (s.length > 1000)

end Go.Proofs.YtcjnpklmfcbofaaGreatDoor
end

/- Plain facts on a text's lines. -/
set_option linter.unusedVariables false
set_option linter.unusedSimpArgs false
section
namespace Go.Proofs.YtcjnpklmfcbofaaGreatDoor

/-- a text's lines, each with its end -/
def linesOf : List UInt8 → List (List UInt8)
  | [] => []
  | c :: r => if c = 10 then [10] :: linesOf r else match linesOf r with
    | [] => [[c]]
    | x :: xs => (c :: x) :: xs

theorem linesOf_nil : linesOf [] = [] := rfl
theorem linesOf_cons (c : UInt8) (r : List UInt8) : linesOf (c :: r) = if c = 10 then [10] :: linesOf r else match linesOf r with | [] => [[c]] | x :: xs => (c :: x) :: xs := rfl
theorem linesOf_nl (a r : List UInt8) (h : ∀ c ∈ a, c ≠ 10) : linesOf (a ++ 10 :: r) = (a ++ [10]) :: linesOf r := by
  induction a with
  | nil => simp [linesOf]
  | cons c t ih =>
    have hc : c ≠ 10 := h c (by simp)
    rw [List.cons_append]
    rw [linesOf_cons]
    rw [if_neg hc, ih (fun x hx => h x (by simp [hx]))]
    rfl
theorem linesOf_end (a : List UInt8) (h : ∀ c ∈ a, c ≠ 10) (ha : a ≠ []) : linesOf a = [a] := by
  induction a with
  | nil => exact absurd rfl ha
  | cons c t ih =>
    have hc : c ≠ 10 := h c (by simp)
    rw [linesOf_cons]
    rw [if_neg hc]
    cases t with
    | nil => rfl
    | cons d t => rw [ih (fun x hx => h x (by simp [hx])) (by simp)]

/-- by the first line feed -/
theorem linesOf_cut {l s r : List UInt8} (h : cutNl l = some (s, r)) : linesOf l = (s ++ [10]) :: linesOf r := by
  obtain ⟨rfl, h2⟩ := cutNl_some h
  exact linesOf_nl s r h2
theorem linesOf_cutNo {l : List UInt8} (h : cutNl l = none) (hl : l ≠ []) : linesOf l = [l] := linesOf_end l (cutNl_none h) hl

/-- rows that are a text's lines -/
def wfLines : List (List UInt8) → Prop
  | [] => True
  | [x] => x ≠ [] ∧ ∀ c ∈ x.dropLast, c ≠ 10
  | x :: y :: r => (∃ a, x = a ++ [10] ∧ ∀ c ∈ a, c ≠ 10) ∧ wfLines (y :: r)

/-- an induction by a text's lines -/
theorem lines_induction {p : List UInt8 → Prop} (h0 : p []) (h1 : ∀ a, a ≠ [] → (∀ c ∈ a, c ≠ 10) → p a) (h2 : ∀ a r, (∀ c ∈ a, c ≠ 10) → p r → p (a ++ 10 :: r)) : ∀ l, p l := by
  intro l
  induction h : l.length using Nat.strongRecOn generalizing l with
  | ind m ih =>
    subst h
    cases hc : cutNl l with
    | none =>
      by_cases hl : l = []
      · rw [hl]; exact h0
      · exact h1 l hl (cutNl_none hc)
    | some p =>
      obtain ⟨s, r⟩ := p
      obtain ⟨e, hs⟩ := cutNl_some hc
      rw [e]
      exact h2 s r hs (ih r.length (by rw [e]; simp; omega) r rfl)

theorem linesOf_flatten (l : List UInt8) : (linesOf l).flatten = l := by
  refine lines_induction (p := fun l => (linesOf l).flatten = l) rfl (fun a ha h => ?_) (fun a r h ih => ?_) l
  · show (linesOf a).flatten = a
    rw [linesOf_end a h ha]; simp
  · show (linesOf (a ++ 10 :: r)).flatten = a ++ 10 :: r
    rw [linesOf_nl a r h]; simp [ih]

theorem wf_cons (a : List UInt8) (h : ∀ c ∈ a, c ≠ 10) (ls : List (List UInt8)) (hl : wfLines ls) : wfLines ((a ++ [10]) :: ls) := by
  cases ls with
  | nil => exact ⟨by simp, by simpa using h⟩
  | cons y r => exact ⟨⟨a, rfl, h⟩, hl⟩

theorem linesOf_wf (l : List UInt8) : wfLines (linesOf l) := by
  refine lines_induction (p := fun l => wfLines (linesOf l)) trivial (fun a ha h => ?_) (fun a r h ih => ?_) l
  · show wfLines (linesOf a)
    rw [linesOf_end a h ha]
    exact ⟨ha, fun c hc => h c (List.dropLast_subset _ hc)⟩
  · show wfLines (linesOf (a ++ 10 :: r))
    rw [linesOf_nl a r h]
    exact wf_cons a h _ ih

theorem linesOf_single (x : List UInt8) (hx : x ≠ []) (h : ∀ c ∈ x.dropLast, c ≠ 10) : linesOf x = [x] := by
  by_cases e : x.getLast hx = 10
  · have : x = x.dropLast ++ 10 :: [] := by rw [← e]; exact (List.dropLast_concat_getLast hx).symm
    rw [this, linesOf_nl _ _ h]; rfl
  · refine linesOf_end x (fun c hc => ?_) hx
    rw [← List.dropLast_concat_getLast hx] at hc
    rcases List.mem_append.1 hc with hc | hc
    · exact h c hc
    · rw [List.mem_singleton.1 hc]; exact e

theorem linesOf_of_wf : ∀ (ls : List (List UInt8)), wfLines ls → linesOf ls.flatten = ls
  | [], _ => rfl
  | [x], ⟨hx, h⟩ => by simp only [List.flatten_cons, List.flatten_nil, List.append_nil]; exact linesOf_single x hx h
  | x :: y :: r, ⟨⟨a, e, h⟩, hr⟩ => by
    rw [List.flatten_cons, e, List.append_assoc, List.singleton_append, linesOf_nl a _ h, linesOf_of_wf (y :: r) hr]

theorem linesOf_length (l : List UInt8) : (linesOf l).length ≤ l.length := by
  refine lines_induction (p := fun l => (linesOf l).length ≤ l.length) (by simp [linesOf]) (fun a ha h => ?_) (fun a r h ih => ?_) l
  · show (linesOf a).length ≤ a.length
    rw [linesOf_end a h ha]
    cases a with
    | nil => exact absurd rfl ha
    | cons c t => simp
  · show (linesOf (a ++ 10 :: r)).length ≤ (a ++ 10 :: r).length
    rw [linesOf_nl a r h]; simp; omega

theorem linesOf_mem {l x : List UInt8} (h : x ∈ linesOf l) : x ≠ [] ∧ x.length ≤ l.length := by
  revert x
  refine lines_induction (p := fun l => ∀ {x}, x ∈ linesOf l → x ≠ [] ∧ x.length ≤ l.length) (by simp [linesOf]) (fun a ha h => ?_) (fun a r h ih => ?_) l
  · intro x hx
    rw [linesOf_end a h ha] at hx
    obtain rfl := List.mem_singleton.1 hx
    exact ⟨ha, Nat.le_refl _⟩
  · intro x hx
    rw [linesOf_nl a r h] at hx
    rcases List.mem_cons.1 hx with rfl | hx
    · exact ⟨by simp, by simp⟩
    · obtain ⟨h1, h2⟩ := ih hx
      exact ⟨h1, by simp; omega⟩

end Go.Proofs.YtcjnpklmfcbofaaGreatDoor
end

/- Plain facts on quoted lines. -/
set_option linter.unusedVariables false
set_option linter.unusedSimpArgs false
section
namespace Go.Proofs.YtcjnpklmfcbofaaGreatDoor

def fromL : List UInt8 := [70, 114, 111, 109, 32]
/-- a line less the marks ahead of it -/
def unmark (l : List UInt8) : List UInt8 := l.dropWhile (· == 62)
def looks (l : List UInt8) : Bool := fromL.isPrefixOf (unmark l)
def headM : List UInt8 → Bool
  | [] => false
  | c :: _ => c == 62
def sepB (l : List UInt8) : Bool := looks l && !headM l
def quotedB (l : List UInt8) : Bool := looks l && headM l
def quoteL (l : List UInt8) : List UInt8 := if looks l then 62 :: l else l
def unquoteL (l : List UInt8) : List UInt8 := if quotedB l then l.tail else l
def encodeL (m : List UInt8) : List UInt8 := ((linesOf m).map quoteL).flatten ++ [10]
def decodeL (m : List UInt8) : List UInt8 := ((linesOf m).map unquoteL).flatten

theorem unmark_mark (l : List UInt8) : unmark (62 :: l) = unmark l := by unfold unmark; simp [List.dropWhile_cons]
theorem unmark_no (l : List UInt8) (h : headM l = false) : unmark l = l := by
  cases l with
  | nil => rfl
  | cons c r => unfold unmark; unfold headM at h; simp [List.dropWhile_cons, h]
theorem looks_mark (l : List UInt8) : looks (62 :: l) = looks l := by unfold looks; rw [unmark_mark]
theorem looks_nil : looks [] = false := rfl
theorem headM_iff (l : List UInt8) : headM l = true ↔ ∃ r, l = 62 :: r := by
  cases l with
  | nil => simp [headM]
  | cons c r => simp [headM]

/-- the marks, then the rest -/
theorem unmark_length (l : List UInt8) : (unmark l).length ≤ l.length := List.Sublist.length_le (List.dropWhile_sublist _)
theorem unmark_lt (l : List UInt8) : (unmark l).length < l.length ↔ headM l = true := by
  cases l with
  | nil => simp [unmark, headM]
  | cons c r =>
    by_cases h : headM (c :: r) = true
    · obtain ⟨r', e⟩ := (headM_iff _).1 h
      obtain ⟨rfl, rfl⟩ := List.cons.inj e
      rw [unmark_mark]
      have := unmark_length r
      simp [h]; omega
    · rw [unmark_no _ (by simpa using h)]
      simp [h]

theorem unquote_quote (x : List UInt8) : unquoteL (quoteL x) = x := by
  unfold quoteL
  by_cases h : looks x = true
  · rw [if_pos h]; unfold unquoteL quotedB; rw [looks_mark, h]; rfl
  · rw [if_neg h]; unfold unquoteL quotedB; simp [h]
theorem sep_quote (x : List UInt8) : sepB (quoteL x) = false := by
  unfold quoteL
  by_cases h : looks x = true
  · rw [if_pos h]; simp [sepB, headM]
  · rw [if_neg h]; simp [sepB, h]
theorem quote_unquote (x : List UInt8) (h : sepB x = false) : quoteL (unquoteL x) = x := by
  unfold unquoteL
  by_cases hq : quotedB x = true
  · rw [if_pos hq]
    unfold quotedB at hq
    simp at hq
    obtain ⟨r, rfl⟩ := (headM_iff x).1 hq.2
    have := hq.1
    rw [looks_mark] at this
    unfold quoteL
    simp [this]
  · rw [if_neg hq]
    unfold quotedB at hq
    unfold sepB at h
    have : looks x = false := by
      cases hl : looks x
      · rfl
      · rw [hl] at hq h; simp at hq h; rw [h] at hq; cases hq
    unfold quoteL
    simp [this]

theorem quote_form (x : List UInt8) : quoteL x = x ∨ quoteL x = 62 :: x := by
  unfold quoteL
  by_cases h : looks x = true
  · simp [h]
  · simp [h]
theorem unquote_form (x : List UInt8) : unquoteL x = x ∨ ∃ y, y ≠ [] ∧ x = 62 :: y ∧ unquoteL x = y := by
  unfold unquoteL
  by_cases h : quotedB x = true
  · right
    rw [if_pos h]
    unfold quotedB at h
    simp at h
    obtain ⟨r, rfl⟩ := (headM_iff x).1 h.2
    refine ⟨r, ?_, rfl, rfl⟩
    rintro rfl
    have := h.1
    rw [looks_mark, looks_nil] at this
    cases this
  · left; rw [if_neg h]

/-- a turning of lines that keeps their ends -/
def Keeps (f : List UInt8 → List UInt8) : Prop := ∀ x, x ≠ [] → (f x ≠ [] ∧ ((∀ c ∈ x.dropLast, c ≠ 10) → ∀ c ∈ (f x).dropLast, c ≠ 10) ∧ ∀ a, x = a ++ [10] → (∀ c ∈ a, c ≠ 10) → ∃ b, f x = b ++ [10] ∧ ∀ c ∈ b, c ≠ 10)
theorem keeps_quote : Keeps quoteL := by
  intro x hx
  rcases quote_form x with e | e
  · rw [e]; exact ⟨hx, id, fun a ha h => ⟨a, ha, h⟩⟩
  · rw [e]
    refine ⟨by simp, fun h c hc => ?_, fun a ha h => ⟨62 :: a, by rw [ha]; rfl, ?_⟩⟩
    · cases x with
      | nil => exact absurd rfl hx
      | cons d r =>
        rw [List.dropLast_cons_cons] at hc
        rcases List.mem_cons.1 hc with rfl | hc
        · decide
        · exact h c hc
    · intro c hc
      rcases List.mem_cons.1 hc with rfl | hc
      · decide
      · exact h c hc
theorem keeps_unquote : Keeps unquoteL := by
  intro x hx
  rcases unquote_form x with e | ⟨y, hy, rfl, e⟩
  · rw [e]; exact ⟨hx, id, fun a ha h => ⟨a, ha, h⟩⟩
  · rw [e]
    refine ⟨hy, fun h c hc => ?_, fun a ha h => ?_⟩
    · cases y with
      | nil => exact absurd rfl hy
      | cons d r => exact h c (by rw [List.dropLast_cons_cons]; exact List.mem_cons_of_mem _ hc)
    · cases a with
      | nil =>
        have := (List.cons.inj ha).1
        exact absurd this (by decide)
      | cons d a =>
        obtain ⟨rfl, rfl⟩ := List.cons.inj ha
        exact ⟨a, rfl, fun c hc => h c (List.mem_cons_of_mem _ hc)⟩

theorem wf_map {f : List UInt8 → List UInt8} (hf : Keeps f) : ∀ (ls : List (List UInt8)), wfLines ls → wfLines (ls.map f)
  | [], _ => trivial
  | [x], ⟨hx, h⟩ => ⟨(hf x hx).1, (hf x hx).2.1 h⟩
  | x :: y :: r, ⟨⟨a, e, h⟩, hr⟩ => by
    have hx : x ≠ [] := by rw [e]; simp
    exact ⟨(hf x hx).2.2 a e h, wf_map hf (y :: r) hr⟩

theorem linesOf_map {f : List UInt8 → List UInt8} (hf : Keeps f) (l : List UInt8) : linesOf ((linesOf l).map f).flatten = (linesOf l).map f :=
  linesOf_of_wf _ (wf_map hf _ (linesOf_wf l))

/-! ### a line feed behind -/

theorem looks_nl (l : List UInt8) (r : List UInt8) : looks (l ++ 10 :: r) = looks l := by
  unfold looks
  have key : ∀ y : List UInt8, fromL.isPrefixOf (y ++ 10 :: r) = fromL.isPrefixOf y := by
    intro y
    rcases y with _ | ⟨a, _ | ⟨b, _ | ⟨c, _ | ⟨d, _ | ⟨e, y⟩⟩⟩⟩⟩ <;> simp [fromL, List.isPrefixOf]
  have : unmark (l ++ 10 :: r) = unmark l ++ 10 :: r := by
    unfold unmark
    induction l with
    | nil => simp [List.dropWhile_cons]
    | cons c t ih =>
      rw [List.cons_append, List.dropWhile_cons, List.dropWhile_cons]
      by_cases h : (c == 62) = true
      · rw [if_pos h, if_pos h, ih]
      · rw [if_neg h, if_neg h]; rfl
  rw [this, key]
theorem headM_nl (l r : List UInt8) : headM (l ++ 10 :: r) = headM l := by
  cases l with
  | nil => rfl
  | cons c t => rfl
theorem sep_nl (l r : List UInt8) : sepB (l ++ 10 :: r) = sepB l := by unfold sepB; rw [looks_nl, headM_nl]

theorem lines_behind : ∀ (ls : List (List UInt8)), wfLines ls → ∀ x ∈ linesOf (ls.flatten ++ [10]), x = [10] ∨ x ∈ ls ∨ ∃ y ∈ ls, x = y ++ [10]
  | [], _, x, hx => .inl (by simpa [linesOf] using hx)
  | [y], ⟨hy, h⟩, x, hx => by
    simp only [List.flatten_cons, List.flatten_nil, List.append_nil] at hx
    by_cases e : y.getLast hy = 10
    · have ey : y = y.dropLast ++ 10 :: [] := by rw [← e]; exact (List.dropLast_concat_getLast hy).symm
      rw [ey, List.append_assoc, List.cons_append, linesOf_nl _ _ h] at hx
      rcases List.mem_cons.1 hx with rfl | hx
      · exact .inr (.inl (by rw [← ey]; simp))
      · exact .inl (by simpa [linesOf] using hx)
    · rw [linesOf_nl y [] (fun c hc => by
        rw [← List.dropLast_concat_getLast hy] at hc
        rcases List.mem_append.1 hc with hc | hc
        · exact h c hc
        · rw [List.mem_singleton.1 hc]; exact e)] at hx
      exact .inr (.inr ⟨y, by simp, by simpa [linesOf] using hx⟩)
  | y :: z :: r, ⟨⟨a, e, h⟩, hr⟩, x, hx => by
    rw [List.flatten_cons, e, List.append_assoc, List.append_assoc, List.singleton_append, linesOf_nl a _ h] at hx
    rcases List.mem_cons.1 hx with rfl | hx
    · exact .inr (.inl (by rw [e]; simp))
    · rcases lines_behind (z :: r) hr x hx with h1 | h1 | ⟨u, hu, h1⟩
      · exact .inl h1
      · exact .inr (.inl (List.mem_cons_of_mem _ h1))
      · exact .inr (.inr ⟨u, List.mem_cons_of_mem _ hu, h1⟩)

theorem lines_ahead : ∀ (ls : List (List UInt8)), wfLines ls → ∀ x ∈ ls, x ∈ linesOf (ls.flatten ++ [10]) ∨ x ++ [10] ∈ linesOf (ls.flatten ++ [10])
  | [], _, x, hx => by simp at hx
  | [y], ⟨hy, h⟩, x, hx => by
    obtain rfl : x = y := by simpa using hx
    simp only [List.flatten_cons, List.flatten_nil, List.append_nil]
    by_cases e : x.getLast hy = 10
    · have ey : x = x.dropLast ++ 10 :: [] := by rw [← e]; exact (List.dropLast_concat_getLast hy).symm
      left
      have e2 : x ++ [10] = x.dropLast ++ 10 :: [10] := by
        have := congrArg (· ++ [(10 : UInt8)]) ey
        simpa using this
      rw [e2, linesOf_nl _ _ h, show x.dropLast ++ [10] = x from ey.symm]
      simp
    · right
      rw [linesOf_nl x [] (fun c hc => by
        rw [← List.dropLast_concat_getLast hy] at hc
        rcases List.mem_append.1 hc with hc | hc
        · exact h c hc
        · rw [List.mem_singleton.1 hc]; exact e)]
      simp
  | y :: z :: r, ⟨⟨a, e, h⟩, hr⟩, x, hx => by
    rw [List.flatten_cons, e, List.append_assoc, List.append_assoc, List.singleton_append, linesOf_nl a _ h]
    rcases List.mem_cons.1 hx with rfl | hx
    · left; rw [e]; simp
    · rcases lines_ahead (z :: r) hr x hx with h1 | h1
      · left; exact List.mem_cons_of_mem _ h1
      · right; exact List.mem_cons_of_mem _ h1

theorem sep_behind (x : List UInt8) : sepB (x ++ [10]) = sepB x := sep_nl x []

/-- no line of an encoded message looks like a separator -/
theorem encode_nosep (s : List UInt8) : ∀ x ∈ linesOf (encodeL s), sepB x = false := by
  intro x hx
  rcases lines_behind _ (wf_map keeps_quote _ (linesOf_wf s)) x hx with rfl | h | ⟨y, h, rfl⟩
  · rfl
  · obtain ⟨y, _, rfl⟩ := List.mem_map.1 h
    exact sep_quote y
  · obtain ⟨y', _, rfl⟩ := List.mem_map.1 h
    rw [sep_behind]; exact sep_quote y'
theorem decode_encode (s : List UInt8) : decodeL ((linesOf s).map quoteL).flatten = s := by
  unfold decodeL
  rw [linesOf_map keeps_quote, List.map_map, show unquoteL ∘ quoteL = id from funext unquote_quote, List.map_id, linesOf_flatten]
theorem encode_decode (m : List UInt8) (h : ∀ x ∈ linesOf (m ++ [10]), sepB x = false) : encodeL (decodeL m) = m ++ [10] := by
  unfold encodeL decodeL
  rw [linesOf_map keeps_unquote, List.map_map]
  have : (linesOf m).map (quoteL ∘ unquoteL) = linesOf m := by
    conv => rhs; rw [← List.map_id (linesOf m)]
    refine List.map_congr_left fun x hx => quote_unquote x ?_
    have := lines_ahead (linesOf m) (linesOf_wf m) x hx
    rw [linesOf_flatten] at this
    rcases this with h1 | h1
    · exact h x h1
    · rw [← sep_behind]; exact h _ h1
  rw [this, linesOf_flatten]

theorem quote_length (x : List UInt8) : x.length ≤ (quoteL x).length ∧ (quoteL x).length ≤ x.length + 1 := by
  rcases quote_form x with e | e <;> rw [e] <;> simp
theorem quotes_length (ls : List (List UInt8)) : ls.flatten.length ≤ (ls.map quoteL).flatten.length ∧ (ls.map quoteL).flatten.length ≤ ls.flatten.length + ls.length := by
  induction ls with
  | nil => simp
  | cons x r ih =>
    have := quote_length x
    simp only [List.map_cons, List.flatten_cons, List.length_append, List.length_cons]
    omega
theorem encode_length (s : List UInt8) : s.length + 1 ≤ (encodeL s).length ∧ (encodeL s).length ≤ 2 * s.length + 1 := by
  have h1 := quotes_length (linesOf s)
  rw [linesOf_flatten] at h1
  have h2 := linesOf_length s
  unfold encodeL
  simp only [List.length_append, List.length_singleton]
  omega
theorem unquote_length (x : List UInt8) : (unquoteL x).length ≤ x.length := by
  rcases unquote_form x with e | ⟨y, _, rfl, e⟩ <;> rw [e] <;> simp
theorem decode_length (m : List UInt8) : (decodeL m).length ≤ m.length := by
  unfold decodeL
  conv => rhs; rw [← linesOf_flatten m]
  generalize linesOf m = ls
  induction ls with
  | nil => simp
  | cons x r ih =>
    have := unquote_length x
    simp only [List.map_cons, List.flatten_cons, List.length_append]
    omega

/-- at each place where a line begins -/
theorem begins_nosep (t : List UInt8) (h : ∀ x ∈ linesOf t, sepB x = false) : ∀ i, i < t.length → (i = 0 ∨ t[i - 1]? = some 10) → sepB (t.drop i) = false := by
  revert h
  refine lines_induction (p := fun t => (∀ x ∈ linesOf t, sepB x = false) → ∀ i, i < t.length → (i = 0 ∨ t[i - 1]? = some 10) → sepB (t.drop i) = false) (fun _ i hi => by simp at hi) (fun a ha hn h i hi hb => ?_) (fun a r hn ih h i hi hb => ?_) t
  · rcases hb with rfl | hb
    · rw [linesOf_end a hn ha] at h
      simpa using h a (by simp)
    · exact absurd rfl (hn 10 (List.mem_of_getElem? hb))
  · rw [linesOf_nl a r hn] at h
    rcases hb with rfl | hb
    · rw [List.drop_zero, sep_nl, ← sep_behind]
      exact h _ (by simp)
    · rcases Nat.lt_or_ge (i - 1) a.length with h1 | h1
      · rw [List.getElem?_append_left h1] at hb
        exact absurd rfl (hn 10 (List.mem_of_getElem? hb))
      · by_cases hi0 : i = 0
        · subst hi0
          rw [List.drop_zero, sep_nl, ← sep_behind]
          exact h _ (by simp)
        · have hd : (a ++ 10 :: r).drop i = r.drop (i - (a.length + 1)) := by
            rw [List.drop_append, List.drop_eq_nil_of_le (by omega), List.nil_append, show i - a.length = (i - (a.length + 1)) + 1 by omega]; rfl
          rw [hd]
          refine ih (fun x hx => h x (List.mem_cons_of_mem _ hx)) _ (by simp at hi; omega) ?_
          by_cases e : i = a.length + 1
          · left; omega
          · right
            rw [List.getElem?_append_right h1, show i - 1 - a.length = (i - (a.length + 1) - 1) + 1 by omega] at hb
            simpa using hb

/-! ### the document's texts, byte by byte -/

/-- how many marks stand ahead of "From "; -1: that isn't there -/
def marksL (l : List UInt8) : Int := if looks l then ((l.length - (unmark l).length : Nat) : Int) else -1

theorem marks_zero (l : List UInt8) : (marksL l = 0) ↔ sepB l = true := by
  have h1 := unmark_length l
  have h2 := unmark_lt l
  unfold marksL sepB
  cases hl : looks l <;> cases hh : headM l <;> rw [hh] at h2 <;> simp at h2 ⊢ <;> omega
theorem marks_pos (l : List UInt8) : (0 < marksL l) ↔ quotedB l = true := by
  have h1 := unmark_length l
  have h2 := unmark_lt l
  unfold marksL quotedB
  cases hl : looks l <;> cases hh : headM l <;> rw [hh] at h2 <;> simp at h2 ⊢ <;> omega
theorem marks_some (l : List UInt8) : (0 ≤ marksL l) ↔ looks l = true := by
  unfold marksL
  cases hl : looks l <;> simp

def encR : Bool → List UInt8 → List UInt8
  | _, [] => []
  | b, c :: r => (if b && looks (c :: r) then [62] else []) ++ c :: encR (c == 10) r

theorem encR_cons (b : Bool) (c : UInt8) (r : List UInt8) : encR b (c :: r) = (if b && looks (c :: r) then [62] else []) ++ c :: encR (c == 10) r := rfl
theorem encR_false (a r : List UInt8) (h : ∀ c ∈ a, c ≠ 10) : encR false (a ++ 10 :: r) = a ++ 10 :: encR true r := by
  induction a with
  | nil => simp [encR]
  | cons c t ih =>
    have hc : (c == 10) = false := by simpa using h c (by simp)
    rw [List.cons_append]
    rw [encR_cons]
    rw [hc, ih (fun x hx => h x (by simp [hx]))]
    simp
theorem encR_end (a : List UInt8) (h : ∀ c ∈ a, c ≠ 10) : encR false a = a := by
  induction a with
  | nil => simp [encR]
  | cons c t ih =>
    have hc : (c == 10) = false := by simpa using h c (by simp)
    rw [encR_cons]
    rw [hc, ih (fun x hx => h x (by simp [hx]))]
    simp
theorem encR_eq (l : List UInt8) : encR true l = ((linesOf l).map quoteL).flatten := by
  refine lines_induction (p := fun l => encR true l = ((linesOf l).map quoteL).flatten) rfl (fun a ha h => ?_) (fun a r h ih => ?_) l
  · show encR true a = _
    rw [linesOf_end a h ha]
    cases a with
    | nil => exact absurd rfl ha
    | cons c t =>
      have hc : (c == 10) = false := by simpa using h c (by simp)
      rw [encR_cons]
      rw [hc, encR_end t (fun x hx => h x (by simp [hx]))]
      simp only [List.map_cons, List.map_nil, List.flatten_cons, List.flatten_nil, List.append_nil, Bool.true_and]
      unfold quoteL
      by_cases hl : looks (c :: t) = true
      · simp [hl]
      · simp [hl]
  · show encR true (a ++ 10 :: r) = _
    rw [linesOf_nl a r h, List.map_cons, List.flatten_cons, ← ih]
    have hq : quoteL (a ++ [10]) = (if looks (a ++ 10 :: r) then [62] else []) ++ (a ++ [10]) := by
      unfold quoteL
      rw [looks_nl a r, looks_nl a []]
      by_cases hl : looks a = true <;> simp [hl]
    rw [hq]
    cases a with
    | nil =>
      simp only [List.nil_append]
      show encR true (10 :: r) = _
      rw [encR_cons]
      simp
    | cons c t =>
      have hc : (c == 10) = false := by simpa using h c (by simp)
      rw [List.cons_append]
      show encR true (c :: (t ++ 10 :: r)) = _
      rw [encR_cons]
      rw [hc, encR_false t r (fun x hx => h x (by simp [hx]))]
      simp

/-- the message of a text that ends in a line feed; none: a line looks like a separator -/
def decR : Bool → List UInt8 → Option (List UInt8)
  | _, [] => some []
  | b, c :: r => if r = [] then some [] else
      if b && looks (c :: r) then (if c == 62 then decR false r else none)
      else match decR (c == 10) r with
        | none => none
        | some x => some (c :: x)

theorem decR_cons (b : Bool) (c : UInt8) (r : List UInt8) : decR b (c :: r) = if r = [] then some [] else if b && looks (c :: r) then (if c == 62 then decR false r else none) else match decR (c == 10) r with | none => none | some x => some (c :: x) := rfl
theorem decR_false (a r : List UInt8) (h : ∀ c ∈ a, c ≠ 10) (hr : r ≠ []) : decR false (a ++ 10 :: r) = (decR true r).map fun x => a ++ 10 :: x := by
  induction a with
  | nil =>
    simp only [List.nil_append]
    rw [decR_cons]
    rw [if_neg hr]
    simp
    cases decR true r <;> rfl
  | cons c t ih =>
    have hc : (c == 10) = false := by simpa using h c (by simp)
    rw [List.cons_append]
    rw [decR_cons]
    rw [if_neg (by simp), hc, ih (fun x hx => h x (by simp [hx]))]
    simp
    cases decR true r <;> rfl
theorem decR_end (a : List UInt8) (h : ∀ c ∈ a, c ≠ 10) : decR false (a ++ [10]) = some a := by
  induction a with
  | nil => rfl
  | cons c t ih =>
    have hc : (c == 10) = false := by simpa using h c (by simp)
    rw [List.cons_append]
    rw [decR_cons]
    rw [if_neg (by simp), hc, ih (fun x hx => h x (by simp [hx]))]
    simp

theorem decR_line (a r : List UInt8) (h : ∀ c ∈ a, c ≠ 10) (hr : r ≠ []) : decR true (a ++ 10 :: r) = if sepB (a ++ [10]) then none else (decR true r).map fun x => unquoteL (a ++ [10]) ++ x := by
  cases a with
  | nil =>
    simp only [List.nil_append]
    rw [decR_cons]
    have h0 : looks (10 :: r) = false := looks_nl [] r
    rw [if_neg hr, h0]
    have h1 : sepB [10] = false := rfl
    have h2 : unquoteL [10] = [10] := rfl
    rw [h1, h2]
    simp
    cases decR true r <;> rfl
  | cons c t =>
    have hc : (c == 10) = false := by simpa using h c (by simp)
    have ht : ∀ x ∈ t, x ≠ 10 := fun x hx => h x (by simp [hx])
    rw [List.cons_append]
    rw [decR_cons]
    rw [if_neg (by simp), hc, decR_false t r ht hr]
    have hlk : looks (c :: (t ++ 10 :: r)) = looks (c :: (t ++ [10])) := by
      rw [← List.cons_append, looks_nl, ← List.cons_append, looks_nl]
    rw [hlk]
    by_cases hl : looks (c :: (t ++ [10])) = true
    · by_cases h6 : (c == 62) = true
      · have hs : sepB (c :: (t ++ [10])) = false := by unfold sepB headM; simp [h6]
        have hu : unquoteL (c :: (t ++ [10])) = t ++ [10] := by unfold unquoteL quotedB headM; simp [hl, h6]
        rw [List.cons_append, hs, hu, hl, h6]
        simp
      · have hs : sepB (c :: (t ++ [10])) = true := by unfold sepB headM; simp [hl, h6]
        rw [List.cons_append, hs, hl]
        simp [h6]
    · have hs : sepB (c :: (t ++ [10])) = false := by unfold sepB; simp [hl]
      have hu : unquoteL (c :: (t ++ [10])) = c :: (t ++ [10]) := by unfold unquoteL quotedB; simp [hl]
      rw [List.cons_append, hs, hu]
      simp [hl]
      cases decR true r <;> simp
theorem decR_last (a : List UInt8) (h : ∀ c ∈ a, c ≠ 10) (ha : a ≠ []) : decR true (a ++ [10]) = if sepB (a ++ [10]) then none else some (unquoteL a) := by
  cases a with
  | nil => exact absurd rfl ha
  | cons c t =>
    have hc : (c == 10) = false := by simpa using h c (by simp)
    have ht : ∀ x ∈ t, x ≠ 10 := fun x hx => h x (by simp [hx])
    rw [sep_behind]
    rw [List.cons_append]
    rw [decR_cons]
    rw [if_neg (by simp), hc, decR_end t ht]
    have hlk : looks (c :: (t ++ [10])) = looks (c :: t) := by rw [← List.cons_append, looks_nl]
    rw [hlk]
    by_cases hl : looks (c :: t) = true
    · by_cases h6 : (c == 62) = true
      · have hs : sepB (c :: t) = false := by unfold sepB headM; simp [h6]
        have hu : unquoteL (c :: t) = t := by unfold unquoteL quotedB headM; simp [hl, h6]
        rw [hs, hu, hl, h6]
        simp
      · have hs : sepB (c :: t) = true := by unfold sepB headM; simp [hl, h6]
        rw [hs, hl]
        simp [h6]
    · have hs : sepB (c :: t) = false := by unfold sepB; simp [hl]
      have hu : unquoteL (c :: t) = c :: t := by unfold unquoteL quotedB; simp [hl]
      rw [hs, hu]
      simp [hl]

theorem decR_eq (m : List UInt8) : decR true (m ++ [10]) = if (linesOf (m ++ [10])).any sepB then none else some (decodeL m) := by
  refine lines_induction (p := fun m => decR true (m ++ [10]) = if (linesOf (m ++ [10])).any sepB then none else some (decodeL m)) rfl (fun a ha h => ?_) (fun a r h ih => ?_) m
  · show decR true (a ++ [10]) = _
    rw [decR_last a h ha, linesOf_nl a [] h]
    have hd : decodeL a = unquoteL a := by unfold decodeL; rw [linesOf_end a h ha]; simp
    rw [hd, linesOf_nil]
    simp
  · show decR true ((a ++ 10 :: r) ++ [10]) = _
    rw [List.append_assoc, List.cons_append, decR_line a _ h (by simp), ih, linesOf_nl a _ h]
    have hd : decodeL (a ++ 10 :: r) = unquoteL (a ++ [10]) ++ decodeL r := by unfold decodeL; rw [linesOf_nl a r h]; simp
    rw [hd, List.any_cons]
    by_cases hs : sepB (a ++ [10]) = true
    · simp [hs]
    · by_cases hr : (linesOf (r ++ [10])).any sepB = true
      · rw [if_pos hr]; simp [hr]
      · rw [if_neg hr]
        have hr' : (linesOf (r ++ [10])).any sepB = false := by simpa using hr
        have hs' : sepB (a ++ [10]) = false := by simpa using hs
        rw [hs', hr']; simp

end Go.Proofs.YtcjnpklmfcbofaaGreatDoor
end

/- mbox (plain): where entries stand. -/
set_option linter.unusedVariables false
set_option linter.unusedSimpArgs false
section
namespace Go.Proofs.YtcjnpklmfcbofaaGreatDoor

/-- the spans: which entry is open (its head and its body), how far we are, the lines that are left -/
def goSp : Option (Nat × Nat) → Nat → List (List UInt8) → Option (List Sp)
  | none, _, [] => some []
  | some c, p, [] => some [⟨c.1, c.2, p⟩]
  | none, p, x :: ls => if sepB x = true then goSp (some (p, p + x.length)) (p + x.length) ls else none
  | some c, p, x :: ls => if sepB x = true then (goSp (some (p, p + x.length)) (p + x.length) ls).map (⟨c.1, c.2, p⟩ :: ·) else goSp (some c) (p + x.length) ls
/-- a text is a message in a file -/
def decOk (l : List UInt8) : Bool := (l.getLast? == some 10) && (decR true l).isSome
theorem last_ten {l : List UInt8} (h : l.getLast? = some 10) : ∃ m, l = m ++ [10] := by
  have hne : l ≠ [] := by rintro rfl; cases h
  refine ⟨l.dropLast, ?_⟩
  have h2 := List.dropLast_concat_getLast hne
  rw [List.getLast?_eq_some_getLast hne] at h
  rw [Option.some.inj h] at h2
  exact h2.symm
theorem dec_yes {l : List UInt8} (h : decOk l = true) : ∃ m, l = m ++ [10] ∧ (∀ x ∈ linesOf (m ++ [10]), sepB x = false) ∧ decR true l = some (decodeL m) := by
  unfold decOk at h
  rw [Bool.and_eq_true, beq_iff_eq] at h
  obtain ⟨m, rfl⟩ := last_ten h.1
  have h2 := h.2
  rw [decR_eq] at h2 ⊢
  by_cases hs : (linesOf (m ++ [10])).any sepB = true
  · rw [if_pos hs] at h2; cases h2
  · rw [if_neg hs]
    refine ⟨m, rfl, fun x hx => ?_, rfl⟩
    have := List.any_eq_false.1 (by simpa using hs) x hx
    simpa using this
theorem dec_no {l : List UInt8} (h : decOk l = false) : (¬ ∃ m, l = m ++ [10]) ∨ ∃ m, l = m ++ [10] ∧ ∃ x ∈ linesOf (m ++ [10]), sepB x = true := by
  by_cases hm : ∃ m, l = m ++ [10]
  · obtain ⟨m, rfl⟩ := hm
    refine .inr ⟨m, rfl, ?_⟩
    unfold decOk at h
    rw [decR_eq] at h
    by_cases hs : (linesOf (m ++ [10])).any sepB = true
    · obtain ⟨x, hx, hx2⟩ := List.any_eq_true.1 hs
      exact ⟨x, hx, hx2⟩
    · rw [if_neg hs] at h
      simp at h
  · exact .inl hm
/-- an entry's first line ends, its text is a message in a file -/
def okSp (file : List UInt8) (s : Sp) : Bool := file[s.body - 1]? == some 10 && decOk ((file.drop s.body).take (s.fin - s.body))
/-- Scan -/
def scanL (file : List UInt8) : Option (List Sp) := match goSp none 0 (linesOf file) with
  | none => none
  | some ss => if ss.all (okSp file) = true then some ss else none
theorem goSp_some : ∀ (ls : List (List UInt8)) (c : Nat × Nat) (p : Nat), ∃ s ss, goSp (some c) p ls = some (s :: ss)
  | [], c, p => ⟨_, _, rfl⟩
  | x :: ls, c, p => by
    unfold goSp
    split
    · obtain ⟨s, ss, h⟩ := goSp_some ls (p, p + x.length) (p + x.length)
      rw [h]
      exact ⟨_, _, rfl⟩
    · exact goSp_some ls c (p + x.length)
theorem goSp_bd : ∀ (ls : List (List UInt8)) (o : Option (Nat × Nat)) (p : Nat) (ss : List Sp), (∀ c, o = some c → c.1 < c.2 ∧ c.2 ≤ p) → (∀ x ∈ ls, x ≠ []) → goSp o p ls = some ss → ∀ s ∈ ss, s.head < s.body ∧ s.body ≤ s.fin ∧ s.fin ≤ p + ls.flatten.length
  | [], none, p, ss, _, _, h, s, hs => by
    cases h; cases hs
  | [], some c, p, ss, hc, _, h, s, hs => by
    cases h
    obtain rfl := List.mem_singleton.1 hs
    have := hc c rfl
    exact ⟨this.1, this.2, by simp⟩
  | x :: ls, none, p, ss, _, hx, h, s, hs => by
    unfold goSp at h
    split at h
    · have hne := List.length_pos_iff.2 (hx x (by simp))
      have := goSp_bd ls (some (p, p + x.length)) (p + x.length) ss (fun c e => by cases e; exact ⟨by simp; omega, by simp⟩) (fun y hy => hx y (List.mem_cons_of_mem _ hy)) h s hs
      simp only [List.flatten_cons, List.length_append]
      omega
    · cases h
  | x :: ls, some c, p, ss, hc, hx, h, s, hs => by
    have hne := List.length_pos_iff.2 (hx x (by simp))
    have hc1 := hc c rfl
    unfold goSp at h
    split at h
    · obtain ⟨tt, ht, he⟩ := Option.map_eq_some_iff.1 h
      subst he
      rcases List.mem_cons.1 hs with rfl | hs
      · simp only [List.flatten_cons, List.length_append]
        exact ⟨hc1.1, hc1.2, by omega⟩
      · have := goSp_bd ls (some (p, p + x.length)) (p + x.length) tt (fun c e => by cases e; exact ⟨by simp; omega, by simp⟩) (fun y hy => hx y (List.mem_cons_of_mem _ hy)) ht s hs
        simp only [List.flatten_cons, List.length_append]
        omega
    · have := goSp_bd ls (some c) (p + x.length) ss (fun c' e => by cases e; exact ⟨hc1.1, by omega⟩) (fun y hy => hx y (List.mem_cons_of_mem _ hy)) h s hs
      simp only [List.flatten_cons, List.length_append]
      omega
theorem goSp_count : ∀ (ls : List (List UInt8)) (o : Option (Nat × Nat)) (p : Nat) (ss : List Sp), goSp o p ls = some ss → ss.length ≤ ls.length + 1
  | [], none, p, ss, h => by cases h; simp
  | [], some c, p, ss, h => by cases h; simp
  | x :: ls, none, p, ss, h => by
    unfold goSp at h
    split at h
    · have := goSp_count ls _ _ ss h; simp; omega
    · cases h
  | x :: ls, some c, p, ss, h => by
    unfold goSp at h
    split at h
    · obtain ⟨tt, ht, he⟩ := Option.map_eq_some_iff.1 h
      subst he
      have := goSp_count ls _ _ tt ht
      simp; omega
    · have := goSp_count ls _ _ ss h; simp; omega
theorem lines_ne (l : List UInt8) : ∀ x ∈ linesOf l, x ≠ [] := fun x hx => (linesOf_mem hx).1
theorem scan_bd {file : List UInt8} {ss : List Sp} (h : scanL file = some ss) : ss.length ≤ file.length + 1 ∧ ∀ s ∈ ss, s.head < s.body ∧ s.body ≤ s.fin ∧ s.fin ≤ file.length ∧ okSp file s = true := by
  unfold scanL at h
  cases hg : goSp none 0 (linesOf file) with
  | none => rw [hg] at h; cases h
  | some tt =>
    rw [hg] at h
    simp only at h
    split at h
    · rename_i hall
      cases h
      have h1 := goSp_count _ _ _ _ hg
      have h2 := linesOf_length file
      refine ⟨by omega, fun s hs => ?_⟩
      have h3 := goSp_bd _ none 0 _ (fun c e => by cases e) (lines_ne file) hg s hs
      rw [linesOf_flatten] at h3
      exact ⟨h3.1, h3.2.1, by omega, List.all_eq_true.1 hall s hs⟩
    · cases h

end Go.Proofs.YtcjnpklmfcbofaaGreatDoor
end

/- mbox (plain): the document's way to where entries stand is the same. -/
set_option linter.unusedVariables false
set_option linter.unusedSimpArgs false
section
namespace Go.Proofs.YtcjnpklmfcbofaaGreatDoor

/-- over the lines that open no entry -/
def skipNo : Nat → List (List UInt8) → Nat × List (List UInt8)
  | p, [] => (p, [])
  | p, x :: ls => if sepB x = true then (p, x :: ls) else skipNo (p + x.length) ls
theorem skip_flat : ∀ (ls : List (List UInt8)) (p : Nat), ∃ b, ls = b ++ (skipNo p ls).2 ∧ (skipNo p ls).1 = p + b.flatten.length
  | [], p => ⟨[], rfl, by simp [skipNo]⟩
  | x :: ls, p => by
    unfold skipNo
    split
    · exact ⟨[], rfl, by simp⟩
    · obtain ⟨b, h1, h2⟩ := skip_flat ls (p + x.length)
      exact ⟨x :: b, by rw [List.cons_append, ← h1], by rw [h2]; simp; omega⟩
theorem skipNo_len (ls : List (List UInt8)) (p : Nat) : (skipNo p ls).2.length ≤ ls.length := by
  obtain ⟨b, h, _⟩ := skip_flat ls p
  have := congrArg List.length h
  rw [List.length_append] at this
  omega
theorem goSp_skip : ∀ (ls : List (List UInt8)) (c : Nat × Nat) (p : Nat), goSp (some c) p ls = (goSp none (skipNo p ls).1 (skipNo p ls).2).map (⟨c.1, c.2, (skipNo p ls).1⟩ :: ·)
  | [], c, p => rfl
  | x :: ls, c, p => by
    by_cases h : sepB x = true
    · have e : skipNo p (x :: ls) = (p, x :: ls) := by rw [skipNo, if_pos h]
      rw [e]
      simp only
      rw [goSp, if_pos h, goSp, if_pos h]
    · have e : skipNo p (x :: ls) = skipNo (p + x.length) ls := by rw [skipNo, if_neg h]
      rw [e, goSp, if_neg h, goSp_skip ls c (p + x.length)]
/-- the document's Scan, over the lines -/
def refGo (file : List UInt8) : Nat → Nat → List (List UInt8) → Option (List Sp)
  | 0, _, _ => some []
  | _ + 1, _, [] => some []
  | f + 1, p, x :: ls => if sepB x = true ∧ x.getLast? = some 10 then
      (if decOk ((file.drop (p + x.length)).take ((skipNo (p + x.length) ls).1 - (p + x.length))) = true then (refGo file f (skipNo (p + x.length) ls).1 (skipNo (p + x.length) ls).2).map (⟨p, p + x.length, (skipNo (p + x.length) ls).1⟩ :: ·) else none) else none
theorem refGo_cons (file : List UInt8) (f p : Nat) (x : List UInt8) (ls : List (List UInt8)) : refGo file (f + 1) p (x :: ls) = if sepB x = true ∧ x.getLast? = some 10 then
      (if decOk ((file.drop (p + x.length)).take ((skipNo (p + x.length) ls).1 - (p + x.length))) = true then (refGo file f (skipNo (p + x.length) ls).1 (skipNo (p + x.length) ls).2).map (⟨p, p + x.length, (skipNo (p + x.length) ls).1⟩ :: ·) else none) else none := rfl
theorem last_at {file pre x r : List UInt8} {p : Nat} (h : file = pre ++ (x ++ r)) (hp : pre.length = p) (hx : x ≠ []) : file[p + x.length - 1]? = x.getLast? := by
  have hpos := List.length_pos_iff.2 hx
  rw [h, List.getElem?_append_right (by omega), List.getElem?_append_left (by omega), hp, List.getLast?_eq_getElem?]
  congr 1
  omega
theorem refGo_eq (file : List UInt8) : ∀ (f : Nat) (ls : List (List UInt8)) (p : Nat) (pre : List UInt8), ls.length < f → file = pre ++ ls.flatten → pre.length = p → (∀ x ∈ ls, x ≠ []) →
    refGo file f p ls = (goSp none p ls).bind fun ss => if ss.all (okSp file) = true then some ss else none
  | 0, ls, _, _, h, _, _, _ => absurd h (by omega)
  | f + 1, [], p, pre, _, _, _, _ => rfl
  | f + 1, x :: ls, p, pre, hf, hfile, hp, hne => by
    have hx := hne x (by simp)
    have hlast := last_at (file := file) (r := ls.flatten) (by rw [hfile]; simp) hp hx
    obtain ⟨b, hb1, hb2⟩ := skip_flat ls (p + x.length)
    have hsl := skipNo_len ls (p + x.length)
    have ih := refGo_eq file f (skipNo (p + x.length) ls).2 (skipNo (p + x.length) ls).1 (pre ++ x ++ b.flatten) (by simp at hf; omega) (by
      rw [hfile, List.flatten_cons]
      conv => lhs; rw [hb1]
      simp) (by rw [hb2]; simp; omega) (fun y hy => hne y (List.mem_cons_of_mem _ (by rw [hb1]; exact List.mem_append_right _ hy)))
    rw [refGo_cons, goSp]
    by_cases hs : sepB x = true
    case neg => rw [if_neg hs, if_neg (fun h => hs h.1)]; rfl
    rw [if_pos hs, goSp_skip]
    simp only
    by_cases h10 : x.getLast? = some 10
    case neg =>
      rw [if_neg (fun h => h10 h.2)]
      cases goSp none (skipNo (p + x.length) ls).1 (skipNo (p + x.length) ls).2 with
      | none => rfl
      | some ss =>
        have : (okSp file ⟨p, p + x.length, (skipNo (p + x.length) ls).1⟩) = false := by
          unfold okSp
          simp only
          rw [hlast]
          have : (x.getLast? == some 10) = false := by simpa using h10
          rw [this]; rfl
        show none = if (List.all (_ :: ss) (okSp file)) = true then _ else none
        rw [List.all_cons, this]; rfl
    rw [if_pos ⟨hs, h10⟩, ih]
    cases goSp none (skipNo (p + x.length) ls).1 (skipNo (p + x.length) ls).2 with
    | none => split <;> rfl
    | some ss =>
      have e : okSp file ⟨p, p + x.length, (skipNo (p + x.length) ls).1⟩ = decOk ((file.drop (p + x.length)).take ((skipNo (p + x.length) ls).1 - (p + x.length))) := by
        unfold okSp
        simp only
        rw [hlast, h10]; rfl
      show (if decOk _ = true then (Option.map _ (if ss.all (okSp file) = true then some ss else none)) else none) = if (List.all (_ :: ss) (okSp file)) = true then _ else none
      rw [List.all_cons, e]
      cases decOk ((file.drop (p + x.length)).take ((skipNo (p + x.length) ls).1 - (p + x.length))) with
      | false => rfl
      | true => cases ss.all (okSp file) <;> rfl
/-- both find the same -/
theorem refScan_same (file : List UInt8) : refGo file ((linesOf file).length + 1) 0 (linesOf file) = scanL file := by
  rw [refGo_eq file _ (linesOf file) 0 [] (by omega) (by rw [linesOf_flatten]; rfl) rfl (lines_ne file)]
  unfold scanL
  cases goSp none 0 (linesOf file) <;> rfl

end Go.Proofs.YtcjnpklmfcbofaaGreatDoor
end

/- mbox (plain): entries one behind the other. -/
set_option linter.unusedVariables false
set_option linter.unusedSimpArgs false
section
namespace Go.Proofs.YtcjnpklmfcbofaaGreatDoor

theorem linesOf_ends (r : List UInt8) : ∀ t : List UInt8, (t = [] ∨ t.getLast? = some 10) → linesOf (t ++ r) = linesOf t ++ linesOf r := by
  refine lines_induction ?_ ?_ ?_
  · intro _; rfl
  · intro a ha hn h
    rcases h with h | h
    · exact absurd h ha
    · obtain ⟨m, hm⟩ := last_ten h
      exact absurd rfl (hn 10 (by rw [hm]; simp))
  · intro a t hn ih _
    rw [List.append_assoc, List.cons_append, linesOf_nl a (t ++ r) hn, linesOf_nl a t hn, List.cons_append]
    rename_i h
    by_cases ht : t = []
    · subst ht; rfl
    · rw [ih (.inr ?_)]
      rcases h with h | h
      · simp at h
      · rw [List.getLast?_append, List.getLast?_cons] at h
        cases hl : t.getLast? with
        | none => rw [List.getLast?_eq_none_iff] at hl; exact absurd hl ht
        | some d => rw [hl] at h; simpa using h
/-- an entry's first line -/
def headOk (h : List UInt8) : Prop := sepB h = true ∧ ∃ a, h = a ++ [10] ∧ ∀ c ∈ a, c ≠ 10
def entL (e : List UInt8 × List UInt8) : List UInt8 := e.1 ++ encodeL e.2
def spansOf : Nat → List (List UInt8 × List UInt8) → List Sp
  | _, [] => []
  | p, e :: es => ⟨p, p + e.1.length, p + (entL e).length⟩ :: spansOf (p + (entL e).length) es
theorem encode_ends (m : List UInt8) : (encodeL m).getLast? = some 10 := by unfold encodeL; simp
theorem ent_lines (e : List UInt8 × List UInt8) (h : headOk e.1) (r : List UInt8) : linesOf (entL e ++ r) = e.1 :: (linesOf (encodeL e.2) ++ linesOf r) := by
  obtain ⟨a, ha, hn⟩ := h.2
  unfold entL
  rw [ha, List.append_assoc, List.append_assoc, List.singleton_append, linesOf_nl a _ hn, linesOf_ends r _ (.inr (encode_ends e.2))]
theorem goSp_over (c : Nat × Nat) : ∀ (b : List (List UInt8)) (p : Nat) (ls : List (List UInt8)), (∀ x ∈ b, sepB x = false) → goSp (some c) p (b ++ ls) = goSp (some c) (p + b.flatten.length) ls
  | [], p, ls, _ => by simp
  | x :: b, p, ls, h => by
    rw [List.cons_append, goSp, if_neg (by rw [h x (by simp)]; simp), goSp_over c b (p + x.length) ls (fun y hy => h y (List.mem_cons_of_mem _ hy))]
    congr 1
    simp; omega
theorem goSp_close (c : Nat × Nat) (p : Nat) (ls : List (List UInt8)) (h : ∀ x r, ls = x :: r → sepB x = true) : goSp (some c) p ls = (goSp none p ls).map (⟨c.1, c.2, p⟩ :: ·) := by
  cases ls with
  | nil => rfl
  | cons x r => rw [goSp, if_pos (h x r rfl), goSp, if_pos (h x r rfl)]
theorem goSp_rows : ∀ (es : List (List UInt8 × List UInt8)) (p : Nat), (∀ e ∈ es, headOk e.1) → goSp none p (linesOf (es.map entL).flatten) = some (spansOf p es)
  | [], p, _ => rfl
  | e :: es, p, h => by
    have h1 := h e (by simp)
    have ih := goSp_rows es (p + (entL e).length) (fun y hy => h y (List.mem_cons_of_mem _ hy))
    have hfirst : ∀ x r, linesOf (es.map entL).flatten = x :: r → sepB x = true := by
      intro x r hx
      cases es with
      | nil => cases hx
      | cons e2 es =>
        rw [List.map_cons, List.flatten_cons, ent_lines e2 (h e2 (by simp))] at hx
        cases hx
        exact (h e2 (by simp)).1
    rw [List.map_cons, List.flatten_cons, ent_lines e h1, goSp, if_pos h1.1, goSp_over _ _ _ _ (encode_nosep e.2), linesOf_flatten, goSp_close _ _ _ hfirst,
      show p + e.1.length + (encodeL e.2).length = p + (entL e).length by simp [entL]; omega, ih]
    rfl
/-- what stands at each span -/
theorem spans_at : ∀ (es : List (List UInt8 × List UInt8)) (pre : List UInt8) (p : Nat), pre.length = p → ∀ (k : Nat) (s : Sp), (spansOf p es)[k]? = some s → ∃ e, es[k]? = some e ∧ ((pre ++ (es.map entL).flatten).drop s.head).take (s.fin - s.head) = entL e ∧ ((pre ++ (es.map entL).flatten).drop s.body).take (s.fin - s.body) = encodeL e.2 ∧ s.body = s.head + e.1.length ∧ s.fin = s.head + (entL e).length ∧ s.fin ≤ (pre ++ (es.map entL).flatten).length ∧ (pre ++ (es.map entL).flatten).drop s.head = entL e ++ (pre ++ (es.map entL).flatten).drop s.fin
  | [], _, _, _, k, s, h => by simp [spansOf] at h
  | e :: es, pre, p, hp, 0, s, h => by
    simp only [spansOf, List.getElem?_cons_zero, Option.some.injEq] at h
    subst h
    have hd : (pre ++ ((e :: es).map entL).flatten).drop p = entL e ++ (es.map entL).flatten := by rw [← hp]; simp
    have hd2 : (pre ++ ((e :: es).map entL).flatten).drop (p + e.1.length) = encodeL e.2 ++ (es.map entL).flatten := by
      rw [← List.drop_drop, hd, entL, List.append_assoc, List.drop_left]
    have hd3 : (pre ++ ((e :: es).map entL).flatten).drop (p + (entL e).length) = (es.map entL).flatten := by
      rw [← List.drop_drop, hd, List.drop_left]
    have hle : (entL e).length = e.1.length + (encodeL e.2).length := by simp [entL]
    refine ⟨e, rfl, ?_, ?_, rfl, rfl, ?_, ?_⟩
    · simp only
      rw [hd, show p + (entL e).length - p = (entL e).length by omega, List.take_left]
    · simp only
      rw [hd2, show p + (entL e).length - (p + e.1.length) = (encodeL e.2).length by omega, List.take_left]
    · simp; omega
    · simp only
      rw [hd, hd3]
  | e :: es, pre, p, hp, k + 1, s, h => by
    simp only [spansOf, List.getElem?_cons_succ] at h
    obtain ⟨e2, h1, h2⟩ := spans_at es (pre ++ entL e) (p + (entL e).length) (by simp; omega) k s h
    have e9 : pre ++ entL e ++ (es.map entL).flatten = pre ++ ((e :: es).map entL).flatten := by simp
    rw [e9] at h2
    exact ⟨e2, by rw [List.getElem?_cons_succ]; exact h1, h2⟩
theorem spansOf_len : ∀ (es : List (List UInt8 × List UInt8)) (p : Nat), (spansOf p es).length = es.length
  | [], _ => rfl
  | e :: es, p => by simp [spansOf, spansOf_len es]
theorem decode_ok (m : List UInt8) : decOk (encodeL m) = true ∧ ∃ t, encodeL m = t ++ [10] ∧ decodeL t = m := by
  have he : encodeL m = ((linesOf m).map quoteL).flatten ++ [10] := rfl
  have hd := decode_encode m
  refine ⟨?_, _, he, hd⟩
  have hns := encode_nosep m
  unfold decOk
  rw [encode_ends, he, decR_eq, if_neg]
  · rfl
  · rw [← he]
    intro h
    obtain ⟨x, hx, hx2⟩ := List.any_eq_true.1 h
    rw [hns x hx] at hx2
    cases hx2
/-- entries one behind the other are a file in form -/
theorem scan_rows (es : List (List UInt8 × List UInt8)) (h : ∀ e ∈ es, headOk e.1) : scanL (es.map entL).flatten = some (spansOf 0 es) := by
  unfold scanL
  rw [goSp_rows es 0 h]
  simp only
  rw [if_pos]
  rw [List.all_eq_true]
  intro s hs
  obtain ⟨k, hk⟩ := List.getElem?_of_mem hs
  obtain ⟨e, h1, _, h3, h4, h5, h6, h7⟩ := spans_at es [] 0 rfl k s hk
  rw [List.nil_append] at h3 h6 h7
  unfold okSp
  rw [h3, (decode_ok e.2).1, Bool.and_true, beq_iff_eq]
  obtain ⟨a, ha, _⟩ := (h e (List.mem_of_getElem? h1)).2
  have hl : e.1.length = a.length + 1 := by rw [ha]; simp
  rw [h4, show s.head + e.1.length - 1 = s.head + a.length by omega, ← List.getElem?_drop, h7, entL, ha]
  simp

end Go.Proofs.YtcjnpklmfcbofaaGreatDoor
end
