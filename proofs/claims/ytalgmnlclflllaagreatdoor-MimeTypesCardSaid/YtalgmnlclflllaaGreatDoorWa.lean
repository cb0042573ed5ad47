/- Texts of one walk, merged: XT XS XSl XLm XLp XHm XI1 XHp XHq. -/
import Derived.WalkKit
import Derived.WalkLawsBesides
import Derived.WalkSpells
import Derived.Lib.Hide
import Derived.Deep.QuietTactic
import Derived.BigQuiet
import Derived.Test.YtalgmnlclflllaaGreatDoorProg
import Derived.Laws.BytesArg
import Derived.Lib.IndexBytes
import Derived.Lib.Strings
import Derived.Lib.SlTrimSet

/- Small tools of the walks: worlds that grow, cells that stay. -/
set_option linter.unusedVariables false
set_option linter.unusedSimpArgs false
section
set_option linter.unusedVariables false
set_option linter.unusedSimpArgs false
namespace Go.Proofs.YtalgmnlclflllaaGreatDoor
open Go.RowKit

theorem ret_int {k : IntKind} {a b : Int} (h : a = b) : Ending.returned (.int k a) = .returned (.int k b) := by rw [h]

theorem cell_lt {w : World} {p : Addr} {v : Value} (h : w.cell? p = some v) : p.block < w.heap.size := by
  rcases Nat.lt_or_ge p.block w.heap.size with h1 | h1
  · exact h1
  · simp [World.cell?, Array.getElem?_eq_none h1] at h

theorem cell_alloc {w : World} {p : Addr} {v : Value} (h : w.cell? p = some v) (o : Obj) : (w.alloc o).cell? p = some v := by
  rw [((Below.refl _ w).alloc (Nat.le_refl _) o).cell (cell_lt h)]; exact h

theorem below_drewN {B : Nat} {a w : World} (h : Below B a w) (n : Nat) : Below B a (w.drewN n) := ⟨h.os, h.tape, h.output, h.size, h.block⟩

/-- behind a callee that made memory: all old cells and marks read as before -/
theorem bcell {W w1 : World} (hb : Below W.heap.size W w1) : (∀ b o, b < W.heap.size → w1.cell? ⟨b, o, none⟩ = W.cell? ⟨b, o, none⟩) ∧ (∀ b o, b < W.heap.size → w1.frozen? ⟨b, o, none⟩ = W.frozen? ⟨b, o, none⟩) :=
  ⟨fun b o h => hb.cell (p := ⟨b, o, none⟩) h, fun b o h => hb.frozen (p := ⟨b, o, none⟩) h⟩

theorem heap_new (w : World) (o : Obj) : (w.alloc o).heap[w.heap.size]? = some o := by
  show (w.heap.push o)[w.heap.size]? = _
  simp
theorem heap_old (w : World) (o : Obj) (k : Nat) (h : k < w.heap.size) : (w.alloc o).heap[k]? = w.heap[k]? := Below.heap_alloc w o k h
theorem size_alloc (w : World) (o : Obj) : (w.alloc o).heap.size = w.heap.size + 1 := by simp

/-! ### A region that draws its order, whose operations only read old cells and whose callees may make memory: one walk, in the text's order -/

/-- a world that has grown beyond w -/
structure Grow (w : World) where
  v : World
  h : Below w.heap.size w v
instance (w : World) : Nonempty (Grow w) := ⟨⟨w, Below.refl _ _⟩⟩

theorem Grow.cell {w : World} {p : Addr} {v : Value} (g : Grow w) (h : w.cell? p = some v) : g.v.cell? p = some v := (g.h.cell (cell_lt h)).trans h

theorem grow_call {P : Program} {w : World} {g : Grow w} {f : FuncId} {args : Array Value} {v : Value} (h : Calls P f args g.v fun e w' => e = .returned v ∧ Below g.v.heap.size g.v w') :
    Calls P f args g.v fun e w'' => e = .returned v ∧ ∃ g' : Grow w, w'' = g'.v :=
  h.mono fun _ w'' ⟨he, hb⟩ => ⟨he, ⟨w'', g.h.trans (hb.mono g.h.size)⟩, rfl⟩
theorem grow_same {P : Program} {w : World} {g : Grow w} {f : FuncId} {args : Array Value} {v : Value} (h : Calls P f args g.v fun e w' => e = .returned v ∧ w' = g.v) :
    Calls P f args g.v fun e w'' => e = .returned v ∧ ∃ g' : Grow w, w'' = g'.v :=
  h.mono fun _ _ ⟨he, hb⟩ => ⟨he, g, hb⟩

theorem wp_region_grow {P : Program} {id : Nat} {Q : Exit → Act → World → Prop} {a : Act} {w : World} {l : List Oper} (hm : P.follows .mixedOrders = true) (hB : Region.lexB .any l.toArray = true)
    (h : wpQuiet P l.toArray (fun w' => ∃ g : Grow w, w' = g.v) (fun a' => ∀ w', (∃ g : Grow w, w' = g.v) → Q .normal a' w') l a) : (Code.region id l.toArray true).wp P Q a w :=
  wp_region_quiet (C := fun w' => ∃ g : Grow w, w' = g.v) hm hB ⟨⟨w.drew, (Below.refl _ _).drew⟩, rfl⟩ (by simpa using h)

end Go.Proofs.YtalgmnlclflllaaGreatDoor
end

/- Strings as the lists of their bytes. -/
set_option linter.unusedVariables false
set_option linter.unusedSimpArgs false
section
namespace Go.Proofs.YtalgmnlclflllaaGreatDoor
open Go.RowKit

/-- a string, as the list of its bytes -/
abbrev bs (l : List UInt8) : ByteArray := ⟨l.toArray⟩

theorem bs_size (l : List UInt8) : (bs l).size = l.length := by simp [ByteArray.size]
theorem bs_append (a b : List UInt8) : bs a ++ bs b = bs (a ++ b) := by
  apply ByteArray.ext
  simp
theorem bs_take (l : List UInt8) (n : Nat) : (bs l).extract 0 n = bs (l.take n) := by
  apply ByteArray.ext
  simp [ByteArray.data_extract]
theorem bs_drop (l : List UInt8) (n m : Nat) (h : l.length ≤ m) : (bs l).extract n m = bs (l.drop n) := by
  apply ByteArray.ext
  simp [ByteArray.data_extract]
  rw [List.take_of_length_le (by simp; omega)]

/-- s[:n], s[n:] of a string given as a list -/
theorem run_to (l : List UInt8) (n : Nat) (h : n ≤ l.length) (w : World) : (Instr.slice 9 (.string (bs l)) none (some (.int .i64 n)) none).run Tryz.prog w = .ok (.string (bs (l.take n))) w := by
  rw [run_slice_string_to_if w _ _ _ _ Tryz.underlying9, if_pos (by rw [bs_size]; omega)]
  simp [bs_take]
theorem run_from (l : List UInt8) (n : Nat) (h : n ≤ l.length) (w : World) : (Instr.slice 9 (.string (bs l)) (some (.int .i64 n)) none none).run Tryz.prog w = .ok (.string (bs (l.drop n))) w := by
  rw [run_slice_string_from_if w _ _ _ _ Tryz.underlying9, if_pos (by rw [bs_size]; omega)]
  simp [bs_drop, bs_size]

theorem bs_mid (l : List UInt8) (i j : Nat) : (bs l).extract i j = bs ((l.drop i).take (j - i)) := by
  apply ByteArray.ext
  simp [ByteArray.data_extract, List.drop_take]
/-- s[i:j] -/
theorem run_mid (l : List UInt8) (i j : Nat) (h : i ≤ j) (hj : j ≤ l.length) (w : World) : (Instr.slice 9 (.string (bs l)) (some (.int .i64 i)) (some (.int .i64 j)) none).run Tryz.prog w = .ok (.string (bs ((l.drop i).take (j - i)))) w := by
  rw [run_slice_string_if w _ _ _ _ _ _ Tryz.underlying9, if_pos (by rw [bs_size]; omega), if_pos (by omega)]
  simp [bs_mid]

end Go.Proofs.YtalgmnlclflllaaGreatDoor
end

/- Small letters (plain). -/
set_option linter.unusedVariables false
set_option linter.unusedSimpArgs false
section
namespace Go.Proofs.YtalgmnlclflllaaGreatDoor

/-- a byte's small letter -/
def lowB (c : UInt8) : UInt8 := if 65 ≤ c.toNat ∧ c.toNat ≤ 90 then c + 32 else c
def lowL (l : List UInt8) : List UInt8 := l.map lowB
theorem lowL_length (l : List UInt8) : (lowL l).length = l.length := by simp [lowL]
theorem lowB_yes {c : UInt8} (h1 : 65 ≤ c.toNat) (h2 : c.toNat ≤ 90) : (lowB c).toNat = c.toNat + 32 := by
  unfold lowB
  rw [if_pos ⟨h1, h2⟩, UInt8.toNat_add]
  simp; omega
theorem lowB_no {c : UInt8} (h : ¬ (65 ≤ c.toNat ∧ c.toNat ≤ 90)) : lowB c = c := by
  unfold lowB; rw [if_neg h]
theorem low_take {l : List UInt8} {k : Nat} (h : k < l.length) {c : UInt8} (hc : l.getD k 0 = c) : (lowL l).take (k + 1) = (lowL l).take k ++ [lowB c] := by
  have e : l[k]? = some c := by rw [← hc]; simp [List.getD, h]
  rw [List.take_add_one]
  congr 1
  simp [lowL, e]

end Go.Proofs.YtalgmnlclflllaaGreatDoor
end

/- Plain facts on lines: cutting a list of bytes at its first line feed. -/
set_option linter.unusedVariables false
set_option linter.unusedSimpArgs false
section
namespace Go.Proofs.YtalgmnlclflllaaGreatDoor

/-- what is ahead of the first line feed, and what is behind it -/
def cutNl : List UInt8 → Option (List UInt8 × List UInt8)
  | [] => none
  | c :: r => if c = 10 then some ([], r) else match cutNl r with
    | none => none
    | some (a, b) => some (c :: a, b)

theorem cutNl_some {h s r : List UInt8} (e : cutNl h = some (s, r)) : h = s ++ 10 :: r ∧ ∀ c ∈ s, c ≠ 10 := by
  induction h generalizing s r with
  | nil => simp [cutNl] at e
  | cons c t ih =>
    unfold cutNl at e
    by_cases hc : c = 10
    · rw [if_pos hc] at e
      obtain ⟨rfl, rfl⟩ := Prod.mk.inj (Option.some.inj e)
      exact ⟨by simp [hc], by simp⟩
    · rw [if_neg hc] at e
      cases hq : cutNl t with
      | none => rw [hq] at e; cases e
      | some p =>
        obtain ⟨a, b⟩ := p
        rw [hq] at e
        obtain ⟨rfl, rfl⟩ := Prod.mk.inj (Option.some.inj e)
        obtain ⟨h1, h2⟩ := ih hq
        exact ⟨by rw [h1]; simp, by intro x hx; rcases List.mem_cons.1 hx with rfl | hx; exact hc; exact h2 x hx⟩

theorem cutNl_none {h : List UInt8} (e : cutNl h = none) : ∀ c ∈ h, c ≠ 10 := by
  induction h with
  | nil => simp
  | cons c t ih =>
    unfold cutNl at e
    by_cases hc : c = 10
    · rw [if_pos hc] at e; cases e
    · rw [if_neg hc] at e
      cases hq : cutNl t with
      | none => intro x hx; rcases List.mem_cons.1 hx with rfl | hx; exact hc; exact ih hq x hx
      | some p => rw [hq] at e; cases e

theorem cutNl_mk (s r : List UInt8) (h : ∀ c ∈ s, c ≠ 10) : cutNl (s ++ 10 :: r) = some (s, r) := by
  induction s with
  | nil => simp [cutNl]
  | cons c t ih =>
    have hc : c ≠ 10 := h c (by simp)
    simp [cutNl, hc, ih (fun x hx => h x (by simp [hx]))]

theorem cutNl_no (h : List UInt8) (e : ∀ c ∈ h, c ≠ 10) : cutNl h = none := by
  cases hq : cutNl h with
  | none => rfl
  | some p =>
    obtain ⟨a, b⟩ := p
    obtain ⟨h1, _⟩ := cutNl_some hq
    exact absurd rfl (e 10 (by rw [h1]; simp))

theorem index_both (h : List UInt8) : Lib.indexByte h 10 = match cutNl h with | none => -1 | some (s, _) => (s.length : Int) := by
  induction h with
  | nil => rfl
  | cons c t ih =>
    unfold Lib.indexByte cutNl
    by_cases hc : c = 10
    · simp [hc]
    · simp only [beq_iff_eq, hc, if_false]
      cases hq : cutNl t with
      | none => rw [hq] at ih; simp [ih]
      | some p =>
        obtain ⟨a, b⟩ := p
        rw [hq] at ih
        simp only at ih
        rw [ih, if_neg (by omega)]
        simp
theorem index_some {h s r : List UInt8} (e : cutNl h = some (s, r)) : Lib.indexByte h 10 = (s.length : Int) := by
  rw [index_both, e]
theorem index_none {h : List UInt8} (e : cutNl h = none) : Lib.indexByte h 10 = -1 := by
  rw [index_both, e]

/-- a line as it is told: its text, and whether it is too long -/
def lineText (s : List UInt8) : List UInt8 := if s.length > 1000 then [] else Lib.trimSuffix s [13]
def lineLong (s : List UInt8) : Bool := decide (s.length > 1000)

end Go.Proofs.YtalgmnlclflllaaGreatDoor
end

/- Plain facts on a text's lines. -/
set_option linter.unusedVariables false
set_option linter.unusedSimpArgs false
section
namespace Go.Proofs.YtalgmnlclflllaaGreatDoor

/-- a text's lines, each with its end -/
def linesOf : List UInt8 → List (List UInt8)
  | [] => []
  | c :: r => if c = 10 then [10] :: linesOf r else match linesOf r with
    | [] => [[c]]
    | x :: xs => (c :: x) :: xs

theorem linesOf_nil : linesOf [] = [] := rfl
theorem linesOf_cons (c : UInt8) (r : List UInt8) : linesOf (c :: r) = if c = 10 then [10] :: linesOf r else match linesOf r with | [] => [[c]] | x :: xs => (c :: x) :: xs := rfl
theorem linesOf_nl (a r : List UInt8) (h : ∀ c ∈ a, c ≠ 10) : linesOf (a ++ 10 :: r) = (a ++ [10]) :: linesOf r := by
  induction a with
  | nil => simp [linesOf]
  | cons c t ih =>
    have hc : c ≠ 10 := h c (by simp)
    rw [List.cons_append]
    rw [linesOf_cons]
    rw [if_neg hc, ih (fun x hx => h x (by simp [hx]))]
    rfl
theorem linesOf_end (a : List UInt8) (h : ∀ c ∈ a, c ≠ 10) (ha : a ≠ []) : linesOf a = [a] := by
  induction a with
  | nil => exact absurd rfl ha
  | cons c t ih =>
    have hc : c ≠ 10 := h c (by simp)
    rw [linesOf_cons]
    rw [if_neg hc]
    cases t with
    | nil => rfl
    | cons d t => rw [ih (fun x hx => h x (by simp [hx])) (by simp)]

/-- by the first line feed -/
theorem linesOf_cut {l s r : List UInt8} (h : cutNl l = some (s, r)) : linesOf l = (s ++ [10]) :: linesOf r := by
  obtain ⟨rfl, h2⟩ := cutNl_some h
  exact linesOf_nl s r h2
theorem linesOf_cutNo {l : List UInt8} (h : cutNl l = none) (hl : l ≠ []) : linesOf l = [l] := linesOf_end l (cutNl_none h) hl

/-- rows that are a text's lines -/
def wfLines : List (List UInt8) → Prop
  | [] => True
  | [x] => x ≠ [] ∧ ∀ c ∈ x.dropLast, c ≠ 10
  | x :: y :: r => (∃ a, x = a ++ [10] ∧ ∀ c ∈ a, c ≠ 10) ∧ wfLines (y :: r)

/-- an induction by a text's lines -/
theorem lines_induction {p : List UInt8 → Prop} (h0 : p []) (h1 : ∀ a, a ≠ [] → (∀ c ∈ a, c ≠ 10) → p a) (h2 : ∀ a r, (∀ c ∈ a, c ≠ 10) → p r → p (a ++ 10 :: r)) : ∀ l, p l := by
  intro l
  induction h : l.length using Nat.strongRecOn generalizing l with
  | ind m ih =>
    subst h
    cases hc : cutNl l with
    | none =>
      by_cases hl : l = []
      · rw [hl]; exact h0
      · exact h1 l hl (cutNl_none hc)
    | some p =>
      obtain ⟨s, r⟩ := p
      obtain ⟨e, hs⟩ := cutNl_some hc
      rw [e]
      exact h2 s r hs (ih r.length (by rw [e]; simp; omega) r rfl)

theorem linesOf_flatten (l : List UInt8) : (linesOf l).flatten = l := by
  refine lines_induction (p := fun l => (linesOf l).flatten = l) rfl (fun a ha h => ?_) (fun a r h ih => ?_) l
  · show (linesOf a).flatten = a
    rw [linesOf_end a h ha]; simp
  · show (linesOf (a ++ 10 :: r)).flatten = a ++ 10 :: r
    rw [linesOf_nl a r h]; simp [ih]

theorem wf_cons (a : List UInt8) (h : ∀ c ∈ a, c ≠ 10) (ls : List (List UInt8)) (hl : wfLines ls) : wfLines ((a ++ [10]) :: ls) := by
  cases ls with
  | nil => exact ⟨by simp, by simpa using h⟩
  | cons y r => exact ⟨⟨a, rfl, h⟩, hl⟩

theorem linesOf_wf (l : List UInt8) : wfLines (linesOf l) := by
  refine lines_induction (p := fun l => wfLines (linesOf l)) trivial (fun a ha h => ?_) (fun a r h ih => ?_) l
  · show wfLines (linesOf a)
    rw [linesOf_end a h ha]
    exact ⟨ha, fun c hc => h c (List.dropLast_subset _ hc)⟩
  · show wfLines (linesOf (a ++ 10 :: r))
    rw [linesOf_nl a r h]
    exact wf_cons a h _ ih

theorem linesOf_single (x : List UInt8) (hx : x ≠ []) (h : ∀ c ∈ x.dropLast, c ≠ 10) : linesOf x = [x] := by
  by_cases e : x.getLast hx = 10
  · have : x = x.dropLast ++ 10 :: [] := by rw [← e]; exact (List.dropLast_concat_getLast hx).symm
    rw [this, linesOf_nl _ _ h]; rfl
  · refine linesOf_end x (fun c hc => ?_) hx
    rw [← List.dropLast_concat_getLast hx] at hc
    rcases List.mem_append.1 hc with hc | hc
    · exact h c hc
    · rw [List.mem_singleton.1 hc]; exact e

theorem linesOf_of_wf : ∀ (ls : List (List UInt8)), wfLines ls → linesOf ls.flatten = ls
  | [], _ => rfl
  | [x], ⟨hx, h⟩ => by simp only [List.flatten_cons, List.flatten_nil, List.append_nil]; exact linesOf_single x hx h
  | x :: y :: r, ⟨⟨a, e, h⟩, hr⟩ => by
    rw [List.flatten_cons, e, List.append_assoc, List.singleton_append, linesOf_nl a _ h, linesOf_of_wf (y :: r) hr]

theorem linesOf_length (l : List UInt8) : (linesOf l).length ≤ l.length := by
  refine lines_induction (p := fun l => (linesOf l).length ≤ l.length) (by simp [linesOf]) (fun a ha h => ?_) (fun a r h ih => ?_) l
  · show (linesOf a).length ≤ a.length
    rw [linesOf_end a h ha]
    cases a with
    | nil => exact absurd rfl ha
    | cons c t => simp
  · show (linesOf (a ++ 10 :: r)).length ≤ (a ++ 10 :: r).length
    rw [linesOf_nl a r h]; simp; omega

theorem linesOf_mem {l x : List UInt8} (h : x ∈ linesOf l) : x ≠ [] ∧ x.length ≤ l.length := by
  revert x
  refine lines_induction (p := fun l => ∀ {x}, x ∈ linesOf l → x ≠ [] ∧ x.length ≤ l.length) (by simp [linesOf]) (fun a ha h => ?_) (fun a r h ih => ?_) l
  · intro x hx
    rw [linesOf_end a h ha] at hx
    obtain rfl := List.mem_singleton.1 hx
    exact ⟨ha, Nat.le_refl _⟩
  · intro x hx
    rw [linesOf_nl a r h] at hx
    rcases List.mem_cons.1 hx with rfl | hx
    · exact ⟨by simp, by simp⟩
    · obtain ⟨h1, h2⟩ := ih hx
      exact ⟨h1, by simp; omega⟩

end Go.Proofs.YtalgmnlclflllaaGreatDoor
end

/- Plain facts on headers. -/
set_option linter.unusedVariables false
set_option linter.unusedSimpArgs false
section
namespace Go.Proofs.YtalgmnlclflllaaGreatDoor

/-- a field: its name, its value, where it stands -/
structure Fld where
  name : List UInt8
  value : List UInt8
  pos : Nat
  fin : Nat

/-- a line less its end -/
def textL (l : List UInt8) : List UInt8 := if Lib.hasSuffix l [10] then Lib.trimSuffix (Lib.trimSuffix l [10]) [13] else l
def blankB (c : UInt8) : Bool := c == 32 || c == 9
def goesB : List UInt8 → Bool
  | [] => false
  | c :: _ => blankB c
def okC (c : UInt8) : Bool := decide (33 ≤ c.toNat) && decide (c.toNat ≤ 126)
/-- what is ahead of the first ":", and what is behind it -/
def cutC : List UInt8 → Option (List UInt8 × List UInt8)
  | [] => none
  | c :: r => if c = 58 then some ([], r) else match cutC r with
    | none => none
    | some (a, b) => some (c :: a, b)
/-- a field's name and what is behind the ":" -/
def nameL (t : List UInt8) : Option (List UInt8 × List UInt8) :=
  match cutC t with
  | none => none
  | some (n, r) => if n ≠ [] ∧ n.all okC = true then some (n, r) else none

/-- what a line turns: the fields, whether the last one may go on, whether the header goes on -/
def turnL (fs : List Fld) (op : Bool) (p q : Nat) (t : List UInt8) : List Fld × Bool × Bool :=
  if t = [] then (fs, op, false)
  else if goesB t = true then
    (match op, fs.getLast? with
     | true, some f => (fs.dropLast ++ [{ f with value := f.value ++ t, fin := q }], true, true)
     | _, _ => (fs, op, true))
  else match nameL t with
    | some (n, v) => (fs ++ [⟨n, v, p, q⟩], true, true)
    | none => (fs, false, true)

/-- over the lines -/
def goL (fs : List Fld) (op : Bool) (p : Nat) : List (List UInt8) → List Fld × Nat
  | [] => (fs, p)
  | l :: ls =>
    if (turnL fs op p (p + l.length) (textL l)).2.2 = true then goL (turnL fs op p (p + l.length) (textL l)).1 (turnL fs op p (p + l.length) (textL l)).2.1 (p + l.length) ls
    else ((turnL fs op p (p + l.length) (textL l)).1, p + l.length)

def trimB (l : List UInt8) : List UInt8 := Lib.trimS l [32, 9]
def trimF (f : Fld) : Fld := { f with value := trimB f.value }
/-- a message's fields -/
def fieldsL (m : List UInt8) : List Fld := (goL [] false 0 (linesOf m)).1.map trimF
def bodyL (m : List UInt8) : Nat := (goL [] false 0 (linesOf m)).2

/-! ### the document's fields: a line and those that go on -/

/-- the lines that go on: what they add, where they end, what is left -/
def contL (p : Nat) : List (List UInt8) → List UInt8 × Nat × List (List UInt8)
  | [] => ([], p, [])
  | l :: ls => if goesB (textL l) = true then (textL l ++ (contL (p + l.length) ls).1, (contL (p + l.length) ls).2.1, (contL (p + l.length) ls).2.2) else ([], p, l :: ls)

theorem contL_len (p : Nat) (ls : List (List UInt8)) : (contL p ls).2.2.length ≤ ls.length := by
  induction ls generalizing p with
  | nil => simp [contL]
  | cons l ls ih =>
    unfold contL
    split
    · have := ih (p + l.length); simp; omega
    · simp

def refL (p : Nat) : List (List UInt8) → List Fld × Nat
  | [] => ([], p)
  | l :: ls =>
    if textL l = [] then ([], p + l.length)
    else
      let c := contL (p + l.length) ls
      let r := refL c.2.1 c.2.2
      (match nameL (textL l) with
       | some (n, v) => if goesB (textL l) = true then r.1 else ⟨n, trimB (v ++ c.1), p, c.2.1⟩ :: r.1
       | none => r.1, r.2)
termination_by ls => ls.length
decreasing_by
  have := contL_len (p + l.length) ls
  simp
  omega

theorem refL_cons (p : Nat) (l : List UInt8) (ls : List (List UInt8)) : refL p (l :: ls) =
    if textL l = [] then ([], p + l.length)
    else (match nameL (textL l) with
       | some (n, v) => if goesB (textL l) = true then (refL (contL (p + l.length) ls).2.1 (contL (p + l.length) ls).2.2).1 else ⟨n, trimB (v ++ (contL (p + l.length) ls).1), p, (contL (p + l.length) ls).2.1⟩ :: (refL (contL (p + l.length) ls).2.1 (contL (p + l.length) ls).2.2).1
       | none => (refL (contL (p + l.length) ls).2.1 (contL (p + l.length) ls).2.2).1, (refL (contL (p + l.length) ls).2.1 (contL (p + l.length) ls).2.2).2) := by
  rw [refL]

theorem goesB_ne {t : List UInt8} (h : goesB t = true) : t ≠ [] := by
  rintro rfl; cases h

/-- the lines that go on behind an open field -/
theorem goL_open (fs : List Fld) (f : Fld) (p : Nat) (ls : List (List UInt8)) : (f.fin = p) → goL (fs ++ [f]) true p ls = goL (fs ++ [{ f with value := f.value ++ (contL p ls).1, fin := (contL p ls).2.1 }]) true (contL p ls).2.1 (contL p ls).2.2 := by
  induction ls generalizing f p with
  | nil => rintro rfl; simp [contL, goL]
  | cons l ls ih =>
    intro hp
    by_cases h : goesB (textL l) = true
    · have hc : contL p (l :: ls) = (textL l ++ (contL (p + l.length) ls).1, (contL (p + l.length) ls).2.1, (contL (p + l.length) ls).2.2) := by
        rw [contL, if_pos h]
      have ht : turnL (fs ++ [f]) true p (p + l.length) (textL l) = (fs ++ [{ f with value := f.value ++ textL l, fin := p + l.length }], true, true) := by
        unfold turnL
        rw [if_neg (goesB_ne h), if_pos h]
        simp
      rw [goL, ht, if_pos rfl, ih { f with value := f.value ++ textL l, fin := p + l.length } (p + l.length) rfl, hc]
      simp
    · have hc : contL p (l :: ls) = ([], p, l :: ls) := by rw [contL, if_neg h]
      rw [hc]
      subst hp
      simp
theorem goL_shut (fs : List Fld) (p : Nat) (ls : List (List UInt8)) : goL fs false p ls = goL fs false (contL p ls).2.1 (contL p ls).2.2 := by
  induction ls generalizing p with
  | nil => simp [contL, goL]
  | cons l ls ih =>
    by_cases h : goesB (textL l) = true
    · have hc : contL p (l :: ls) = (textL l ++ (contL (p + l.length) ls).1, (contL (p + l.length) ls).2.1, (contL (p + l.length) ls).2.2) := by
        rw [contL, if_pos h]
      have ht : turnL fs false p (p + l.length) (textL l) = (fs, false, true) := by
        unfold turnL
        rw [if_neg (goesB_ne h), if_pos h]
      rw [goL, ht, if_pos rfl, ih (p + l.length), hc]
    · have hc : contL p (l :: ls) = ([], p, l :: ls) := by rw [contL, if_neg h]
      rw [hc]
/-- where the next line does not go on, it is one whether the last field may go on -/
theorem goL_either (fs : List Fld) (p : Nat) (ls : List (List UInt8)) (h : ∀ l r, ls = l :: r → goesB (textL l) = false) : goL fs true p ls = goL fs false p ls := by
  cases ls with
  | nil => rfl
  | cons l r =>
    have hg := h l r rfl
    have ht : turnL fs true p (p + l.length) (textL l) = ((turnL fs false p (p + l.length) (textL l)).1, (if textL l = [] then true else (turnL fs false p (p + l.length) (textL l)).2.1), (turnL fs false p (p + l.length) (textL l)).2.2) := by
      unfold turnL
      by_cases h0 : textL l = []
      · simp [h0]
      · simp only [h0, if_false, hg]
        cases nameL (textL l) with
        | none => simp
        | some q => simp
    rw [goL, goL, ht]
    by_cases h0 : textL l = []
    · have : (turnL fs false p (p + l.length) (textL l)).2.2 = false := by unfold turnL; simp [h0]
      simp [this]
    · simp [h0]
theorem contL_stop (p : Nat) (ls : List (List UInt8)) : ∀ l r, (contL p ls).2.2 = l :: r → goesB (textL l) = false := by
  induction ls generalizing p with
  | nil => intro l r h; simp [contL] at h
  | cons x ls ih =>
    intro l r h
    unfold contL at h
    by_cases hg : goesB (textL x) = true
    · rw [if_pos hg] at h; exact ih _ l r h
    · rw [if_neg hg] at h
      simp at h
      rw [← h.1]; simpa using hg

/-- the two ways to read a header tell the same -/
theorem goL_ref (n : Nat) : ∀ (ls : List (List UInt8)), ls.length ≤ n → ∀ (fs : List Fld) (p : Nat), ((goL fs false p ls).1.map trimF, (goL fs false p ls).2) = (fs.map trimF ++ (refL p ls).1, (refL p ls).2) := by
  induction n with
  | zero =>
    intro ls hl fs p
    obtain rfl : ls = [] := List.eq_nil_of_length_eq_zero (by omega)
    simp [goL, refL]
  | succ n ih =>
    intro ls hl fs p
    cases ls with
    | nil => simp [goL, refL]
    | cons l ls =>
      simp only [List.length_cons] at hl
      rw [refL_cons]
      by_cases h0 : textL l = []
      · have ht : turnL fs false p (p + l.length) (textL l) = (fs, false, false) := by unfold turnL; rw [if_pos h0]
        rw [goL, ht, if_neg (by simp), if_pos h0]
        simp
      · rw [if_neg h0]
        have hcl := contL_len (p + l.length) ls
        by_cases hg : goesB (textL l) = true
        · have ht : turnL fs false p (p + l.length) (textL l) = (fs, false, true) := by unfold turnL; rw [if_neg h0, if_pos hg]
          rw [goL, ht, if_pos rfl, goL_shut, ih _ (by omega)]
          cases nameL (textL l) with
          | none => rfl
          | some q => simp [hg]
        · have hgf : goesB (textL l) = false := by simpa using hg
          cases hn : nameL (textL l) with
          | none =>
            have ht : turnL fs false p (p + l.length) (textL l) = (fs, false, true) := by unfold turnL; rw [if_neg h0, if_neg hg, hn]
            rw [goL, ht, if_pos rfl, goL_shut, ih _ (by omega)]
          | some q =>
            obtain ⟨nm, v⟩ := q
            have ht : turnL fs false p (p + l.length) (textL l) = (fs ++ [⟨nm, v, p, p + l.length⟩], true, true) := by unfold turnL; rw [if_neg h0, if_neg hg, hn]
            rw [goL, ht, if_pos rfl, goL_open _ _ _ _ rfl, goL_either _ _ _ (contL_stop _ _), ih (contL (p + l.length) ls).2.2 (by omega)]
            simp [hg, trimF]

theorem fields_ref (m : List UInt8) : fieldsL m = (refL 0 (linesOf m)).1 ∧ bodyL m = (refL 0 (linesOf m)).2 := by
  have := goL_ref (linesOf m).length (linesOf m) (Nat.le_refl _) [] 0
  simp only [List.map_nil, List.nil_append] at this
  have h1 := congrArg Prod.fst this
  have h2 := congrArg Prod.snd this
  exact ⟨h1, h2⟩

end Go.Proofs.YtalgmnlclflllaaGreatDoor
end

/- mime (plain): what a content type's text means; both ways. -/
set_option linter.unusedVariables false
set_option linter.unusedSimpArgs false
section
namespace Go.Proofs.YtalgmnlclflllaaGreatDoor
open Go

/-- may a byte stand in a token -/
def tokC (c : UInt8) : Bool := decide (33 ≤ c.toNat) && decide (c.toNat ≤ 126) && !([40, 41, 60, 62, 64, 44, 59, 58, 92, 34, 47, 91, 93, 63, 61] : List UInt8).contains c
def skipB (l : List UInt8) : List UInt8 := l.dropWhile blankB
/-- a quoted text, up to its end -/
def qGo : List UInt8 → List UInt8 → Option (List UInt8 × List UInt8)
  | _, [] => none
  | acc, c :: r => if c = 34 then some (acc, r) else if c = 92 then (match r with
      | [] => none
      | d :: r2 => qGo (acc ++ [d]) r2) else qGo (acc ++ [c]) r
theorem qGo_len : ∀ (l acc t r : List UInt8), qGo acc l = some (t, r) → r.length < l.length
  | [], _, _, _, h => by cases h
  | [c], acc, t, r, h => by
    unfold qGo at h
    split at h
    · cases h; simp
    · split at h
      · cases h
      · cases h
  | c :: d :: r2, acc, t, r, h => by
    unfold qGo at h
    split at h
    · cases h; simp
    · split at h
      · have := qGo_len r2 _ t r h
        simp; omega
      · have := qGo_len (d :: r2) _ t r h
        simp at this ⊢; omega
/-- a word of a content type's text: a token (1), a quoted text (2), another byte (3) -/
structure Wrd where
  kind : Nat
  text : List UInt8
/-- the first word, behind the blanks -/
inductive Lex where
  | done
  | bad
  | one (w : Wrd) (r : List UInt8)
def lex1 (l : List UInt8) : Lex := match skipB l with
  | [] => .done
  | c :: r => if tokC c = true then .one ⟨1, (c :: r).takeWhile tokC⟩ ((c :: r).dropWhile tokC)
    else if c = 34 then (match qGo [] r with
      | none => .bad
      | some (t, r2) => .one ⟨2, t⟩ r2)
    else .one ⟨3, [c]⟩ r
theorem dropW_len {α : Type} (p : α → Bool) (l : List α) : (l.dropWhile p).length ≤ l.length := (List.dropWhile_sublist p).length_le
theorem skipB_len (l : List UInt8) : (skipB l).length ≤ l.length := dropW_len _ l
theorem lex1_len {l : List UInt8} {w : Wrd} {r : List UInt8} (h : lex1 l = .one w r) : r.length < l.length := by
  have hs := skipB_len l
  unfold lex1 at h
  split at h
  · cases h
  · rename_i c t hc
    rw [hc] at hs
    simp only [List.length_cons] at hs
    split at h
    · rename_i ht
      injection h with h1 h2
      rw [← h2, List.dropWhile_cons, if_pos ht]
      have := dropW_len tokC t
      omega
    · split at h
      · split at h
        · cases h
        · rename_i hq
          injection h with h1 h2
          have := qGo_len _ _ _ _ hq
          rw [← h2]
          omega
      · injection h with h1 h2
        rw [← h2]
        omega
/-- all words -/
def wordsF : Nat → List UInt8 → Option (List Wrd)
  | 0, _ => some []
  | f + 1, l => match lex1 l with
    | .done => some []
    | .bad => none
    | .one w r => (wordsF f r).map (w :: ·)
def wordsT (l : List UInt8) : Option (List Wrd) := wordsF (l.length + 1) l

/-! ### over the bytes, as the code reads -/
def isC (c : UInt8) (l : List UInt8) : Bool × List UInt8 := match skipB l with
  | [] => (false, [])
  | d :: r => if d = c then (true, r) else (false, d :: r)
def tokP (l : List UInt8) : Option (List UInt8 × List UInt8) := if (skipB l).takeWhile tokC = [] then none else some ((skipB l).takeWhile tokC, (skipB l).dropWhile tokC)
def valP (l : List UInt8) : Option (List UInt8 × List UInt8) := if (isC 34 l).1 = true then qGo [] (isC 34 l).2 else tokP (isC 34 l).2
abbrev Prm := List UInt8 × List UInt8
def parP : Nat → List Prm → List UInt8 → Option (List Prm)
  | 0, _, _ => none
  | f + 1, acc, l => if (isC 59 l).1 = true then
      (tokP (isC 59 l).2).bind fun n => if (isC 61 n.2).1 = true then (valP (isC 61 n.2).2).bind fun v => parP f (acc ++ [(lowL n.1, v.1)]) v.2 else none
    else if skipB (isC 59 l).2 = [] then some acc else none
/-- what a content type's text means -/
def typeP (l : List UInt8) : Option (List UInt8 × List UInt8 × List Prm) :=
  (tokP l).bind fun t => if (isC 47 t.2).1 = true then (tokP (isC 47 t.2).2).bind fun s => (parP (l.length + 1) [] s.2).bind fun ps => some (lowL t.1, lowL s.1, ps) else none

/-! ### over the words, as the document reads -/
def parW : List Wrd → Option (List Prm)
  | [] => some []
  | a :: b :: c :: d :: r => if a.kind = 3 ∧ a.text = [59] ∧ b.kind = 1 ∧ c.kind = 3 ∧ c.text = [61] ∧ d.kind ≠ 3 then (parW r).map ((lowL b.text, d.text) :: ·) else none
  | _ => none
def typeW : List Wrd → Option (List UInt8 × List UInt8 × List Prm)
  | a :: b :: c :: r => if a.kind = 1 ∧ b.text = [47] ∧ b.kind = 3 ∧ c.kind = 1 then (parW r).map fun ps => (lowL a.text, lowL c.text, ps) else none
  | _ => none

/-! ### both ways are one -/
theorem wordsF_fuel : ∀ (f g : Nat) (l : List UInt8), l.length < f → l.length < g → wordsF f l = wordsF g l
  | 0, _, l, h, _ => absurd h (by omega)
  | _, 0, l, _, h => absurd h (by omega)
  | f + 1, g + 1, l, hf, hg => by
    unfold wordsF
    cases h : lex1 l with
    | done => rfl
    | bad => rfl
    | one w r =>
      have := lex1_len h
      simp only
      rw [wordsF_fuel f g r (by omega) (by omega)]
theorem wordsT_eq (l : List UInt8) : wordsT l = match lex1 l with
    | .done => some []
    | .bad => none
    | .one w r => (wordsT r).map (w :: ·) := by
  unfold wordsT
  rw [wordsF]
  cases h : lex1 l with
  | done => rfl
  | bad => rfl
  | one w r =>
    have := lex1_len h
    simp only
    rw [wordsF_fuel l.length (r.length + 1) r (by omega) (by omega)]
theorem lex1_kind {l : List UInt8} {w : Wrd} {r : List UInt8} (h : lex1 l = .one w r) : w.kind = 1 ∨ w.kind = 2 ∨ w.kind = 3 := by
  unfold lex1 at h
  split at h
  · cases h
  · split at h
    · injection h with h1 h2; rw [← h1]; exact .inl rfl
    · split at h
      · split at h
        · cases h
        · injection h with h1 h2; rw [← h1]; exact .inr (.inl rfl)
      · injection h with h1 h2; rw [← h1]; exact .inr (.inr rfl)
theorem tokP_lex (l : List UInt8) : tokP l = match lex1 l with
    | .one w r => if w.kind = 1 then some (w.text, r) else none
    | _ => none := by
  unfold tokP lex1
  cases skipB l with
  | nil => rfl
  | cons c t =>
    simp only
    by_cases h : tokC c = true
    · rw [if_pos h, if_neg (by rw [List.takeWhile_cons, if_pos h]; simp)]
      rfl
    · rw [if_neg h, if_pos (by rw [List.takeWhile_cons, if_neg h])]
      by_cases h34 : c = 34
      · rw [if_pos h34]
        cases qGo [] t with
        | none => rfl
        | some q => rfl
      · rw [if_neg h34]; rfl
theorem skip_skip (l : List UInt8) : skipB (skipB l) = skipB l := by
  unfold skipB
  induction l with
  | nil => rfl
  | cons c t ih =>
    rw [List.dropWhile_cons]
    split
    · exact ih
    · rename_i h
      rw [List.dropWhile_cons, if_neg h]
theorem lex1_skip (l : List UInt8) : lex1 (skipB l) = lex1 l := by
  unfold lex1
  rw [skip_skip]
theorem valP_lex (l : List UInt8) : valP l = match lex1 l with
    | .one w r => if w.kind = 3 then none else some (w.text, r)
    | _ => none := by
  unfold valP isC
  cases hs : skipB l with
  | nil =>
    have : lex1 l = .done := by unfold lex1; rw [hs]
    rw [this]
    rfl
  | cons c t =>
    simp only
    by_cases h34 : c = 34
    · rw [if_pos h34]
      simp only [if_true]
      subst h34
      have : lex1 l = match qGo [] t with
          | none => .bad
          | some (t, r2) => .one ⟨2, t⟩ r2 := by
        unfold lex1; rw [hs]; rfl
      rw [this]
      cases qGo [] t with
      | none => rfl
      | some q => rfl
    · rw [if_neg h34]
      simp only [Bool.false_eq_true, if_false]
      rw [← hs, tokP_lex, lex1_skip]
      cases hl : lex1 l with
      | done => rfl
      | bad => rfl
      | one w r =>
        simp only
        have h2 : w.kind = 1 ∨ w.kind = 3 := by
          unfold lex1 at hl
          rw [hs] at hl
          simp only at hl
          split at hl
          · injection hl with h1 h2; rw [← h1]; exact .inl rfl
          · try rw [if_neg h34] at hl
            injection hl with h1 h2; rw [← h1]; exact .inr rfl
        rcases h2 with h2 | h2
        · rw [if_pos h2, if_neg (by omega)]
        · rw [if_neg (by omega), if_pos h2]
theorem isC_lex (c : UInt8) (hc : tokC c = false) (h34 : c ≠ 34) (l : List UInt8) : match lex1 l with
    | .one w r => if w.kind = 3 ∧ w.text = [c] then isC c l = (true, r) else (isC c l).1 = false ∧ skipB (isC c l).2 ≠ []
    | .bad => (isC c l).1 = false ∧ skipB (isC c l).2 ≠ []
    | .done => isC c l = (false, []) := by
  have key : ∀ d t, skipB l = d :: t → d ≠ c → (isC c l).1 = false ∧ skipB (isC c l).2 ≠ [] := by
    intro d t h hd
    unfold isC
    rw [h]
    simp only
    rw [if_neg hd, ← h, skip_skip, h]
    exact ⟨rfl, by simp⟩
  cases hs : skipB l with
  | nil =>
    have h1 : lex1 l = .done := by unfold lex1; rw [hs]
    rw [h1]
    simp only
    unfold isC
    rw [hs]
  | cons d t =>
    have hl : lex1 l = if tokC d = true then .one ⟨1, (d :: t).takeWhile tokC⟩ ((d :: t).dropWhile tokC)
        else if d = 34 then (match qGo [] t with
          | none => .bad
          | some (t, r2) => .one ⟨2, t⟩ r2)
        else .one ⟨3, [d]⟩ t := by
      unfold lex1; rw [hs]
    rw [hl]
    by_cases h1 : tokC d = true
    · rw [if_pos h1]
      simp only
      rw [if_neg (by simp)]
      exact key d t hs (by rintro rfl; rw [hc] at h1; cases h1)
    · rw [if_neg h1]
      by_cases h2 : d = 34
      · rw [if_pos h2]
        have hk := key d t hs (by rw [h2]; exact fun e => h34 e.symm)
        cases qGo [] t with
        | none => exact hk
        | some q =>
          simp only
          rw [if_neg (by simp)]
          exact hk
      · rw [if_neg h2]
        simp only
        by_cases h3 : d = c
        · rw [if_pos (by simp [h3])]
          unfold isC
          rw [hs]
          simp only
          rw [if_pos h3]
        · rw [if_neg (fun h => h3 (by simpa using h.2))]
          exact key d t hs h3
theorem parW_bad1 {a : Wrd} {ws : List Wrd} (h : ¬ (a.kind = 3 ∧ a.text = [59])) : parW (a :: ws) = none := by
  match ws with
  | [] => rfl
  | [_] => rfl
  | [_, _] => rfl
  | b :: c :: d :: r => rw [parW, if_neg (fun k => h ⟨k.1, k.2.1⟩)]
theorem parW_bad2 {a b : Wrd} {ws : List Wrd} (h : b.kind ≠ 1) : parW (a :: b :: ws) = none := by
  match ws with
  | [] => rfl
  | [_] => rfl
  | c :: d :: r => rw [parW, if_neg (fun k => h k.2.2.1)]
theorem parW_bad3 {a b c : Wrd} {ws : List Wrd} (h : ¬ (c.kind = 3 ∧ c.text = [61])) : parW (a :: b :: c :: ws) = none := by
  match ws with
  | [] => rfl
  | d :: r => rw [parW, if_neg (fun k => h ⟨k.2.2.2.1, k.2.2.2.2.1⟩)]
theorem parW_bad4 {a b c d : Wrd} {ws : List Wrd} (h : d.kind = 3) : parW (a :: b :: c :: d :: ws) = none := by
  rw [parW, if_neg (fun k => k.2.2.2.2.2 h)]
theorem bind_map_none {α β γ : Type} (o : Option α) (f : α → β) (g : β → Option γ) (h : ∀ a, g (f a) = none) : ((o.map f).bind g) = none := by
  cases o with
  | none => rfl
  | some a => exact h a
theorem par_eq : ∀ (f : Nat) (l : List UInt8) (acc : List Prm), l.length < f → parP f acc l = (wordsT l).bind fun ws => (parW ws).map (acc ++ ·)
  | 0, l, acc, h => absurd h (by omega)
  | f + 1, l, acc, hf => by
    rw [wordsT_eq, parP]
    have hi := isC_lex 59 (by decide) (by decide) l
    cases hl : lex1 l with
    | done =>
      rw [hl] at hi
      simp only at hi ⊢
      rw [hi]
      simp [skipB, parW]
    | bad =>
      rw [hl] at hi
      simp only at hi ⊢
      rw [hi.1, if_neg (by simp), if_neg hi.2]
      rfl
    | one w r =>
      rw [hl] at hi
      have h1 := lex1_len hl
      simp only at hi ⊢
      by_cases hw : w.kind = 3 ∧ w.text = [59]
      case neg =>
        rw [if_neg hw] at hi
        rw [hi.1, if_neg (by simp), if_neg hi.2]
        exact (bind_map_none _ _ _ (fun ws => by rw [parW_bad1 hw]; rfl)).symm
      rw [if_pos hw] at hi
      rw [hi]
      simp only [if_true]
      rw [tokP_lex, wordsT_eq r]
      cases hl2 : lex1 r with
      | done => rfl
      | bad => rfl
      | one w2 r2 =>
        have h2 := lex1_len hl2
        simp only
        by_cases hk2 : w2.kind = 1
        case neg =>
          rw [if_neg hk2, Option.map_map]
          exact (bind_map_none _ _ _ (fun ws => by simp only [Function.comp]; rw [parW_bad2 hk2]; rfl)).symm
        rw [if_pos hk2]
        simp only [Option.bind_some]
        have hi3 := isC_lex 61 (by decide) (by decide) r2
        rw [wordsT_eq r2]
        cases hl3 : lex1 r2 with
        | done =>
          rw [hl3] at hi3
          simp only at hi3 ⊢
          rw [hi3]
          rfl
        | bad =>
          rw [hl3] at hi3
          simp only at hi3 ⊢
          rw [hi3.1]
          rfl
        | one w3 r3 =>
          rw [hl3] at hi3
          have h3 := lex1_len hl3
          simp only at hi3 ⊢
          by_cases hw3 : w3.kind = 3 ∧ w3.text = [61]
          case neg =>
            rw [if_neg hw3] at hi3
            rw [hi3.1, if_neg (by simp), Option.map_map, Option.map_map]
            exact (bind_map_none _ _ _ (fun ws => by simp only [Function.comp]; rw [parW_bad3 hw3]; rfl)).symm
          rw [if_pos hw3] at hi3
          rw [hi3]
          simp only [if_true]
          rw [valP_lex, wordsT_eq r3]
          cases hl4 : lex1 r3 with
          | done => rfl
          | bad => rfl
          | one w4 r4 =>
            have h4 := lex1_len hl4
            simp only
            by_cases hk4 : w4.kind = 3
            case pos =>
              rw [if_pos hk4, Option.map_map, Option.map_map, Option.map_map]
              exact (bind_map_none _ _ _ (fun ws => by simp only [Function.comp]; rw [parW_bad4 hk4]; rfl)).symm
            rw [if_neg hk4]
            simp only [Option.bind_some]
            rw [par_eq f r4 _ (by omega)]
            cases wordsT r4 with
            | none => rfl
            | some ws =>
              simp only [Option.map_some, Option.bind_some]
              rw [parW, if_pos ⟨hw.1, hw.2, hk2, hw3.1, hw3.2, hk4⟩]
              cases parW ws with
              | none => rfl
              | some ps => simp
theorem typeW_bad1 {a : Wrd} {ws : List Wrd} (h : a.kind ≠ 1) : typeW (a :: ws) = none := by
  match ws with
  | [] => rfl
  | [_] => rfl
  | b :: c :: r => rw [typeW, if_neg (fun k => h k.1)]
theorem typeW_bad2 {a b : Wrd} {ws : List Wrd} (h : ¬ (b.kind = 3 ∧ b.text = [47])) : typeW (a :: b :: ws) = none := by
  match ws with
  | [] => rfl
  | c :: r => rw [typeW, if_neg (fun k => h ⟨k.2.2.1, k.2.1⟩)]
theorem typeW_bad3 {a b c : Wrd} {ws : List Wrd} (h : c.kind ≠ 1) : typeW (a :: b :: c :: ws) = none := by
  rw [typeW, if_neg (fun k => h k.2.2.2)]
/-- the code's reading is the document's -/
theorem type_eq (l : List UInt8) : typeP l = (wordsT l).bind typeW := by
  unfold typeP
  rw [tokP_lex, wordsT_eq l]
  cases hl : lex1 l with
  | done => rfl
  | bad => rfl
  | one w r =>
    have h1 := lex1_len hl
    simp only
    by_cases hk : w.kind = 1
    case neg =>
      rw [if_neg hk]
      exact (bind_map_none _ _ _ (fun ws => typeW_bad1 hk)).symm
    rw [if_pos hk]
    simp only [Option.bind_some]
    have hi := isC_lex 47 (by decide) (by decide) r
    rw [wordsT_eq r]
    cases hl2 : lex1 r with
    | done =>
      rw [hl2] at hi
      simp only at hi ⊢
      rw [hi]
      rfl
    | bad =>
      rw [hl2] at hi
      simp only at hi ⊢
      rw [hi.1]
      rfl
    | one w2 r2 =>
      rw [hl2] at hi
      have h2 := lex1_len hl2
      simp only at hi ⊢
      by_cases hw2 : w2.kind = 3 ∧ w2.text = [47]
      case neg =>
        rw [if_neg hw2] at hi
        rw [hi.1, if_neg (by simp), Option.map_map]
        exact (bind_map_none _ _ _ (fun ws => by simp only [Function.comp]; exact typeW_bad2 hw2)).symm
      rw [if_pos hw2] at hi
      rw [hi]
      simp only [if_true]
      rw [tokP_lex, wordsT_eq r2]
      cases hl3 : lex1 r2 with
      | done => rfl
      | bad => rfl
      | one w3 r3 =>
        have h3 := lex1_len hl3
        simp only
        by_cases hk3 : w3.kind = 1
        case neg =>
          rw [if_neg hk3, Option.map_map, Option.map_map]
          exact (bind_map_none _ _ _ (fun ws => by simp only [Function.comp]; exact typeW_bad3 hk3)).symm
        rw [if_pos hk3]
        simp only [Option.bind_some]
        rw [par_eq _ r3 _ (by omega)]
        cases wordsT r3 with
        | none => rfl
        | some ws =>
          simp only [Option.map_some, Option.bind_some]
          rw [typeW, if_pos ⟨hk, hw2.2, hw2.1, hk3⟩]
          cases parW ws with
          | none => rfl
          | some ps => simp

end Go.Proofs.YtalgmnlclflllaaGreatDoor
end

/- Where fields and bodies stand (plain). -/
set_option linter.unusedVariables false
set_option linter.unusedSimpArgs false
section
namespace Go.Proofs.YtalgmnlclflllaaGreatDoor

theorem contL_bd : ∀ (ls : List (List UInt8)) (p : Nat), p ≤ (contL p ls).2.1 ∧ (contL p ls).2.1 + (contL p ls).2.2.flatten.length = p + ls.flatten.length
  | [], p => by simp [contL]
  | l :: ls, p => by
    unfold contL
    split
    · have := contL_bd ls (p + l.length)
      simp only [List.flatten_cons, List.length_append]
      omega
    · simp
theorem refL_bd : ∀ (n : Nat) (ls : List (List UInt8)) (p : Nat), ls.length ≤ n → (∀ f ∈ (refL p ls).1, f.pos ≤ f.fin ∧ f.fin ≤ p + ls.flatten.length) ∧ (refL p ls).1.length ≤ ls.length
  | n, [], p, _ => by simp [refL]
  | 0, l :: ls, p, h => by simp at h
  | n + 1, l :: ls, p, h => by
    rw [refL_cons]
    by_cases ht : textL l = []
    · rw [if_pos ht]; simp
    · rw [if_neg ht]
      have hc := contL_bd ls (p + l.length)
      have hcl := contL_len (p + l.length) ls
      obtain ⟨i1, i2⟩ := refL_bd n (contL (p + l.length) ls).2.2 (contL (p + l.length) ls).2.1 (by simp at h; omega)
      have hall : ∀ f ∈ (refL (contL (p + l.length) ls).2.1 (contL (p + l.length) ls).2.2).1, f.pos ≤ f.fin ∧ f.fin ≤ p + (l :: ls).flatten.length := by
        intro f hf
        have := i1 f hf
        simp only [List.flatten_cons, List.length_append]
        omega
      cases hn : nameL (textL l) with
      | none =>
        refine ⟨hall, ?_⟩
        simp only [List.length_cons]
        omega
      | some q =>
        obtain ⟨nm, v⟩ := q
        simp only
        split
        · refine ⟨hall, ?_⟩
          simp only [List.length_cons]
          omega
        · refine ⟨fun f hf => ?_, ?_⟩
          · rcases List.mem_cons.1 hf with rfl | hf
            · simp only [List.flatten_cons, List.length_append]
              omega
            · exact hall f hf
          · simp only [List.length_cons]
            omega
theorem fields_bd (m : List UInt8) : (∀ f ∈ fieldsL m, f.pos ≤ f.fin ∧ f.fin ≤ m.length) ∧ (fieldsL m).length ≤ m.length := by
  obtain ⟨h1, h2⟩ := refL_bd _ (linesOf m) 0 (Nat.le_refl _)
  have hl := linesOf_length m
  rw [(fields_ref m).1]
  rw [linesOf_flatten, Nat.zero_add] at h1
  exact ⟨h1, by omega⟩

theorem goL_bd : ∀ (ls : List (List UInt8)) (fs : List Fld) (op : Bool) (p : Nat), p ≤ (goL fs op p ls).2 ∧ (goL fs op p ls).2 ≤ p + ls.flatten.length
  | [], fs, op, p => by simp [goL]
  | l :: ls, fs, op, p => by
    rw [goL]
    simp only [List.flatten_cons, List.length_append]
    split
    · have := goL_bd ls (turnL fs op p (p + l.length) (textL l)).1 (turnL fs op p (p + l.length) (textL l)).2.1 (p + l.length)
      omega
    · simp only
      omega
theorem bodyL_bd (m : List UInt8) : bodyL m ≤ m.length := by
  have := (goL_bd (linesOf m) [] false 0).2
  rw [linesOf_flatten, Nat.zero_add] at this
  exact this

end Go.Proofs.YtalgmnlclflllaaGreatDoor
end

/- How long names and values are (plain). -/
set_option linter.unusedVariables false
set_option linter.unusedSimpArgs false
section
namespace Go.Proofs.YtalgmnlclflllaaGreatDoor

theorem trimSuffix_short (a b : List UInt8) : (Lib.trimSuffix a b).length ≤ a.length := by
  unfold Lib.trimSuffix
  split
  · rw [List.length_take]; omega
  · exact Nat.le_refl _
theorem textL_short (l : List UInt8) : (textL l).length ≤ l.length := by
  unfold textL
  split
  · exact Nat.le_trans (trimSuffix_short _ _) (trimSuffix_short _ _)
  · exact Nat.le_refl _
theorem cutC_short : ∀ (l a b : List UInt8), cutC l = some (a, b) → a.length ≤ l.length ∧ b.length ≤ l.length
  | [], a, b, h => by cases h
  | c :: r, a, b, h => by
    unfold cutC at h
    split at h
    · cases h; simp
    · cases hr : cutC r with
      | none => rw [hr] at h; cases h
      | some q =>
        obtain ⟨x, y⟩ := q
        rw [hr] at h
        cases h
        have := cutC_short r _ _ hr
        simp; omega
theorem nameL_short {t n v : List UInt8} (h : nameL t = some (n, v)) : n.length ≤ t.length ∧ v.length ≤ t.length := by
  unfold nameL at h
  cases hc : cutC t with
  | none => rw [hc] at h; cases h
  | some q =>
    obtain ⟨x, y⟩ := q
    rw [hc] at h
    simp only at h
    split at h
    · cases h
      exact cutC_short t _ _ hc
    · cases h
def ShortF (n : Nat) (fs : List Fld) : Prop := ∀ f ∈ fs, f.name.length ≤ n ∧ f.value.length ≤ n
theorem ShortF.up {n k : Nat} {fs : List Fld} (h : ShortF n fs) (hk : n ≤ k) : ShortF k fs := fun f hf => ⟨Nat.le_trans (h f hf).1 hk, Nat.le_trans (h f hf).2 hk⟩
theorem turnL_short (fs : List Fld) (op : Bool) (p q : Nat) (l : List UInt8) (h : ShortF p fs) (hq : q = p + l.length) : ShortF q (turnL fs op p q (textL l)).1 := by
  have ht := textL_short l
  have hup : ShortF q fs := h.up (by omega)
  unfold turnL
  split
  · exact hup
  · split
    · split
      · rename_i f hl
        intro x hx
        rcases List.mem_append.1 hx with hx | hx
        · exact hup x (List.dropLast_subset _ hx)
        · obtain rfl : x = _ := by simpa using hx
          have hf := h f (List.mem_of_getLast? hl)
          refine ⟨by simp only; omega, ?_⟩
          simp only [List.length_append]
          omega
      · exact hup
    · split
      · rename_i n v hn
        have hs := nameL_short hn
        intro x hx
        rcases List.mem_append.1 hx with hx | hx
        · exact hup x hx
        · obtain rfl : x = _ := by simpa using hx
          exact ⟨by simp only; omega, by simp only; omega⟩
      · exact hup
theorem goL_short : ∀ (ls : List (List UInt8)) (fs : List Fld) (op : Bool) (p : Nat), ShortF p fs → ShortF (p + ls.flatten.length) (goL fs op p ls).1
  | [], fs, op, p, h => by simpa [goL] using h
  | l :: ls, fs, op, p, h => by
    have ht := turnL_short fs op p (p + l.length) l h rfl
    rw [goL]
    simp only [List.flatten_cons, List.length_append]
    split
    · have := goL_short ls _ (turnL fs op p (p + l.length) (textL l)).2.1 _ ht
      exact this.up (by omega)
    · exact ht.up (by omega)
theorem dropW_short {α : Type} (p : α → Bool) (l : List α) : (l.dropWhile p).length ≤ l.length := (List.dropWhile_sublist p).length_le
theorem trimB_short (l : List UInt8) : (trimB l).length ≤ l.length := by
  unfold trimB Lib.trimS Lib.trimRightS Lib.trimLeftS
  refine Nat.le_trans (dropW_short _ _) ?_
  rw [List.length_reverse]
  refine Nat.le_trans (dropW_short _ _) ?_
  rw [List.length_reverse]
  exact Nat.le_refl _
/-- names and values are no longer than the message -/
theorem fields_short (m : List UInt8) : ShortF m.length (fieldsL m) := by
  have h := goL_short (linesOf m) [] false 0 (fun f hf => by cases hf)
  rw [linesOf_flatten, Nat.zero_add] at h
  intro f hf
  unfold fieldsL at hf
  obtain ⟨g, hg, rfl⟩ := List.mem_map.1 hf
  have := h g hg
  have ht := trimB_short g.value
  exact ⟨this.1, by show (trimB g.value).length ≤ _; omega⟩
/-- a header's fields; too many: none -/
def flds200 (t : List UInt8) : List Fld := if 200 < (fieldsL t).length then [] else fieldsL t
theorem flds200_short (m : List UInt8) : ShortF m.length (flds200 m) := by
  unfold flds200
  split
  · intro f hf; cases hf
  · exact fields_short m
theorem flds200_few (m : List UInt8) : (flds200 m).length ≤ 200 := by
  unfold flds200
  split
  · simp
  · omega

end Go.Proofs.YtalgmnlclflllaaGreatDoor
end
