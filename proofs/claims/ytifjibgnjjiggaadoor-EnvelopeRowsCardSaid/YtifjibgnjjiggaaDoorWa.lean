/- Texts of one walk, merged: XT XLm XLp XHm XGq XV1 XS XSs XVA XVB XOb XAp. -/
import Derived.WalkKit
import Derived.WalkLawsBesides
import Derived.WalkSpells
import Derived.Lib.Hide
import Derived.Deep.QuietTactic
import Derived.BigQuiet
import Derived.Test.YtifjibgnjjiggaaDoorProg
import Derived.Lib.IndexBytes
import Derived.Lib.Strings
import Derived.Lib.SlTrimSet
import Derived.Lib.ItoaNum
import Derived.Lib.Join
import Derived.Laws.BytesArg
import Derived.Test.YtifjibgnjjiggaaDoorShelf
import Derived.Laws.AppendOwn
import Derived.Laws.OwnMore
import Derived.Deep.DeepFit
import Derived.LoopTactic

/- Small tools of the walks: worlds that grow, cells that stay. -/
set_option linter.unusedVariables false
set_option linter.unusedSimpArgs false
section
set_option linter.unusedVariables false
set_option linter.unusedSimpArgs false
namespace Go.Proofs.YtifjibgnjjiggaaDoor
open Go.RowKit

theorem ret_int {k : IntKind} {a b : Int} (h : a = b) : Ending.returned (.int k a) = .returned (.int k b) := by rw [h]

theorem cell_lt {w : World} {p : Addr} {v : Value} (h : w.cell? p = some v) : p.block < w.heap.size := by
  rcases Nat.lt_or_ge p.block w.heap.size with h1 | h1
  · exact h1
  · simp [World.cell?, Array.getElem?_eq_none h1] at h

theorem cell_alloc {w : World} {p : Addr} {v : Value} (h : w.cell? p = some v) (o : Obj) : (w.alloc o).cell? p = some v := by
  rw [((Below.refl _ w).alloc (Nat.le_refl _) o).cell (cell_lt h)]; exact h

theorem below_drewN {B : Nat} {a w : World} (h : Below B a w) (n : Nat) : Below B a (w.drewN n) := ⟨h.os, h.tape, h.output, h.size, h.block⟩

/-- behind a callee that made memory: all old cells and marks read as before -/
theorem bcell {W w1 : World} (hb : Below W.heap.size W w1) : (∀ b o, b < W.heap.size → w1.cell? ⟨b, o, none⟩ = W.cell? ⟨b, o, none⟩) ∧ (∀ b o, b < W.heap.size → w1.frozen? ⟨b, o, none⟩ = W.frozen? ⟨b, o, none⟩) :=
  ⟨fun b o h => hb.cell (p := ⟨b, o, none⟩) h, fun b o h => hb.frozen (p := ⟨b, o, none⟩) h⟩

theorem heap_new (w : World) (o : Obj) : (w.alloc o).heap[w.heap.size]? = some o := by
  show (w.heap.push o)[w.heap.size]? = _
  simp
theorem heap_old (w : World) (o : Obj) (k : Nat) (h : k < w.heap.size) : (w.alloc o).heap[k]? = w.heap[k]? := Below.heap_alloc w o k h
theorem size_alloc (w : World) (o : Obj) : (w.alloc o).heap.size = w.heap.size + 1 := by simp

/-! ### A region that draws its order, whose operations only read old cells and whose callees may make memory: one walk, in the text's order -/

/-- a world that has grown beyond w -/
structure Grow (w : World) where
  v : World
  h : Below w.heap.size w v
instance (w : World) : Nonempty (Grow w) := ⟨⟨w, Below.refl _ _⟩⟩

theorem Grow.cell {w : World} {p : Addr} {v : Value} (g : Grow w) (h : w.cell? p = some v) : g.v.cell? p = some v := (g.h.cell (cell_lt h)).trans h

theorem grow_call {P : Program} {w : World} {g : Grow w} {f : FuncId} {args : Array Value} {v : Value} (h : Calls P f args g.v fun e w' => e = .returned v ∧ Below g.v.heap.size g.v w') :
    Calls P f args g.v fun e w'' => e = .returned v ∧ ∃ g' : Grow w, w'' = g'.v :=
  h.mono fun _ w'' ⟨he, hb⟩ => ⟨he, ⟨w'', g.h.trans (hb.mono g.h.size)⟩, rfl⟩
theorem grow_same {P : Program} {w : World} {g : Grow w} {f : FuncId} {args : Array Value} {v : Value} (h : Calls P f args g.v fun e w' => e = .returned v ∧ w' = g.v) :
    Calls P f args g.v fun e w'' => e = .returned v ∧ ∃ g' : Grow w, w'' = g'.v :=
  h.mono fun _ _ ⟨he, hb⟩ => ⟨he, g, hb⟩

theorem wp_region_grow {P : Program} {id : Nat} {Q : Exit → Act → World → Prop} {a : Act} {w : World} {l : List Oper} (hm : P.follows .mixedOrders = true) (hB : Region.lexB .any l.toArray = true)
    (h : wpQuiet P l.toArray (fun w' => ∃ g : Grow w, w' = g.v) (fun a' => ∀ w', (∃ g : Grow w, w' = g.v) → Q .normal a' w') l a) : (Code.region id l.toArray true).wp P Q a w :=
  wp_region_quiet (C := fun w' => ∃ g : Grow w, w' = g.v) hm hB ⟨⟨w.drew, (Below.refl _ _).drew⟩, rfl⟩ (by simpa using h)

end Go.Proofs.YtifjibgnjjiggaaDoor
end

/- Plain facts on lines: cutting a list of bytes at its first line feed. -/
set_option linter.unusedVariables false
set_option linter.unusedSimpArgs false
section
namespace Go.Proofs.YtifjibgnjjiggaaDoor

/-- what is ahead of the first line feed, and what is behind it -/
def cutNl : List UInt8 → Option (List UInt8 × List UInt8)
  | [] => none
  | c :: r => if c = 10 then some ([], r) else match cutNl r with
    | none => none
    | some (a, b) => some (c :: a, b)

theorem cutNl_some {h s r : List UInt8} (e : cutNl h = some (s, r)) : h = s ++ 10 :: r ∧ ∀ c ∈ s, c ≠ 10 := by
  induction h generalizing s r with
  | nil => simp [cutNl] at e
  | cons c t ih =>
    unfold cutNl at e
    by_cases hc : c = 10
    · rw [if_pos hc] at e
      obtain ⟨rfl, rfl⟩ := Prod.mk.inj (Option.some.inj e)
      exact ⟨by simp [hc], by simp⟩
    · rw [if_neg hc] at e
      cases hq : cutNl t with
      | none => rw [hq] at e; cases e
      | some p =>
        obtain ⟨a, b⟩ := p
        rw [hq] at e
        obtain ⟨rfl, rfl⟩ := Prod.mk.inj (Option.some.inj e)
        obtain ⟨h1, h2⟩ := ih hq
        exact ⟨by rw [h1]; simp, by intro x hx; rcases List.mem_cons.1 hx with rfl | hx; exact hc; exact h2 x hx⟩

theorem cutNl_none {h : List UInt8} (e : cutNl h = none) : ∀ c ∈ h, c ≠ 10 := by
  induction h with
  | nil => simp
  | cons c t ih =>
    unfold cutNl at e
    by_cases hc : c = 10
    · rw [if_pos hc] at e; cases e
    · rw [if_neg hc] at e
      cases hq : cutNl t with
      | none => intro x hx; rcases List.mem_cons.1 hx with rfl | hx; exact hc; exact ih hq x hx
      | some p => rw [hq] at e; cases e

theorem cutNl_mk (s r : List UInt8) (h : ∀ c ∈ s, c ≠ 10) : cutNl (s ++ 10 :: r) = some (s, r) := by
  induction s with
  | nil => simp [cutNl]
  | cons c t ih =>
    have hc : c ≠ 10 := h c (by simp)
    simp [cutNl, hc, ih (fun x hx => h x (by simp [hx]))]

theorem cutNl_no (h : List UInt8) (e : ∀ c ∈ h, c ≠ 10) : cutNl h = none := by
  cases hq : cutNl h with
  | none => rfl
  | some p =>
    obtain ⟨a, b⟩ := p
    obtain ⟨h1, _⟩ := cutNl_some hq
    exact absurd rfl (e 10 (by rw [h1]; simp))

theorem index_both (h : List UInt8) : Lib.indexByte h 10 = match cutNl h with | none => -1 | some (s, _) => (s.length : Int) := by
  induction h with
  | nil => rfl
  | cons c t ih =>
    unfold Lib.indexByte cutNl
    by_cases hc : c = 10
    · simp [hc]
    · simp only [beq_iff_eq, hc, if_false]
      cases hq : cutNl t with
      | none => rw [hq] at ih; simp [ih]
      | some p =>
        obtain ⟨a, b⟩ := p
        rw [hq] at ih
        simp only at ih
        rw [ih, if_neg (by omega)]
        simp
theorem index_some {h s r : List UInt8} (e : cutNl h = some (s, r)) : Lib.indexByte h 10 = (s.length : Int) := by
  rw [index_both, e]
theorem index_none {h : List UInt8} (e : cutNl h = none) : Lib.indexByte h 10 = -1 := by
  rw [index_both, e]

/-- a line as it is told: its text, and whether it is too long -/
def lineText (s : List UInt8) : List UInt8 := if s.length > 1000 then [] else Lib.trimSuffix s [13]
def lineLong (s : List UInt8) : Bool := decide (s.length > 1000)

end Go.Proofs.YtifjibgnjjiggaaDoor
end

/- Plain facts on a text's lines. -/
set_option linter.unusedVariables false
set_option linter.unusedSimpArgs false
section
namespace Go.Proofs.YtifjibgnjjiggaaDoor

/-- a text's lines, each with its end -/
def linesOf : List UInt8 → List (List UInt8)
  | [] => []
  | c :: r => if c = 10 then [10] :: linesOf r else match linesOf r with
    | [] => [[c]]
    | x :: xs => (c :: x) :: xs

theorem linesOf_nil : linesOf [] = [] := rfl
theorem linesOf_cons (c : UInt8) (r : List UInt8) : linesOf (c :: r) = if c = 10 then [10] :: linesOf r else match linesOf r with | [] => [[c]] | x :: xs => (c :: x) :: xs := rfl
theorem linesOf_nl (a r : List UInt8) (h : ∀ c ∈ a, c ≠ 10) : linesOf (a ++ 10 :: r) = (a ++ [10]) :: linesOf r := by
  induction a with
  | nil => simp [linesOf]
  | cons c t ih =>
    have hc : c ≠ 10 := h c (by simp)
    rw [List.cons_append]
    rw [linesOf_cons]
    rw [if_neg hc, ih (fun x hx => h x (by simp [hx]))]
    rfl
theorem linesOf_end (a : List UInt8) (h : ∀ c ∈ a, c ≠ 10) (ha : a ≠ []) : linesOf a = [a] := by
  induction a with
  | nil => exact absurd rfl ha
  | cons c t ih =>
    have hc : c ≠ 10 := h c (by simp)
    rw [linesOf_cons]
    rw [if_neg hc]
    cases t with
    | nil => rfl
    | cons d t => rw [ih (fun x hx => h x (by simp [hx])) (by simp)]

/-- by the first line feed -/
theorem linesOf_cut {l s r : List UInt8} (h : cutNl l = some (s, r)) : linesOf l = (s ++ [10]) :: linesOf r := by
  obtain ⟨rfl, h2⟩ := cutNl_some h
  exact linesOf_nl s r h2
theorem linesOf_cutNo {l : List UInt8} (h : cutNl l = none) (hl : l ≠ []) : linesOf l = [l] := linesOf_end l (cutNl_none h) hl

/-- rows that are a text's lines -/
def wfLines : List (List UInt8) → Prop
  | [] => True
  | [x] => x ≠ [] ∧ ∀ c ∈ x.dropLast, c ≠ 10
  | x :: y :: r => (∃ a, x = a ++ [10] ∧ ∀ c ∈ a, c ≠ 10) ∧ wfLines (y :: r)

/-- an induction by a text's lines -/
theorem lines_induction {p : List UInt8 → Prop} (h0 : p []) (h1 : ∀ a, a ≠ [] → (∀ c ∈ a, c ≠ 10) → p a) (h2 : ∀ a r, (∀ c ∈ a, c ≠ 10) → p r → p (a ++ 10 :: r)) : ∀ l, p l := by
  intro l
  induction h : l.length using Nat.strongRecOn generalizing l with
  | ind m ih =>
    subst h
    cases hc : cutNl l with
    | none =>
      by_cases hl : l = []
      · rw [hl]; exact h0
      · exact h1 l hl (cutNl_none hc)
    | some p =>
      obtain ⟨s, r⟩ := p
      obtain ⟨e, hs⟩ := cutNl_some hc
      rw [e]
      exact h2 s r hs (ih r.length (by rw [e]; simp; omega) r rfl)

theorem linesOf_flatten (l : List UInt8) : (linesOf l).flatten = l := by
  refine lines_induction (p := fun l => (linesOf l).flatten = l) rfl (fun a ha h => ?_) (fun a r h ih => ?_) l
  · show (linesOf a).flatten = a
    rw [linesOf_end a h ha]; simp
  · show (linesOf (a ++ 10 :: r)).flatten = a ++ 10 :: r
    rw [linesOf_nl a r h]; simp [ih]

theorem wf_cons (a : List UInt8) (h : ∀ c ∈ a, c ≠ 10) (ls : List (List UInt8)) (hl : wfLines ls) : wfLines ((a ++ [10]) :: ls) := by
  cases ls with
  | nil => exact ⟨by simp, by simpa using h⟩
  | cons y r => exact ⟨⟨a, rfl, h⟩, hl⟩

theorem linesOf_wf (l : List UInt8) : wfLines (linesOf l) := by
  refine lines_induction (p := fun l => wfLines (linesOf l)) trivial (fun a ha h => ?_) (fun a r h ih => ?_) l
  · show wfLines (linesOf a)
    rw [linesOf_end a h ha]
    exact ⟨ha, fun c hc => h c (List.dropLast_subset _ hc)⟩
  · show wfLines (linesOf (a ++ 10 :: r))
    rw [linesOf_nl a r h]
    exact wf_cons a h _ ih

theorem linesOf_single (x : List UInt8) (hx : x ≠ []) (h : ∀ c ∈ x.dropLast, c ≠ 10) : linesOf x = [x] := by
  by_cases e : x.getLast hx = 10
  · have : x = x.dropLast ++ 10 :: [] := by rw [← e]; exact (List.dropLast_concat_getLast hx).symm
    rw [this, linesOf_nl _ _ h]; rfl
  · refine linesOf_end x (fun c hc => ?_) hx
    rw [← List.dropLast_concat_getLast hx] at hc
    rcases List.mem_append.1 hc with hc | hc
    · exact h c hc
    · rw [List.mem_singleton.1 hc]; exact e

theorem linesOf_of_wf : ∀ (ls : List (List UInt8)), wfLines ls → linesOf ls.flatten = ls
  | [], _ => rfl
  | [x], ⟨hx, h⟩ => by simp only [List.flatten_cons, List.flatten_nil, List.append_nil]; exact linesOf_single x hx h
  | x :: y :: r, ⟨⟨a, e, h⟩, hr⟩ => by
    rw [List.flatten_cons, e, List.append_assoc, List.singleton_append, linesOf_nl a _ h, linesOf_of_wf (y :: r) hr]

theorem linesOf_length (l : List UInt8) : (linesOf l).length ≤ l.length := by
  refine lines_induction (p := fun l => (linesOf l).length ≤ l.length) (by simp [linesOf]) (fun a ha h => ?_) (fun a r h ih => ?_) l
  · show (linesOf a).length ≤ a.length
    rw [linesOf_end a h ha]
    cases a with
    | nil => exact absurd rfl ha
    | cons c t => simp
  · show (linesOf (a ++ 10 :: r)).length ≤ (a ++ 10 :: r).length
    rw [linesOf_nl a r h]; simp; omega

theorem linesOf_mem {l x : List UInt8} (h : x ∈ linesOf l) : x ≠ [] ∧ x.length ≤ l.length := by
  revert x
  refine lines_induction (p := fun l => ∀ {x}, x ∈ linesOf l → x ≠ [] ∧ x.length ≤ l.length) (by simp [linesOf]) (fun a ha h => ?_) (fun a r h ih => ?_) l
  · intro x hx
    rw [linesOf_end a h ha] at hx
    obtain rfl := List.mem_singleton.1 hx
    exact ⟨ha, Nat.le_refl _⟩
  · intro x hx
    rw [linesOf_nl a r h] at hx
    rcases List.mem_cons.1 hx with rfl | hx
    · exact ⟨by simp, by simp⟩
    · obtain ⟨h1, h2⟩ := ih hx
      exact ⟨h1, by simp; omega⟩

end Go.Proofs.YtifjibgnjjiggaaDoor
end

/- Plain facts on headers. -/
set_option linter.unusedVariables false
set_option linter.unusedSimpArgs false
section
namespace Go.Proofs.YtifjibgnjjiggaaDoor

/-- a field: its name, its value, where it stands -/
structure Fld where
  name : List UInt8
  value : List UInt8
  pos : Nat
  fin : Nat

/-- a line less its end -/
def textL (l : List UInt8) : List UInt8 := if Lib.hasSuffix l [10] then Lib.trimSuffix (Lib.trimSuffix l [10]) [13] else l
def blankB (c : UInt8) : Bool := c == 32 || c == 9
def goesB : List UInt8 → Bool
  | [] => false
  | c :: _ => blankB c
def okC (c : UInt8) : Bool := decide (33 ≤ c.toNat) && decide (c.toNat ≤ 126)
/-- what is ahead of the first ":", and what is behind it -/
def cutC : List UInt8 → Option (List UInt8 × List UInt8)
  | [] => none
  | c :: r => if c = 58 then some ([], r) else match cutC r with
    | none => none
    | some (a, b) => some (c :: a, b)
/-- a field's name and what is behind the ":" -/
def nameL (t : List UInt8) : Option (List UInt8 × List UInt8) :=
  match cutC t with
  | none => none
  | some (n, r) => if n ≠ [] ∧ n.all okC = true then some (n, r) else none

/-- what a line turns: the fields, whether the last one may go on, whether the header goes on -/
def turnL (fs : List Fld) (op : Bool) (p q : Nat) (t : List UInt8) : List Fld × Bool × Bool :=
  if t = [] then (fs, op, false)
  else if goesB t = true then
    (match op, fs.getLast? with
     | true, some f => (fs.dropLast ++ [{ f with value := f.value ++ t, fin := q }], true, true)
     | _, _ => (fs, op, true))
  else match nameL t with
    | some (n, v) => (fs ++ [⟨n, v, p, q⟩], true, true)
    | none => (fs, false, true)

/-- over the lines -/
def goL (fs : List Fld) (op : Bool) (p : Nat) : List (List UInt8) → List Fld × Nat
  | [] => (fs, p)
  | l :: ls =>
    if (turnL fs op p (p + l.length) (textL l)).2.2 = true then goL (turnL fs op p (p + l.length) (textL l)).1 (turnL fs op p (p + l.length) (textL l)).2.1 (p + l.length) ls
    else ((turnL fs op p (p + l.length) (textL l)).1, p + l.length)

def trimB (l : List UInt8) : List UInt8 := Lib.trimS l [32, 9]
def trimF (f : Fld) : Fld := { f with value := trimB f.value }
/-- a message's fields -/
def fieldsL (m : List UInt8) : List Fld := (goL [] false 0 (linesOf m)).1.map trimF
def bodyL (m : List UInt8) : Nat := (goL [] false 0 (linesOf m)).2

/-! ### the document's fields: a line and those that go on -/

/-- the lines that go on: what they add, where they end, what is left -/
def contL (p : Nat) : List (List UInt8) → List UInt8 × Nat × List (List UInt8)
  | [] => ([], p, [])
  | l :: ls => if goesB (textL l) = true then (textL l ++ (contL (p + l.length) ls).1, (contL (p + l.length) ls).2.1, (contL (p + l.length) ls).2.2) else ([], p, l :: ls)

theorem contL_len (p : Nat) (ls : List (List UInt8)) : (contL p ls).2.2.length ≤ ls.length := by
  induction ls generalizing p with
  | nil => simp [contL]
  | cons l ls ih =>
    unfold contL
    split
    · have := ih (p + l.length); simp; omega
    · simp

def refL (p : Nat) : List (List UInt8) → List Fld × Nat
  | [] => ([], p)
  | l :: ls =>
    if textL l = [] then ([], p + l.length)
    else
      let c := contL (p + l.length) ls
      let r := refL c.2.1 c.2.2
      (match nameL (textL l) with
       | some (n, v) => if goesB (textL l) = true then r.1 else ⟨n, trimB (v ++ c.1), p, c.2.1⟩ :: r.1
       | none => r.1, r.2)
termination_by ls => ls.length
decreasing_by
  have := contL_len (p + l.length) ls
  simp
  omega

theorem refL_cons (p : Nat) (l : List UInt8) (ls : List (List UInt8)) : refL p (l :: ls) =
    if textL l = [] then ([], p + l.length)
    else (match nameL (textL l) with
       | some (n, v) => if goesB (textL l) = true then (refL (contL (p + l.length) ls).2.1 (contL (p + l.length) ls).2.2).1 else ⟨n, trimB (v ++ (contL (p + l.length) ls).1), p, (contL (p + l.length) ls).2.1⟩ :: (refL (contL (p + l.length) ls).2.1 (contL (p + l.length) ls).2.2).1
       | none => (refL (contL (p + l.length) ls).2.1 (contL (p + l.length) ls).2.2).1, (refL (contL (p + l.length) ls).2.1 (contL (p + l.length) ls).2.2).2) := by
  rw [refL]

theorem goesB_ne {t : List UInt8} (h : goesB t = true) : t ≠ [] := by
  rintro rfl; cases h

/-- the lines that go on behind an open field -/
theorem goL_open (fs : List Fld) (f : Fld) (p : Nat) (ls : List (List UInt8)) : (f.fin = p) → goL (fs ++ [f]) true p ls = goL (fs ++ [{ f with value := f.value ++ (contL p ls).1, fin := (contL p ls).2.1 }]) true (contL p ls).2.1 (contL p ls).2.2 := by
  induction ls generalizing f p with
  | nil => rintro rfl; simp [contL, goL]
  | cons l ls ih =>
    intro hp
    by_cases h : goesB (textL l) = true
    · have hc : contL p (l :: ls) = (textL l ++ (contL (p + l.length) ls).1, (contL (p + l.length) ls).2.1, (contL (p + l.length) ls).2.2) := by
        rw [contL, if_pos h]
      have ht : turnL (fs ++ [f]) true p (p + l.length) (textL l) = (fs ++ [{ f with value := f.value ++ textL l, fin := p + l.length }], true, true) := by
        unfold turnL
        rw [if_neg (goesB_ne h), if_pos h]
        simp
      rw [goL, ht, if_pos rfl, ih { f with value := f.value ++ textL l, fin := p + l.length } (p + l.length) rfl, hc]
      simp
    · have hc : contL p (l :: ls) = ([], p, l :: ls) := by rw [contL, if_neg h]
      rw [hc]
      subst hp
      simp
theorem goL_shut (fs : List Fld) (p : Nat) (ls : List (List UInt8)) : goL fs false p ls = goL fs false (contL p ls).2.1 (contL p ls).2.2 := by
  induction ls generalizing p with
  | nil => simp [contL, goL]
  | cons l ls ih =>
    by_cases h : goesB (textL l) = true
    · have hc : contL p (l :: ls) = (textL l ++ (contL (p + l.length) ls).1, (contL (p + l.length) ls).2.1, (contL (p + l.length) ls).2.2) := by
        rw [contL, if_pos h]
      have ht : turnL fs false p (p + l.length) (textL l) = (fs, false, true) := by
        unfold turnL
        rw [if_neg (goesB_ne h), if_pos h]
      rw [goL, ht, if_pos rfl, ih (p + l.length), hc]
    · have hc : contL p (l :: ls) = ([], p, l :: ls) := by rw [contL, if_neg h]
      rw [hc]
/-- where the next line does not go on, it is one whether the last field may go on -/
theorem goL_either (fs : List Fld) (p : Nat) (ls : List (List UInt8)) (h : ∀ l r, ls = l :: r → goesB (textL l) = false) : goL fs true p ls = goL fs false p ls := by
  cases ls with
  | nil => rfl
  | cons l r =>
    have hg := h l r rfl
    have ht : turnL fs true p (p + l.length) (textL l) = ((turnL fs false p (p + l.length) (textL l)).1, (if textL l = [] then true else (turnL fs false p (p + l.length) (textL l)).2.1), (turnL fs false p (p + l.length) (textL l)).2.2) := by
      unfold turnL
      by_cases h0 : textL l = []
      · simp [h0]
      · simp only [h0, if_false, hg]
        cases nameL (textL l) with
        | none => simp
        | some q => simp
    rw [goL, goL, ht]
    by_cases h0 : textL l = []
    · have : (turnL fs false p (p + l.length) (textL l)).2.2 = false := by unfold turnL; simp [h0]
      simp [this]
    · simp [h0]
theorem contL_stop (p : Nat) (ls : List (List UInt8)) : ∀ l r, (contL p ls).2.2 = l :: r → goesB (textL l) = false := by
  induction ls generalizing p with
  | nil => intro l r h; simp [contL] at h
  | cons x ls ih =>
    intro l r h
    unfold contL at h
    by_cases hg : goesB (textL x) = true
    · rw [if_pos hg] at h; exact ih _ l r h
    · rw [if_neg hg] at h
      simp at h
      rw [← h.1]; simpa using hg

/-- the two ways to read a header tell the same -/
theorem goL_ref (n : Nat) : ∀ (ls : List (List UInt8)), ls.length ≤ n → ∀ (fs : List Fld) (p : Nat), ((goL fs false p ls).1.map trimF, (goL fs false p ls).2) = (fs.map trimF ++ (refL p ls).1, (refL p ls).2) := by
  induction n with
  | zero =>
    intro ls hl fs p
    obtain rfl : ls = [] := List.eq_nil_of_length_eq_zero (by omega)
    simp [goL, refL]
  | succ n ih =>
    intro ls hl fs p
    cases ls with
    | nil => simp [goL, refL]
    | cons l ls =>
      simp only [List.length_cons] at hl
      rw [refL_cons]
      by_cases h0 : textL l = []
      · have ht : turnL fs false p (p + l.length) (textL l) = (fs, false, false) := by unfold turnL; rw [if_pos h0]
        rw [goL, ht, if_neg (by simp), if_pos h0]
        simp
      · rw [if_neg h0]
        have hcl := contL_len (p + l.length) ls
        by_cases hg : goesB (textL l) = true
        · have ht : turnL fs false p (p + l.length) (textL l) = (fs, false, true) := by unfold turnL; rw [if_neg h0, if_pos hg]
          rw [goL, ht, if_pos rfl, goL_shut, ih _ (by omega)]
          cases nameL (textL l) with
          | none => rfl
          | some q => simp [hg]
        · have hgf : goesB (textL l) = false := by simpa using hg
          cases hn : nameL (textL l) with
          | none =>
            have ht : turnL fs false p (p + l.length) (textL l) = (fs, false, true) := by unfold turnL; rw [if_neg h0, if_neg hg, hn]
            rw [goL, ht, if_pos rfl, goL_shut, ih _ (by omega)]
          | some q =>
            obtain ⟨nm, v⟩ := q
            have ht : turnL fs false p (p + l.length) (textL l) = (fs ++ [⟨nm, v, p, p + l.length⟩], true, true) := by unfold turnL; rw [if_neg h0, if_neg hg, hn]
            rw [goL, ht, if_pos rfl, goL_open _ _ _ _ rfl, goL_either _ _ _ (contL_stop _ _), ih (contL (p + l.length) ls).2.2 (by omega)]
            simp [hg, trimF]

theorem fields_ref (m : List UInt8) : fieldsL m = (refL 0 (linesOf m)).1 ∧ bodyL m = (refL 0 (linesOf m)).2 := by
  have := goL_ref (linesOf m).length (linesOf m) (Nat.le_refl _) [] 0
  simp only [List.map_nil, List.nil_append] at this
  have h1 := congrArg Prod.fst this
  have h2 := congrArg Prod.snd this
  exact ⟨h1, h2⟩

end Go.Proofs.YtifjibgnjjiggaaDoor
end

/- How IMAP tells a text (plain). -/
set_option linter.unusedVariables false
set_option linter.unusedSimpArgs false
section
namespace Go.Proofs.YtifjibgnjjiggaaDoor
open Go

/-! ### how IMAP tells a text -/
def printB (c : UInt8) : Bool := decide (32 ≤ c.toNat) && decide (c.toNat ≤ 126)
def escL (l : List UInt8) : List UInt8 := l.flatMap fun c => if c = 34 ∨ c = 92 then [92, c] else [c]
def qtL (s : List UInt8) : List UInt8 := if s.all printB = true then 34 :: (escL s ++ [34]) else 123 :: (Lib.decDigits s.length ++ ([125, 13, 10] ++ s))
def nilL : List UInt8 := [78, 73, 76]
def nilOr (s : List UInt8) : List UInt8 := if s = [] then nilL else qtL s
def joinSp : List (List UInt8) → List UInt8
  | [] => []
  | [x] => x
  | x :: y :: r => x ++ 32 :: joinSp (y :: r)
theorem joinSp_snoc : ∀ (l : List (List UInt8)) (x : List UInt8), l ≠ [] → joinSp (l ++ [x]) = joinSp l ++ 32 :: x
  | [], _, h => absurd rfl h
  | [a], x, _ => rfl
  | a :: b :: r, x, _ => by
    have ih := joinSp_snoc (b :: r) x (by simp)
    rw [List.cons_append, List.cons_append, joinSp, ← List.cons_append, ih, joinSp]
    simp
theorem joinSp_lib : ∀ l : List (List UInt8), Lib.join l [32] = joinSp l
  | [] => rfl
  | [x] => by simp [Lib.join, joinSp]
  | x :: y :: r => by
    have h : Lib.join (x :: y :: r) [32] = x ++ ([32] ++ Lib.join (y :: r) [32]) := rfl
    rw [h, joinSp_lib (y :: r)]
    rfl
theorem joinSp_len : ∀ l : List (List UInt8), (joinSp l).length ≤ l.flatten.length + l.length
  | [] => by simp [joinSp]
  | [x] => by simp [joinSp]
  | x :: y :: r => by
    have ih := joinSp_len (y :: r)
    simp only [joinSp, List.length_append, List.length_cons, List.flatten_cons] at ih ⊢
    omega
theorem escL_len (l : List UInt8) : (escL l).length ≤ 2 * l.length := by
  unfold escL
  induction l with
  | nil => simp
  | cons c r ih =>
    rw [List.flatMap_cons, List.length_append, List.length_cons]
    split <;> simp only [List.length_cons, List.length_nil] <;> omega

end Go.Proofs.YtifjibgnjjiggaaDoor
end

/- envelope (plain): what a value's addresses are. -/
set_option linter.unusedVariables false
set_option linter.unusedSimpArgs false
section
namespace Go.Proofs.YtifjibgnjjiggaaDoor
open Go

/-- what a scanner is in: a quoted text, brackets, behind a backslash -/
structure St where
  quo : Bool
  ang : Bool
  esc : Bool
def st0 : St := ⟨false, false, false⟩
/-- over a byte: does it stand outside? -/
def outB (s : St) (c : UInt8) : Bool := !s.esc && !s.quo && !s.ang && c != 34
def stepS (s : St) (c : UInt8) : St :=
  if s.esc then ⟨s.quo, s.ang, false⟩
  else if s.quo then ⟨c != 34, s.ang, c == 92⟩
  else if s.ang then ⟨s.quo, c != 62, s.esc⟩
  else if c = 34 then ⟨true, s.ang, s.esc⟩
  else if c = 60 then ⟨s.quo, true, s.esc⟩
  else s
def runS (s : St) (l : List UInt8) : St := l.foldl stepS s
theorem runS_snoc (s : St) (l : List UInt8) (c : UInt8) : runS s (l ++ [c]) = stepS (runS s l) c := by simp [runS]
/-- a value cut at its commas -/
def piecesS : St → List UInt8 → List UInt8 → List (List UInt8)
  | _, cur, [] => [cur]
  | s, cur, c :: r => if (outB s c && c == 44) = true then cur :: piecesS (stepS s c) [] r else piecesS (stepS s c) (cur ++ [c]) r
def piecesL (v : List UInt8) : List (List UInt8) := piecesS st0 [] v
/-- where the "<" of a piece is -/
def braS : St → List UInt8 → Option Nat
  | _, [] => none
  | s, c :: r => if (outB s c && c == 60) = true then some 0 else (braS (stepS s c) r).map (· + 1)
/-- what a name means -/
def meantGo : List UInt8 → List UInt8 → Option (List UInt8)
  | _, [] => none
  | acc, [c] => if c = 34 then some acc else none
  | acc, c :: d :: r => if c = 34 then none else if c = 92 then meantGo (acc ++ [d]) r else meantGo (acc ++ [c]) (d :: r)
def meantL (n : List UInt8) : List UInt8 := match n with
  | c :: d :: r => if c = 34 then (meantGo [] (d :: r)).getD n else n
  | _ => n
/-- at the last "@" -/
def cutAt : List UInt8 → Option (List UInt8 × List UInt8)
  | [] => none
  | c :: t => match cutAt t with
    | some (a, b) => some (c :: a, b)
    | none => if c = 64 then some ([], t) else none
structure Adr where
  name : List UInt8
  loc : List UInt8
  dom : List UInt8
def mailL2 (nm p : List UInt8) : Adr := match cutAt p with
  | some (a, b) => ⟨nm, a, b⟩
  | none => ⟨nm, p, []⟩
def upTo62 (l : List UInt8) : List UInt8 := l.takeWhile (· != 62)
def adrL (p : List UInt8) : Adr := match braS st0 p with
  | some i => mailL2 (meantL (trimB (p.take i))) (upTo62 (p.drop (i + 1)))
  | none => mailL2 [] p
def neB (p : List UInt8) : Bool := !p.isEmpty
/-- a field's addresses -/
def adrsL (v : List UInt8) : List Adr := ((((piecesL v).map trimB).filter neB).take 50).map adrL

def adrT (a : Adr) : List UInt8 := [40] ++ nilOr a.name ++ [32, 78, 73, 76, 32] ++ qtL a.loc ++ [32] ++ qtL a.dom ++ [41]
def listT (l : List Adr) : List UInt8 := if l = [] then nilL else [40] ++ (l.map adrT).flatten ++ [41]

/-! ### bounds -/
theorem piecesS_len : ∀ (v : List UInt8) (s : St) (cur : List UInt8), (piecesS s cur v).length ≤ v.length + 1 ∧ ∀ p ∈ piecesS s cur v, p.length ≤ cur.length + v.length
  | [], s, cur => by simp [piecesS]
  | c :: r, s, cur => by
    unfold piecesS
    split
    · obtain ⟨h1, h2⟩ := piecesS_len r (stepS s c) []
      refine ⟨by simp; omega, fun p hp => ?_⟩
      rcases List.mem_cons.1 hp with rfl | hp
      · simp
      · have := h2 p hp; simp at this ⊢; omega
    · obtain ⟨h1, h2⟩ := piecesS_len r (stepS s c) (cur ++ [c])
      refine ⟨by simp; omega, fun p hp => ?_⟩
      have := h2 p hp
      simp at this ⊢
      omega
theorem braS_lt : ∀ (p : List UInt8) (s : St) (i : Nat), braS s p = some i → i < p.length
  | [], _, _, h => by cases h
  | c :: r, s, i, h => by
    unfold braS at h
    split at h
    · cases h; simp
    · obtain ⟨j, hj, rfl⟩ := Option.map_eq_some_iff.1 h
      have := braS_lt r _ j hj
      simp; omega
theorem cutAt_some : ∀ {p a b : List UInt8}, cutAt p = some (a, b) → p = a ++ 64 :: b ∧ 64 ∉ b
  | [], _, _, h => by cases h
  | c :: t, a, b, h => by
    unfold cutAt at h
    cases hq : cutAt t with
    | some q =>
      obtain ⟨x, y⟩ := q
      rw [hq] at h
      obtain ⟨rfl, rfl⟩ := Prod.mk.inj (Option.some.inj h)
      obtain ⟨h1, h2⟩ := cutAt_some hq
      exact ⟨by rw [h1]; rfl, h2⟩
    | none =>
      rw [hq] at h
      simp only at h
      split at h
      · rename_i hc
        obtain ⟨rfl, rfl⟩ := Prod.mk.inj (Option.some.inj h)
        refine ⟨by rw [hc]; rfl, ?_⟩
        intro hm
        have : ∀ t : List UInt8, cutAt t = none → 64 ∉ t := by
          intro t
          induction t with
          | nil => simp
          | cons d t ih =>
            intro h
            unfold cutAt at h
            cases hq : cutAt t with
            | some q => rw [hq] at h; cases h
            | none =>
              rw [hq] at h
              simp only at h
              split at h
              · cases h
              · rename_i hd
                simp only [List.mem_cons, not_or]
                exact ⟨fun e => hd e.symm, ih hq⟩
        exact this t hq hm
      · cases h

end Go.Proofs.YtifjibgnjjiggaaDoor
end

/- Strings as the lists of their bytes. -/
set_option linter.unusedVariables false
set_option linter.unusedSimpArgs false
section
namespace Go.Proofs.YtifjibgnjjiggaaDoor
open Go.RowKit

/-- a string, as the list of its bytes -/
abbrev bs (l : List UInt8) : ByteArray := ⟨l.toArray⟩

theorem bs_size (l : List UInt8) : (bs l).size = l.length := by simp [ByteArray.size]
theorem bs_append (a b : List UInt8) : bs a ++ bs b = bs (a ++ b) := by
  apply ByteArray.ext
  simp
theorem bs_take (l : List UInt8) (n : Nat) : (bs l).extract 0 n = bs (l.take n) := by
  apply ByteArray.ext
  simp [ByteArray.data_extract]
theorem bs_drop (l : List UInt8) (n m : Nat) (h : l.length ≤ m) : (bs l).extract n m = bs (l.drop n) := by
  apply ByteArray.ext
  simp [ByteArray.data_extract]
  rw [List.take_of_length_le (by simp; omega)]

/-- s[:n], s[n:] of a string given as a list -/
theorem run_to (l : List UInt8) (n : Nat) (h : n ≤ l.length) (w : World) : (Instr.slice 9 (.string (bs l)) none (some (.int .i64 n)) none).run Tryd.prog w = .ok (.string (bs (l.take n))) w := by
  rw [run_slice_string_to_if w _ _ _ _ Tryd.underlying9, if_pos (by rw [bs_size]; omega)]
  simp [bs_take]
theorem run_from (l : List UInt8) (n : Nat) (h : n ≤ l.length) (w : World) : (Instr.slice 9 (.string (bs l)) (some (.int .i64 n)) none none).run Tryd.prog w = .ok (.string (bs (l.drop n))) w := by
  rw [run_slice_string_from_if w _ _ _ _ Tryd.underlying9, if_pos (by rw [bs_size]; omega)]
  simp [bs_drop, bs_size]

theorem bs_mid (l : List UInt8) (i j : Nat) : (bs l).extract i j = bs ((l.drop i).take (j - i)) := by
  apply ByteArray.ext
  simp [ByteArray.data_extract, List.drop_take]
/-- s[i:j] -/
theorem run_mid (l : List UInt8) (i j : Nat) (h : i ≤ j) (hj : j ≤ l.length) (w : World) : (Instr.slice 9 (.string (bs l)) (some (.int .i64 i)) (some (.int .i64 j)) none).run Tryd.prog w = .ok (.string (bs ((l.drop i).take (j - i)))) w := by
  rw [run_slice_string_if w _ _ _ _ _ _ Tryd.underlying9, if_pos (by rw [bs_size]; omega), if_pos (by omega)]
  simp [bs_mid]

end Go.Proofs.YtifjibgnjjiggaaDoor
end

/- Slices of strings, as lists; strings.Join without a separator. -/
set_option linter.unusedVariables false
set_option linter.unusedSimpArgs false
section
namespace Go.Proofs.YtifjibgnjjiggaaDoor
open Go.RowKit

theorem info_str : (Tryd.prog.info? 9).map (fun i => (i.zero, i.size, i.bytes)) = some (some (.string ⟨#[]⟩), 1, 16) := by kernel_rfl

/-- strings as cells -/
def cellsS (ls : List (List UInt8)) : List Value := ls.map fun s => .string (bs s)
theorem cellsS_length (l : List (List UInt8)) : (cellsS l).length = l.length := by simp [cellsS]
theorem cellsS_append (a b : List (List UInt8)) : cellsS (a ++ b) = cellsS a ++ cellsS b := by simp [cellsS]

/-- a slice of strings reads as ls -/
def StrsAt (w : World) (v : Value) (ls : List (List UInt8)) : Prop :=
  (v = .slice none 0 0 ∧ ls = []) ∨ ∃ (b o c : Nat), v = .slice (some ⟨b, o, none⟩) ls.length c ∧ ls.length ≤ c ∧ b < w.heap.size ∧ ∀ j, j < ls.length → w.cell? ⟨b, o + j, none⟩ = some (.string (bs (ls.getD j [])))

theorem StrsAt.below {w w' : World} {v : Value} {ls : List (List UInt8)} (h : StrsAt w v ls) (hb : Below w.heap.size w w') : StrsAt w' v ls := by
  rcases h with h | ⟨b, o, c, h1, h2, h3, h4⟩
  · exact .inl h
  · exact .inr ⟨b, o, c, h1, h2, Nat.lt_of_lt_of_le h3 hb.size, fun j hj => (hb.cell (p := ⟨b, o + j, none⟩) h3).trans (h4 j hj)⟩

/-- a slice of strings that the call itself made, in blocks from base on -/
def OwnS (w : World) (base : Nat) (v : Value) (ls : List (List UInt8)) : Prop := w.ownsRow base 9 1 v ls.length (cellsS ls)

theorem OwnS.strs {w : World} {base : Nat} {v : Value} {l : List (List UInt8)} (h : OwnS w base v l) : StrsAt w v l := by
  have hlt := World.ownsRow.lt h
  rcases h.2 with ⟨rfl, h0⟩ | ⟨g, cap, cur, rfl, _, hg, hc, _, _, ht⟩
  · exact Or.inl ⟨rfl, List.eq_nil_of_length_eq_zero h0⟩
  · refine Or.inr ⟨g, 0, cap, rfl, hc, (hlt g rfl).2, fun i hi => ?_⟩
    have e : (cellsS l)[i]? = some (.string (bs (l.getD i []))) := by simp [cellsS, hi]
    rw [← ht, List.getElem?_take, if_pos (by omega)] at e
    simp only [World.cell?, hg, Nat.zero_add]
    simpa using e

theorem OwnS.base {w : World} {b b' : Nat} {v : Value} {l : List (List UInt8)} (h : OwnS w b v l) (hb : b' ≤ b) : OwnS w b' v l := by
  refine ⟨h.1, ?_⟩
  rcases h.2 with h0 | ⟨g, cap, cur, e, h1, r⟩
  · exact .inl h0
  · exact .inr ⟨g, cap, cur, e, Nat.le_trans hb h1, r⟩

theorem OwnS.step {w' : World} {base : Nat} {v' : Value} {l : List (List UInt8)} {s : List UInt8} (h : w'.ownsRow base 9 1 v' (l.length + 1) (cellsS l ++ [.string (bs s)])) : OwnS w' base v' (l ++ [s]) := by
  unfold OwnS
  rw [cellsS_append, List.length_append]
  exact h

theorem OwnS.form {w : World} {base : Nat} {v : Value} {l : List (List UInt8)} (h : OwnS w base v l) : ∃ a n cap, v = .slice a n cap ∧ Hid (n = l.length) := by
  rcases h.2 with ⟨rfl, h0⟩ | ⟨g, cap, cur, rfl, _, _, _, _, _, _⟩
  · exact ⟨none, 0, 0, rfl, h0.symm⟩
  · exact ⟨_, _, _, rfl, rfl⟩

theorem OwnS.parts {w : World} {base : Nat} {v : Value} {l : List (List UInt8)} (h : OwnS w base v l) : (v = .slice none 0 0 ∧ l = []) ∨ ∃ g cap, v = .slice (some ⟨g, 0, none⟩) l.length cap ∧ base ≤ g := by
  rcases h.2 with ⟨rfl, h0⟩ | ⟨g, cap, cur, rfl, hb, hg, hc, _, _, ht⟩
  · exact .inl ⟨rfl, List.eq_nil_of_length_eq_zero h0⟩
  · exact .inr ⟨g, cap, rfl, hb⟩
theorem cellsS_set (l : List (List UInt8)) (k : Nat) (x : List UInt8) : (cellsS l).set k (.string (bs x)) = cellsS (l.set k x) := by
  unfold cellsS; rw [List.map_set]

/-- list[k] = x, in a slice of the call's own -/
theorem OwnS.set {w : World} {B g n cap k : Nat} {ls : List (List UInt8)} (h : OwnS w B (.slice (some ⟨g, 0, none⟩) n cap) ls) (hk : k < ls.length) (x : List UInt8) :
    w.cell? ⟨g, k, none⟩ = some (.string (bs (ls.getD k []))) ∧ w.frozen? ⟨g, k, none⟩ = false ∧ OwnS (w.setCell ⟨g, k, none⟩ (.string (bs x))) B (.slice (some ⟨g, 0, none⟩) n cap) (ls.set k x) ∧ ∀ m₀ u, m₀ ≤ B → Below m₀ u w → Below m₀ u (w.setCell ⟨g, k, none⟩ (.string (bs x))) := by
  obtain rfl : n = ls.length := by
    rcases h.2 with ⟨h', _⟩ | ⟨g', cap', cur, h', _⟩
    · simp at h'
    · simp at h'; exact h'.2.1
  have hst := World.ownsRow.stored h k (.string (bs x))
  have hfr := World.ownsRow.frozenAt h k
  have hgb := (World.ownsRow.lt h g rfl).1
  refine ⟨?_, hfr, ?_, fun m₀ u hm hb => hb.setCell (p := ⟨g, k, none⟩) (Nat.le_trans hm hgb) _⟩
  · rcases h.strs with ⟨h', _⟩ | ⟨b, o, c, h', _, _, h3⟩
    · simp at h'
    · simp at h'
      obtain ⟨⟨rfl, rfl⟩, rfl⟩ := h'
      have := h3 k hk
      rwa [Nat.zero_add] at this
  · unfold OwnS
    rw [← cellsS_set, List.length_set]
    exact hst.1

end Go.Proofs.YtifjibgnjjiggaaDoor
end

/- envelope's scanner: where it lies; outside. -/
set_option linter.unusedVariables false
set_option linter.unusedSimpArgs false
section
namespace Go.Proofs.YtifjibgnjjiggaaDoor
open Go.RowKit

/-- the scanner at block b -/
def ScnAt (w : World) (b : Nat) (s : St) : Prop := w.heap[b]? = some (.cells #[.bool s.quo, .bool s.ang, .bool s.esc] 59 (0, 0))
theorem ScnAt.lt {w : World} {b : Nat} {s : St} (h : ScnAt w b s) : b < w.heap.size := (Array.getElem?_eq_some_iff.1 h).1
theorem ScnAt.cells {w : World} {b : Nat} {s : St} (h : ScnAt w b s) : w.cell? ⟨b, 0, none⟩ = some (.bool s.quo) ∧ w.cell? ⟨b, 1, none⟩ = some (.bool s.ang) ∧ w.cell? ⟨b, 2, none⟩ = some (.bool s.esc) ∧ w.frozen? ⟨b, 0, none⟩ = false ∧ w.frozen? ⟨b, 1, none⟩ = false ∧ w.frozen? ⟨b, 2, none⟩ = false := by
  unfold ScnAt at h
  refine ⟨?_, ?_, ?_, ?_, ?_, ?_⟩ <;> simp [World.cell?, World.frozen?, h]
theorem ScnAt.set0 {w : World} {b : Nat} {s : St} (h : ScnAt w b s) (x : Bool) : ScnAt (w.setCell ⟨b, 0, none⟩ (.bool x)) b ⟨x, s.ang, s.esc⟩ := by
  unfold ScnAt at *; simp [World.setCell, Array.getElem?_modify, h]
theorem ScnAt.set1 {w : World} {b : Nat} {s : St} (h : ScnAt w b s) (x : Bool) : ScnAt (w.setCell ⟨b, 1, none⟩ (.bool x)) b ⟨s.quo, x, s.esc⟩ := by
  unfold ScnAt at *; simp [World.setCell, Array.getElem?_modify, h]
theorem ScnAt.set2 {w : World} {b : Nat} {s : St} (h : ScnAt w b s) (x : Bool) : ScnAt (w.setCell ⟨b, 2, none⟩ (.bool x)) b ⟨s.quo, s.ang, x⟩ := by
  unfold ScnAt at *; simp [World.setCell, Array.getElem?_modify, h]
theorem ScnAt.new (w : World) : ScnAt (w.alloc (.cells #[.bool false, .bool false, .bool false] 59)) w.heap.size st0 := heap_new _ _

/-- but for block b nothing turned -/
structure But (b : Nat) (w w' : World) : Prop where
  os : w'.os = w.os
  tape : w'.tape = w.tape
  output : w'.output = w.output
  size : w'.heap.size = w.heap.size
  block : ∀ k, k ≠ b → w'.heap[k]? = w.heap[k]?
theorem But.refl (b : Nat) (w : World) : But b w w := ⟨rfl, rfl, rfl, rfl, fun _ _ => rfl⟩
theorem But.set {b : Nat} {w w' : World} (h : But b w w') (i : Nat) (x : Value) : But b w (w'.setCell ⟨b, i, none⟩ x) :=
  ⟨h.os, h.tape, h.output, by simpa [World.setCell] using h.size, fun k hk => (Below.heap_setCell _ _ _ _ (by simpa using hk)).trans (h.block k hk)⟩
theorem But.below {b B : Nat} {w w' : World} (h : But b w w') (hb : B ≤ b) : Below B w w' := ⟨h.os, h.tape, h.output, Nat.le_of_eq h.size.symm, fun k hk => h.block k (by omega)⟩
theorem ScnAt.not_row {w : World} {b B : Nat} {s : St} {u : Value} {ls : List (List UInt8)} (h : ScnAt w b s) (ho : OwnS w B u ls) : u.ownBlock ≠ some b := by
  intro e
  rcases ho.2 with ⟨rfl, _⟩ | ⟨g, cap, cur, rfl, _, hg, _⟩
  · cases e
  · obtain rfl : g = b := by simpa [Value.ownBlock] using e
    unfold ScnAt at h
    rw [hg] at h
    simp at h
theorem OwnS.but {w w' : World} {b B : Nat} {s : St} {u : Value} {ls : List (List UInt8)} (ho : OwnS w B u ls) (h : ScnAt w b s) (hb : But b w w') : OwnS w' B u ls := by
  have hn := h.not_row ho
  refine ⟨ho.1, ?_⟩
  rcases ho.2 with h0 | ⟨g, cap, cur, rfl, h1, h2, r⟩
  · exact .inl h0
  · exact .inr ⟨g, cap, cur, rfl, h1, (hb.block g (fun e => hn (by rw [e]; rfl))).trans h2, r⟩

theorem chr_ne {c d : UInt8} {n : Int} (hn : (d.toNat : Int) = n) (h : c ≠ d) : ((c.toNat : Int) == n) = false ∧ ((c.toNat : Int) != n) = true := by
  subst hn
  have : ¬ (c.toNat : Int) = d.toNat := fun e => h (UInt8.toNat_inj.1 (by omega))
  simp [this]

set_option maxRecDepth 100000 in
set_option maxHeartbeats 1000000 in
theorem outside_any (w : World) (b : Nat) (s : St) (c : UInt8) (h : ScnAt w b s) :
    Calls Tryd.prog 32 #[.pointer (some ⟨b, 0, none⟩), .int .u8 (c.toNat : Int)] w fun e w' => e = .returned (.bool (outB s c)) ∧ ScnAt w' b (stepS s c) ∧ But b w w' := by
  obtain ⟨q, a, x⟩ := s
  obtain ⟨c0, c1, c2, f0, f1, f2⟩ := h.cells
  have H := Lib.hid h
  clear h
  cases x with
  | true =>
    have e1 : outB ⟨q, a, true⟩ c = false := by simp [outB]
    have e2 : stepS ⟨q, a, true⟩ c = ⟨q, a, false⟩ := rfl
    rw [e1, e2]
    go_enter Tryd.func32, Tryd.ntmps32
    go_wp2
    go_ret
    exact ⟨rfl, H.out.set2 false, (But.refl _ _).set 2 _⟩
  | false =>
    cases q with
    | true =>
      have e1 : outB ⟨true, a, false⟩ c = false := by simp [outB]
      have e2 : stepS ⟨true, a, false⟩ c = ⟨c != 34, a, c == 92⟩ := rfl
      rw [e1, e2]
      have fin : ∀ x y : Bool, (c == 92) = x → (c != 34) = y → ScnAt ((w.setCell ⟨b, 2, none⟩ (.bool x)).setCell ⟨b, 0, none⟩ (.bool y)) b ⟨c != 34, a, c == 92⟩ ∧ But b w ((w.setCell ⟨b, 2, none⟩ (.bool x)).setCell ⟨b, 0, none⟩ (.bool y)) := by
        rintro _ _ rfl rfl
        exact ⟨(H.out.set2 _).set0 _, ((But.refl _ _).set _ _).set _ _⟩
      have FIN := Lib.hid fin
      clear fin
      by_cases h92 : c = 92
      · subst h92
        go_enter Tryd.func32, Tryd.ntmps32
        go_wp2
        go_ret
        exact ⟨rfl, FIN.out true true rfl rfl⟩
      · by_cases h34 : c = 34
        · subst h34
          clear h92
          go_enter Tryd.func32, Tryd.ntmps32
          go_wp2
          go_ret
          exact ⟨rfl, FIN.out false false rfl rfl⟩
        · obtain ⟨n1, n2⟩ := chr_ne (d := 92) (n := 92) rfl h92
          obtain ⟨m1, m2⟩ := chr_ne (d := 34) (n := 34) rfl h34
          have F := FIN.out false true (by simpa using h92) (by simpa using h34)
          have FF := Lib.hid F
          clear F h92 h34 FIN
          go_enter Tryd.func32, Tryd.ntmps32
          go_wp2
          go_ret
          exact ⟨rfl, FF.out⟩
    | false =>
      cases a with
      | true =>
        have e1 : outB ⟨false, true, false⟩ c = false := by simp [outB]
        have e2 : stepS ⟨false, true, false⟩ c = ⟨false, c != 62, false⟩ := rfl
        rw [e1, e2]
        by_cases h62 : c = 62
        · subst h62
          go_enter Tryd.func32, Tryd.ntmps32
          go_wp2
          go_ret
          exact ⟨rfl, H.out.set1 false, (But.refl _ _).set 1 _⟩
        · obtain ⟨n1, n2⟩ := chr_ne (d := 62) (n := 62) rfl h62
          have e3 : (c != 62) = true := by simpa using h62
          rw [e3]
          clear h62 e3
          go_enter Tryd.func32, Tryd.ntmps32
          go_wp2
          go_ret
          exact ⟨rfl, H.out.set1 true, (But.refl _ _).set 1 _⟩
      | false =>
        by_cases h34 : c = 34
        · subst h34
          have e1 : outB ⟨false, false, false⟩ 34 = false := rfl
          have e2 : stepS ⟨false, false, false⟩ 34 = ⟨true, false, false⟩ := rfl
          rw [e1, e2]
          go_enter Tryd.func32, Tryd.ntmps32
          go_wp2
          go_ret
          exact ⟨rfl, H.out.set0 true, (But.refl _ _).set 0 _⟩
        · by_cases h60 : c = 60
          · subst h60
            have e1 : outB ⟨false, false, false⟩ 60 = true := rfl
            have e2 : stepS ⟨false, false, false⟩ 60 = ⟨false, true, false⟩ := rfl
            rw [e1, e2]
            clear h34
            go_enter Tryd.func32, Tryd.ntmps32
            go_wp2
            go_ret
            exact ⟨rfl, H.out.set1 true, (But.refl _ _).set 1 _⟩
          · have e1 : outB ⟨false, false, false⟩ c = true := by simpa [outB] using h34
            have e2 : stepS ⟨false, false, false⟩ c = ⟨false, false, false⟩ := by simp [stepS, h34, h60]
            rw [e1, e2]
            obtain ⟨n1, n2⟩ := chr_ne (d := 34) (n := 34) rfl h34
            obtain ⟨m1, m2⟩ := chr_ne (d := 60) (n := 60) rfl h60
            clear h34 h60 e1 e2
            go_enter Tryd.func32, Tryd.ntmps32
            go_wp2
            go_ret
            exact ⟨rfl, H.out, But.refl _ _⟩

end Go.Proofs.YtifjibgnjjiggaaDoor
end

/- envelope's bracket, pieces: the walks. -/
set_option linter.unusedVariables false
set_option linter.unusedSimpArgs false
section
namespace Go.Proofs.YtifjibgnjjiggaaDoor
open Go.RowKit

def braV (r : Option Nat) : Int := match r with | none => -1 | some i => (i : Int)
theorem drop_at {p : List UInt8} {k : Nat} {c : UInt8} (h : p[k]? = some c) : p.drop k = c :: p.drop (k + 1) := by
  obtain ⟨hlt, he⟩ := List.getElem?_eq_some_iff.1 h
  rw [List.drop_eq_getElem_cons hlt, he]
theorem take_at {p : List UInt8} {k f : Nat} {c : UInt8} (hf : f ≤ k) (h : p[k]? = some c) : (p.drop f).take (k + 1 - f) = (p.drop f).take (k - f) ++ [c] := by
  have : (p.drop f)[k - f]? = some c := by rw [List.getElem?_drop, show f + (k - f) = k by omega]; exact h
  rw [show k + 1 - f = (k - f) + 1 by omega, List.take_add_one, this]
  rfl

set_option maxRecDepth 100000 in
set_option maxHeartbeats 2000000 in
theorem bracket_any (p : List UInt8) (w : World) (hl : p.length ≤ 1099511627776) :
    Calls Tryd.prog 40 #[.string (bs p)] w fun e w' => e = .returned (.int .i64 (braV (braS st0 p))) ∧ Below w.heap.size w w' := by
  obtain ⟨R, hR⟩ : ∃ R, braS st0 p = R := ⟨_, rfl⟩
  rw [hR]
  have HR := Lib.hid hR
  clear hR
  go_enter Tryd.func40, Tryd.ntmps40
  go_wp2
  obtain ⟨w0, hw0⟩ : ∃ w0, w.alloc (.cells #[.bool false, .bool false, .bool false] 59) = w0 := ⟨_, rfl⟩
  have s0 : ScnAt w0 w.heap.size st0 := by rw [← hw0]; exact ScnAt.new w
  have b0 : Below w.heap.size w w0 := by rw [← hw0]; exact (Below.refl _ _).alloc (Nat.le_refl _) _
  rw [hw0]
  clear hw0
  obtain ⟨b, hb⟩ : ∃ b, w.heap.size = b := ⟨_, rfl⟩
  rw [hb] at s0 b0 ⊢
  go_loopw [4, 8] (fun _ i wr => ∃ (k : Nat) (s : St), k ≤ p.length ∧ i = .int .i64 k ∧ ScnAt wr b s ∧ Hid ((braS s (p.drop k)).map (· + k) = R) ∧ Below b w wr) (fun _ i _ => p.length - (intOf i).toNat)
  case atStart => exact ⟨0, st0, Nat.zero_le _, rfl, s0, by show _ = _; rw [← HR.out]; simp, b0⟩
  case round =>
    clear s0 b0
    obtain ⟨k, s, hk, rfl, hs, hd, hB⟩ := hrel
    by_cases hlt : k < p.length
    · obtain ⟨c, hc⟩ : ∃ c, (bs p)[k]'(by rw [bs_size]; exact hlt) = c := ⟨_, rfl⟩
      have hc' : p[k]? = some c := List.getElem?_eq_some_iff.2 ⟨hlt, hc⟩
      have h1 := hd.out
      rw [drop_at hc', braS] at h1
      have H1 := Lib.hid h1
      have HS := Lib.hid hs
      have hlt' : (k : Int) < p.length := by omega
      clear hd h1 hc' hs
      go_wp2_with fail
      refine (outside_any _ b s c HS.out).mono ?_
      rintro e w1 ⟨rfl, hs1, hb1⟩
      have hB1 : Below b w w1 := hB.trans (hb1.below (Nat.le_refl _))
      cases ho : outB s c with
      | true =>
        by_cases h60 : c = 60
        · subst h60
          obtain rfl : some k = R := by
            rw [← H1.out, ho]
            simp
          go_wp2
          go_ret
          exact ⟨rfl, by rw [hb]; exact hB1⟩
        · have h2 := H1.out
          rw [if_neg (by simp [h60])] at h2
          obtain ⟨n1, n2⟩ := chr_ne (d := 60) (n := 60) rfl h60
          have h3 : Hid ((braS (stepS s c) (p.drop (k + 1))).map (· + (k + 1)) = R) := by
            show _ = _
            rw [← h2, Option.map_map]
            congr 1; funext x; simp; omega
          clear h2 h60
          go_wp2
          go_roundw
          case rel => exact ⟨k + 1, _, by omega, by go_num, hs1, h3, hB1⟩
          case measure => simp [intOf]; omega
      | false =>
        have h2 := H1.out
        rw [if_neg (by simp [ho])] at h2
        have h3 : Hid ((braS (stepS s c) (p.drop (k + 1))).map (· + (k + 1)) = R) := by
          show _ = _
          rw [← h2, Option.map_map]
          congr 1; funext x; simp; omega
        clear h2
        go_wp2
        go_roundw
        case rel => exact ⟨k + 1, _, by omega, by go_num, hs1, h3, hB1⟩
        case measure => simp [intOf]; omega
    · obtain rfl : k = p.length := by omega
      have h1 := hd.out
      rw [List.drop_length, braS] at h1
      obtain rfl : none = R := h1
      go_wp2
      go_ret
      exact ⟨rfl, by rw [hb]; exact hB⟩

theorem piecesS_yes {s : St} {c : UInt8} (h : (outB s c && c == 44) = true) (cur r : List UInt8) : piecesS s cur (c :: r) = cur :: piecesS (stepS s c) [] r := by rw [piecesS, if_pos h]
theorem piecesS_no {s : St} {c : UInt8} (h : (outB s c && c == 44) = false) (cur r : List UInt8) : piecesS s cur (c :: r) = piecesS (stepS s c) (cur ++ [c]) r := by rw [piecesS, if_neg (by rw [h]; decide)]
theorem ScnAt.grown {w w' : World} {b B : Nat} {s : St} {u : Value} {ls : List (List UInt8)} {o : Obj} (h : ScnAt w b s) (ho : OwnS w B u ls) (hg : (w.alloc o).grownBy w' u.ownBlock) : ScnAt w' b s :=
  ((hg.block b (by have := h.lt; simp; omega) (fun e => h.not_row ho e.symm)).trans (Below.heap_alloc _ _ _ h.lt)).trans h

set_option maxRecDepth 100000 in
set_option maxHeartbeats 4000000 in
theorem pieces_any (v : List UInt8) (w : World) (hl : v.length ≤ 1099511627776) :
    Calls Tryd.prog 18 #[.string (bs v)] w fun e w' => ∃ x, e = .returned x ∧ OwnS w' w.heap.size x (piecesL v) ∧ Below w.heap.size w w' := by
  obtain ⟨i0, hi, hz0, hz1, hz2⟩ := info_parts info_str
  obtain ⟨R, hR⟩ : ∃ R, piecesL v = R := ⟨_, rfl⟩
  rw [hR]
  have HR := Lib.hid hR
  clear hR
  go_enter Tryd.func18, Tryd.ntmps18
  go_wp2
  obtain ⟨w0, hw0⟩ : ∃ w0, w.alloc (.cells #[.bool false, .bool false, .bool false] 59) = w0 := ⟨_, rfl⟩
  have s0 : ScnAt w0 w.heap.size st0 := by rw [← hw0]; exact ScnAt.new w
  have b0 : Below w.heap.size w w0 := by rw [← hw0]; exact (Below.refl _ _).alloc (Nat.le_refl _) _
  rw [hw0]
  clear hw0
  obtain ⟨b, hb⟩ : ∃ b, w.heap.size = b := ⟨_, rfl⟩
  rw [hb] at s0 b0 ⊢
  go_loopw [3, 5, 6, 10] (fun out fr _ i wr => ∃ (k f : Nat) (s : St) (ls : List (List UInt8)), k ≤ v.length ∧ f ≤ k ∧ ls.length ≤ k ∧ i = .int .i64 k ∧ fr = .int .i64 f ∧ OwnS wr b out ls ∧ ScnAt wr b s ∧ Hid (ls ++ piecesS s ((v.drop f).take (k - f)) (v.drop k) = R) ∧ Below b w wr) (fun _ _ _ i _ => v.length - (intOf i).toNat)
  case atStart => exact ⟨0, 0, st0, [], Nat.zero_le _, Nat.le_refl _, Nat.le_refl _, rfl, rfl, World.ownsRow_nil _ _ _ _, s0, by show _ = _; rw [← HR.out]; simp [piecesL], b0⟩
  case round =>
    clear s0 b0
    obtain ⟨k, f, s, ls, hk, hfk, hlk, rfl, rfl, hown, hs, hd, hB⟩ := hrel
    have hzr := hB.size
    rw [hb] at hzr
    by_cases hlt : k < v.length
    · obtain ⟨c, hc⟩ : ∃ c, (bs v)[k]'(by rw [bs_size]; exact hlt) = c := ⟨_, rfl⟩
      have hc' : v[k]? = some c := List.getElem?_eq_some_iff.2 ⟨hlt, hc⟩
      have h1 := hd.out
      rw [drop_at hc'] at h1
      have HT := Lib.hid (take_at hfk hc')
      have H1 := Lib.hid h1
      have HS := Lib.hid hs
      have hlt' : (k : Int) < v.length := by omega
      clear hd h1 hc' hs
      go_wp2_with fail
      refine (outside_any _ b s c HS.out).mono ?_
      rintro e w1 ⟨rfl, hs1, hb1⟩
      have hB1 : Below b w w1 := hB.trans (hb1.below (Nat.le_refl _))
      have ho1 := hown.but HS.out hb1
      have hzw : b ≤ w1.heap.size := by rw [hb1.size]; exact hzr
      clear hown hB
      cases hoc : (outB s c && c == 44) with
      | true =>
        have h2 := H1.out
        rw [piecesS_yes hoc] at h2
        obtain ⟨hoo, h44⟩ := Bool.and_eq_true_iff.1 hoc
        obtain rfl : c = 44 := by simpa using h44
        rw [hoo]
        have hm := run_mid v f k hfk (by omega)
        obtain ⟨x, hx⟩ : ∃ x, (v.drop f).take (k - f) = x := ⟨_, rfl⟩
        rw [hx] at hm h2
        have H2 := Lib.hid h2
        clear hx h2 hoc hoo h44 H1 HT
        go_wp2_with (at_builtin; refine wpList_append_own _ rfl _ _ 28 rfl b 9 i0 (.string ⟨#[]⟩) 1 16 Tryd.underlying28 hi hz0 hz1 hz2 rfl (by decide) _ _ _ rfl (World.ownsRow.alloc ho1 _) ⟨w1.heap.size, 0, none⟩ 1 1 [.string (bs x)] rfl rfl ?c1 ?c2 ?c3 ?c4 ?c5 ?_)
        case c1 =>
          intro j u hj
          match j, hj with
          | 0, hj => simp at hj; subst hj; simp [Addr.add]
        case c2 => intro u hu; simp at hu; subst hu; rfl
        case c3 => unfold maxLen; omega
        case c4 => omega
        case c5 => simp; omega
        intro v' w2 hown' hgrow _
        have R1 : OwnS w2 b v' (ls ++ [x]) := OwnS.step hown'
        have R2 : Below b w w2 := (hB1.alloc hzw _).grown hgrow (by simp; omega) (fun k e => (World.ownsRow.lt ho1 k e).1)
        have R3 : ScnAt w2 b _ := hs1.grown ho1 hgrow
        have R4 : Hid ((ls ++ [x]) ++ piecesS (stepS s 44) ((v.drop (k + 1)).take (k + 1 - (k + 1))) (v.drop (k + 1)) = R) := by
          show _ = _
          rw [← H2.out]; simp
        clear hown' hgrow ho1 hm hc hs1 hb1 hB1
        go_wp2
        go_roundw
        case rel => exact ⟨k + 1, k + 1, _, ls ++ [x], by omega, by omega, by simp; omega, by go_num, by go_num, R1, R3, R4, R2⟩
        case measure => simp [intOf]; omega
      | false =>
        have h2 := H1.out
        rw [piecesS_no hoc, ← HT.out] at h2
        have H2 := Lib.hid h2
        clear h2 H1 HT
        cases hoo : outB s c with
        | false =>
          clear hoc
          go_wp2
          go_roundw
          case rel => exact ⟨k + 1, f, _, ls, by omega, by omega, by omega, by go_num, rfl, ho1, hs1, H2, hB1⟩
          case measure => simp [intOf]; omega
        | true =>
          have h44 : c ≠ 44 := by
            rintro rfl
            rw [hoo] at hoc
            cases hoc
          obtain ⟨n1, n2⟩ := chr_ne (d := 44) (n := 44) rfl h44
          clear hoc h44
          go_wp2
          go_roundw
          case rel => exact ⟨k + 1, f, _, ls, by omega, by omega, by omega, by go_num, rfl, ho1, hs1, H2, hB1⟩
          case measure => simp [intOf]; omega
    · obtain rfl : k = v.length := by omega
      have h2 := hd.out
      rw [List.drop_length, List.take_of_length_le (by simp), piecesS] at h2
      have hm := run_from v f hfk
      obtain ⟨x, hx⟩ : ∃ x, v.drop f = x := ⟨_, rfl⟩
      rw [hx] at hm h2
      subst h2
      clear hx hd HR
      go_wp2_with (at_builtin; refine wpList_append_own _ rfl _ _ 28 rfl b 9 i0 (.string ⟨#[]⟩) 1 16 Tryd.underlying28 hi hz0 hz1 hz2 rfl (by decide) _ _ _ rfl (World.ownsRow.alloc hown _) ⟨wr.heap.size, 0, none⟩ 1 1 [.string (bs x)] rfl rfl ?d1 ?d2 ?d3 ?d4 ?d5 ?_)
      case d1 =>
        intro j u hj
        match j, hj with
        | 0, hj => simp at hj; subst hj; simp [Addr.add]
      case d2 => intro u hu; simp at hu; subst hu; rfl
      case d3 => unfold maxLen; omega
      case d4 => omega
      case d5 => simp; omega
      intro v' w2 hown' hgrow _
      have R1 : OwnS w2 b v' (ls ++ [x]) := OwnS.step hown'
      have R2 : Below b w w2 := (hB.alloc hzr _).grown hgrow (by simp; omega) (fun k e => (World.ownsRow.lt hown k e).1)
      clear hown' hgrow hown hm
      go_wp2
      go_ret
      exact ⟨_, rfl, by rw [hb]; exact R1, by rw [hb]; exact R2⟩

end Go.Proofs.YtifjibgnjjiggaaDoor
end

/- Slices of bytes, as lists. -/
set_option linter.unusedVariables false
set_option linter.unusedSimpArgs false
section
namespace Go.Proofs.YtifjibgnjjiggaaDoor
open Go.RowKit

/-- a slice of bytes reads as the list l -/
def BytesAt (w : World) (v : Value) (l : List UInt8) : Prop :=
  (v = .slice none 0 0 ∧ l = []) ∨ ∃ (sb so cap : Nat), v = .slice (some ⟨sb, so, none⟩) l.length cap ∧ ∀ i, i < l.length → w.cell? ⟨sb, so + i, none⟩ = some (.int .u8 (l.getD i 0).toNat)

theorem bs_strOfNums (l : List UInt8) : strOfNums (l.map fun c => ((c.toNat : Nat) : Int)) = bs l := by
  apply ByteArray.ext
  apply Array.toList_inj.1
  rw [strOfNums_data]
  simp [Function.comp_def]

theorem convert_bytes {w : World} {v : Value} {l : List UInt8} (h : BytesAt w v l) : (convert 34 9 v).run Tryd.prog w = .ok (.string (bs l)) w := by
  rcases h with ⟨rfl, rfl⟩ | ⟨sb, so, cap, rfl, hc⟩
  · exact run_convert_bytes_nil w 34 5 Tryd.underlying34 Tryd.underlying5 0 0 9 Tryd.underlying9
  · rw [← bs_strOfNums]
    refine run_convert_bytes_arg w 34 5 Tryd.underlying34 Tryd.underlying5 sb so l.length cap _ (by simp) (fun i hi => ?_) 9 Tryd.underlying9
    rw [hc i hi]
    simp [List.getD, hi]

theorem info_u8 : (Tryd.prog.info? 5).map (fun i => (i.zero, i.size, i.bytes)) = some (some (.int .u8 0), 1, 1) := by kernel_rfl

/-- bytes as cells -/
def cellsB (l : List UInt8) : List Value := l.map fun c => .int .u8 ((c.toNat : Nat) : Int)
theorem cellsB_length (l : List UInt8) : (cellsB l).length = l.length := by simp [cellsB]
theorem cellsB_append (a b : List UInt8) : cellsB (a ++ b) = cellsB a ++ cellsB b := by simp [cellsB]

/-- a slice of bytes that the call itself made -/
def OwnB (w : World) (base : Nat) (v : Value) (l : List UInt8) : Prop := w.ownsRow base 5 1 v l.length (cellsB l)

theorem OwnB.bytes {w : World} {base : Nat} {v : Value} {l : List UInt8} (h : OwnB w base v l) : BytesAt w v l := by
  rcases h.2 with ⟨rfl, h0⟩ | ⟨g, cap, cur, rfl, _, hg, _, _, _, ht⟩
  · exact Or.inl ⟨rfl, List.eq_nil_of_length_eq_zero h0⟩
  · refine Or.inr ⟨g, 0, cap, rfl, fun i hi => ?_⟩
    have e : (cellsB l)[i]? = some (.int .u8 (l.getD i 0).toNat) := by simp [cellsB, hi]
    rw [← ht, List.getElem?_take, if_pos (by omega)] at e
    simp only [World.cell?, hg, Nat.zero_add]
    simpa using e

theorem OwnB.step {w' : World} {base : Nat} {v' : Value} {l : List UInt8} {c : UInt8} (h : w'.ownsRow base 5 1 v' (l.length + 1) (cellsB l ++ [.int .u8 ((c.toNat : Nat) : Int)])) : OwnB w' base v' (l ++ [c]) := by
  unfold OwnB
  rw [cellsB_append, List.length_append]
  exact h

theorem OwnB.form {w : World} {base : Nat} {v : Value} {l : List UInt8} (h : OwnB w base v l) : ∃ a n cap, v = .slice a n cap ∧ Hid (n = l.length) := by
  rcases h.2 with ⟨rfl, h0⟩ | ⟨g, cap, cur, rfl, _, _, _, _, _, _⟩
  · exact ⟨none, 0, 0, rfl, h0.symm⟩
  · exact ⟨_, _, _, rfl, rfl⟩

theorem OwnB.below {B : Nat} {u w w' : World} {v : Value} {l : List UInt8} (hb : Below B u w) (h : OwnB w B v l) (hg : w.grownBy w' v.ownBlock) (hB : B ≤ w.heap.size) : Below B u w' :=
  hb.grown hg hB (fun k e => (World.ownsRow.lt h k e).1)


end Go.Proofs.YtifjibgnjjiggaaDoor
end

/- Appending one byte to a slice that the call itself made. -/
set_option linter.unusedVariables false
set_option linter.unusedSimpArgs false
section
namespace Go.Proofs.YtifjibgnjjiggaaDoor
open Go.RowKit

/-- w' is w but for the row of v and new blocks -/
structure AppTo (B : Nat) (v : Value) (w w' : World) : Prop where
  below : ∀ m₀ u, m₀ ≤ B → Below m₀ u w → Below m₀ u w'
  block : ∀ k, k < w.heap.size → some k ≠ v.ownBlock → w'.heap[k]? = w.heap[k]?
  size : w.heap.size ≤ w'.heap.size

theorem AppTo.mk' {B : Nat} {v : Value} {w w' : World} {e : TypeId} {size n : Nat} {xs : List Value} {o : Obj} (hown : w.ownsRow B e size v n xs) (hB : B ≤ w.heap.size) (hg : (w.alloc o).grownBy w' v.ownBlock) : AppTo B v w w' where
  below m₀ u hm hb := (hb.alloc (Nat.le_trans hm hB) o).grown hg (by simp; omega) (fun k e => Nat.le_trans hm (World.ownsRow.lt hown k e).1)
  block k hk hne := (hg.block k (by simp; omega) hne).trans (Below.heap_alloc _ _ _ hk)
  size := by have := hg.size; simp at this; omega

theorem app_byte {ops : Array Oper} {rest : List Oper} {o : Oper} {a : Act} {Q : Exit → Act → World → Prop} (w : World) (B : Nat) (v : Value) (l : List UInt8) (c : UInt8) (n : Int) (hn : (c.toNat : Int) = n) (hown : OwnB w B v l) (hB : B ≤ w.heap.size) (hl : l.length < 1099511627776)
    (hgd : o.guard = none) (s x : Operand) (ho : o.op = .call { callee := .builtin .append, args := #[s, x], argTypes := #[34, 34] }) (hs : a.eval s = v) (hx : a.eval x = .slice (some ⟨w.heap.size, 0, none⟩) 1 1)
    (h : ∀ v' w', OwnB w' B v' (l ++ [c]) → AppTo B v w w' → wpList Tryd.prog ops Q rest (a.put o.dst v') w') :
    wpList Tryd.prog ops Q (o :: rest) a (w.alloc (.cells #[.int .u8 n] 5)) := by
  subst hn
  obtain ⟨i0, hi, hz0, hz1, hz2⟩ := info_parts info_u8
  refine wpList_append_own _ hgd s x 34 ho B 5 i0 (.int .u8 0) 1 1 Tryd.underlying34 hi hz0 hz1 hz2 rfl (by decide) v l.length (cellsB l) hs (World.ownsRow.alloc hown _) ⟨w.heap.size, 0, none⟩ 1 1 [.int .u8 c.toNat] hx rfl ?_ ?_ ?_ ?_ ?_ ?_
  · intro j u hj
    match j, hj with
    | 0, hj => simp at hj; subst hj; simp [Addr.add]
  · intro u hu; simp at hu; subst hu; rfl
  · unfold maxLen; omega
  · omega
  · simp; omega
  · intro v' w' h1 h2 _
    exact h v' w' (OwnB.step h1) (AppTo.mk' hown hB h2)

end Go.Proofs.YtifjibgnjjiggaaDoor
end
