/- Small tools of the walks: worlds that grow, cells that stay. -/
import Derived.WalkKit
import Derived.WalkLawsBesides
import Derived.WalkSpells
import Derived.Lib.Hide
import Derived.Deep.QuietTactic
import Derived.BigQuiet
import Derived.Test.YthnkgifbbemhfaaGreatDoorProg
set_option linter.unusedVariables false
set_option linter.unusedSimpArgs false
namespace Go.Proofs.YthnkgifbbemhfaaGreatDoor
open Go.RowKit

theorem ret_int {k : IntKind} {a b : Int} (h : a = b) : Ending.returned (.int k a) = .returned (.int k b) := by rw [h]

theorem cell_lt {w : World} {p : Addr} {v : Value} (h : w.cell? p = some v) : p.block < w.heap.size := by
  rcases Nat.lt_or_ge p.block w.heap.size with h1 | h1
  · exact h1
  · simp [World.cell?, Array.getElem?_eq_none h1] at h

theorem cell_alloc {w : World} {p : Addr} {v : Value} (h : w.cell? p = some v) (o : Obj) : (w.alloc o).cell? p = some v := by
  rw [((Below.refl _ w).alloc (Nat.le_refl _) o).cell (cell_lt h)]; exact h

theorem below_drewN {B : Nat} {a w : World} (h : Below B a w) (n : Nat) : Below B a (w.drewN n) := ⟨h.os, h.tape, h.output, h.size, h.block⟩

/-- behind a callee that made memory: all old cells and marks read as before -/
theorem bcell {W w1 : World} (hb : Below W.heap.size W w1) : (∀ b o, b < W.heap.size → w1.cell? ⟨b, o, none⟩ = W.cell? ⟨b, o, none⟩) ∧ (∀ b o, b < W.heap.size → w1.frozen? ⟨b, o, none⟩ = W.frozen? ⟨b, o, none⟩) :=
  ⟨fun b o h => hb.cell (p := ⟨b, o, none⟩) h, fun b o h => hb.frozen (p := ⟨b, o, none⟩) h⟩

theorem heap_new (w : World) (o : Obj) : (w.alloc o).heap[w.heap.size]? = some o := by
  show (w.heap.push o)[w.heap.size]? = _
  simp
theorem heap_old (w : World) (o : Obj) (k : Nat) (h : k < w.heap.size) : (w.alloc o).heap[k]? = w.heap[k]? := Below.heap_alloc w o k h
theorem size_alloc (w : World) (o : Obj) : (w.alloc o).heap.size = w.heap.size + 1 := by simp

/-! ### A region that draws its order, whose operations only read old cells and whose callees may make memory: one walk, in the text's order -/

/-- a world that has grown beyond w -/
structure Grow (w : World) where
  v : World
  h : Below w.heap.size w v
instance (w : World) : Nonempty (Grow w) := ⟨⟨w, Below.refl _ _⟩⟩

theorem Grow.cell {w : World} {p : Addr} {v : Value} (g : Grow w) (h : w.cell? p = some v) : g.v.cell? p = some v := (g.h.cell (cell_lt h)).trans h

theorem grow_call {P : Program} {w : World} {g : Grow w} {f : FuncId} {args : Array Value} {v : Value} (h : Calls P f args g.v fun e w' => e = .returned v ∧ Below g.v.heap.size g.v w') :
    Calls P f args g.v fun e w'' => e = .returned v ∧ ∃ g' : Grow w, w'' = g'.v :=
  h.mono fun _ w'' ⟨he, hb⟩ => ⟨he, ⟨w'', g.h.trans (hb.mono g.h.size)⟩, rfl⟩
theorem grow_same {P : Program} {w : World} {g : Grow w} {f : FuncId} {args : Array Value} {v : Value} (h : Calls P f args g.v fun e w' => e = .returned v ∧ w' = g.v) :
    Calls P f args g.v fun e w'' => e = .returned v ∧ ∃ g' : Grow w, w'' = g'.v :=
  h.mono fun _ _ ⟨he, hb⟩ => ⟨he, g, hb⟩

theorem wp_region_grow {P : Program} {id : Nat} {Q : Exit → Act → World → Prop} {a : Act} {w : World} {l : List Oper} (hm : P.follows .mixedOrders = true) (hB : Region.lexB .any l.toArray = true)
    (h : wpQuiet P l.toArray (fun w' => ∃ g : Grow w, w' = g.v) (fun a' => ∀ w', (∃ g : Grow w, w' = g.v) → Q .normal a' w') l a) : (Code.region id l.toArray true).wp P Q a w :=
  wp_region_quiet (C := fun w' => ∃ g : Grow w, w' = g.v) hm hB ⟨⟨w.drew, (Below.refl _ _).drew⟩, rfl⟩ (by simpa using h)

end Go.Proofs.YthnkgifbbemhfaaGreatDoor
