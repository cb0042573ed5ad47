/- Appending one byte to a slice that the call itself made. -/
import Derived.Test.YthnkgifbbemhfaaGreatDoorOb
set_option linter.unusedVariables false
set_option linter.unusedSimpArgs false
namespace Go.Proofs.YthnkgifbbemhfaaGreatDoor
open Go.RowKit

/-- w' is w but for the row of v and new blocks -/
structure AppTo (B : Nat) (v : Value) (w w' : World) : Prop where
  below : ∀ m₀ u, m₀ ≤ B → Below m₀ u w → Below m₀ u w'
  block : ∀ k, k < w.heap.size → some k ≠ v.ownBlock → w'.heap[k]? = w.heap[k]?
  size : w.heap.size ≤ w'.heap.size

theorem AppTo.mk' {B : Nat} {v : Value} {w w' : World} {e : TypeId} {size n : Nat} {xs : List Value} {o : Obj} (hown : w.ownsRow B e size v n xs) (hB : B ≤ w.heap.size) (hg : (w.alloc o).grownBy w' v.ownBlock) : AppTo B v w w' where
  below m₀ u hm hb := (hb.alloc (Nat.le_trans hm hB) o).grown hg (by simp; omega) (fun k e => Nat.le_trans hm (World.ownsRow.lt hown k e).1)
  block k hk hne := (hg.block k (by simp; omega) hne).trans (Below.heap_alloc _ _ _ hk)
  size := by have := hg.size; simp at this; omega

theorem app_byte {ops : Array Oper} {rest : List Oper} {o : Oper} {a : Act} {Q : Exit → Act → World → Prop} (w : World) (B : Nat) (v : Value) (l : List UInt8) (c : UInt8) (n : Int) (hn : (c.toNat : Int) = n) (hown : OwnB w B v l) (hB : B ≤ w.heap.size) (hl : l.length < 1099511627776)
    (hgd : o.guard = none) (s x : Operand) (ho : o.op = .call { callee := .builtin .append, args := #[s, x], argTypes := #[83, 83] }) (hs : a.eval s = v) (hx : a.eval x = .slice (some ⟨w.heap.size, 0, none⟩) 1 1)
    (h : ∀ v' w', OwnB w' B v' (l ++ [c]) → AppTo B v w w' → wpList Tryz.prog ops Q rest (a.put o.dst v') w') :
    wpList Tryz.prog ops Q (o :: rest) a (w.alloc (.cells #[.int .u8 n] 5)) := by
  subst hn
  obtain ⟨i0, hi, hz0, hz1, hz2⟩ := info_parts info_u8
  refine wpList_append_own _ hgd s x 83 ho B 5 i0 (.int .u8 0) 1 1 Tryz.underlying83 hi hz0 hz1 hz2 rfl (by decide) v l.length (cellsB l) hs (World.ownsRow.alloc hown _) ⟨w.heap.size, 0, none⟩ 1 1 [.int .u8 c.toNat] hx rfl ?_ ?_ ?_ ?_ ?_ ?_
  · intro j u hj
    match j, hj with
    | 0, hj => simp at hj; subst hj; simp [Addr.add]
  · intro u hu; simp at hu; subst hu; rfl
  · unfold maxLen; omega
  · omega
  · simp; omega
  · intro v' w' h1 h2 _
    exact h v' w' (OwnB.step h1) (AppTo.mk' hown hB h2)

end Go.Proofs.YthnkgifbbemhfaaGreatDoor
