/- l[1:] of a row of strings. -/
import Derived.Test.YthkkdbpblajahaaDoorD43
set_option linter.unusedVariables false
set_option linter.unusedSimpArgs false
namespace Go.Proofs.YthkkdbpblajahaaDoor
open Go.RowKit Go

theorem elem_strs : Tryd.prog.underlying 68 = some (.slice (Tryd.prog.elem 68)) := by kernel_rfl
theorem run_tail (a : Option Addr) (n c : Nat) (hn : 1 ≤ n) (W : World) : (Instr.slice 68 (.slice a n c) (some (.int .i64 1)) none none).run Tryd.prog W = .ok (.slice (if c = 1 then a else a.map (·.add 1)) (n - 1) (c - 1)) W := by
  rw [run_slice_l W 68 a n c elem_strs .i64 1 (by decide) (by exact_mod_cast hn)]
  have e1 : Tryd.prog.elem 68 = 9 := by kernel_rfl
  rw [e1, Tryd.sizeOf9]
  rfl

theorem SV.tail {w : World} {v : Value} {x : List UInt8} {vs : List (List UInt8)} (h : SV w v (x :: vs)) : ∃ b o1 c1, (∀ W, (Instr.slice 68 v (some (.int .i64 1)) none none).run Tryd.prog W = .ok (.slice (some ⟨b, o1, none⟩) vs.length c1) W) ∧ SV w (.slice (some ⟨b, o1, none⟩) vs.length c1) vs := by
  obtain ⟨b, o, c, rfl, hc, hb, hcell⟩ := h
  have hc' : vs.length + 1 ≤ c := hc
  by_cases h1 : c = 1
  · refine ⟨b, o, 0, fun W => ?_, b, o, 0, rfl, by omega, hb, fun j hj => by omega⟩
    rw [run_tail _ _ _ (by simp), if_pos h1, h1]
    have : vs.length = 0 := by omega
    simp [this]
  · refine ⟨b, o + 1, c - 1, fun W => ?_, b, o + 1, c - 1, rfl, by omega, hb, fun j hj => ?_⟩
    · rw [run_tail _ _ _ (by simp), if_neg h1]
      simp [Addr.add]
    · have := hcell (j + 1) (by simp; omega)
      rw [show o + 1 + j = o + (j + 1) by omega, this]
      simp [List.getD]

end Go.Proofs.YthkkdbpblajahaaDoor
