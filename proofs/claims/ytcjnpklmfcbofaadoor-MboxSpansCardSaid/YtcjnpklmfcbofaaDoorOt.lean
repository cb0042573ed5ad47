/- Arguments opened: a struct of three ints, by value. -/
import Derived.ProofKit
import Derived.Lib.SmallJoins
import Derived.Test.YtcjnpklmfcbofaaDoorT
set_option linter.unusedVariables false
set_option linter.unusedSimpArgs false
namespace Go.Proofs.YtcjnpklmfcbofaaDoor
open Go.ChangeShapes Go.WideShapes Go.ChangeAt Go.WideMaps Go.WideElems Go.RowKit Go.Joins Go.Deep

theorem array3 {α : Type} {cs : Array α} (h : cs.size = 3) : ∃ c0 c1 c2, cs = #[c0, c1, c2] := by
  obtain ⟨l⟩ := cs
  match l, h with
  | [c0, c1, c2], _ => exact ⟨c0, c1, c2, rfl⟩

section
variable {H : Type} {enc : TypeId × Value → H} {P : Program} {w : World} {base : Nat} {spare : Nat → Bool} {held : Bool}

theorem one_int3 {n : Nat} {ti : TypeId} {v : Value} {y : DataW H × List MemPlace} (hi : P.underlying ti = some (.int .i64)) (h : DataW.trod enc P w base spare held n ti [v] = some y) : ∃ k : Int, v = .int .i64 k ∧ y = (.lit (.int .i64 k), []) := by
  obtain ⟨k, h1, h2, _⟩ := DataW.trod_int hi h
  simp at h1
  exact ⟨k, h1, h2⟩

theorem open_ints3 {r : Reach} {b0 : Nat} {t ti : TypeId} {f0 f1 f2 : Field} {v : Value} {d : DataW H} {p : List MemPlace} (hs : P.underlying t = some (.struct #[f0, f1, f2])) (hone : oneCellFields P #[f0, f1, f2] = true) (hC : P.cellsOf t = 3)
    (hi : P.underlying ti = some (.int .i64)) (t0 : f0.type = ti) (t1 : f1.type = ti) (t2 : f2.type = ti)
    (hv : Value.okWide P w r b0 t v) (h : DataW.Trod enc P w base spare held t v d p) :
    ∃ a0 a1 a2 : Int, v = .agg #[.int .i64 a0, .int .i64 a1, .int .i64 a2] ∧
      d = .agg [.lit (.int .i64 a0), .lit (.int .i64 a1), .lit (.int .i64 a2)] ∧ p = [] := by
  obtain ⟨cs, rfl, hsz⟩ := okWide_struct hs hv
  obtain ⟨c0, c1, c2, rfl⟩ := array3 (hsz.trans hC)
  obtain ⟨fuel, hf⟩ := h
  obtain ⟨xs, n, _, hx, hl, hlen, hf⟩ := DataW.trod_struct hs hf
  match xs, hlen with
  | [y0, y1, y2], _ =>
    obtain ⟨o0, k0⟩ := hone_of hone 0 f0 rfl
    obtain ⟨o1, k1⟩ := hone_of hone 1 f1 rfl
    obtain ⟨o2, k2⟩ := hone_of hone 2 f2 rfl
    have h0 := hf 0 f0 rfl
    have h1 := hf 1 f1 rfl
    have h2 := hf 2 f2 rfl
    rw [o0, k0, t0] at h0
    rw [o1, k1, t1] at h1
    rw [o2, k2, t2] at h2
    obtain ⟨a0, rfl, rfl⟩ := one_int3 hi (by simpa [Value.cells] using h0)
    obtain ⟨a1, rfl, rfl⟩ := one_int3 hi (by simpa [Value.cells] using h1)
    obtain ⟨a2, rfl, rfl⟩ := one_int3 hi (by simpa [Value.cells] using h2)
    simp at hx
    exact ⟨a0, a1, a2, rfl, hx.1, hx.2⟩
end

end Go.Proofs.YtcjnpklmfcbofaaDoor
