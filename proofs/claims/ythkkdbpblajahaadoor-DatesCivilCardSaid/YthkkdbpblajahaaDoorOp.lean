/- Arguments opened: a date (seven ints, by value). -/
import Derived.ProofKit
import Derived.Lib.SmallJoins
import Derived.Test.YthkkdbpblajahaaDoorT
namespace Go.Proofs.YthkkdbpblajahaaDoor
open Go.ChangeShapes Go.WideShapes Go.ChangeAt Go.WideMaps Go.WideElems Go.RowKit Go.Joins Go.Deep

theorem array7 {α : Type} {cs : Array α} (h : cs.size = 7) : ∃ c0 c1 c2 c3 c4 c5 c6, cs = #[c0, c1, c2, c3, c4, c5, c6] := by
  obtain ⟨l⟩ := cs
  match l, h with
  | [c0, c1, c2, c3, c4, c5, c6], _ => exact ⟨c0, c1, c2, c3, c4, c5, c6, rfl⟩

section
variable {H : Type} {enc : TypeId × Value → H} {P : Program} {w : World} {base : Nat} {spare : Nat → Bool} {held : Bool}

theorem one_int {n : Nat} {ti : TypeId} {v : Value} {y : DataW H × List MemPlace} (hi : P.underlying ti = some (.int .i64)) (h : DataW.trod enc P w base spare held n ti [v] = some y) : ∃ k : Int, v = .int .i64 k ∧ y = (.lit (.int .i64 k), []) := by
  obtain ⟨k, h1, h2, _⟩ := DataW.trod_int hi h
  simp at h1
  exact ⟨k, h1, h2⟩

theorem open_ints7 {r : Reach} {b0 : Nat} {t ti : TypeId} {f0 f1 f2 f3 f4 f5 f6 : Field} {v : Value} {d : DataW H} {p : List MemPlace} (hs : P.underlying t = some (.struct #[f0, f1, f2, f3, f4, f5, f6])) (hone : oneCellFields P #[f0, f1, f2, f3, f4, f5, f6] = true) (hC : P.cellsOf t = 7)
    (hi : P.underlying ti = some (.int .i64)) (t0 : f0.type = ti) (t1 : f1.type = ti) (t2 : f2.type = ti) (t3 : f3.type = ti) (t4 : f4.type = ti) (t5 : f5.type = ti) (t6 : f6.type = ti)
    (hv : Value.okWide P w r b0 t v) (h : DataW.Trod enc P w base spare held t v d p) :
    ∃ a0 a1 a2 a3 a4 a5 a6 : Int, v = .agg #[.int .i64 a0, .int .i64 a1, .int .i64 a2, .int .i64 a3, .int .i64 a4, .int .i64 a5, .int .i64 a6] ∧
      d = .agg [.lit (.int .i64 a0), .lit (.int .i64 a1), .lit (.int .i64 a2), .lit (.int .i64 a3), .lit (.int .i64 a4), .lit (.int .i64 a5), .lit (.int .i64 a6)] ∧ p = [] := by
  obtain ⟨cs, rfl, hsz⟩ := okWide_struct hs hv
  obtain ⟨c0, c1, c2, c3, c4, c5, c6, rfl⟩ := array7 (hsz.trans hC)
  obtain ⟨fuel, hf⟩ := h
  obtain ⟨xs, n, _, hx, hl, hlen, hf⟩ := DataW.trod_struct hs hf
  match xs, hlen with
  | [y0, y1, y2, y3, y4, y5, y6], _ =>
    obtain ⟨o0, k0⟩ := hone_of hone 0 f0 rfl
    obtain ⟨o1, k1⟩ := hone_of hone 1 f1 rfl
    obtain ⟨o2, k2⟩ := hone_of hone 2 f2 rfl
    obtain ⟨o3, k3⟩ := hone_of hone 3 f3 rfl
    obtain ⟨o4, k4⟩ := hone_of hone 4 f4 rfl
    obtain ⟨o5, k5⟩ := hone_of hone 5 f5 rfl
    obtain ⟨o6, k6⟩ := hone_of hone 6 f6 rfl
    have h0 := hf 0 f0 rfl
    have h1 := hf 1 f1 rfl
    have h2 := hf 2 f2 rfl
    have h3 := hf 3 f3 rfl
    have h4 := hf 4 f4 rfl
    have h5 := hf 5 f5 rfl
    have h6 := hf 6 f6 rfl
    rw [o0, k0, t0] at h0
    rw [o1, k1, t1] at h1
    rw [o2, k2, t2] at h2
    rw [o3, k3, t3] at h3
    rw [o4, k4, t4] at h4
    rw [o5, k5, t5] at h5
    rw [o6, k6, t6] at h6
    obtain ⟨a0, rfl, rfl⟩ := one_int hi (by simpa [Value.cells] using h0)
    obtain ⟨a1, rfl, rfl⟩ := one_int hi (by simpa [Value.cells] using h1)
    obtain ⟨a2, rfl, rfl⟩ := one_int hi (by simpa [Value.cells] using h2)
    obtain ⟨a3, rfl, rfl⟩ := one_int hi (by simpa [Value.cells] using h3)
    obtain ⟨a4, rfl, rfl⟩ := one_int hi (by simpa [Value.cells] using h4)
    obtain ⟨a5, rfl, rfl⟩ := one_int hi (by simpa [Value.cells] using h5)
    obtain ⟨a6, rfl, rfl⟩ := one_int hi (by simpa [Value.cells] using h6)
    simp at hx
    exact ⟨a0, a1, a2, a3, a4, a5, a6, rfl, hx.1, hx.2⟩
end

end Go.Proofs.YthkkdbpblajahaaDoor
