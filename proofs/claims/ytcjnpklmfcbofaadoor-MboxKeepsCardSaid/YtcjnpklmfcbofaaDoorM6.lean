/- mbox (plain): an entry's first line. -/
import Derived.Test.YtcjnpklmfcbofaaDoorM4
import Derived.Test.YtcjnpklmfcbofaaDoorD10
set_option linter.unusedVariables false
set_option linter.unusedSimpArgs false
namespace Go.Proofs.YtcjnpklmfcbofaaDoor

theorem dec_nl : ∀ (f u : Nat), u < f → (10 : UInt8) ∉ Lib.decDigits u
  | 0, u, h => absurd h (by omega)
  | f + 1, u, h => by
    rw [Lib.decDigits.eq_1]
    have hd : ∀ k, k < 10 → (10 : UInt8) ≠ UInt8.ofNat (48 + k) := by
      intro k hk e
      have := congrArg UInt8.toNat e
      rw [UInt8.toNat_ofNat'] at this
      have h10 : (10 : UInt8).toNat = 10 := rfl
      omega
    split
    · rename_i h1
      intro m
      exact hd u h1 (by simpa using m)
    · rename_i h1
      intro m
      rcases List.mem_append.1 m with m | m
      · exact dec_nl f (u / 10) (by omega) m
      · exact hd (u % 10) (by omega) (by simpa using m)
theorem two_nl (n : Int) (a : List UInt8) (ha : (10 : UInt8) ∉ a) : (10 : UInt8) ∉ twoL n a := by
  unfold twoL
  split
  · intro m
    rcases List.mem_append.1 m with m | m
    · exact ha m
    · exact dec_nl _ _ (Nat.lt_succ_self _) m
  · exact dec_nl _ _ (Nat.lt_succ_self _)
theorem week_nl (wk : Int) : (10 : UInt8) ∉ weekL wk := fun h => absurd (List.mem_of_mem_drop (List.mem_of_mem_take h)) (by decide)
theorem month_nl (m : Int) : (10 : UInt8) ∉ monthL m := fun h => absurd (List.mem_of_mem_drop (List.mem_of_mem_take h)) (by decide)
theorem box_nl (y m d h mi s wk : Int) : (10 : UInt8) ∉ boxL y m d h mi s wk := by
  unfold boxL clockL
  simp only [List.mem_append, not_or]
  have t := fun n a ha => two_nl n a ha
  exact ⟨⟨⟨⟨⟨⟨⟨⟨week_nl wk, by decide⟩, month_nl m⟩, by decide⟩, t d [32] (by decide)⟩, by decide⟩, ⟨⟨⟨⟨t h [48] (by decide), by decide⟩, t mi [48] (by decide)⟩, by decide⟩, t s [48] (by decide)⟩⟩, by decide⟩, dec_nl _ _ (Nat.lt_succ_self _)⟩
/-- an entry's first line -/
def headL (sender box : List UInt8) : List UInt8 := fromL ++ sender ++ [32] ++ box ++ [10]
theorem head_ok {sender box : List UInt8} (h1 : (10 : UInt8) ∉ sender) (h2 : (10 : UInt8) ∉ box) : headOk (headL sender box) := by
  refine ⟨?_, fromL ++ sender ++ [32] ++ box, rfl, ?_⟩
  · have e : headL sender box = 70 :: ([114, 111, 109, 32] ++ sender ++ [32] ++ box ++ [10]) := by simp [headL, fromL]
    have hh : headM (headL sender box) = false := by rw [e]; rfl
    unfold sepB looks
    rw [unmark_no _ hh, hh]
    simp [headL, fromL]
  · intro c hc e
    subst e
    simp only [List.mem_append] at hc
    rcases hc with ((hc | hc) | hc) | hc
    · exact absurd hc (by decide)
    · exact h1 hc
    · exact absurd hc (by decide)
    · exact h2 hc

end Go.Proofs.YtcjnpklmfcbofaaDoor
