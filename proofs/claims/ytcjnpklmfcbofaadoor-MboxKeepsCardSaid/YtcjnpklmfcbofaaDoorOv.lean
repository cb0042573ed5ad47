/- A slice of truths that came in. -/
import Derived.Test.YtcjnpklmfcbofaaDoorMG
set_option linter.unusedVariables false
set_option linter.unusedSimpArgs false
namespace Go.Proofs.YtcjnpklmfcbofaaDoor
open Go.RowKit Go.Deep Go.WideShapes Go.ChangeShapes

section
variable {H : Type} {enc : TypeId × Value → H}
set_option maxRecDepth 100000 in
theorem arg_bools {W : World} {t : TypeId} (ht : Tryd.prog.underlying t = some (.slice 4)) {a0 : Option Addr} {len cap : Nat} {d : DataW H} {p : List MemPlace}
    (h0 : DataW.Trod enc Tryd.prog W 0 (fun _ => true) true t (.slice a0 len cap) d p) : ∃ l, ArgV W W.heap.size (.slice a0 len cap) l ∧ l.length ≤ maxLen ∧ True := by
  obtain ⟨V, hl, hq, hr⟩ := arg_cells ht (by kernel_rfl) (q := fun v => ∃ b : Bool, v = .bool b) (fun n v y h => by
    obtain ⟨k, hk, _⟩ := DataW.trod_bool Tryd.underlying4 h
    simp at hk
    exact ⟨k, hk⟩) h0
  have key : ∃ F : Nat → Bool, ∀ j, j < len → V j = .bool (F j) := by
    refine ⟨fun j => if h : j < len then Classical.choose (hq j h) else false, fun j hj => ?_⟩
    simp only [hj, dif_pos]
    exact Classical.choose_spec (hq j hj)
  obtain ⟨F, hF⟩ := key
  have hlen : ((List.range len).map F).length = len := by simp
  refine ⟨(List.range len).map F, ⟨a0, cap, by rw [hlen], fun j hj => ?_⟩, by rw [hlen]; exact hl, trivial⟩
  rw [hlen] at hj
  rcases hr with ⟨_, h, _⟩ | ⟨A, h1, _, _, h3⟩
  · omega
  · obtain ⟨b, o, rfl, h3, h4⟩ := h3 (by omega)
    refine ⟨b, o, h1, h3, ?_⟩
    rw [h4 j hj, hF j hj]
    simp [List.getD, hj]
end

end Go.Proofs.YtcjnpklmfcbofaaDoor
