/- A slice of strings that came in. -/
import Derived.Test.YtcjnpklmfcbofaaDoorSs
import Derived.SliceStrings
import Derived.ChangeOld
import Derived.WideShapes
set_option linter.unusedVariables false
set_option linter.unusedSimpArgs false
namespace Go.Proofs.YtcjnpklmfcbofaaDoor
open Go.RowKit

theorem cellsOf_str : Tryd.prog.cellsOf 9 = 1 := by kernel_rfl

/-- an argument that reads as the strings ls -/
def ArgS (w : World) (v : Value) (ls : List (List UInt8)) : Prop :=
  (∃ a c, v = .slice a 0 c ∧ ls = []) ∨ ∃ (b o c : Nat), v = .slice (some ⟨b, o, none⟩) ls.length c ∧ 0 < ls.length ∧ b < w.heap.size ∧ ∀ j, j < ls.length → w.cell? ⟨b, o + j, none⟩ = some (.string (bs (ls.getD j [])))

theorem bs_data (s : ByteArray) : bs s.data.toList = s := by
  apply ByteArray.ext
  simp

theorem arg_strs {H : Type} {enc : TypeId × Value → H} {W : World} {t : TypeId} (ht : Tryd.prog.underlying t = some (.slice 9)) {a0 : Option Addr} {len cap : Nat} {d : DataW H} {p : List MemPlace}
    (h0 : DataW.Trod enc Tryd.prog W 0 (fun _ => true) true t (.slice a0 len cap) d p) : ∃ ls, ArgS W (.slice a0 len cap) ls ∧ ls.length ≤ maxLen ∧ ∀ l ∈ ls, l.length ≤ maxLen := by
  obtain ⟨fuel, hf⟩ := h0
  have hlt := DataW.trod_lt _ _ _ _ hf
  rcases Go.ChangeShapes.open_strings ht Tryd.underlying9 cellsOf_str hf with ⟨hcs, hx⟩ | ⟨a, len', cap', ss, hcs, _, hl, hm, hz, hx, hcell, hws⟩
  · simp [Value.cells] at hcs
    obtain ⟨rfl, rfl, rfl⟩ := hcs
    exact ⟨[], .inl ⟨_, _, rfl, rfl⟩, by simp, by simp⟩
  · simp [Value.cells] at hcs
    obtain ⟨rfl, rfl, rfl⟩ := hcs
    simp only [Prod.mk.injEq] at hx
    obtain ⟨rfl, rfl⟩ := hx
    simp only [if_true] at hz
    by_cases h1 : len = 0
    · subst h1
      exact ⟨[], .inl ⟨_, _, rfl, rfl⟩, by simp, by simp⟩
    · obtain ⟨b, off, spot⟩ := a
      have hspot : spot = none := by simpa [Addr.add] using World.cell?_spot (hcell 0 (by omega))
      subst hspot
      have hlen : ((ss.take len).map (fun s => s.data.toList)).length = len := by simp; omega
      refine ⟨(ss.take len).map (fun s => s.data.toList), .inr ⟨b, off, cap, by rw [hlen], by omega, ?_, fun j hj => ?_⟩, by rw [hlen]; omega, ?_⟩
      · exact hlt (.cell b off) (MemPlace.mem_row.2 ⟨0, by omega, by simp⟩)
      · rw [hlen] at hj
        have := hcell j (by omega)
        have e0 : (⟨b, off, none⟩ : Addr).add j = ⟨b, off + j, none⟩ := by unfold Addr.add; split <;> simp_all
        rw [e0] at this
        rw [this]
        have e : ((ss.take len).map (fun s => s.data.toList)).getD j [] = (ss.getD j ByteArray.empty).data.toList := by
          simp [List.getD, hj, show j < ss.length by omega]
        rw [e, bs_data]
      · intro l hl9
        obtain ⟨s, hs, rfl⟩ := List.mem_map.1 hl9
        have := hws s (List.mem_of_mem_take hs)
        simpa using this

end Go.Proofs.YtcjnpklmfcbofaaDoor
