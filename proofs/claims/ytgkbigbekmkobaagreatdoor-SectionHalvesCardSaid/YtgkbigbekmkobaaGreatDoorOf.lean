/- A slice of fields that came in. -/
import Derived.Test.YtgkbigbekmkobaaGreatDoorSs
import Derived.Deep.Slices
import Derived.Deep.Fields
import Derived.ChangeArms
import Derived.ChangeOld
import Derived.WideShapes
set_option linter.unusedVariables false
set_option linter.unusedSimpArgs false
namespace Go.Proofs.YtgkbigbekmkobaaGreatDoor
open Go.RowKit Go.Deep Go.WideShapes Go.ChangeShapes

/-- a field that came in -/
structure Fla where
  name : List UInt8
  value : List UInt8
  pos : Int
  fin : Int

def cellsFla (f : Fla) : List Value := [.string (bs f.name), .string (bs f.value), .int .i64 f.pos, .int .i64 f.fin]

/-- an argument that reads as the fields fs -/
def ArgF (w : World) (v : Value) (fs : List Fla) : Prop :=
  (∃ a c, v = .slice a 0 c ∧ fs = []) ∨ ∃ (b o c : Nat), v = .slice (some ⟨b, o, none⟩) fs.length c ∧ 0 < fs.length ∧ b < w.heap.size ∧
    ∀ j f, fs[j]? = some f → ∀ i, i < 4 → w.cell? ⟨b, o + (j * 4 + i), none⟩ = (cellsFla f)[i]?

theorem ArgF.below {w w' : World} {v : Value} {fs : List Fla} (h : ArgF w v fs) (hb : Below w.heap.size w w') : ArgF w' v fs := by
  rcases h with h | ⟨b, o, c, h1, h2, h3, h4⟩
  · exact .inl h
  · exact .inr ⟨b, o, c, h1, h2, Nat.lt_of_lt_of_le h3 hb.size, fun j f hf i hi => (hb.cell (p := ⟨b, o + (j * 4 + i), none⟩) h3).trans (h4 j f hf i hi)⟩

theorem ba_data (s : ByteArray) : bs s.data.toList = s := by
  apply ByteArray.ext
  simp

section
variable {H : Type} {enc : TypeId × Value → H} {w : World} {base : Nat} {spare : Nat → Bool} {held : Bool}

theorem open_ssii {P : Program} {t ts ti : TypeId} {f0 f1 f2 f3 : Field} {n : Nat} {cs : List Value} {x : DataW H × List MemPlace} (hs : P.underlying t = some (.struct #[f0, f1, f2, f3])) (hone : oneCellFields P #[f0, f1, f2, f3] = true) (hC : P.cellsOf t = 4)
    (hS : P.underlying ts = some .string) (hI : P.underlying ti = some (.int .i64)) (t0 : f0.type = ts) (t1 : f1.type = ts) (t2 : f2.type = ti) (t3 : f3.type = ti) (h : DataW.trod enc P w base spare held n t cs = some x) :
    ∃ f : Fla, cs = cellsFla f ∧ f.name.length ≤ maxLen ∧ f.value.length ≤ maxLen := by
  obtain ⟨xs, m, _, hx, hl, hlen, hf⟩ := DataW.trod_struct hs h
  rw [hC] at hl
  match cs, hl, xs, hlen with
  | [c0, c1, c2, c3], _, [y0, y1, y2, y3], _ =>
    obtain ⟨o0, k0⟩ := hone_of hone 0 f0 rfl
    obtain ⟨o1, k1⟩ := hone_of hone 1 f1 rfl
    obtain ⟨o2, k2⟩ := hone_of hone 2 f2 rfl
    obtain ⟨o3, k3⟩ := hone_of hone 3 f3 rfl
    have h0 := hf 0 f0 rfl
    have h1 := hf 1 f1 rfl
    have h2 := hf 2 f2 rfl
    have h3 := hf 3 f3 rfl
    rw [o0, k0, t0] at h0
    rw [o1, k1, t1] at h1
    rw [o2, k2, t2] at h2
    rw [o3, k3, t3] at h3
    obtain ⟨s0, e0, _, z0⟩ := DataW.trod_string hS h0
    obtain ⟨s1, e1, _, z1⟩ := DataW.trod_string hS h1
    obtain ⟨a2, e2, _, _⟩ := DataW.trod_int hI h2
    obtain ⟨a3, e3, _, _⟩ := DataW.trod_int hI h3
    simp at e0 e1 e2 e3
    subst e0 e1 e2 e3
    exact ⟨⟨s0.data.toList, s1.data.toList, a2, a3⟩, by simp [cellsFla, ba_data], by simpa using z0, by simpa using z1⟩

theorem open_fld {n : Nat} {cs : List Value} {x : DataW H × List MemPlace} (h : DataW.trod enc Tryz.prog w base spare held n 72 cs = some x) :
    ∃ f : Fla, cs = cellsFla f ∧ f.name.length ≤ maxLen ∧ f.value.length ≤ maxLen :=
  open_ssii Tryz.underlying72 (by kernel_rfl) (by kernel_rfl) Tryz.underlying9 Tryz.underlying3 rfl rfl rfl rfl h

set_option maxRecDepth 100000 in
theorem arg_flds {W : World} {t : TypeId} (ht : Tryz.prog.underlying t = some (.slice 72)) {a0 : Option Addr} {len cap : Nat} {d : DataW H} {p : List MemPlace}
    (h0 : DataW.Trod enc Tryz.prog W 0 (fun _ => true) true t (.slice a0 len cap) d p) : ∃ fs, ArgF W (.slice a0 len cap) fs ∧ fs.length ≤ maxLen ∧ ∀ f ∈ fs, f.name.length ≤ maxLen ∧ f.value.length ≤ maxLen := by
  obtain ⟨fuel, hf⟩ := h0
  have hlt := DataW.trod_lt _ _ _ _ hf
  have hC : Tryz.prog.cellsOf 72 = 4 := by kernel_rfl
  rcases open_slice ht hf with ⟨hcs, hx⟩ | ⟨a, len', cap', m, n, D, Pl, hcs, _, hl, hm, hmm, hx, hel⟩
  · simp [Value.cells] at hcs
    obtain ⟨rfl, rfl, rfl⟩ := hcs
    exact ⟨[], .inl ⟨_, _, rfl, rfl⟩, by simp, by simp⟩
  · simp [Value.cells] at hcs
    obtain ⟨rfl, rfl, rfl⟩ := hcs
    simp only [Prod.mk.injEq] at hx
    obtain ⟨rfl, rfl⟩ := hx
    simp only [if_true] at hmm
    subst hmm
    rw [hC] at hel
    by_cases h1 : len = 0
    · subst h1
      exact ⟨[], .inl ⟨_, _, rfl, rfl⟩, by simp, by simp⟩
    · have key : ∀ i, i < m → ∃ f : Fla, W.cells? 0 (a.add (i * 4)) 4 = some (cellsFla f) ∧ f.name.length ≤ maxLen ∧ f.value.length ≤ maxLen := fun i hi => by
        obtain ⟨cs', h1, h2⟩ := hel i hi
        obtain ⟨f, rfl, h3, h4⟩ := open_fld h2
        exact ⟨f, h1, h3, h4⟩
      haveI : Inhabited Fla := ⟨⟨[], [], 0, 0⟩⟩
      obtain ⟨F, hF⟩ := choose_lt key
      obtain ⟨b, off, spot⟩ := a
      have hcell0 := (World.cells?_some (hF 0 (by omega)).1).2.2 0 (by decide)
      have hspot : spot = none := by simpa [Addr.add] using World.cell?_spot hcell0
      subst hspot
      have hlen : ((List.range len).map F).length = len := by simp
      refine ⟨(List.range len).map F, .inr ⟨b, off, m, by rw [hlen], by omega, ?_, fun j f hj i hi => ?_⟩, by rw [hlen]; omega, ?_⟩
      · exact hlt (.cell b off) (List.mem_append_left _ (MemPlace.mem_row.2 ⟨0, by rw [hC]; omega, by simp⟩))
      · obtain ⟨hj1, hj2⟩ := List.getElem?_eq_some_iff.1 hj
        rw [hlen] at hj1
        simp only [List.getElem_map, List.getElem_range] at hj2
        subst hj2
        have := (World.cells?_some (hF j (by omega)).1).2.2 i hi
        rw [add_add, add_plain] at this
        exact this
      · intro f hf9
        obtain ⟨j, hj, rfl⟩ := List.mem_map.1 hf9
        exact (hF j (by have := List.mem_range.1 hj; omega)).2
end

end Go.Proofs.YtgkbigbekmkobaaGreatDoor
