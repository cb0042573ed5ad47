/- Slices of bytes and of ints that came in. -/
import Derived.Test.YtcjnpklmfcbofaaDoorOb
import Derived.Deep.Slices
import Derived.ChangeArms
import Derived.ChangeOld
import Derived.WideShapes
set_option linter.unusedVariables false
set_option linter.unusedSimpArgs false
namespace Go.Proofs.YtcjnpklmfcbofaaDoor
open Go.RowKit Go.Deep Go.WideShapes Go.ChangeShapes

/-- an argument whose elements are one cell each -/
def ArgC (w : World) (v : Value) (n : Nat) (V : Nat → Value) : Prop :=
  (v = .slice none 0 0 ∧ n = 0) ∨ ∃ b o c, v = .slice (some ⟨b, o, none⟩) n c ∧ n ≤ c ∧ (0 < n → b < w.heap.size) ∧ ∀ j, j < n → w.cell? ⟨b, o + j, none⟩ = some (V j)

section
variable {H : Type} {enc : TypeId × Value → H}

set_option maxRecDepth 100000 in
theorem arg_cells {W : World} {t e : TypeId} (ht : Tryd.prog.underlying t = some (.slice e)) (hc : Tryd.prog.cellsOf e = 1) {q : Value → Prop} (hq : ∀ (n : Nat) (v : Value) (y : DataW H × List MemPlace), DataW.trod enc Tryd.prog W 0 (fun _ => true) true n e [v] = some y → q v)
    {a0 : Option Addr} {len cap : Nat} {d : DataW H} {p : List MemPlace} (h0 : DataW.Trod enc Tryd.prog W 0 (fun _ => true) true t (.slice a0 len cap) d p) :
    ∃ V : Nat → Value, len ≤ maxLen ∧ (∀ j, j < len → q (V j)) ∧ ((a0 = none ∧ len = 0 ∧ cap = 0) ∨ ∃ A, a0 = some A ∧ len ≤ cap ∧ cap ≤ maxLen ∧ (0 < len → ∃ b o, A = ⟨b, o, none⟩ ∧ b < W.heap.size ∧ ∀ j, j < len → W.cell? ⟨b, o + j, none⟩ = some (V j))) := by
  obtain ⟨fuel, hf⟩ := h0
  have hlt := DataW.trod_lt _ _ _ _ hf
  rcases open_slice1 ht hc hf with ⟨hcs, hx⟩ | ⟨a, len', cap', m, n, V, D, Pl, hcs, _, hl, hm, hmm, hx, hel⟩
  · simp [Value.cells] at hcs
    obtain ⟨rfl, rfl, rfl⟩ := hcs
    exact ⟨fun _ => .nilIface, by unfold maxLen; omega, fun j hj => by omega, .inl ⟨rfl, rfl, rfl⟩⟩
  · simp [Value.cells] at hcs
    obtain ⟨rfl, rfl, rfl⟩ := hcs
    simp only [if_true] at hmm
    subst hmm
    simp only [Prod.mk.injEq] at hx
    obtain ⟨rfl, rfl⟩ := hx
    refine ⟨V, by omega, fun j hj => hq _ _ _ (hel j (by omega)).2, .inr ?_⟩
    refine ⟨a, rfl, hl, hm, fun hpos => ?_⟩
    obtain ⟨b, off, spot⟩ := a
    have hcell0 := (hel 0 (by omega)).1
    have hspot : spot = none := by simpa [Addr.add] using World.cell?_spot hcell0
    subst hspot
    refine ⟨b, off, rfl, ?_, fun j hj => ?_⟩
    · exact hlt (.cell b off) (List.mem_append_left _ (MemPlace.mem_row.2 ⟨0, by omega, by simp⟩))
    · have := (hel j (by omega)).1
      rw [add_plain] at this
      exact this

/-- an argument that reads as the bytes l -/
def ArgB (w : World) (v : Value) (l : List UInt8) : Prop := ∃ a c, v = .slice a l.length c ∧ l.length ≤ c ∧ (l ≠ [] → ∃ b o, a = some ⟨b, o, none⟩ ∧ b < w.heap.size ∧ ∀ j, j < l.length → w.cell? ⟨b, o + j, none⟩ = some (.int .u8 ((l.getD j 0).toNat : Int)))
/-- an argument that reads as the numbers l -/
def ArgI (w : World) (v : Value) (l : List Int) : Prop := ∃ a c, v = .slice a l.length c ∧ l.length ≤ c ∧ (a = none → c = 0) ∧ (l ≠ [] → ∃ b o, a = some ⟨b, o, none⟩ ∧ b < w.heap.size ∧ ∀ j, j < l.length → w.cell? ⟨b, o + j, none⟩ = some (.int .i64 (l.getD j 0)))

set_option maxRecDepth 100000 in
theorem arg_bytes {W : World} {t : TypeId} (ht : Tryd.prog.underlying t = some (.slice 5)) {a0 : Option Addr} {len cap : Nat} {d : DataW H} {p : List MemPlace}
    (h0 : DataW.Trod enc Tryd.prog W 0 (fun _ => true) true t (.slice a0 len cap) d p) : ∃ l, ArgB W (.slice a0 len cap) l ∧ l.length ≤ maxLen ∧ True := by
  obtain ⟨V, hl, hq, hr⟩ := arg_cells ht (by kernel_rfl) (q := fun v => ∃ c : UInt8, v = .int .u8 ((c.toNat : Nat) : Int)) (fun n v y h => by
    obtain ⟨k, hk, _, hw⟩ := DataW.trod_int Tryd.underlying5 h
    simp at hk
    refine ⟨UInt8.ofNat k.toNat, ?_⟩
    subst hk
    simp [Lit.wf, IntKind.min, IntKind.max, IntKind.bits, IntKind.signed] at hw
    have : (UInt8.ofNat k.toNat).toNat = k.toNat := by rw [UInt8.toNat_ofNat']; omega
    rw [this]
    congr 1
    omega) h0
  have key : ∃ F : Nat → UInt8, ∀ j, j < len → V j = .int .u8 (((F j).toNat : Nat) : Int) := by
    refine ⟨fun j => if h : j < len then Classical.choose (hq j h) else 0, fun j hj => ?_⟩
    simp only [hj, dif_pos]
    exact Classical.choose_spec (hq j hj)
  obtain ⟨F, hF⟩ := key
  have hlen : ((List.range len).map F).length = len := by simp
  refine ⟨(List.range len).map F, ⟨a0, cap, by rw [hlen], by rw [hlen]; rcases hr with ⟨_, h, _⟩ | ⟨_, _, h, _⟩ <;> omega, fun hne => ?_⟩, by rw [hlen]; exact hl, trivial⟩
  have hpos : 0 < len := by
    rcases Nat.eq_zero_or_pos len with h | h
    · subst h; exact absurd rfl hne
    · exact h
  rcases hr with ⟨_, h, _⟩ | ⟨A, h1, _, _, h3⟩
  · omega
  · obtain ⟨b, o, rfl, h3, h4⟩ := h3 hpos
    refine ⟨b, o, h1, h3, fun j hj => ?_⟩
    rw [hlen] at hj
    rw [h4 j hj, hF j hj]
    simp [List.getD, hj]

set_option maxRecDepth 100000 in
theorem arg_ints {W : World} {t : TypeId} (ht : Tryd.prog.underlying t = some (.slice 3)) {a0 : Option Addr} {len cap : Nat} {d : DataW H} {p : List MemPlace}
    (h0 : DataW.Trod enc Tryd.prog W 0 (fun _ => true) true t (.slice a0 len cap) d p) : ∃ l, ArgI W (.slice a0 len cap) l ∧ l.length ≤ maxLen ∧ True := by
  obtain ⟨V, hl, hq, hr⟩ := arg_cells ht (by kernel_rfl) (q := fun v => ∃ k : Int, v = .int .i64 k) (fun n v y h => by
    obtain ⟨k, hk, _, hw⟩ := DataW.trod_int Tryd.underlying3 h
    simp at hk
    exact ⟨k, hk⟩) h0
  have key : ∃ F : Nat → Int, ∀ j, j < len → V j = .int .i64 (F j) := by
    refine ⟨fun j => if h : j < len then Classical.choose (hq j h) else 0, fun j hj => ?_⟩
    simp only [hj, dif_pos]
    exact Classical.choose_spec (hq j hj)
  obtain ⟨F, hF⟩ := key
  have hlen : ((List.range len).map F).length = len := by simp
  refine ⟨(List.range len).map F, ⟨a0, cap, by rw [hlen], by rw [hlen]; rcases hr with ⟨_, h, _⟩ | ⟨_, _, h, _⟩ <;> omega, fun hn => ?_, fun hne => ?_⟩, by rw [hlen]; exact hl, trivial⟩
  · rcases hr with ⟨_, _, h⟩ | ⟨A, h1, _⟩
    · exact h
    · rw [hn] at h1; cases h1
  · have hpos : 0 < len := by
      rcases Nat.eq_zero_or_pos len with h | h
      · subst h; exact absurd rfl hne
      · exact h
    rcases hr with ⟨_, h, _⟩ | ⟨A, h1, _, _, h3⟩
    · omega
    · obtain ⟨b, o, rfl, h3, h4⟩ := h3 hpos
      refine ⟨b, o, h1, h3, fun j hj => ?_⟩
      rw [hlen] at hj
      rw [h4 j hj, hF j hj]
      simp [List.getD, hj]
end

end Go.Proofs.YtcjnpklmfcbofaaDoor
