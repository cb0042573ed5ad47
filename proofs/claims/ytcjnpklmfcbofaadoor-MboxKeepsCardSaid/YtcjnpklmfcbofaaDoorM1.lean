/- mbox: rows of spans. -/
import Derived.Test.YtcjnpklmfcbofaaDoorS
import Derived.Laws.AppendOwn
import Derived.Laws.OwnMore
import Derived.Deep.AppendLies
import Derived.Deep.RegionLaw
import Derived.BigRegion
import Derived.Deep.DeepFit
set_option linter.unusedVariables false
set_option linter.unusedSimpArgs false
namespace Go.Proofs.YtcjnpklmfcbofaaDoor
open Go.RowKit

/-- where an entry stands -/
structure Sp where
  head : Nat
  body : Nat
  fin : Nat

theorem info_sp : (Tryd.prog.info? 32).map (fun i => (i.zero, i.size, i.bytes)) = some (some (.agg #[.int .i64 0, .int .i64 0, .int .i64 0]), 3, 24) := by kernel_rfl
def cellsSp1 (f : Sp) : List Value := [.int .i64 f.head, .int .i64 f.body, .int .i64 f.fin]
def cellsSp (fs : List Sp) : List Value := fs.flatMap cellsSp1
theorem cellsSp_length (fs : List Sp) : (cellsSp fs).length = fs.length * 3 := by
  induction fs with
  | nil => rfl
  | cons f r ih => simp only [cellsSp, List.flatMap_cons, List.length_append, List.length_cons] at ih ⊢; rw [ih]; simp [cellsSp1]; omega
theorem cellsSp_append (a b : List Sp) : cellsSp (a ++ b) = cellsSp a ++ cellsSp b := by simp [cellsSp]
theorem cellsSp_at (fs : List Sp) (i j : Nat) (f : Sp) (hf : fs[i]? = some f) (hj : j < 3) : (cellsSp fs)[i * 3 + j]? = (cellsSp1 f)[j]? := by
  induction fs generalizing i with
  | nil => simp at hf
  | cons x r ih =>
    have hc : cellsSp (x :: r) = cellsSp1 x ++ cellsSp r := rfl
    have hx : (cellsSp1 x).length = 3 := rfl
    rw [hc]
    cases i with
    | zero =>
      obtain rfl : x = f := by simpa using hf
      rw [Nat.zero_mul, Nat.zero_add, List.getElem?_append_left (by omega)]
    | succ i =>
      rw [List.getElem?_append_right (by omega), hx, show (i + 1) * 3 + j - 3 = i * 3 + j by omega]
      exact ih i (by simpa using hf)

/-- a slice of spans that the call itself made, in blocks from B on -/
def OwnP (w : World) (B : Nat) (v : Value) (fs : List Sp) : Prop := w.ownsRow B 32 3 v fs.length (cellsSp fs)
theorem OwnP.form {w : World} {B : Nat} {v : Value} {fs : List Sp} (h : OwnP w B v fs) : ∃ a n cap, v = .slice a n cap ∧ Hid (n = fs.length) := by
  rcases h.2 with ⟨rfl, h0⟩ | ⟨g, cap, cur, rfl, _⟩
  · exact ⟨none, 0, 0, rfl, h0.symm⟩
  · exact ⟨_, _, _, rfl, rfl⟩
theorem OwnP.parts {w : World} {B : Nat} {v : Value} {fs : List Sp} (h : OwnP w B v fs) : (v = .slice none 0 0 ∧ fs = []) ∨ ∃ g cap, v = .slice (some ⟨g, 0, none⟩) fs.length cap ∧ B ≤ g ∧ g < w.heap.size := by
  have hlt := World.ownsRow.lt h
  rcases h.2 with ⟨rfl, h0⟩ | ⟨g, cap, cur, rfl, hb, hg, hc, _, _, ht⟩
  · exact .inl ⟨rfl, List.eq_nil_of_length_eq_zero h0⟩
  · exact .inr ⟨g, cap, rfl, hb, (hlt g rfl).2⟩
theorem OwnP.later {w w' : World} {B : Nat} {v : Value} {fs : List Sp} (h : OwnP w B v fs) (hb : ∀ k, v.ownBlock = some k → w'.heap[k]? = w.heap[k]?) : OwnP w' B v fs := by
  refine ⟨h.1, ?_⟩
  rcases h.2 with h0 | ⟨g, cap, cur, rfl, h1, h2, r⟩
  · exact .inl h0
  · exact .inr ⟨g, cap, cur, rfl, h1, (hb g rfl).trans h2, r⟩
theorem OwnP.below {w w' : World} {B : Nat} {v : Value} {fs : List Sp} (h : OwnP w B v fs) (hb : Below w.heap.size w w') : OwnP w' B v fs :=
  h.later fun k hk => hb.block k (World.ownsRow.lt h k hk).2
theorem OwnP.step {w' : World} {B : Nat} {v' : Value} {ls : List Sp} {f : Sp} (h : w'.ownsRow B 32 3 v' (ls.length + 1) (cellsSp ls ++ cellsSp1 f)) : OwnP w' B v' (ls ++ [f]) := by
  unfold OwnP
  rw [List.length_append, cellsSp_append]
  simpa [cellsSp] using h
theorem OwnP.cell {w : World} {B g n cap : Nat} {fs : List Sp} (h : OwnP w B (.slice (some ⟨g, 0, none⟩) n cap) fs) (i j : Nat) (f : Sp) (hf : fs[i]? = some f) (hj : j < 3) : w.cell? ⟨g, i * 3 + j, none⟩ = (cellsSp1 f)[j]? := by
  have hc := cellsSp_at fs i j f hf hj
  have hlt : j < (cellsSp1 f).length := hj
  rw [List.getElem?_eq_getElem hlt] at hc ⊢
  have := World.ownsRow.cells h (g := g) rfl (i * 3 + j) _ hc
  rw [← this]
  by_cases h0 : i * 3 + j = 0
  · rw [h0]; rfl
  · have e : (⟨g, 0, none⟩ : Addr).add (i * 3 + j) = ⟨g, i * 3 + j, none⟩ := by
      unfold Addr.add
      rw [if_neg h0]
      simp
    rw [e]
theorem frozenP {w : World} {B g n cap : Nat} {fs : List Sp} (h : OwnP w B (.slice (some ⟨g, 0, none⟩) n cap) fs) (j : Nat) : w.frozen? ⟨g, j, none⟩ = false := by
  rcases h.2 with ⟨h', _⟩ | ⟨g', cap', cur, h', _, hg, _⟩
  · simp at h'
  · simp at h'
    obtain ⟨rfl, _⟩ := h'
    simp [World.frozen?, hg]
/-- the last span's end turned -/
theorem OwnP.turn {w : World} {B g cap : Nat} {fs0 : List Sp} {f : Sp} (h : OwnP w B (.slice (some ⟨g, 0, none⟩) (fs0.length + 1) cap) (fs0 ++ [f])) (q : Nat) :
    OwnP (w.setCell ⟨g, fs0.length * 3 + 2, none⟩ (.int .i64 q)) B (.slice (some ⟨g, 0, none⟩) (fs0.length + 1) cap) (fs0 ++ [{ f with fin := q }]) := by
  unfold OwnP at *
  have e1 : (fs0 ++ [f]).length = fs0.length + 1 := by simp
  have e2 : (fs0 ++ [{ f with fin := q }]).length = fs0.length + 1 := by simp
  rw [e1] at h
  rw [e2]
  have h1 := (World.ownsRow.stored h (fs0.length * 3 + 2) (.int .i64 q)).1
  have e3 : (cellsSp (fs0 ++ [f])).set (fs0.length * 3 + 2) (.int .i64 q) = cellsSp (fs0 ++ [{ f with fin := q }]) := by
    rw [cellsSp_append, cellsSp_append, List.set_append_right _ _ (by rw [cellsSp_length]; omega), cellsSp_length, show fs0.length * 3 + 2 - fs0.length * 3 = 2 by omega]
    simp [cellsSp, cellsSp1]
  rwa [e3] at h1

end Go.Proofs.YtcjnpklmfcbofaaDoor
