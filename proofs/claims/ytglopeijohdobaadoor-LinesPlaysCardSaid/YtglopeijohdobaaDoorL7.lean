/- Rows of told lines; what stays while a reader turns. -/
import Derived.Test.YtglopeijohdobaaDoorL3
import Derived.Test.YtglopeijohdobaaDoorLn
import Derived.Test.YtglopeijohdobaaDoorOa
import Derived.Laws.AppendOwn
import Derived.Laws.OwnMore
import Derived.Deep.DeepFit
set_option linter.unusedVariables false
set_option linter.unusedSimpArgs false
namespace Go.Proofs.YtglopeijohdobaaDoor
open Go.RowKit

theorem info_ln : (Tryd.prog.info? 30).map (fun i => (i.zero, i.size, i.bytes)) = some (some (.agg #[.string ⟨#[]⟩, .bool false]), 2, 24) := by kernel_rfl

def cellsLn (f : Ln) : List Value := [.string (bs f.1), .bool f.2]
/-- lines as cells -/
def cellsN (fs : List Ln) : List Value := fs.flatMap cellsLn
theorem cellsN_append (a b : List Ln) : cellsN (a ++ b) = cellsN a ++ cellsN b := by simp [cellsN]
theorem cellsN_at (fs : List Ln) (i j : Nat) (f : Ln) (hf : fs[i]? = some f) (hj : j < 2) : (cellsN fs)[i * 2 + j]? = (cellsLn f)[j]? := by
  induction fs generalizing i with
  | nil => simp at hf
  | cons x r ih =>
    have hc : cellsN (x :: r) = cellsLn x ++ cellsN r := rfl
    have hx : (cellsLn x).length = 2 := rfl
    rw [hc]
    cases i with
    | zero =>
      obtain rfl : x = f := by simpa using hf
      rw [Nat.zero_mul, Nat.zero_add, List.getElem?_append_left (by omega)]
    | succ i =>
      rw [List.getElem?_append_right (by omega), hx, show (i + 1) * 2 + j - 2 = i * 2 + j by omega]
      exact ih i (by simpa using hf)

/-- a slice of lines that the call itself made, in blocks from B on -/
def OwnN (w : World) (B : Nat) (v : Value) (fs : List Ln) : Prop := w.ownsRow B 30 2 v fs.length (cellsN fs)
theorem OwnN.lt {w : World} {B : Nat} {v : Value} {fs : List Ln} (h : OwnN w B v fs) (k : Nat) (hk : v.ownBlock = some k) : B ≤ k ∧ k < w.heap.size := World.ownsRow.lt h k hk
theorem OwnN.later {w w' : World} {B : Nat} {v : Value} {fs : List Ln} (h : OwnN w B v fs) (hb : ∀ k, v.ownBlock = some k → w'.heap[k]? = w.heap[k]?) : OwnN w' B v fs := by
  refine ⟨h.1, ?_⟩
  rcases h.2 with h0 | ⟨g, cap, cur, rfl, h1, h2, r⟩
  · exact .inl h0
  · exact .inr ⟨g, cap, cur, rfl, h1, (hb g rfl).trans h2, r⟩
theorem OwnN.ne {w : World} {B b : Nat} {v : Value} {fs : List Ln} {h : List UInt8} {k : Int} (ho : OwnN w B v fs) (hk : RdAt w b h k) : v.ownBlock ≠ some b := by
  intro e
  rcases ho.2 with ⟨rfl, _⟩ | ⟨g, cap, cur, rfl, _, hg, _⟩
  · cases e
  · obtain rfl : g = b := by simpa [Value.ownBlock] using e
    unfold RdAt at hk
    rw [hg] at hk
    simp at hk
/-- .. while a reader turns -/
theorem OwnN.upd {w w' : World} {B b : Nat} {v : Value} {fs : List Ln} {h : List UInt8} {k : Int} (ho : OwnN w B v fs) (hk : RdAt w b h k) (hu : Upd b w w') : OwnN w' B v fs :=
  ho.later fun i hi => hu.block i (ho.lt i hi).2 (fun e => ho.ne hk (by rw [hi, e]))
theorem OwnN.below {w w' : World} {B : Nat} {v : Value} {fs : List Ln} (ho : OwnN w B v fs) (hb : Below w.heap.size w w') : OwnN w' B v fs :=
  ho.later fun i hi => hb.block i (ho.lt i hi).2
theorem OwnN.form {w : World} {B : Nat} {v : Value} {fs : List Ln} (h : OwnN w B v fs) : ∃ a n cap, v = .slice a n cap ∧ Hid (n = fs.length) := by
  rcases h.2 with ⟨rfl, h0⟩ | ⟨g, cap, cur, rfl, _⟩
  · exact ⟨none, 0, 0, rfl, h0.symm⟩
  · exact ⟨_, _, _, rfl, rfl⟩
theorem OwnN.parts {w : World} {B : Nat} {v : Value} {fs : List Ln} (h : OwnN w B v fs) : (v = .slice none 0 0 ∧ fs = []) ∨ ∃ g cap, v = .slice (some ⟨g, 0, none⟩) fs.length cap ∧ g < w.heap.size := by
  have hlt := World.ownsRow.lt h
  rcases h.2 with ⟨rfl, h0⟩ | ⟨g, cap, cur, rfl, hb, hg, hc, _, _, ht⟩
  · exact .inl ⟨rfl, List.eq_nil_of_length_eq_zero h0⟩
  · exact .inr ⟨g, cap, rfl, (hlt g rfl).2⟩
theorem OwnN.cell {w : World} {B g n cap : Nat} {fs : List Ln} (h : OwnN w B (.slice (some ⟨g, 0, none⟩) n cap) fs) (i j : Nat) (f : Ln) (hf : fs[i]? = some f) (hj : j < 2) : w.cell? ⟨g, i * 2 + j, none⟩ = (cellsLn f)[j]? := by
  have hc := cellsN_at fs i j f hf hj
  have hlt : j < (cellsLn f).length := hj
  rw [List.getElem?_eq_getElem hlt] at hc ⊢
  have := World.ownsRow.cells h (g := g) rfl (i * 2 + j) _ hc
  rw [← this]
  by_cases h0 : i * 2 + j = 0
  · rw [h0]; rfl
  · have e : (⟨g, 0, none⟩ : Addr).add (i * 2 + j) = ⟨g, i * 2 + j, none⟩ := by
      unfold Addr.add
      rw [if_neg h0]
      simp
    rw [e]

/-- a reader that is not the one that turns -/
theorem RdAt.upd {w w' : World} {b c : Nat} {h : List UInt8} {k : Int} (hk : RdAt w c h k) (hu : Upd b w w') (hbc : c ≠ b) : RdAt w' c h k := (hu.block c hk.lt hbc).trans hk
theorem RdAt.grown {w w' : World} {b : Nat} {h : List UInt8} {k : Int} {v : Value} (hk : RdAt w b h k) (hg : w.grownBy w' v.ownBlock) (hv : v.ownBlock ≠ some b) : RdAt w' b h k :=
  (hg.block b hk.lt (fun e => hv e.symm)).trans hk

/-- what a slice of the argument reads as -/
theorem ArgB.below {w w' : World} {v : Value} {l : List UInt8} (h : ArgB w v l) (hb : Below w.heap.size w w') : ArgB w' v l := by
  obtain ⟨a, c, h1, h2, h3⟩ := h
  refine ⟨a, c, h1, h2, fun hne => ?_⟩
  obtain ⟨b, o, h4, h5, h6⟩ := h3 hne
  exact ⟨b, o, h4, Nat.lt_of_lt_of_le h5 hb.size, fun j hj => (hb.cell (p := ⟨b, o + j, none⟩) h5).trans (h6 j hj)⟩
/-- bytes at whatever address -/
def BytesZ (w : World) (v : Value) (l : List UInt8) : Prop := (∃ c, v = .slice none 0 c ∧ l = []) ∨ ∃ a cap, v = .slice (some a) l.length cap ∧ ∀ j (hj : j < l.length), w.cell? (a.add j) = some (.int .u8 (l[j].toNat : Int))
theorem add_pl (b off i : Nat) : (⟨b, off, none⟩ : Addr).add i = ⟨b, off + i, none⟩ := by
  unfold Addr.add
  split <;> simp_all
theorem convert_z {w : World} {v : Value} {l : List UInt8} (h : BytesZ w v l) : (convert 22 9 v).run Tryd.prog w = .ok (.string (bs l)) w := by
  rcases h with ⟨c, rfl, rfl⟩ | ⟨a, cap, rfl, hc⟩
  · exact run_convert_bytes_nil w 22 5 Tryd.underlying22 Tryd.underlying5 0 c 9 Tryd.underlying9
  · exact run_convert_bytes_back w 22 9 5 a cap l Tryd.underlying22 Tryd.underlying5 Tryd.underlying9 hc
theorem ArgB.z {w : World} {v : Value} {l : List UInt8} (h : ArgB w v l) : BytesZ w v l := by
  obtain ⟨a, c, rfl, h2, h3⟩ := h
  cases a with
  | none =>
    by_cases hl : l = []
    · exact .inl ⟨c, by rw [hl]; rfl, hl⟩
    · obtain ⟨_, _, h, _⟩ := h3 hl; cases h
  | some A =>
    refine .inr ⟨A, c, rfl, fun j hj => ?_⟩
    obtain ⟨b, o, hA, _, h6⟩ := h3 (by rintro rfl; simp at hj)
    obtain rfl := Option.some.inj hA
    rw [add_pl, h6 j hj]
    simp [List.getD, hj]
theorem elem_bytes : Tryd.prog.underlying 22 = some (.slice (Tryd.prog.elem 22)) := by kernel_rfl
/-- b[p:q] of the argument -/
theorem ArgB.sub {w : World} {v : Value} {l : List UInt8} (h : ArgB w v l) {p q : Nat} (hpq : p ≤ q) (hq : q ≤ l.length) :
    ∃ v', (∀ W, (Instr.slice 22 v (some (.int .i64 p)) (some (.int .i64 q)) none).run Tryd.prog W = .ok v' W) ∧ ∀ w', Below w.heap.size w w' → BytesZ w' v' ((l.drop p).take (q - p)) := by
  obtain ⟨a, c, rfl, h2, h3⟩ := h
  refine ⟨.slice (if c = p then a else a.map (·.add p)) (q - p) (c - p), fun W => ?_, fun w' hb => ?_⟩
  · rw [run_slice_lh W 22 a l.length c elem_bytes .i64 .i64 p q (by omega) (by omega) (by omega)]
    have e1 : Tryd.prog.elem 22 = 5 := by kernel_rfl
    rw [e1, Tryd.sizeOf5]
    simp [Result.andThen, sliced]
  · have hlen : ((l.drop p).take (q - p)).length = q - p := by simp; omega
    by_cases hpq2 : p = q
    · subst hpq2
      have e0 : (l.drop p).take (p - p) = [] := by simp
      rw [e0, Nat.sub_self]
      cases (if c = p then a else a.map (·.add p)) with
      | none => exact .inl ⟨_, rfl, rfl⟩
      | some A => exact .inr ⟨A, _, rfl, fun j hj => by simp at hj⟩
    · obtain ⟨b, o, rfl, h5, h6⟩ := h3 (by rintro rfl; simp at hq; omega)
      have hcp : ¬ c = p := by omega
      rw [if_neg hcp]
      refine .inr ⟨⟨b, o + p, none⟩, c - p, by rw [hlen]; simp [add_pl], fun j hj => ?_⟩
      rw [hlen] at hj
      rw [add_pl, show o + p + j = o + (p + j) by omega]
      refine ((hb.cell (p := ⟨b, o + (p + j), none⟩) h5).trans (h6 (p + j) (by omega))).trans ?_
      simp [List.getD, show p + j < l.length by omega]

set_option maxRecDepth 100000 in
theorem put_z (w : World) (b : Nat) (h : List UInt8) (k : Int) (v : Value) (l : List UInt8) (hk : RdAt w b h k) (hv : BytesZ w v l) (hs : h.length + l.length ≤ 140737488355328) :
    Calls Tryd.prog 9 #[.pointer (some ⟨b, 0, none⟩), v] w fun e w' => e = .returned (.tuple #[]) ∧ RdAt w' b (h ++ l) k ∧ Upd b w w' := by
  obtain ⟨c0, c1, f0, f1⟩ := rd_cells hk
  have hcv := convert_z (w := w.drew) hv
  go_enter Tryd.func9, Tryd.ntmps9
  go_wp2
  go_region
  all_goals
    go_end0
    refine ⟨rfl, ?_, ?_⟩
    · rw [bs_append]
      exact rd_set0 hk _
    · exact ((Upd.refl b w).setCell 0 _).drew

end Go.Proofs.YtglopeijohdobaaDoor
