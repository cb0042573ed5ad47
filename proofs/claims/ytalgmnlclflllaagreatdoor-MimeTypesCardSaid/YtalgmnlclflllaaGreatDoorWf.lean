/- Texts of one walk, merged: XOf XSq XH2 XH3 XH4 XH5 XH6 XH7. -/
import Derived.Test.YtalgmnlclflllaaGreatDoorWe
import Derived.Deep.Slices
import Derived.Deep.Fields
import Derived.ChangeArms
import Derived.ChangeOld
import Derived.WideShapes
import Derived.BigRegion
import Derived.LoopTactic
import Derived.Laws.AppendOwn
import Derived.Laws.OwnMore
import Derived.Deep.AppendLies
import Derived.Deep.RegionLaw
import Derived.Deep.DeepFit
import Derived.Deep.CutBlock
import Derived.Deep.RegionWith
import Derived.Deep.CutRange
import Derived.Deep.Cut
import Derived.Outline

/- A slice of fields that came in. -/
set_option linter.unusedVariables false
set_option linter.unusedSimpArgs false
section
set_option linter.unusedVariables false
set_option linter.unusedSimpArgs false
namespace Go.Proofs.YtalgmnlclflllaaGreatDoor
open Go.RowKit Go.Deep Go.WideShapes Go.ChangeShapes

/-- a field that came in -/
structure Fla where
  name : List UInt8
  value : List UInt8
  pos : Int
  fin : Int

def cellsFla (f : Fla) : List Value := [.string (bs f.name), .string (bs f.value), .int .i64 f.pos, .int .i64 f.fin]

/-- an argument that reads as the fields fs -/
def ArgF (w : World) (v : Value) (fs : List Fla) : Prop :=
  (∃ a c, v = .slice a 0 c ∧ fs = []) ∨ ∃ (b o c : Nat), v = .slice (some ⟨b, o, none⟩) fs.length c ∧ 0 < fs.length ∧ b < w.heap.size ∧
    ∀ j f, fs[j]? = some f → ∀ i, i < 4 → w.cell? ⟨b, o + (j * 4 + i), none⟩ = (cellsFla f)[i]?

theorem ArgF.below {w w' : World} {v : Value} {fs : List Fla} (h : ArgF w v fs) (hb : Below w.heap.size w w') : ArgF w' v fs := by
  rcases h with h | ⟨b, o, c, h1, h2, h3, h4⟩
  · exact .inl h
  · exact .inr ⟨b, o, c, h1, h2, Nat.lt_of_lt_of_le h3 hb.size, fun j f hf i hi => (hb.cell (p := ⟨b, o + (j * 4 + i), none⟩) h3).trans (h4 j f hf i hi)⟩

theorem ba_data (s : ByteArray) : bs s.data.toList = s := by
  apply ByteArray.ext
  simp

section
variable {H : Type} {enc : TypeId × Value → H} {w : World} {base : Nat} {spare : Nat → Bool} {held : Bool}

theorem open_ssii {P : Program} {t ts ti : TypeId} {f0 f1 f2 f3 : Field} {n : Nat} {cs : List Value} {x : DataW H × List MemPlace} (hs : P.underlying t = some (.struct #[f0, f1, f2, f3])) (hone : oneCellFields P #[f0, f1, f2, f3] = true) (hC : P.cellsOf t = 4)
    (hS : P.underlying ts = some .string) (hI : P.underlying ti = some (.int .i64)) (t0 : f0.type = ts) (t1 : f1.type = ts) (t2 : f2.type = ti) (t3 : f3.type = ti) (h : DataW.trod enc P w base spare held n t cs = some x) :
    ∃ f : Fla, cs = cellsFla f ∧ f.name.length ≤ maxLen ∧ f.value.length ≤ maxLen := by
  obtain ⟨xs, m, _, hx, hl, hlen, hf⟩ := DataW.trod_struct hs h
  rw [hC] at hl
  match cs, hl, xs, hlen with
  | [c0, c1, c2, c3], _, [y0, y1, y2, y3], _ =>
    obtain ⟨o0, k0⟩ := hone_of hone 0 f0 rfl
    obtain ⟨o1, k1⟩ := hone_of hone 1 f1 rfl
    obtain ⟨o2, k2⟩ := hone_of hone 2 f2 rfl
    obtain ⟨o3, k3⟩ := hone_of hone 3 f3 rfl
    have h0 := hf 0 f0 rfl
    have h1 := hf 1 f1 rfl
    have h2 := hf 2 f2 rfl
    have h3 := hf 3 f3 rfl
    rw [o0, k0, t0] at h0
    rw [o1, k1, t1] at h1
    rw [o2, k2, t2] at h2
    rw [o3, k3, t3] at h3
    obtain ⟨s0, e0, _, z0⟩ := DataW.trod_string hS h0
    obtain ⟨s1, e1, _, z1⟩ := DataW.trod_string hS h1
    obtain ⟨a2, e2, _, _⟩ := DataW.trod_int hI h2
    obtain ⟨a3, e3, _, _⟩ := DataW.trod_int hI h3
    simp at e0 e1 e2 e3
    subst e0 e1 e2 e3
    exact ⟨⟨s0.data.toList, s1.data.toList, a2, a3⟩, by simp [cellsFla, ba_data], by simpa using z0, by simpa using z1⟩

theorem open_fld {n : Nat} {cs : List Value} {x : DataW H × List MemPlace} (h : DataW.trod enc Tryz.prog w base spare held n 98 cs = some x) :
    ∃ f : Fla, cs = cellsFla f ∧ f.name.length ≤ maxLen ∧ f.value.length ≤ maxLen :=
  open_ssii Tryz.underlying98 (by kernel_rfl) (by kernel_rfl) Tryz.underlying9 Tryz.underlying3 rfl rfl rfl rfl h

set_option maxRecDepth 100000 in
theorem arg_flds {W : World} {t : TypeId} (ht : Tryz.prog.underlying t = some (.slice 98)) {a0 : Option Addr} {len cap : Nat} {d : DataW H} {p : List MemPlace}
    (h0 : DataW.Trod enc Tryz.prog W 0 (fun _ => true) true t (.slice a0 len cap) d p) : ∃ fs, ArgF W (.slice a0 len cap) fs ∧ fs.length ≤ maxLen ∧ ∀ f ∈ fs, f.name.length ≤ maxLen ∧ f.value.length ≤ maxLen := by
  obtain ⟨fuel, hf⟩ := h0
  have hlt := DataW.trod_lt _ _ _ _ hf
  have hC : Tryz.prog.cellsOf 98 = 4 := by kernel_rfl
  rcases open_slice ht hf with ⟨hcs, hx⟩ | ⟨a, len', cap', m, n, D, Pl, hcs, _, hl, hm, hmm, hx, hel⟩
  · simp [Value.cells] at hcs
    obtain ⟨rfl, rfl, rfl⟩ := hcs
    exact ⟨[], .inl ⟨_, _, rfl, rfl⟩, by simp, by simp⟩
  · simp [Value.cells] at hcs
    obtain ⟨rfl, rfl, rfl⟩ := hcs
    simp only [Prod.mk.injEq] at hx
    obtain ⟨rfl, rfl⟩ := hx
    simp only [if_true] at hmm
    subst hmm
    rw [hC] at hel
    by_cases h1 : len = 0
    · subst h1
      exact ⟨[], .inl ⟨_, _, rfl, rfl⟩, by simp, by simp⟩
    · have key : ∀ i, i < m → ∃ f : Fla, W.cells? 0 (a.add (i * 4)) 4 = some (cellsFla f) ∧ f.name.length ≤ maxLen ∧ f.value.length ≤ maxLen := fun i hi => by
        obtain ⟨cs', h1, h2⟩ := hel i hi
        obtain ⟨f, rfl, h3, h4⟩ := open_fld h2
        exact ⟨f, h1, h3, h4⟩
      haveI : Inhabited Fla := ⟨⟨[], [], 0, 0⟩⟩
      obtain ⟨F, hF⟩ := choose_lt key
      obtain ⟨b, off, spot⟩ := a
      have hcell0 := (World.cells?_some (hF 0 (by omega)).1).2.2 0 (by decide)
      have hspot : spot = none := by simpa [Addr.add] using World.cell?_spot hcell0
      subst hspot
      have hlen : ((List.range len).map F).length = len := by simp
      refine ⟨(List.range len).map F, .inr ⟨b, off, m, by rw [hlen], by omega, ?_, fun j f hj i hi => ?_⟩, by rw [hlen]; omega, ?_⟩
      · exact hlt (.cell b off) (List.mem_append_left _ (MemPlace.mem_row.2 ⟨0, by rw [hC]; omega, by simp⟩))
      · obtain ⟨hj1, hj2⟩ := List.getElem?_eq_some_iff.1 hj
        rw [hlen] at hj1
        simp only [List.getElem_map, List.getElem_range] at hj2
        subst hj2
        have := (World.cells?_some (hF j (by omega)).1).2.2 i hi
        rw [add_add, add_plain] at this
        exact this
      · intro f hf9
        obtain ⟨j, hj, rfl⟩ := List.mem_map.1 hf9
        exact (hF j (by have := List.mem_range.1 hj; omega)).2
end

end Go.Proofs.YtalgmnlclflllaaGreatDoor
end

/- The reference's lines: Split, Same; lines.Join. -/
set_option linter.unusedVariables false
set_option linter.unusedSimpArgs false
section
namespace Go.Proofs.YtalgmnlclflllaaGreatDoor
open Go.RowKit Go

theorem lines_at {s : List UInt8} {f k : Nat} (hf : f ≤ k) (hk : s[k]? = some 10) (hn : ∀ j, f ≤ j → j < k → s[j]? ≠ some 10) : linesOf (s.drop f) = ((s.drop f).take (k + 1 - f)) :: linesOf (s.drop (k + 1)) := by
  obtain ⟨hlt, hk'⟩ := List.getElem?_eq_some_iff.1 hk
  have e : s.drop f = (s.drop f).take (k - f) ++ 10 :: s.drop (k + 1) := by
    conv => lhs; rw [← List.take_append_drop (k - f) (s.drop f)]
    rw [List.drop_drop, show f + (k - f) = k by omega, List.drop_eq_getElem_cons hlt, hk']
  have ha : ∀ c ∈ (s.drop f).take (k - f), c ≠ 10 := by
    intro c hc h10
    subst h10
    obtain ⟨j, hj, hjc⟩ := List.mem_iff_getElem.1 hc
    simp only [List.length_take, List.length_drop] at hj
    refine hn (f + j) (by omega) (by omega) ?_
    simp only [List.getElem_take, List.getElem_drop] at hjc
    exact List.getElem?_eq_some_iff.2 ⟨by omega, hjc⟩
  have hl : ((s.drop f).take (k - f)).length = k - f := by simp; omega
  have ht : (s.drop f).take (k + 1 - f) = (s.drop f).take (k - f) ++ [10] := by
    conv => lhs; rw [e, show (s.drop f).take (k - f) ++ 10 :: s.drop (k + 1) = ((s.drop f).take (k - f) ++ [10]) ++ s.drop (k + 1) by simp]
    exact List.take_left' (by simp only [List.length_append, hl, List.length_singleton]; omega)
  rw [ht, ← linesOf_nl _ _ ha, ← e]
theorem lines_tail {s : List UInt8} {f : Nat} (hf : f < s.length) (hn : ∀ j, f ≤ j → j < s.length → s[j]? ≠ some 10) : linesOf (s.drop f) = [s.drop f] := by
  refine linesOf_end _ (fun c hc h10 => ?_) (by intro e; have := congrArg List.length e; simp at this; omega)
  subst h10
  obtain ⟨j, hj, hjc⟩ := List.mem_iff_getElem.1 hc
  simp only [List.length_drop] at hj
  refine hn (f + j) (by omega) (by omega) ?_
  simp only [List.getElem_drop] at hjc
  exact List.getElem?_eq_some_iff.2 ⟨by omega, hjc⟩

theorem OwnS.below {B : Nat} {u w w' : World} {v : Value} {l : List (List UInt8)} (hb : Below B u w) (h : OwnS w B v l) (hg : w.grownBy w' v.ownBlock) (hB : B ≤ w.heap.size) : Below B u w' :=
  hb.grown hg hB (fun k e => (World.ownsRow.lt h k e).1)

set_option maxRecDepth 100000 in
set_option maxHeartbeats 2000000 in
theorem refSplit_any (s : List UInt8) (w : World) (hs : s.length ≤ 1099511627776) : Calls Tryz.prog 33 #[.string (bs s)] w (Strs w.heap.size (linesOf s) w) := by
  obtain ⟨i0, hi, hz0, hz1, hz2⟩ := info_parts info_str
  go_enter Tryz.func33, Tryz.ntmps33
  go_wp2
  go_loopw [3, 4, 5] (fun out fr i wr => ∃ (k f : Nat) (ls : List (List UInt8)), k ≤ s.length ∧ f ≤ k ∧ i = .int .i64 k ∧ fr = .int .i64 f ∧ OwnS wr w.heap.size out ls ∧ Hid (ls ++ linesOf (s.drop f) = linesOf s) ∧ Hid (∀ j, f ≤ j → j < k → s[j]? ≠ some 10) ∧ ls.length ≤ k ∧ Below w.heap.size w wr) (fun _ _ i _ => s.length - (intOf i).toNat)
  case atStart => exact ⟨0, 0, [], Nat.zero_le _, Nat.le_refl _, rfl, rfl, World.ownsRow_lit w #[] 0 (Nat.le_refl _) (by decide) rfl, by show _ = _; simp, by intro j h1 h2; omega, Nat.zero_le _, (Below.refl _ _).alloc (Nat.le_refl _) _⟩
  case round =>
    obtain ⟨k, f, ls, hk, hfk, rfl, rfl, hown, hls, hno, hlk, hB⟩ := hrel
    have hzr := hB.size
    by_cases hlt : k < s.length
    · obtain ⟨c, hc⟩ : ∃ c, (bs s)[k]'(by rw [bs_size]; exact hlt) = c := ⟨_, rfl⟩
      have hc' : s[k]? = some c := List.getElem?_eq_some_iff.2 ⟨hlt, hc⟩
      have HC := Lib.hid hc'
      clear hc'
      by_cases h10 : c = 10
      · subst h10
        have hm := run_mid s f (k + 1) (by omega) (by omega)
        rw [show ((k + 1 : Nat) : Int) = (k : Int) + 1 by simp] at hm
        obtain ⟨x, hx⟩ : ∃ x, (s.drop f).take (k + 1 - f) = x := ⟨_, rfl⟩
        rw [hx] at hm
        have HX := Lib.hid hx
        clear hx
        go_wp2_with (at_builtin; refine wpList_append_own _ rfl _ _ 34 rfl w.heap.size 9 i0 (.string ⟨#[]⟩) 1 16 Tryz.underlying34 hi hz0 hz1 hz2 rfl (by decide) _ _ _ rfl (World.ownsRow.alloc hown _) ⟨wr.heap.size, 0, none⟩ 1 1 [.string (bs x)] rfl rfl ?c1 ?c2 ?c3 ?c4 ?c5 ?_)
        case c1 =>
          intro j u hj
          match j, hj with
          | 0, hj => simp at hj; subst hj; simp [Addr.add]
        case c2 => intro u hu; simp at hu; subst hu; rfl
        case c3 => unfold maxLen; omega
        case c4 => omega
        case c5 => simp; omega
        intro v' w2 hown' hgrow _
        have R1 : OwnS w2 w.heap.size v' (ls ++ [x]) := OwnS.step hown'
        have R2 : Below w.heap.size w w2 := (hB.alloc hzr _).grown hgrow (by simp; omega) (fun k e => (World.ownsRow.lt hown k e).1)
        have R3 : Hid ((ls ++ [x]) ++ linesOf (s.drop (k + 1)) = linesOf s) := by
          show _ = _
          have := hls.out
          rw [lines_at hfk HC.out hno.out, HX.out] at this
          rw [← this]; simp
        clear hown' hgrow hown hm hc
        go_wp2
        go_roundw
        case rel => exact ⟨k + 1, k + 1, ls ++ [x], by omega, by omega, by go_num, by go_num, R1, R3, by intro j h1 h2; omega, by simp; omega, R2⟩
        case measure => simp [intOf]; omega
      · have hne : ((c.toNat : Int) == 10) = false := by
          simp
          intro e
          exact h10 (UInt8.toNat_inj.1 (by rw [show (10 : UInt8).toNat = 10 from rfl]; omega))
        go_wp2
        go_roundw
        case rel =>
          refine ⟨k + 1, f, ls, by omega, by omega, by go_num, rfl, hown, hls, ?_, by omega, hB⟩
          intro j h1 h2
          rcases Nat.lt_or_ge j k with h3 | h3
          · exact hno.out j h1 h3
          · obtain rfl : j = k := by omega
            rw [HC.out]
            intro e
            exact h10 (Option.some.inj e)
        case measure => simp [intOf]; omega
    · obtain rfl : k = s.length := by omega
      by_cases hfl : f < s.length
      · have hm := run_from s f hfk
        obtain ⟨x, hx⟩ : ∃ x, s.drop f = x := ⟨_, rfl⟩
        rw [hx] at hm
        have HX := Lib.hid hx
        clear hx
        go_wp2_with (at_builtin; refine wpList_append_own _ rfl _ _ 34 rfl w.heap.size 9 i0 (.string ⟨#[]⟩) 1 16 Tryz.underlying34 hi hz0 hz1 hz2 rfl (by decide) _ _ _ rfl (World.ownsRow.alloc hown _) ⟨wr.heap.size, 0, none⟩ 1 1 [.string (bs x)] rfl rfl ?d1 ?d2 ?d3 ?d4 ?d5 ?_)
        case d1 =>
          intro j u hj
          match j, hj with
          | 0, hj => simp at hj; subst hj; simp [Addr.add]
        case d2 => intro u hu; simp at hu; subst hu; rfl
        case d3 => unfold maxLen; omega
        case d4 => omega
        case d5 => simp; omega
        intro v' w2 hown' hgrow _
        have R1 : OwnS w2 w.heap.size v' (ls ++ [x]) := OwnS.step hown'
        have R2 : Below w.heap.size w w2 := (hB.alloc hzr _).grown hgrow (by simp; omega) (fun k e => (World.ownsRow.lt hown k e).1)
        have R3 : ls ++ [x] = linesOf s := by
          have := hls.out
          rw [lines_tail hfl hno.out, HX.out] at this
          exact this
        rw [R3] at R1
        clear hown' hgrow hown hm
        go_wp2
        go_ret
        exact ⟨_, rfl, R1, R2⟩
      · have R3 : ls = linesOf s := by
          have := hls.out
          rw [List.drop_eq_nil_of_le (by omega), linesOf_nil, List.append_nil] at this
          exact this
        rw [R3] at hown
        go_wp2
        go_ret
        exact ⟨_, rfl, hown, hB⟩

end Go.Proofs.YtalgmnlclflllaaGreatDoor
end

/- header's reader: where it lies, what a line turns. -/
set_option linter.unusedVariables false
set_option linter.unusedSimpArgs false
section
namespace Go.Proofs.YtalgmnlclflllaaGreatDoor
open Go.RowKit

theorem info_fld : (Tryz.prog.info? 98).map (fun i => (i.zero, i.size, i.bytes)) = some (some (.agg #[.string ⟨#[]⟩, .string ⟨#[]⟩, .int .i64 0, .int .i64 0]), 4, 48) := by kernel_rfl

def cellsFld (f : Fld) : List Value := [.string (bs f.name), .string (bs f.value), .int .i64 f.pos, .int .i64 f.fin]
/-- fields as cells -/
def cellsF (fs : List Fld) : List Value := fs.flatMap cellsFld
theorem cellsF_length (fs : List Fld) : (cellsF fs).length = fs.length * 4 := by
  induction fs with
  | nil => rfl
  | cons f r ih => simp only [cellsF, List.flatMap_cons, List.length_append, List.length_cons] at ih ⊢; rw [ih]; simp [cellsFld]; omega
theorem cellsF_append (a b : List Fld) : cellsF (a ++ b) = cellsF a ++ cellsF b := by simp [cellsF]
theorem cellsF_at (fs : List Fld) (i j : Nat) (f : Fld) (hf : fs[i]? = some f) (hj : j < 4) : (cellsF fs)[i * 4 + j]? = (cellsFld f)[j]? := by
  induction fs generalizing i with
  | nil => simp at hf
  | cons x r ih =>
    have hc : cellsF (x :: r) = cellsFld x ++ cellsF r := rfl
    have hx : (cellsFld x).length = 4 := rfl
    rw [hc]
    cases i with
    | zero =>
      obtain rfl : x = f := by simpa using hf
      rw [Nat.zero_mul, Nat.zero_add, List.getElem?_append_left (by omega)]
    | succ i =>
      rw [List.getElem?_append_right (by omega), hx, show (i + 1) * 4 + j - 4 = i * 4 + j by omega]
      exact ih i (by simpa using hf)

/-- a slice of fields that the call itself made, in blocks from B on -/
def OwnF (w : World) (B : Nat) (v : Value) (fs : List Fld) : Prop := w.ownsRow B 98 4 v fs.length (cellsF fs)

theorem OwnF.parts {w : World} {B : Nat} {v : Value} {fs : List Fld} (h : OwnF w B v fs) : (v = .slice none 0 0 ∧ fs = []) ∨ ∃ g cap, v = .slice (some ⟨g, 0, none⟩) fs.length cap ∧ B ≤ g ∧ g < w.heap.size := by
  have hlt := World.ownsRow.lt h
  rcases h.2 with ⟨rfl, h0⟩ | ⟨g, cap, cur, rfl, hb, hg, hc, _, _, ht⟩
  · exact .inl ⟨rfl, List.eq_nil_of_length_eq_zero h0⟩
  · exact .inr ⟨g, cap, rfl, hb, (hlt g rfl).2⟩
theorem OwnF.later {w w' : World} {B : Nat} {v : Value} {fs : List Fld} (h : OwnF w B v fs) (hb : ∀ k, v.ownBlock = some k → w'.heap[k]? = w.heap[k]?) : OwnF w' B v fs := by
  refine ⟨h.1, ?_⟩
  rcases h.2 with h0 | ⟨g, cap, cur, rfl, h1, h2, r⟩
  · exact .inl h0
  · exact .inr ⟨g, cap, cur, rfl, h1, (hb g rfl).trans h2, r⟩
theorem OwnF.below {w w' : World} {B : Nat} {v : Value} {fs : List Fld} (h : OwnF w B v fs) (hb : Below w.heap.size w w') : OwnF w' B v fs :=
  h.later fun k hk => hb.block k (World.ownsRow.lt h k hk).2
theorem OwnF.cell {w : World} {B g n cap : Nat} {fs : List Fld} (h : OwnF w B (.slice (some ⟨g, 0, none⟩) n cap) fs) (i j : Nat) (f : Fld) (hf : fs[i]? = some f) (hj : j < 4) : w.cell? ⟨g, i * 4 + j, none⟩ = (cellsFld f)[j]? := by
  have hc := cellsF_at fs i j f hf hj
  have hlt : j < (cellsFld f).length := hj
  rw [List.getElem?_eq_getElem hlt] at hc ⊢
  have := World.ownsRow.cells h (g := g) rfl (i * 4 + j) _ hc
  rw [← this]
  by_cases h0 : i * 4 + j = 0
  · rw [h0]; rfl
  · have e : (⟨g, 0, none⟩ : Addr).add (i * 4 + j) = ⟨g, i * 4 + j, none⟩ := by
      unfold Addr.add
      rw [if_neg h0]
      simp
    rw [e]

theorem frozenF {w : World} {B g n cap : Nat} {fs : List Fld} (h : OwnF w B (.slice (some ⟨g, 0, none⟩) n cap) fs) (j : Nat) : w.frozen? ⟨g, j, none⟩ = false := by
  rcases h.2 with ⟨h', _⟩ | ⟨g', cap', cur, h', _, hg, _⟩
  · simp at h'
  · simp at h'
    obtain ⟨rfl, _⟩ := h'
    simp [World.frozen?, hg]
theorem setF (fs0 : List Fld) (f : Fld) (j : Nat) (x : Value) : (cellsF (fs0 ++ [f])).set (fs0.length * 4 + j) x = cellsF fs0 ++ (cellsFld f).set j x := by
  rw [cellsF_append, List.set_append_right _ _ (by rw [cellsF_length]; omega), cellsF_length, show fs0.length * 4 + j - fs0.length * 4 = j by omega]
  simp [cellsF]
theorem cellsF_setv (fs : List Fld) (i : Nat) (f : Fld) (hf : fs[i]? = some f) (v : List UInt8) : (cellsF fs).set (i * 4 + 1) (.string (bs v)) = cellsF (fs.set i { f with value := v }) := by
  induction fs generalizing i with
  | nil => simp at hf
  | cons x r ih =>
    have hc : cellsF (x :: r) = cellsFld x ++ cellsF r := rfl
    have hx : (cellsFld x).length = 4 := rfl
    rw [hc]
    cases i with
    | zero =>
      obtain rfl : x = f := by simpa using hf
      rfl
    | succ i =>
      rw [List.set_append_right _ _ (by omega), hx, show (i + 1) * 4 + 1 - 4 = i * 4 + 1 by omega, ih i (by simpa using hf)]
      rfl
/-- a field's value turned -/
theorem OwnF.setv {w : World} {B g n cap : Nat} {fs : List Fld} (h : OwnF w B (.slice (some ⟨g, 0, none⟩) n cap) fs) (i : Nat) (f : Fld) (hf : fs[i]? = some f) (v : List UInt8) :
    OwnF (w.setCell ⟨g, i * 4 + 1, none⟩ (.string (bs v))) B (.slice (some ⟨g, 0, none⟩) n cap) (fs.set i { f with value := v }) := by
  obtain rfl : n = fs.length := by
    rcases h.2 with ⟨h', _⟩ | ⟨g', cap', cur, h', _⟩
    · simp at h'
    · simp at h'; exact h'.2.1
  unfold OwnF at *
  rw [List.length_set, ← cellsF_setv fs i f hf v]
  exact (World.ownsRow.stored h (i * 4 + 1) (.string (bs v))).1

/-- the last field's value and end turned -/
theorem OwnF.turn {w : World} {B g cap : Nat} {fs0 : List Fld} {f : Fld} (h : OwnF w B (.slice (some ⟨g, 0, none⟩) (fs0.length + 1) cap) (fs0 ++ [f])) (v : List UInt8) (q : Nat) :
    OwnF ((w.setCell ⟨g, fs0.length * 4 + 1, none⟩ (.string (bs v))).setCell ⟨g, fs0.length * 4 + 3, none⟩ (.int .i64 q)) B (.slice (some ⟨g, 0, none⟩) (fs0.length + 1) cap) (fs0 ++ [{ f with value := v, fin := q }]) := by
  unfold OwnF at *
  have e1 : (fs0 ++ [f]).length = fs0.length + 1 := by simp
  have e2 : (fs0 ++ [{ f with value := v, fin := q }]).length = fs0.length + 1 := by simp
  rw [e1] at h
  rw [e2]
  have h1 := (World.ownsRow.stored h (fs0.length * 4 + 1) (.string (bs v))).1
  have h2 := (World.ownsRow.stored h1 (fs0.length * 4 + 3) (.int .i64 q)).1
  rw [setF, ← show cellsF (fs0 ++ [{ f with value := v }]) = cellsF fs0 ++ (cellsFld f).set 1 (.string (bs v)) by rw [cellsF_append]; simp [cellsF, cellsFld], setF,
    ← show cellsF (fs0 ++ [{ f with value := v, fin := q }]) = cellsF fs0 ++ (cellsFld { f with value := v }).set 3 (.int .i64 q) by rw [cellsF_append]; simp [cellsF, cellsFld]] at h2
  exact h2

/-- the reader at block b: its fields' slice, whether the last one may go on, where it is -/
def RdrAt (w : World) (b : Nat) (v : Value) (op : Bool) (p : Nat) : Prop := w.heap[b]? = some (.cells #[v, .bool op, .int .i64 p] 112 (0, 0))
theorem RdrAt.lt {w : World} {b : Nat} {v : Value} {op : Bool} {p : Nat} (h : RdrAt w b v op p) : b < w.heap.size := (Array.getElem?_eq_some_iff.1 h).1
theorem RdrAt.cells {w : World} {b : Nat} {v : Value} {op : Bool} {p : Nat} (h : RdrAt w b v op p) : w.cell? ⟨b, 0, none⟩ = some v ∧ w.cell? ⟨b, 1, none⟩ = some (.bool op) ∧ w.cell? ⟨b, 2, none⟩ = some (.int .i64 p) ∧ w.frozen? ⟨b, 0, none⟩ = false ∧ w.frozen? ⟨b, 1, none⟩ = false ∧ w.frozen? ⟨b, 2, none⟩ = false := by
  unfold RdrAt at h
  refine ⟨?_, ?_, ?_, ?_, ?_, ?_⟩ <;> simp [World.cell?, World.frozen?, h]
theorem RdrAt.set0 {w : World} {b : Nat} {v : Value} {op : Bool} {p : Nat} (h : RdrAt w b v op p) (v' : Value) : RdrAt (w.setCell ⟨b, 0, none⟩ v') b v' op p := by
  unfold RdrAt at *; simp [World.setCell, Array.getElem?_modify, h]
theorem RdrAt.set1 {w : World} {b : Nat} {v : Value} {op : Bool} {p : Nat} (h : RdrAt w b v op p) (o' : Bool) : RdrAt (w.setCell ⟨b, 1, none⟩ (.bool o')) b v o' p := by
  unfold RdrAt at *; simp [World.setCell, Array.getElem?_modify, h]
theorem RdrAt.set2 {w : World} {b : Nat} {v : Value} {op : Bool} {p : Nat} (h : RdrAt w b v op p) (p' : Nat) : RdrAt (w.setCell ⟨b, 2, none⟩ (.int .i64 p')) b v op p' := by
  unfold RdrAt at *; simp [World.setCell, Array.getElem?_modify, h]
theorem RdrAt.below {w w' : World} {b : Nat} {v : Value} {op : Bool} {p : Nat} (h : RdrAt w b v op p) (hb : Below w.heap.size w w') : RdrAt w' b v op p := (hb.block b h.lt).trans h
theorem RdrAt.not_row {w : World} {b B : Nat} {v u : Value} {op : Bool} {p : Nat} {fs : List Fld} (h : RdrAt w b v op p) (ho : OwnF w B u fs) : u.ownBlock ≠ some b := by
  intro e
  rcases ho.2 with ⟨rfl, _⟩ | ⟨g, cap, cur, rfl, _, hg, _⟩
  · cases e
  · obtain rfl : g = b := by simpa [Value.ownBlock] using e
    unfold RdrAt at h
    rw [hg] at h
    simp at h

/-- of what was there only the reader at b and the row of v may have turned -/
structure Frm (b : Nat) (v : Value) (w w' : World) : Prop where
  os : w'.os = w.os
  tape : w'.tape = w.tape
  output : w'.output = w.output
  size : w.heap.size ≤ w'.heap.size
  block : ∀ k, k < w.heap.size → k ≠ b → v.ownBlock ≠ some k → w'.heap[k]? = w.heap[k]?
theorem Frm.refl (b : Nat) (v : Value) (w : World) : Frm b v w w := ⟨rfl, rfl, rfl, Nat.le_refl _, fun _ _ _ _ => rfl⟩
theorem Frm.of_below {b : Nat} {v : Value} {w w' : World} (h : Below w.heap.size w w') : Frm b v w w' := ⟨h.os, h.tape, h.output, h.size, fun k hk _ _ => h.block k hk⟩
theorem Frm.trans {b : Nat} {v v' : Value} {u w w' : World} (h : Frm b v u w) (k : Frm b v' w w') (hv : ∀ k, v'.ownBlock = some k → v.ownBlock = some k ∨ u.heap.size ≤ k) : Frm b v u w' :=
  ⟨k.os.trans h.os, k.tape.trans h.tape, k.output.trans h.output, Nat.le_trans h.size k.size, fun i hi hb hr => (k.block i (Nat.lt_of_lt_of_le hi h.size) hb (fun e => by rcases hv i e with h1 | h1; exact hr h1; omega)).trans (h.block i hi hb hr)⟩
theorem Frm.set {b : Nat} {v : Value} {w w' : World} (h : Frm b v w w') (i : Nat) (x : Value) : Frm b v w (w'.setCell ⟨b, i, none⟩ x) :=
  ⟨h.os, h.tape, h.output, by simpa [World.setCell] using h.size, fun k hk hb hr => (Below.heap_setCell _ _ _ _ (by simpa using hb)).trans (h.block k hk hb hr)⟩
theorem Frm.setRow {b g : Nat} {v : Value} {w w' : World} (h : Frm b v w w') (hg : v.ownBlock = some g) (i : Nat) (x : Value) : Frm b v w (w'.setCell ⟨g, i, none⟩ x) :=
  ⟨h.os, h.tape, h.output, by simpa [World.setCell] using h.size, fun k hk hb hr => (Below.heap_setCell _ _ _ _ (by simp; rintro rfl; exact hr hg)).trans (h.block k hk hb hr)⟩
theorem Frm.drew {b : Nat} {v : Value} {w w' : World} (h : Frm b v w w') : Frm b v w w'.drew := ⟨h.os, h.tape, h.output, h.size, h.block⟩
theorem Frm.drewN {b : Nat} {v : Value} {w w' : World} (h : Frm b v w w') (n : Nat) : Frm b v w (w'.drewN n) := ⟨h.os, h.tape, h.output, h.size, h.block⟩
theorem Frm.below {b B : Nat} {v : Value} {w w' : World} (h : Frm b v w w') (hb : B ≤ b) (hv : ∀ k, v.ownBlock = some k → B ≤ k) (hB : B ≤ w.heap.size) : Below B w w' :=
  ⟨h.os, h.tape, h.output, h.size, fun k hk => h.block k (by omega) (by omega) (fun e => by have := hv k e; omega)⟩

/-- what a line leaves -/
def LineP (b B : Nat) (v : Value) (w : World) (fs : List Fld) (op go : Bool) (q : Nat) (e : Ending) (w' : World) : Prop :=
  ∃ v', e = .returned (.bool go) ∧ RdrAt w' b v' op q ∧ OwnF w' B v' fs ∧ Frm b v w w' ∧ (∀ k, v'.ownBlock = some k → v.ownBlock = some k ∨ w.heap.size ≤ k)

theorem nameL_goes {t : List UInt8} (h : goesB t = true) : nameL t = none := by
  cases t with
  | nil => cases h
  | cons c r =>
    have hc : c = 32 ∨ c = 9 := by simpa [goesB, blankB] using h
    unfold nameL
    cases hq : cutC (c :: r) with
    | none => rfl
    | some p =>
      obtain ⟨n, s⟩ := p
      have := cutC_some hq
      simp only
      rw [if_neg]
      rintro ⟨h1, h2⟩
      cases n with
      | nil => exact h1 rfl
      | cons x n =>
        obtain ⟨rfl, _⟩ := List.cons.inj this
        simp at h2
        have h3 := h2.1
        rcases hc with rfl | rfl <;> exact absurd h3 (by decide)

end Go.Proofs.YtalgmnlclflllaaGreatDoor
end

/- header's reader: a line that ends the header, one that goes on, one that is no field. -/
set_option linter.unusedVariables false
set_option linter.unusedSimpArgs false
section
namespace Go.Proofs.YtalgmnlclflllaaGreatDoor
open Go.RowKit

set_option maxRecDepth 100000 in
set_option maxHeartbeats 1000000 in
theorem line_end (w : World) (b B : Nat) (v : Value) (fs : List Fld) (op : Bool) (p : Nat) (l : List UInt8) (hk : RdrAt w b v op p) (ho : OwnF w B v fs) (hl : l.length ≤ 1099511627776) (hp : p + l.length ≤ 1099511627776) (ht : textL l = []) :
    Calls Tryz.prog 95 #[.pointer (some ⟨b, 0, none⟩), .string (bs l)] w (LineP b B v w fs op false (p + l.length)) := by
  obtain ⟨c0, c1, c2, f0, f1, f2⟩ := hk.cells
  have HT := Lib.hid ht
  have hkV := hk.set2 (p + l.length)
  have hcast : (p : Int) + (l.length : Int) = ((p + l.length : Nat) : Int) := by omega
  rw [← hcast] at hkV
  have hoV : OwnF (w.setCell ⟨b, 2, none⟩ (.int .i64 ((p : Int) + l.length))) B v fs := ho.later fun k hkk => Below.heap_setCell _ _ _ _ (by simp; rintro rfl; exact hk.not_row ho hkk)
  have hfV : Frm b v w (w.setCell ⟨b, 2, none⟩ (.int .i64 ((p : Int) + l.length))) := (Frm.refl b v w).set 2 _
  have HK := Lib.hid hkV
  clear ht hkV hcast
  go_enter Tryz.func95, Tryz.ntmps95
  go_wp2_with fail
  refine (text_any l _ hl).mono ?_
  rintro e w' ⟨rfl, rfl⟩
  rw [HT.out]
  go_wp2_with fail
  refine (name_any [] _ (by decide)).mono ?_
  rintro e w1 hn
  obtain ⟨⟨x, y, rfl⟩, hb1⟩ : (∃ x y, e = Ending.returned (.tuple #[.string (bs x), .string (bs y), .bool false])) ∧ Below (w.setCell ⟨b, 2, none⟩ (.int .i64 ((p : Int) + l.length))).heap.size (w.setCell ⟨b, 2, none⟩ (.int .i64 ((p : Int) + l.length))) w1 := hn
  go_wp2
  go_ret
  exact ⟨v, rfl, HK.out.below hb1, hoV.below hb1, hfV.trans (Frm.of_below (v := v) hb1) (fun k h => .inl h), fun k h => .inl h⟩
/- marked -/
set_option maxRecDepth 100000 in
set_option maxHeartbeats 2000000 in
theorem line_shut (w : World) (b B : Nat) (v : Value) (fs : List Fld) (op : Bool) (p : Nat) (l : List UInt8) (c : UInt8) (r : List UInt8) (hk : RdrAt w b v op p) (ho : OwnF w B v fs) (hl : l.length ≤ 1099511627776) (hp : p + l.length ≤ 1099511627776) (ht : textL l = c :: r) (hg : goesB (c :: r) = true) (hop : op = false) :
    Calls Tryz.prog 95 #[.pointer (some ⟨b, 0, none⟩), .string (bs l)] w (LineP b B v w fs false true (p + l.length)) := by
  subst hop
  have HN := Lib.hid (nameL_goes hg)
  have HG := Lib.hid hg
  clear hg
  obtain ⟨c0, c1, c2, f0, f1, f2⟩ := hk.cells
  have HT := Lib.hid ht
  have hkV := hk.set2 (p + l.length)
  have hcast : (p : Int) + (l.length : Int) = ((p + l.length : Nat) : Int) := by omega
  rw [← hcast] at hkV
  have hoV : OwnF (w.setCell ⟨b, 2, none⟩ (.int .i64 ((p : Int) + l.length))) B v fs := ho.later fun k hkk => Below.heap_setCell _ _ _ _ (by simp; rintro rfl; exact hk.not_row ho hkk)
  have hfV : Frm b v w (w.setCell ⟨b, 2, none⟩ (.int .i64 ((p : Int) + l.length))) := (Frm.refl b v w).set 2 _
  have hszV : (w.setCell ⟨b, 2, none⟩ (.int .i64 ((p : Int) + l.length))).heap.size = w.heap.size := by simp [World.setCell]
  obtain ⟨V, hV⟩ : ∃ V, w.setCell ⟨b, 2, none⟩ (.int .i64 ((p : Int) + l.length)) = V := ⟨_, rfl⟩
  rw [hV] at hkV hoV hfV hszV
  have HV := Lib.hid hV
  have HK := Lib.hid hkV
  have htl := textL_len l
  rw [ht] at htl
  have HTL : Hid ((c :: r).length ≤ 1099511627776) := by show _ ≤ _; omega
  clear ht hkV hcast hV htl
  go_enter Tryz.func95, Tryz.ntmps95
  go_wp2_with fail
  refine (text_any l _ hl).mono ?_
  rintro e w' ⟨rfl, rfl⟩
  rw [HT.out]
  go_wp2_with fail
  rw [HV.out]
  refine (name_any (c :: r) _ HTL.out).mono ?_
  rintro e w1 hn
  unfold nameV at hn
  rw [HN.out] at hn
  obtain ⟨⟨x, y, rfl⟩, hb1⟩ := hn
  have hk1 := HK.out.below hb1
  have ho1 := hoV.below hb1
  have hf1 := hfV.trans (Frm.of_below (v := v) hb1) (fun k h => .inl h)
  obtain ⟨d0, d1, d2, g0, g1, g2⟩ := hk1.cells
  have HK1 := Lib.hid hk1
  clear c0 c1 c2 f0 f1 f2 hk1
  go_wp2_with fail
  refine (goesOn_any (c :: r) _).mono ?_
  rintro e w' ⟨rfl, rfl⟩
  rw [HG.out]
  go_wp2
  go_ret
  exact ⟨v, rfl, HK1.out, ho1, hf1, fun k h => .inl h⟩

set_option maxRecDepth 100000 in
set_option maxHeartbeats 2000000 in
theorem line_no (w : World) (b B : Nat) (v : Value) (fs : List Fld) (op : Bool) (p : Nat) (l : List UInt8) (c : UInt8) (r : List UInt8) (hk : RdrAt w b v op p) (ho : OwnF w B v fs) (hl : l.length ≤ 1099511627776) (hp : p + l.length ≤ 1099511627776) (ht : textL l = c :: r) (hg : goesB (c :: r) = false) (hnm : nameL (c :: r) = none) :
    Calls Tryz.prog 95 #[.pointer (some ⟨b, 0, none⟩), .string (bs l)] w (LineP b B v w fs false true (p + l.length)) := by
  have HN := Lib.hid hnm
  have HG := Lib.hid hg
  clear hg hnm
  obtain ⟨c0, c1, c2, f0, f1, f2⟩ := hk.cells
  have HT := Lib.hid ht
  have hkV := hk.set2 (p + l.length)
  have hcast : (p : Int) + (l.length : Int) = ((p + l.length : Nat) : Int) := by omega
  rw [← hcast] at hkV
  have hoV : OwnF (w.setCell ⟨b, 2, none⟩ (.int .i64 ((p : Int) + l.length))) B v fs := ho.later fun k hkk => Below.heap_setCell _ _ _ _ (by simp; rintro rfl; exact hk.not_row ho hkk)
  have hfV : Frm b v w (w.setCell ⟨b, 2, none⟩ (.int .i64 ((p : Int) + l.length))) := (Frm.refl b v w).set 2 _
  have hszV : (w.setCell ⟨b, 2, none⟩ (.int .i64 ((p : Int) + l.length))).heap.size = w.heap.size := by simp [World.setCell]
  obtain ⟨V, hV⟩ : ∃ V, w.setCell ⟨b, 2, none⟩ (.int .i64 ((p : Int) + l.length)) = V := ⟨_, rfl⟩
  rw [hV] at hkV hoV hfV hszV
  have HV := Lib.hid hV
  have HK := Lib.hid hkV
  have htl := textL_len l
  rw [ht] at htl
  have HTL : Hid ((c :: r).length ≤ 1099511627776) := by show _ ≤ _; omega
  clear ht hkV hcast hV htl
  go_enter Tryz.func95, Tryz.ntmps95
  go_wp2_with fail
  refine (text_any l _ hl).mono ?_
  rintro e w' ⟨rfl, rfl⟩
  rw [HT.out]
  go_wp2_with fail
  rw [HV.out]
  refine (name_any (c :: r) _ HTL.out).mono ?_
  rintro e w1 hn
  unfold nameV at hn
  rw [HN.out] at hn
  obtain ⟨⟨x, y, rfl⟩, hb1⟩ := hn
  have hk1 := HK.out.below hb1
  have ho1 := hoV.below hb1
  have hf1 := hfV.trans (Frm.of_below (v := v) hb1) (fun k h => .inl h)
  obtain ⟨d0, d1, d2, g0, g1, g2⟩ := hk1.cells
  have HK1 := Lib.hid hk1
  clear c0 c1 c2 f0 f1 f2 hk1
  go_wp2_with fail
  refine (goesOn_any (c :: r) _).mono ?_
  rintro e w' ⟨rfl, rfl⟩
  rw [HG.out]
  go_wp2
  go_ret
  exact ⟨v, rfl, HK1.out.set1 false, ho1.later fun k hkk => Below.heap_setCell _ _ _ _ (by simp; rintro rfl; exact HK1.out.not_row ho1 hkk), hf1.set 1 _, fun k h => .inl h⟩

end Go.Proofs.YtalgmnlclflllaaGreatDoor
end

/- header's reader: a line behind an open field. -/
set_option linter.unusedVariables false
set_option linter.unusedSimpArgs false
section
namespace Go.Proofs.YtalgmnlclflllaaGreatDoor
open Go.RowKit


set_option maxRecDepth 100000 in
set_option maxHeartbeats 2000000 in
theorem line_more (w : World) (b B : Nat) (v : Value) (fs : List Fld) (op : Bool) (p : Nat) (l : List UInt8) (c : UInt8) (r : List UInt8) (hk : RdrAt w b v op p) (ho : OwnF w B v fs) (hl : l.length ≤ 1099511627776) (hp : p + l.length ≤ 1099511627776) (ht : textL l = c :: r) (f : Fld) (fs0 : List Fld) (hfs : fs = fs0 ++ [f]) (hfv : f.value.length ≤ 1099511627776) (hfl : fs0.length ≤ 1099511627776) (hg : goesB (c :: r) = true) (hop : op = true) :
    Calls Tryz.prog 95 #[.pointer (some ⟨b, 0, none⟩), .string (bs l)] w (LineP b B v w (fs0 ++ [{ f with value := f.value ++ (c :: r), fin := p + l.length }]) true true (p + l.length)) := by
  subst hop
  have HN := Lib.hid (nameL_goes hg)
  have HG := Lib.hid hg
  clear hg
  obtain ⟨c0, c1, c2, f0, f1, f2⟩ := hk.cells
  have HT := Lib.hid ht
  have hkV := hk.set2 (p + l.length)
  have hcast : (p : Int) + (l.length : Int) = ((p + l.length : Nat) : Int) := by omega
  rw [← hcast] at hkV
  have hoV : OwnF (w.setCell ⟨b, 2, none⟩ (.int .i64 ((p : Int) + l.length))) B v fs := ho.later fun k hkk => Below.heap_setCell _ _ _ _ (by simp; rintro rfl; exact hk.not_row ho hkk)
  have hfV : Frm b v w (w.setCell ⟨b, 2, none⟩ (.int .i64 ((p : Int) + l.length))) := (Frm.refl b v w).set 2 _
  have hszV : (w.setCell ⟨b, 2, none⟩ (.int .i64 ((p : Int) + l.length))).heap.size = w.heap.size := by simp [World.setCell]
  obtain ⟨V, hV⟩ : ∃ V, w.setCell ⟨b, 2, none⟩ (.int .i64 ((p : Int) + l.length)) = V := ⟨_, rfl⟩
  rw [hV] at hkV hoV hfV hszV
  have HV := Lib.hid hV
  have HK := Lib.hid hkV
  have htl := textL_len l
  rw [ht] at htl
  have HTL : Hid ((c :: r).length ≤ 1099511627776) := by show _ ≤ _; omega
  clear ht hkV hcast hV htl
  go_enter Tryz.func95, Tryz.ntmps95
  go_wp2_with fail
  refine (text_any l _ hl).mono ?_
  rintro e w' ⟨rfl, rfl⟩
  rw [HT.out]
  go_wp2_with fail
  rw [HV.out]
  refine (name_any (c :: r) _ HTL.out).mono ?_
  rintro e w1 hn
  unfold nameV at hn
  rw [HN.out] at hn
  obtain ⟨⟨x, y, rfl⟩, hb1⟩ := hn
  have hk1 := HK.out.below hb1
  have ho1 := hoV.below hb1
  have hf1 := hfV.trans (Frm.of_below (v := v) hb1) (fun k h => .inl h)
  obtain ⟨d0, d1, d2, g0, g1, g2⟩ := hk1.cells
  have HK1 := Lib.hid hk1
  clear c0 c1 c2 f0 f1 f2 hk1
  go_wp2_with fail
  refine (goesOn_any (c :: r) _).mono ?_
  rintro e w' ⟨rfl, rfl⟩
  rw [HG.out]
  subst hfs
  obtain ⟨g, cap, rfl, hBg, hgl⟩ := (ho1.parts).resolve_left (fun h => by have := h.2; simp at this)
  rw [List.length_append, List.length_singleton] at ho1 d0 hf1 HK1 ⊢
  have hfi : (fs0 ++ [f])[fs0.length]? = some f := by simp
  have e1 : _ = some (Value.string (bs f.value)) := ho1.cell fs0.length 1 f hfi (by decide)
  have e3 : _ = some (Value.int .i64 f.fin) := ho1.cell fs0.length 3 f hfi (by decide)
  have z1 : w1.frozen? ⟨g, fs0.length * 4 + 1, none⟩ = false := frozenF ho1 _
  have z3 : w1.frozen? ⟨g, fs0.length * 4 + 3, none⟩ = false := frozenF ho1 _
  have HFI := Lib.hid hfi
  clear hfi HN HG
  go_wp2
  go_quiet (fail)
  go_wp2
  have hcl : ¬ 9223372036854775807 < f.value.length + (r.length + 1) := by have := HTL.out; simp at this; omega
  go_region
  all_goals go_wp2
  go_ret
  have hgb : g ≠ b := fun e => HK1.out.not_row ho1 (by rw [e]; rfl)
  have hcast : ((p : Int) + (l.length : Int)) = ((p + l.length : Nat) : Int) := by omega
  rw [hcast, bs_append]
  refine ⟨_, rfl, ?_, OwnF.turn (ho1.later fun _ _ => rfl) (f.value ++ c :: r) (p + l.length), ?_, fun k h => .inl h⟩
  · exact (Below.heap_setCell _ _ _ _ (by simpa using hgb.symm)).trans ((Below.heap_setCell _ _ _ _ (by simpa using hgb.symm)).trans HK1.out)
  · have e : (fs0 ++ [f]).length = fs0.length + 1 := by simp
    rw [e]
    exact ((hf1.drewN (nq + 1)).setRow rfl _ _).setRow rfl _ _

end Go.Proofs.YtalgmnlclflllaaGreatDoor
end

/- header's reader: a field's first line. -/
set_option linter.unusedVariables false
set_option linter.unusedSimpArgs false
section
namespace Go.Proofs.YtalgmnlclflllaaGreatDoor
open Go.RowKit


set_option maxRecDepth 100000 in
set_option maxHeartbeats 2000000 in
theorem line_new (w : World) (b B : Nat) (v : Value) (fs : List Fld) (op : Bool) (p : Nat) (l : List UInt8) (c : UInt8) (r : List UInt8) (hk : RdrAt w b v op p) (ho : OwnF w B v fs) (hl : l.length ≤ 1099511627776) (hp : p + l.length ≤ 1099511627776) (ht : textL l = c :: r) (n vv : List UInt8) (hg : goesB (c :: r) = false) (hnm : nameL (c :: r) = some (n, vv)) (hB : B ≤ w.heap.size) (hfl : fs.length ≤ 1099511627776) :
    Calls Tryz.prog 95 #[.pointer (some ⟨b, 0, none⟩), .string (bs l)] w (LineP b B v w (fs ++ [⟨n, vv, p, p + l.length⟩]) true true (p + l.length)) := by
  obtain ⟨i0, hi0, hz0, hz1, hz2⟩ := info_parts info_fld
  have HN := Lib.hid hnm
  have HG := Lib.hid hg
  clear hg hnm
  obtain ⟨c0, c1, c2, f0, f1, f2⟩ := hk.cells
  have HT := Lib.hid ht
  have hkV := hk.set2 (p + l.length)
  have hcast : (p : Int) + (l.length : Int) = ((p + l.length : Nat) : Int) := by omega
  rw [← hcast] at hkV
  have hoV : OwnF (w.setCell ⟨b, 2, none⟩ (.int .i64 ((p : Int) + l.length))) B v fs := ho.later fun k hkk => Below.heap_setCell _ _ _ _ (by simp; rintro rfl; exact hk.not_row ho hkk)
  have hfV : Frm b v w (w.setCell ⟨b, 2, none⟩ (.int .i64 ((p : Int) + l.length))) := (Frm.refl b v w).set 2 _
  have hszV : (w.setCell ⟨b, 2, none⟩ (.int .i64 ((p : Int) + l.length))).heap.size = w.heap.size := by simp [World.setCell]
  obtain ⟨V, hV⟩ : ∃ V, w.setCell ⟨b, 2, none⟩ (.int .i64 ((p : Int) + l.length)) = V := ⟨_, rfl⟩
  rw [hV] at hkV hoV hfV hszV
  have HV := Lib.hid hV
  have HK := Lib.hid hkV
  have htl := textL_len l
  rw [ht] at htl
  have HTL : Hid ((c :: r).length ≤ 1099511627776) := by show _ ≤ _; omega
  clear ht hkV hcast hV htl
  go_enter Tryz.func95, Tryz.ntmps95
  go_wp2_with fail
  refine (text_any l _ hl).mono ?_
  rintro e w' ⟨rfl, rfl⟩
  rw [HT.out]
  go_wp2_with fail
  rw [HV.out]
  refine (name_any (c :: r) _ HTL.out).mono ?_
  rintro e w1 hn
  unfold nameV at hn
  rw [HN.out] at hn
  obtain ⟨rfl, hb1⟩ := hn
  have hk1 := HK.out.below hb1
  have ho1 := hoV.below hb1
  have hf1 := hfV.trans (Frm.of_below (v := v) hb1) (fun k h => .inl h)
  have hnr := hk1.not_row ho1
  obtain ⟨d0, d1, d2, g0, g1, g2⟩ := hk1.cells
  have HK1 := Lib.hid hk1
  have hB1 : B ≤ w1.heap.size := by have := hb1.size; omega
  clear c0 c1 c2 f0 f1 f2 hk1
  go_wp2_with fail
  refine (goesOn_any (c :: r) _).mono ?_
  rintro e w' ⟨rfl, rfl⟩
  rw [HG.out]
  go_wp2
  have A0 := fun o => cell_alloc d0 o
  have A2 := fun o => cell_alloc d2 o
  go_region_law ((refine step_append_lies _ (by rfl) _ _ _ (by rfl) B 98 i0 _ 4 48 Tryz.underlying54 hi0 hz0 hz1 hz2 rfl (by omega) v fs.length (cellsF fs) (by rfl) ((World.ownsRow.alloc ho1 _).drew) ⟨w1.heap.size, 0, none⟩ 1 1 [.string (bs n), .string (bs vv), .int .i64 p, .int .i64 (p + l.length : Nat)] (by rfl) (by rfl) (World.news_of_block (cs := #[.string (bs n), .string (bs vv), .int .i64 p, .int .i64 (p + l.length : Nat)]) (t := 98) (fr := (0, 0)) (heap_new w1 _)) (by simp [Value.oneCell']) (by omega) (by unfold maxLen; omega) (by omega) (by simp; omega) (w1.heap.size + 1) (by simp) ?_; intro gg cap w2 hown2 hgrow hat hlt; have hk2 : RdrAt w2 b v op (p + l.length) := (hgrow.block b (by have := HK1.out.lt; simp; omega) (fun e => hnr e.symm)).trans ((heap_old w1 _ _ HK1.out.lt).trans HK1.out); obtain ⟨a0, a1, a2, y0, y1, y2⟩ := hk2.cells))
  all_goals
    go_wp2
    go_ret
    have hbl := HK1.out.lt
    have hgb : gg ≠ b := by
      rintro rfl
      rcases hat with h1 | h1
      · exact hnr h1
      · omega
    have hown : OwnF w2 B (.slice (some ⟨gg, 0, none⟩) (fs.length + 1) cap) (fs ++ [⟨n, vv, p, p + l.length⟩]) := by
      unfold OwnF
      rw [List.length_append, cellsF_append]
      exact hown2
    have hf2 : Frm b v w1 w2 := ⟨hgrow.os, hgrow.tape, hgrow.output, by have := hgrow.size; simp at this; omega, fun k hk1 hk2 hk3 => (hgrow.block k (by simp; omega) (fun e => hk3 e.symm)).trans (heap_old w1 _ _ hk1)⟩
    refine ⟨_, rfl, (hk2.set0 _).set1 true, hown.later fun k hkk => (Below.heap_setCell _ _ _ _ (by have : gg = k := (by simpa [Value.ownBlock] using hkk); simp; omega)).trans (Below.heap_setCell _ _ _ _ (by have : gg = k := (by simpa [Value.ownBlock] using hkk); simp; omega)), ((hf1.trans hf2 (fun k h => .inl h)).set 0 _).set 1 _, fun k hkk => ?_⟩
    have hkg : gg = k := by simpa [Value.ownBlock] using hkk
    have hs := hf1.size
    rcases hat with h1 | h1
    · left; rw [h1, hkg]
    · right; omega

end Go.Proofs.YtalgmnlclflllaaGreatDoor
end

/- header's reader over a message's lines. -/
set_option linter.unusedVariables false
set_option linter.unusedSimpArgs false
section
namespace Go.Proofs.YtalgmnlclflllaaGreatDoor
open Go.RowKit

/-- what is kept between two lines -/
structure Kept (fs : List Fld) (op : Bool) (p : Nat) : Prop where
  open' : op = true → fs ≠ []
  vals : ∀ f ∈ fs, f.value.length ≤ p

theorem line_any (w : World) (b B : Nat) (v : Value) (fs : List Fld) (op : Bool) (p : Nat) (l : List UInt8) (hk : RdrAt w b v op p) (ho : OwnF w B v fs) (hl : l.length ≤ 1099511627776) (hp : p + l.length ≤ 1099511627776) (hB : B ≤ w.heap.size) (hfl : fs.length ≤ 1099511627776) (hkp : Kept fs op p) :
    Calls Tryz.prog 95 #[.pointer (some ⟨b, 0, none⟩), .string (bs l)] w (LineP b B v w (turnL fs op p (p + l.length) (textL l)).1 (turnL fs op p (p + l.length) (textL l)).2.1 (turnL fs op p (p + l.length) (textL l)).2.2 (p + l.length)) := by
  cases ht : textL l with
  | nil => exact line_end w b B v fs op p l hk ho hl hp ht
  | cons c r =>
    by_cases hg : goesB (c :: r) = true
    · cases hop : op with
      | false =>
        have e : turnL fs false p (p + l.length) (c :: r) = (fs, false, true) := by unfold turnL; rw [if_neg (by simp), if_pos hg]
        rw [e]
        subst hop
        exact line_shut w b B v fs false p l c r hk ho hl hp ht hg rfl
      | true =>
        obtain ⟨fs0, f, rfl⟩ : ∃ fs0 f, fs = fs0 ++ [f] := ⟨fs.dropLast, fs.getLast (hkp.open' hop), (List.dropLast_concat_getLast (hkp.open' hop)).symm⟩
        have e : turnL (fs0 ++ [f]) true p (p + l.length) (c :: r) = (fs0 ++ [{ f with value := f.value ++ (c :: r), fin := p + l.length }], true, true) := by unfold turnL; rw [if_neg (by simp), if_pos hg]; simp
        rw [e]
        subst hop
        exact line_more w b B v _ true p l c r hk ho hl hp ht f fs0 rfl (by have := hkp.vals f (by simp); omega) (by simp at hfl; omega) hg rfl
    · have hg' : goesB (c :: r) = false := by simpa using hg
      cases hn : nameL (c :: r) with
      | none =>
        have e : turnL fs op p (p + l.length) (c :: r) = (fs, false, true) := by unfold turnL; rw [if_neg (by simp), if_neg hg, hn]
        rw [e]
        exact line_no w b B v fs op p l c r hk ho hl hp ht hg' hn
      | some q =>
        obtain ⟨n, vv⟩ := q
        have e : turnL fs op p (p + l.length) (c :: r) = (fs ++ [⟨n, vv, p, p + l.length⟩], true, true) := by unfold turnL; rw [if_neg (by simp), if_neg hg, hn]
        rw [e]
        exact line_new w b B v fs op p l c r hk ho hl hp ht n vv hg' hn hB hfl

theorem nameL_len {t n v : List UInt8} (h : nameL t = some (n, v)) : n.length + v.length ≤ t.length := by
  unfold nameL at h
  cases hc : cutC t with
  | none => rw [hc] at h; cases h
  | some q =>
    obtain ⟨a, r⟩ := q
    rw [hc] at h
    simp only at h
    split at h
    · obtain ⟨rfl, rfl⟩ := Prod.mk.inj (Option.some.inj h)
      rw [cutC_some hc]; simp
    · cases h

theorem Kept.turn {fs : List Fld} {op : Bool} {p : Nat} (h : Kept fs op p) (l : List UInt8) : Kept (turnL fs op p (p + l.length) (textL l)).1 (turnL fs op p (p + l.length) (textL l)).2.1 (p + l.length) ∧ (turnL fs op p (p + l.length) (textL l)).1.length ≤ fs.length + 1 := by
  have htl := textL_len l
  have hv : ∀ f ∈ fs, f.value.length ≤ p + l.length := fun f hf => Nat.le_trans (h.vals f hf) (by omega)
  unfold turnL
  by_cases h0 : textL l = []
  · rw [if_pos h0]; exact ⟨⟨h.open', hv⟩, by simp⟩
  · rw [if_neg h0]
    by_cases hg : goesB (textL l) = true
    · rw [if_pos hg]
      cases op with
      | false => exact ⟨⟨fun e => (by cases e), hv⟩, by simp⟩
      | true =>
        have hne := h.open' rfl
        obtain ⟨fs0, f, rfl⟩ : ∃ fs0 f, fs = fs0 ++ [f] := ⟨fs.dropLast, fs.getLast hne, (List.dropLast_concat_getLast hne).symm⟩
        have e : (fs0 ++ [f]).getLast? = some f := by simp
        rw [e]
        refine ⟨⟨fun _ => by simp, fun g hgm => ?_⟩, by simp⟩
        rcases List.mem_append.1 hgm with h1 | h1
        · exact hv g (by simp at h1 ⊢; exact Or.inl h1)
        · rw [List.mem_singleton.1 h1]
          have := h.vals f (by simp)
          simp; omega
    · rw [if_neg hg]
      cases hn : nameL (textL l) with
      | none => exact ⟨⟨fun e => (by cases e), hv⟩, by simp⟩
      | some q =>
        obtain ⟨n, vv⟩ := q
        refine ⟨⟨fun _ => by simp, fun g hgm => ?_⟩, by simp⟩
        rcases List.mem_append.1 hgm with h1 | h1
        · exact hv g h1
        · rw [List.mem_singleton.1 h1]
          have := nameL_len hn
          simp; omega

/-- the lines' slice across a line's turning -/
theorem OwnS.frm {w w' : World} {b B B2 : Nat} {v v2 : Value} {fs : List Fld} {ls : List (List UInt8)} (h : OwnS w B2 v2 ls) (hb : b < B2) (hr : OwnF w B v fs) (hf : Frm b v w w') : OwnS w' B2 v2 ls := by
  refine ⟨h.1, ?_⟩
  rcases h.2 with h0 | ⟨g, cap, cur, rfl, h1, h2, r⟩
  · exact .inl h0
  · refine .inr ⟨g, cap, cur, rfl, h1, (hf.block g (Array.getElem?_eq_some_iff.1 h2).1 (by omega) ?_).trans h2, r⟩
    intro e
    rcases hr.2 with ⟨rfl, _⟩ | ⟨g', cap', cur', rfl, _, hg', _⟩
    · cases e
    · obtain rfl : g' = g := by simpa [Value.ownBlock] using e
      rw [h2] at hg'
      simp at hg'

theorem trim_any (l : List UInt8) (w : World) (hl : l.length ≤ 9223372036854775807) : Calls Tryz.prog 96 #[.string (bs l), .string (bs [32, 9])] w fun e w' => e = .returned (.string (bs (trimB l))) ∧ Below w.heap.size w w' :=
  Any.strings_Trim_laid Tryz.lays160 (by kernel_rfl) (bs l) (bs [32, 9]) w (by rw [bs_size]; exact hl) (by decide) (ascii_of_all (by decide))

/-- what read leaves: a reader in a new block -/
def ReadP (q : Nat) (fs : List Fld) (w : World) (e : Ending) (w' : World) : Prop := ∃ v op, e = .returned (.pointer (some ⟨w.heap.size, 0, none⟩)) ∧ RdrAt w' w.heap.size v op q ∧ OwnF w' w.heap.size v fs ∧ Below w.heap.size w w'

theorem trims_step (fs : List Fld) (k : Nat) (hk : k < fs.length) (f : Fld) (hf : fs[k]? = some f) : ((fs.take k).map trimF ++ fs.drop k).set k { f with value := trimB f.value } = (fs.take (k + 1)).map trimF ++ fs.drop (k + 1) := by
  have hk' : (List.map trimF (List.take k fs)).length = k := by simp; omega
  rw [List.set_append_right _ _ (by omega), hk', Nat.sub_self]
  obtain ⟨_, he⟩ := List.getElem?_eq_some_iff.1 hf
  rw [List.drop_eq_getElem_cons hk, List.set_cons_zero, List.take_add_one, hf]
  simp [trimF]

set_option maxRecDepth 100000 in
set_option maxHeartbeats 4000000 in
theorem read_any (m : List UInt8) (w : World) (hm : m.length ≤ 1000000000) : Calls Tryz.prog 78 #[.string (bs m)] w (ReadP (bodyL m) (fieldsL m) w) := by
  have hll := linesOf_length m
  have hm2 : m.length ≤ 1099511627776 := by omega
  obtain ⟨ls, hls⟩ : ∃ ls, linesOf m = ls := ⟨_, rfl⟩
  obtain ⟨G, hG⟩ : ∃ G, goL [] false 0 ls = G := ⟨_, rfl⟩
  have hbody : bodyL m = G.2 := by unfold bodyL; rw [hls, hG]
  have hfields : fieldsL m = G.1.map trimF := by unfold fieldsL; rw [hls, hG]
  have hflat : ls.flatten = m := by rw [← hls]; exact linesOf_flatten m
  rw [hbody, hfields]
  rw [hls] at hll
  have HLS := Lib.hid hls
  have HG := Lib.hid hG
  have HFL := Lib.hid hflat
  have HM := Lib.hid hm2
  clear hls hG hbody hfields hflat hm2
  go_enter Tryz.func78, Tryz.ntmps78
  go_wp2_with fail
  refine (split_any m _ HM.out).mono ?_
  rintro e w2 ⟨v2, rfl, o2, hb2⟩
  rw [HLS.out] at o2
  have k2 : RdrAt w2 w.heap.size (.slice none 0 0) false 0 := (hb2.block _ (by simp)).trans (heap_new _ _)
  have hB2 : Below w.heap.size w w2 := ((Below.refl _ w).alloc (Nat.le_refl _) _).trans (hb2.mono (by simp))
  rw [size_alloc] at o2
  have hz2 : w.heap.size + 1 ≤ w2.heap.size := by have := hb2.size; simpa using this
  clear hb2
  obtain ⟨a2, n2, cap2, rfl, hn2⟩ := OwnS.form o2
  have hn2' : n2 ≤ 1000000000 := by rw [hn2.out]; omega
  go_upto_block 0 with fail
  go_cut [5] from 12 to 20 (fun _ wc => ∃ v op, RdrAt wc w.heap.size v op G.2 ∧ OwnF wc w.heap.size v G.1 ∧ Below w.heap.size w wc ∧ G.1.length ≤ 1000000000 ∧ ∀ f ∈ G.1, f.value.length ≤ 1000000000)
  case first =>
    go_wp2_with fail
    go_loopw [5, 12] (fun _ c wr => ∃ (k p : Nat) (fs : List Fld) (op : Bool) (v : Value), k ≤ ls.length ∧ c = .int .i64 k ∧ RdrAt wr w.heap.size v op p ∧ OwnF wr w.heap.size v fs ∧ OwnS wr (w.heap.size + 1) (.slice a2 n2 cap2) ls ∧ Below w.heap.size w wr ∧ Kept fs op p ∧ fs.length ≤ k ∧ Hid (goL fs op p (ls.drop k) = G) ∧ Hid (p + (ls.drop k).flatten.length = m.length)) (fun _ c _ => ls.length - (intOf c).toNat)
    case atStart => exact ⟨0, 0, [], false, .slice none 0 0, Nat.zero_le _, rfl, k2, World.ownsRow_nil _ _ _ _, o2, hB2, ⟨fun e => (by cases e), fun f hf => (by cases hf)⟩, Nat.zero_le _, HG.out, by show _ = _; rw [List.drop_zero, HFL.out]; omega⟩
    case round =>
      obtain ⟨k, p, fs, op, v, hk, rfl, hkr, hof, hos, hB, hkp, hfk, hgo, hpl⟩ := hrel
      have hzr := hB.size
      by_cases hlt : k < ls.length
      · obtain ⟨g, cap, hv2, hg⟩ := (OwnS.parts hos).resolve_left (fun h => by have := h.2; rw [this] at hlt; simp at hlt)
        obtain ⟨l, hl⟩ : ∃ l, ls.getD k [] = l := ⟨_, rfl⟩
        have hcell := (OwnS.set (by rw [← hv2]; exact hos) hlt []).1
        rw [hl] at hcell
        have hdrop : ls.drop k = l :: ls.drop (k + 1) := by
          rw [List.drop_eq_getElem_cons hlt, ← hl, List.getD_eq_getElem?_getD, List.getElem?_eq_getElem hlt]; rfl
        have hpl' := hpl.out
        have hgo' := hgo.out
        rw [hdrop] at hpl' hgo'
        rw [List.flatten_cons, List.length_append] at hpl'
        have hkt := hkp.turn l
        have hgo2 : Hid ((if (turnL fs op p (p + l.length) (textL l)).2.2 = true then goL (turnL fs op p (p + l.length) (textL l)).1 (turnL fs op p (p + l.length) (textL l)).2.1 (p + l.length) (ls.drop (k + 1)) else ((turnL fs op p (p + l.length) (textL l)).1, p + l.length)) = G) := by
          show _ = _
          rw [← hgo', goL]
        have hlen : Hid (p + l.length + (ls.drop (k + 1)).flatten.length = m.length) := by show _ = _; omega
        have hll2 : p + l.length ≤ m.length := by omega
        have hcall := line_any wr w.heap.size w.heap.size v fs op p l hkr hof (by omega) (by omega) hzr (by omega) hkp
        obtain ⟨q, hq⟩ : ∃ q, turnL fs op p (p + l.length) (textL l) = q := ⟨_, rfl⟩
        rw [hq] at hkt hgo2 hcall
        obtain ⟨fs', op', go⟩ := q
        have HC := Lib.hid hcall
        have HL := Lib.hid hl
        clear hq hcall hdrop hpl hpl' hgo hgo' hl
        obtain ⟨rfl, rfl, rfl⟩ : a2 = some ⟨g, 0, none⟩ ∧ n2 = ls.length ∧ cap2 = cap := by simpa using hv2
        have hlt' : (k : Int) < ls.length := by omega
        go_wp2_with fail
        refine HC.out.mono ?_
        rintro e w3 ⟨v', rfl, hk3, ho3, hf3, hv3⟩
        have hB3 : Below w.heap.size w w3 := hB.trans (hf3.below (Nat.le_refl _) (fun j hj => (World.ownsRow.lt hof j hj).1) hzr)
        have hos3 := OwnS.frm hos (by omega) hof hf3
        cases go
        · have hG2 := hgo2.out
          rw [if_neg (by simp)] at hG2
          subst hG2
          go_wp2
          go_meet
          case rel => exact ⟨v', op', hk3, ho3, hB3, by have h9 : fs'.length ≤ fs.length + 1 := hkt.2; show fs'.length ≤ _; omega, fun f hf => by have := hkt.1.vals f hf; omega⟩
        · have hG2 := hgo2.out
          rw [if_pos rfl] at hG2
          go_wp2
          go_roundw
          case rel => exact ⟨k + 1, p + l.length, fs', op', v', by omega, by go_num, hk3, ho3, hos3, hB3, hkt.1, by have h9 : fs'.length ≤ fs.length + 1 := hkt.2; omega, hG2, hlen⟩
          case measure => simp [intOf]; omega
      · obtain rfl : k = ls.length := by omega
        have hG2 := hgo.out
        rw [List.drop_length, goL] at hG2
        subst hG2
        have hp2 := hpl.out
        rw [List.drop_length] at hp2
        simp at hp2
        have hge : ¬ (ls.length : Int) < n2 := by rw [hn2.out]; omega
        go_wp2
        go_meet
        case rel => exact ⟨v, op, hkr, hof, hB, by omega, fun f hf => by have := hkp.vals f hf; omega⟩
  case rest =>
    obtain ⟨v, op, hk, ho, hB, hlen, hval⟩ := hcut
    obtain ⟨fs, q⟩ := G
    replace hlen : fs.length ≤ 1000000000 := hlen
    replace hval : ∀ f ∈ fs, f.value.length ≤ 1000000000 := hval
    replace hk : RdrAt wc w.heap.size v op q := hk
    replace ho : OwnF wc w.heap.size v fs := ho
    have hz := hB.size
    obtain ⟨c0, c1, c2, f0, f1, f2⟩ := hk.cells
    rcases ho.parts with ⟨rfl, rfl⟩ | ⟨g, cap, rfl, hBg, hgl⟩
    · go_wp2
      go_loopw [6, 26] (fun _ c wr => c = .int .i64 0 ∧ wr = wc) (fun _ _ _ => 0)
      case atStart => exact ⟨rfl, rfl⟩
      case round =>
        obtain ⟨rfl, rfl⟩ := hrel
        go_wp2
        go_ret
        exact ⟨_, op, rfl, hk, ho, hB⟩
    · have hgb : g ≠ w.heap.size := fun e => hk.not_row ho (by rw [e]; rfl)
      have HV := Lib.hid hval
      clear hval
      go_wp2
      go_loopw [6, 26] (fun _ c wr => ∃ k : Nat, k ≤ fs.length ∧ c = .int .i64 k ∧ RdrAt wr w.heap.size (.slice (some ⟨g, 0, none⟩) fs.length cap) op q ∧ OwnF wr w.heap.size (.slice (some ⟨g, 0, none⟩) fs.length cap) ((fs.take k).map trimF ++ fs.drop k) ∧ Below w.heap.size w wr) (fun _ c _ => fs.length - (intOf c).toNat)
      case atStart => exact ⟨0, Nat.zero_le _, rfl, hk, by simpa using ho, hB⟩
      case round =>
        obtain ⟨k, hkl, rfl, hkr, hof, hBr⟩ := hrel
        have hzr := hBr.size
        by_cases hlt : k < fs.length
        · obtain ⟨f, hf⟩ : ∃ f, fs[k]? = some f := ⟨_, List.getElem?_eq_getElem hlt⟩
          have hfv := HV.out f (List.mem_of_getElem? hf)
          have hfi : ((fs.take k).map trimF ++ fs.drop k)[k]? = some f := by
            rw [List.getElem?_append_right (by simp; omega), List.length_map, List.length_take, Nat.min_eq_left hkl, Nat.sub_self, List.getElem?_drop, Nat.add_zero, hf]
          have e1 : _ = some (Value.string (bs f.value)) := hof.cell k 1 f hfi (by decide)
          obtain ⟨c0, c1, c2, f0, f1, f2⟩ := hkr.cells
          have hlt' : (k : Int) < fs.length := by omega
          have HF := Lib.hid hfi
          have HF0 := Lib.hid hf
          clear hfi hf
          go_wp2
          have hfv2 : f.value.length ≤ 9223372036854775807 := by omega
          go_region_with ((go_at_call 96; refine (trim_any f.value _ hfv2).mono ?_; rintro e w3 ⟨rfl, hb3⟩; have hk3 := RdrAt.below (w := wr.drew) hkr hb3; have ho3 := OwnF.below (w := wr.drew) hof hb3; have hB3 : Below w.heap.size w w3 := (hBr.drew).trans (hb3.mono hzr); obtain ⟨p0, p1, p2, y0, y1, y2⟩ := hk3.cells; have e3 : w3.cell? ⟨g, k * 4 + 1, none⟩ = some (Value.string (bs f.value)) := ho3.cell k 1 f HF.out (by decide); have z3 : w3.frozen? ⟨g, k * 4 + 1, none⟩ = false := frozenF ho3 _; clear hb3))
          all_goals
            have hs3 := ho3.setv k f HF.out (trimB f.value)
            rw [trims_step fs k hlt f HF0.out] at hs3
            go_wp2
            go_roundw
            case rel => exact ⟨k + 1, by omega, by go_num, (Below.heap_setCell _ _ _ _ (by simpa using hgb.symm)).trans hk3, hs3, hB3.setCell (p := ⟨g, k * 4 + 1, none⟩) hBg _⟩
            case measure => simp [intOf]; omega
        · obtain rfl : k = fs.length := by omega
          rw [List.take_length, List.drop_length, List.append_nil] at hof
          go_wp2
          go_ret
          exact ⟨_, op, rfl, hkr, hof, hBr⟩

end Go.Proofs.YtalgmnlclflllaaGreatDoor
end

/- header.Fields, Body; the statements' example of layer 9. -/
set_option linter.unusedVariables false
set_option linter.unusedSimpArgs false
section
namespace Go.Proofs.YtalgmnlclflllaaGreatDoor
open Go.RowKit

/-- fields handed back -/
def FieldsP (B : Nat) (fs : List Fld) (w : World) (e : Ending) (w' : World) : Prop := ∃ v, e = .returned (.tuple #[v, .nilIface]) ∧ OwnF w' B v fs ∧ Below B w w'

theorem OwnF.form {w : World} {B : Nat} {v : Value} {fs : List Fld} (h : OwnF w B v fs) : ∃ a n cap, v = .slice a n cap ∧ Hid (n = fs.length) := by
  rcases h.2 with ⟨rfl, h0⟩ | ⟨g, cap, cur, rfl, _⟩
  · exact ⟨none, 0, 0, rfl, h0.symm⟩
  · exact ⟨_, _, _, rfl, rfl⟩

set_option maxRecDepth 100000 in
theorem fields_ok (m : List UInt8) (w : World) (hm : m.length ≤ 1000000000) (hf : (fieldsL m).length ≤ 200) : Calls Tryz.prog 56 #[.string (bs m)] w (FieldsP w.heap.size (fieldsL m) w) := by
  have HM := Lib.hid hm
  obtain ⟨fs, hfs⟩ : ∃ fs, fieldsL m = fs := ⟨_, rfl⟩
  rw [hfs] at hf ⊢
  have HF := Lib.hid hfs
  clear hm hfs
  go_enter Tryz.func56, Tryz.ntmps56
  go_wp2_with fail
  refine (read_any m _ HM.out).mono ?_
  rintro e w1 ⟨v, op, rfl, hk, ho, hB⟩
  rw [HF.out] at ho
  obtain ⟨a, n, cap, rfl, hn⟩ := OwnF.form ho
  have hn2 : n ≤ 200 := by rw [hn.out]; exact hf
  obtain ⟨c0, c1, c2, f0, f1, f2⟩ := hk.cells
  go_wp2
  go_ret2
  exact ⟨_, rfl, ho, hB⟩

set_option maxRecDepth 100000 in
theorem fields_full (m : List UInt8) (w : World) (x : Addr) (hc : w.cell? ⟨10, 0, none⟩ = some (errV x)) (hm : m.length ≤ 1000000000) (hf : 200 < (fieldsL m).length) : Calls Tryz.prog 56 #[.string (bs m)] w fun e w' => e = .returned (.tuple #[.slice none 0 0, errV x]) ∧ Below w.heap.size w w' := by
  have HM := Lib.hid hm
  obtain ⟨fs, hfs⟩ : ∃ fs, fieldsL m = fs := ⟨_, rfl⟩
  rw [hfs] at hf
  have HF := Lib.hid hfs
  clear hm hfs
  go_enter Tryz.func56, Tryz.ntmps56
  go_wp2_with fail
  refine (read_any m _ HM.out).mono ?_
  rintro e w1 ⟨v, op, rfl, hk, ho, hB⟩
  rw [HF.out] at ho
  obtain ⟨a, n, cap, rfl, hn⟩ := OwnF.form ho
  have hn2 : 200 < n := by rw [hn.out]; exact hf
  have hn3 : n ≤ 9223372036854775807 := by
    rcases ho.2 with ⟨h, _⟩ | ⟨g', cap', cur, h, _, _, h1, h2, _⟩
    · simp at h; omega
    · simp at h
      have : cap' ≤ 9223372036854775807 := h2
      rw [← hn.out] at h1
      omega
  have hcx := (hB.cell (cell_lt hc)).trans hc
  obtain ⟨c0, c1, c2, f0, f1, f2⟩ := hk.cells
  go_wp2
  go_quiet (fail)
  go_wp2
  go_ret2
  exact ⟨rfl, below_drewN hB _⟩

set_option maxRecDepth 100000 in
theorem body_any (m : List UInt8) (w : World) (hm : m.length ≤ 1000000000) : Calls Tryz.prog 59 #[.string (bs m)] w fun e w' => e = .returned (.int .i64 (bodyL m)) ∧ Below w.heap.size w w' := by
  have HM := Lib.hid hm
  clear hm
  go_enter Tryz.func59, Tryz.ntmps59
  go_wp2_with fail
  refine (read_any m _ HM.out).mono ?_
  rintro e w1 ⟨v, op, rfl, hk, ho, hB⟩
  obtain ⟨c0, c1, c2, f0, f1, f2⟩ := hk.cells
  go_wp2
  go_ret
  exact ⟨rfl, hB⟩

def exM : List UInt8 := [65, 58, 32, 120, 13, 10, 32, 121, 13, 10, 66, 58, 122, 13, 10, 13, 10, 98, 111, 100, 121]
theorem ex_fields : fieldsL exM = [⟨[65], [120, 32, 121], 0, 10⟩, ⟨[66], [122], 10, 15⟩] := by rfl
theorem ex_body : bodyL exM = 17 := by rfl

end Go.Proofs.YtalgmnlclflllaaGreatDoor
end
