/- Texts of one walk, merged: XHI XBd XOs XHL XHN XHJ XIw XIy. -/
import Derived.Test.YtalgmnlclflllaaGreatDoorWf
import Derived.Test.YtalgmnlclflllaaGreatDoorShelf
import Derived.Lib.Builder
import Derived.Lib.AppendStr
import Derived.Lib.UnsafeStr
import Derived.Lib.Strings
import Derived.Laws.Externs
import Derived.Deep.DeepFit
import Derived.SliceStrings
import Derived.ChangeOld
import Derived.WideShapes

/- header.All, header.Get, the reference's Get. -/
set_option linter.unusedVariables false
set_option linter.unusedSimpArgs false
section
set_option linter.unusedVariables false
set_option linter.unusedSimpArgs false
namespace Go.Proofs.YtalgmnlclflllaaGreatDoor
open Go.RowKit Go

/-- the values of a name -/
def getL (fs : List Fla) (nm : List UInt8) : List (List UInt8) := (fs.filter fun f => lowL f.name == lowL nm).map fun f => f.value
theorem getL_cons (f : Fla) (fs : List Fla) (nm : List UInt8) : getL (f :: fs) nm = if (lowL f.name == lowL nm) = true then f.value :: getL fs nm else getL fs nm := by
  unfold getL
  rw [List.filter_cons]
  split <;> rfl
theorem getL_length (fs : List Fla) (nm : List UInt8) : (getL fs nm).length ≤ fs.length := by
  unfold getL
  rw [List.length_map]
  exact List.length_filter_le _ _

theorem OwnS.over {w w' : World} {B2 : Nat} {v2 : Value} {ls : List (List UInt8)} (h : OwnS w B2 v2 ls) (hb : Below w.heap.size w w') : OwnS w' B2 v2 ls := by
  refine ⟨h.1, ?_⟩
  rcases h.2 with h0 | ⟨g, cap, cur, rfl, h1, h2, r⟩
  · exact .inl h0
  · exact .inr ⟨g, cap, cur, rfl, h1, (hb.block g (Array.getElem?_eq_some_iff.1 h2).1).trans h2, r⟩
/-- the row that came in, an element's cells -/
theorem ArgF.at {w : World} {b o n c : Nat} {fs : List Fla} (h : ArgF w (.slice (some ⟨b, o, none⟩) n c) fs) (h0 : fs ≠ []) : n = fs.length ∧ b < w.heap.size ∧ ∀ k f, fs[k]? = some f →
    w.cell? ⟨b, o + k * 4, none⟩ = some (.string (bs f.name)) ∧ w.cell? ⟨b, o + k * 4 + 1, none⟩ = some (.string (bs f.value)) ∧ w.cell? ⟨b, o + k * 4 + 2, none⟩ = some (.int .i64 f.pos) ∧ w.cell? ⟨b, o + k * 4 + 3, none⟩ = some (.int .i64 f.fin) := by
  rcases h with ⟨_, _, _, h⟩ | ⟨b', o', c', h, h1, h2, h3⟩
  · exact absurd h h0
  · obtain ⟨⟨rfl, rfl⟩, rfl, rfl⟩ : (b = b' ∧ o = o') ∧ n = fs.length ∧ c = c' := by simpa using h
    refine ⟨rfl, h2, fun k f hf => ?_⟩
    exact ⟨h3 k f hf 0 (by decide), h3 k f hf 1 (by decide), h3 k f hf 2 (by decide), h3 k f hf 3 (by decide)⟩
theorem ArgF.form {w : World} {v : Value} {fs : List Fla} (h : ArgF w v fs) : (∃ a c, v = .slice a 0 c ∧ fs = []) ∨ ∃ b o c, v = .slice (some ⟨b, o, none⟩) fs.length c ∧ fs ≠ [] := by
  rcases h with h | ⟨b, o, c, h, h1, _⟩
  · exact .inl h
  · exact .inr ⟨b, o, c, h, by rintro rfl; simp at h1⟩

set_option maxRecDepth 100000 in
set_option maxHeartbeats 2000000 in
theorem all_any (v : Value) (fs : List Fla) (nm : List UInt8) (w : World) (ha : ArgF w v fs) (hl : fs.length ≤ 1000000) (hn : nm.length ≤ 1000000) (hf : ∀ f ∈ fs, f.name.length ≤ 1000000) :
    Calls Tryz.prog 79 #[v, .string (bs nm)] w (Strs w.heap.size (getL fs nm) w) := by
  obtain ⟨i0, hi, hz0, hz1, hz2⟩ := info_parts info_str
  rcases ha.form with ⟨a, c, rfl, rfl⟩ | ⟨b, o, c, rfl, hne⟩
  · go_enter Tryz.func79, Tryz.ntmps79
    go_wp2
    go_loopw [5, 10] (fun v c wr => c = .int .i64 0 ∧ v = .slice none 0 0 ∧ Below w.heap.size w wr) (fun _ _ _ => 0)
    case atStart => exact ⟨rfl, rfl, Below.refl _ _⟩
    case round =>
      obtain ⟨rfl, rfl, hB⟩ := hrel
      go_wp2
      go_ret
      exact ⟨_, rfl, World.ownsRow_nil _ _ _ _, hB⟩
  · have hn' : nm.length ≤ 1099511627776 := by omega
    have HN := Lib.hid hn'
    have HA := Lib.hid ha
    have HF := Lib.hid hf
    clear ha hf hn'
    go_enter Tryz.func79, Tryz.ntmps79
    go_wp2
    go_loopw [5, 10] (fun out c wr => ∃ (k : Nat) (ls : List (List UInt8)), k ≤ fs.length ∧ c = .int .i64 k ∧ OwnS wr w.heap.size out ls ∧ Hid (ls ++ getL (fs.drop k) nm = getL fs nm) ∧ ls.length ≤ k ∧ Below w.heap.size w wr) (fun _ c _ => fs.length - (intOf c).toNat)
    case atStart => exact ⟨0, [], Nat.zero_le _, rfl, World.ownsRow_nil _ _ _ _, by show _ = _; rfl, Nat.le_refl _, Below.refl _ _⟩
    case round =>
      obtain ⟨k, ls, hk, rfl, hown, hls, hlk, hB⟩ := hrel
      have hzr := hB.size
      by_cases hlt : k < fs.length
      · obtain ⟨f, hfk⟩ : ∃ f, fs[k]? = some f := ⟨_, List.getElem?_eq_getElem hlt⟩
        obtain ⟨_, _, hcells⟩ := (HA.out.below hB).at hne
        obtain ⟨c0, c1, c2, c3⟩ := hcells k f hfk
        have hfn : f.name.length ≤ 1099511627776 := by have := HF.out f (List.mem_of_getElem? hfk); omega
        have hls' := hls.out
        rw [List.drop_eq_getElem_cons hlt, (List.getElem?_eq_some_iff.1 hfk).2, getL_cons] at hls'
        have HLS := Lib.hid hls'
        have HFN := Lib.hid hfn
        have hlt' : (k : Int) < fs.length := by omega
        clear hcells hls' hls hfk hfn
        go_wp2_with fail
        refine (hsame_any f.name nm _ HFN.out HN.out).mono ?_
        rintro e w1 ⟨rfl, hb1⟩
        have hz1' := hb1.size
        rw [size_alloc] at hz1'
        have d1 : w1.cell? ⟨wr.heap.size, 1, none⟩ = some (.string (bs f.value)) := by
          exact (hb1.cell (p := ⟨wr.heap.size, 1, none⟩) (by rw [size_alloc]; exact Nat.lt_succ_self _)).trans (row_cell (heap_new wr _) rfl)
        have hB1 : Below w.heap.size w w1 := (hB.alloc hzr _).trans (hb1.mono (by simp; omega))
        have hown1 : OwnS w1 w.heap.size _ ls := OwnS.over hown ((Below.refl _ wr).alloc (Nat.le_refl _) _ |>.trans (hb1.mono (by simp)))
        rcases hs : (lowL f.name == lowL nm) with _ | _
        · have hl2 := HLS.out
          rw [hs] at hl2
          simp only [Bool.false_eq_true, if_false] at hl2
          have HL2 := Lib.hid hl2
          clear hl2 HLS d1 hs hz1'
          go_wp2
          go_roundw
          case rel => exact ⟨k + 1, ls, by omega, by go_num, hown1, HL2.out, by omega, hB1⟩
          case measure => simp [intOf]; omega
        · have hl2 := HLS.out
          rw [hs] at hl2
          simp only [if_true] at hl2
          have HL2 := Lib.hid hl2
          clear hl2 HLS
          go_wp2_with (at_builtin; refine wpList_append_own _ rfl _ _ 34 rfl w.heap.size 9 i0 (.string ⟨#[]⟩) 1 16 Tryz.underlying34 hi hz0 hz1 hz2 rfl (by decide) _ _ _ rfl (World.ownsRow.alloc hown1 _) ⟨w1.heap.size, 0, none⟩ 1 1 [.string (bs f.value)] rfl rfl ?e1 ?e2 ?e3 ?e4 ?e5 ?_)
          case e1 =>
            intro j u hj
            match j, hj with
            | 0, hj => simp at hj; subst hj; simp [Addr.add]
          case e2 => intro u hu; simp at hu; subst hu; rfl
          case e3 => unfold maxLen; omega
          case e4 => have := hB1.size; omega
          case e5 => have := hB1.size; simp; omega
          intro v' w2 hown' hgrow _
          have R1 : OwnS w2 w.heap.size v' (ls ++ [f.value]) := OwnS.step hown'
          have R2 : Below w.heap.size w w2 := (hB1.alloc hB1.size _).grown hgrow (by have := hB1.size; simp; omega) (fun k e => (World.ownsRow.lt hown1 k e).1)
          have R3 : Hid ((ls ++ [f.value]) ++ getL (fs.drop (k + 1)) nm = getL fs nm) := by
            show _ = _
            rw [← HL2.out]; simp
          clear hown' hgrow hown1 HL2
          go_wp2
          go_roundw
          case rel => exact ⟨k + 1, ls ++ [f.value], by omega, by go_num, R1, R3, by simp; omega, R2⟩
          case measure => simp [intOf]; omega
      · obtain rfl : k = fs.length := by omega
        have hl2 := hls.out
        rw [List.drop_length] at hl2
        have hl3 : ls = getL fs nm := by rw [← hl2]; simp [getL]
        clear hl2 hls
        subst hl3
        go_wp2
        go_ret
        exact ⟨_, rfl, hown, hB⟩

end Go.Proofs.YtalgmnlclflllaaGreatDoor
end

/- strings.Builder: WriteString where copyCheck's panic is refused by the loader: walked at this program. -/
set_option linter.unusedVariables false
set_option linter.unusedSimpArgs false
section
namespace Go.Proofs.YtalgmnlclflllaaGreatDoor
open Go.RowKit Go

theorem info_bld : (Tryz.prog.info? 116).map (fun i => i.size) = some 2 := by kernel_rfl
theorem info_byt : (Tryz.prog.info? 5).map (fun i => (i.zero, i.size, i.bytes)) = some (some (.int .u8 0), 1, 1) := by kernel_rfl

set_option maxRecDepth 100000 in
set_option maxHeartbeats 1000000 in
theorem check_used (b : Nat) (w : World) (h0 : w.cell? ⟨b, 0, none⟩ = some (.pointer (some ⟨b, 0, none⟩))) :
    Calls Tryz.prog 105 #[.pointer (some ⟨b, 0, none⟩)] w fun e w' => e = .returned (.tuple #[]) ∧ w' = w := by
  obtain ⟨j, hj, hjs⟩ : ∃ j, Tryz.prog.info? 116 = some j ∧ j.size ≠ 0 := by
    obtain ⟨j, hj, hs⟩ := Option.map_eq_some_iff.1 info_bld
    exact ⟨j, hj, by rw [hs]; decide⟩
  have hn := fun w0 => Lib.run_neq_ptr_same (P := Tryz.prog) w0 ⟨b, 0, none⟩ Tryz.underlying114 hj
  go_enter Tryz.func105, Tryz.ntmps105
  go_wp2
  try rw [Lib.run_neq_ptr_same w _ Tryz.underlying114 hj]
  try go_wp2
  go_end0
  exact ⟨rfl, rfl⟩

set_option maxRecDepth 100000 in
set_option maxHeartbeats 1000000 in
theorem check_fresh (b : Nat) (w : World) (h0 : w.cell? ⟨b, 0, none⟩ = some (.pointer none)) (hsh : w.shape? b = some (116, 2)) (hfz : w.frozen? ⟨b, 0, none⟩ = false) :
    Calls Tryz.prog 105 #[.pointer (some ⟨b, 0, none⟩)] w fun e w' => e = .returned (.tuple #[]) ∧ w' = w.setCell ⟨b, 0, none⟩ (.pointer (some ⟨b, 0, none⟩)) := by
  obtain ⟨j, hj, hjs⟩ : ∃ j, Tryz.prog.info? 116 = some j ∧ j.size ≠ 0 := by
    obtain ⟨j, hj, hs⟩ := Option.map_eq_some_iff.1 info_bld
    exact ⟨j, hj, by rw [hs]; decide⟩
  go_enter Tryz.func105, Tryz.ntmps105
  go_wp2
  rw [Lib.run_to_unsafe w ⟨b, 0, none⟩ Tryz.underlying114 Tryz.underlying159 hj hjs hsh (Nat.zero_lt_succ 1)]
  simp only [Result.andThen]
  rw [Oper.upon_value]
  go_wp2
  rw [run_callFunc_extern Tryz.func128 (by kernel_rfl) (by kernel_rfl) (by kernel_rfl) (e := Extern.AbiNoEscape.same) (by kernel_rfl)]
  rw [Lib.run_noEscape]
  simp only [Result.andThen]
  rw [Oper.upon_value]
  go_wp2
  rw [Lib.run_from_unsafe w ⟨b, 0, none⟩ Tryz.underlying159 Tryz.underlying114 hj hsh (by kernel_rfl)]
  simp only [Result.andThen]
  rw [Oper.upon_value]
  go_wp2
  go_end0
  exact ⟨rfl, rfl⟩

theorem check_any (B b : Nat) (l : List Value) (w : World) (h : Lib.IsBuilder 116 5 B b l w) :
    Calls Tryz.prog 105 #[.pointer (some ⟨b, 0, none⟩)] w fun e w' => e = .returned (.tuple #[]) ∧ (Lib.BuilderAt 116 5 B b (.pointer (some ⟨b, 0, none⟩)) l w' ∧ Below B w w' ∧ (∀ k, k ≠ b → w'.heap[k]? = w.heap[k]?)) := by
  rcases h with h | h
  · refine (check_fresh b w h.cell0 h.shape h.frozen0).mono ?_
    rintro e w' ⟨rfl, rfl⟩
    exact ⟨rfl, h.used _, (Below.refl B w).setCell (p := ⟨b, 0, none⟩) h.1 _, fun k hk => Below.heap_setCell _ _ _ _ (by simpa using hk)⟩
  · refine (check_used b w h.cell0).mono ?_
    rintro e w' ⟨rfl, rfl⟩
    exact ⟨rfl, h, Below.refl B _, fun _ _ => rfl⟩

/-- all blocks but b and rows of bytes are as they were -/
def KeptBut (b : Nat) (w w' : World) : Prop := ∀ k o, w.heap[k]? = some o → k ≠ b → (∀ cs fr, o ≠ .cells cs 5 fr) → w'.heap[k]? = some o
/-- the builder at b holds the bytes l -/
def BldAt (w : World) (B b : Nat) (l : List UInt8) : Prop := Lib.IsBuilder 116 5 B b (Lib.byteCells l) w

set_option maxRecDepth 100000 in
set_option maxHeartbeats 2000000 in
theorem write_any (B b : Nat) (l s : List UInt8) (w : World) (h : BldAt w B b l) (hlen : l.length + s.length ≤ 140737488355328) (hBw : B ≤ w.heap.size) :
    Calls Tryz.prog 84 #[.pointer (some ⟨b, 0, none⟩), .string (bs s)] w fun e w' => e = .returned (.tuple #[.int .i64 s.length, .nilIface]) ∧ BldAt w' B b (l ++ s) ∧ Below B w w' ∧ KeptBut b w w' := by
  obtain ⟨i0, hi, hz0, hz1, hz2⟩ := info_parts info_byt
  have hbl : (Lib.byteCells l).length = l.length := by simp [Lib.byteCells]
  go_enter Tryz.func84, Tryz.ntmps84
  go_wp2_with fail
  refine (check_any B b _ _ h).mono ?_
  rintro e w1 ⟨rfl, h1, hb1, hk1⟩
  obtain ⟨hB, v, hbk, hown, hne⟩ := h1
  have c0 : w1.cell? ⟨b, 0, none⟩ = some (.pointer (some ⟨b, 0, none⟩)) := by rw [Lib.cell_of_heap hbk]; rfl
  have c1 : w1.cell? ⟨b, 1, none⟩ = some v := by rw [Lib.cell_of_heap hbk]; rfl
  go_wp2_with (at_builtin; refine Lib.wpList_append_own_string _ rfl _ _ 68 9 rfl B 5 i0 Tryz.underlying68 Tryz.underlying9 hi hz0 hz1 hz2 _ _ _ rfl hown (bs s) rfl ?c3 ?c4 ?c5 ?_)
  case c3 => rw [hbl, bs_size]; unfold maxLen; omega
  case c4 => rw [hbl, bs_size]; omega
  case c5 => have := hb1.size; omega
  intro v' w2 hown' hgrow _
  have hlt : b < w1.heap.size := by
    rcases Nat.lt_or_ge b w1.heap.size with h' | h'
    · exact h'
    · simp [Array.getElem?_eq_none h'] at hbk
  have hb2 : w2.heap[b]? = some (.cells #[.pointer (some ⟨b, 0, none⟩), v] 116 (0, 0)) := by
    rw [hgrow.block b hlt (fun e => hne e.symm)]
    exact hbk
  have d0 : w2.cell? ⟨b, 0, none⟩ = some (.pointer (some ⟨b, 0, none⟩)) := by rw [Lib.cell_of_heap hb2]; rfl
  have d1 : w2.cell? ⟨b, 1, none⟩ = some v := by rw [Lib.cell_of_heap hb2]; rfl
  have f1 : w2.frozen? ⟨b, 1, none⟩ = false := Lib.frozen_of_heap hb2 1
  obtain ⟨ao, n', cap, rfl⟩ : ∃ ao n' cap, v' = .slice ao n' cap := by
    rcases hown'.2 with ⟨hv, _⟩ | ⟨g, cap, cur, hv, _⟩
    · exact ⟨_, _, _, hv⟩
    · exact ⟨_, _, _, hv⟩
  go_wp2
  go_ret2
  refine ⟨rfl, ?_, ?_, ?_⟩
  · have e : Lib.byteCells (l ++ s) = Lib.byteCells l ++ Lib.strCells (bs s) := by simp [Lib.byteCells, Lib.strCells]
    unfold BldAt
    rw [e]
    exact .inr (Lib.BuilderAt.put (T := 116) (e := 5) hB hb2 (bs' := Lib.byteCells l ++ Lib.strCells (bs s)) (by rw [List.length_append, Lib.strCells_length, hbl, bs_size]; exact hown') (by decide))
  · exact (hb1.grown hgrow (by have := hb1.size; omega) (fun k hk => (hown.lt k hk).1)).setCell (p := ⟨b, 1, none⟩) hB _
  · intro k o ho hkb hno
    have hlk : k < w1.heap.size := Nat.lt_of_lt_of_le (Array.getElem?_eq_some_iff.1 ho).1 hb1.size
    have h1 : w1.heap[k]? = some o := (hk1 k hkb).trans ho
    have hv : some k ≠ v.ownBlock := by
      intro e
      rcases hown.2 with ⟨rfl, _⟩ | ⟨g, cap, cur, rfl, _, hg, _⟩
      · cases e
      · obtain rfl : k = g := by simpa [Value.ownBlock] using e
        rw [h1] at hg
        exact hno _ _ (Option.some.inj hg)
    exact (Below.heap_setCell _ _ _ _ (by simpa using hkb)).trans ((hgrow.block k hlk hv).trans h1)

theorem string_any (B b : Nat) (l : List UInt8) (w : World) (h : BldAt w B b l) (hBw : B ≤ w.heap.size) :
    Calls Tryz.prog 85 #[.pointer (some ⟨b, 0, none⟩)] w fun e w' => e = .returned (.string (bs l)) ∧ Below B w w' := Tryz.Builder_String_any B b l w h hBw

theorem BldAt.new (w : World) (B : Nat) (hB : B ≤ w.heap.size) : BldAt (w.alloc (.cells #[.pointer none, .slice none 0 0] 116)) B w.heap.size [] :=
  .inl ⟨hB, _, by show (w.heap.push _)[w.heap.size]? = _; simp, World.ownsRow_nil _ _ _ _, by simp [Value.ownBlock]⟩

end Go.Proofs.YtalgmnlclflllaaGreatDoor
end

/- A slice of strings that came in. -/
set_option linter.unusedVariables false
set_option linter.unusedSimpArgs false
section
namespace Go.Proofs.YtalgmnlclflllaaGreatDoor
open Go.RowKit

theorem cellsOf_str : Tryz.prog.cellsOf 9 = 1 := by kernel_rfl

/-- an argument that reads as the strings ls -/
def ArgS (w : World) (v : Value) (ls : List (List UInt8)) : Prop :=
  (∃ a c, v = .slice a 0 c ∧ ls = []) ∨ ∃ (b o c : Nat), v = .slice (some ⟨b, o, none⟩) ls.length c ∧ 0 < ls.length ∧ b < w.heap.size ∧ ∀ j, j < ls.length → w.cell? ⟨b, o + j, none⟩ = some (.string (bs (ls.getD j [])))

theorem bs_data (s : ByteArray) : bs s.data.toList = s := by
  apply ByteArray.ext
  simp

theorem arg_strs {H : Type} {enc : TypeId × Value → H} {W : World} {t : TypeId} (ht : Tryz.prog.underlying t = some (.slice 9)) {a0 : Option Addr} {len cap : Nat} {d : DataW H} {p : List MemPlace}
    (h0 : DataW.Trod enc Tryz.prog W 0 (fun _ => true) true t (.slice a0 len cap) d p) : ∃ ls, ArgS W (.slice a0 len cap) ls ∧ ls.length ≤ maxLen ∧ ∀ l ∈ ls, l.length ≤ maxLen := by
  obtain ⟨fuel, hf⟩ := h0
  have hlt := DataW.trod_lt _ _ _ _ hf
  rcases Go.ChangeShapes.open_strings ht Tryz.underlying9 cellsOf_str hf with ⟨hcs, hx⟩ | ⟨a, len', cap', ss, hcs, _, hl, hm, hz, hx, hcell, hws⟩
  · simp [Value.cells] at hcs
    obtain ⟨rfl, rfl, rfl⟩ := hcs
    exact ⟨[], .inl ⟨_, _, rfl, rfl⟩, by simp, by simp⟩
  · simp [Value.cells] at hcs
    obtain ⟨rfl, rfl, rfl⟩ := hcs
    simp only [Prod.mk.injEq] at hx
    obtain ⟨rfl, rfl⟩ := hx
    simp only [if_true] at hz
    by_cases h1 : len = 0
    · subst h1
      exact ⟨[], .inl ⟨_, _, rfl, rfl⟩, by simp, by simp⟩
    · obtain ⟨b, off, spot⟩ := a
      have hspot : spot = none := by simpa [Addr.add] using World.cell?_spot (hcell 0 (by omega))
      subst hspot
      have hlen : ((ss.take len).map (fun s => s.data.toList)).length = len := by simp; omega
      refine ⟨(ss.take len).map (fun s => s.data.toList), .inr ⟨b, off, cap, by rw [hlen], by omega, ?_, fun j hj => ?_⟩, by rw [hlen]; omega, ?_⟩
      · exact hlt (.cell b off) (MemPlace.mem_row.2 ⟨0, by omega, by simp⟩)
      · rw [hlen] at hj
        have := hcell j (by omega)
        have e0 : (⟨b, off, none⟩ : Addr).add j = ⟨b, off + j, none⟩ := by unfold Addr.add; split <;> simp_all
        rw [e0] at this
        rw [this]
        have e : ((ss.take len).map (fun s => s.data.toList)).getD j [] = (ss.getD j ByteArray.empty).data.toList := by
          simp [List.getD, hj, show j < ss.length by omega]
        rw [e, bs_data]
      · intro l hl9
        obtain ⟨s, hs, rfl⟩ := List.mem_map.1 hl9
        have := hws s (List.mem_of_mem_take hs)
        simpa using this

end Go.Proofs.YtalgmnlclflllaaGreatDoor
end

/- header.Only's parts: where fields stand (plain), the closure, slices.ContainsFunc. -/
set_option linter.unusedVariables false
set_option linter.unusedSimpArgs false
section
namespace Go.Proofs.YtalgmnlclflllaaGreatDoor
open Go.RowKit Go

/-- is a name among these -/
def amongL (names : List (List UInt8)) (nm : List UInt8) : Bool := names.any fun n => lowL n == lowL nm
theorem amongL_cons (n : List UInt8) (names : List (List UInt8)) (nm : List UInt8) : amongL (n :: names) nm = ((lowL n == lowL nm) || amongL names nm) := rfl
/-- some fields as they stand -/
def pieceL (m : List UInt8) (names : List (List UInt8)) (no : Bool) (f : Fld) : List UInt8 := if (amongL names f.name != no) = true then (m.drop f.pos).take (f.fin - f.pos) else []
def onlyL (m : List UInt8) (names : List (List UInt8)) (no : Bool) (fs : List Fld) : List UInt8 := fs.flatMap (pieceL m names no)
theorem pieceL_len (m : List UInt8) (names : List (List UInt8)) (no : Bool) (f : Fld) : (pieceL m names no f).length ≤ m.length := by
  unfold pieceL
  split
  · rw [List.length_take, List.length_drop]; omega
  · simp

/-- the argument of names, an element -/
theorem ArgS.below {w w' : World} {v : Value} {ls : List (List UInt8)} (h : ArgS w v ls) (hb : Below w.heap.size w w') : ArgS w' v ls := by
  rcases h with h | ⟨b, o, c, h1, h2, h3, h4⟩
  · exact .inl h
  · exact .inr ⟨b, o, c, h1, h2, Nat.lt_of_lt_of_le h3 hb.size, fun j hj => (hb.cell (p := ⟨b, o + j, none⟩) h3).trans (h4 j hj)⟩
theorem ArgS.form {w : World} {v : Value} {ls : List (List UInt8)} (h : ArgS w v ls) : ∃ a c, v = .slice a ls.length c ∧ (ls ≠ [] → ∃ b o, a = some ⟨b, o, none⟩) := by
  rcases h with ⟨a, c, rfl, rfl⟩ | ⟨b, o, c, rfl, _⟩
  · exact ⟨a, c, rfl, fun h => absurd rfl h⟩
  · exact ⟨_, c, rfl, fun _ => ⟨b, o, rfl⟩⟩
theorem ArgS.at {w : World} {b o n c : Nat} {ls : List (List UInt8)} (h : ArgS w (.slice (some ⟨b, o, none⟩) n c) ls) {k : Nat} (hk : k < ls.length) : w.cell? ⟨b, o + k, none⟩ = some (.string (bs (ls.getD k []))) := by
  rcases h with ⟨_, _, _, rfl⟩ | ⟨b', o', c', h, _, _, h4⟩
  · simp at hk
  · obtain ⟨⟨rfl, rfl⟩, _, _⟩ : (b = b' ∧ o = o') ∧ n = ls.length ∧ c = c' := by simpa using h
    exact h4 k hk

end Go.Proofs.YtalgmnlclflllaaGreatDoor
end

/- header.Only, header.Count. -/
set_option linter.unusedVariables false
set_option linter.unusedSimpArgs false
section
namespace Go.Proofs.YtalgmnlclflllaaGreatDoor
open Go.RowKit Go

theorem refL_names : ∀ (n : Nat) (ls : List (List UInt8)) (p : Nat), ls.length ≤ n → ∀ f ∈ (refL p ls).1, f.name.length ≤ ls.flatten.length
  | n, [], p, _ => by simp [refL]
  | 0, l :: ls, p, h => by simp at h
  | n + 1, l :: ls, p, h => by
    rw [refL_cons]
    by_cases ht : textL l = []
    · rw [if_pos ht]; simp
    · rw [if_neg ht]
      have hc := contL_bd ls (p + l.length)
      have hcl := contL_len (p + l.length) ls
      have i1 := refL_names n (contL (p + l.length) ls).2.2 (contL (p + l.length) ls).2.1 (by simp at h; omega)
      have hall : ∀ f ∈ (refL (contL (p + l.length) ls).2.1 (contL (p + l.length) ls).2.2).1, f.name.length ≤ (l :: ls).flatten.length := by
        intro f hf
        have := i1 f hf
        simp only [List.flatten_cons, List.length_append]
        omega
      cases hn : nameL (textL l) with
      | none => exact hall
      | some q =>
        obtain ⟨nm, v⟩ := q
        simp only
        split
        · exact hall
        · intro f hf
          rcases List.mem_cons.1 hf with rfl | hf
          · have h1 := nameL_len hn
            have h2 := textL_len l
            simp only [List.flatten_cons, List.length_append]
            omega
          · exact hall f hf
theorem fields_names (m : List UInt8) : ∀ f ∈ fieldsL m, f.name.length ≤ m.length := by
  have h1 := refL_names _ (linesOf m) 0 (Nat.le_refl _)
  rw [(fields_ref m).1]
  rw [linesOf_flatten] at h1
  exact h1

theorem BldAt.below {w w' : World} {B b : Nat} {l : List UInt8} (h : BldAt w B b l) (hb : Below w.heap.size w w') : BldAt w' B b l := by
  have key : ∀ p, Lib.BuilderAt 116 5 B b p (Lib.byteCells l) w → Lib.BuilderAt 116 5 B b p (Lib.byteCells l) w' := by
    rintro p ⟨h1, v, h2, h3, h4⟩
    refine ⟨h1, v, (hb.block b (Array.getElem?_eq_some_iff.1 h2).1).trans h2, ⟨h3.1, ?_⟩, h4⟩
    rcases h3.2 with h0 | ⟨g, cap, cur, rfl, k1, k2, r⟩
    · exact .inl h0
    · exact .inr ⟨g, cap, cur, rfl, k1, (hb.block g (Array.getElem?_eq_some_iff.1 k2).1).trans k2, r⟩
  rcases h with h | h
  · exact .inl (key _ h)
  · exact .inr (key _ h)
theorem OwnF.kept {w w' : World} {B b : Nat} {v : Value} {fs : List Fld} (h : OwnF w B v fs) (hk : KeptBut b w w') (hb : b < B) : OwnF w' B v fs := by
  refine ⟨h.1, ?_⟩
  rcases h.2 with h0 | ⟨g, cap, cur, rfl, h1, h2, r⟩
  · exact .inl h0
  · exact .inr ⟨g, cap, cur, rfl, h1, hk g _ h2 (by omega) (by intro cs fr e; simp at e), r⟩
theorem onlyL_take (m : List UInt8) (names : List (List UInt8)) (no : Bool) {fs : List Fld} {k : Nat} {f : Fld} (hf : fs[k]? = some f) : onlyL m names no (fs.take (k + 1)) = onlyL m names no (fs.take k) ++ pieceL m names no f := by
  obtain ⟨hlt, rfl⟩ := List.getElem?_eq_some_iff.1 hf
  unfold onlyL
  rw [List.take_add_one, List.getElem?_eq_getElem hlt, List.flatMap_append]
  simp
theorem onlyL_len (m : List UInt8) (names : List (List UInt8)) (no : Bool) (fs : List Fld) : (onlyL m names no fs).length ≤ fs.length * m.length := by
  induction fs with
  | nil => simp [onlyL]
  | cons f fs ih =>
    have := pieceL_len m names no f
    simp only [onlyL, List.flatMap_cons, List.length_append, List.length_cons, Nat.succ_mul] at ih ⊢
    omega

set_option maxRecDepth 100000 in
theorem count_any (m : List UInt8) (w : World) (hm : m.length ≤ 1099511627776) : Calls Tryz.prog 60 #[.string (bs m)] w fun e w' => e = .returned (.int .i64 (linesOf m).length) ∧ Below w.heap.size w w' := by
  have hs := split_any m w hm
  have hll := linesOf_length m
  obtain ⟨L, hL⟩ : ∃ L, linesOf m = L := ⟨_, rfl⟩
  rw [hL] at hs hll ⊢
  have HS := Lib.hid hs
  clear hs hL
  go_enter Tryz.func60, Tryz.ntmps60
  go_wp2_with fail
  refine HS.out.mono ?_
  rintro e w1 ⟨v, rfl, ho, hb1⟩
  obtain ⟨a, n, cap, rfl, hn⟩ := OwnS.form ho
  obtain rfl : n = L.length := hn.out
  go_wp2
  go_ret
  exact ⟨rfl, hb1⟩

end Go.Proofs.YtalgmnlclflllaaGreatDoor
end

/- header.Get, the reference's Get; the law HeaderGets. -/
set_option linter.unusedVariables false
set_option linter.unusedSimpArgs false
section
namespace Go.Proofs.YtalgmnlclflllaaGreatDoor
open Go.RowKit Go

def firstV : List (List UInt8) → Value
  | [] => .tuple #[.string ⟨#[]⟩, .bool false]
  | x :: _ => .tuple #[.string (bs x), .bool true]

set_option maxRecDepth 100000 in
set_option maxHeartbeats 1000000 in
theorem get_any (v : Value) (fs : List Fla) (nm : List UInt8) (w : World) (ha : ArgF w v fs) (hl : fs.length ≤ 1000000) (hn : nm.length ≤ 1000000) (hf : ∀ f ∈ fs, f.name.length ≤ 1000000) :
    Calls Tryz.prog 58 #[v, .string (bs nm)] w fun e w' => e = .returned (firstV (getL fs nm)) ∧ Below w.heap.size w w' := by
  have hall := all_any v fs nm w ha hl hn hf
  obtain ⟨G, hG⟩ : ∃ G, getL fs nm = G := ⟨_, rfl⟩
  have hgl := getL_length fs nm
  rw [hG] at hall hgl ⊢
  have HALL := Lib.hid hall
  clear hall hG hf ha
  go_enter Tryz.func58, Tryz.ntmps58
  go_wp2_with fail
  refine HALL.out.mono ?_
  rintro e w1 ⟨v1, rfl, ho, hB⟩
  cases G with
  | nil =>
    obtain ⟨a, n, cap, rfl, hn0⟩ := OwnS.form ho
    obtain rfl : n = 0 := hn0.out
    go_wp2
    go_loopw [12] (fun c wr => c = .int .i64 0 ∧ Below w.heap.size w wr) (fun _ _ => 0)
    case atStart => exact ⟨rfl, hB⟩
    case round =>
      obtain ⟨rfl, hB⟩ := hrel
      go_wp2
      go_ret2
      exact ⟨rfl, hB⟩
  | cons x G =>
    obtain ⟨g, cap, rfl, _⟩ := (OwnS.parts ho).resolve_left (fun h => by cases h.2)
    have hc := (OwnS.set ho (k := 0) (by simp) []).1
    have hc0 : w1.cell? ⟨g, 0, none⟩ = some (.string (bs x)) := hc
    have hpos : (0 : Int) < ((x :: G).length : Nat) := by simp
    obtain ⟨n, hn⟩ : ∃ n, (x :: G).length = n := ⟨_, rfl⟩
    rw [hn] at hpos ⊢
    clear hc ho hn
    go_wp2
    go_loopw [12] (fun c wr => c = .int .i64 0 ∧ wr.cell? ⟨g, 0, none⟩ = some (.string (bs x)) ∧ Below w.heap.size w wr) (fun _ _ => 0)
    case atStart => exact ⟨rfl, hc0, hB⟩
    case round =>
      obtain ⟨rfl, hc, hB⟩ := hrel
      go_wp2
      go_ret2
      exact ⟨rfl, hB⟩

set_option maxRecDepth 100000 in
set_option maxHeartbeats 2000000 in
theorem refGet_any (v : Value) (fs : List Fla) (nm : List UInt8) (w : World) (ha : ArgF w v fs) (hl : fs.length ≤ 1000000) (hn : nm.length ≤ 1000000) (hf : ∀ f ∈ fs, f.name.length ≤ 1000000) :
    Calls Tryz.prog 66 #[v, .string (bs nm)] w (Strs w.heap.size (getL fs nm) w) := by
  obtain ⟨i0, hi, hz0, hz1, hz2⟩ := info_parts info_str
  have o0 : OwnS (w.alloc (.cells #[] 9)) w.heap.size (.slice (some ⟨w.heap.size, 0, none⟩) 0 0) [] := World.ownsRow_lit w #[] 0 (Nat.le_refl _) (by decide) rfl
  have b0 : Below w.heap.size w (w.alloc (.cells #[] 9)) := (Below.refl _ _).alloc (Nat.le_refl _) _
  rcases ha.form with ⟨a, c, rfl, rfl⟩ | ⟨b, o, c, rfl, hne⟩
  · go_enter Tryz.func66, Tryz.ntmps66
    go_wp2
    go_loopw [5, 11] (fun v c wr => c = .int .i64 0 ∧ OwnS wr w.heap.size v [] ∧ Below w.heap.size w wr) (fun _ _ _ => 0)
    case atStart => exact ⟨rfl, o0, b0⟩
    case round =>
      obtain ⟨rfl, ho, hB⟩ := hrel
      go_wp2
      go_ret
      exact ⟨_, rfl, ho, hB⟩
  · have hn' : nm.length ≤ 1099511627776 := by omega
    have HN := Lib.hid hn'
    have HA := Lib.hid ha
    have HF := Lib.hid hf
    clear ha hf hn'
    go_enter Tryz.func66, Tryz.ntmps66
    go_wp2
    go_loopw [5, 11] (fun out c wr => ∃ (k : Nat) (ls : List (List UInt8)), k ≤ fs.length ∧ c = .int .i64 k ∧ OwnS wr w.heap.size out ls ∧ Hid (ls ++ getL (fs.drop k) nm = getL fs nm) ∧ ls.length ≤ k ∧ Below w.heap.size w wr) (fun _ c _ => fs.length - (intOf c).toNat)
    case atStart => exact ⟨0, [], Nat.zero_le _, rfl, o0, by show _ = _; rfl, Nat.le_refl _, b0⟩
    case round =>
      obtain ⟨k, ls, hk, rfl, hown, hls, hlk, hB⟩ := hrel
      have hzr := hB.size
      by_cases hlt : k < fs.length
      · obtain ⟨f, hfk⟩ : ∃ f, fs[k]? = some f := ⟨_, List.getElem?_eq_getElem hlt⟩
        obtain ⟨_, _, hcells⟩ := (HA.out.below hB).at hne
        obtain ⟨c0, c1, c2, c3⟩ := hcells k f hfk
        have hfn : f.name.length ≤ 1099511627776 := by have := HF.out f (List.mem_of_getElem? hfk); omega
        have hls' := hls.out
        rw [List.drop_eq_getElem_cons hlt, (List.getElem?_eq_some_iff.1 hfk).2, getL_cons] at hls'
        have HLS := Lib.hid hls'
        have HFN := Lib.hid hfn
        have hlt' : (k : Int) < fs.length := by omega
        clear hcells hls' hls hfk hfn
        go_wp2_with fail
        refine (refSmall_any f.name _ HFN.out).mono ?_
        rintro e w1 ⟨rfl, hb1⟩
        go_wp2_with fail
        refine (refSmall_any nm _ HN.out).mono ?_
        rintro e w2 ⟨rfl, hb2⟩
        have hbb := hb1.trans (hb2.mono hb1.size)
        have d1 : w2.cell? ⟨wr.heap.size, 1, none⟩ = some (.string (bs f.value)) := by
          exact (hbb.cell (p := ⟨wr.heap.size, 1, none⟩) (by rw [size_alloc]; exact Nat.lt_succ_self _)).trans (row_cell (heap_new wr _) rfl)
        have hB1 : Below w.heap.size w w2 := (hB.alloc hzr _).trans (hbb.mono (by simp; omega))
        have hown1 : OwnS w2 w.heap.size _ ls := OwnS.over hown ((Below.refl _ wr).alloc (Nat.le_refl _) _ |>.trans (hbb.mono (by simp)))
        rcases hs : (lowL f.name == lowL nm) with _ | _
        · have hl2 := HLS.out
          rw [hs] at hl2
          simp only [Bool.false_eq_true, if_false] at hl2
          have HL2 := Lib.hid hl2

          clear hl2 HLS d1 hb1 hb2 hbb
          go_wp2
          go_roundw
          case rel => exact ⟨k + 1, ls, by omega, by go_num, hown1, HL2.out, by omega, hB1⟩
          case measure => simp [intOf]; omega
        · have hl2 := HLS.out
          rw [hs] at hl2
          simp only [if_true] at hl2
          have HL2 := Lib.hid hl2

          clear hl2 HLS hb1 hb2 hbb
          go_wp2_with (at_builtin; refine wpList_append_own _ rfl _ _ 34 rfl w.heap.size 9 i0 (.string ⟨#[]⟩) 1 16 Tryz.underlying34 hi hz0 hz1 hz2 rfl (by decide) _ _ _ rfl (World.ownsRow.alloc hown1 _) ⟨w2.heap.size, 0, none⟩ 1 1 [.string (bs f.value)] rfl rfl ?e1 ?e2 ?e3 ?e4 ?e5 ?_)
          case e1 =>
            intro j u hj
            match j, hj with
            | 0, hj => simp at hj; subst hj; simp [Addr.add]
          case e2 => intro u hu; simp at hu; subst hu; rfl
          case e3 => unfold maxLen; omega
          case e4 => have := hB1.size; omega
          case e5 => have := hB1.size; simp; omega
          intro v' w3 hown' hgrow _
          have R1 : OwnS w3 w.heap.size v' (ls ++ [f.value]) := OwnS.step hown'
          have R2 : Below w.heap.size w w3 := (hB1.alloc hB1.size _).grown hgrow (by have := hB1.size; simp; omega) (fun k e => (World.ownsRow.lt hown1 k e).1)
          have R3 : Hid ((ls ++ [f.value]) ++ getL (fs.drop (k + 1)) nm = getL fs nm) := by
            show _ = _
            rw [← HL2.out]; simp
          clear hown' hgrow hown1 HL2
          go_wp2
          go_roundw
          case rel => exact ⟨k + 1, ls ++ [f.value], by omega, by go_num, R1, R3, by simp; omega, R2⟩
          case measure => simp [intOf]; omega
      · obtain rfl : k = fs.length := by omega
        have hl2 := hls.out
        rw [List.drop_length] at hl2
        have hl3 : ls = getL fs nm := by rw [← hl2]; simp [getL]
        clear hl2 hls
        subst hl3
        go_wp2
        go_ret
        exact ⟨_, rfl, hown, hB⟩

end Go.Proofs.YtalgmnlclflllaaGreatDoor
end

/- mime: the fields that a part reads, its closure. -/
set_option linter.unusedVariables false
set_option linter.unusedSimpArgs false
section
namespace Go.Proofs.YtalgmnlclflllaaGreatDoor
open Go.RowKit Go

def fla1 (f : Fld) : Fla := ⟨f.name, f.value, f.pos, f.fin⟩
theorem OwnF.arg1 {w : World} {B : Nat} {v : Value} {fs : List Fld} (h : OwnF w B v fs) : ArgF w v (fs.map fla1) := by
  rcases h.parts with ⟨rfl, rfl⟩ | ⟨g, cap, rfl, _, hg⟩
  · exact .inl ⟨_, _, rfl, rfl⟩
  · by_cases h0 : fs = []
    · subst h0; exact .inl ⟨_, _, rfl, rfl⟩
    · refine .inr ⟨g, 0, cap, by rw [List.length_map], by rw [List.length_map]; exact List.length_pos_iff.2 h0, hg, fun j f hf i hi => ?_⟩
      rw [List.getElem?_map] at hf
      cases hq : fs[j]? with
      | none => rw [hq] at hf; cases hf
      | some y =>
        rw [hq] at hf
        obtain rfl := Option.some.inj hf
        rw [Nat.zero_add]
        exact h.cell j i y hq hi
/-- header.Fields, as a part asks it: more than there may be are none -/
theorem fieldsM_any (msg : List UInt8) (f : Addr) (w : World) (hl : msg.length ≤ 1000000) (hE : w.cell? ⟨10, 0, none⟩ = some (errV f)) :
    Calls Tryz.prog 56 #[.string (bs msg)] w fun e w' => ∃ sa sn sc x, e = .returned (.tuple #[.slice sa sn sc, x]) ∧ ((x = .nilIface ∧ ArgF w' (.slice sa sn sc) ((flds200 msg).map fla1)) ∨ (x = errV f ∧ flds200 msg = [])) ∧ Below w.heap.size w w' := by
  by_cases h : (fieldsL msg).length ≤ 200
  · refine (fields_ok msg w (by omega) h).mono ?_
    rintro e w' ⟨v, rfl, ho, hb⟩
    have e0 : flds200 msg = fieldsL msg := if_neg (by omega)
    obtain ⟨sa, sn, sc, rfl, _⟩ := ho.form
    exact ⟨sa, sn, sc, _, rfl, .inl ⟨rfl, by rw [e0]; exact ho.arg1⟩, hb⟩
  · refine (fields_full msg w f hE (by omega) (by omega)).mono ?_
    rintro e w' ⟨rfl, hb⟩
    exact ⟨none, 0, 0, _, rfl, .inr ⟨rfl, if_pos (by omega)⟩, hb⟩

/-- fields in a cell -/
def FlsAt (w : World) (g : Nat) (F : List Fld) : Prop := ∃ v, w.cell? ⟨g, 0, none⟩ = some v ∧ ArgF w v (F.map fla1) ∧ (F ≠ [] → ∀ b o n c, v = .slice (some ⟨b, o, none⟩) n c → b < g)
theorem FlsAt.below {w w' : World} {g : Nat} {F : List Fld} (h : FlsAt w g F) (hb : Below w.heap.size w w') : FlsAt w' g F := by
  obtain ⟨v, h1, h2, h3⟩ := h
  exact ⟨v, (hb.cell (cell_lt h1)).trans h1, h2.below hb, h3⟩
theorem FlsAt.upd1 {w w' : World} {g c : Nat} {F : List Fld} (h : FlsAt w g F) (hu : Upd c w w') (hn : g < c) : FlsAt w' g F := by
  obtain ⟨v, h1, h2, h3⟩ := h
  refine ⟨v, upd_cell hu (by omega) h1, ?_, h3⟩
  rcases h2 with h2 | ⟨b, o, cp, e, h4, h5, h6⟩
  · exact .inl h2
  · have hb := h3 (by rintro rfl; simp at h4) b o _ _ e
    exact .inr ⟨b, o, cp, e, h4, Nat.lt_of_lt_of_le h5 hu.size, fun j f hf i hi => (keep_cell (hu.block b h5 (by omega))).trans (h6 j f hf i hi)⟩
theorem first1_cons (f : Fld) (F : List Fld) (nm : List UInt8) : first1 (f :: F) nm = if (lowL f.name == nm) = true then f.value else first1 F nm := by
  unfold first1
  rw [List.find?_cons]
  cases h : (lowL f.name == nm) <;> simp
theorem first_get (F : List Fld) (nm : List UInt8) : (getL (F.map fla1) nm).headD [] = first1 F (lowL nm) := by
  induction F with
  | nil => rfl
  | cons f F ih =>
    rw [List.map_cons, getL_cons, first1_cons]
    show (if (lowL f.name == lowL nm) = true then f.value :: getL (F.map fla1) nm else getL (F.map fla1) nm).headD [] = _
    split
    · rfl
    · exact ih
theorem first1_len {n : Nat} {F : List Fld} (h : ShortF n F) (nm : List UInt8) : (first1 F nm).length ≤ n := by
  induction F with
  | nil => simp [first1]
  | cons f F ih =>
    rw [first1_cons]
    split
    · exact (h f (by simp)).2
    · exact ih (fun x hx => h x (List.mem_cons_of_mem _ hx))

set_option maxRecDepth 100000 in
theorem firstM_any (nm : List UInt8) (g : Nat) (F : List Fld) (w : World) (h : FlsAt w g F) (hl : F.length ≤ 200) (hs : ShortF 1000000 F) (hn : nm.length ≤ 1000) (R : List UInt8) (hR : first1 F (lowL nm) = R) :
    Calls Tryz.prog 57 #[.string (bs nm), .pointer (some ⟨g, 0, none⟩)] w fun e w' => e = .returned (.string (bs R)) ∧ Below w.heap.size w w' := by
  obtain ⟨v, hc, ha, _⟩ := h
  have hg := get_any v (F.map fla1) nm w ha (by rw [List.length_map]; omega) (by omega) (fun f hf => by
    obtain ⟨x, hx, rfl⟩ := List.mem_map.1 hf
    exact (hs x hx).1)
  have hfg := first_get F nm
  rw [hR] at hfg
  obtain ⟨G, hG⟩ : ∃ G, getL (F.map fla1) nm = G := ⟨_, rfl⟩
  rw [hG] at hg hfg
  have HG := Lib.hid hg
  clear hg hG ha hs hl hn hR
  cases G with
  | nil =>
    subst hfg
    go_enter Tryz.func57, Tryz.ntmps57
    go_wp2_with fail
    refine HG.out.mono ?_
    rintro e w1 ⟨rfl, hb1⟩
    unfold firstV
    go_wp2
    go_ret
    exact ⟨rfl, hb1⟩
  | cons x G =>
    subst hfg
    go_enter Tryz.func57, Tryz.ntmps57
    go_wp2_with fail
    refine HG.out.mono ?_
    rintro e w1 ⟨rfl, hb1⟩
    unfold firstV
    go_wp2
    go_ret
    exact ⟨rfl, hb1⟩

end Go.Proofs.YtalgmnlclflllaaGreatDoor
end

/- mime: a part as its reading returns it. -/
set_option linter.unusedVariables false
set_option linter.unusedSimpArgs false
section
namespace Go.Proofs.YtalgmnlclflllaaGreatDoor
open Go.RowKit Go

section
variable {w w' : World} {c : Nat} {typ sub id desc enc : List UInt8} {pv kv : Value} {ap bo fi ln : Int}
/-- a part copied into another's block -/
def copyP (w : World) (c : Nat) (t s : List UInt8) (p : Value) (i d e : List UInt8) (a b f l : Int) (k : Value) : World :=
  ((((((((((w.setCell ⟨c, 0, none⟩ (.string (bs t))).setCell ⟨c, 1, none⟩ (.string (bs s))).setCell ⟨c, 2, none⟩ p).setCell ⟨c, 3, none⟩ (.string (bs i))).setCell ⟨c, 4, none⟩ (.string (bs d))).setCell ⟨c, 5, none⟩ (.string (bs e))).setCell ⟨c, 6, none⟩ (.int .i64 a)).setCell ⟨c, 7, none⟩ (.int .i64 b)).setCell ⟨c, 8, none⟩ (.int .i64 f)).setCell ⟨c, 9, none⟩ (.int .i64 l)).setCell ⟨c, 10, none⟩ k
theorem PrtC.copy (h : PrtC w c typ sub pv id desc enc ap bo fi ln kv) (t s : List UInt8) (p : Value) (i d e : List UInt8) (a b f l : Int) (k : Value) : PrtC (copyP w c t s p i d e a b f l k) c t s p i d e a b f l k := by
  unfold PrtC copyP at *
  simp [World.setCell, Array.getElem?_modify, h]
theorem copy_upd (w : World) (c : Nat) (t s : List UInt8) (p : Value) (i d e : List UInt8) (a b f l : Int) (k : Value) : Upd c w (copyP w c t s p i d e a b f l k) :=
  ((((((((((((Upd.refl c w).setCell 0 _).setCell 1 _).setCell 2 _).setCell 3 _).setCell 4 _).setCell 5 _).setCell 6 _).setCell 7 _).setCell 8 _).setCell 9 _).setCell 10 _)
theorem copy_size (w : World) (c : Nat) (t s : List UInt8) (p : Value) (i d e : List UInt8) (a b f l : Int) (k : Value) : (copyP w c t s p i d e a b f l k).heap.size = w.heap.size := by
  simp [copyP, World.setCell]
theorem part_results (h : PrtC w c typ sub pv id desc enc ap bo fi ln kv) (tmps : Array Value) (ht : tmps[8]?.getD undef = .pointer (some ⟨c, 0, none⟩)) :
    (results Tryz.f29 tmps).run Tryz.prog w = .ok (prtV typ sub pv id desc enc ap bo fi ln kv) w := by
  obtain ⟨p0, p1, p2, p3, p4, p5, p6, p7, p8, p9, p10⟩ := h.cells
  simp [results, Tryz.results29, go_sem, ht, p0, p1, p2, p3, p4, p5, p6, p7, p8, p9, p10, prtV]
end

theorem kidsT_flat (m : List UInt8) (k1 k2 : Nat → Nat → Prt) (b fin : Nat) (bd : List UInt8) : kidsT m k1 false b fin bd = kidsT m k2 false b fin bd := by
  unfold kidsT
  rw [if_neg (fun h => by cases h.1), if_neg (fun h => by cases h.1)]
theorem partT_eq (m : List UInt8) (n a b : Nat) : partT m n a b = buildT m (partT m (n - 1)) (decide (0 < n)) a b := by
  cases n with
  | zero =>
    rw [partT]
    show buildT m _ false a b = buildT m (partT m (0 - 1)) false a b
    generalize partT m (0 - 1) = P
    unfold buildT
    rw [kidsT_flat m _ P]
  | succ n => rw [partT]; simp
section
variable {m : List UInt8} {n a b bo LN : Nat} {F : List Fld} {ty su ID DE E9 : List UInt8} {ps : List Prm}
theorem part_leaf (hF : flds200 (pieceM m a b) = F) (hty : typeOf F = (ty, su, ps)) (h1 : first1 F cidT = ID) (h2 : first1 F cdescT = DE) (h3 : encOf F = E9) (h4 : bodyAt m a b = bo) (h5 : (linesOf (pieceM m bo b)).length = LN) (hne : ty ≠ multiT) :
    partT m n a b = .mk ty su ps ID DE E9 a bo b LN [] := by
  rw [partT_eq]
  unfold buildT
  rw [hF, hty, h4, h5, h1, h2, h3, if_neg hne]
theorem part_none (hF : flds200 (pieceM m a b) = F) (hty : typeOf F = (ty, su, ps)) (h1 : first1 F cidT = ID) (h2 : first1 F cdescT = DE) (h3 : encOf F = E9) (h4 : bodyAt m a b = bo) (h5 : (linesOf (pieceM m bo b)).length = LN) (hmt : ty = multiT)
    (hk : kidsT m (partT m (n - 1)) (decide (0 < n)) bo b (boundOf ps) = []) :
    partT m n a b = .mk applT octT [] ID DE E9 a bo b LN [] := by
  rw [partT_eq]
  unfold buildT
  rw [hF, hty, h4, h5, if_pos hmt, hk]
  unfold wrapT
  rw [if_pos (by rfl), h1, h2, h3]
theorem part_kids (hF : flds200 (pieceM m a b) = F) (hty : typeOf F = (ty, su, ps)) (h1 : first1 F cidT = ID) (h2 : first1 F cdescT = DE) (h3 : encOf F = E9) (h4 : bodyAt m a b = bo) (h5 : (linesOf (pieceM m bo b)).length = LN) (hmt : ty = multiT) {ks : List Prt}
    (hk : kidsT m (partT m (n - 1)) (decide (0 < n)) bo b (boundOf ps) = ks) (hne : ks ≠ []) :
    partT m n a b = .mk ty su ps ID DE E9 a bo b LN ks := by
  rw [partT_eq]
  unfold buildT
  rw [hF, hty, h4, h5, if_pos hmt, hk]
  unfold wrapT
  rw [if_neg (by simpa using hne), h1, h2, h3]
end

theorem cellsK_at : ∀ (vals : List Value), (∀ x ∈ vals, x.cells.size = 11) → ∀ (j i : Nat) (x : Value), vals[j]? = some x → i < 11 → (vals.flatMap fun x => x.cells.toList)[j * 11 + i]? = x.cells.toList[i]?
  | [], _, j, i, x, h, _ => by simp at h
  | v :: r, hv, j, i, x, h, hi => by
    have hl : v.cells.toList.length = 11 := by rw [Array.length_toList]; exact hv v (by simp)
    rw [List.flatMap_cons]
    cases j with
    | zero =>
      obtain rfl : v = x := by simpa using h
      rw [Nat.zero_mul, Nat.zero_add, List.getElem?_append_left (by omega)]
    | succ j =>
      rw [List.getElem?_append_right (by omega), hl, show (j + 1) * 11 + i - 11 = j * 11 + i by omega]
      exact cellsK_at r (fun y hy => hv y (List.mem_cons_of_mem _ hy)) j i x (by simpa using h) hi
/-- a row of kids, as a part reads it -/
theorem OwnK.kids {w : World} {lo : Nat} {v : Value} {ks : List Prt} (h : OwnK w lo v ks) : ∃ (ka : Option Addr) (kc : Nat) (kvs : Nat → Value), v = .slice ka ks.length kc ∧
    (ks ≠ [] → ∃ b o, ka = some ⟨b, o, none⟩ ∧ (lo ≤ b ∧ b < w.heap.size) ∧ b < w.heap.size ∧ ∀ (j : Nat) (k : Prt), ks[j]? = some k → CelAt w b (o + j * 11) (kvs j)) ∧
    ∀ (j : Nat) (k : Prt), ks[j]? = some k → PtAt w (fun b => lo ≤ b ∧ b < w.heap.size) (kvs j) k := by
  have hlt := h.lt
  obtain ⟨vals, h1, h2, h3⟩ := h
  have hcz : ∀ x ∈ vals, x.cells.size = 11 := by
    intro x hxm
    obtain ⟨j, hj⟩ := List.mem_iff_getElem?.1 hxm
    have hjl : j < ks.length := by rw [← h2]; exact (List.getElem?_eq_some_iff.1 hj).1
    obtain ⟨x2, e2, e3, _⟩ := h3 j _ (List.getElem?_eq_getElem hjl)
    rw [hj] at e2
    cases e2
    exact e3
  have hp : ∀ (j : Nat) (k : Prt), ks[j]? = some k → PtAt w (fun b => lo ≤ b ∧ b < w.heap.size) (vals.getD j .nilIface) k := by
    intro j k hj
    obtain ⟨x, e1, _, e3⟩ := h3 j k hj
    rw [List.getD_eq_getElem?_getD, e1]
    exact e3.imp fun b hb _ => ⟨hb.1, hb.2.1⟩
  rcases h1.2 with ⟨rfl, h0⟩ | ⟨g, cap, cur, rfl, _⟩
  · have hnil : ks = [] := List.eq_nil_of_length_eq_zero h0
    exact ⟨none, 0, fun j => vals.getD j .nilIface, by rw [h0], fun hne => absurd hnil hne, hp⟩
  · obtain ⟨hg1, hg2⟩ := hlt g rfl
    refine ⟨some ⟨g, 0, none⟩, cap, fun j => vals.getD j .nilIface, rfl, fun _ => ⟨g, 0, rfl, ⟨hg1, hg2⟩, hg2, fun j k hj i x hx => ?_⟩, hp⟩
    obtain ⟨y, e1, e2, _⟩ := h3 j k hj
    simp only [List.getD_eq_getElem?_getD, e1, Option.getD_some] at hx
    have hi : i < 11 := by rw [← e2]; exact (Array.getElem?_eq_some_iff.1 hx).1
    have hc := cellsK_at vals hcz j i y e1 hi
    replace hc : (vals.flatMap fun x => x.cells.toList)[j * 11 + i]? = some x := hc.trans ((Array.getElem?_toList ..).trans hx)
    have := row_tail (xs := []) (o := 0) (by simpa using h1) rfl (j * 11 + i) x hc
    rw [show 0 + j * 11 + i = 0 + (j * 11 + i) by omega]
    exact this

end Go.Proofs.YtalgmnlclflllaaGreatDoor
end
