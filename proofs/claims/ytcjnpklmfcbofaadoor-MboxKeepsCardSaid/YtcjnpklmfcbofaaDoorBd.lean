/- strings.Builder: WriteString where copyCheck's panic is refused by the loader: walked at this program. -/
import Derived.Test.YtcjnpklmfcbofaaDoorShelf
import Derived.Test.YtcjnpklmfcbofaaDoorS
import Derived.Lib.Builder
import Derived.Lib.AppendStr
import Derived.Lib.UnsafeStr
import Derived.Lib.Strings
import Derived.Laws.Externs
import Derived.Deep.DeepFit
set_option linter.unusedVariables false
set_option linter.unusedSimpArgs false
namespace Go.Proofs.YtcjnpklmfcbofaaDoor
open Go.RowKit Go

theorem info_bld : (Tryd.prog.info? 57).map (fun i => i.size) = some 2 := by kernel_rfl
theorem info_byt : (Tryd.prog.info? 5).map (fun i => (i.zero, i.size, i.bytes)) = some (some (.int .u8 0), 1, 1) := by kernel_rfl

set_option maxRecDepth 100000 in
set_option maxHeartbeats 1000000 in
theorem check_used (b : Nat) (w : World) (h0 : w.cell? ⟨b, 0, none⟩ = some (.pointer (some ⟨b, 0, none⟩))) :
    Calls Tryd.prog 44 #[.pointer (some ⟨b, 0, none⟩)] w fun e w' => e = .returned (.tuple #[]) ∧ w' = w := by
  obtain ⟨j, hj, hjs⟩ : ∃ j, Tryd.prog.info? 57 = some j ∧ j.size ≠ 0 := by
    obtain ⟨j, hj, hs⟩ := Option.map_eq_some_iff.1 info_bld
    exact ⟨j, hj, by rw [hs]; decide⟩
  have hn := fun w0 => Lib.run_neq_ptr_same (P := Tryd.prog) w0 ⟨b, 0, none⟩ Tryd.underlying54 hj
  go_enter Tryd.func44, Tryd.ntmps44
  go_wp2
  try rw [Lib.run_neq_ptr_same w _ Tryd.underlying54 hj]
  try go_wp2
  go_end0
  exact ⟨rfl, rfl⟩

set_option maxRecDepth 100000 in
set_option maxHeartbeats 1000000 in
theorem check_fresh (b : Nat) (w : World) (h0 : w.cell? ⟨b, 0, none⟩ = some (.pointer none)) (hsh : w.shape? b = some (57, 2)) (hfz : w.frozen? ⟨b, 0, none⟩ = false) :
    Calls Tryd.prog 44 #[.pointer (some ⟨b, 0, none⟩)] w fun e w' => e = .returned (.tuple #[]) ∧ w' = w.setCell ⟨b, 0, none⟩ (.pointer (some ⟨b, 0, none⟩)) := by
  obtain ⟨j, hj, hjs⟩ : ∃ j, Tryd.prog.info? 57 = some j ∧ j.size ≠ 0 := by
    obtain ⟨j, hj, hs⟩ := Option.map_eq_some_iff.1 info_bld
    exact ⟨j, hj, by rw [hs]; decide⟩
  go_enter Tryd.func44, Tryd.ntmps44
  go_wp2
  rw [Lib.run_to_unsafe w ⟨b, 0, none⟩ Tryd.underlying54 Tryd.underlying94 hj hjs hsh (Nat.zero_lt_succ 1)]
  simp only [Result.andThen]
  rw [Oper.upon_value]
  go_wp2
  rw [run_callFunc_extern Tryd.func58 (by kernel_rfl) (by kernel_rfl) (by kernel_rfl) (e := Extern.AbiNoEscape.same) (by kernel_rfl)]
  rw [Lib.run_noEscape]
  simp only [Result.andThen]
  rw [Oper.upon_value]
  go_wp2
  rw [Lib.run_from_unsafe w ⟨b, 0, none⟩ Tryd.underlying94 Tryd.underlying54 hj hsh (by kernel_rfl)]
  simp only [Result.andThen]
  rw [Oper.upon_value]
  go_wp2
  go_end0
  exact ⟨rfl, rfl⟩

theorem check_any (B b : Nat) (l : List Value) (w : World) (h : Lib.IsBuilder 57 5 B b l w) :
    Calls Tryd.prog 44 #[.pointer (some ⟨b, 0, none⟩)] w fun e w' => e = .returned (.tuple #[]) ∧ (Lib.BuilderAt 57 5 B b (.pointer (some ⟨b, 0, none⟩)) l w' ∧ Below B w w' ∧ (∀ k, k ≠ b → w'.heap[k]? = w.heap[k]?)) := by
  rcases h with h | h
  · refine (check_fresh b w h.cell0 h.shape h.frozen0).mono ?_
    rintro e w' ⟨rfl, rfl⟩
    exact ⟨rfl, h.used _, (Below.refl B w).setCell (p := ⟨b, 0, none⟩) h.1 _, fun k hk => Below.heap_setCell _ _ _ _ (by simpa using hk)⟩
  · refine (check_used b w h.cell0).mono ?_
    rintro e w' ⟨rfl, rfl⟩
    exact ⟨rfl, h, Below.refl B _, fun _ _ => rfl⟩

/-- all blocks but b and rows of bytes are as they were -/
def KeptBut (b : Nat) (w w' : World) : Prop := ∀ k o, w.heap[k]? = some o → k ≠ b → (∀ cs fr, o ≠ .cells cs 5 fr) → w'.heap[k]? = some o
/-- the builder at b holds the bytes l -/
def BldAt (w : World) (B b : Nat) (l : List UInt8) : Prop := Lib.IsBuilder 57 5 B b (Lib.byteCells l) w

set_option maxRecDepth 100000 in
set_option maxHeartbeats 2000000 in
theorem write_any (B b : Nat) (l s : List UInt8) (w : World) (h : BldAt w B b l) (hlen : l.length + s.length ≤ 140737488355328) (hBw : B ≤ w.heap.size) :
    Calls Tryd.prog 24 #[.pointer (some ⟨b, 0, none⟩), .string (bs s)] w fun e w' => e = .returned (.tuple #[.int .i64 s.length, .nilIface]) ∧ BldAt w' B b (l ++ s) ∧ Below B w w' ∧ KeptBut b w w' := by
  obtain ⟨i0, hi, hz0, hz1, hz2⟩ := info_parts info_byt
  have hbl : (Lib.byteCells l).length = l.length := by simp [Lib.byteCells]
  go_enter Tryd.func24, Tryd.ntmps24
  go_wp2_with fail
  refine (check_any B b _ _ h).mono ?_
  rintro e w1 ⟨rfl, h1, hb1, hk1⟩
  obtain ⟨hB, v, hbk, hown, hne⟩ := h1
  have c0 : w1.cell? ⟨b, 0, none⟩ = some (.pointer (some ⟨b, 0, none⟩)) := by rw [Lib.cell_of_heap hbk]; rfl
  have c1 : w1.cell? ⟨b, 1, none⟩ = some v := by rw [Lib.cell_of_heap hbk]; rfl
  go_wp2_with (at_builtin; refine Lib.wpList_append_own_string _ rfl _ _ 55 9 rfl B 5 i0 Tryd.underlying55 Tryd.underlying9 hi hz0 hz1 hz2 _ _ _ rfl hown (bs s) rfl ?c3 ?c4 ?c5 ?_)
  case c3 => rw [hbl, bs_size]; unfold maxLen; omega
  case c4 => rw [hbl, bs_size]; omega
  case c5 => have := hb1.size; omega
  intro v' w2 hown' hgrow _
  have hlt : b < w1.heap.size := by
    rcases Nat.lt_or_ge b w1.heap.size with h' | h'
    · exact h'
    · simp [Array.getElem?_eq_none h'] at hbk
  have hb2 : w2.heap[b]? = some (.cells #[.pointer (some ⟨b, 0, none⟩), v] 57 (0, 0)) := by
    rw [hgrow.block b hlt (fun e => hne e.symm)]
    exact hbk
  have d0 : w2.cell? ⟨b, 0, none⟩ = some (.pointer (some ⟨b, 0, none⟩)) := by rw [Lib.cell_of_heap hb2]; rfl
  have d1 : w2.cell? ⟨b, 1, none⟩ = some v := by rw [Lib.cell_of_heap hb2]; rfl
  have f1 : w2.frozen? ⟨b, 1, none⟩ = false := Lib.frozen_of_heap hb2 1
  obtain ⟨ao, n', cap, rfl⟩ : ∃ ao n' cap, v' = .slice ao n' cap := by
    rcases hown'.2 with ⟨hv, _⟩ | ⟨g, cap, cur, hv, _⟩
    · exact ⟨_, _, _, hv⟩
    · exact ⟨_, _, _, hv⟩
  go_wp2
  go_ret2
  refine ⟨rfl, ?_, ?_, ?_⟩
  · have e : Lib.byteCells (l ++ s) = Lib.byteCells l ++ Lib.strCells (bs s) := by simp [Lib.byteCells, Lib.strCells]
    unfold BldAt
    rw [e]
    exact .inr (Lib.BuilderAt.put (T := 57) (e := 5) hB hb2 (bs' := Lib.byteCells l ++ Lib.strCells (bs s)) (by rw [List.length_append, Lib.strCells_length, hbl, bs_size]; exact hown') (by decide))
  · exact (hb1.grown hgrow (by have := hb1.size; omega) (fun k hk => (hown.lt k hk).1)).setCell (p := ⟨b, 1, none⟩) hB _
  · intro k o ho hkb hno
    have hlk : k < w1.heap.size := Nat.lt_of_lt_of_le (Array.getElem?_eq_some_iff.1 ho).1 hb1.size
    have h1 : w1.heap[k]? = some o := (hk1 k hkb).trans ho
    have hv : some k ≠ v.ownBlock := by
      intro e
      rcases hown.2 with ⟨rfl, _⟩ | ⟨g, cap, cur, rfl, _, hg, _⟩
      · cases e
      · obtain rfl : k = g := by simpa [Value.ownBlock] using e
        rw [h1] at hg
        exact hno _ _ (Option.some.inj hg)
    exact (Below.heap_setCell _ _ _ _ (by simpa using hkb)).trans ((hgrow.block k hlk hv).trans h1)

theorem string_any (B b : Nat) (l : List UInt8) (w : World) (h : BldAt w B b l) (hBw : B ≤ w.heap.size) :
    Calls Tryd.prog 25 #[.pointer (some ⟨b, 0, none⟩)] w fun e w' => e = .returned (.string (bs l)) ∧ Below B w w' := Tryd.Builder_String_any B b l w h hBw

theorem BldAt.new (w : World) (B : Nat) (hB : B ≤ w.heap.size) : BldAt (w.alloc (.cells #[.pointer none, .slice none 0 0] 57)) B w.heap.size [] :=
  .inl ⟨hB, _, by show (w.heap.push _)[w.heap.size]? = _; simp, World.ownsRow_nil _ _ _ _, by simp [Value.ownBlock]⟩

end Go.Proofs.YtcjnpklmfcbofaaDoor
