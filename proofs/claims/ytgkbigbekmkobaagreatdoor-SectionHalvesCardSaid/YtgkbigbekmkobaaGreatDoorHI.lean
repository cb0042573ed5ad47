/- header.All, header.Get, the reference's Get. -/
import Derived.Test.YtgkbigbekmkobaaGreatDoorSn
import Derived.Test.YtgkbigbekmkobaaGreatDoorOf
import Derived.Test.YtgkbigbekmkobaaGreatDoorSq
import Derived.Test.YtgkbigbekmkobaaGreatDoorH7
set_option linter.unusedVariables false
set_option linter.unusedSimpArgs false
namespace Go.Proofs.YtgkbigbekmkobaaGreatDoor
open Go.RowKit Go

/-- the values of a name -/
def getL (fs : List Fla) (nm : List UInt8) : List (List UInt8) := (fs.filter fun f => lowL f.name == lowL nm).map fun f => f.value
theorem getL_cons (f : Fla) (fs : List Fla) (nm : List UInt8) : getL (f :: fs) nm = if (lowL f.name == lowL nm) = true then f.value :: getL fs nm else getL fs nm := by
  unfold getL
  rw [List.filter_cons]
  split <;> rfl
theorem getL_length (fs : List Fla) (nm : List UInt8) : (getL fs nm).length ≤ fs.length := by
  unfold getL
  rw [List.length_map]
  exact List.length_filter_le _ _

theorem OwnS.over {w w' : World} {B2 : Nat} {v2 : Value} {ls : List (List UInt8)} (h : OwnS w B2 v2 ls) (hb : Below w.heap.size w w') : OwnS w' B2 v2 ls := by
  refine ⟨h.1, ?_⟩
  rcases h.2 with h0 | ⟨g, cap, cur, rfl, h1, h2, r⟩
  · exact .inl h0
  · exact .inr ⟨g, cap, cur, rfl, h1, (hb.block g (Array.getElem?_eq_some_iff.1 h2).1).trans h2, r⟩
/-- the row that came in, an element's cells -/
theorem ArgF.at {w : World} {b o n c : Nat} {fs : List Fla} (h : ArgF w (.slice (some ⟨b, o, none⟩) n c) fs) (h0 : fs ≠ []) : n = fs.length ∧ b < w.heap.size ∧ ∀ k f, fs[k]? = some f →
    w.cell? ⟨b, o + k * 4, none⟩ = some (.string (bs f.name)) ∧ w.cell? ⟨b, o + k * 4 + 1, none⟩ = some (.string (bs f.value)) ∧ w.cell? ⟨b, o + k * 4 + 2, none⟩ = some (.int .i64 f.pos) ∧ w.cell? ⟨b, o + k * 4 + 3, none⟩ = some (.int .i64 f.fin) := by
  rcases h with ⟨_, _, _, h⟩ | ⟨b', o', c', h, h1, h2, h3⟩
  · exact absurd h h0
  · obtain ⟨⟨rfl, rfl⟩, rfl, rfl⟩ : (b = b' ∧ o = o') ∧ n = fs.length ∧ c = c' := by simpa using h
    refine ⟨rfl, h2, fun k f hf => ?_⟩
    exact ⟨h3 k f hf 0 (by decide), h3 k f hf 1 (by decide), h3 k f hf 2 (by decide), h3 k f hf 3 (by decide)⟩
theorem ArgF.form {w : World} {v : Value} {fs : List Fla} (h : ArgF w v fs) : (∃ a c, v = .slice a 0 c ∧ fs = []) ∨ ∃ b o c, v = .slice (some ⟨b, o, none⟩) fs.length c ∧ fs ≠ [] := by
  rcases h with h | ⟨b, o, c, h, h1, _⟩
  · exact .inl h
  · exact .inr ⟨b, o, c, h, by rintro rfl; simp at h1⟩

set_option maxRecDepth 100000 in
set_option maxHeartbeats 2000000 in
theorem all_any (v : Value) (fs : List Fla) (nm : List UInt8) (w : World) (ha : ArgF w v fs) (hl : fs.length ≤ 1000) (hn : nm.length ≤ 1000) (hf : ∀ f ∈ fs, f.name.length ≤ 1000) :
    Calls Tryz.prog 56 #[v, .string (bs nm)] w (Strs w.heap.size (getL fs nm) w) := by
  obtain ⟨i0, hi, hz0, hz1, hz2⟩ := info_parts info_str
  rcases ha.form with ⟨a, c, rfl, rfl⟩ | ⟨b, o, c, rfl, hne⟩
  · go_enter Tryz.func56, Tryz.ntmps56
    go_wp2
    go_loopw [5, 10] (fun v c wr => c = .int .i64 0 ∧ v = .slice none 0 0 ∧ Below w.heap.size w wr) (fun _ _ _ => 0)
    case atStart => exact ⟨rfl, rfl, Below.refl _ _⟩
    case round =>
      obtain ⟨rfl, rfl, hB⟩ := hrel
      go_wp2
      go_ret
      exact ⟨_, rfl, World.ownsRow_nil _ _ _ _, hB⟩
  · have hn' : nm.length ≤ 1099511627776 := by omega
    have HN := Lib.hid hn'
    have HA := Lib.hid ha
    have HF := Lib.hid hf
    clear ha hf hn'
    go_enter Tryz.func56, Tryz.ntmps56
    go_wp2
    go_loopw [5, 10] (fun out c wr => ∃ (k : Nat) (ls : List (List UInt8)), k ≤ fs.length ∧ c = .int .i64 k ∧ OwnS wr w.heap.size out ls ∧ Hid (ls ++ getL (fs.drop k) nm = getL fs nm) ∧ ls.length ≤ k ∧ Below w.heap.size w wr) (fun _ c _ => fs.length - (intOf c).toNat)
    case atStart => exact ⟨0, [], Nat.zero_le _, rfl, World.ownsRow_nil _ _ _ _, by show _ = _; rfl, Nat.le_refl _, Below.refl _ _⟩
    case round =>
      obtain ⟨k, ls, hk, rfl, hown, hls, hlk, hB⟩ := hrel
      have hzr := hB.size
      by_cases hlt : k < fs.length
      · obtain ⟨f, hfk⟩ : ∃ f, fs[k]? = some f := ⟨_, List.getElem?_eq_getElem hlt⟩
        obtain ⟨_, _, hcells⟩ := (HA.out.below hB).at hne
        obtain ⟨c0, c1, c2, c3⟩ := hcells k f hfk
        have hfn : f.name.length ≤ 1099511627776 := by have := HF.out f (List.mem_of_getElem? hfk); omega
        have hls' := hls.out
        rw [List.drop_eq_getElem_cons hlt, (List.getElem?_eq_some_iff.1 hfk).2, getL_cons] at hls'
        have HLS := Lib.hid hls'
        have HFN := Lib.hid hfn
        have hlt' : (k : Int) < fs.length := by omega
        clear hcells hls' hls hfk hfn
        go_wp2_with fail
        refine (hsame_any f.name nm _ HFN.out HN.out).mono ?_
        rintro e w1 ⟨rfl, hb1⟩
        have hz1' := hb1.size
        rw [size_alloc] at hz1'
        have d1 : w1.cell? ⟨wr.heap.size, 1, none⟩ = some (.string (bs f.value)) := by
          exact (hb1.cell (p := ⟨wr.heap.size, 1, none⟩) (by rw [size_alloc]; exact Nat.lt_succ_self _)).trans (row_cell (heap_new wr _) rfl)
        have hB1 : Below w.heap.size w w1 := (hB.alloc hzr _).trans (hb1.mono (by simp; omega))
        have hown1 : OwnS w1 w.heap.size _ ls := OwnS.over hown ((Below.refl _ wr).alloc (Nat.le_refl _) _ |>.trans (hb1.mono (by simp)))
        rcases hs : (lowL f.name == lowL nm) with _ | _
        · have hl2 := HLS.out
          rw [hs] at hl2
          simp only [Bool.false_eq_true, if_false] at hl2
          have HL2 := Lib.hid hl2
          clear hl2 HLS d1 hs hz1'
          go_wp2
          go_roundw
          case rel => exact ⟨k + 1, ls, by omega, by go_num, hown1, HL2.out, by omega, hB1⟩
          case measure => simp [intOf]; omega
        · have hl2 := HLS.out
          rw [hs] at hl2
          simp only [if_true] at hl2
          have HL2 := Lib.hid hl2
          clear hl2 HLS
          go_wp2_with (at_builtin; refine wpList_append_own _ rfl _ _ 22 rfl w.heap.size 9 i0 (.string ⟨#[]⟩) 1 16 Tryz.underlying22 hi hz0 hz1 hz2 rfl (by decide) _ _ _ rfl (World.ownsRow.alloc hown1 _) ⟨w1.heap.size, 0, none⟩ 1 1 [.string (bs f.value)] rfl rfl ?e1 ?e2 ?e3 ?e4 ?e5 ?_)
          case e1 =>
            intro j u hj
            match j, hj with
            | 0, hj => simp at hj; subst hj; simp [Addr.add]
          case e2 => intro u hu; simp at hu; subst hu; rfl
          case e3 => unfold maxLen; omega
          case e4 => have := hB1.size; omega
          case e5 => have := hB1.size; simp; omega
          intro v' w2 hown' hgrow _
          have R1 : OwnS w2 w.heap.size v' (ls ++ [f.value]) := OwnS.step hown'
          have R2 : Below w.heap.size w w2 := (hB1.alloc hB1.size _).grown hgrow (by have := hB1.size; simp; omega) (fun k e => (World.ownsRow.lt hown1 k e).1)
          have R3 : Hid ((ls ++ [f.value]) ++ getL (fs.drop (k + 1)) nm = getL fs nm) := by
            show _ = _
            rw [← HL2.out]; simp
          clear hown' hgrow hown1 HL2
          go_wp2
          go_roundw
          case rel => exact ⟨k + 1, ls ++ [f.value], by omega, by go_num, R1, R3, by simp; omega, R2⟩
          case measure => simp [intOf]; omega
      · obtain rfl : k = fs.length := by omega
        have hl2 := hls.out
        rw [List.drop_length] at hl2
        have hl3 : ls = getL fs nm := by rw [← hl2]; simp [getL]
        clear hl2 hls
        subst hl3
        go_wp2
        go_ret
        exact ⟨_, rfl, hown, hB⟩

end Go.Proofs.YtgkbigbekmkobaaGreatDoor
