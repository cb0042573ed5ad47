/- header.Get, the reference's Get; the law HeaderGets. -/
import Derived.Test.YtplmekfcnggigaaDoorHI
set_option linter.unusedVariables false
set_option linter.unusedSimpArgs false
namespace Go.Proofs.YtplmekfcnggigaaDoor
open Go.RowKit Go

def firstV : List (List UInt8) → Value
  | [] => .tuple #[.string ⟨#[]⟩, .bool false]
  | x :: _ => .tuple #[.string (bs x), .bool true]

set_option maxRecDepth 100000 in
set_option maxHeartbeats 1000000 in
theorem get_any (v : Value) (fs : List Fla) (nm : List UInt8) (w : World) (ha : ArgF w v fs) (hl : fs.length ≤ 1000) (hn : nm.length ≤ 1000) (hf : ∀ f ∈ fs, f.name.length ≤ 1000) :
    Calls Tryd.prog 20 #[v, .string (bs nm)] w fun e w' => e = .returned (firstV (getL fs nm)) ∧ Below w.heap.size w w' := by
  have hall := all_any v fs nm w ha hl hn hf
  obtain ⟨G, hG⟩ : ∃ G, getL fs nm = G := ⟨_, rfl⟩
  have hgl := getL_length fs nm
  rw [hG] at hall hgl ⊢
  have HALL := Lib.hid hall
  clear hall hG hf ha
  go_enter Tryd.func20, Tryd.ntmps20
  go_wp2_with fail
  refine HALL.out.mono ?_
  rintro e w1 ⟨v1, rfl, ho, hB⟩
  cases G with
  | nil =>
    obtain ⟨a, n, cap, rfl, hn0⟩ := OwnS.form ho
    obtain rfl : n = 0 := hn0.out
    go_wp2
    go_loopw [12] (fun c wr => c = .int .i64 0 ∧ Below w.heap.size w wr) (fun _ _ => 0)
    case atStart => exact ⟨rfl, hB⟩
    case round =>
      obtain ⟨rfl, hB⟩ := hrel
      go_wp2
      go_ret2
      exact ⟨rfl, hB⟩
  | cons x G =>
    obtain ⟨g, cap, rfl, _⟩ := (OwnS.parts ho).resolve_left (fun h => by cases h.2)
    have hc := (OwnS.set ho (k := 0) (by simp) []).1
    have hc0 : w1.cell? ⟨g, 0, none⟩ = some (.string (bs x)) := hc
    have hpos : (0 : Int) < ((x :: G).length : Nat) := by simp
    obtain ⟨n, hn⟩ : ∃ n, (x :: G).length = n := ⟨_, rfl⟩
    rw [hn] at hpos ⊢
    clear hc ho hn
    go_wp2
    go_loopw [12] (fun c wr => c = .int .i64 0 ∧ wr.cell? ⟨g, 0, none⟩ = some (.string (bs x)) ∧ Below w.heap.size w wr) (fun _ _ => 0)
    case atStart => exact ⟨rfl, hc0, hB⟩
    case round =>
      obtain ⟨rfl, hc, hB⟩ := hrel
      go_wp2
      go_ret2
      exact ⟨rfl, hB⟩

set_option maxRecDepth 100000 in
set_option maxHeartbeats 2000000 in
theorem refGet_any (v : Value) (fs : List Fla) (nm : List UInt8) (w : World) (ha : ArgF w v fs) (hl : fs.length ≤ 1000) (hn : nm.length ≤ 1000) (hf : ∀ f ∈ fs, f.name.length ≤ 1000) :
    Calls Tryd.prog 19 #[v, .string (bs nm)] w (Strs w.heap.size (getL fs nm) w) := by
  obtain ⟨i0, hi, hz0, hz1, hz2⟩ := info_parts info_str
  have o0 : OwnS (w.alloc (.cells #[] 9)) w.heap.size (.slice (some ⟨w.heap.size, 0, none⟩) 0 0) [] := World.ownsRow_lit w #[] 0 (Nat.le_refl _) (by decide) rfl
  have b0 : Below w.heap.size w (w.alloc (.cells #[] 9)) := (Below.refl _ _).alloc (Nat.le_refl _) _
  rcases ha.form with ⟨a, c, rfl, rfl⟩ | ⟨b, o, c, rfl, hne⟩
  · go_enter Tryd.func19, Tryd.ntmps19
    go_wp2
    go_loopw [5, 11] (fun v c wr => c = .int .i64 0 ∧ OwnS wr w.heap.size v [] ∧ Below w.heap.size w wr) (fun _ _ _ => 0)
    case atStart => exact ⟨rfl, o0, b0⟩
    case round =>
      obtain ⟨rfl, ho, hB⟩ := hrel
      go_wp2
      go_ret
      exact ⟨_, rfl, ho, hB⟩
  · have hn' : nm.length ≤ 1099511627776 := by omega
    have HN := Lib.hid hn'
    have HA := Lib.hid ha
    have HF := Lib.hid hf
    clear ha hf hn'
    go_enter Tryd.func19, Tryd.ntmps19
    go_wp2
    go_loopw [5, 11] (fun out c wr => ∃ (k : Nat) (ls : List (List UInt8)), k ≤ fs.length ∧ c = .int .i64 k ∧ OwnS wr w.heap.size out ls ∧ Hid (ls ++ getL (fs.drop k) nm = getL fs nm) ∧ ls.length ≤ k ∧ Below w.heap.size w wr) (fun _ c _ => fs.length - (intOf c).toNat)
    case atStart => exact ⟨0, [], Nat.zero_le _, rfl, o0, by show _ = _; rfl, Nat.le_refl _, b0⟩
    case round =>
      obtain ⟨k, ls, hk, rfl, hown, hls, hlk, hB⟩ := hrel
      have hzr := hB.size
      by_cases hlt : k < fs.length
      · obtain ⟨f, hfk⟩ : ∃ f, fs[k]? = some f := ⟨_, List.getElem?_eq_getElem hlt⟩
        obtain ⟨_, _, hcells⟩ := (HA.out.below hB).at hne
        obtain ⟨c0, c1, c2, c3⟩ := hcells k f hfk
        have hfn : f.name.length ≤ 1099511627776 := by have := HF.out f (List.mem_of_getElem? hfk); omega
        have hls' := hls.out
        rw [List.drop_eq_getElem_cons hlt, (List.getElem?_eq_some_iff.1 hfk).2, getL_cons] at hls'
        have HLS := Lib.hid hls'
        have HFN := Lib.hid hfn
        have hlt' : (k : Int) < fs.length := by omega
        clear hcells hls' hls hfk hfn
        go_wp2_with fail
        refine (refSmall_any f.name _ HFN.out).mono ?_
        rintro e w1 ⟨rfl, hb1⟩
        go_wp2_with fail
        refine (refSmall_any nm _ HN.out).mono ?_
        rintro e w2 ⟨rfl, hb2⟩
        have hbb := hb1.trans (hb2.mono hb1.size)
        have d1 : w2.cell? ⟨wr.heap.size, 1, none⟩ = some (.string (bs f.value)) := by
          exact (hbb.cell (p := ⟨wr.heap.size, 1, none⟩) (by rw [size_alloc]; exact Nat.lt_succ_self _)).trans (row_cell (heap_new wr _) rfl)
        have hB1 : Below w.heap.size w w2 := (hB.alloc hzr _).trans (hbb.mono (by simp; omega))
        have hown1 : OwnS w2 w.heap.size _ ls := OwnS.over hown ((Below.refl _ wr).alloc (Nat.le_refl _) _ |>.trans (hbb.mono (by simp)))
        rcases hs : (lowL f.name == lowL nm) with _ | _
        · have hl2 := HLS.out
          rw [hs] at hl2
          simp only [Bool.false_eq_true, if_false] at hl2
          have HL2 := Lib.hid hl2

          clear hl2 HLS d1 hb1 hb2 hbb
          go_wp2
          go_roundw
          case rel => exact ⟨k + 1, ls, by omega, by go_num, hown1, HL2.out, by omega, hB1⟩
          case measure => simp [intOf]; omega
        · have hl2 := HLS.out
          rw [hs] at hl2
          simp only [if_true] at hl2
          have HL2 := Lib.hid hl2

          clear hl2 HLS hb1 hb2 hbb
          go_wp2_with (at_builtin; refine wpList_append_own _ rfl _ _ 22 rfl w.heap.size 9 i0 (.string ⟨#[]⟩) 1 16 Tryd.underlying22 hi hz0 hz1 hz2 rfl (by decide) _ _ _ rfl (World.ownsRow.alloc hown1 _) ⟨w2.heap.size, 0, none⟩ 1 1 [.string (bs f.value)] rfl rfl ?e1 ?e2 ?e3 ?e4 ?e5 ?_)
          case e1 =>
            intro j u hj
            match j, hj with
            | 0, hj => simp at hj; subst hj; simp [Addr.add]
          case e2 => intro u hu; simp at hu; subst hu; rfl
          case e3 => unfold maxLen; omega
          case e4 => have := hB1.size; omega
          case e5 => have := hB1.size; simp; omega
          intro v' w3 hown' hgrow _
          have R1 : OwnS w3 w.heap.size v' (ls ++ [f.value]) := OwnS.step hown'
          have R2 : Below w.heap.size w w3 := (hB1.alloc hB1.size _).grown hgrow (by have := hB1.size; simp; omega) (fun k e => (World.ownsRow.lt hown1 k e).1)
          have R3 : Hid ((ls ++ [f.value]) ++ getL (fs.drop (k + 1)) nm = getL fs nm) := by
            show _ = _
            rw [← HL2.out]; simp
          clear hown' hgrow hown1 HL2
          go_wp2
          go_roundw
          case rel => exact ⟨k + 1, ls ++ [f.value], by omega, by go_num, R1, R3, by simp; omega, R2⟩
          case measure => simp [intOf]; omega
      · obtain rfl : k = fs.length := by omega
        have hl2 := hls.out
        rw [List.drop_length] at hl2
        have hl3 : ls = getL fs nm := by rw [← hl2]; simp [getL]
        clear hl2 hls
        subst hl3
        go_wp2
        go_ret
        exact ⟨_, rfl, hown, hB⟩

end Go.Proofs.YtplmekfcnggigaaDoor
