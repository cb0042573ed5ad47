/- The reference's lines: Split, Same; lines.Join. -/
import Derived.Test.YtcjnpklmfcbofaaDoorSp
import Derived.BigRegion
import Derived.LoopTactic
set_option linter.unusedVariables false
set_option linter.unusedSimpArgs false
namespace Go.Proofs.YtcjnpklmfcbofaaDoor
open Go.RowKit Go

theorem lines_at {s : List UInt8} {f k : Nat} (hf : f ≤ k) (hk : s[k]? = some 10) (hn : ∀ j, f ≤ j → j < k → s[j]? ≠ some 10) : linesOf (s.drop f) = ((s.drop f).take (k + 1 - f)) :: linesOf (s.drop (k + 1)) := by
  obtain ⟨hlt, hk'⟩ := List.getElem?_eq_some_iff.1 hk
  have e : s.drop f = (s.drop f).take (k - f) ++ 10 :: s.drop (k + 1) := by
    conv => lhs; rw [← List.take_append_drop (k - f) (s.drop f)]
    rw [List.drop_drop, show f + (k - f) = k by omega, List.drop_eq_getElem_cons hlt, hk']
  have ha : ∀ c ∈ (s.drop f).take (k - f), c ≠ 10 := by
    intro c hc h10
    subst h10
    obtain ⟨j, hj, hjc⟩ := List.mem_iff_getElem.1 hc
    simp only [List.length_take, List.length_drop] at hj
    refine hn (f + j) (by omega) (by omega) ?_
    simp only [List.getElem_take, List.getElem_drop] at hjc
    exact List.getElem?_eq_some_iff.2 ⟨by omega, hjc⟩
  have hl : ((s.drop f).take (k - f)).length = k - f := by simp; omega
  have ht : (s.drop f).take (k + 1 - f) = (s.drop f).take (k - f) ++ [10] := by
    conv => lhs; rw [e, show (s.drop f).take (k - f) ++ 10 :: s.drop (k + 1) = ((s.drop f).take (k - f) ++ [10]) ++ s.drop (k + 1) by simp]
    exact List.take_left' (by simp only [List.length_append, hl, List.length_singleton]; omega)
  rw [ht, ← linesOf_nl _ _ ha, ← e]
theorem lines_tail {s : List UInt8} {f : Nat} (hf : f < s.length) (hn : ∀ j, f ≤ j → j < s.length → s[j]? ≠ some 10) : linesOf (s.drop f) = [s.drop f] := by
  refine linesOf_end _ (fun c hc h10 => ?_) (by intro e; have := congrArg List.length e; simp at this; omega)
  subst h10
  obtain ⟨j, hj, hjc⟩ := List.mem_iff_getElem.1 hc
  simp only [List.length_drop] at hj
  refine hn (f + j) (by omega) (by omega) ?_
  simp only [List.getElem_drop] at hjc
  exact List.getElem?_eq_some_iff.2 ⟨by omega, hjc⟩

theorem OwnS.below {B : Nat} {u w w' : World} {v : Value} {l : List (List UInt8)} (hb : Below B u w) (h : OwnS w B v l) (hg : w.grownBy w' v.ownBlock) (hB : B ≤ w.heap.size) : Below B u w' :=
  hb.grown hg hB (fun k e => (World.ownsRow.lt h k e).1)

set_option maxRecDepth 100000 in
set_option maxHeartbeats 2000000 in
theorem refSplit_any (s : List UInt8) (w : World) (hs : s.length ≤ 1099511627776) : Calls Tryd.prog 29 #[.string (bs s)] w (Strs w.heap.size (linesOf s) w) := by
  obtain ⟨i0, hi, hz0, hz1, hz2⟩ := info_parts info_str
  go_enter Tryd.func29, Tryd.ntmps29
  go_wp2
  go_loopw [3, 4, 5] (fun out fr i wr => ∃ (k f : Nat) (ls : List (List UInt8)), k ≤ s.length ∧ f ≤ k ∧ i = .int .i64 k ∧ fr = .int .i64 f ∧ OwnS wr w.heap.size out ls ∧ Hid (ls ++ linesOf (s.drop f) = linesOf s) ∧ Hid (∀ j, f ≤ j → j < k → s[j]? ≠ some 10) ∧ ls.length ≤ k ∧ Below w.heap.size w wr) (fun _ _ i _ => s.length - (intOf i).toNat)
  case atStart => exact ⟨0, 0, [], Nat.zero_le _, Nat.le_refl _, rfl, rfl, World.ownsRow_lit w #[] 0 (Nat.le_refl _) (by decide) rfl, by show _ = _; simp, by intro j h1 h2; omega, Nat.zero_le _, (Below.refl _ _).alloc (Nat.le_refl _) _⟩
  case round =>
    obtain ⟨k, f, ls, hk, hfk, rfl, rfl, hown, hls, hno, hlk, hB⟩ := hrel
    have hzr := hB.size
    by_cases hlt : k < s.length
    · obtain ⟨c, hc⟩ : ∃ c, (bs s)[k]'(by rw [bs_size]; exact hlt) = c := ⟨_, rfl⟩
      have hc' : s[k]? = some c := List.getElem?_eq_some_iff.2 ⟨hlt, hc⟩
      have HC := Lib.hid hc'
      clear hc'
      by_cases h10 : c = 10
      · subst h10
        have hm := run_mid s f (k + 1) (by omega) (by omega)
        rw [show ((k + 1 : Nat) : Int) = (k : Int) + 1 by simp] at hm
        obtain ⟨x, hx⟩ : ∃ x, (s.drop f).take (k + 1 - f) = x := ⟨_, rfl⟩
        rw [hx] at hm
        have HX := Lib.hid hx
        clear hx
        go_wp2_with (at_builtin; refine wpList_append_own _ rfl _ _ 22 rfl w.heap.size 9 i0 (.string ⟨#[]⟩) 1 16 Tryd.underlying22 hi hz0 hz1 hz2 rfl (by decide) _ _ _ rfl (World.ownsRow.alloc hown _) ⟨wr.heap.size, 0, none⟩ 1 1 [.string (bs x)] rfl rfl ?c1 ?c2 ?c3 ?c4 ?c5 ?_)
        case c1 =>
          intro j u hj
          match j, hj with
          | 0, hj => simp at hj; subst hj; simp [Addr.add]
        case c2 => intro u hu; simp at hu; subst hu; rfl
        case c3 => unfold maxLen; omega
        case c4 => omega
        case c5 => simp; omega
        intro v' w2 hown' hgrow _
        have R1 : OwnS w2 w.heap.size v' (ls ++ [x]) := OwnS.step hown'
        have R2 : Below w.heap.size w w2 := (hB.alloc hzr _).grown hgrow (by simp; omega) (fun k e => (World.ownsRow.lt hown k e).1)
        have R3 : Hid ((ls ++ [x]) ++ linesOf (s.drop (k + 1)) = linesOf s) := by
          show _ = _
          have := hls.out
          rw [lines_at hfk HC.out hno.out, HX.out] at this
          rw [← this]; simp
        clear hown' hgrow hown hm hc
        go_wp2
        go_roundw
        case rel => exact ⟨k + 1, k + 1, ls ++ [x], by omega, by omega, by go_num, by go_num, R1, R3, by intro j h1 h2; omega, by simp; omega, R2⟩
        case measure => simp [intOf]; omega
      · have hne : ((c.toNat : Int) == 10) = false := by
          simp
          intro e
          exact h10 (UInt8.toNat_inj.1 (by rw [show (10 : UInt8).toNat = 10 from rfl]; omega))
        go_wp2
        go_roundw
        case rel =>
          refine ⟨k + 1, f, ls, by omega, by omega, by go_num, rfl, hown, hls, ?_, by omega, hB⟩
          intro j h1 h2
          rcases Nat.lt_or_ge j k with h3 | h3
          · exact hno.out j h1 h3
          · obtain rfl : j = k := by omega
            rw [HC.out]
            intro e
            exact h10 (Option.some.inj e)
        case measure => simp [intOf]; omega
    · obtain rfl : k = s.length := by omega
      by_cases hfl : f < s.length
      · have hm := run_from s f hfk
        obtain ⟨x, hx⟩ : ∃ x, s.drop f = x := ⟨_, rfl⟩
        rw [hx] at hm
        have HX := Lib.hid hx
        clear hx
        go_wp2_with (at_builtin; refine wpList_append_own _ rfl _ _ 22 rfl w.heap.size 9 i0 (.string ⟨#[]⟩) 1 16 Tryd.underlying22 hi hz0 hz1 hz2 rfl (by decide) _ _ _ rfl (World.ownsRow.alloc hown _) ⟨wr.heap.size, 0, none⟩ 1 1 [.string (bs x)] rfl rfl ?d1 ?d2 ?d3 ?d4 ?d5 ?_)
        case d1 =>
          intro j u hj
          match j, hj with
          | 0, hj => simp at hj; subst hj; simp [Addr.add]
        case d2 => intro u hu; simp at hu; subst hu; rfl
        case d3 => unfold maxLen; omega
        case d4 => omega
        case d5 => simp; omega
        intro v' w2 hown' hgrow _
        have R1 : OwnS w2 w.heap.size v' (ls ++ [x]) := OwnS.step hown'
        have R2 : Below w.heap.size w w2 := (hB.alloc hzr _).grown hgrow (by simp; omega) (fun k e => (World.ownsRow.lt hown k e).1)
        have R3 : ls ++ [x] = linesOf s := by
          have := hls.out
          rw [lines_tail hfl hno.out, HX.out] at this
          exact this
        rw [R3] at R1
        clear hown' hgrow hown hm
        go_wp2
        go_ret
        exact ⟨_, rfl, R1, R2⟩
      · have R3 : ls = linesOf s := by
          have := hls.out
          rw [List.drop_eq_nil_of_le (by omega), linesOf_nil, List.append_nil] at this
          exact this
        rw [R3] at hown
        go_wp2
        go_ret
        exact ⟨_, rfl, hown, hB⟩

end Go.Proofs.YtcjnpklmfcbofaaDoor
