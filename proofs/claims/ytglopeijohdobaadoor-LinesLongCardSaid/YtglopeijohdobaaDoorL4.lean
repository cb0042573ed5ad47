/- The law LinesLong: its walk. -/
import Derived.Test.YtglopeijohdobaaDoorL3
namespace Go.Proofs.YtglopeijohdobaaDoor
open Go.RowKit

theorem info_u8 : (Tryd.prog.info? 5).map (fun i => (i.zero, i.size, i.bytes)) = some (some (.int .u8 0), 1, 1) := by kernel_rfl

/-- bytes as cells -/
def cellsB (l : List UInt8) : List Value := l.map fun c => .int .u8 ((c.toNat : Nat) : Int)
theorem cellsB_length (l : List UInt8) : (cellsB l).length = l.length := by simp [cellsB]
theorem cellsB_append (a b : List UInt8) : cellsB (a ++ b) = cellsB a ++ cellsB b := by simp [cellsB]

/-- a slice of bytes that the call itself made -/
def OwnB (w : World) (base : Nat) (v : Value) (l : List UInt8) : Prop := w.ownsRow base 5 1 v l.length (cellsB l)

theorem OwnB.bytes {w : World} {base : Nat} {v : Value} {l : List UInt8} (h : OwnB w base v l) : BytesAt w v l := by
  rcases h.2 with ⟨rfl, h0⟩ | ⟨g, cap, cur, rfl, _, hg, _, _, _, ht⟩
  · exact Or.inl ⟨rfl, List.eq_nil_of_length_eq_zero h0⟩
  · refine Or.inr ⟨g, 0, cap, rfl, fun i hi => ?_⟩
    have e : (cellsB l)[i]? = some (.int .u8 (l.getD i 0).toNat) := by simp [cellsB, hi]
    rw [← ht, List.getElem?_take, if_pos (by omega)] at e
    simp only [World.cell?, hg, Nat.zero_add]
    simpa using e

theorem mod_2100 (n : Int) : ∃ N : Nat, N < 2100 ∧ wrap64 ((IntKind.u64.wrap n).tmod 2100) = (N : Int) := by
  rw [IntKind.wrap_u64, Int.tmod_eq_emod_of_nonneg (by omega)]
  exact ⟨(n % 18446744073709551616 % 2100).toNat, by omega, by unfold wrap64; omega⟩

theorem OwnB.step {w' : World} {base : Nat} {v' : Value} {l : List UInt8} {c : UInt8} (h : w'.ownsRow base 5 1 v' (l.length + 1) (cellsB l ++ [.int .u8 ((c.toNat : Nat) : Int)])) : OwnB w' base v' (l ++ [c]) := by
  unfold OwnB
  rw [cellsB_append, List.length_append]
  exact h

theorem OwnB.form {w : World} {base : Nat} {v : Value} {l : List UInt8} (h : OwnB w base v l) : ∃ a n cap, v = .slice a n cap ∧ Hid (n = l.length) := by
  rcases h.2 with ⟨rfl, h0⟩ | ⟨g, cap, cur, rfl, _, _, _, _, _, _⟩
  · exact ⟨none, 0, 0, rfl, h0.symm⟩
  · exact ⟨_, _, _, rfl, rfl⟩

theorem trim_x (m : Nat) : Lib.trimSuffix (List.replicate m 120) [13] = List.replicate m 120 := by
  unfold Lib.trimSuffix Lib.hasSuffix
  rw [if_neg]
  intro h
  obtain ⟨t, ht⟩ := List.isSuffixOf_iff_suffix.1 h
  have : (13 : UInt8) ∈ List.replicate m 120 := by rw [← ht]; simp
  rw [List.mem_replicate] at this
  exact absurd this.2 (by decide)
theorem trim_xr (m : Nat) : Lib.trimSuffix (List.replicate m 120 ++ [13]) [13] = List.replicate m 120 := by
  unfold Lib.trimSuffix Lib.hasSuffix
  rw [if_pos (List.isSuffixOf_iff_suffix.2 ⟨_, rfl⟩)]
  simp

theorem OwnB.below {B : Nat} {u w w' : World} {v : Value} {l : List UInt8} (hb : Below B u w) (h : OwnB w B v l) (hg : w.grownBy w' v.ownBlock) (hB : B ≤ w.heap.size) : Below B u w' :=
  hb.grown hg hB (fun k e => (World.ownsRow.lt h k e).1)

set_option maxRecDepth 100000 in
set_option maxHeartbeats 2000000 in
theorem linesLong_any (n : Int) (ended : Bool) (w : World) : Calls Tryd.prog 4 #[.int .i64 n, .bool ended] w fun e w' => e = .returned (.bool true) ∧ Below w.heap.size w w' := by
  obtain ⟨i0, hi, hz0, hz1, hz2⟩ := info_parts info_u8
  obtain ⟨N, hN, eN⟩ := mod_2100 n
  have EN := Lib.hid eN
  clear eN
  go_enter Tryd.func4, Tryd.ntmps4
  go_wp2_with (go_at_call 7; refine (alive_any _).mono ?_; rintro e w1 ⟨rfl, hb1⟩)
  rw [EN.out]
  have hz1' := hb1.size
  go_loopw [5, 20] (fun v i wr => ∃ m : Nat, m ≤ N ∧ i = .int .i64 m ∧ OwnB wr w.heap.size v (List.replicate m 120) ∧ Below w.heap.size w wr) (fun _ i _ => N - (intOf i).toNat)
  case atStart => exact ⟨0, Nat.zero_le _, rfl, World.ownsRow_lit w1 #[] 0 hz1' (by decide) rfl, hb1.alloc hz1' _⟩
  case round =>
    obtain ⟨m, hm, rfl, hown, hb⟩ := hrel
    have hzr := hb.size
    by_cases hlt : m < N
    · go_wp2_with (at_builtin; refine wpList_append_own _ rfl _ _ 22 rfl w.heap.size 5 i0 (.int .u8 0) 1 1 Tryd.underlying22 hi hz0 hz1 hz2 rfl (by decide) _ _ _ rfl (World.ownsRow.alloc hown _) ⟨wr.heap.size, 0, none⟩ 1 1 [.int .u8 120] rfl rfl ?c1 ?c2 ?c3 ?c4 ?c5 ?_)
      case c1 =>
        intro j u hj
        match j, hj with
        | 0, hj => simp at hj; subst hj; simp [Addr.add]
      case c2 => intro u hu; simp at hu; subst hu; rfl
      case c3 => simp; unfold maxLen; omega
      case c4 => simp; omega
      case c5 => simp; omega
      intro v' w2 hown' hgrow _
      have R1 : OwnB w2 w.heap.size v' (List.replicate (m + 1) 120) := by
        have := OwnB.step (l := List.replicate m 120) (c := 120) (by simpa using hown')
        rwa [← List.replicate_succ'] at this
      have R2 : Below w.heap.size w w2 := (hb.alloc hzr _).grown hgrow (by simp; omega) (fun k e => (World.ownsRow.lt hown k e).1)
      clear hown' hgrow hown
      go_wp2
      go_roundw
      case rel => exact ⟨m + 1, by omega, by go_num, R1, R2⟩
      case measure => simp [intOf]; omega
    · obtain rfl : m = N := by omega
      have hcv := convert_bytes hown.bytes
      cases ended
      · go_wp2_with fail
        have hzW := hb.size
        have hLl : (List.replicate m (120 : UInt8)).length ≤ 2100 := by simp; omega
        have hno : ∀ c ∈ (List.replicate m (120 : UInt8)), c ≠ 10 := by
          intro c hc
          rw [List.mem_replicate] at hc; rw [hc.2]; decide
        refine (new_any _).mono ?_
        rintro e wn ⟨rfl, rfl⟩
        go_wp2_with (at_builtin; refine wpList_append_own _ rfl _ _ 22 rfl w.heap.size 5 i0 (.int .u8 0) 1 1 Tryd.underlying22 hi hz0 hz1 hz2 rfl (by decide) _ _ _ rfl (World.ownsRow.alloc (World.ownsRow.alloc hown _) _) ⟨wr.heap.size + 1, 0, none⟩ 1 1 [.int .u8 10] rfl rfl ?c1 ?c2 ?c3 ?c4 ?c5 ?_)
        case c1 =>
          intro j u hj
          match j, hj with
          | 0, hj => simp at hj; subst hj; simp [Addr.add]
        case c2 => intro u hu; simp at hu; subst hu; rfl
        case c3 => unfold maxLen; omega
        case c4 => omega
        case c5 => simp; omega
        intro v' w3 hown' hgrow _
        have ho3 : OwnB w3 w.heap.size v' ((List.replicate m (120 : UInt8)) ++ [10]) := OwnB.step (l := List.replicate m (120 : UInt8)) (c := 10) (by simpa using hown')
        have hlt3 := World.ownsRow.lt hown
        have hk3 : RdAt w3 wr.heap.size [] 0 := (hgrow.block _ (by simp; omega) (fun e => by have := (hlt3 _ e.symm).2; omega)).trans ((heap_old _ _ _ (by simp)).trans (heap_new _ _))
        have hb3 : Below w.heap.size w w3 := ((hb.alloc hzW _).alloc (by simp; omega) _).grown hgrow (by simp; omega) (fun k e => (hlt3 k e).1)
        have hz3 := hb3.size
        have hs3 := hgrow.size
        simp only [World.size_alloc] at hs3
        obtain ⟨va, vn, vc, rfl, Hvn⟩ := OwnB.form hown
        clear hown' hgrow hown hlt3
        go_wp2_with fail
        refine (put_any _ wr.heap.size [] 0 _ _ hk3 ho3.bytes (by simp; omega)).mono ?_
        rintro e w4 ⟨rfl, hk4, u4⟩
        have hb4 : Below w.heap.size w w4 := hb3.trans (u4.below hzW hz3)
        have hz4 := hb4.size
        have hs4 := u4.size
        clear hk3 ho3 u4
        have kc := convert_const
        go_wp2_with fail
        clear kc
        refine (put_any _ wr.heap.size _ 0 _ [110, 101, 120, 116, 10] (hk4.alloc _) ?_ (by simp; omega)).mono ?_
        · refine bytes_at rfl (heap_new _ _) ?_
          intro i hi
          rcases (by simp at hi; omega : i = 0 ∨ i = 1 ∨ i = 2 ∨ i = 3 ∨ i = 4) with rfl | rfl | rfl | rfl | rfl <;> rfl
        rintro e w5 ⟨rfl, hk5, u5⟩
        have hs5 := u5.size
        simp only [World.size_alloc] at hs5
        have hb5 : Below w.heap.size w w5 := (hb4.alloc hz4 _).trans (u5.below hzW (by simp; omega))
        have hz5 := hb5.size
        clear hk4 u5
        have hcut : Hid (cutNl ([] ++ ((List.replicate m (120 : UInt8)) ++ [10]) ++ [110, 101, 120, 116, 10]) = some (List.replicate m (120 : UInt8), [110, 101, 120, 116, 10])) := by
          show _ = _
          have := cutNl_mk (List.replicate m (120 : UInt8)) [110, 101, 120, 116, 10] hno
          simpa using this
        have hlen5 : ([] ++ ((List.replicate m (120 : UInt8)) ++ [10]) ++ [110, 101, 120, 116, 10] : List UInt8).length ≤ 140737488355328 := by simp; omega
        have Hlen5 := Lib.hid hlen5
        clear hlen5 hno
        go_wp2_with fail
        refine (line_yes w5 wr.heap.size _ _ _ 0 hk5 hcut.out (by decide) Hlen5.out).mono ?_
        rintro e w6 ⟨rfl, hk6, u6⟩
        have hs6 := u6.size
        have hb6 : Below w.heap.size w w6 := hb5.trans (u6.below hzW hz5)
        have hz6 := hb6.size
        have lt6 := hk6.lt
        clear hk5 u6 hcut Hlen5
        by_cases hlong : (List.replicate m (120 : UInt8)).length > 1000
        · rw [show lineText (List.replicate m (120 : UInt8)) = [] from by unfold lineText; rw [if_pos hlong], show lineLong (List.replicate m (120 : UInt8)) = true from by unfold lineLong; exact decide_eq_true hlong]
          have hvl : 1000 < vn := by have := Hvn.out; omega
          go_wp2_with fail
          refine (line_yes _ wr.heap.size _ [110, 101, 120, 116] [] 0 (hk6.alloc _) (by decide) (by decide) (by decide)).mono ?_
          rintro e w7 ⟨rfl, hk7, u7⟩
          rw [show lineText [110, 101, 120, 116] = [110, 101, 120, 116] from by decide, show lineLong [110, 101, 120, 116] = false from by decide]
          have hs7 := u7.size
          simp only [World.size_alloc] at hs7
          have l7 := (u7.block w6.heap.size (by simp) (by omega)).trans (heap_new _ _)
          have hb7 : Below w.heap.size w w7 := (hb6.alloc hz6 _).trans (u7.below hzW (by simp; omega))
          have l0 : ∀ o, (w7.alloc o).cell? ⟨w6.heap.size, 0, none⟩ = some (.string (bs ([]))) := fun o => cell_alloc (by simp [World.cell?, l7]) o
          have l1 : ∀ o, (w7.alloc o).cell? ⟨w6.heap.size, 1, none⟩ = some (.bool true) := fun o => cell_alloc (by simp [World.cell?, l7]) o
          have hz7 := hb7.size
          have hk8 := fun o => hk7.alloc o
          clear l7 u7 hk6 hk7
          go_wp2_with (go_at_call 11; refine (left_any _ wr.heap.size [] 0 (hk8 _) (by decide)).mono ?_; rintro e w9 ⟨rfl, rfl⟩)
          go_ret
          exact ⟨by simp, hb7.alloc hz7 _⟩
        · rw [show lineText (List.replicate m (120 : UInt8)) = List.replicate m 120 from by unfold lineText; rw [if_neg hlong]; exact trim_x m, show lineLong (List.replicate m (120 : UInt8)) = false from by unfold lineLong; exact decide_eq_false hlong]
          have hvl : vn ≤ 1000 := by have := Hvn.out; omega
          go_wp2_with fail
          refine (line_yes _ wr.heap.size _ [110, 101, 120, 116] [] 0 (hk6.alloc _) (by decide) (by decide) (by decide)).mono ?_
          rintro e w7 ⟨rfl, hk7, u7⟩
          rw [show lineText [110, 101, 120, 116] = [110, 101, 120, 116] from by decide, show lineLong [110, 101, 120, 116] = false from by decide]
          have hs7 := u7.size
          simp only [World.size_alloc] at hs7
          have l7 := (u7.block w6.heap.size (by simp) (by omega)).trans (heap_new _ _)
          have hb7 : Below w.heap.size w w7 := (hb6.alloc hz6 _).trans (u7.below hzW (by simp; omega))
          have l0 : ∀ o, (w7.alloc o).cell? ⟨w6.heap.size, 0, none⟩ = some (.string (bs (List.replicate m 120))) := fun o => cell_alloc (by simp [World.cell?, l7]) o
          have l1 : ∀ o, (w7.alloc o).cell? ⟨w6.heap.size, 1, none⟩ = some (.bool false) := fun o => cell_alloc (by simp [World.cell?, l7]) o
          have hz7 := hb7.size
          have hk8 := fun o => hk7.alloc o
          clear l7 u7 hk6 hk7
          go_wp2_with (go_at_call 11; refine (left_any _ wr.heap.size [] 0 (hk8 _) (by decide)).mono ?_; rintro e w9 ⟨rfl, rfl⟩)
          go_ret
          exact ⟨by simp, hb7.alloc hz7 _⟩
      · go_wp2_with (at_builtin; refine wpList_append_own _ rfl _ _ 22 rfl w.heap.size 5 i0 (.int .u8 0) 1 1 Tryd.underlying22 hi hz0 hz1 hz2 rfl (by decide) _ _ _ rfl (World.ownsRow.alloc hown _) ⟨wr.heap.size, 0, none⟩ 1 1 [.int .u8 13] rfl rfl ?c1 ?c2 ?c3 ?c4 ?c5 ?_)
        case c1 =>
          intro j u hj
          match j, hj with
          | 0, hj => simp at hj; subst hj; simp [Addr.add]
        case c2 => intro u hu; simp at hu; subst hu; rfl
        case c3 => simp; unfold maxLen; omega
        case c4 => simp; omega
        case c5 => simp; omega
        intro v2 w2 hown2 hgrow2 _
        have hownN : OwnB w2 w.heap.size v2 (List.replicate m 120 ++ [13]) := OwnB.step (l := List.replicate m 120) (c := 13) (by simpa using hown2)
        have hbN : Below w.heap.size w w2 := (hb.alloc hzr _).grown hgrow2 (by simp; omega) (fun k e => (World.ownsRow.lt hown k e).1)
        clear hown2 hgrow2 hown hb hcv hzr
        have hown := hownN
        have hb := hbN
        clear hownN hbN
        go_wp2_with fail
        have hzW := hb.size
        have hLl : (List.replicate m (120 : UInt8) ++ [13]).length ≤ 2100 := by simp; omega
        have hno : ∀ c ∈ (List.replicate m (120 : UInt8) ++ [13]), c ≠ 10 := by
          intro c hc
          rcases List.mem_append.1 hc with h | h
          · rw [List.mem_replicate] at h; rw [h.2]; decide
          · rw [List.mem_singleton] at h; rw [h]; decide
        refine (new_any _).mono ?_
        rintro e wn ⟨rfl, rfl⟩
        go_wp2_with (at_builtin; refine wpList_append_own _ rfl _ _ 22 rfl w.heap.size 5 i0 (.int .u8 0) 1 1 Tryd.underlying22 hi hz0 hz1 hz2 rfl (by decide) _ _ _ rfl (World.ownsRow.alloc (World.ownsRow.alloc hown _) _) ⟨w2.heap.size + 1, 0, none⟩ 1 1 [.int .u8 10] rfl rfl ?c1 ?c2 ?c3 ?c4 ?c5 ?_)
        case c1 =>
          intro j u hj
          match j, hj with
          | 0, hj => simp at hj; subst hj; simp [Addr.add]
        case c2 => intro u hu; simp at hu; subst hu; rfl
        case c3 => unfold maxLen; omega
        case c4 => omega
        case c5 => simp; omega
        intro v' w3 hown' hgrow _
        have ho3 : OwnB w3 w.heap.size v' ((List.replicate m (120 : UInt8) ++ [13]) ++ [10]) := OwnB.step (l := List.replicate m (120 : UInt8) ++ [13]) (c := 10) (by simpa using hown')
        have hlt3 := World.ownsRow.lt hown
        have hk3 : RdAt w3 w2.heap.size [] 0 := (hgrow.block _ (by simp; omega) (fun e => by have := (hlt3 _ e.symm).2; omega)).trans ((heap_old _ _ _ (by simp)).trans (heap_new _ _))
        have hb3 : Below w.heap.size w w3 := ((hb.alloc hzW _).alloc (by simp; omega) _).grown hgrow (by simp; omega) (fun k e => (hlt3 k e).1)
        have hz3 := hb3.size
        have hs3 := hgrow.size
        simp only [World.size_alloc] at hs3
        obtain ⟨va, vn, vc, rfl, Hvn⟩ := OwnB.form hown
        clear hown' hgrow hown hlt3
        go_wp2_with fail
        refine (put_any _ w2.heap.size [] 0 _ _ hk3 ho3.bytes (by simp; omega)).mono ?_
        rintro e w4 ⟨rfl, hk4, u4⟩
        have hb4 : Below w.heap.size w w4 := hb3.trans (u4.below hzW hz3)
        have hz4 := hb4.size
        have hs4 := u4.size
        clear hk3 ho3 u4
        have kc := convert_const
        go_wp2_with fail
        clear kc
        refine (put_any _ w2.heap.size _ 0 _ [110, 101, 120, 116, 10] (hk4.alloc _) ?_ (by simp; omega)).mono ?_
        · refine bytes_at rfl (heap_new _ _) ?_
          intro i hi
          rcases (by simp at hi; omega : i = 0 ∨ i = 1 ∨ i = 2 ∨ i = 3 ∨ i = 4) with rfl | rfl | rfl | rfl | rfl <;> rfl
        rintro e w5 ⟨rfl, hk5, u5⟩
        have hs5 := u5.size
        simp only [World.size_alloc] at hs5
        have hb5 : Below w.heap.size w w5 := (hb4.alloc hz4 _).trans (u5.below hzW (by simp; omega))
        have hz5 := hb5.size
        clear hk4 u5
        have hcut : Hid (cutNl ([] ++ ((List.replicate m (120 : UInt8) ++ [13]) ++ [10]) ++ [110, 101, 120, 116, 10]) = some (List.replicate m (120 : UInt8) ++ [13], [110, 101, 120, 116, 10])) := by
          show _ = _
          have := cutNl_mk (List.replicate m (120 : UInt8) ++ [13]) [110, 101, 120, 116, 10] hno
          simpa using this
        have hlen5 : ([] ++ ((List.replicate m (120 : UInt8) ++ [13]) ++ [10]) ++ [110, 101, 120, 116, 10] : List UInt8).length ≤ 140737488355328 := by simp; omega
        have Hlen5 := Lib.hid hlen5
        clear hlen5 hno
        go_wp2_with fail
        refine (line_yes w5 w2.heap.size _ _ _ 0 hk5 hcut.out (by decide) Hlen5.out).mono ?_
        rintro e w6 ⟨rfl, hk6, u6⟩
        have hs6 := u6.size
        have hb6 : Below w.heap.size w w6 := hb5.trans (u6.below hzW hz5)
        have hz6 := hb6.size
        have lt6 := hk6.lt
        clear hk5 u6 hcut Hlen5
        by_cases hlong : (List.replicate m (120 : UInt8) ++ [13]).length > 1000
        · rw [show lineText (List.replicate m (120 : UInt8) ++ [13]) = [] from by unfold lineText; rw [if_pos hlong], show lineLong (List.replicate m (120 : UInt8) ++ [13]) = true from by unfold lineLong; exact decide_eq_true hlong]
          have hvl : 1000 < vn := by have := Hvn.out; omega
          go_wp2_with fail
          refine (line_yes _ w2.heap.size _ [110, 101, 120, 116] [] 0 (hk6.alloc _) (by decide) (by decide) (by decide)).mono ?_
          rintro e w7 ⟨rfl, hk7, u7⟩
          rw [show lineText [110, 101, 120, 116] = [110, 101, 120, 116] from by decide, show lineLong [110, 101, 120, 116] = false from by decide]
          have hs7 := u7.size
          simp only [World.size_alloc] at hs7
          have l7 := (u7.block w6.heap.size (by simp) (by omega)).trans (heap_new _ _)
          have hb7 : Below w.heap.size w w7 := (hb6.alloc hz6 _).trans (u7.below hzW (by simp; omega))
          have l0 : ∀ o, (w7.alloc o).cell? ⟨w6.heap.size, 0, none⟩ = some (.string (bs ([]))) := fun o => cell_alloc (by simp [World.cell?, l7]) o
          have l1 : ∀ o, (w7.alloc o).cell? ⟨w6.heap.size, 1, none⟩ = some (.bool true) := fun o => cell_alloc (by simp [World.cell?, l7]) o
          have hz7 := hb7.size
          have hk8 := fun o => hk7.alloc o
          clear l7 u7 hk6 hk7
          go_wp2_with (go_at_call 11; refine (left_any _ w2.heap.size [] 0 (hk8 _) (by decide)).mono ?_; rintro e w9 ⟨rfl, rfl⟩)
          go_ret
          exact ⟨by simp, hb7.alloc hz7 _⟩
        · rw [show lineText (List.replicate m (120 : UInt8) ++ [13]) = List.replicate m 120 from by unfold lineText; rw [if_neg hlong]; exact trim_xr m, show lineLong (List.replicate m (120 : UInt8) ++ [13]) = false from by unfold lineLong; exact decide_eq_false hlong]
          have hvl : vn ≤ 1000 := by have := Hvn.out; omega
          go_wp2_with fail
          refine (line_yes _ w2.heap.size _ [110, 101, 120, 116] [] 0 (hk6.alloc _) (by decide) (by decide) (by decide)).mono ?_
          rintro e w7 ⟨rfl, hk7, u7⟩
          rw [show lineText [110, 101, 120, 116] = [110, 101, 120, 116] from by decide, show lineLong [110, 101, 120, 116] = false from by decide]
          have hs7 := u7.size
          simp only [World.size_alloc] at hs7
          have l7 := (u7.block w6.heap.size (by simp) (by omega)).trans (heap_new _ _)
          have hb7 : Below w.heap.size w w7 := (hb6.alloc hz6 _).trans (u7.below hzW (by simp; omega))
          have l0 : ∀ o, (w7.alloc o).cell? ⟨w6.heap.size, 0, none⟩ = some (.string (bs (List.replicate m 120))) := fun o => cell_alloc (by simp [World.cell?, l7]) o
          have l1 : ∀ o, (w7.alloc o).cell? ⟨w6.heap.size, 1, none⟩ = some (.bool false) := fun o => cell_alloc (by simp [World.cell?, l7]) o
          have hz7 := hb7.size
          have hk8 := fun o => hk7.alloc o
          clear l7 u7 hk6 hk7
          go_wp2_with (go_at_call 11; refine (left_any _ w2.heap.size [] 0 (hk8 _) (by decide)).mono ?_; rintro e w9 ⟨rfl, rfl⟩)
          go_ret
          exact ⟨by simp, hb7.alloc hz7 _⟩


end Go.Proofs.YtglopeijohdobaaDoor
