/- section: right and Parse at the law's example; alive. -/
import Derived.Test.YtgkbigbekmkobaaGreatDoorK2
set_option linter.unusedVariables false
set_option linter.unusedSimpArgs false
namespace Go.Proofs.YtgkbigbekmkobaaGreatDoor
open Go.RowKit

theorem number_k (c : UInt8) (k : Int) (w : World) (h1 : 49 ≤ c.toNat) (h2 : c.toNat ≤ 57) (hk : (c.toNat : Int) - 48 = k) : Calls Tryz.prog 14 #[.string (bs [c])] w fun e w' => e = .returned (.int .i64 k) ∧ Below w.heap.size w w' := by
  have := number_one c w h1 h2
  rwa [hk] at this
theorem number_mime (w : World) : Calls Tryz.prog 14 #[.string (bs [109, 105, 109, 101])] w fun e w' => e = .returned (.int .i64 0) ∧ Below w.heap.size w w' := by
  obtain ⟨c, t, h, hc⟩ := number_long [109, 105, 109, 101] w (by decide)
  obtain ⟨rfl, rfl⟩ := List.cons.inj h
  exact hc (by decide)

set_option maxRecDepth 100000 in
set_option maxHeartbeats 1000000 in
theorem right_mime (v : Value) (ks : List Int) (w : World) (hv : IntsAt w v ks) (h1 : ks ≠ []) (h2 : ks.length ≤ 20) (hbad : ks.any badN = false) :
    Calls Tryz.prog 9 #[.agg #[v, .string (bs [77, 73, 77, 69]), .slice none 0 0]] w fun e w' => e = .returned (.bool true) ∧ Below w.heap.size w w' := by
  have HV := Lib.hid hv
  have HB := Lib.hid hbad
  obtain ⟨a, c, rfl, _⟩ := hv
  have hpos : 0 < ks.length := List.length_pos_iff.2 h1
  have H2 := Lib.hid h2
  have h2' : (ks.length : Int) ≤ 20 := by omega
  have hpos' : (0 : Int) < ks.length := by omega
  clear h1 hbad
  go_enter Tryz.func9, Tryz.ntmps9
  go_wp2_with fail
  refine (containsI_any _ ks _ (HV.out.below ((Below.refl _ _).alloc (Nat.le_refl _) _)) (by omega)).mono ?_
  rintro e w1 ⟨rfl, hb1⟩
  rw [HB.out]
  have hb : Below w.heap.size w w1 := ((Below.refl _ w).alloc (Nat.le_refl _) _).trans (hb1.mono (by simp))
  have hrow := (hb1.block w.heap.size (by simp)).trans (heap_new w _)
  have q0 : w1.cell? ⟨w.heap.size, 0, none⟩ = some (.slice a ks.length c) := by simp [World.cell?, hrow]
  have q1 : w1.cell? ⟨w.heap.size, 1, none⟩ = some (.string (bs [77, 73, 77, 69])) := by simp [World.cell?, hrow]
  have q2 : w1.cell? ⟨w.heap.size, 2, none⟩ = some (.slice none 0 0) := by simp [World.cell?, hrow]
  clear hrow hb1
  go_wp2
  go_ret
  exact ⟨by simp, hb⟩

/-- a Spec in its cells -/
def SpecAt (w : World) (g : Nat) (v : Value) (s : List UInt8) : Prop := w.heap[g]? = some (.cells #[v, .string (bs s), .slice none 0 0] 29 (0, 0))
theorem SpecAt.later {w w' : World} {g : Nat} {v : Value} {s : List UInt8} (h : SpecAt w g v s) (hb : Below w.heap.size w w') : SpecAt w' g v s :=
  (hb.block g (Array.getElem?_eq_some_iff.1 h).1).trans h
theorem SpecAt.cells {w : World} {g : Nat} {v : Value} {s : List UInt8} (h : SpecAt w g v s) : w.cell? ⟨g, 0, none⟩ = some v ∧ w.cell? ⟨g, 1, none⟩ = some (.string (bs s)) ∧ w.cell? ⟨g, 2, none⟩ = some (.slice none 0 0) ∧ w.frozen? ⟨g, 0, none⟩ = false ∧ w.frozen? ⟨g, 1, none⟩ = false ∧ w.frozen? ⟨g, 2, none⟩ = false := by
  unfold SpecAt at h
  refine ⟨?_, ?_, ?_, ?_, ?_, ?_⟩ <;> simp [World.cell?, World.frozen?, h]
theorem SpecAt.set0 {w : World} {g : Nat} {v : Value} {s : List UInt8} (h : SpecAt w g v s) (v' : Value) : SpecAt (w.setCell ⟨g, 0, none⟩ v') g v' s := by
  unfold SpecAt at *
  simp [World.setCell, Array.getElem?_modify, h]
theorem SpecAt.set1 {w : World} {g : Nat} {v : Value} {s : List UInt8} (h : SpecAt w g v s) (s' : List UInt8) : SpecAt (w.setCell ⟨g, 1, none⟩ (.string (bs s'))) g v s' := by
  unfold SpecAt at *
  simp [World.setCell, Array.getElem?_modify, h]
theorem SpecAt.set2 {w : World} {g : Nat} {v : Value} {s : List UInt8} (h : SpecAt w g v s) : SpecAt (w.setCell ⟨g, 2, none⟩ (.slice none 0 0)) g v s := by
  unfold SpecAt at *
  simp [World.setCell, Array.getElem?_modify, h]
theorem SpecAt.far {w : World} {g h : Nat} {v : Value} {s : List UInt8} (k : SpecAt w g v s) (hg : g ≠ h) (i : Nat) (x : Value) : SpecAt (w.setCell ⟨h, i, none⟩ x) g v s :=
  (Below.heap_setCell _ _ _ _ (by simpa using hg)).trans k
theorem SpecAt.lt {w : World} {g : Nat} {v : Value} {s : List UInt8} (h : SpecAt w g v s) : g < w.heap.size := (Array.getElem?_eq_some_iff.1 h).1

/-- where Parse's loop stands in "1.2.mime" -/
def St (q : Nat) (r : List UInt8) (l : List Int) : Prop := (q = 0 ∧ r = [49, 46, 50, 46, 109, 105, 109, 101] ∧ l = []) ∨ (q = 1 ∧ r = [50, 46, 109, 105, 109, 101] ∧ l = [1]) ∨ (q = 2 ∧ r = [109, 105, 109, 101] ∧ l = [1, 2])

set_option maxRecDepth 100000 in
set_option maxHeartbeats 4000000 in
theorem parse_mime (m : Int) (w : World) (hm : w.cell? ⟨2, 0, none⟩ = some (.int .i64 m)) :
    Calls Tryz.prog 7 #[.string (bs [49, 46, 50, 46, 109, 105, 109, 101])] w fun e w' => (∃ v, e = .returned (.tuple #[.agg #[v, .string (bs [77, 73, 77, 69]), .slice none 0 0], .nilIface]) ∧ IntsAt w' v [1, 2]) ∧ Below w.heap.size w w' := by
  obtain ⟨j0, ji, jz0, jz1, jz2⟩ := info_parts info_int
  have hlt := cell_lt hm
  have HM := Lib.hid hm
  clear hm
  go_enter Tryz.func7, Tryz.ntmps7
  go_wp2
  obtain ⟨w0, hw0⟩ : ∃ w0, (w.alloc (.cells #[.slice none 0 0, .string ⟨#[]⟩, .slice none 0 0] 29)).alloc (.cells #[.slice none 0 0, .string ⟨#[]⟩, .slice none 0 0] 29) = w0 := ⟨_, rfl⟩
  have s2 : SpecAt w0 w.heap.size (.slice none 0 0) [] := by rw [← hw0]; exact (heap_old _ _ _ (by simp)).trans (heap_new _ _)
  have s4 : SpecAt w0 (w.heap.size + 1) (.slice none 0 0) [] := by
    rw [← hw0, ← size_alloc w (.cells #[.slice none 0 0, .string ⟨#[]⟩, .slice none 0 0] 29)]
    exact heap_new _ _
  have b0 : Below w.heap.size w w0 := by rw [← hw0]; exact ((Below.refl _ _).alloc (Nat.le_refl _) _).alloc (by simp) _
  have z0 : w0.heap.size = w.heap.size + 2 := by rw [← hw0]; simp
  rw [hw0]
  clear hw0
  obtain ⟨g2, hg2⟩ : ∃ g, w.heap.size = g := ⟨_, rfl⟩
  rw [hg2] at s2 s4 z0 hlt b0 ⊢
  obtain ⟨g4, hg4⟩ : ∃ g, g2 + 1 = g := ⟨_, rfl⟩
  rw [hg4] at s4 ⊢
  go_loopw [5, 6] (fun x5 x6 wr => ∃ (q : Nat) (r : List UInt8) (l : List Int) (v : Value), St q r l ∧ x5 = .string (bs r) ∧ x6 = .bool true ∧ SpecAt wr g4 v [] ∧ SpecAt wr g2 (.slice none 0 0) [] ∧ OwnI wr (g2 + 2) v l ∧ Below g2 w wr) (fun x5 _ _ => match x5 with | .string x => x.size | _ => 0)
  case atStart => exact ⟨0, _, [], _, .inl ⟨rfl, rfl, rfl⟩, rfl, rfl, s4, s2, World.ownsRow_nil _ _ _ _, b0⟩
  case round =>
    clear s2 s4 b0 z0
    obtain ⟨q, r, l, v, hst, rfl, rfl, s4, s2, hown, hB⟩ := hrel
    have hzr := hB.size
    rw [hg2] at hzr
    have hz4 := s4.lt
    have hmr : wr.cell? ⟨2, 0, none⟩ = some (.int .i64 m) := (hB.cell (p := ⟨2, 0, none⟩) hlt).trans HM.out
    by_cases hq : q < 2
    · obtain ⟨c, k, t, hcut, hc1, hc2, hck, hst', htl⟩ : ∃ (c : UInt8) (k : Int) (t : List UInt8), Hid (Lib.cut r [46] = ([c], t, true)) ∧ 49 ≤ c.toNat ∧ c.toNat ≤ 57 ∧ (c.toNat : Int) - 48 = k ∧ St (q + 1) t (l ++ [k]) ∧ t.length < r.length ∧ r.length < 100 ∧ (k == 0) = false ∧ l.length ≤ 2 := by
        rcases hst with ⟨rfl, rfl, rfl⟩ | ⟨rfl, rfl, rfl⟩ | ⟨rfl, rfl, rfl⟩
        · exact ⟨49, 1, _, by show _ = _; decide, by decide, by decide, by decide, .inr (.inl ⟨rfl, rfl, rfl⟩), by decide, by decide, by decide, by decide⟩
        · exact ⟨50, 2, _, by show _ = _; decide, by decide, by decide, by decide, .inr (.inr ⟨rfl, rfl, rfl⟩), by decide, by decide, by decide, by decide⟩
        · omega
      obtain ⟨htl, hrl, hk0, hll⟩ := htl
      have HC1 := Lib.hid hc1
      have HC2 := Lib.hid hc2
      have HCK := Lib.hid hck
      clear hst hc1 hc2 hck
      go_wp2_with fail
      refine (cut_any r [46] [c] t true m _ (by omega) hmr hcut.out).mono ?_
      rintro e w1 ⟨rfl, hb1⟩
      go_wp2_with fail
      refine (number_k c k _ HC1.out HC2.out HCK.out).mono ?_
      rintro e w2 ⟨rfl, hb2⟩
      have hbb : Below wr.heap.size wr w2 := hb1.trans (hb2.mono hb1.size)
      have s4' := s4.later hbb
      have s2' := s2.later hbb
      have hown' := hown.below hbb
      have hB' : Below g2 w w2 := hB.trans (hbb.mono hzr)
      obtain ⟨c0, c1, c2, f0, f1, f2⟩ := s4'.cells
      have hz2 := s4'.lt
      clear hb1 hb2 hbb s4 s2 hown hB hmr hzr hz4
      go_wp2_with (at_builtin; refine wpList_append_own _ rfl _ _ 27 rfl (g2 + 2) 3 j0 (.int .i64 0) 1 8 Tryz.underlying27 ji jz0 jz1 jz2 rfl (by decide) _ _ _ rfl (World.ownsRow.alloc hown' _) ⟨w2.heap.size, 0, none⟩ 1 1 [.int .i64 k] rfl rfl ?e1 ?e2 ?e3 ?e4 ?e5 ?_)
      case e1 =>
        intro j u hj
        match j, hj with
        | 0, hj => simp at hj; subst hj; simp [Addr.add]
      case e2 => intro u hu; simp at hu; subst hu; rfl
      case e3 => unfold maxLen; omega
      case e4 => omega
      case e5 => simp; omega
      intro v' w3 hown3 hgrow _
      have o3 : OwnI w3 (g2 + 2) v' (l ++ [k]) := OwnI.step hown3
      have hlow := fun i e => (World.ownsRow.lt hown' i e).1
      have B3 : Below g2 w w3 := (hB'.alloc (by omega) _).grown hgrow (by simp; omega) (fun i e => by have := hlow i e; omega)
      have S4 : SpecAt w3 g4 v [] := (hgrow.block g4 (by simp; omega) (fun e => by have := hlow _ e.symm; omega)).trans ((heap_old _ _ _ hz2).trans s4')
      have S2 : SpecAt w3 g2 (.slice none 0 0) [] := (hgrow.block g2 (by simp; omega) (fun e => by have := hlow _ e.symm; omega)).trans ((heap_old _ _ _ (by omega)).trans s2')
      obtain ⟨g5, cap5, rfl, hl5, hg5⟩ := o3.parts (by simp)
      have o3' : ∀ x, OwnI (w3.setCell ⟨g4, 0, none⟩ x) (g2 + 2) (.slice (some ⟨g5, 0, none⟩) (l.length + 1) cap5) (l ++ [k]) := fun x => by
        rw [show l.length + 1 = (l ++ [k]).length by simp]
        exact o3.later fun i e => Below.heap_setCell _ _ _ _ (by
          have : g5 = i := by simpa [Value.ownBlock] using e
          simp; omega)
      obtain ⟨c0, c1, c2, f0, f1, f2⟩ := S4.cells
      clear hown3 hgrow hown' hlow s4' s2' hB' o3
      go_wp2
      go_roundw
      case rel => exact ⟨q + 1, t, l ++ [k], _, hst', rfl, rfl, S4.set0 _, S2.far (by omega) _ _, o3' _, below_set B3 (by omega) _ _⟩
      case measure => simp [bs_size]; omega
    · obtain ⟨rfl, rfl⟩ : r = [109, 105, 109, 101] ∧ l = [1, 2] := by
        rcases hst with ⟨rfl, _⟩ | ⟨rfl, _⟩ | ⟨rfl, h1, h2⟩
        · omega
        · omega
        · exact ⟨h1, h2⟩
      clear hst hq
      have hcut1 : Hid (Lib.cut [109, 105, 109, 101] [46] = ([109, 105, 109, 101], [], false)) := by show _ = _; decide
      have hcut2 : Hid (Lib.cut [109, 105, 109, 101] [32, 40] = ([109, 105, 109, 101], [], false)) := by show _ = _; decide
      go_wp2_with fail
      refine (cut_any _ [46] _ _ _ m _ (by decide) hmr hcut1.out).mono ?_
      rintro e w1 ⟨rfl, hb1⟩
      go_wp2_with fail
      refine (number_mime _).mono ?_
      rintro e w2 ⟨rfl, hb2⟩
      have hb2' : Below wr.heap.size wr w2 := hb1.trans (hb2.mono hb1.size)
      have hm2 := (hb2'.cell (p := ⟨2, 0, none⟩) (cell_lt hmr)).trans hmr
      go_wp2_with fail
      refine (cut_any _ [32, 40] _ _ _ m _ (by decide) hm2 hcut2.out).mono ?_
      rintro e w3 ⟨rfl, hb3⟩
      go_wp2_with fail
      refine (large_any _ _ (by decide)).mono ?_
      rintro e w4 ⟨rfl, hb4⟩
      have hbb : Below wr.heap.size wr w4 := (hb2'.trans (hb3.mono hb2'.size)).trans (hb4.mono (by have := hb2'.size; have := hb3.size; omega))
      have s4' := s4.later hbb
      have s2' := s2.later hbb
      have hown' := hown.below hbb
      have hB' : Below g2 w w4 := hB.trans (hbb.mono hzr)
      rw [show upL [109, 105, 109, 101] = [77, 73, 77, 69] by decide]
      obtain ⟨c0, c1, c2, f0, f1, f2⟩ := s4'.cells
      obtain ⟨g5, cap5, rfl, hl5, hg5⟩ := hown'.parts (by simp)
      have t4 : SpecAt (w4.setCell ⟨g4, 1, none⟩ (.string (bs [77, 73, 77, 69]))) g4 (.slice (some ⟨g5, 0, none⟩) 2 cap5) [77, 73, 77, 69] := s4'.set1 _
      have t2 : SpecAt (w4.setCell ⟨g4, 1, none⟩ (.string (bs [77, 73, 77, 69]))) g2 _ [] := s2'.far (by omega) _ _
      have town : OwnI (w4.setCell ⟨g4, 1, none⟩ (.string (bs [77, 73, 77, 69]))) (g2 + 2) (.slice (some ⟨g5, 0, none⟩) 2 cap5) [1, 2] := hown'.later fun i e => Below.heap_setCell _ _ _ _ (by
        have : g5 = i := by simpa [Value.ownBlock] using e
        simp; omega)
      have tB : Below g2 w (w4.setCell ⟨g4, 1, none⟩ (.string (bs [77, 73, 77, 69]))) := below_set hB' (by omega) _ _
      have hz9 : g4 < w4.heap.size := s4'.lt
      obtain ⟨w5, hw5⟩ : ∃ w5, w4.setCell ⟨g4, 1, none⟩ (.string (bs [77, 73, 77, 69])) = w5 := ⟨_, rfl⟩
      rw [hw5] at t4 t2 town tB
      clear hb1 hb2 hb2' hb3 hb4 hbb s4 s2 hown hB s4' s2' hown' hB' hm2 hmr hcut1 hcut2 c0 c2
      obtain ⟨k0, k1, k2, e0, e1, e2⟩ := t4.cells
      go_wp2_with fail
      clear k0 k1 k2 e0 e1 e2 f0 f1 f2 c1 hw5
      refine (right_mime _ [1, 2] _ town.ints (by decide) (by decide) (by decide)).mono ?_
      rintro e w6 ⟨rfl, hb6⟩
      have s4 := t4.later hb6
      have s2 := t2.later hb6
      have hown := town.below hb6
      have hB := tB.trans (hb6.mono (by have := tB.size; omega))
      obtain ⟨k0, k1, k2, e0, e1, e2⟩ := s4.cells
      obtain ⟨m0, m1, m2, n0, n1, n2⟩ := s2.cells
      have hne : g4 ≠ g2 := by omega
      clear t4 t2 town tB hb6
      go_wp2
      have r2 : SpecAt (((w6.setCell ⟨g2, 0, none⟩ (.slice (some ⟨g5, 0, none⟩) 2 cap5)).setCell ⟨g2, 1, none⟩ (.string (bs [77, 73, 77, 69]))).setCell ⟨g2, 2, none⟩ (.slice none 0 0)) g2 (.slice (some ⟨g5, 0, none⟩) 2 cap5) [77, 73, 77, 69] := ((s2.set0 _).set1 _).set2
      have rB : Below g2 w (((w6.setCell ⟨g2, 0, none⟩ (.slice (some ⟨g5, 0, none⟩) 2 cap5)).setCell ⟨g2, 1, none⟩ (.string (bs [77, 73, 77, 69]))).setCell ⟨g2, 2, none⟩ (.slice none 0 0)) := below_set (below_set (below_set hB (Nat.le_refl _) _ _) (Nat.le_refl _) _ _) (Nat.le_refl _) _ _
      have rown : OwnI (((w6.setCell ⟨g2, 0, none⟩ (.slice (some ⟨g5, 0, none⟩) 2 cap5)).setCell ⟨g2, 1, none⟩ (.string (bs [77, 73, 77, 69]))).setCell ⟨g2, 2, none⟩ (.slice none 0 0)) (g2 + 2) (.slice (some ⟨g5, 0, none⟩) 2 cap5) [1, 2] := hown.later fun i e => by
        have h5 : g5 = i := by simpa [Value.ownBlock] using e
        rw [Below.heap_setCell _ _ _ _ (by simp; omega), Below.heap_setCell _ _ _ _ (by simp; omega), Below.heap_setCell _ _ _ _ (by simp; omega)]
      generalize ((w6.setCell ⟨g2, 0, none⟩ (.slice (some ⟨g5, 0, none⟩) 2 cap5)).setCell ⟨g2, 1, none⟩ (.string (bs [77, 73, 77, 69]))).setCell ⟨g2, 2, none⟩ (.slice none 0 0) = w7 at r2 rB rown ⊢
      clear s4 s2 hown hB k0 k1 k2 e0 e1 e2 m0 m1 m2 n0 n1 n2
      obtain ⟨k0, k1, k2, e0, e1, e2⟩ := r2.cells
      refine bodyPost_ret (v := .tuple #[.agg #[.slice (some ⟨g5, 0, none⟩) 2 cap5, .string (bs [77, 73, 77, 69]), .slice none 0 0], .nilIface]) (by simp [results, Tryz.results7, go_sem, k0, k1, k2, e0, e1, e2]) rfl ⟨⟨_, rfl, rown.ints⟩, by rw [hg2]; exact rB⟩

set_option maxRecDepth 100000 in
set_option maxHeartbeats 1000000 in
theorem alive_any (m : Int) (w : World) (hm : w.cell? ⟨2, 0, none⟩ = some (.int .i64 m)) : Calls Tryz.prog 4 #[] w fun e w' => e = .returned (.bool true) ∧ Below w.heap.size w w' := by
  go_enter Tryz.func4, Tryz.ntmps4
  go_wp2_with fail
  refine (parse_mime m _ hm).mono ?_
  rintro e w1 ⟨⟨v, rfl, hv⟩, hb1⟩
  obtain ⟨a, c, rfl, _⟩ := hv
  have hz1 := hb1.size
  go_wp2_with (go_at_call 8; refine (partial_any [97, 98, 99] 1 5 _ (by decide)).mono ?_; rintro e w' ⟨rfl, rfl⟩)
  go_ret
  exact ⟨by simp [partialL], hb1.alloc hz1 _⟩

end Go.Proofs.YtgkbigbekmkobaaGreatDoor
