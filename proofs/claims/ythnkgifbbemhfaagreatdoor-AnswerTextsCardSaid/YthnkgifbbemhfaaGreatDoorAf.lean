/- answer.Fetch at one item. -/
import Derived.Test.YthnkgifbbemhfaaGreatDoorAa
import Derived.Test.YthnkgifbbemhfaaGreatDoorH7
import Derived.Test.YthnkgifbbemhfaaGreatDoorJs
import Derived.Test.YthnkgifbbemhfaaGreatDoorAp
set_option linter.unusedVariables false
set_option linter.unusedSimpArgs false
namespace Go.Proofs.YthnkgifbbemhfaaGreatDoor
open Go.RowKit Go

/-- the answer of one item -/
def fetchT (seq : Nat) (t : List UInt8) : List UInt8 := [42, 32] ++ Lib.decDigits seq ++ [32, 70, 69, 84, 67, 72, 32, 40] ++ t ++ [41, 13, 10]
theorem fetch_sum (d t : List UInt8) : ({ data := #[42, 32] } : ByteArray) ++ bs d ++ { data := #[32, 70, 69, 84, 67, 72, 32, 40] } ++ bs t ++ { data := #[41] } ++ { data := #[13, 10] } = bs ([42, 32] ++ d ++ [32, 70, 69, 84, 67, 72, 32, 40] ++ t ++ [41, 13, 10]) := by
  simp only [bs_append]
  congr 1
  simp
/-- an item that stands at a block: no section but the whole -/
structure ItemAt (w : World) (b : Nat) (nm : List UInt8) (pk pt : Bool) (fr ct : Int) : Prop where
  c0 : w.cell? ⟨b, 0, none⟩ = some (.string (bs nm))
  c1 : w.cell? ⟨b, 1, none⟩ = some (.slice none 0 0)
  c2 : w.cell? ⟨b, 2, none⟩ = some (.string ⟨#[]⟩)
  c3 : w.cell? ⟨b, 3, none⟩ = some (.slice none 0 0)
  c4 : w.cell? ⟨b, 4, none⟩ = some (.bool pk)
  c5 : w.cell? ⟨b, 5, none⟩ = some (.bool pt)
  c6 : w.cell? ⟨b, 6, none⟩ = some (.int .i64 fr)
  c7 : w.cell? ⟨b, 7, none⟩ = some (.int .i64 ct)
theorem ItemAt.below {w w' : World} {b : Nat} {nm : List UInt8} {pk pt : Bool} {fr ct : Int} (h : ItemAt w b nm pk pt fr ct) (hb : Below w.heap.size w w') : ItemAt w' b nm pk pt fr ct := by
  have hl := cell_lt h.c0
  have f : ∀ i v, w.cell? ⟨b, i, none⟩ = some v → w'.cell? ⟨b, i, none⟩ = some v := fun i v e => (hb.cell (p := ⟨b, i, none⟩) hl).trans e
  exact ⟨f _ _ h.c0, f _ _ h.c1, f _ _ h.c2, f _ _ h.c3, f _ _ h.c4, f _ _ h.c5, f _ _ h.c6, f _ _ h.c7⟩


set_option maxRecDepth 100000 in
set_option maxHeartbeats 4000000 in
theorem fetch_size (seq : Nat) (u f d : Int) (body T : List UInt8) (b : Nat) (pk pt : Bool) (fr ct : Int) (w : World) (hs : seq ≤ 9223372036854775807) (hTl : T.length ≤ 1000000000) (hT : TabQ w)
    (hi : ItemAt w b [82, 70, 67, 56, 50, 50, 46, 83, 73, 90, 69] pk pt fr ct)
    (hc : ∀ w0, Below w.heap.size w w0 → Calls Tryz.prog 25 #[.agg #[.int .i64 u, .int .i64 f, .int .i64 d, .string (bs body)], .agg #[.string (bs [82, 70, 67, 56, 50, 50, 46, 83, 73, 90, 69]), .slice none 0 0, .string ⟨#[]⟩, .slice none 0 0, .bool pk, .bool pt, .int .i64 fr, .int .i64 ct]] w0 fun e w' => e = .returned (.string (bs T)) ∧ Below w0.heap.size w0 w') :
    Calls Tryz.prog 8 #[.int .i64 seq, .agg #[.int .i64 u, .int .i64 f, .int .i64 d, .string (bs body)], .slice (some ⟨b, 0, none⟩) 1 1, .bool false] w fun e w' => e = .returned (.tuple #[.string (bs (fetchT seq T)), .bool false]) ∧ Below w.heap.size w w' := by
  obtain ⟨i0, hi0, hz0, hz1, hz2⟩ := info_parts info_str
  have hdl := decq_length 19 seq (by omega) (by omega)
  have HI := Lib.hid hi
  have HC := Lib.hid hc
  have HT := Lib.hid hT
  have hbl := cell_lt hi.c0
  clear hi hc hT
  unfold fetchT
  obtain ⟨D, hD⟩ : ∃ D, Lib.decDigits seq = D := ⟨_, rfl⟩
  have HD := Lib.hid hD
  rw [hD] at hdl ⊢
  clear hD
  go_enter Tryz.func8, Tryz.ntmps8
  go_wp2
  obtain ⟨W0, hW0⟩ : ∃ W0, w.alloc (.cells #[.int .i64 u, .int .i64 f, .int .i64 d, .string (bs body)] 27) = W0 := ⟨_, rfl⟩
  have hb0 : Below w.heap.size w W0 := by rw [← hW0]; exact (Below.refl _ _).alloc (Nat.le_refl _) _
  have hm0 : W0.heap[w.heap.size]? = some (.cells #[.int .i64 u, .int .i64 f, .int .i64 d, .string (bs body)] 27) := by rw [← hW0]; exact heap_new _ _
  have hsz : w.heap.size < W0.heap.size := by rw [← hW0]; simp
  rw [hW0]
  obtain ⟨g, hg⟩ : ∃ g, w.heap.size = g := ⟨_, rfl⟩
  rw [hg] at hm0 hsz ⊢
  have HB0 := Lib.hid hb0
  have hm0a : W0.cell? ⟨g, 0, none⟩ = some (.int .i64 u) ∧ W0.cell? ⟨g, 1, none⟩ = some (.int .i64 f) ∧ W0.cell? ⟨g, 2, none⟩ = some (.int .i64 d) ∧ W0.cell? ⟨g, 3, none⟩ = some (.string (bs body)) := by
    refine ⟨?_, ?_, ?_, ?_⟩ <;> simp [World.cell?, hm0]
  have HM0 := Lib.hid hm0a
  have hi0a := HI.out.below hb0
  have HI0 := Lib.hid hi0a
  have hbl0 : b < W0.heap.size := by omega
  clear hW0 hb0 hm0 hm0a hi0a HI
  go_loopw [10, 11, 27] (fun out rd i wr => (i = .int .i64 0 ∧ out = .slice none 0 0 ∧ rd = .bool false ∧ wr = W0) ∨ (i = .int .i64 1 ∧ OwnS wr W0.heap.size out [T] ∧ rd = .bool false ∧ Below W0.heap.size W0 wr)) (fun _ _ i _ => 1 - (intOf i).toNat)
  case atStart => exact .inl ⟨rfl, rfl, rfl, rfl⟩
  case round =>
    rcases hrel with ⟨rfl, rfl, rfl, hWr⟩ | ⟨rfl, hown, rfl, hB⟩
    · subst hWr
      obtain ⟨c0, c1, c2, c3, c4, c5, c6, c7⟩ := HI0.out
      obtain ⟨m0, m1, m2, m3⟩ := HM0.out
      have hgn : ¬ g = wr.heap.size := by omega
      have hgn2 : ¬ wr.heap.size = g := by omega
      obtain ⟨O, hO⟩ : ∃ O : Obj, Obj.cells #[.string (bs [82, 70, 67, 56, 50, 50, 46, 83, 73, 90, 69]), .slice none 0 0, .string ⟨#[]⟩, .slice none 0 0, .bool pk, .bool pt, .int .i64 fr, .int .i64 ct] 33 = O := ⟨_, rfl⟩
      have hbO := (Below.refl _ wr).alloc (Nat.le_refl _) O
      have hkO := heap_new wr O
      rw [← hO] at hbO hkO
      clear hO
      have HCC := Lib.hid (HC.out _ (HB0.out.trans (hbO.mono (by omega))))
      go_wp2_with fail
      refine HCC.out.mono ?_
      rintro e w1 ⟨rfl, hb1⟩
      have hB1 := hbO.trans (hb1.mono (by simp))
      have hy1 := hB1.size
      have hlt1 : wr.heap.size < w1.heap.size := by have := hb1.size; rw [size_alloc] at this; omega
      have k0 : w1.cell? ⟨wr.heap.size, 0, none⟩ = some (.string (bs [82, 70, 67, 56, 50, 50, 46, 83, 73, 90, 69])) := (hb1.cell (p := ⟨wr.heap.size, 0, none⟩) (by rw [size_alloc]; exact Nat.lt_succ_self _)).trans (row_cell hkO rfl)
      have k4 : w1.cell? ⟨wr.heap.size, 4, none⟩ = some (.bool pk) := (hb1.cell (p := ⟨wr.heap.size, 4, none⟩) (by rw [size_alloc]; exact Nat.lt_succ_self _)).trans (row_cell hkO rfl)
      have hown0 : OwnS w1 wr.heap.size (.slice none 0 0) [] := World.ownsRow_nil _ _ _ _
      clear hkO hb1 hbO HCC HC c0 c1 c2 c3 c4 c5 c6 c7 m0 m1 m2 m3
      go_wp2_with (at_builtin; refine wpList_append_own _ rfl _ _ 29 rfl wr.heap.size 9 i0 (.string ⟨#[]⟩) 1 16 Tryz.underlying29 hi0 hz0 hz1 hz2 rfl (by decide) _ _ _ rfl (World.ownsRow.alloc hown0 _) ⟨w1.heap.size, 0, none⟩ 1 1 [.string (bs T)] rfl rfl ?e1 ?e2 ?e3 ?e4 ?e5 ?_)
      case e1 =>
        intro j u hj
        match j, hj with
        | 0, hj => simp at hj; subst hj; simp [Addr.add]
      case e2 => intro u hu; simp at hu; subst hu; rfl
      case e3 => unfold maxLen; simp
      case e4 => simp
      case e5 => simp; omega
      intro v' w2 hown' hgrow _
      have R1 : OwnS w2 wr.heap.size v' [T] := OwnS.step (l := []) hown'
      have R2 : Below wr.heap.size wr w2 := (hB1.alloc hy1 _).grown hgrow (by simp; omega) (fun k e => (World.ownsRow.lt hown0 k e).1)
      have hk2 : w2.heap[wr.heap.size]? = w1.heap[wr.heap.size]? := (hgrow.block wr.heap.size (by simp; omega) (by simp [Value.ownBlock])).trans (heap_old _ _ _ hlt1)
      have kk0 : w2.cell? ⟨wr.heap.size, 0, none⟩ = some (.string (bs [82, 70, 67, 56, 50, 50, 46, 83, 73, 90, 69])) := by rw [← k0]; simp only [World.cell?, hk2]
      have kk4 : w2.cell? ⟨wr.heap.size, 4, none⟩ = some (.bool pk) := by rw [← k4]; simp only [World.cell?, hk2]
      clear hown' hgrow hown0 hk2 k0 k4
      go_wp2
      go_roundw
      case rel => exact .inr ⟨by first | rfl | trivial, R1, by first | rfl | trivial, R2⟩
      case measure => simp [intOf]
    · have hst := hown.strs
      have hT2 := TabQ.below (TabQ.below HT.out HB0.out) hB
      have hB9 := HB0.out.trans (hB.mono (by omega))
      have hz9 := hB9.size
      have HST := Lib.hid (fun w0 (h : Below wr.heap.size wr w0) => joinBl_any w0 u10 [T] (hst.below h) (by simp) (by simp [joinSp]; omega))
      clear hown hst hB
      go_wp2_with fail
      refine (itoaQ_any seq _ hs hT2).mono ?_
      rintro e w1 ⟨rfl, hb1⟩
      rw [HD.out]
      have HJ := Lib.hid (HST.out w1 hb1)
      clear HST hT2
      go_wp2_with fail
      refine HJ.out.mono ?_
      rintro e w2 ⟨rfl, hb2⟩
      have ej : joinSp [T] = T := by simp [joinSp]
      rw [ej]
      clear HJ
      go_wp2
      go_ret2
      exact ⟨by show _ = Ending.returned (.tuple #[.string (bs ([42, 32] ++ D ++ [32, 70, 69, 84, 67, 72, 32, 40] ++ T ++ [41, 13, 10])), .bool false]); rw [← fetch_sum]; rfl, hB9.trans ((hb1.trans (hb2.mono hb1.size)).mono hz9)⟩


set_option maxRecDepth 100000 in
set_option maxHeartbeats 4000000 in
theorem fetch_body (seq : Nat) (u f d : Int) (body T : List UInt8) (b : Nat) (pk pt : Bool) (fr ct : Int) (w : World) (hs : seq ≤ 9223372036854775807) (hTl : T.length ≤ 1000000000) (hT : TabQ w)
    (hi : ItemAt w b [66, 79, 68, 89, 91] false pt fr ct)
    (hc : ∀ w0, Below w.heap.size w w0 → Calls Tryz.prog 25 #[.agg #[.int .i64 u, .int .i64 f, .int .i64 d, .string (bs body)], .agg #[.string (bs [66, 79, 68, 89, 91]), .slice none 0 0, .string ⟨#[]⟩, .slice none 0 0, .bool false, .bool pt, .int .i64 fr, .int .i64 ct]] w0 fun e w' => e = .returned (.string (bs T)) ∧ Below w0.heap.size w0 w') :
    Calls Tryz.prog 8 #[.int .i64 seq, .agg #[.int .i64 u, .int .i64 f, .int .i64 d, .string (bs body)], .slice (some ⟨b, 0, none⟩) 1 1, .bool false] w fun e w' => e = .returned (.tuple #[.string (bs (fetchT seq T)), .bool true]) ∧ Below w.heap.size w w' := by
  obtain ⟨i0, hi0, hz0, hz1, hz2⟩ := info_parts info_str
  have hdl := decq_length 19 seq (by omega) (by omega)
  have HI := Lib.hid hi
  have HC := Lib.hid hc
  have HT := Lib.hid hT
  have hbl := cell_lt hi.c0
  clear hi hc hT
  unfold fetchT
  obtain ⟨D, hD⟩ : ∃ D, Lib.decDigits seq = D := ⟨_, rfl⟩
  have HD := Lib.hid hD
  rw [hD] at hdl ⊢
  clear hD
  go_enter Tryz.func8, Tryz.ntmps8
  go_wp2
  obtain ⟨W0, hW0⟩ : ∃ W0, w.alloc (.cells #[.int .i64 u, .int .i64 f, .int .i64 d, .string (bs body)] 27) = W0 := ⟨_, rfl⟩
  have hb0 : Below w.heap.size w W0 := by rw [← hW0]; exact (Below.refl _ _).alloc (Nat.le_refl _) _
  have hm0 : W0.heap[w.heap.size]? = some (.cells #[.int .i64 u, .int .i64 f, .int .i64 d, .string (bs body)] 27) := by rw [← hW0]; exact heap_new _ _
  have hsz : w.heap.size < W0.heap.size := by rw [← hW0]; simp
  rw [hW0]
  obtain ⟨g, hg⟩ : ∃ g, w.heap.size = g := ⟨_, rfl⟩
  rw [hg] at hm0 hsz ⊢
  have HB0 := Lib.hid hb0
  have hm0a : W0.cell? ⟨g, 0, none⟩ = some (.int .i64 u) ∧ W0.cell? ⟨g, 1, none⟩ = some (.int .i64 f) ∧ W0.cell? ⟨g, 2, none⟩ = some (.int .i64 d) ∧ W0.cell? ⟨g, 3, none⟩ = some (.string (bs body)) := by
    refine ⟨?_, ?_, ?_, ?_⟩ <;> simp [World.cell?, hm0]
  have HM0 := Lib.hid hm0a
  have hi0a := HI.out.below hb0
  have HI0 := Lib.hid hi0a
  have hbl0 : b < W0.heap.size := by omega
  clear hW0 hb0 hm0 hm0a hi0a HI
  go_loopw [10, 11, 27] (fun out rd i wr => (i = .int .i64 0 ∧ out = .slice none 0 0 ∧ rd = .bool false ∧ wr = W0) ∨ (i = .int .i64 1 ∧ OwnS wr W0.heap.size out [T] ∧ rd = .bool true ∧ Below W0.heap.size W0 wr)) (fun _ _ i _ => 1 - (intOf i).toNat)
  case atStart => exact .inl ⟨rfl, rfl, rfl, rfl⟩
  case round =>
    rcases hrel with ⟨rfl, rfl, rfl, hWr⟩ | ⟨rfl, hown, rfl, hB⟩
    · subst hWr
      obtain ⟨c0, c1, c2, c3, c4, c5, c6, c7⟩ := HI0.out
      obtain ⟨m0, m1, m2, m3⟩ := HM0.out
      have hgn : ¬ g = wr.heap.size := by omega
      have hgn2 : ¬ wr.heap.size = g := by omega
      obtain ⟨O, hO⟩ : ∃ O : Obj, Obj.cells #[.string (bs [66, 79, 68, 89, 91]), .slice none 0 0, .string ⟨#[]⟩, .slice none 0 0, .bool false, .bool pt, .int .i64 fr, .int .i64 ct] 33 = O := ⟨_, rfl⟩
      have hbO := (Below.refl _ wr).alloc (Nat.le_refl _) O
      have hkO := heap_new wr O
      rw [← hO] at hbO hkO
      clear hO
      have HCC := Lib.hid (HC.out _ (HB0.out.trans (hbO.mono (by omega))))
      go_wp2_with fail
      refine HCC.out.mono ?_
      rintro e w1 ⟨rfl, hb1⟩
      have hB1 := hbO.trans (hb1.mono (by simp))
      have hy1 := hB1.size
      have hlt1 : wr.heap.size < w1.heap.size := by have := hb1.size; rw [size_alloc] at this; omega
      have k0 : w1.cell? ⟨wr.heap.size, 0, none⟩ = some (.string (bs [66, 79, 68, 89, 91])) := (hb1.cell (p := ⟨wr.heap.size, 0, none⟩) (by rw [size_alloc]; exact Nat.lt_succ_self _)).trans (row_cell hkO rfl)
      have k4 : w1.cell? ⟨wr.heap.size, 4, none⟩ = some (.bool false) := (hb1.cell (p := ⟨wr.heap.size, 4, none⟩) (by rw [size_alloc]; exact Nat.lt_succ_self _)).trans (row_cell hkO rfl)
      have hown0 : OwnS w1 wr.heap.size (.slice none 0 0) [] := World.ownsRow_nil _ _ _ _
      clear hkO hb1 hbO HCC HC c0 c1 c2 c3 c4 c5 c6 c7 m0 m1 m2 m3
      go_wp2_with (at_builtin; refine wpList_append_own _ rfl _ _ 29 rfl wr.heap.size 9 i0 (.string ⟨#[]⟩) 1 16 Tryz.underlying29 hi0 hz0 hz1 hz2 rfl (by decide) _ _ _ rfl (World.ownsRow.alloc hown0 _) ⟨w1.heap.size, 0, none⟩ 1 1 [.string (bs T)] rfl rfl ?e1 ?e2 ?e3 ?e4 ?e5 ?_)
      case e1 =>
        intro j u hj
        match j, hj with
        | 0, hj => simp at hj; subst hj; simp [Addr.add]
      case e2 => intro u hu; simp at hu; subst hu; rfl
      case e3 => unfold maxLen; simp
      case e4 => simp
      case e5 => simp; omega
      intro v' w2 hown' hgrow _
      have R1 : OwnS w2 wr.heap.size v' [T] := OwnS.step (l := []) hown'
      have R2 : Below wr.heap.size wr w2 := (hB1.alloc hy1 _).grown hgrow (by simp; omega) (fun k e => (World.ownsRow.lt hown0 k e).1)
      have hk2 : w2.heap[wr.heap.size]? = w1.heap[wr.heap.size]? := (hgrow.block wr.heap.size (by simp; omega) (by simp [Value.ownBlock])).trans (heap_old _ _ _ hlt1)
      have kk0 : w2.cell? ⟨wr.heap.size, 0, none⟩ = some (.string (bs [66, 79, 68, 89, 91])) := by rw [← k0]; simp only [World.cell?, hk2]
      have kk4 : w2.cell? ⟨wr.heap.size, 4, none⟩ = some (.bool false) := by rw [← k4]; simp only [World.cell?, hk2]
      clear hown' hgrow hown0 hk2 k0 k4
      go_wp2
      go_roundw
      case rel => exact .inr ⟨by first | rfl | trivial, R1, by first | rfl | trivial, R2⟩
      case measure => simp [intOf]
    · have hst := hown.strs
      have hT2 := TabQ.below (TabQ.below HT.out HB0.out) hB
      have hB9 := HB0.out.trans (hB.mono (by omega))
      have hz9 := hB9.size
      have HST := Lib.hid (fun w0 (h : Below wr.heap.size wr w0) => joinBl_any w0 u10 [T] (hst.below h) (by simp) (by simp [joinSp]; omega))
      clear hown hst hB
      go_wp2_with fail
      refine (itoaQ_any seq _ hs hT2).mono ?_
      rintro e w1 ⟨rfl, hb1⟩
      rw [HD.out]
      have HJ := Lib.hid (HST.out w1 hb1)
      clear HST hT2
      go_wp2_with fail
      refine HJ.out.mono ?_
      rintro e w2 ⟨rfl, hb2⟩
      have ej : joinSp [T] = T := by simp [joinSp]
      rw [ej]
      clear HJ
      go_wp2
      go_ret2
      exact ⟨by show _ = Ending.returned (.tuple #[.string (bs ([42, 32] ++ D ++ [32, 70, 69, 84, 67, 72, 32, 40] ++ T ++ [41, 13, 10])), .bool true]); rw [← fetch_sum]; rfl, hB9.trans ((hb1.trans (hb2.mono hb1.size)).mono hz9)⟩


end Go.Proofs.YthnkgifbbemhfaaGreatDoor