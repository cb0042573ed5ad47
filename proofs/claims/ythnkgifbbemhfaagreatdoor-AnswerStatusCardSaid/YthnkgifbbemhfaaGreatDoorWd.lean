/- Texts of one walk, merged: XAp XAf XAg XAj XOs XAk. -/
import Derived.Test.YthnkgifbbemhfaaGreatDoorWc
import Derived.SliceStrings
import Derived.ChangeOld
import Derived.WideShapes
import Derived.Maps.Own
import Derived.Maps.OwnOps
import Derived.Maps.Views
import Derived.StringKeys

/- Appending one byte to a slice that the call itself made. -/
set_option linter.unusedVariables false
set_option linter.unusedSimpArgs false
section
set_option linter.unusedVariables false
set_option linter.unusedSimpArgs false
namespace Go.Proofs.YthnkgifbbemhfaaGreatDoor
open Go.RowKit

/-- w' is w but for the row of v and new blocks -/
structure AppTo (B : Nat) (v : Value) (w w' : World) : Prop where
  below : ∀ m₀ u, m₀ ≤ B → Below m₀ u w → Below m₀ u w'
  block : ∀ k, k < w.heap.size → some k ≠ v.ownBlock → w'.heap[k]? = w.heap[k]?
  size : w.heap.size ≤ w'.heap.size

theorem AppTo.mk' {B : Nat} {v : Value} {w w' : World} {e : TypeId} {size n : Nat} {xs : List Value} {o : Obj} (hown : w.ownsRow B e size v n xs) (hB : B ≤ w.heap.size) (hg : (w.alloc o).grownBy w' v.ownBlock) : AppTo B v w w' where
  below m₀ u hm hb := (hb.alloc (Nat.le_trans hm hB) o).grown hg (by simp; omega) (fun k e => Nat.le_trans hm (World.ownsRow.lt hown k e).1)
  block k hk hne := (hg.block k (by simp; omega) hne).trans (Below.heap_alloc _ _ _ hk)
  size := by have := hg.size; simp at this; omega

theorem app_byte {ops : Array Oper} {rest : List Oper} {o : Oper} {a : Act} {Q : Exit → Act → World → Prop} (w : World) (B : Nat) (v : Value) (l : List UInt8) (c : UInt8) (n : Int) (hn : (c.toNat : Int) = n) (hown : OwnB w B v l) (hB : B ≤ w.heap.size) (hl : l.length < 1099511627776)
    (hgd : o.guard = none) (s x : Operand) (ho : o.op = .call { callee := .builtin .append, args := #[s, x], argTypes := #[83, 83] }) (hs : a.eval s = v) (hx : a.eval x = .slice (some ⟨w.heap.size, 0, none⟩) 1 1)
    (h : ∀ v' w', OwnB w' B v' (l ++ [c]) → AppTo B v w w' → wpList Tryz.prog ops Q rest (a.put o.dst v') w') :
    wpList Tryz.prog ops Q (o :: rest) a (w.alloc (.cells #[.int .u8 n] 5)) := by
  subst hn
  obtain ⟨i0, hi, hz0, hz1, hz2⟩ := info_parts info_u8
  refine wpList_append_own _ hgd s x 83 ho B 5 i0 (.int .u8 0) 1 1 Tryz.underlying83 hi hz0 hz1 hz2 rfl (by decide) v l.length (cellsB l) hs (World.ownsRow.alloc hown _) ⟨w.heap.size, 0, none⟩ 1 1 [.int .u8 c.toNat] hx rfl ?_ ?_ ?_ ?_ ?_ ?_
  · intro j u hj
    match j, hj with
    | 0, hj => simp at hj; subst hj; simp [Addr.add]
  · intro u hu; simp at hu; subst hu; rfl
  · unfold maxLen; omega
  · omega
  · simp; omega
  · intro v' w' h1 h2 _
    exact h v' w' (OwnB.step h1) (AppTo.mk' hown hB h2)

end Go.Proofs.YthnkgifbbemhfaaGreatDoor
end

/- answer.Fetch at one item. -/
set_option linter.unusedVariables false
set_option linter.unusedSimpArgs false
section
namespace Go.Proofs.YthnkgifbbemhfaaGreatDoor
open Go.RowKit Go

/-- the answer of one item -/
def fetchT (seq : Nat) (t : List UInt8) : List UInt8 := [42, 32] ++ Lib.decDigits seq ++ [32, 70, 69, 84, 67, 72, 32, 40] ++ t ++ [41, 13, 10]
theorem fetch_sum (d t : List UInt8) : ({ data := #[42, 32] } : ByteArray) ++ bs d ++ { data := #[32, 70, 69, 84, 67, 72, 32, 40] } ++ bs t ++ { data := #[41] } ++ { data := #[13, 10] } = bs ([42, 32] ++ d ++ [32, 70, 69, 84, 67, 72, 32, 40] ++ t ++ [41, 13, 10]) := by
  simp only [bs_append]
  congr 1
  simp
/-- an item that stands at a block: no section but the whole -/
structure ItemAt (w : World) (b : Nat) (nm : List UInt8) (pk pt : Bool) (fr ct : Int) : Prop where
  c0 : w.cell? ⟨b, 0, none⟩ = some (.string (bs nm))
  c1 : w.cell? ⟨b, 1, none⟩ = some (.slice none 0 0)
  c2 : w.cell? ⟨b, 2, none⟩ = some (.string ⟨#[]⟩)
  c3 : w.cell? ⟨b, 3, none⟩ = some (.slice none 0 0)
  c4 : w.cell? ⟨b, 4, none⟩ = some (.bool pk)
  c5 : w.cell? ⟨b, 5, none⟩ = some (.bool pt)
  c6 : w.cell? ⟨b, 6, none⟩ = some (.int .i64 fr)
  c7 : w.cell? ⟨b, 7, none⟩ = some (.int .i64 ct)
theorem ItemAt.below {w w' : World} {b : Nat} {nm : List UInt8} {pk pt : Bool} {fr ct : Int} (h : ItemAt w b nm pk pt fr ct) (hb : Below w.heap.size w w') : ItemAt w' b nm pk pt fr ct := by
  have hl := cell_lt h.c0
  have f : ∀ i v, w.cell? ⟨b, i, none⟩ = some v → w'.cell? ⟨b, i, none⟩ = some v := fun i v e => (hb.cell (p := ⟨b, i, none⟩) hl).trans e
  exact ⟨f _ _ h.c0, f _ _ h.c1, f _ _ h.c2, f _ _ h.c3, f _ _ h.c4, f _ _ h.c5, f _ _ h.c6, f _ _ h.c7⟩


set_option maxRecDepth 100000 in
set_option maxHeartbeats 4000000 in
theorem fetch_size (seq : Nat) (u f d : Int) (body T : List UInt8) (b : Nat) (pk pt : Bool) (fr ct : Int) (w : World) (hs : seq ≤ 9223372036854775807) (hTl : T.length ≤ 1000000000) (hT : TabQ w)
    (hi : ItemAt w b [82, 70, 67, 56, 50, 50, 46, 83, 73, 90, 69] pk pt fr ct)
    (hc : ∀ w0, Below w.heap.size w w0 → Calls Tryz.prog 25 #[.agg #[.int .i64 u, .int .i64 f, .int .i64 d, .string (bs body)], .agg #[.string (bs [82, 70, 67, 56, 50, 50, 46, 83, 73, 90, 69]), .slice none 0 0, .string ⟨#[]⟩, .slice none 0 0, .bool pk, .bool pt, .int .i64 fr, .int .i64 ct]] w0 fun e w' => e = .returned (.string (bs T)) ∧ Below w0.heap.size w0 w') :
    Calls Tryz.prog 8 #[.int .i64 seq, .agg #[.int .i64 u, .int .i64 f, .int .i64 d, .string (bs body)], .slice (some ⟨b, 0, none⟩) 1 1, .bool false] w fun e w' => e = .returned (.tuple #[.string (bs (fetchT seq T)), .bool false]) ∧ Below w.heap.size w w' := by
  obtain ⟨i0, hi0, hz0, hz1, hz2⟩ := info_parts info_str
  have hdl := decq_length 19 seq (by omega) (by omega)
  have HI := Lib.hid hi
  have HC := Lib.hid hc
  have HT := Lib.hid hT
  have hbl := cell_lt hi.c0
  clear hi hc hT
  unfold fetchT
  obtain ⟨D, hD⟩ : ∃ D, Lib.decDigits seq = D := ⟨_, rfl⟩
  have HD := Lib.hid hD
  rw [hD] at hdl ⊢
  clear hD
  go_enter Tryz.func8, Tryz.ntmps8
  go_wp2
  obtain ⟨W0, hW0⟩ : ∃ W0, w.alloc (.cells #[.int .i64 u, .int .i64 f, .int .i64 d, .string (bs body)] 27) = W0 := ⟨_, rfl⟩
  have hb0 : Below w.heap.size w W0 := by rw [← hW0]; exact (Below.refl _ _).alloc (Nat.le_refl _) _
  have hm0 : W0.heap[w.heap.size]? = some (.cells #[.int .i64 u, .int .i64 f, .int .i64 d, .string (bs body)] 27) := by rw [← hW0]; exact heap_new _ _
  have hsz : w.heap.size < W0.heap.size := by rw [← hW0]; simp
  rw [hW0]
  obtain ⟨g, hg⟩ : ∃ g, w.heap.size = g := ⟨_, rfl⟩
  rw [hg] at hm0 hsz ⊢
  have HB0 := Lib.hid hb0
  have hm0a : W0.cell? ⟨g, 0, none⟩ = some (.int .i64 u) ∧ W0.cell? ⟨g, 1, none⟩ = some (.int .i64 f) ∧ W0.cell? ⟨g, 2, none⟩ = some (.int .i64 d) ∧ W0.cell? ⟨g, 3, none⟩ = some (.string (bs body)) := by
    refine ⟨?_, ?_, ?_, ?_⟩ <;> simp [World.cell?, hm0]
  have HM0 := Lib.hid hm0a
  have hi0a := HI.out.below hb0
  have HI0 := Lib.hid hi0a
  have hbl0 : b < W0.heap.size := by omega
  clear hW0 hb0 hm0 hm0a hi0a HI
  go_loopw [10, 11, 27] (fun out rd i wr => (i = .int .i64 0 ∧ out = .slice none 0 0 ∧ rd = .bool false ∧ wr = W0) ∨ (i = .int .i64 1 ∧ OwnS wr W0.heap.size out [T] ∧ rd = .bool false ∧ Below W0.heap.size W0 wr)) (fun _ _ i _ => 1 - (intOf i).toNat)
  case atStart => exact .inl ⟨rfl, rfl, rfl, rfl⟩
  case round =>
    rcases hrel with ⟨rfl, rfl, rfl, hWr⟩ | ⟨rfl, hown, rfl, hB⟩
    · subst hWr
      obtain ⟨c0, c1, c2, c3, c4, c5, c6, c7⟩ := HI0.out
      obtain ⟨m0, m1, m2, m3⟩ := HM0.out
      have hgn : ¬ g = wr.heap.size := by omega
      have hgn2 : ¬ wr.heap.size = g := by omega
      obtain ⟨O, hO⟩ : ∃ O : Obj, Obj.cells #[.string (bs [82, 70, 67, 56, 50, 50, 46, 83, 73, 90, 69]), .slice none 0 0, .string ⟨#[]⟩, .slice none 0 0, .bool pk, .bool pt, .int .i64 fr, .int .i64 ct] 33 = O := ⟨_, rfl⟩
      have hbO := (Below.refl _ wr).alloc (Nat.le_refl _) O
      have hkO := heap_new wr O
      rw [← hO] at hbO hkO
      clear hO
      have HCC := Lib.hid (HC.out _ (HB0.out.trans (hbO.mono (by omega))))
      go_wp2_with fail
      refine HCC.out.mono ?_
      rintro e w1 ⟨rfl, hb1⟩
      have hB1 := hbO.trans (hb1.mono (by simp))
      have hy1 := hB1.size
      have hlt1 : wr.heap.size < w1.heap.size := by have := hb1.size; rw [size_alloc] at this; omega
      have k0 : w1.cell? ⟨wr.heap.size, 0, none⟩ = some (.string (bs [82, 70, 67, 56, 50, 50, 46, 83, 73, 90, 69])) := (hb1.cell (p := ⟨wr.heap.size, 0, none⟩) (by rw [size_alloc]; exact Nat.lt_succ_self _)).trans (row_cell hkO rfl)
      have k4 : w1.cell? ⟨wr.heap.size, 4, none⟩ = some (.bool pk) := (hb1.cell (p := ⟨wr.heap.size, 4, none⟩) (by rw [size_alloc]; exact Nat.lt_succ_self _)).trans (row_cell hkO rfl)
      have hown0 : OwnS w1 wr.heap.size (.slice none 0 0) [] := World.ownsRow_nil _ _ _ _
      clear hkO hb1 hbO HCC HC c0 c1 c2 c3 c4 c5 c6 c7 m0 m1 m2 m3
      go_wp2_with (at_builtin; refine wpList_append_own _ rfl _ _ 29 rfl wr.heap.size 9 i0 (.string ⟨#[]⟩) 1 16 Tryz.underlying29 hi0 hz0 hz1 hz2 rfl (by decide) _ _ _ rfl (World.ownsRow.alloc hown0 _) ⟨w1.heap.size, 0, none⟩ 1 1 [.string (bs T)] rfl rfl ?e1 ?e2 ?e3 ?e4 ?e5 ?_)
      case e1 =>
        intro j u hj
        match j, hj with
        | 0, hj => simp at hj; subst hj; simp [Addr.add]
      case e2 => intro u hu; simp at hu; subst hu; rfl
      case e3 => unfold maxLen; simp
      case e4 => simp
      case e5 => simp; omega
      intro v' w2 hown' hgrow _
      have R1 : OwnS w2 wr.heap.size v' [T] := OwnS.step (l := []) hown'
      have R2 : Below wr.heap.size wr w2 := (hB1.alloc hy1 _).grown hgrow (by simp; omega) (fun k e => (World.ownsRow.lt hown0 k e).1)
      have hk2 : w2.heap[wr.heap.size]? = w1.heap[wr.heap.size]? := (hgrow.block wr.heap.size (by simp; omega) (by simp [Value.ownBlock])).trans (heap_old _ _ _ hlt1)
      have kk0 : w2.cell? ⟨wr.heap.size, 0, none⟩ = some (.string (bs [82, 70, 67, 56, 50, 50, 46, 83, 73, 90, 69])) := by rw [← k0]; simp only [World.cell?, hk2]
      have kk4 : w2.cell? ⟨wr.heap.size, 4, none⟩ = some (.bool pk) := by rw [← k4]; simp only [World.cell?, hk2]
      clear hown' hgrow hown0 hk2 k0 k4
      go_wp2
      go_roundw
      case rel => exact .inr ⟨by first | rfl | trivial, R1, by first | rfl | trivial, R2⟩
      case measure => simp [intOf]
    · have hst := hown.strs
      have hT2 := TabQ.below (TabQ.below HT.out HB0.out) hB
      have hB9 := HB0.out.trans (hB.mono (by omega))
      have hz9 := hB9.size
      have HST := Lib.hid (fun w0 (h : Below wr.heap.size wr w0) => joinBl_any w0 u10 [T] (hst.below h) (by simp) (by simp [joinSp]; omega))
      clear hown hst hB
      go_wp2_with fail
      refine (itoaQ_any seq _ hs hT2).mono ?_
      rintro e w1 ⟨rfl, hb1⟩
      rw [HD.out]
      have HJ := Lib.hid (HST.out w1 hb1)
      clear HST hT2
      go_wp2_with fail
      refine HJ.out.mono ?_
      rintro e w2 ⟨rfl, hb2⟩
      have ej : joinSp [T] = T := by simp [joinSp]
      rw [ej]
      clear HJ
      go_wp2
      go_ret2
      exact ⟨by show _ = Ending.returned (.tuple #[.string (bs ([42, 32] ++ D ++ [32, 70, 69, 84, 67, 72, 32, 40] ++ T ++ [41, 13, 10])), .bool false]); rw [← fetch_sum]; rfl, hB9.trans ((hb1.trans (hb2.mono hb1.size)).mono hz9)⟩


set_option maxRecDepth 100000 in
set_option maxHeartbeats 4000000 in
theorem fetch_body (seq : Nat) (u f d : Int) (body T : List UInt8) (b : Nat) (pk pt : Bool) (fr ct : Int) (w : World) (hs : seq ≤ 9223372036854775807) (hTl : T.length ≤ 1000000000) (hT : TabQ w)
    (hi : ItemAt w b [66, 79, 68, 89, 91] false pt fr ct)
    (hc : ∀ w0, Below w.heap.size w w0 → Calls Tryz.prog 25 #[.agg #[.int .i64 u, .int .i64 f, .int .i64 d, .string (bs body)], .agg #[.string (bs [66, 79, 68, 89, 91]), .slice none 0 0, .string ⟨#[]⟩, .slice none 0 0, .bool false, .bool pt, .int .i64 fr, .int .i64 ct]] w0 fun e w' => e = .returned (.string (bs T)) ∧ Below w0.heap.size w0 w') :
    Calls Tryz.prog 8 #[.int .i64 seq, .agg #[.int .i64 u, .int .i64 f, .int .i64 d, .string (bs body)], .slice (some ⟨b, 0, none⟩) 1 1, .bool false] w fun e w' => e = .returned (.tuple #[.string (bs (fetchT seq T)), .bool true]) ∧ Below w.heap.size w w' := by
  obtain ⟨i0, hi0, hz0, hz1, hz2⟩ := info_parts info_str
  have hdl := decq_length 19 seq (by omega) (by omega)
  have HI := Lib.hid hi
  have HC := Lib.hid hc
  have HT := Lib.hid hT
  have hbl := cell_lt hi.c0
  clear hi hc hT
  unfold fetchT
  obtain ⟨D, hD⟩ : ∃ D, Lib.decDigits seq = D := ⟨_, rfl⟩
  have HD := Lib.hid hD
  rw [hD] at hdl ⊢
  clear hD
  go_enter Tryz.func8, Tryz.ntmps8
  go_wp2
  obtain ⟨W0, hW0⟩ : ∃ W0, w.alloc (.cells #[.int .i64 u, .int .i64 f, .int .i64 d, .string (bs body)] 27) = W0 := ⟨_, rfl⟩
  have hb0 : Below w.heap.size w W0 := by rw [← hW0]; exact (Below.refl _ _).alloc (Nat.le_refl _) _
  have hm0 : W0.heap[w.heap.size]? = some (.cells #[.int .i64 u, .int .i64 f, .int .i64 d, .string (bs body)] 27) := by rw [← hW0]; exact heap_new _ _
  have hsz : w.heap.size < W0.heap.size := by rw [← hW0]; simp
  rw [hW0]
  obtain ⟨g, hg⟩ : ∃ g, w.heap.size = g := ⟨_, rfl⟩
  rw [hg] at hm0 hsz ⊢
  have HB0 := Lib.hid hb0
  have hm0a : W0.cell? ⟨g, 0, none⟩ = some (.int .i64 u) ∧ W0.cell? ⟨g, 1, none⟩ = some (.int .i64 f) ∧ W0.cell? ⟨g, 2, none⟩ = some (.int .i64 d) ∧ W0.cell? ⟨g, 3, none⟩ = some (.string (bs body)) := by
    refine ⟨?_, ?_, ?_, ?_⟩ <;> simp [World.cell?, hm0]
  have HM0 := Lib.hid hm0a
  have hi0a := HI.out.below hb0
  have HI0 := Lib.hid hi0a
  have hbl0 : b < W0.heap.size := by omega
  clear hW0 hb0 hm0 hm0a hi0a HI
  go_loopw [10, 11, 27] (fun out rd i wr => (i = .int .i64 0 ∧ out = .slice none 0 0 ∧ rd = .bool false ∧ wr = W0) ∨ (i = .int .i64 1 ∧ OwnS wr W0.heap.size out [T] ∧ rd = .bool true ∧ Below W0.heap.size W0 wr)) (fun _ _ i _ => 1 - (intOf i).toNat)
  case atStart => exact .inl ⟨rfl, rfl, rfl, rfl⟩
  case round =>
    rcases hrel with ⟨rfl, rfl, rfl, hWr⟩ | ⟨rfl, hown, rfl, hB⟩
    · subst hWr
      obtain ⟨c0, c1, c2, c3, c4, c5, c6, c7⟩ := HI0.out
      obtain ⟨m0, m1, m2, m3⟩ := HM0.out
      have hgn : ¬ g = wr.heap.size := by omega
      have hgn2 : ¬ wr.heap.size = g := by omega
      obtain ⟨O, hO⟩ : ∃ O : Obj, Obj.cells #[.string (bs [66, 79, 68, 89, 91]), .slice none 0 0, .string ⟨#[]⟩, .slice none 0 0, .bool false, .bool pt, .int .i64 fr, .int .i64 ct] 33 = O := ⟨_, rfl⟩
      have hbO := (Below.refl _ wr).alloc (Nat.le_refl _) O
      have hkO := heap_new wr O
      rw [← hO] at hbO hkO
      clear hO
      have HCC := Lib.hid (HC.out _ (HB0.out.trans (hbO.mono (by omega))))
      go_wp2_with fail
      refine HCC.out.mono ?_
      rintro e w1 ⟨rfl, hb1⟩
      have hB1 := hbO.trans (hb1.mono (by simp))
      have hy1 := hB1.size
      have hlt1 : wr.heap.size < w1.heap.size := by have := hb1.size; rw [size_alloc] at this; omega
      have k0 : w1.cell? ⟨wr.heap.size, 0, none⟩ = some (.string (bs [66, 79, 68, 89, 91])) := (hb1.cell (p := ⟨wr.heap.size, 0, none⟩) (by rw [size_alloc]; exact Nat.lt_succ_self _)).trans (row_cell hkO rfl)
      have k4 : w1.cell? ⟨wr.heap.size, 4, none⟩ = some (.bool false) := (hb1.cell (p := ⟨wr.heap.size, 4, none⟩) (by rw [size_alloc]; exact Nat.lt_succ_self _)).trans (row_cell hkO rfl)
      have hown0 : OwnS w1 wr.heap.size (.slice none 0 0) [] := World.ownsRow_nil _ _ _ _
      clear hkO hb1 hbO HCC HC c0 c1 c2 c3 c4 c5 c6 c7 m0 m1 m2 m3
      go_wp2_with (at_builtin; refine wpList_append_own _ rfl _ _ 29 rfl wr.heap.size 9 i0 (.string ⟨#[]⟩) 1 16 Tryz.underlying29 hi0 hz0 hz1 hz2 rfl (by decide) _ _ _ rfl (World.ownsRow.alloc hown0 _) ⟨w1.heap.size, 0, none⟩ 1 1 [.string (bs T)] rfl rfl ?e1 ?e2 ?e3 ?e4 ?e5 ?_)
      case e1 =>
        intro j u hj
        match j, hj with
        | 0, hj => simp at hj; subst hj; simp [Addr.add]
      case e2 => intro u hu; simp at hu; subst hu; rfl
      case e3 => unfold maxLen; simp
      case e4 => simp
      case e5 => simp; omega
      intro v' w2 hown' hgrow _
      have R1 : OwnS w2 wr.heap.size v' [T] := OwnS.step (l := []) hown'
      have R2 : Below wr.heap.size wr w2 := (hB1.alloc hy1 _).grown hgrow (by simp; omega) (fun k e => (World.ownsRow.lt hown0 k e).1)
      have hk2 : w2.heap[wr.heap.size]? = w1.heap[wr.heap.size]? := (hgrow.block wr.heap.size (by simp; omega) (by simp [Value.ownBlock])).trans (heap_old _ _ _ hlt1)
      have kk0 : w2.cell? ⟨wr.heap.size, 0, none⟩ = some (.string (bs [66, 79, 68, 89, 91])) := by rw [← k0]; simp only [World.cell?, hk2]
      have kk4 : w2.cell? ⟨wr.heap.size, 4, none⟩ = some (.bool false) := by rw [← k4]; simp only [World.cell?, hk2]
      clear hown' hgrow hown0 hk2 k0 k4
      go_wp2
      go_roundw
      case rel => exact .inr ⟨by first | rfl | trivial, R1, by first | rfl | trivial, R2⟩
      case measure => simp [intOf]
    · have hst := hown.strs
      have hT2 := TabQ.below (TabQ.below HT.out HB0.out) hB
      have hB9 := HB0.out.trans (hB.mono (by omega))
      have hz9 := hB9.size
      have HST := Lib.hid (fun w0 (h : Below wr.heap.size wr w0) => joinBl_any w0 u10 [T] (hst.below h) (by simp) (by simp [joinSp]; omega))
      clear hown hst hB
      go_wp2_with fail
      refine (itoaQ_any seq _ hs hT2).mono ?_
      rintro e w1 ⟨rfl, hb1⟩
      rw [HD.out]
      have HJ := Lib.hid (HST.out w1 hb1)
      clear HST hT2
      go_wp2_with fail
      refine HJ.out.mono ?_
      rintro e w2 ⟨rfl, hb2⟩
      have ej : joinSp [T] = T := by simp [joinSp]
      rw [ej]
      clear HJ
      go_wp2
      go_ret2
      exact ⟨by show _ = Ending.returned (.tuple #[.string (bs ([42, 32] ++ D ++ [32, 70, 69, 84, 67, 72, 32, 40] ++ T ++ [41, 13, 10])), .bool true]); rw [← fetch_sum]; rfl, hB9.trans ((hb1.trans (hb2.mono hb1.size)).mono hz9)⟩


end Go.Proofs.YthnkgifbbemhfaaGreatDoor
end

/- answer: the item RFC822.SIZE; alive; AnswerTexts. -/
set_option linter.unusedVariables false
set_option linter.unusedSimpArgs false
section
namespace Go.Proofs.YthnkgifbbemhfaaGreatDoor
open Go.RowKit Go

def sizeT (n : Nat) : List UInt8 := [82, 70, 67, 56, 50, 50, 46, 83, 73, 90, 69, 32] ++ Lib.decDigits n

set_option maxRecDepth 100000 in
set_option maxHeartbeats 2000000 in
theorem item_size (u f d : Int) (body : List UInt8) (pk pt : Bool) (fr ct : Int) (w : World) (hl : body.length ≤ 1000000000) (hT : TabQ w) :
    Calls Tryz.prog 25 #[.agg #[.int .i64 u, .int .i64 f, .int .i64 d, .string (bs body)], .agg #[.string (bs [82, 70, 67, 56, 50, 50, 46, 83, 73, 90, 69]), .slice none 0 0, .string ⟨#[]⟩, .slice none 0 0, .bool pk, .bool pt, .int .i64 fr, .int .i64 ct]] w fun e w' => e = .returned (.string (bs (sizeT body.length))) ∧ Below w.heap.size w w' := by
  have HT := Lib.hid hT
  have hdl := decq_length 10 body.length (by omega) (by omega)
  clear hT
  unfold sizeT
  obtain ⟨D, hD⟩ : ∃ D, Lib.decDigits body.length = D := ⟨_, rfl⟩
  have HD := Lib.hid hD
  rw [hD] at hdl ⊢
  clear hD
  go_enter Tryz.func25, Tryz.ntmps25
  go_wp2_with fail
  refine (body_any body _ hl).mono ?_
  rintro e w1 ⟨rfl, hb1⟩
  obtain ⟨g, hg⟩ : ∃ g, w.heap.size = g := ⟨_, rfl⟩
  have hmk : ∀ i v, (#[Value.int .i64 u, .int .i64 f, .int .i64 d, .string (bs body)] : Array Value)[i]? = some v → w1.cell? ⟨g, i, none⟩ = some v := by
    intro i v hv
    refine (hb1.cell (p := ⟨g, i, none⟩) (by simp; omega)).trans ?_
    rw [← hg]
    exact cell_alloc (row_cell (heap_new w _) hv) _
  have hik : ∀ i v, (#[Value.string (bs [82, 70, 67, 56, 50, 50, 46, 83, 73, 90, 69]), .slice none 0 0, .string ⟨#[]⟩, .slice none 0 0, .bool pk, .bool pt, .int .i64 fr, .int .i64 ct] : Array Value)[i]? = some v → w1.cell? ⟨g + 1, i, none⟩ = some v := by
    intro i v hv
    refine (hb1.cell (p := ⟨g + 1, i, none⟩) (by simp; omega)).trans ?_
    have h := heap_new (w.alloc (.cells #[.int .i64 u, .int .i64 f, .int .i64 d, .string (bs body)] 61)) (.cells #[.string (bs [82, 70, 67, 56, 50, 50, 46, 83, 73, 90, 69]), .slice none 0 0, .string ⟨#[]⟩, .slice none 0 0, .bool pk, .bool pt, .int .i64 fr, .int .i64 ct] 33)
    rw [size_alloc, hg] at h
    exact row_cell h hv
  have hB1 : Below w.heap.size w w1 := (((Below.refl _ w).alloc (Nat.le_refl _) _).alloc (by simp) _).trans (hb1.mono (by simp; omega))
  have m3 := hmk 3 _ rfl
  have i0 := hik 0 _ rfl
  have hz1 := hB1.size
  have hT1 := TabQ.below HT.out hB1
  rw [hg]
  clear hmk hik hb1
  go_wp2_with fail
  refine (itoaQ_any body.length _ (by omega) hT1).mono ?_
  rintro e w2 ⟨rfl, hb2⟩
  rw [HD.out]
  clear hT1
  go_wp2
  go_ret
  exact ⟨by show _ = Ending.returned (.string (bs ([82, 70, 67, 56, 50, 50, 46, 83, 73, 90, 69, 32] ++ D))); rw [← bs_append]; rfl, hB1.trans (hb2.mono hz1)⟩

def exB : List UInt8 := [65, 58, 32, 98, 13, 10, 13, 10, 99]
theorem exB_text : fetchT 2 (sizeT exB.length) = [42, 32, 50, 32, 70, 69, 84, 67, 72, 32, 40, 82, 70, 67, 56, 50, 50, 46, 83, 73, 90, 69, 32, 57, 41, 13, 10] := by
  have e1 : Lib.decDigits 2 = [50] := by decide +kernel
  have e2 : Lib.decDigits exB.length = [57] := by decide +kernel
  unfold fetchT sizeT
  rw [e1, e2]
  rfl

set_option maxRecDepth 100000 in
set_option maxHeartbeats 2000000 in
theorem ansAlive_any (w : World) (hT : TabQ w) : Calls Tryz.prog 7 #[] w fun e w' => e = .returned (.bool true) ∧ Below w.heap.size w w' := by
  have HT := Lib.hid hT
  have HX := Lib.hid exB_text
  clear hT
  go_enter Tryz.func7, Tryz.ntmps7
  go_wp2_with fail
  obtain ⟨W0, hW0⟩ : ∃ W0, w.alloc (.cells #[.string (bs [82, 70, 67, 56, 50, 50, 46, 83, 73, 90, 69]), .slice none 0 0, .string ⟨#[]⟩, .slice none 0 0, .bool false, .bool false, .int .i64 0, .int .i64 0] 33) = W0 := ⟨_, rfl⟩
  have hb0 : Below w.heap.size w W0 := by rw [← hW0]; exact (Below.refl _ _).alloc (Nat.le_refl _) _
  have hi0 : ItemAt W0 w.heap.size [82, 70, 67, 56, 50, 50, 46, 83, 73, 90, 69] false false 0 0 := by
    rw [← hW0]
    have h := heap_new w (.cells #[.string (bs [82, 70, 67, 56, 50, 50, 46, 83, 73, 90, 69]), .slice none 0 0, .string ⟨#[]⟩, .slice none 0 0, .bool false, .bool false, .int .i64 0, .int .i64 0] 33)
    exact ⟨row_cell h rfl, row_cell h rfl, row_cell h rfl, row_cell h rfl, row_cell h rfl, row_cell h rfl, row_cell h rfl, row_cell h rfl⟩
  have hT0 := TabQ.below HT.out hb0
  have HF := Lib.hid (fetch_size 2 0 0 0 exB (sizeT exB.length) w.heap.size false false 0 0 W0 (by omega) (by decide +kernel) hT0 hi0 (fun w0 h0 => item_size 0 0 0 exB false false 0 0 w0 (by decide) (TabQ.below hT0 h0)))
  have hz0 := hb0.size
  clear hi0 hT0
  rw [show (w.alloc (.cells #[.string { data := #[82, 70, 67, 56, 50, 50, 46, 83, 73, 90, 69] }, .slice none 0 0, .string { data := #[] }, .slice none 0 0, .bool false, .bool false, .int .i64 0, .int .i64 0] 33)) = W0 from hW0]
  clear hW0
  refine HF.out.mono ?_
  rintro e w1 ⟨rfl, hb1⟩
  rw [HX.out]
  clear HF
  go_wp2
  go_ret
  exact ⟨rfl, hb0.trans (hb1.mono hz0)⟩

set_option maxRecDepth 100000 in
set_option maxHeartbeats 2000000 in
theorem answerTexts_list (s t : List UInt8) (m : Int) (w : World) (hT : TabQ w) (hm : w.cell? ⟨2, 0, none⟩ = some (.int .i64 m)) :
    Calls Tryz.prog 4 #[.string (bs s), .string (bs t)] w fun e w' => e = .returned (.bool true) ∧ Below w.heap.size w w' := by
  have HT := Lib.hid hT
  have HM := Lib.hid hm
  clear hT hm
  go_enter Tryz.func4, Tryz.ntmps4
  go_wp2_with fail
  refine (ansAlive_any _ HT.out).mono ?_
  rintro e w1 ⟨rfl, hb1⟩
  have HM1 := fun w0 (h : Below w.heap.size w w0) => (h.cell (p := ⟨2, 0, none⟩) (cell_lt HM.out)).trans HM.out
  have HMM := Lib.hid HM1
  have HTT := Lib.hid (fun w0 (h : Below w.heap.size w w0) => TabQ.below HT.out h)
  clear HM1 HT HM
  by_cases h1 : 5000 < s.length
  · have h2 : (5000 : Int) < s.length := by omega
    go_wp2
    go_ret
    exact ⟨rfl, hb1⟩
  have h2 : (s.length : Int) ≤ 5000 := by omega
  by_cases h3 : 500 < t.length
  · have h4 : (500 : Int) < t.length := by omega
    go_wp2
    go_ret
    exact ⟨rfl, hb1⟩
  have h4 : (t.length : Int) ≤ 500 := by omega
  have hz1 := hb1.size
  go_wp2_with fail
  refine (literal_any s _ (by omega) (HTT.out _ hb1)).mono ?_
  rintro e w2 ⟨rfl, hb2⟩
  have hB2 := hb1.trans (hb2.mono hz1)
  have hz2 := hB2.size
  go_wp2_with fail
  refine (refLiteral_any s _ (by omega)).mono ?_
  rintro e w3 ⟨rfl, hb3⟩
  have hB3 := hB2.trans (hb3.mono hz2)
  have hz3 := hB3.size
  go_wp2_with fail
  refine (has_any s t m _ (by omega) (by omega) (HMM.out _ hB3)).mono ?_
  rintro e w4 ⟨rfl, hb4⟩
  have hB4 := hB3.trans (hb4.mono hz3)
  have hz4 := hB4.size
  go_wp2_with fail
  refine (refHas_any s t _ (by omega) (by omega)).mono ?_
  rintro e w5 ⟨rfl, hb5⟩
  have hB5 := hB4.trans (hb5.mono hz4)
  have hz5 := hB5.size
  go_wp2_with fail
  refine (has_any s [] m _ (by omega) (by simp) (HMM.out _ hB5)).mono ?_
  rintro e w6 ⟨rfl, hb6⟩
  have hB6 := hB5.trans (hb6.mono hz5)
  have hz6 := hB6.size
  have e1 : hasB s [] = true := contains_empty _
  rw [e1]
  clear e1
  go_wp2_with fail
  refine (has_any s s m _ (by omega) (by omega) (HMM.out _ hB6)).mono ?_
  rintro e w7 ⟨rfl, hb7⟩
  have hB7 := hB6.trans (hb7.mono hz6)
  have e1 : hasB s s = true := contains_self _
  rw [e1]
  clear e1
  go_wp2
  go_ret
  exact ⟨rfl, hB7⟩

abbrev Tab (w : World) : Prop := TabQ w
theorem tab_of_head {W : World} {rest : List (String × DataW Unit)} (h : laidMet Tryz.prog (("internal/strconv.uint64pow10", Lib.tabData .u64 Lib.pow10Tab) :: rest) W) : Tab W :=
  Lib.tabIs_of_head tabQNamed (by kernel_rfl) Tryz.underlying206 Tryz.underlying151 (by kernel_rfl) (by kernel_rfl) h
theorem answerTexts_any (s t : ByteArray) (w : World) (_ : s.size ≤ 9223372036854775807) (_ : t.size ≤ 9223372036854775807) (hT : Tab w) (m : Int) (hm : w.cell? ⟨2, 0, none⟩ = some (.int .i64 m)) :
    Calls Tryz.prog 4 #[.string s, .string t] w fun e w' => e = .returned (.bool true) ∧ Below w.heap.size w w' :=
  answerTexts_list s.data.toList t.data.toList m w hT hm

end Go.Proofs.YthnkgifbbemhfaaGreatDoor
end

/- answer: numbers of any sign: strconv.Itoa, the document's Digits. -/
set_option linter.unusedVariables false
set_option linter.unusedSimpArgs false
section
namespace Go.Proofs.YthnkgifbbemhfaaGreatDoor
open Go.RowKit Go

theorem itoaI_any (n : Int) (w : World) (h1 : -9223372036854775808 ≤ n) (h2 : n ≤ 9223372036854775807) (hT : TabQ w) : Calls Tryz.prog 26 #[.int .i64 n] w fun e w' => e = .returned (.string (bs (Lib.itoa n))) ∧ Below w.heap.size w w' := by
  refine (Tryz.strconv_Itoa n (by omega) (by omega) w hT).mono ?_
  rintro e w' ⟨rfl, k, os, rfl⟩
  exact ⟨by simp, Lib.below_grow _ _ (Nat.le_refl _) _ _⟩
theorem dec_split (N : Nat) (h : 10 ≤ N) : Lib.decDigits N = Lib.decDigits (N / 10) ++ Lib.decDigits (N % 10) := by
  have h1 : Lib.decDigits (N % 10) = [UInt8.ofNat (48 + N % 10)] := by rw [Lib.decDigits.eq_1, dif_pos (by omega)]
  conv => lhs; rw [Lib.decDigits.eq_1, dif_neg (by omega)]
  rw [h1]
theorem itoa_len (n : Int) (h1 : -9223372036854775808 ≤ n) (h2 : n ≤ 9223372036854775807) : (Lib.itoa n).length ≤ 20 := by
  unfold Lib.itoa
  split
  · have := decq_length 19 n.natAbs (by omega) (by omega)
    simp; omega
  · have := decq_length 19 n.toNat (by omega) (by omega)
    omega

set_option maxRecDepth 100000 in
set_option maxHeartbeats 1000000 in
theorem refDig22_any (n : Int) (w : World) (h1 : -9223372036854775808 ≤ n) (h2 : n ≤ 9223372036854775807) : Calls Tryz.prog 9 #[.int .i64 n] w fun e w' => e = .returned (.string (bs (Lib.itoa n))) ∧ Below w.heap.size w w' := by
  by_cases h0 : 0 ≤ n
  · obtain ⟨k, rfl⟩ := Int.eq_ofNat_of_zero_le h0
    have e : Lib.itoa (k : Int) = Lib.decDigits k := by
      unfold Lib.itoa
      rw [if_neg (by omega)]
      simp
    rw [e]
    clear e
    go_enter Tryz.func9, Tryz.ntmps9
    go_wp2_with fail
    refine (refDigits10_any k _ (by omega)).mono ?_
    rintro e w1 ⟨rfl, hb1⟩
    go_wp2
    go_ret
    exact ⟨rfl, hb1⟩
  · obtain ⟨N, hN⟩ : ∃ N : Nat, n = -(N : Int) := ⟨n.natAbs, by omega⟩
    have hNp : 0 < N := by omega
    have hNl : N ≤ 9223372036854775808 := by omega
    have e : Lib.itoa n = 45 :: Lib.decDigits N := by
      unfold Lib.itoa
      rw [if_pos (by omega), show n.natAbs = N by omega]
    rw [e]
    have er : n.tmod 10 = -((N % 10 : Nat) : Int) := by rw [hN, Int.neg_tmod, Int.tmod_eq_emod_of_nonneg (by omega)]; omega
    have eq : n.tdiv 10 = -((N / 10 : Nat) : Int) := by rw [hN, Int.neg_tdiv, Int.tdiv_eq_ediv_of_nonneg (by omega)]; omega
    have d1 := decq_length 19 (N / 10) (by omega) (by omega)
    have d2 := decq_length 2 (N % 10) (by omega) (by omega)
    have hneg : n < 0 := by omega
    by_cases h10 : N < 10
    · have e1 : N / 10 = 0 := by omega
      have e2 : N % 10 = N := by omega
      rw [e1] at eq
      rw [e2] at er
      rw [e2] at d2
      simp only [Int.natCast_zero, Int.neg_zero] at eq
      clear e1 e2 d1 e hN
      go_enter Tryz.func9, Tryz.ntmps9
      go_wp2_with fail
      refine (refDigits10_any N _ (by omega)).mono ?_
      rintro e w1 ⟨rfl, hb1⟩
      go_wp2
      go_ret
      exact ⟨by show _ = Ending.returned (.string (bs ([45] ++ Lib.decDigits N))); rw [← bs_append]; rfl, hb1⟩
    · have hsp := dec_split N (by omega)
      obtain ⟨A, hA⟩ : ∃ A, N / 10 = A := ⟨_, rfl⟩
      obtain ⟨B, hB⟩ : ∃ B, N % 10 = B := ⟨_, rfl⟩
      rw [hA] at hsp d1 eq
      rw [hB] at hsp d2 er
      have hA0 : 0 < A := by omega
      have hA1 : A ≤ 922337203685477580 := by omega
      have hB1 : B < 10 := by omega
      have hAz : (-(-(A : Int)) == 0) = false := by rw [beq_eq_false_iff_ne]; omega
      have hAz2 : ((A : Int) == 0) = false := by rw [beq_eq_false_iff_ne]; omega
      rw [hsp]
      clear e hN hsp hA hB hNl h10
      go_enter Tryz.func9, Tryz.ntmps9
      go_wp2_with fail
      refine (refDigits10_any A _ (by omega)).mono ?_
      rintro e w1 ⟨rfl, hb1⟩
      go_wp2_with fail
      refine (refDigits10_any B _ (by omega)).mono ?_
      rintro e w2 ⟨rfl, hb2⟩
      go_wp2
      go_ret
      exact ⟨by show _ = Ending.returned (.string (bs (([45] ++ Lib.decDigits A) ++ Lib.decDigits B))); rw [← bs_append, ← bs_append]; rfl, hb1.trans (hb2.mono hb1.size)⟩

end Go.Proofs.YthnkgifbbemhfaaGreatDoor
end

/- A slice of strings that came in. -/
set_option linter.unusedVariables false
set_option linter.unusedSimpArgs false
section
namespace Go.Proofs.YthnkgifbbemhfaaGreatDoor
open Go.RowKit

theorem cellsOf_str : Tryz.prog.cellsOf 9 = 1 := by kernel_rfl

/-- an argument that reads as the strings ls -/
def ArgS (w : World) (v : Value) (ls : List (List UInt8)) : Prop :=
  (∃ a c, v = .slice a 0 c ∧ ls = []) ∨ ∃ (b o c : Nat), v = .slice (some ⟨b, o, none⟩) ls.length c ∧ 0 < ls.length ∧ b < w.heap.size ∧ ∀ j, j < ls.length → w.cell? ⟨b, o + j, none⟩ = some (.string (bs (ls.getD j [])))

theorem bs_data (s : ByteArray) : bs s.data.toList = s := by
  apply ByteArray.ext
  simp

theorem arg_strs {H : Type} {enc : TypeId × Value → H} {W : World} {t : TypeId} (ht : Tryz.prog.underlying t = some (.slice 9)) {a0 : Option Addr} {len cap : Nat} {d : DataW H} {p : List MemPlace}
    (h0 : DataW.Trod enc Tryz.prog W 0 (fun _ => true) true t (.slice a0 len cap) d p) : ∃ ls, ArgS W (.slice a0 len cap) ls ∧ ls.length ≤ maxLen ∧ ∀ l ∈ ls, l.length ≤ maxLen := by
  obtain ⟨fuel, hf⟩ := h0
  have hlt := DataW.trod_lt _ _ _ _ hf
  rcases Go.ChangeShapes.open_strings ht Tryz.underlying9 cellsOf_str hf with ⟨hcs, hx⟩ | ⟨a, len', cap', ss, hcs, _, hl, hm, hz, hx, hcell, hws⟩
  · simp [Value.cells] at hcs
    obtain ⟨rfl, rfl, rfl⟩ := hcs
    exact ⟨[], .inl ⟨_, _, rfl, rfl⟩, by simp, by simp⟩
  · simp [Value.cells] at hcs
    obtain ⟨rfl, rfl, rfl⟩ := hcs
    simp only [Prod.mk.injEq] at hx
    obtain ⟨rfl, rfl⟩ := hx
    simp only [if_true] at hz
    by_cases h1 : len = 0
    · subst h1
      exact ⟨[], .inl ⟨_, _, rfl, rfl⟩, by simp, by simp⟩
    · obtain ⟨b, off, spot⟩ := a
      have hspot : spot = none := by simpa [Addr.add] using World.cell?_spot (hcell 0 (by omega))
      subst hspot
      have hlen : ((ss.take len).map (fun s => s.data.toList)).length = len := by simp; omega
      refine ⟨(ss.take len).map (fun s => s.data.toList), .inr ⟨b, off, cap, by rw [hlen], by omega, ?_, fun j hj => ?_⟩, by rw [hlen]; omega, ?_⟩
      · exact hlt (.cell b off) (MemPlace.mem_row.2 ⟨0, by omega, by simp⟩)
      · rw [hlen] at hj
        have := hcell j (by omega)
        have e0 : (⟨b, off, none⟩ : Addr).add j = ⟨b, off + j, none⟩ := by unfold Addr.add; split <;> simp_all
        rw [e0] at this
        rw [this]
        have e : ((ss.take len).map (fun s => s.data.toList)).getD j [] = (ss.getD j ByteArray.empty).data.toList := by
          simp [List.getD, hj, show j < ss.length by omega]
        rw [e, bs_data]
      · intro l hl9
        obtain ⟨s, hs, rfl⟩ := List.mem_map.1 hl9
        have := hws s (List.mem_of_mem_take hs)
        simpa using this

end Go.Proofs.YthnkgifbbemhfaaGreatDoor
end

/- answer.Status: the walk. -/
set_option linter.unusedVariables false
set_option linter.unusedSimpArgs false
section
namespace Go.Proofs.YthnkgifbbemhfaaGreatDoor
open Go.RowKit Go Go.Maps

theorem ArgS.belowW {w w' : World} {v : Value} {ls : List (List UInt8)} (h : ArgS w v ls) (hb : Below w.heap.size w w') : ArgS w' v ls := by
  rcases h with h | ⟨b, o, c, h1, h2, h3, h4⟩
  · exact .inl h
  · exact .inr ⟨b, o, c, h1, h2, Nat.lt_of_lt_of_le h3 hb.size, fun j hj => (hb.cell (p := ⟨b, o + j, none⟩) h3).trans (h4 j hj)⟩
/-- a message of a box -/
structure Msg where
  uid : Int
  flags : Int
  date : Int
  body : List UInt8
/-- a slice of messages reads as ms -/
def MsgsAt (w : World) (v : Value) (ms : List Msg) : Prop := ∃ a c, v = .slice a ms.length c ∧ (ms ≠ [] → ∃ b o, a = some ⟨b, o, none⟩ ∧ b < w.heap.size ∧ ∀ (k : Nat) (x : Msg), ms[k]? = some x →
    w.cell? ⟨b, o + k * 4, none⟩ = some (.int .i64 x.uid) ∧ w.cell? ⟨b, o + k * 4 + 1, none⟩ = some (.int .i64 x.flags) ∧ w.cell? ⟨b, o + k * 4 + 2, none⟩ = some (.int .i64 x.date) ∧ w.cell? ⟨b, o + k * 4 + 3, none⟩ = some (.string (bs x.body)))
theorem MsgsAt.below {w w' : World} {v : Value} {ms : List Msg} (h : MsgsAt w v ms) (hb : Below w.heap.size w w') : MsgsAt w' v ms := by
  obtain ⟨a, c, h1, h2⟩ := h
  refine ⟨a, c, h1, fun hne => ?_⟩
  obtain ⟨b, o, h3, h4, h5⟩ := h2 hne
  have f : ∀ i v, w.cell? ⟨b, i, none⟩ = some v → w'.cell? ⟨b, i, none⟩ = some v := fun i v e => (hb.cell (p := ⟨b, i, none⟩) h4).trans e
  exact ⟨b, o, h3, Nat.lt_of_lt_of_le h4 hb.size, fun k x hx => ⟨f _ _ (h5 k x hx).1, f _ _ (h5 k x hx).2.1, f _ _ (h5 k x hx).2.2.1, f _ _ (h5 k x hx).2.2.2⟩⟩
/-- is a message seen? -/
def unseenB (f : Int) : Bool := bits BinOp.and IntKind.i64 f 1 == 0
def unseenN (ms : List Msg) : Nat := (ms.filter fun x => unseenB x.flags).length

/-- what is asked of a box -/
def kMsgs : List UInt8 := [77, 69, 83, 83, 65, 71, 69, 83]
def kNext : List UInt8 := [85, 73, 68, 78, 69, 88, 84]
def kValid : List UInt8 := [85, 73, 68, 86, 65, 76, 73, 68, 73, 84, 89]
def kUnseen : List UInt8 := [85, 78, 83, 69, 69, 78]
def statN (n nx vd u : Int) (x : List UInt8) : Int := if x = kMsgs then n else if x = kNext then nx else if x = kValid then vd else if x = kUnseen then u else 0
abbrev i64D (n : Int) : DataW Unit := .lit (.int .i64 n)
def statD (n nx vd u : Int) : DataW Unit := ((((DataW.map []).put (.string kMsgs) (i64D n)).put (.string kNext) (i64D nx)).put (.string kValid) (i64D vd)).put (.string kUnseen) (i64D u)
theorem statD_at (n nx vd u : Int) (x : List UInt8) : (statD n nx vd u).atKey (.string x) (i64D 0) = i64D (statN n nx vd u x) := by
  have m0 : IsMap (DataW.map [] : DataW Unit) := isMap_empty
  have m1 := m0.put (.string kMsgs) (i64D n)
  have m2 := m1.put (.string kNext) (i64D nx)
  have m3 := m2.put (.string kValid) (i64D vd)
  have ne : ∀ a b : List UInt8, a ≠ b → (Lit.string a) ≠ .string b := fun a b h e => h (by injection e)
  unfold statD statN
  by_cases h4 : x = kUnseen
  · rw [h4, if_neg (by decide), if_neg (by decide), if_neg (by decide), if_pos rfl]
    exact atKey_put_same m3 (by simp [WideAt.IsKeyLit]) _ _
  rw [atKey_put_other (ne _ _ h4)]
  by_cases h3 : x = kValid
  · rw [h3, if_neg (by decide), if_neg (by decide), if_pos rfl]
    exact atKey_put_same m2 (by simp [WideAt.IsKeyLit]) _ _
  rw [atKey_put_other (ne _ _ h3)]
  by_cases h2 : x = kNext
  · rw [h2, if_neg (by decide), if_pos rfl]
    exact atKey_put_same m1 (by simp [WideAt.IsKeyLit]) _ _
  rw [atKey_put_other (ne _ _ h2)]
  by_cases h1 : x = kMsgs
  · rw [h1, if_pos rfl]
    exact atKey_put_same m0 (by simp [WideAt.IsKeyLit]) _ _
  rw [atKey_put_other (ne _ _ h1), if_neg h1, if_neg h2, if_neg h3, if_neg h4]
  rfl
theorem mapLaw : Keyed Tryz.prog 9 := string_keyed Tryz.underlying9
theorem zeroInt (w : World) : (zeroValue 3).run Tryz.prog w = .ok (.int .i64 0) w := by kernel_rfl
theorem ownsMap_block {w w' : World} {b n : Nat} {D : DataW Unit} (h : w.ownsMap Tryz.prog 9 (plainElem Tryz.prog 3) b n D) (hb : w'.heap[b]? = w.heap[b]?) : w'.ownsMap Tryz.prog 9 (plainElem Tryz.prog 3) b n D := by
  obtain ⟨es, clock, h1, h2⟩ := h
  exact ⟨es, clock, hb.trans h1, h2⟩
theorem statN_bd {n nx vd u : Int} {x : List UInt8} (hnx : (Lit.int .i64 nx).wf = true) (hvd : (Lit.int .i64 vd).wf = true) (hn : 0 ≤ n ∧ n ≤ 1000) (hu : 0 ≤ u ∧ u ≤ 1000) : -9223372036854775808 ≤ statN n nx vd u x ∧ statN n nx vd u x ≤ 9223372036854775807 := by
  simp [Lit.wf, IntKind.min, IntKind.max, IntKind.signed, IntKind.bits] at hnx hvd
  unfold statN
  repeat' split
  all_goals omega
/-- a word with its number -/
def stW (n nx vd u : Int) (x : List UInt8) : List UInt8 := x ++ [32] ++ Lib.itoa (statN n nx vd u x)
/-- a box's status -/
def statT (nm : List UInt8) (n nx vd u : Int) (ws : List (List UInt8)) : List UInt8 := [42, 32, 83, 84, 65, 84, 85, 83, 32] ++ qtL nm ++ [32, 40] ++ joinSp (ws.map (stW n nx vd u)) ++ [41, 13, 10]

theorem qtL_len2 (s : List UInt8) (h : s.length ≤ 1000000000) : (qtL s).length ≤ 2 * s.length + 20 := by
  unfold qtL
  split
  · have := escL_len s
    simp
    omega
  · have := decq_length 10 s.length (by omega) (by omega)
    simp
    omega
theorem stat_sum (q t : List UInt8) : ({ data := #[42, 32, 83, 84, 65, 84, 85, 83, 32] } : ByteArray) ++ bs q ++ { data := #[32, 40] } ++ bs t ++ { data := #[41] } ++ { data := #[13, 10] } = bs ([42, 32, 83, 84, 65, 84, 85, 83, 32] ++ q ++ [32, 40] ++ t ++ [41, 13, 10]) := by
  simp only [bs_append]
  congr 1
  simp
theorem OwnS.kept {w w' : World} {B : Nat} {v : Value} {ls : List (List UInt8)} (h : OwnS w B v ls) (hb : Below w.heap.size w w') : OwnS w' B v ls := by
  have hl := World.ownsRow.lt h
  refine ⟨h.1, ?_⟩
  rcases h.2 with h0 | ⟨g, cap, cur, rfl, h1, h2, r⟩
  · exact .inl h0
  · exact .inr ⟨g, cap, cur, rfl, h1, (hb.block g (hl g rfl).2).trans h2, r⟩

set_option maxRecDepth 100000 in
set_option maxHeartbeats 4000000 in
theorem status_any (us vd nx : Int) (nm : List UInt8) (mv wv : Value) (ms : List Msg) (ws : List (List UInt8)) (m : Int) (w : World) (hm : w.cell? ⟨2, 0, none⟩ = some (.int .i64 m)) (hT : TabQ w) (hmv : MsgsAt w mv ms) (hwv : ArgS w wv ws) (hml : ms.length ≤ 500) (hwl : ws.length ≤ 50) (hwn : ∀ x ∈ ws, x.length ≤ 100) (hnl : nm.length ≤ 500) (hnx : (Lit.int .i64 nx).wf = true) (hvd : (Lit.int .i64 vd).wf = true) :
    Calls Tryz.prog 14 #[.agg #[.int .i64 us, .string (bs nm), .int .i64 vd, .int .i64 nx, mv], wv] w fun e w' => e = .returned (.string (bs (statT nm ms.length nx vd (unseenN ms) ws))) ∧ Below w.heap.size w w' := by
  have HT := Lib.hid hT
  have HM := Lib.hid hm
  have HMV := Lib.hid hmv
  have HWV := Lib.hid hwv
  obtain ⟨ma, mc, rfl, hmc⟩ := hmv
  have HMC := Lib.hid hmc
  clear hm hT hwv hmc
  have hmm := @run_makeMap Tryz.prog
  go_enter Tryz.func14, Tryz.ntmps14
  go_wp2
  obtain ⟨W0, hW0⟩ : ∃ W0, w.alloc (.cells #[.int .i64 us, .string (bs nm), .int .i64 vd, .int .i64 nx, .slice ma ms.length mc] 41) = W0 := ⟨_, rfl⟩
  have hb0 : Below w.heap.size w W0 := by rw [← hW0]; exact (Below.refl _ _).alloc (Nat.le_refl _) _
  have hk0 : W0.heap[w.heap.size]? = some (.cells #[.int .i64 us, .string (bs nm), .int .i64 vd, .int .i64 nx, .slice ma ms.length mc] 41) := by rw [← hW0]; exact heap_new _ _
  rw [hW0]
  obtain ⟨g, hg⟩ : ∃ g, w.heap.size = g := ⟨_, rfl⟩
  rw [hg] at hk0 ⊢
  have g1 : W0.cell? ⟨g, 1, none⟩ = some (.string (bs nm)) := row_cell hk0 rfl
  have g2 : W0.cell? ⟨g, 2, none⟩ = some (.int .i64 vd) := row_cell hk0 rfl
  have g3 : W0.cell? ⟨g, 3, none⟩ = some (.int .i64 nx) := row_cell hk0 rfl
  have g4 : W0.cell? ⟨g, 4, none⟩ = some (.slice ma ms.length mc) := row_cell hk0 rfl
  have HK0 := Lib.hid hk0
  clear hW0 hk0
  go_loopw [5, 15] (fun u i wr => ∃ k : Nat, k ≤ ms.length ∧ i = .int .i64 k ∧ u = .int .i64 (unseenN (ms.take k)) ∧ Below W0.heap.size W0 wr) (fun _ i _ => ms.length - (intOf i).toNat)
  case atStart => exact ⟨0, Nat.zero_le _, rfl, rfl, Below.refl _ _⟩
  case round =>
    obtain ⟨k, hk, rfl, rfl, hB⟩ := hrel
    have hzr := hB.size
    by_cases hlt : k < ms.length
    · obtain ⟨x, hx⟩ : ∃ x, ms[k]? = some x := ⟨_, List.getElem?_eq_getElem hlt⟩
      obtain ⟨b, o, rfl, hbl, hc⟩ := HMC.out (by rintro rfl; simp at hlt)
      obtain ⟨x0, x1, x2, x3⟩ := hc k x hx
      have hbl0 : b < W0.heap.size := by have := hb0.size; omega
      have lift : ∀ i v, w.cell? ⟨b, i, none⟩ = some v → wr.cell? ⟨b, i, none⟩ = some v := fun i v e => (hB.cell (p := ⟨b, i, none⟩) hbl0).trans ((hb0.cell (p := ⟨b, i, none⟩) hbl).trans e)
      have x0 := lift _ _ x0
      have x1 := lift _ _ x1
      have x2 := lift _ _ x2
      have x3 := lift _ _ x3
      have hlt' : (k : Int) < ms.length := by omega
      have htk : ms.take (k + 1) = ms.take k ++ [x] := by rw [List.take_add_one, hx]; rfl
      have hun : unseenN (ms.take (k + 1)) = unseenN (ms.take k) + (if unseenB x.flags = true then 1 else 0) := by
        rw [htk]
        unfold unseenN
        rw [List.filter_append, List.length_append]
        congr 1
        by_cases h : unseenB x.flags = true
        · simp [h]
        · simp [h]
      have hul : unseenN (ms.take k) ≤ k := by
        unfold unseenN
        have := List.length_filter_le (fun x : Msg => unseenB x.flags) (ms.take k)
        rw [List.length_take] at this
        omega
      obtain ⟨U, hU⟩ : ∃ U, unseenN (ms.take k) = U := ⟨_, rfl⟩
      rw [hU] at hun hul ⊢
      have HUN := Lib.hid hun
      clear hc lift hx htk hun hU
      rcases hb : (bits BinOp.and IntKind.i64 x.flags 1 == 0) with _ | _
      · go_wp2
        go_roundw
        case rel => exact ⟨k + 1, by omega, by go_num, by rw [HUN.out, if_neg (by unfold unseenB; rw [hb]; simp)]; rfl, hB.alloc hzr _⟩
        case measure => simp [intOf]; omega
      · go_wp2
        go_roundw
        case rel => exact ⟨k + 1, by omega, by go_num, by rw [HUN.out, if_pos (by unfold unseenB; rw [hb])]; rfl, hB.alloc hzr _⟩
        case measure => simp [intOf]; omega
    · obtain rfl : k = ms.length := by omega
      rw [List.take_length]
      have lift : ∀ i v, W0.cell? ⟨g, i, none⟩ = some v → wr.cell? ⟨g, i, none⟩ = some v := fun i v e => (hB.cell (p := ⟨g, i, none⟩) (cell_lt e)).trans e
      have g1 := lift _ _ g1
      have g2 := lift _ _ g2
      have g3 := lift _ _ g3
      have g4 := lift _ _ g4
      have G0 : wr.heap[g]? = some (.cells #[.int .i64 us, .string (bs nm), .int .i64 vd, .int .i64 nx, .slice ma ms.length mc] 41) := (hB.block g (Array.getElem?_eq_some_iff.1 HK0.out).1).trans HK0.out
      have hgl : g < wr.heap.size := (Array.getElem?_eq_some_iff.1 G0).1
      have hul : unseenN ms ≤ 500 := by
        unfold unseenN
        have := List.length_filter_le (fun x : Msg => unseenB x.flags) ms
        omega
      have q4 := cell_alloc g4 (.map #[] 0)
      have own0 : (wr.alloc (.map #[] 0)).ownsMap (H := Unit) Tryz.prog 9 (plainElem Tryz.prog 3) wr.heap.size 0 (.map []) := World.ownsMap_made _ _ _ _
      obtain ⟨mb, hmb⟩ : ∃ mb, wr.heap.size = mb := ⟨_, rfl⟩
      have G1 : (wr.alloc (.map #[] 0)).heap[g]? = some (.cells #[.int .i64 us, .string (bs nm), .int .i64 vd, .int .i64 nx, .slice ma ms.length mc] 41) := (heap_old wr _ g hgl).trans G0
      have hsz1 : (wr.alloc (.map #[] 0)).heap.size = mb + 1 := by simp [hmb]
      have hgm : g < mb := by omega
      have hBa := hB.alloc hzr (.map #[] 0)
      rw [hmb] at own0
      clear lift g1 g2 g3 g4
      have f1 : (Lit.int .i64 (ms.length : Int)).wf = true := WalkArith.wf_i64 (by omega)
      have f4 : (Lit.int .i64 (unseenN ms : Int)).wf = true := WalkArith.wf_i64 (by omega)
      obtain ⟨w1, run1, own1, grow1⟩ := World.ownsMap.update own0 mapLaw Tryz.underlying64 (by unfold maxLen; omega) (show keyOf Tryz.prog 9 (.string ⟨#[77, 69, 83, 83, 65, 71, 69, 83]⟩) = some (.string kMsgs) from Go.WideMaps.keyOf_string_mk Tryz.underlying9 (by decide)) (plainElem_int (H := Unit) Tryz.underlying3 (a := (ms.length : Int)) f1)
      have hz1 : (wr.alloc (.map #[] 0)).heap.size ≤ w1.heap.size := grow1.size
      have G2 : w1.heap[g]? = some (.cells #[.int .i64 us, .string (bs nm), .int .i64 vd, .int .i64 nx, .slice ma ms.length mc] 41) := (grow1.block g (by omega) (by simp; omega)).trans G1
      have B1 : Below W0.heap.size W0 w1 := hBa.grown grow1 (by omega) (fun j hj => by cases hj; omega)
      have c3 : w1.cell? ⟨g, 3, none⟩ = some (.int .i64 nx) := row_cell G2 rfl
      clear own0 grow1
      obtain ⟨w2, run2, own2, grow2⟩ := World.ownsMap.update own1 mapLaw Tryz.underlying64 (by unfold maxLen; omega) (show keyOf Tryz.prog 9 (.string ⟨#[85, 73, 68, 78, 69, 88, 84]⟩) = some (.string kNext) from Go.WideMaps.keyOf_string_mk Tryz.underlying9 (by decide)) (plainElem_int (H := Unit) Tryz.underlying3 (a := nx) hnx)
      have hz2 : w1.heap.size ≤ w2.heap.size := grow2.size
      have G3 : w2.heap[g]? = some (.cells #[.int .i64 us, .string (bs nm), .int .i64 vd, .int .i64 nx, .slice ma ms.length mc] 41) := (grow2.block g (by omega) (by simp; omega)).trans G2
      have B2 : Below W0.heap.size W0 w2 := B1.grown grow2 (by omega) (fun j hj => by cases hj; omega)
      have c2 : w2.cell? ⟨g, 2, none⟩ = some (.int .i64 vd) := row_cell G3 rfl
      clear own1 grow2 G1 hBa
      obtain ⟨w3, run3, own3, grow3⟩ := World.ownsMap.update own2 mapLaw Tryz.underlying64 (by unfold maxLen; omega) (show keyOf Tryz.prog 9 (.string ⟨#[85, 73, 68, 86, 65, 76, 73, 68, 73, 84, 89]⟩) = some (.string kValid) from Go.WideMaps.keyOf_string_mk Tryz.underlying9 (by decide)) (plainElem_int (H := Unit) Tryz.underlying3 (a := vd) hvd)
      have hz3 : w2.heap.size ≤ w3.heap.size := grow3.size
      have G4 : w3.heap[g]? = some (.cells #[.int .i64 us, .string (bs nm), .int .i64 vd, .int .i64 nx, .slice ma ms.length mc] 41) := (grow3.block g (by omega) (by simp; omega)).trans G3
      have B3 : Below W0.heap.size W0 w3 := B2.grown grow3 (by omega) (fun j hj => by cases hj; omega)
      clear own2 grow3
      obtain ⟨w4, run4, own4, grow4⟩ := World.ownsMap.update own3 mapLaw Tryz.underlying64 (by unfold maxLen; omega) (show keyOf Tryz.prog 9 (.string ⟨#[85, 78, 83, 69, 69, 78]⟩) = some (.string kUnseen) from Go.WideMaps.keyOf_string_mk Tryz.underlying9 (by decide)) (plainElem_int (H := Unit) Tryz.underlying3 (a := (unseenN ms : Int)) f4)
      have hz4 : w3.heap.size ≤ w4.heap.size := grow4.size
      have G5 : w4.heap[g]? = some (.cells #[.int .i64 us, .string (bs nm), .int .i64 vd, .int .i64 nx, .slice ma ms.length mc] 41) := (grow4.block g (by omega) (by simp; omega)).trans G4
      have B4 : Below W0.heap.size W0 w4 := B3.grown grow4 (by omega) (fun j hj => by cases hj; omega)
      clear own3 grow4 hz1 hz2 hz3 G0 G2 G3 G4 B1 B2 B3
      have hD : (((((DataW.map []).put (Lit.string kMsgs) (DataW.lit (Lit.int IntKind.i64 (ms.length : Int)))).put (Lit.string kNext) (DataW.lit (Lit.int IntKind.i64 nx))).put (Lit.string kValid) (DataW.lit (Lit.int IntKind.i64 vd))).put (Lit.string kUnseen) (DataW.lit (Lit.int IntKind.i64 (unseenN ms : Int)))) = (statD ms.length nx vd (unseenN ms)) := rfl
      rw [hD] at own4
      have HOWN := Lib.hid own4
      have mlt : mb < w4.heap.size := World.ownsMap.lt own4
      have hbw4 : Below w.heap.size w w4 := hb0.trans (B4.mono hb0.size)
      have hv4 := HWV.out.belowW hbw4
      have HG := Lib.hid G5
      have HB4 := Lib.hid B4
      have hz5 := hbw4.size
      obtain ⟨n0, hn0⟩ : ∃ n : Int, (ms.length : Int) = n := ⟨_, rfl⟩
      obtain ⟨u0, hu0⟩ : ∃ u : Int, (unseenN ms : Int) = u := ⟨_, rfl⟩
      have HN0 := Lib.hid hn0
      have HU0 := Lib.hid hu0
      clear own4 hD G5 B4 hz4 HMC HMV hn0 hu0
      obtain ⟨i0, hi0, hy0, hy1, hy2⟩ := info_parts info_str
      have hjn : ∀ ls : List (List UInt8), (∀ x ∈ ls, x.length ≤ 200) → (joinSp ls).length ≤ ls.length * 201 := by
        intro ls h
        have h1 := joinSp_len ls
        have h2 : ls.flatten.length ≤ ls.length * 200 := by
          clear h1
          induction ls with
          | nil => simp
          | cons x r ih =>
            have h3 := h x (by simp)
            have h4 := ih (fun y hy => h y (List.mem_cons_of_mem _ hy))
            simp only [List.flatten_cons, List.length_append, List.length_cons, Nat.add_mul]
            omega
        omega
      have HJN := Lib.hid hjn
      clear hjn
      obtain ⟨wa, wo, rfl⟩ : ∃ wa wc, wv = .slice wa ws.length wc := by
        rcases hv4 with ⟨_, _, rfl, rfl⟩ | ⟨b, o, c, rfl, _⟩
        · exact ⟨_, _, rfl⟩
        · exact ⟨_, _, rfl⟩
      have HV4 := Lib.hid hv4
      clear hv4 HWV
      go_wp2_with fail
      go_loopw [9, 38] (fun out i wr => ∃ k : Nat, k ≤ ws.length ∧ i = .int .i64 k ∧ OwnS wr w4.heap.size out ((ws.take k).map (stW n0 nx vd u0)) ∧ Below w4.heap.size w4 wr) (fun _ i _ => ws.length - (intOf i).toNat)
      case atStart => exact ⟨0, Nat.zero_le _, rfl, World.ownsRow_nil _ _ _ _, Below.refl _ _⟩
      case round =>
        obtain ⟨k, hk, rfl, hown, hB⟩ := hrel
        have hzr := hB.size
        have hBw := hbw4.trans (hB.mono hz5)
        by_cases hlt : k < ws.length
        · obtain ⟨x, hx⟩ : ∃ x, ws[k]? = some x := ⟨_, List.getElem?_eq_getElem hlt⟩
          have hxd : ws.getD k [] = x := by simp [List.getD, hx]
          obtain ⟨b, o, c, hform, _, _, hc⟩ := (HV4.out.belowW hB).resolve_left (by rintro ⟨_, _, _, h⟩; rw [h] at hlt; simp at hlt)
          obtain ⟨rfl, rfl⟩ : wa = some ⟨b, o, none⟩ ∧ wo = c := by simpa using hform
          have cx := hc k hlt
          rw [hxd] at cx
          have hxl := hwn x (List.mem_of_getElem? hx)
          have hown2 := ownsMap_block HOWN.out (hB.block mb mlt)
          obtain ⟨c, hrun, hat, hwc⟩ := hown2.lookup_int mapLaw Tryz.underlying64 Tryz.underlying3 (zeroInt _) (show keyOf Tryz.prog 9 (.string (bs x)) = some (.string x) from by
            rw [Go.WideMaps.keyOf_string_mk Tryz.underlying9 (by rw [bs_size]; unfold maxLen; omega)])
          have hce : statN n0 nx vd u0 x = c := by
            rw [← HN0.out, ← HU0.out]
            have h1 := (statD_at (ms.length : Int) nx vd (unseenN ms : Int) x).symm.trans hat
            injection h1 with h1
            injection h1
          have hcb : -9223372036854775808 ≤ c ∧ c ≤ 9223372036854775807 := by
            simp [Lit.wf, IntKind.min, IntKind.max, IntKind.signed, IntKind.bits] at hwc
            omega
          have hil := itoa_len c hcb.1 hcb.2
          have htk : (ws.take (k + 1)).map (stW n0 nx vd u0) = (ws.take k).map (stW n0 nx vd u0) ++ [x ++ [32] ++ Lib.itoa c] := by
            rw [List.take_add_one, hx]
            simp [stW, hce]
          have HTK := Lib.hid htk
          have hlt' : (k : Int) < ws.length := by omega
          have hTr := TabQ.below HT.out hBw
          have HIT := Lib.hid (itoaI_any c wr hcb.1 hcb.2 hTr)
          have hkl : ((ws.take k).map (stW n0 nx vd u0)).length ≤ 50 := by rw [List.length_map, List.length_take]; omega
          obtain ⟨LL, hLL⟩ : ∃ LL, (ws.take k).map (stW n0 nx vd u0) = LL := ⟨_, rfl⟩
          rw [hLL] at hown hkl HTK
          clear hx hxd hform hc hat hwc hce htk hTr hown2 hLL hcb
          go_wp2_with fail
          refine HIT.out.mono ?_
          rintro e w5 ⟨rfl, hb5⟩
          have hown5 : OwnS w5 w4.heap.size u9 LL := OwnS.kept hown hb5
          have hB5 := hB.trans (hb5.mono hzr)
          have hzq := hB5.size
          clear hown HIT hrun
          have hlo := World.ownsRow.lt hown5
          go_wp2_with (at_builtin; refine wpList_append_own _ rfl _ _ 29 rfl w4.heap.size 9 i0 (.string ⟨#[]⟩) 1 16 Tryz.underlying29 hi0 hy0 hy1 hy2 rfl (by decide) _ _ _ rfl (World.ownsRow.alloc hown5 _) ⟨w5.heap.size, 0, none⟩ 1 1 [.string (bs x ++ ⟨#[32]⟩ ++ bs (Lib.itoa c))] rfl rfl ?e1 ?e2 ?e3 ?e4 ?e5 ?_)
          case e1 =>
            intro j u hj
            match j, hj with
            | 0, hj => simp at hj; subst hj; simp [Addr.add]
          case e2 => intro u hu; simp at hu; subst hu; rfl
          case e3 => unfold maxLen; omega
          case e4 => first | omega | (simp; omega)
          case e5 => simp; omega
          intro v' w6 hown' hgrow _
          have hcat : bs x ++ ⟨#[32]⟩ ++ bs (Lib.itoa c) = bs (x ++ [32] ++ Lib.itoa c) := by rw [← bs_append, ← bs_append]
          rw [hcat] at hown'
          have R1 : OwnS w6 w4.heap.size v' (LL ++ [x ++ [32] ++ Lib.itoa c]) := OwnS.step hown'
          have R2 : Below w4.heap.size w4 w6 := (hB5.alloc hzq _).grown hgrow (by simp; omega) (fun k e => (hlo k e).1)
          clear hown' hgrow hown5
          go_wp2
          go_roundw
          case rel => exact ⟨k + 1, by omega, by go_num, by rw [HTK.out]; exact R1, R2⟩
          case measure => simp [intOf]; omega
        · obtain rfl : k = ws.length := by omega
          rw [List.take_length] at hown
          have hTr := TabQ.below HT.out hBw
          have hmr := (hBw.cell (p := ⟨2, 0, none⟩) (cell_lt HM.out)).trans HM.out
          have g1 : wr.cell? ⟨g, 1, none⟩ = some (.string (bs nm)) := (hB.cell (p := ⟨g, 1, none⟩) (Array.getElem?_eq_some_iff.1 HG.out).1).trans (row_cell HG.out rfl)
          go_wp2_with fail
          obtain ⟨LL, hLL⟩ : ∃ LL, ws.map (stW n0 nx vd u0) = LL := ⟨_, rfl⟩
          have hlen : ∀ y ∈ LL, y.length ≤ 200 := by
            intro y hy
            rw [← hLL] at hy
            obtain ⟨x, hx, rfl⟩ := List.mem_map.1 hy
            have h1 := hwn x hx
            have h2 := statN_bd (n := n0) (u := u0) (x := x) hnx hvd (by have := HN0.out; omega) (by have := HU0.out; omega)
            have h3 := itoa_len _ h2.1 h2.2
            unfold stW
            simp only [List.length_append, List.length_cons, List.length_nil]
            omega
          have hln : LL.length = ws.length := by rw [← hLL, List.length_map]
          rw [hLL] at hown
          have HLL := Lib.hid hLL
          clear hLL
          have HST := Lib.hid (fun w0 (h : Below wr.heap.size wr w0) => joinBl_any w0 u9 LL (hown.strs.below h) (by omega) (by have := HJN.out LL hlen; omega))
          clear HOWN
          have hql := qtL_len2 nm (by omega)
          have hqs : (bs (qtL nm)).size = (qtL nm).length := bs_size _
          have hjs : (bs (joinSp LL)).size = (joinSp LL).length := bs_size _
          have hjl := HJN.out LL hlen
          refine (quote_any nm m wr (by omega) hmr hTr).mono ?_
          rintro e w5 ⟨rfl, hb5⟩
          have HJ := Lib.hid (HST.out w5 hb5)
          go_wp2_with fail
          refine HJ.out.mono ?_
          rintro e w6 ⟨rfl, hb6⟩
          clear HJ HST
          go_wp2
          go_ret
          refine ⟨?_, hBw.trans ((hb5.trans (hb6.mono hb5.size)).mono (by have := hBw.size; omega))⟩
          rw [stat_sum]
          unfold statT
          rw [HN0.out, HU0.out, HLL.out]
          rfl

end Go.Proofs.YthnkgifbbemhfaaGreatDoor
end
