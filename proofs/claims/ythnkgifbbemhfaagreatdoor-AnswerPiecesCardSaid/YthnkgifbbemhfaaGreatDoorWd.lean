/- Texts of one walk, merged: XAp XAf XAg XOf XSq XHI XBd XOs XHp. -/
import Derived.Test.YthnkgifbbemhfaaGreatDoorWc
import Derived.Deep.Slices
import Derived.Deep.Fields
import Derived.ChangeArms
import Derived.ChangeOld
import Derived.WideShapes
import Derived.BigRegion
import Derived.LoopTactic
import Derived.Test.YthnkgifbbemhfaaGreatDoorShelf
import Derived.Lib.Builder
import Derived.Lib.AppendStr
import Derived.Lib.UnsafeStr
import Derived.Lib.Strings
import Derived.Laws.Externs
import Derived.Deep.DeepFit
import Derived.SliceStrings

/- Appending one byte to a slice that the call itself made. -/
set_option linter.unusedVariables false
set_option linter.unusedSimpArgs false
section
set_option linter.unusedVariables false
set_option linter.unusedSimpArgs false
namespace Go.Proofs.YthnkgifbbemhfaaGreatDoor
open Go.RowKit

/-- w' is w but for the row of v and new blocks -/
structure AppTo (B : Nat) (v : Value) (w w' : World) : Prop where
  below : ∀ m₀ u, m₀ ≤ B → Below m₀ u w → Below m₀ u w'
  block : ∀ k, k < w.heap.size → some k ≠ v.ownBlock → w'.heap[k]? = w.heap[k]?
  size : w.heap.size ≤ w'.heap.size

theorem AppTo.mk' {B : Nat} {v : Value} {w w' : World} {e : TypeId} {size n : Nat} {xs : List Value} {o : Obj} (hown : w.ownsRow B e size v n xs) (hB : B ≤ w.heap.size) (hg : (w.alloc o).grownBy w' v.ownBlock) : AppTo B v w w' where
  below m₀ u hm hb := (hb.alloc (Nat.le_trans hm hB) o).grown hg (by simp; omega) (fun k e => Nat.le_trans hm (World.ownsRow.lt hown k e).1)
  block k hk hne := (hg.block k (by simp; omega) hne).trans (Below.heap_alloc _ _ _ hk)
  size := by have := hg.size; simp at this; omega

theorem app_byte {ops : Array Oper} {rest : List Oper} {o : Oper} {a : Act} {Q : Exit → Act → World → Prop} (w : World) (B : Nat) (v : Value) (l : List UInt8) (c : UInt8) (n : Int) (hn : (c.toNat : Int) = n) (hown : OwnB w B v l) (hB : B ≤ w.heap.size) (hl : l.length < 1099511627776)
    (hgd : o.guard = none) (s x : Operand) (ho : o.op = .call { callee := .builtin .append, args := #[s, x], argTypes := #[83, 83] }) (hs : a.eval s = v) (hx : a.eval x = .slice (some ⟨w.heap.size, 0, none⟩) 1 1)
    (h : ∀ v' w', OwnB w' B v' (l ++ [c]) → AppTo B v w w' → wpList Tryz.prog ops Q rest (a.put o.dst v') w') :
    wpList Tryz.prog ops Q (o :: rest) a (w.alloc (.cells #[.int .u8 n] 5)) := by
  subst hn
  obtain ⟨i0, hi, hz0, hz1, hz2⟩ := info_parts info_u8
  refine wpList_append_own _ hgd s x 83 ho B 5 i0 (.int .u8 0) 1 1 Tryz.underlying83 hi hz0 hz1 hz2 rfl (by decide) v l.length (cellsB l) hs (World.ownsRow.alloc hown _) ⟨w.heap.size, 0, none⟩ 1 1 [.int .u8 c.toNat] hx rfl ?_ ?_ ?_ ?_ ?_ ?_
  · intro j u hj
    match j, hj with
    | 0, hj => simp at hj; subst hj; simp [Addr.add]
  · intro u hu; simp at hu; subst hu; rfl
  · unfold maxLen; omega
  · omega
  · simp; omega
  · intro v' w' h1 h2 _
    exact h v' w' (OwnB.step h1) (AppTo.mk' hown hB h2)

end Go.Proofs.YthnkgifbbemhfaaGreatDoor
end

/- answer.Fetch at one item. -/
set_option linter.unusedVariables false
set_option linter.unusedSimpArgs false
section
namespace Go.Proofs.YthnkgifbbemhfaaGreatDoor
open Go.RowKit Go

/-- the answer of one item -/
def fetchT (seq : Nat) (t : List UInt8) : List UInt8 := [42, 32] ++ Lib.decDigits seq ++ [32, 70, 69, 84, 67, 72, 32, 40] ++ t ++ [41, 13, 10]
theorem fetch_sum (d t : List UInt8) : ({ data := #[42, 32] } : ByteArray) ++ bs d ++ { data := #[32, 70, 69, 84, 67, 72, 32, 40] } ++ bs t ++ { data := #[41] } ++ { data := #[13, 10] } = bs ([42, 32] ++ d ++ [32, 70, 69, 84, 67, 72, 32, 40] ++ t ++ [41, 13, 10]) := by
  simp only [bs_append]
  congr 1
  simp
/-- an item that stands at a block: no section but the whole -/
structure ItemAt (w : World) (b : Nat) (nm : List UInt8) (pk pt : Bool) (fr ct : Int) : Prop where
  c0 : w.cell? ⟨b, 0, none⟩ = some (.string (bs nm))
  c1 : w.cell? ⟨b, 1, none⟩ = some (.slice none 0 0)
  c2 : w.cell? ⟨b, 2, none⟩ = some (.string ⟨#[]⟩)
  c3 : w.cell? ⟨b, 3, none⟩ = some (.slice none 0 0)
  c4 : w.cell? ⟨b, 4, none⟩ = some (.bool pk)
  c5 : w.cell? ⟨b, 5, none⟩ = some (.bool pt)
  c6 : w.cell? ⟨b, 6, none⟩ = some (.int .i64 fr)
  c7 : w.cell? ⟨b, 7, none⟩ = some (.int .i64 ct)
theorem ItemAt.below {w w' : World} {b : Nat} {nm : List UInt8} {pk pt : Bool} {fr ct : Int} (h : ItemAt w b nm pk pt fr ct) (hb : Below w.heap.size w w') : ItemAt w' b nm pk pt fr ct := by
  have hl := cell_lt h.c0
  have f : ∀ i v, w.cell? ⟨b, i, none⟩ = some v → w'.cell? ⟨b, i, none⟩ = some v := fun i v e => (hb.cell (p := ⟨b, i, none⟩) hl).trans e
  exact ⟨f _ _ h.c0, f _ _ h.c1, f _ _ h.c2, f _ _ h.c3, f _ _ h.c4, f _ _ h.c5, f _ _ h.c6, f _ _ h.c7⟩


set_option maxRecDepth 100000 in
set_option maxHeartbeats 4000000 in
theorem fetch_size (seq : Nat) (u f d : Int) (body T : List UInt8) (b : Nat) (pk pt : Bool) (fr ct : Int) (w : World) (hs : seq ≤ 9223372036854775807) (hTl : T.length ≤ 1000000000) (hT : TabQ w)
    (hi : ItemAt w b [82, 70, 67, 56, 50, 50, 46, 83, 73, 90, 69] pk pt fr ct)
    (hc : ∀ w0, Below w.heap.size w w0 → Calls Tryz.prog 25 #[.agg #[.int .i64 u, .int .i64 f, .int .i64 d, .string (bs body)], .agg #[.string (bs [82, 70, 67, 56, 50, 50, 46, 83, 73, 90, 69]), .slice none 0 0, .string ⟨#[]⟩, .slice none 0 0, .bool pk, .bool pt, .int .i64 fr, .int .i64 ct]] w0 fun e w' => e = .returned (.string (bs T)) ∧ Below w0.heap.size w0 w') :
    Calls Tryz.prog 8 #[.int .i64 seq, .agg #[.int .i64 u, .int .i64 f, .int .i64 d, .string (bs body)], .slice (some ⟨b, 0, none⟩) 1 1, .bool false] w fun e w' => e = .returned (.tuple #[.string (bs (fetchT seq T)), .bool false]) ∧ Below w.heap.size w w' := by
  obtain ⟨i0, hi0, hz0, hz1, hz2⟩ := info_parts info_str
  have hdl := decq_length 19 seq (by omega) (by omega)
  have HI := Lib.hid hi
  have HC := Lib.hid hc
  have HT := Lib.hid hT
  have hbl := cell_lt hi.c0
  clear hi hc hT
  unfold fetchT
  obtain ⟨D, hD⟩ : ∃ D, Lib.decDigits seq = D := ⟨_, rfl⟩
  have HD := Lib.hid hD
  rw [hD] at hdl ⊢
  clear hD
  go_enter Tryz.func8, Tryz.ntmps8
  go_wp2
  obtain ⟨W0, hW0⟩ : ∃ W0, w.alloc (.cells #[.int .i64 u, .int .i64 f, .int .i64 d, .string (bs body)] 27) = W0 := ⟨_, rfl⟩
  have hb0 : Below w.heap.size w W0 := by rw [← hW0]; exact (Below.refl _ _).alloc (Nat.le_refl _) _
  have hm0 : W0.heap[w.heap.size]? = some (.cells #[.int .i64 u, .int .i64 f, .int .i64 d, .string (bs body)] 27) := by rw [← hW0]; exact heap_new _ _
  have hsz : w.heap.size < W0.heap.size := by rw [← hW0]; simp
  rw [hW0]
  obtain ⟨g, hg⟩ : ∃ g, w.heap.size = g := ⟨_, rfl⟩
  rw [hg] at hm0 hsz ⊢
  have HB0 := Lib.hid hb0
  have hm0a : W0.cell? ⟨g, 0, none⟩ = some (.int .i64 u) ∧ W0.cell? ⟨g, 1, none⟩ = some (.int .i64 f) ∧ W0.cell? ⟨g, 2, none⟩ = some (.int .i64 d) ∧ W0.cell? ⟨g, 3, none⟩ = some (.string (bs body)) := by
    refine ⟨?_, ?_, ?_, ?_⟩ <;> simp [World.cell?, hm0]
  have HM0 := Lib.hid hm0a
  have hi0a := HI.out.below hb0
  have HI0 := Lib.hid hi0a
  have hbl0 : b < W0.heap.size := by omega
  clear hW0 hb0 hm0 hm0a hi0a HI
  go_loopw [10, 11, 27] (fun out rd i wr => (i = .int .i64 0 ∧ out = .slice none 0 0 ∧ rd = .bool false ∧ wr = W0) ∨ (i = .int .i64 1 ∧ OwnS wr W0.heap.size out [T] ∧ rd = .bool false ∧ Below W0.heap.size W0 wr)) (fun _ _ i _ => 1 - (intOf i).toNat)
  case atStart => exact .inl ⟨rfl, rfl, rfl, rfl⟩
  case round =>
    rcases hrel with ⟨rfl, rfl, rfl, hWr⟩ | ⟨rfl, hown, rfl, hB⟩
    · subst hWr
      obtain ⟨c0, c1, c2, c3, c4, c5, c6, c7⟩ := HI0.out
      obtain ⟨m0, m1, m2, m3⟩ := HM0.out
      have hgn : ¬ g = wr.heap.size := by omega
      have hgn2 : ¬ wr.heap.size = g := by omega
      obtain ⟨O, hO⟩ : ∃ O : Obj, Obj.cells #[.string (bs [82, 70, 67, 56, 50, 50, 46, 83, 73, 90, 69]), .slice none 0 0, .string ⟨#[]⟩, .slice none 0 0, .bool pk, .bool pt, .int .i64 fr, .int .i64 ct] 33 = O := ⟨_, rfl⟩
      have hbO := (Below.refl _ wr).alloc (Nat.le_refl _) O
      have hkO := heap_new wr O
      rw [← hO] at hbO hkO
      clear hO
      have HCC := Lib.hid (HC.out _ (HB0.out.trans (hbO.mono (by omega))))
      go_wp2_with fail
      refine HCC.out.mono ?_
      rintro e w1 ⟨rfl, hb1⟩
      have hB1 := hbO.trans (hb1.mono (by simp))
      have hy1 := hB1.size
      have hlt1 : wr.heap.size < w1.heap.size := by have := hb1.size; rw [size_alloc] at this; omega
      have k0 : w1.cell? ⟨wr.heap.size, 0, none⟩ = some (.string (bs [82, 70, 67, 56, 50, 50, 46, 83, 73, 90, 69])) := (hb1.cell (p := ⟨wr.heap.size, 0, none⟩) (by rw [size_alloc]; exact Nat.lt_succ_self _)).trans (row_cell hkO rfl)
      have k4 : w1.cell? ⟨wr.heap.size, 4, none⟩ = some (.bool pk) := (hb1.cell (p := ⟨wr.heap.size, 4, none⟩) (by rw [size_alloc]; exact Nat.lt_succ_self _)).trans (row_cell hkO rfl)
      have hown0 : OwnS w1 wr.heap.size (.slice none 0 0) [] := World.ownsRow_nil _ _ _ _
      clear hkO hb1 hbO HCC HC c0 c1 c2 c3 c4 c5 c6 c7 m0 m1 m2 m3
      go_wp2_with (at_builtin; refine wpList_append_own _ rfl _ _ 29 rfl wr.heap.size 9 i0 (.string ⟨#[]⟩) 1 16 Tryz.underlying29 hi0 hz0 hz1 hz2 rfl (by decide) _ _ _ rfl (World.ownsRow.alloc hown0 _) ⟨w1.heap.size, 0, none⟩ 1 1 [.string (bs T)] rfl rfl ?e1 ?e2 ?e3 ?e4 ?e5 ?_)
      case e1 =>
        intro j u hj
        match j, hj with
        | 0, hj => simp at hj; subst hj; simp [Addr.add]
      case e2 => intro u hu; simp at hu; subst hu; rfl
      case e3 => unfold maxLen; simp
      case e4 => simp
      case e5 => simp; omega
      intro v' w2 hown' hgrow _
      have R1 : OwnS w2 wr.heap.size v' [T] := OwnS.step (l := []) hown'
      have R2 : Below wr.heap.size wr w2 := (hB1.alloc hy1 _).grown hgrow (by simp; omega) (fun k e => (World.ownsRow.lt hown0 k e).1)
      have hk2 : w2.heap[wr.heap.size]? = w1.heap[wr.heap.size]? := (hgrow.block wr.heap.size (by simp; omega) (by simp [Value.ownBlock])).trans (heap_old _ _ _ hlt1)
      have kk0 : w2.cell? ⟨wr.heap.size, 0, none⟩ = some (.string (bs [82, 70, 67, 56, 50, 50, 46, 83, 73, 90, 69])) := by rw [← k0]; simp only [World.cell?, hk2]
      have kk4 : w2.cell? ⟨wr.heap.size, 4, none⟩ = some (.bool pk) := by rw [← k4]; simp only [World.cell?, hk2]
      clear hown' hgrow hown0 hk2 k0 k4
      go_wp2
      go_roundw
      case rel => exact .inr ⟨by first | rfl | trivial, R1, by first | rfl | trivial, R2⟩
      case measure => simp [intOf]
    · have hst := hown.strs
      have hT2 := TabQ.below (TabQ.below HT.out HB0.out) hB
      have hB9 := HB0.out.trans (hB.mono (by omega))
      have hz9 := hB9.size
      have HST := Lib.hid (fun w0 (h : Below wr.heap.size wr w0) => joinBl_any w0 u10 [T] (hst.below h) (by simp) (by simp [joinSp]; omega))
      clear hown hst hB
      go_wp2_with fail
      refine (itoaQ_any seq _ hs hT2).mono ?_
      rintro e w1 ⟨rfl, hb1⟩
      rw [HD.out]
      have HJ := Lib.hid (HST.out w1 hb1)
      clear HST hT2
      go_wp2_with fail
      refine HJ.out.mono ?_
      rintro e w2 ⟨rfl, hb2⟩
      have ej : joinSp [T] = T := by simp [joinSp]
      rw [ej]
      clear HJ
      go_wp2
      go_ret2
      exact ⟨by show _ = Ending.returned (.tuple #[.string (bs ([42, 32] ++ D ++ [32, 70, 69, 84, 67, 72, 32, 40] ++ T ++ [41, 13, 10])), .bool false]); rw [← fetch_sum]; rfl, hB9.trans ((hb1.trans (hb2.mono hb1.size)).mono hz9)⟩


set_option maxRecDepth 100000 in
set_option maxHeartbeats 4000000 in
theorem fetch_body (seq : Nat) (u f d : Int) (body T : List UInt8) (b : Nat) (pk pt : Bool) (fr ct : Int) (w : World) (hs : seq ≤ 9223372036854775807) (hTl : T.length ≤ 1000000000) (hT : TabQ w)
    (hi : ItemAt w b [66, 79, 68, 89, 91] false pt fr ct)
    (hc : ∀ w0, Below w.heap.size w w0 → Calls Tryz.prog 25 #[.agg #[.int .i64 u, .int .i64 f, .int .i64 d, .string (bs body)], .agg #[.string (bs [66, 79, 68, 89, 91]), .slice none 0 0, .string ⟨#[]⟩, .slice none 0 0, .bool false, .bool pt, .int .i64 fr, .int .i64 ct]] w0 fun e w' => e = .returned (.string (bs T)) ∧ Below w0.heap.size w0 w') :
    Calls Tryz.prog 8 #[.int .i64 seq, .agg #[.int .i64 u, .int .i64 f, .int .i64 d, .string (bs body)], .slice (some ⟨b, 0, none⟩) 1 1, .bool false] w fun e w' => e = .returned (.tuple #[.string (bs (fetchT seq T)), .bool true]) ∧ Below w.heap.size w w' := by
  obtain ⟨i0, hi0, hz0, hz1, hz2⟩ := info_parts info_str
  have hdl := decq_length 19 seq (by omega) (by omega)
  have HI := Lib.hid hi
  have HC := Lib.hid hc
  have HT := Lib.hid hT
  have hbl := cell_lt hi.c0
  clear hi hc hT
  unfold fetchT
  obtain ⟨D, hD⟩ : ∃ D, Lib.decDigits seq = D := ⟨_, rfl⟩
  have HD := Lib.hid hD
  rw [hD] at hdl ⊢
  clear hD
  go_enter Tryz.func8, Tryz.ntmps8
  go_wp2
  obtain ⟨W0, hW0⟩ : ∃ W0, w.alloc (.cells #[.int .i64 u, .int .i64 f, .int .i64 d, .string (bs body)] 27) = W0 := ⟨_, rfl⟩
  have hb0 : Below w.heap.size w W0 := by rw [← hW0]; exact (Below.refl _ _).alloc (Nat.le_refl _) _
  have hm0 : W0.heap[w.heap.size]? = some (.cells #[.int .i64 u, .int .i64 f, .int .i64 d, .string (bs body)] 27) := by rw [← hW0]; exact heap_new _ _
  have hsz : w.heap.size < W0.heap.size := by rw [← hW0]; simp
  rw [hW0]
  obtain ⟨g, hg⟩ : ∃ g, w.heap.size = g := ⟨_, rfl⟩
  rw [hg] at hm0 hsz ⊢
  have HB0 := Lib.hid hb0
  have hm0a : W0.cell? ⟨g, 0, none⟩ = some (.int .i64 u) ∧ W0.cell? ⟨g, 1, none⟩ = some (.int .i64 f) ∧ W0.cell? ⟨g, 2, none⟩ = some (.int .i64 d) ∧ W0.cell? ⟨g, 3, none⟩ = some (.string (bs body)) := by
    refine ⟨?_, ?_, ?_, ?_⟩ <;> simp [World.cell?, hm0]
  have HM0 := Lib.hid hm0a
  have hi0a := HI.out.below hb0
  have HI0 := Lib.hid hi0a
  have hbl0 : b < W0.heap.size := by omega
  clear hW0 hb0 hm0 hm0a hi0a HI
  go_loopw [10, 11, 27] (fun out rd i wr => (i = .int .i64 0 ∧ out = .slice none 0 0 ∧ rd = .bool false ∧ wr = W0) ∨ (i = .int .i64 1 ∧ OwnS wr W0.heap.size out [T] ∧ rd = .bool true ∧ Below W0.heap.size W0 wr)) (fun _ _ i _ => 1 - (intOf i).toNat)
  case atStart => exact .inl ⟨rfl, rfl, rfl, rfl⟩
  case round =>
    rcases hrel with ⟨rfl, rfl, rfl, hWr⟩ | ⟨rfl, hown, rfl, hB⟩
    · subst hWr
      obtain ⟨c0, c1, c2, c3, c4, c5, c6, c7⟩ := HI0.out
      obtain ⟨m0, m1, m2, m3⟩ := HM0.out
      have hgn : ¬ g = wr.heap.size := by omega
      have hgn2 : ¬ wr.heap.size = g := by omega
      obtain ⟨O, hO⟩ : ∃ O : Obj, Obj.cells #[.string (bs [66, 79, 68, 89, 91]), .slice none 0 0, .string ⟨#[]⟩, .slice none 0 0, .bool false, .bool pt, .int .i64 fr, .int .i64 ct] 33 = O := ⟨_, rfl⟩
      have hbO := (Below.refl _ wr).alloc (Nat.le_refl _) O
      have hkO := heap_new wr O
      rw [← hO] at hbO hkO
      clear hO
      have HCC := Lib.hid (HC.out _ (HB0.out.trans (hbO.mono (by omega))))
      go_wp2_with fail
      refine HCC.out.mono ?_
      rintro e w1 ⟨rfl, hb1⟩
      have hB1 := hbO.trans (hb1.mono (by simp))
      have hy1 := hB1.size
      have hlt1 : wr.heap.size < w1.heap.size := by have := hb1.size; rw [size_alloc] at this; omega
      have k0 : w1.cell? ⟨wr.heap.size, 0, none⟩ = some (.string (bs [66, 79, 68, 89, 91])) := (hb1.cell (p := ⟨wr.heap.size, 0, none⟩) (by rw [size_alloc]; exact Nat.lt_succ_self _)).trans (row_cell hkO rfl)
      have k4 : w1.cell? ⟨wr.heap.size, 4, none⟩ = some (.bool false) := (hb1.cell (p := ⟨wr.heap.size, 4, none⟩) (by rw [size_alloc]; exact Nat.lt_succ_self _)).trans (row_cell hkO rfl)
      have hown0 : OwnS w1 wr.heap.size (.slice none 0 0) [] := World.ownsRow_nil _ _ _ _
      clear hkO hb1 hbO HCC HC c0 c1 c2 c3 c4 c5 c6 c7 m0 m1 m2 m3
      go_wp2_with (at_builtin; refine wpList_append_own _ rfl _ _ 29 rfl wr.heap.size 9 i0 (.string ⟨#[]⟩) 1 16 Tryz.underlying29 hi0 hz0 hz1 hz2 rfl (by decide) _ _ _ rfl (World.ownsRow.alloc hown0 _) ⟨w1.heap.size, 0, none⟩ 1 1 [.string (bs T)] rfl rfl ?e1 ?e2 ?e3 ?e4 ?e5 ?_)
      case e1 =>
        intro j u hj
        match j, hj with
        | 0, hj => simp at hj; subst hj; simp [Addr.add]
      case e2 => intro u hu; simp at hu; subst hu; rfl
      case e3 => unfold maxLen; simp
      case e4 => simp
      case e5 => simp; omega
      intro v' w2 hown' hgrow _
      have R1 : OwnS w2 wr.heap.size v' [T] := OwnS.step (l := []) hown'
      have R2 : Below wr.heap.size wr w2 := (hB1.alloc hy1 _).grown hgrow (by simp; omega) (fun k e => (World.ownsRow.lt hown0 k e).1)
      have hk2 : w2.heap[wr.heap.size]? = w1.heap[wr.heap.size]? := (hgrow.block wr.heap.size (by simp; omega) (by simp [Value.ownBlock])).trans (heap_old _ _ _ hlt1)
      have kk0 : w2.cell? ⟨wr.heap.size, 0, none⟩ = some (.string (bs [66, 79, 68, 89, 91])) := by rw [← k0]; simp only [World.cell?, hk2]
      have kk4 : w2.cell? ⟨wr.heap.size, 4, none⟩ = some (.bool false) := by rw [← k4]; simp only [World.cell?, hk2]
      clear hown' hgrow hown0 hk2 k0 k4
      go_wp2
      go_roundw
      case rel => exact .inr ⟨by first | rfl | trivial, R1, by first | rfl | trivial, R2⟩
      case measure => simp [intOf]
    · have hst := hown.strs
      have hT2 := TabQ.below (TabQ.below HT.out HB0.out) hB
      have hB9 := HB0.out.trans (hB.mono (by omega))
      have hz9 := hB9.size
      have HST := Lib.hid (fun w0 (h : Below wr.heap.size wr w0) => joinBl_any w0 u10 [T] (hst.below h) (by simp) (by simp [joinSp]; omega))
      clear hown hst hB
      go_wp2_with fail
      refine (itoaQ_any seq _ hs hT2).mono ?_
      rintro e w1 ⟨rfl, hb1⟩
      rw [HD.out]
      have HJ := Lib.hid (HST.out w1 hb1)
      clear HST hT2
      go_wp2_with fail
      refine HJ.out.mono ?_
      rintro e w2 ⟨rfl, hb2⟩
      have ej : joinSp [T] = T := by simp [joinSp]
      rw [ej]
      clear HJ
      go_wp2
      go_ret2
      exact ⟨by show _ = Ending.returned (.tuple #[.string (bs ([42, 32] ++ D ++ [32, 70, 69, 84, 67, 72, 32, 40] ++ T ++ [41, 13, 10])), .bool true]); rw [← fetch_sum]; rfl, hB9.trans ((hb1.trans (hb2.mono hb1.size)).mono hz9)⟩


end Go.Proofs.YthnkgifbbemhfaaGreatDoor
end

/- answer: the item RFC822.SIZE; alive; AnswerTexts. -/
set_option linter.unusedVariables false
set_option linter.unusedSimpArgs false
section
namespace Go.Proofs.YthnkgifbbemhfaaGreatDoor
open Go.RowKit Go

def sizeT (n : Nat) : List UInt8 := [82, 70, 67, 56, 50, 50, 46, 83, 73, 90, 69, 32] ++ Lib.decDigits n

set_option maxRecDepth 100000 in
set_option maxHeartbeats 2000000 in
theorem item_size (u f d : Int) (body : List UInt8) (pk pt : Bool) (fr ct : Int) (w : World) (hl : body.length ≤ 1000000000) (hT : TabQ w) :
    Calls Tryz.prog 25 #[.agg #[.int .i64 u, .int .i64 f, .int .i64 d, .string (bs body)], .agg #[.string (bs [82, 70, 67, 56, 50, 50, 46, 83, 73, 90, 69]), .slice none 0 0, .string ⟨#[]⟩, .slice none 0 0, .bool pk, .bool pt, .int .i64 fr, .int .i64 ct]] w fun e w' => e = .returned (.string (bs (sizeT body.length))) ∧ Below w.heap.size w w' := by
  have HT := Lib.hid hT
  have hdl := decq_length 10 body.length (by omega) (by omega)
  clear hT
  unfold sizeT
  obtain ⟨D, hD⟩ : ∃ D, Lib.decDigits body.length = D := ⟨_, rfl⟩
  have HD := Lib.hid hD
  rw [hD] at hdl ⊢
  clear hD
  go_enter Tryz.func25, Tryz.ntmps25
  go_wp2_with fail
  refine (body_any body _ hl).mono ?_
  rintro e w1 ⟨rfl, hb1⟩
  obtain ⟨g, hg⟩ : ∃ g, w.heap.size = g := ⟨_, rfl⟩
  have hmk : ∀ i v, (#[Value.int .i64 u, .int .i64 f, .int .i64 d, .string (bs body)] : Array Value)[i]? = some v → w1.cell? ⟨g, i, none⟩ = some v := by
    intro i v hv
    refine (hb1.cell (p := ⟨g, i, none⟩) (by simp; omega)).trans ?_
    rw [← hg]
    exact cell_alloc (row_cell (heap_new w _) hv) _
  have hik : ∀ i v, (#[Value.string (bs [82, 70, 67, 56, 50, 50, 46, 83, 73, 90, 69]), .slice none 0 0, .string ⟨#[]⟩, .slice none 0 0, .bool pk, .bool pt, .int .i64 fr, .int .i64 ct] : Array Value)[i]? = some v → w1.cell? ⟨g + 1, i, none⟩ = some v := by
    intro i v hv
    refine (hb1.cell (p := ⟨g + 1, i, none⟩) (by simp; omega)).trans ?_
    have h := heap_new (w.alloc (.cells #[.int .i64 u, .int .i64 f, .int .i64 d, .string (bs body)] 61)) (.cells #[.string (bs [82, 70, 67, 56, 50, 50, 46, 83, 73, 90, 69]), .slice none 0 0, .string ⟨#[]⟩, .slice none 0 0, .bool pk, .bool pt, .int .i64 fr, .int .i64 ct] 33)
    rw [size_alloc, hg] at h
    exact row_cell h hv
  have hB1 : Below w.heap.size w w1 := (((Below.refl _ w).alloc (Nat.le_refl _) _).alloc (by simp) _).trans (hb1.mono (by simp; omega))
  have m3 := hmk 3 _ rfl
  have i0 := hik 0 _ rfl
  have hz1 := hB1.size
  have hT1 := TabQ.below HT.out hB1
  rw [hg]
  clear hmk hik hb1
  go_wp2_with fail
  refine (itoaQ_any body.length _ (by omega) hT1).mono ?_
  rintro e w2 ⟨rfl, hb2⟩
  rw [HD.out]
  clear hT1
  go_wp2
  go_ret
  exact ⟨by show _ = Ending.returned (.string (bs ([82, 70, 67, 56, 50, 50, 46, 83, 73, 90, 69, 32] ++ D))); rw [← bs_append]; rfl, hB1.trans (hb2.mono hz1)⟩

def exB : List UInt8 := [65, 58, 32, 98, 13, 10, 13, 10, 99]
theorem exB_text : fetchT 2 (sizeT exB.length) = [42, 32, 50, 32, 70, 69, 84, 67, 72, 32, 40, 82, 70, 67, 56, 50, 50, 46, 83, 73, 90, 69, 32, 57, 41, 13, 10] := by
  have e1 : Lib.decDigits 2 = [50] := by decide +kernel
  have e2 : Lib.decDigits exB.length = [57] := by decide +kernel
  unfold fetchT sizeT
  rw [e1, e2]
  rfl

set_option maxRecDepth 100000 in
set_option maxHeartbeats 2000000 in
theorem ansAlive_any (w : World) (hT : TabQ w) : Calls Tryz.prog 7 #[] w fun e w' => e = .returned (.bool true) ∧ Below w.heap.size w w' := by
  have HT := Lib.hid hT
  have HX := Lib.hid exB_text
  clear hT
  go_enter Tryz.func7, Tryz.ntmps7
  go_wp2_with fail
  obtain ⟨W0, hW0⟩ : ∃ W0, w.alloc (.cells #[.string (bs [82, 70, 67, 56, 50, 50, 46, 83, 73, 90, 69]), .slice none 0 0, .string ⟨#[]⟩, .slice none 0 0, .bool false, .bool false, .int .i64 0, .int .i64 0] 33) = W0 := ⟨_, rfl⟩
  have hb0 : Below w.heap.size w W0 := by rw [← hW0]; exact (Below.refl _ _).alloc (Nat.le_refl _) _
  have hi0 : ItemAt W0 w.heap.size [82, 70, 67, 56, 50, 50, 46, 83, 73, 90, 69] false false 0 0 := by
    rw [← hW0]
    have h := heap_new w (.cells #[.string (bs [82, 70, 67, 56, 50, 50, 46, 83, 73, 90, 69]), .slice none 0 0, .string ⟨#[]⟩, .slice none 0 0, .bool false, .bool false, .int .i64 0, .int .i64 0] 33)
    exact ⟨row_cell h rfl, row_cell h rfl, row_cell h rfl, row_cell h rfl, row_cell h rfl, row_cell h rfl, row_cell h rfl, row_cell h rfl⟩
  have hT0 := TabQ.below HT.out hb0
  have HF := Lib.hid (fetch_size 2 0 0 0 exB (sizeT exB.length) w.heap.size false false 0 0 W0 (by omega) (by decide +kernel) hT0 hi0 (fun w0 h0 => item_size 0 0 0 exB false false 0 0 w0 (by decide) (TabQ.below hT0 h0)))
  have hz0 := hb0.size
  clear hi0 hT0
  rw [show (w.alloc (.cells #[.string { data := #[82, 70, 67, 56, 50, 50, 46, 83, 73, 90, 69] }, .slice none 0 0, .string { data := #[] }, .slice none 0 0, .bool false, .bool false, .int .i64 0, .int .i64 0] 33)) = W0 from hW0]
  clear hW0
  refine HF.out.mono ?_
  rintro e w1 ⟨rfl, hb1⟩
  rw [HX.out]
  clear HF
  go_wp2
  go_ret
  exact ⟨rfl, hb0.trans (hb1.mono hz0)⟩

set_option maxRecDepth 100000 in
set_option maxHeartbeats 2000000 in
theorem answerTexts_list (s t : List UInt8) (m : Int) (w : World) (hT : TabQ w) (hm : w.cell? ⟨2, 0, none⟩ = some (.int .i64 m)) :
    Calls Tryz.prog 4 #[.string (bs s), .string (bs t)] w fun e w' => e = .returned (.bool true) ∧ Below w.heap.size w w' := by
  have HT := Lib.hid hT
  have HM := Lib.hid hm
  clear hT hm
  go_enter Tryz.func4, Tryz.ntmps4
  go_wp2_with fail
  refine (ansAlive_any _ HT.out).mono ?_
  rintro e w1 ⟨rfl, hb1⟩
  have HM1 := fun w0 (h : Below w.heap.size w w0) => (h.cell (p := ⟨2, 0, none⟩) (cell_lt HM.out)).trans HM.out
  have HMM := Lib.hid HM1
  have HTT := Lib.hid (fun w0 (h : Below w.heap.size w w0) => TabQ.below HT.out h)
  clear HM1 HT HM
  by_cases h1 : 5000 < s.length
  · have h2 : (5000 : Int) < s.length := by omega
    go_wp2
    go_ret
    exact ⟨rfl, hb1⟩
  have h2 : (s.length : Int) ≤ 5000 := by omega
  by_cases h3 : 500 < t.length
  · have h4 : (500 : Int) < t.length := by omega
    go_wp2
    go_ret
    exact ⟨rfl, hb1⟩
  have h4 : (t.length : Int) ≤ 500 := by omega
  have hz1 := hb1.size
  go_wp2_with fail
  refine (literal_any s _ (by omega) (HTT.out _ hb1)).mono ?_
  rintro e w2 ⟨rfl, hb2⟩
  have hB2 := hb1.trans (hb2.mono hz1)
  have hz2 := hB2.size
  go_wp2_with fail
  refine (refLiteral_any s _ (by omega)).mono ?_
  rintro e w3 ⟨rfl, hb3⟩
  have hB3 := hB2.trans (hb3.mono hz2)
  have hz3 := hB3.size
  go_wp2_with fail
  refine (has_any s t m _ (by omega) (by omega) (HMM.out _ hB3)).mono ?_
  rintro e w4 ⟨rfl, hb4⟩
  have hB4 := hB3.trans (hb4.mono hz3)
  have hz4 := hB4.size
  go_wp2_with fail
  refine (refHas_any s t _ (by omega) (by omega)).mono ?_
  rintro e w5 ⟨rfl, hb5⟩
  have hB5 := hB4.trans (hb5.mono hz4)
  have hz5 := hB5.size
  go_wp2_with fail
  refine (has_any s [] m _ (by omega) (by simp) (HMM.out _ hB5)).mono ?_
  rintro e w6 ⟨rfl, hb6⟩
  have hB6 := hB5.trans (hb6.mono hz5)
  have hz6 := hB6.size
  have e1 : hasB s [] = true := contains_empty _
  rw [e1]
  clear e1
  go_wp2_with fail
  refine (has_any s s m _ (by omega) (by omega) (HMM.out _ hB6)).mono ?_
  rintro e w7 ⟨rfl, hb7⟩
  have hB7 := hB6.trans (hb7.mono hz6)
  have e1 : hasB s s = true := contains_self _
  rw [e1]
  clear e1
  go_wp2
  go_ret
  exact ⟨rfl, hB7⟩

abbrev Tab (w : World) : Prop := TabQ w
theorem tab_of_head {W : World} {rest : List (String × DataW Unit)} (h : laidMet Tryz.prog (("internal/strconv.uint64pow10", Lib.tabData .u64 Lib.pow10Tab) :: rest) W) : Tab W :=
  Lib.tabIs_of_head tabQNamed (by kernel_rfl) Tryz.underlying206 Tryz.underlying151 (by kernel_rfl) (by kernel_rfl) h
theorem answerTexts_any (s t : ByteArray) (w : World) (_ : s.size ≤ 9223372036854775807) (_ : t.size ≤ 9223372036854775807) (hT : Tab w) (m : Int) (hm : w.cell? ⟨2, 0, none⟩ = some (.int .i64 m)) :
    Calls Tryz.prog 4 #[.string s, .string t] w fun e w' => e = .returned (.bool true) ∧ Below w.heap.size w w' :=
  answerTexts_list s.data.toList t.data.toList m w hT hm

end Go.Proofs.YthnkgifbbemhfaaGreatDoor
end

/- A slice of fields that came in. -/
set_option linter.unusedVariables false
set_option linter.unusedSimpArgs false
section
namespace Go.Proofs.YthnkgifbbemhfaaGreatDoor
open Go.RowKit Go.Deep Go.WideShapes Go.ChangeShapes

/-- a field that came in -/
structure Fla where
  name : List UInt8
  value : List UInt8
  pos : Int
  fin : Int

def cellsFla (f : Fla) : List Value := [.string (bs f.name), .string (bs f.value), .int .i64 f.pos, .int .i64 f.fin]

/-- an argument that reads as the fields fs -/
def ArgF (w : World) (v : Value) (fs : List Fla) : Prop :=
  (∃ a c, v = .slice a 0 c ∧ fs = []) ∨ ∃ (b o c : Nat), v = .slice (some ⟨b, o, none⟩) fs.length c ∧ 0 < fs.length ∧ b < w.heap.size ∧
    ∀ j f, fs[j]? = some f → ∀ i, i < 4 → w.cell? ⟨b, o + (j * 4 + i), none⟩ = (cellsFla f)[i]?

theorem ArgF.below {w w' : World} {v : Value} {fs : List Fla} (h : ArgF w v fs) (hb : Below w.heap.size w w') : ArgF w' v fs := by
  rcases h with h | ⟨b, o, c, h1, h2, h3, h4⟩
  · exact .inl h
  · exact .inr ⟨b, o, c, h1, h2, Nat.lt_of_lt_of_le h3 hb.size, fun j f hf i hi => (hb.cell (p := ⟨b, o + (j * 4 + i), none⟩) h3).trans (h4 j f hf i hi)⟩

theorem ba_data (s : ByteArray) : bs s.data.toList = s := by
  apply ByteArray.ext
  simp

section
variable {H : Type} {enc : TypeId × Value → H} {w : World} {base : Nat} {spare : Nat → Bool} {held : Bool}

theorem open_ssii {P : Program} {t ts ti : TypeId} {f0 f1 f2 f3 : Field} {n : Nat} {cs : List Value} {x : DataW H × List MemPlace} (hs : P.underlying t = some (.struct #[f0, f1, f2, f3])) (hone : oneCellFields P #[f0, f1, f2, f3] = true) (hC : P.cellsOf t = 4)
    (hS : P.underlying ts = some .string) (hI : P.underlying ti = some (.int .i64)) (t0 : f0.type = ts) (t1 : f1.type = ts) (t2 : f2.type = ti) (t3 : f3.type = ti) (h : DataW.trod enc P w base spare held n t cs = some x) :
    ∃ f : Fla, cs = cellsFla f ∧ f.name.length ≤ maxLen ∧ f.value.length ≤ maxLen := by
  obtain ⟨xs, m, _, hx, hl, hlen, hf⟩ := DataW.trod_struct hs h
  rw [hC] at hl
  match cs, hl, xs, hlen with
  | [c0, c1, c2, c3], _, [y0, y1, y2, y3], _ =>
    obtain ⟨o0, k0⟩ := hone_of hone 0 f0 rfl
    obtain ⟨o1, k1⟩ := hone_of hone 1 f1 rfl
    obtain ⟨o2, k2⟩ := hone_of hone 2 f2 rfl
    obtain ⟨o3, k3⟩ := hone_of hone 3 f3 rfl
    have h0 := hf 0 f0 rfl
    have h1 := hf 1 f1 rfl
    have h2 := hf 2 f2 rfl
    have h3 := hf 3 f3 rfl
    rw [o0, k0, t0] at h0
    rw [o1, k1, t1] at h1
    rw [o2, k2, t2] at h2
    rw [o3, k3, t3] at h3
    obtain ⟨s0, e0, _, z0⟩ := DataW.trod_string hS h0
    obtain ⟨s1, e1, _, z1⟩ := DataW.trod_string hS h1
    obtain ⟨a2, e2, _, _⟩ := DataW.trod_int hI h2
    obtain ⟨a3, e3, _, _⟩ := DataW.trod_int hI h3
    simp at e0 e1 e2 e3
    subst e0 e1 e2 e3
    exact ⟨⟨s0.data.toList, s1.data.toList, a2, a3⟩, by simp [cellsFla, ba_data], by simpa using z0, by simpa using z1⟩

theorem open_fld {n : Nat} {cs : List Value} {x : DataW H × List MemPlace} (h : DataW.trod enc Tryz.prog w base spare held n 135 cs = some x) :
    ∃ f : Fla, cs = cellsFla f ∧ f.name.length ≤ maxLen ∧ f.value.length ≤ maxLen :=
  open_ssii Tryz.underlying135 (by kernel_rfl) (by kernel_rfl) Tryz.underlying9 Tryz.underlying3 rfl rfl rfl rfl h

set_option maxRecDepth 100000 in
theorem arg_flds {W : World} {t : TypeId} (ht : Tryz.prog.underlying t = some (.slice 135)) {a0 : Option Addr} {len cap : Nat} {d : DataW H} {p : List MemPlace}
    (h0 : DataW.Trod enc Tryz.prog W 0 (fun _ => true) true t (.slice a0 len cap) d p) : ∃ fs, ArgF W (.slice a0 len cap) fs ∧ fs.length ≤ maxLen ∧ ∀ f ∈ fs, f.name.length ≤ maxLen ∧ f.value.length ≤ maxLen := by
  obtain ⟨fuel, hf⟩ := h0
  have hlt := DataW.trod_lt _ _ _ _ hf
  have hC : Tryz.prog.cellsOf 135 = 4 := by kernel_rfl
  rcases open_slice ht hf with ⟨hcs, hx⟩ | ⟨a, len', cap', m, n, D, Pl, hcs, _, hl, hm, hmm, hx, hel⟩
  · simp [Value.cells] at hcs
    obtain ⟨rfl, rfl, rfl⟩ := hcs
    exact ⟨[], .inl ⟨_, _, rfl, rfl⟩, by simp, by simp⟩
  · simp [Value.cells] at hcs
    obtain ⟨rfl, rfl, rfl⟩ := hcs
    simp only [Prod.mk.injEq] at hx
    obtain ⟨rfl, rfl⟩ := hx
    simp only [if_true] at hmm
    subst hmm
    rw [hC] at hel
    by_cases h1 : len = 0
    · subst h1
      exact ⟨[], .inl ⟨_, _, rfl, rfl⟩, by simp, by simp⟩
    · have key : ∀ i, i < m → ∃ f : Fla, W.cells? 0 (a.add (i * 4)) 4 = some (cellsFla f) ∧ f.name.length ≤ maxLen ∧ f.value.length ≤ maxLen := fun i hi => by
        obtain ⟨cs', h1, h2⟩ := hel i hi
        obtain ⟨f, rfl, h3, h4⟩ := open_fld h2
        exact ⟨f, h1, h3, h4⟩
      haveI : Inhabited Fla := ⟨⟨[], [], 0, 0⟩⟩
      obtain ⟨F, hF⟩ := choose_lt key
      obtain ⟨b, off, spot⟩ := a
      have hcell0 := (World.cells?_some (hF 0 (by omega)).1).2.2 0 (by decide)
      have hspot : spot = none := by simpa [Addr.add] using World.cell?_spot hcell0
      subst hspot
      have hlen : ((List.range len).map F).length = len := by simp
      refine ⟨(List.range len).map F, .inr ⟨b, off, m, by rw [hlen], by omega, ?_, fun j f hj i hi => ?_⟩, by rw [hlen]; omega, ?_⟩
      · exact hlt (.cell b off) (List.mem_append_left _ (MemPlace.mem_row.2 ⟨0, by rw [hC]; omega, by simp⟩))
      · obtain ⟨hj1, hj2⟩ := List.getElem?_eq_some_iff.1 hj
        rw [hlen] at hj1
        simp only [List.getElem_map, List.getElem_range] at hj2
        subst hj2
        have := (World.cells?_some (hF j (by omega)).1).2.2 i hi
        rw [add_add, add_plain] at this
        exact this
      · intro f hf9
        obtain ⟨j, hj, rfl⟩ := List.mem_map.1 hf9
        exact (hF j (by have := List.mem_range.1 hj; omega)).2
end

end Go.Proofs.YthnkgifbbemhfaaGreatDoor
end

/- The reference's lines: Split, Same; lines.Join. -/
set_option linter.unusedVariables false
set_option linter.unusedSimpArgs false
section
namespace Go.Proofs.YthnkgifbbemhfaaGreatDoor
open Go.RowKit Go

theorem lines_at {s : List UInt8} {f k : Nat} (hf : f ≤ k) (hk : s[k]? = some 10) (hn : ∀ j, f ≤ j → j < k → s[j]? ≠ some 10) : linesOf (s.drop f) = ((s.drop f).take (k + 1 - f)) :: linesOf (s.drop (k + 1)) := by
  obtain ⟨hlt, hk'⟩ := List.getElem?_eq_some_iff.1 hk
  have e : s.drop f = (s.drop f).take (k - f) ++ 10 :: s.drop (k + 1) := by
    conv => lhs; rw [← List.take_append_drop (k - f) (s.drop f)]
    rw [List.drop_drop, show f + (k - f) = k by omega, List.drop_eq_getElem_cons hlt, hk']
  have ha : ∀ c ∈ (s.drop f).take (k - f), c ≠ 10 := by
    intro c hc h10
    subst h10
    obtain ⟨j, hj, hjc⟩ := List.mem_iff_getElem.1 hc
    simp only [List.length_take, List.length_drop] at hj
    refine hn (f + j) (by omega) (by omega) ?_
    simp only [List.getElem_take, List.getElem_drop] at hjc
    exact List.getElem?_eq_some_iff.2 ⟨by omega, hjc⟩
  have hl : ((s.drop f).take (k - f)).length = k - f := by simp; omega
  have ht : (s.drop f).take (k + 1 - f) = (s.drop f).take (k - f) ++ [10] := by
    conv => lhs; rw [e, show (s.drop f).take (k - f) ++ 10 :: s.drop (k + 1) = ((s.drop f).take (k - f) ++ [10]) ++ s.drop (k + 1) by simp]
    exact List.take_left' (by simp only [List.length_append, hl, List.length_singleton]; omega)
  rw [ht, ← linesOf_nl _ _ ha, ← e]
theorem lines_tail {s : List UInt8} {f : Nat} (hf : f < s.length) (hn : ∀ j, f ≤ j → j < s.length → s[j]? ≠ some 10) : linesOf (s.drop f) = [s.drop f] := by
  refine linesOf_end _ (fun c hc h10 => ?_) (by intro e; have := congrArg List.length e; simp at this; omega)
  subst h10
  obtain ⟨j, hj, hjc⟩ := List.mem_iff_getElem.1 hc
  simp only [List.length_drop] at hj
  refine hn (f + j) (by omega) (by omega) ?_
  simp only [List.getElem_drop] at hjc
  exact List.getElem?_eq_some_iff.2 ⟨by omega, hjc⟩

theorem OwnS.below {B : Nat} {u w w' : World} {v : Value} {l : List (List UInt8)} (hb : Below B u w) (h : OwnS w B v l) (hg : w.grownBy w' v.ownBlock) (hB : B ≤ w.heap.size) : Below B u w' :=
  hb.grown hg hB (fun k e => (World.ownsRow.lt h k e).1)

end Go.Proofs.YthnkgifbbemhfaaGreatDoor
end

/- header.All, header.Get, the reference's Get. -/
set_option linter.unusedVariables false
set_option linter.unusedSimpArgs false
section
namespace Go.Proofs.YthnkgifbbemhfaaGreatDoor
open Go.RowKit Go

/-- the values of a name -/
def getL (fs : List Fla) (nm : List UInt8) : List (List UInt8) := (fs.filter fun f => lowL f.name == lowL nm).map fun f => f.value
theorem getL_cons (f : Fla) (fs : List Fla) (nm : List UInt8) : getL (f :: fs) nm = if (lowL f.name == lowL nm) = true then f.value :: getL fs nm else getL fs nm := by
  unfold getL
  rw [List.filter_cons]
  split <;> rfl
theorem getL_length (fs : List Fla) (nm : List UInt8) : (getL fs nm).length ≤ fs.length := by
  unfold getL
  rw [List.length_map]
  exact List.length_filter_le _ _

theorem OwnS.over {w w' : World} {B2 : Nat} {v2 : Value} {ls : List (List UInt8)} (h : OwnS w B2 v2 ls) (hb : Below w.heap.size w w') : OwnS w' B2 v2 ls := by
  refine ⟨h.1, ?_⟩
  rcases h.2 with h0 | ⟨g, cap, cur, rfl, h1, h2, r⟩
  · exact .inl h0
  · exact .inr ⟨g, cap, cur, rfl, h1, (hb.block g (Array.getElem?_eq_some_iff.1 h2).1).trans h2, r⟩
/-- the row that came in, an element's cells -/
theorem ArgF.at {w : World} {b o n c : Nat} {fs : List Fla} (h : ArgF w (.slice (some ⟨b, o, none⟩) n c) fs) (h0 : fs ≠ []) : n = fs.length ∧ b < w.heap.size ∧ ∀ k f, fs[k]? = some f →
    w.cell? ⟨b, o + k * 4, none⟩ = some (.string (bs f.name)) ∧ w.cell? ⟨b, o + k * 4 + 1, none⟩ = some (.string (bs f.value)) ∧ w.cell? ⟨b, o + k * 4 + 2, none⟩ = some (.int .i64 f.pos) ∧ w.cell? ⟨b, o + k * 4 + 3, none⟩ = some (.int .i64 f.fin) := by
  rcases h with ⟨_, _, _, h⟩ | ⟨b', o', c', h, h1, h2, h3⟩
  · exact absurd h h0
  · obtain ⟨⟨rfl, rfl⟩, rfl, rfl⟩ : (b = b' ∧ o = o') ∧ n = fs.length ∧ c = c' := by simpa using h
    refine ⟨rfl, h2, fun k f hf => ?_⟩
    exact ⟨h3 k f hf 0 (by decide), h3 k f hf 1 (by decide), h3 k f hf 2 (by decide), h3 k f hf 3 (by decide)⟩
theorem ArgF.form {w : World} {v : Value} {fs : List Fla} (h : ArgF w v fs) : (∃ a c, v = .slice a 0 c ∧ fs = []) ∨ ∃ b o c, v = .slice (some ⟨b, o, none⟩) fs.length c ∧ fs ≠ [] := by
  rcases h with h | ⟨b, o, c, h, h1, _⟩
  · exact .inl h
  · exact .inr ⟨b, o, c, h, by rintro rfl; simp at h1⟩

set_option maxRecDepth 100000 in
set_option maxHeartbeats 2000000 in
theorem all_any (v : Value) (fs : List Fla) (nm : List UInt8) (w : World) (ha : ArgF w v fs) (hl : fs.length ≤ 1000000) (hn : nm.length ≤ 1000000) (hf : ∀ f ∈ fs, f.name.length ≤ 1000000) :
    Calls Tryz.prog 95 #[v, .string (bs nm)] w (Strs w.heap.size (getL fs nm) w) := by
  obtain ⟨i0, hi, hz0, hz1, hz2⟩ := info_parts info_str
  rcases ha.form with ⟨a, c, rfl, rfl⟩ | ⟨b, o, c, rfl, hne⟩
  · go_enter Tryz.func95, Tryz.ntmps95
    go_wp2
    go_loopw [5, 10] (fun v c wr => c = .int .i64 0 ∧ v = .slice none 0 0 ∧ Below w.heap.size w wr) (fun _ _ _ => 0)
    case atStart => exact ⟨rfl, rfl, Below.refl _ _⟩
    case round =>
      obtain ⟨rfl, rfl, hB⟩ := hrel
      go_wp2
      go_ret
      exact ⟨_, rfl, World.ownsRow_nil _ _ _ _, hB⟩
  · have hn' : nm.length ≤ 1099511627776 := by omega
    have HN := Lib.hid hn'
    have HA := Lib.hid ha
    have HF := Lib.hid hf
    clear ha hf hn'
    go_enter Tryz.func95, Tryz.ntmps95
    go_wp2
    go_loopw [5, 10] (fun out c wr => ∃ (k : Nat) (ls : List (List UInt8)), k ≤ fs.length ∧ c = .int .i64 k ∧ OwnS wr w.heap.size out ls ∧ Hid (ls ++ getL (fs.drop k) nm = getL fs nm) ∧ ls.length ≤ k ∧ Below w.heap.size w wr) (fun _ c _ => fs.length - (intOf c).toNat)
    case atStart => exact ⟨0, [], Nat.zero_le _, rfl, World.ownsRow_nil _ _ _ _, by show _ = _; rfl, Nat.le_refl _, Below.refl _ _⟩
    case round =>
      obtain ⟨k, ls, hk, rfl, hown, hls, hlk, hB⟩ := hrel
      have hzr := hB.size
      by_cases hlt : k < fs.length
      · obtain ⟨f, hfk⟩ : ∃ f, fs[k]? = some f := ⟨_, List.getElem?_eq_getElem hlt⟩
        obtain ⟨_, _, hcells⟩ := (HA.out.below hB).at hne
        obtain ⟨c0, c1, c2, c3⟩ := hcells k f hfk
        have hfn : f.name.length ≤ 1099511627776 := by have := HF.out f (List.mem_of_getElem? hfk); omega
        have hls' := hls.out
        rw [List.drop_eq_getElem_cons hlt, (List.getElem?_eq_some_iff.1 hfk).2, getL_cons] at hls'
        have HLS := Lib.hid hls'
        have HFN := Lib.hid hfn
        have hlt' : (k : Int) < fs.length := by omega
        clear hcells hls' hls hfk hfn
        go_wp2_with fail
        refine (hsame_any f.name nm _ HFN.out HN.out).mono ?_
        rintro e w1 ⟨rfl, hb1⟩
        have hz1' := hb1.size
        rw [size_alloc] at hz1'
        have d1 : w1.cell? ⟨wr.heap.size, 1, none⟩ = some (.string (bs f.value)) := by
          exact (hb1.cell (p := ⟨wr.heap.size, 1, none⟩) (by rw [size_alloc]; exact Nat.lt_succ_self _)).trans (row_cell (heap_new wr _) rfl)
        have hB1 : Below w.heap.size w w1 := (hB.alloc hzr _).trans (hb1.mono (by simp; omega))
        have hown1 : OwnS w1 w.heap.size _ ls := OwnS.over hown ((Below.refl _ wr).alloc (Nat.le_refl _) _ |>.trans (hb1.mono (by simp)))
        rcases hs : (lowL f.name == lowL nm) with _ | _
        · have hl2 := HLS.out
          rw [hs] at hl2
          simp only [Bool.false_eq_true, if_false] at hl2
          have HL2 := Lib.hid hl2
          clear hl2 HLS d1 hs hz1'
          go_wp2
          go_roundw
          case rel => exact ⟨k + 1, ls, by omega, by go_num, hown1, HL2.out, by omega, hB1⟩
          case measure => simp [intOf]; omega
        · have hl2 := HLS.out
          rw [hs] at hl2
          simp only [if_true] at hl2
          have HL2 := Lib.hid hl2
          clear hl2 HLS
          go_wp2_with (at_builtin; refine wpList_append_own _ rfl _ _ 29 rfl w.heap.size 9 i0 (.string ⟨#[]⟩) 1 16 Tryz.underlying29 hi hz0 hz1 hz2 rfl (by decide) _ _ _ rfl (World.ownsRow.alloc hown1 _) ⟨w1.heap.size, 0, none⟩ 1 1 [.string (bs f.value)] rfl rfl ?e1 ?e2 ?e3 ?e4 ?e5 ?_)
          case e1 =>
            intro j u hj
            match j, hj with
            | 0, hj => simp at hj; subst hj; simp [Addr.add]
          case e2 => intro u hu; simp at hu; subst hu; rfl
          case e3 => unfold maxLen; omega
          case e4 => have := hB1.size; omega
          case e5 => have := hB1.size; simp; omega
          intro v' w2 hown' hgrow _
          have R1 : OwnS w2 w.heap.size v' (ls ++ [f.value]) := OwnS.step hown'
          have R2 : Below w.heap.size w w2 := (hB1.alloc hB1.size _).grown hgrow (by have := hB1.size; simp; omega) (fun k e => (World.ownsRow.lt hown1 k e).1)
          have R3 : Hid ((ls ++ [f.value]) ++ getL (fs.drop (k + 1)) nm = getL fs nm) := by
            show _ = _
            rw [← HL2.out]; simp
          clear hown' hgrow hown1 HL2
          go_wp2
          go_roundw
          case rel => exact ⟨k + 1, ls ++ [f.value], by omega, by go_num, R1, R3, by simp; omega, R2⟩
          case measure => simp [intOf]; omega
      · obtain rfl : k = fs.length := by omega
        have hl2 := hls.out
        rw [List.drop_length] at hl2
        have hl3 : ls = getL fs nm := by rw [← hl2]; simp [getL]
        clear hl2 hls
        subst hl3
        go_wp2
        go_ret
        exact ⟨_, rfl, hown, hB⟩

end Go.Proofs.YthnkgifbbemhfaaGreatDoor
end

/- strings.Builder: WriteString where copyCheck's panic is refused by the loader: walked at this program. -/
set_option linter.unusedVariables false
set_option linter.unusedSimpArgs false
section
namespace Go.Proofs.YthnkgifbbemhfaaGreatDoor
open Go.RowKit Go

theorem info_bld : (Tryz.prog.info? 85).map (fun i => i.size) = some 2 := by kernel_rfl
theorem info_byt : (Tryz.prog.info? 5).map (fun i => (i.zero, i.size, i.bytes)) = some (some (.int .u8 0), 1, 1) := by kernel_rfl

set_option maxRecDepth 100000 in
set_option maxHeartbeats 1000000 in
theorem check_used (b : Nat) (w : World) (h0 : w.cell? ⟨b, 0, none⟩ = some (.pointer (some ⟨b, 0, none⟩))) :
    Calls Tryz.prog 78 #[.pointer (some ⟨b, 0, none⟩)] w fun e w' => e = .returned (.tuple #[]) ∧ w' = w := by
  obtain ⟨j, hj, hjs⟩ : ∃ j, Tryz.prog.info? 85 = some j ∧ j.size ≠ 0 := by
    obtain ⟨j, hj, hs⟩ := Option.map_eq_some_iff.1 info_bld
    exact ⟨j, hj, by rw [hs]; decide⟩
  have hn := fun w0 => Lib.run_neq_ptr_same (P := Tryz.prog) w0 ⟨b, 0, none⟩ Tryz.underlying82 hj
  go_enter Tryz.func78, Tryz.ntmps78
  go_wp2
  try rw [Lib.run_neq_ptr_same w _ Tryz.underlying82 hj]
  try go_wp2
  go_end0
  exact ⟨rfl, rfl⟩

set_option maxRecDepth 100000 in
set_option maxHeartbeats 1000000 in
theorem check_fresh (b : Nat) (w : World) (h0 : w.cell? ⟨b, 0, none⟩ = some (.pointer none)) (hsh : w.shape? b = some (85, 2)) (hfz : w.frozen? ⟨b, 0, none⟩ = false) :
    Calls Tryz.prog 78 #[.pointer (some ⟨b, 0, none⟩)] w fun e w' => e = .returned (.tuple #[]) ∧ w' = w.setCell ⟨b, 0, none⟩ (.pointer (some ⟨b, 0, none⟩)) := by
  obtain ⟨j, hj, hjs⟩ : ∃ j, Tryz.prog.info? 85 = some j ∧ j.size ≠ 0 := by
    obtain ⟨j, hj, hs⟩ := Option.map_eq_some_iff.1 info_bld
    exact ⟨j, hj, by rw [hs]; decide⟩
  go_enter Tryz.func78, Tryz.ntmps78
  go_wp2
  rw [Lib.run_to_unsafe w ⟨b, 0, none⟩ Tryz.underlying82 Tryz.underlying156 hj hjs hsh (Nat.zero_lt_succ 1)]
  simp only [Result.andThen]
  rw [Oper.upon_value]
  go_wp2
  rw [run_callFunc_extern Tryz.func111 (by kernel_rfl) (by kernel_rfl) (by kernel_rfl) (e := Extern.AbiNoEscape.same) (by kernel_rfl)]
  rw [Lib.run_noEscape]
  simp only [Result.andThen]
  rw [Oper.upon_value]
  go_wp2
  rw [Lib.run_from_unsafe w ⟨b, 0, none⟩ Tryz.underlying156 Tryz.underlying82 hj hsh (by kernel_rfl)]
  simp only [Result.andThen]
  rw [Oper.upon_value]
  go_wp2
  go_end0
  exact ⟨rfl, rfl⟩

theorem check_any (B b : Nat) (l : List Value) (w : World) (h : Lib.IsBuilder 85 5 B b l w) :
    Calls Tryz.prog 78 #[.pointer (some ⟨b, 0, none⟩)] w fun e w' => e = .returned (.tuple #[]) ∧ (Lib.BuilderAt 85 5 B b (.pointer (some ⟨b, 0, none⟩)) l w' ∧ Below B w w' ∧ (∀ k, k ≠ b → w'.heap[k]? = w.heap[k]?)) := by
  rcases h with h | h
  · refine (check_fresh b w h.cell0 h.shape h.frozen0).mono ?_
    rintro e w' ⟨rfl, rfl⟩
    exact ⟨rfl, h.used _, (Below.refl B w).setCell (p := ⟨b, 0, none⟩) h.1 _, fun k hk => Below.heap_setCell _ _ _ _ (by simpa using hk)⟩
  · refine (check_used b w h.cell0).mono ?_
    rintro e w' ⟨rfl, rfl⟩
    exact ⟨rfl, h, Below.refl B _, fun _ _ => rfl⟩

/-- all blocks but b and rows of bytes are as they were -/
def KeptBut (b : Nat) (w w' : World) : Prop := ∀ k o, w.heap[k]? = some o → k ≠ b → (∀ cs fr, o ≠ .cells cs 5 fr) → w'.heap[k]? = some o
/-- the builder at b holds the bytes l -/
def BldAt (w : World) (B b : Nat) (l : List UInt8) : Prop := Lib.IsBuilder 85 5 B b (Lib.byteCells l) w

set_option maxRecDepth 100000 in
set_option maxHeartbeats 2000000 in
theorem write_any (B b : Nat) (l s : List UInt8) (w : World) (h : BldAt w B b l) (hlen : l.length + s.length ≤ 140737488355328) (hBw : B ≤ w.heap.size) :
    Calls Tryz.prog 47 #[.pointer (some ⟨b, 0, none⟩), .string (bs s)] w fun e w' => e = .returned (.tuple #[.int .i64 s.length, .nilIface]) ∧ BldAt w' B b (l ++ s) ∧ Below B w w' ∧ KeptBut b w w' := by
  obtain ⟨i0, hi, hz0, hz1, hz2⟩ := info_parts info_byt
  have hbl : (Lib.byteCells l).length = l.length := by simp [Lib.byteCells]
  go_enter Tryz.func47, Tryz.ntmps47
  go_wp2_with fail
  refine (check_any B b _ _ h).mono ?_
  rintro e w1 ⟨rfl, h1, hb1, hk1⟩
  obtain ⟨hB, v, hbk, hown, hne⟩ := h1
  have c0 : w1.cell? ⟨b, 0, none⟩ = some (.pointer (some ⟨b, 0, none⟩)) := by rw [Lib.cell_of_heap hbk]; rfl
  have c1 : w1.cell? ⟨b, 1, none⟩ = some v := by rw [Lib.cell_of_heap hbk]; rfl
  go_wp2_with (at_builtin; refine Lib.wpList_append_own_string _ rfl _ _ 83 9 rfl B 5 i0 Tryz.underlying83 Tryz.underlying9 hi hz0 hz1 hz2 _ _ _ rfl hown (bs s) rfl ?c3 ?c4 ?c5 ?_)
  case c3 => rw [hbl, bs_size]; unfold maxLen; omega
  case c4 => rw [hbl, bs_size]; omega
  case c5 => have := hb1.size; omega
  intro v' w2 hown' hgrow _
  have hlt : b < w1.heap.size := by
    rcases Nat.lt_or_ge b w1.heap.size with h' | h'
    · exact h'
    · simp [Array.getElem?_eq_none h'] at hbk
  have hb2 : w2.heap[b]? = some (.cells #[.pointer (some ⟨b, 0, none⟩), v] 85 (0, 0)) := by
    rw [hgrow.block b hlt (fun e => hne e.symm)]
    exact hbk
  have d0 : w2.cell? ⟨b, 0, none⟩ = some (.pointer (some ⟨b, 0, none⟩)) := by rw [Lib.cell_of_heap hb2]; rfl
  have d1 : w2.cell? ⟨b, 1, none⟩ = some v := by rw [Lib.cell_of_heap hb2]; rfl
  have f1 : w2.frozen? ⟨b, 1, none⟩ = false := Lib.frozen_of_heap hb2 1
  obtain ⟨ao, n', cap, rfl⟩ : ∃ ao n' cap, v' = .slice ao n' cap := by
    rcases hown'.2 with ⟨hv, _⟩ | ⟨g, cap, cur, hv, _⟩
    · exact ⟨_, _, _, hv⟩
    · exact ⟨_, _, _, hv⟩
  go_wp2
  go_ret2
  refine ⟨rfl, ?_, ?_, ?_⟩
  · have e : Lib.byteCells (l ++ s) = Lib.byteCells l ++ Lib.strCells (bs s) := by simp [Lib.byteCells, Lib.strCells]
    unfold BldAt
    rw [e]
    exact .inr (Lib.BuilderAt.put (T := 85) (e := 5) hB hb2 (bs' := Lib.byteCells l ++ Lib.strCells (bs s)) (by rw [List.length_append, Lib.strCells_length, hbl, bs_size]; exact hown') (by decide))
  · exact (hb1.grown hgrow (by have := hb1.size; omega) (fun k hk => (hown.lt k hk).1)).setCell (p := ⟨b, 1, none⟩) hB _
  · intro k o ho hkb hno
    have hlk : k < w1.heap.size := Nat.lt_of_lt_of_le (Array.getElem?_eq_some_iff.1 ho).1 hb1.size
    have h1 : w1.heap[k]? = some o := (hk1 k hkb).trans ho
    have hv : some k ≠ v.ownBlock := by
      intro e
      rcases hown.2 with ⟨rfl, _⟩ | ⟨g, cap, cur, rfl, _, hg, _⟩
      · cases e
      · obtain rfl : k = g := by simpa [Value.ownBlock] using e
        rw [h1] at hg
        exact hno _ _ (Option.some.inj hg)
    exact (Below.heap_setCell _ _ _ _ (by simpa using hkb)).trans ((hgrow.block k hlk hv).trans h1)

theorem string_any (B b : Nat) (l : List UInt8) (w : World) (h : BldAt w B b l) (hBw : B ≤ w.heap.size) :
    Calls Tryz.prog 48 #[.pointer (some ⟨b, 0, none⟩)] w fun e w' => e = .returned (.string (bs l)) ∧ Below B w w' := Tryz.Builder_String_any B b l w h hBw

theorem BldAt.new (w : World) (B : Nat) (hB : B ≤ w.heap.size) : BldAt (w.alloc (.cells #[.pointer none, .slice none 0 0] 85)) B w.heap.size [] :=
  .inl ⟨hB, _, by show (w.heap.push _)[w.heap.size]? = _; simp, World.ownsRow_nil _ _ _ _, by simp [Value.ownBlock]⟩

end Go.Proofs.YthnkgifbbemhfaaGreatDoor
end

/- A slice of strings that came in. -/
set_option linter.unusedVariables false
set_option linter.unusedSimpArgs false
section
namespace Go.Proofs.YthnkgifbbemhfaaGreatDoor
open Go.RowKit

theorem cellsOf_str : Tryz.prog.cellsOf 9 = 1 := by kernel_rfl

/-- an argument that reads as the strings ls -/
def ArgS (w : World) (v : Value) (ls : List (List UInt8)) : Prop :=
  (∃ a c, v = .slice a 0 c ∧ ls = []) ∨ ∃ (b o c : Nat), v = .slice (some ⟨b, o, none⟩) ls.length c ∧ 0 < ls.length ∧ b < w.heap.size ∧ ∀ j, j < ls.length → w.cell? ⟨b, o + j, none⟩ = some (.string (bs (ls.getD j [])))

theorem bs_data (s : ByteArray) : bs s.data.toList = s := by
  apply ByteArray.ext
  simp

theorem arg_strs {H : Type} {enc : TypeId × Value → H} {W : World} {t : TypeId} (ht : Tryz.prog.underlying t = some (.slice 9)) {a0 : Option Addr} {len cap : Nat} {d : DataW H} {p : List MemPlace}
    (h0 : DataW.Trod enc Tryz.prog W 0 (fun _ => true) true t (.slice a0 len cap) d p) : ∃ ls, ArgS W (.slice a0 len cap) ls ∧ ls.length ≤ maxLen ∧ ∀ l ∈ ls, l.length ≤ maxLen := by
  obtain ⟨fuel, hf⟩ := h0
  have hlt := DataW.trod_lt _ _ _ _ hf
  rcases Go.ChangeShapes.open_strings ht Tryz.underlying9 cellsOf_str hf with ⟨hcs, hx⟩ | ⟨a, len', cap', ss, hcs, _, hl, hm, hz, hx, hcell, hws⟩
  · simp [Value.cells] at hcs
    obtain ⟨rfl, rfl, rfl⟩ := hcs
    exact ⟨[], .inl ⟨_, _, rfl, rfl⟩, by simp, by simp⟩
  · simp [Value.cells] at hcs
    obtain ⟨rfl, rfl, rfl⟩ := hcs
    simp only [Prod.mk.injEq] at hx
    obtain ⟨rfl, rfl⟩ := hx
    simp only [if_true] at hz
    by_cases h1 : len = 0
    · subst h1
      exact ⟨[], .inl ⟨_, _, rfl, rfl⟩, by simp, by simp⟩
    · obtain ⟨b, off, spot⟩ := a
      have hspot : spot = none := by simpa [Addr.add] using World.cell?_spot (hcell 0 (by omega))
      subst hspot
      have hlen : ((ss.take len).map (fun s => s.data.toList)).length = len := by simp; omega
      refine ⟨(ss.take len).map (fun s => s.data.toList), .inr ⟨b, off, cap, by rw [hlen], by omega, ?_, fun j hj => ?_⟩, by rw [hlen]; omega, ?_⟩
      · exact hlt (.cell b off) (MemPlace.mem_row.2 ⟨0, by omega, by simp⟩)
      · rw [hlen] at hj
        have := hcell j (by omega)
        have e0 : (⟨b, off, none⟩ : Addr).add j = ⟨b, off + j, none⟩ := by unfold Addr.add; split <;> simp_all
        rw [e0] at this
        rw [this]
        have e : ((ss.take len).map (fun s => s.data.toList)).getD j [] = (ss.getD j ByteArray.empty).data.toList := by
          simp [List.getD, hj, show j < ss.length by omega]
        rw [e, bs_data]
      · intro l hl9
        obtain ⟨s, hs, rfl⟩ := List.mem_map.1 hl9
        have := hws s (List.mem_of_mem_take hs)
        simpa using this

end Go.Proofs.YthnkgifbbemhfaaGreatDoor
end

/- Where fields and bodies stand (plain). -/
set_option linter.unusedVariables false
set_option linter.unusedSimpArgs false
section
namespace Go.Proofs.YthnkgifbbemhfaaGreatDoor

theorem contL_bd : ∀ (ls : List (List UInt8)) (p : Nat), p ≤ (contL p ls).2.1 ∧ (contL p ls).2.1 + (contL p ls).2.2.flatten.length = p + ls.flatten.length
  | [], p => by simp [contL]
  | l :: ls, p => by
    unfold contL
    split
    · have := contL_bd ls (p + l.length)
      simp only [List.flatten_cons, List.length_append]
      omega
    · simp
theorem refL_bd : ∀ (n : Nat) (ls : List (List UInt8)) (p : Nat), ls.length ≤ n → (∀ f ∈ (refL p ls).1, f.pos ≤ f.fin ∧ f.fin ≤ p + ls.flatten.length) ∧ (refL p ls).1.length ≤ ls.length
  | n, [], p, _ => by simp [refL]
  | 0, l :: ls, p, h => by simp at h
  | n + 1, l :: ls, p, h => by
    rw [refL_cons]
    by_cases ht : textL l = []
    · rw [if_pos ht]; simp
    · rw [if_neg ht]
      have hc := contL_bd ls (p + l.length)
      have hcl := contL_len (p + l.length) ls
      obtain ⟨i1, i2⟩ := refL_bd n (contL (p + l.length) ls).2.2 (contL (p + l.length) ls).2.1 (by simp at h; omega)
      have hall : ∀ f ∈ (refL (contL (p + l.length) ls).2.1 (contL (p + l.length) ls).2.2).1, f.pos ≤ f.fin ∧ f.fin ≤ p + (l :: ls).flatten.length := by
        intro f hf
        have := i1 f hf
        simp only [List.flatten_cons, List.length_append]
        omega
      cases hn : nameL (textL l) with
      | none =>
        refine ⟨hall, ?_⟩
        simp only [List.length_cons]
        omega
      | some q =>
        obtain ⟨nm, v⟩ := q
        simp only
        split
        · refine ⟨hall, ?_⟩
          simp only [List.length_cons]
          omega
        · refine ⟨fun f hf => ?_, ?_⟩
          · rcases List.mem_cons.1 hf with rfl | hf
            · simp only [List.flatten_cons, List.length_append]
              omega
            · exact hall f hf
          · simp only [List.length_cons]
            omega
theorem fields_bd (m : List UInt8) : (∀ f ∈ fieldsL m, f.pos ≤ f.fin ∧ f.fin ≤ m.length) ∧ (fieldsL m).length ≤ m.length := by
  obtain ⟨h1, h2⟩ := refL_bd _ (linesOf m) 0 (Nat.le_refl _)
  have hl := linesOf_length m
  rw [(fields_ref m).1]
  rw [linesOf_flatten, Nat.zero_add] at h1
  exact ⟨h1, by omega⟩

theorem goL_bd : ∀ (ls : List (List UInt8)) (fs : List Fld) (op : Bool) (p : Nat), p ≤ (goL fs op p ls).2 ∧ (goL fs op p ls).2 ≤ p + ls.flatten.length
  | [], fs, op, p => by simp [goL]
  | l :: ls, fs, op, p => by
    rw [goL]
    simp only [List.flatten_cons, List.length_append]
    split
    · have := goL_bd ls (turnL fs op p (p + l.length) (textL l)).1 (turnL fs op p (p + l.length) (textL l)).2.1 (p + l.length)
      omega
    · simp only
      omega
theorem bodyL_bd (m : List UInt8) : bodyL m ≤ m.length := by
  have := (goL_bd (linesOf m) [] false 0).2
  rw [linesOf_flatten, Nat.zero_add] at this
  exact this

end Go.Proofs.YthnkgifbbemhfaaGreatDoor
end
