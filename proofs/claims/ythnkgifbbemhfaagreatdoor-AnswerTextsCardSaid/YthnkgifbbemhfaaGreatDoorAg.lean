/- answer: the item RFC822.SIZE; alive; AnswerTexts. -/
import Derived.Test.YthnkgifbbemhfaaGreatDoorAf
set_option linter.unusedVariables false
set_option linter.unusedSimpArgs false
namespace Go.Proofs.YthnkgifbbemhfaaGreatDoor
open Go.RowKit Go

def sizeT (n : Nat) : List UInt8 := [82, 70, 67, 56, 50, 50, 46, 83, 73, 90, 69, 32] ++ Lib.decDigits n

set_option maxRecDepth 100000 in
set_option maxHeartbeats 2000000 in
theorem item_size (u f d : Int) (body : List UInt8) (pk pt : Bool) (fr ct : Int) (w : World) (hl : body.length ≤ 1000000000) (hT : TabQ w) :
    Calls Tryz.prog 25 #[.agg #[.int .i64 u, .int .i64 f, .int .i64 d, .string (bs body)], .agg #[.string (bs [82, 70, 67, 56, 50, 50, 46, 83, 73, 90, 69]), .slice none 0 0, .string ⟨#[]⟩, .slice none 0 0, .bool pk, .bool pt, .int .i64 fr, .int .i64 ct]] w fun e w' => e = .returned (.string (bs (sizeT body.length))) ∧ Below w.heap.size w w' := by
  have HT := Lib.hid hT
  have hdl := decq_length 10 body.length (by omega) (by omega)
  clear hT
  unfold sizeT
  obtain ⟨D, hD⟩ : ∃ D, Lib.decDigits body.length = D := ⟨_, rfl⟩
  have HD := Lib.hid hD
  rw [hD] at hdl ⊢
  clear hD
  go_enter Tryz.func25, Tryz.ntmps25
  go_wp2_with fail
  refine (body_any body _ hl).mono ?_
  rintro e w1 ⟨rfl, hb1⟩
  obtain ⟨g, hg⟩ : ∃ g, w.heap.size = g := ⟨_, rfl⟩
  have hmk : ∀ i v, (#[Value.int .i64 u, .int .i64 f, .int .i64 d, .string (bs body)] : Array Value)[i]? = some v → w1.cell? ⟨g, i, none⟩ = some v := by
    intro i v hv
    refine (hb1.cell (p := ⟨g, i, none⟩) (by simp; omega)).trans ?_
    rw [← hg]
    exact cell_alloc (row_cell (heap_new w _) hv) _
  have hik : ∀ i v, (#[Value.string (bs [82, 70, 67, 56, 50, 50, 46, 83, 73, 90, 69]), .slice none 0 0, .string ⟨#[]⟩, .slice none 0 0, .bool pk, .bool pt, .int .i64 fr, .int .i64 ct] : Array Value)[i]? = some v → w1.cell? ⟨g + 1, i, none⟩ = some v := by
    intro i v hv
    refine (hb1.cell (p := ⟨g + 1, i, none⟩) (by simp; omega)).trans ?_
    have h := heap_new (w.alloc (.cells #[.int .i64 u, .int .i64 f, .int .i64 d, .string (bs body)] 61)) (.cells #[.string (bs [82, 70, 67, 56, 50, 50, 46, 83, 73, 90, 69]), .slice none 0 0, .string ⟨#[]⟩, .slice none 0 0, .bool pk, .bool pt, .int .i64 fr, .int .i64 ct] 33)
    rw [size_alloc, hg] at h
    exact row_cell h hv
  have hB1 : Below w.heap.size w w1 := (((Below.refl _ w).alloc (Nat.le_refl _) _).alloc (by simp) _).trans (hb1.mono (by simp; omega))
  have m3 := hmk 3 _ rfl
  have i0 := hik 0 _ rfl
  have hz1 := hB1.size
  have hT1 := TabQ.below HT.out hB1
  rw [hg]
  clear hmk hik hb1
  go_wp2_with fail
  refine (itoaQ_any body.length _ (by omega) hT1).mono ?_
  rintro e w2 ⟨rfl, hb2⟩
  rw [HD.out]
  clear hT1
  go_wp2
  go_ret
  exact ⟨by show _ = Ending.returned (.string (bs ([82, 70, 67, 56, 50, 50, 46, 83, 73, 90, 69, 32] ++ D))); rw [← bs_append]; rfl, hB1.trans (hb2.mono hz1)⟩

def exB : List UInt8 := [65, 58, 32, 98, 13, 10, 13, 10, 99]
theorem exB_text : fetchT 2 (sizeT exB.length) = [42, 32, 50, 32, 70, 69, 84, 67, 72, 32, 40, 82, 70, 67, 56, 50, 50, 46, 83, 73, 90, 69, 32, 57, 41, 13, 10] := by
  have e1 : Lib.decDigits 2 = [50] := by decide +kernel
  have e2 : Lib.decDigits exB.length = [57] := by decide +kernel
  unfold fetchT sizeT
  rw [e1, e2]
  rfl

set_option maxRecDepth 100000 in
set_option maxHeartbeats 2000000 in
theorem ansAlive_any (w : World) (hT : TabQ w) : Calls Tryz.prog 7 #[] w fun e w' => e = .returned (.bool true) ∧ Below w.heap.size w w' := by
  have HT := Lib.hid hT
  have HX := Lib.hid exB_text
  clear hT
  go_enter Tryz.func7, Tryz.ntmps7
  go_wp2_with fail
  obtain ⟨W0, hW0⟩ : ∃ W0, w.alloc (.cells #[.string (bs [82, 70, 67, 56, 50, 50, 46, 83, 73, 90, 69]), .slice none 0 0, .string ⟨#[]⟩, .slice none 0 0, .bool false, .bool false, .int .i64 0, .int .i64 0] 33) = W0 := ⟨_, rfl⟩
  have hb0 : Below w.heap.size w W0 := by rw [← hW0]; exact (Below.refl _ _).alloc (Nat.le_refl _) _
  have hi0 : ItemAt W0 w.heap.size [82, 70, 67, 56, 50, 50, 46, 83, 73, 90, 69] false false 0 0 := by
    rw [← hW0]
    have h := heap_new w (.cells #[.string (bs [82, 70, 67, 56, 50, 50, 46, 83, 73, 90, 69]), .slice none 0 0, .string ⟨#[]⟩, .slice none 0 0, .bool false, .bool false, .int .i64 0, .int .i64 0] 33)
    exact ⟨row_cell h rfl, row_cell h rfl, row_cell h rfl, row_cell h rfl, row_cell h rfl, row_cell h rfl, row_cell h rfl, row_cell h rfl⟩
  have hT0 := TabQ.below HT.out hb0
  have HF := Lib.hid (fetch_size 2 0 0 0 exB (sizeT exB.length) w.heap.size false false 0 0 W0 (by omega) (by decide +kernel) hT0 hi0 (fun w0 h0 => item_size 0 0 0 exB false false 0 0 w0 (by decide) (TabQ.below hT0 h0)))
  have hz0 := hb0.size
  clear hi0 hT0
  rw [show (w.alloc (.cells #[.string { data := #[82, 70, 67, 56, 50, 50, 46, 83, 73, 90, 69] }, .slice none 0 0, .string { data := #[] }, .slice none 0 0, .bool false, .bool false, .int .i64 0, .int .i64 0] 33)) = W0 from hW0]
  clear hW0
  refine HF.out.mono ?_
  rintro e w1 ⟨rfl, hb1⟩
  rw [HX.out]
  clear HF
  go_wp2
  go_ret
  exact ⟨rfl, hb0.trans (hb1.mono hz0)⟩

set_option maxRecDepth 100000 in
set_option maxHeartbeats 2000000 in
theorem answerTexts_list (s t : List UInt8) (m : Int) (w : World) (hT : TabQ w) (hm : w.cell? ⟨2, 0, none⟩ = some (.int .i64 m)) :
    Calls Tryz.prog 4 #[.string (bs s), .string (bs t)] w fun e w' => e = .returned (.bool true) ∧ Below w.heap.size w w' := by
  have HT := Lib.hid hT
  have HM := Lib.hid hm
  clear hT hm
  go_enter Tryz.func4, Tryz.ntmps4
  go_wp2_with fail
  refine (ansAlive_any _ HT.out).mono ?_
  rintro e w1 ⟨rfl, hb1⟩
  have HM1 := fun w0 (h : Below w.heap.size w w0) => (h.cell (p := ⟨2, 0, none⟩) (cell_lt HM.out)).trans HM.out
  have HMM := Lib.hid HM1
  have HTT := Lib.hid (fun w0 (h : Below w.heap.size w w0) => TabQ.below HT.out h)
  clear HM1 HT HM
  by_cases h1 : 5000 < s.length
  · have h2 : (5000 : Int) < s.length := by omega
    go_wp2
    go_ret
    exact ⟨rfl, hb1⟩
  have h2 : (s.length : Int) ≤ 5000 := by omega
  by_cases h3 : 500 < t.length
  · have h4 : (500 : Int) < t.length := by omega
    go_wp2
    go_ret
    exact ⟨rfl, hb1⟩
  have h4 : (t.length : Int) ≤ 500 := by omega
  have hz1 := hb1.size
  go_wp2_with fail
  refine (literal_any s _ (by omega) (HTT.out _ hb1)).mono ?_
  rintro e w2 ⟨rfl, hb2⟩
  have hB2 := hb1.trans (hb2.mono hz1)
  have hz2 := hB2.size
  go_wp2_with fail
  refine (refLiteral_any s _ (by omega)).mono ?_
  rintro e w3 ⟨rfl, hb3⟩
  have hB3 := hB2.trans (hb3.mono hz2)
  have hz3 := hB3.size
  go_wp2_with fail
  refine (has_any s t m _ (by omega) (by omega) (HMM.out _ hB3)).mono ?_
  rintro e w4 ⟨rfl, hb4⟩
  have hB4 := hB3.trans (hb4.mono hz3)
  have hz4 := hB4.size
  go_wp2_with fail
  refine (refHas_any s t _ (by omega) (by omega)).mono ?_
  rintro e w5 ⟨rfl, hb5⟩
  have hB5 := hB4.trans (hb5.mono hz4)
  have hz5 := hB5.size
  go_wp2_with fail
  refine (has_any s [] m _ (by omega) (by simp) (HMM.out _ hB5)).mono ?_
  rintro e w6 ⟨rfl, hb6⟩
  have hB6 := hB5.trans (hb6.mono hz5)
  have hz6 := hB6.size
  have e1 : hasB s [] = true := contains_empty _
  rw [e1]
  clear e1
  go_wp2_with fail
  refine (has_any s s m _ (by omega) (by omega) (HMM.out _ hB6)).mono ?_
  rintro e w7 ⟨rfl, hb7⟩
  have hB7 := hB6.trans (hb7.mono hz6)
  have e1 : hasB s s = true := contains_self _
  rw [e1]
  clear e1
  go_wp2
  go_ret
  exact ⟨rfl, hB7⟩

abbrev Tab (w : World) : Prop := TabQ w
theorem tab_of_head {W : World} {rest : List (String × DataW Unit)} (h : laidMet Tryz.prog (("internal/strconv.uint64pow10", Lib.tabData .u64 Lib.pow10Tab) :: rest) W) : Tab W :=
  Lib.tabIs_of_head tabQNamed (by kernel_rfl) Tryz.underlying206 Tryz.underlying151 (by kernel_rfl) (by kernel_rfl) h
theorem answerTexts_any (s t : ByteArray) (w : World) (_ : s.size ≤ 9223372036854775807) (_ : t.size ≤ 9223372036854775807) (hT : Tab w) (m : Int) (hm : w.cell? ⟨2, 0, none⟩ = some (.int .i64 m)) :
    Calls Tryz.prog 4 #[.string s, .string t] w fun e w' => e = .returned (.bool true) ∧ Below w.heap.size w w' :=
  answerTexts_list s.data.toList t.data.toList m w hT hm

end Go.Proofs.YthnkgifbbemhfaaGreatDoor
