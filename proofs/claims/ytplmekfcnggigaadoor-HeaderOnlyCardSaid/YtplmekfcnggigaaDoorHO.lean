/- The reference's Only; the law HeaderOnly. -/
import Derived.Test.YtplmekfcnggigaaDoorHN
import Derived.Test.YtplmekfcnggigaaDoorHB
set_option linter.unusedVariables false
set_option linter.unusedSimpArgs false
namespace Go.Proofs.YtplmekfcnggigaaDoor
open Go.RowKit Go

theorem amongL_take (ls : List (List UInt8)) (nm : List UInt8) {j : Nat} (hj : j < ls.length) : amongL (ls.take (j + 1)) nm = (amongL (ls.take j) nm || (lowL (ls.getD j []) == lowL nm)) := by
  unfold amongL
  rw [List.take_add_one, List.getElem?_eq_getElem hj, List.any_append]
  simp [List.getD, hj]

set_option maxRecDepth 100000 in
set_option maxHeartbeats 4000000 in
theorem refOnly_any (m : List UInt8) (v : Value) (ls : List (List UInt8)) (no : Bool) (w : World) (hv : ArgS w v ls) (hm : m.length ≤ 10000) (hl : ls.length ≤ 100) (hn : ∀ n ∈ ls, n.length ≤ 1000) :
    Calls Tryd.prog 23 #[.string (bs m), v, .bool no] w fun e w' => e = .returned (.string (bs (onlyL m ls no (fieldsL m) ++ [13, 10]))) ∧ Below w.heap.size w w' := by
  obtain ⟨fb1, fb2⟩ := fields_bd m
  have fb3 := fields_names m
  have hread := fun w0 => refHeader_any m w0 (by omega)
  obtain ⟨hf1, _⟩ := fields_ref m
  obtain ⟨G, hG⟩ : ∃ G, refL 0 (linesOf m) = G := ⟨_, rfl⟩
  rw [hG] at hread hf1
  obtain ⟨fs, q⟩ := G
  have hf2 : fieldsL m = fs := hf1
  rw [hf2] at fb1 fb2 fb3 ⊢
  have HREAD := Lib.hid hread
  have HV := Lib.hid hv
  have HN := Lib.hid hn
  have FB1 := Lib.hid fb1
  have FB3 := Lib.hid fb3
  obtain ⟨an, capn, rfl, hform⟩ := hv.form
  clear hread hf1 hf2 hG hv hn fb1 fb3
  go_enter Tryd.func23, Tryd.ntmps23
  go_wp2_with fail
  refine (HREAD.out _).mono ?_
  rintro e w1 ⟨v1, rfl, ho1, hB1⟩
  obtain ⟨a1, n1, cap1, rfl, hn1⟩ := OwnF.form ho1
  obtain rfl : n1 = fs.length := hn1.out
  have hrow : ∀ (k : Nat) (f : Fld), fs[k]? = some f → a1 = some ⟨(a1.getD ⟨0, 0, none⟩).block, 0, none⟩ := by
    intro k f hf
    rcases ho1.parts with ⟨h, h0⟩ | ⟨g, cap, h, _, _⟩
    · simp only at h0; rw [h0] at hf; simp at hf
    · obtain ⟨rfl, _, rfl⟩ : a1 = some ⟨g, 0, none⟩ ∧ True ∧ cap1 = cap := by simpa using h
      rfl
  go_wp2_with fail
  go_loopw [9, 22] (fun s c wr => ∃ k : Nat, k ≤ fs.length ∧ c = .int .i64 k ∧ s = .string (bs (onlyL m ls no (fs.take k))) ∧ OwnF wr w.heap.size (.slice a1 fs.length cap1) fs ∧ Below w.heap.size w wr) (fun _ c _ => fs.length - (intOf c).toNat)
  case atStart => exact ⟨0, Nat.zero_le _, rfl, rfl, ho1, hB1⟩
  case round =>
    obtain ⟨k, hk, rfl, rfl, ho, hB⟩ := hrel
    obtain ⟨wo, hwo⟩ : ∃ wo, wo = wr := ⟨_, rfl⟩
    subst hwo
    have hzr := hB.size
    have hol := onlyL_len m ls no (fs.take k)
    rw [List.length_take, Nat.min_eq_left hk] at hol
    have hol2 : (onlyL m ls no (fs.take k)).length ≤ 100000000 := by
      have : k * m.length ≤ 10000 * 10000 := Nat.mul_le_mul (by omega) hm
      omega
    by_cases hlt : k < fs.length
    · obtain ⟨f, hfk⟩ : ∃ f, fs[k]? = some f := ⟨_, List.getElem?_eq_getElem hlt⟩
      have ha1 := hrow k f hfk
      obtain ⟨g, hg⟩ : ∃ g, (a1.getD ⟨0, 0, none⟩).block = g := ⟨_, rfl⟩
      rw [hg] at ha1
      subst ha1
      have e0 : _ = some (Value.string (bs f.name)) := ho.cell k 0 f hfk (by decide)
      have e1 : _ = some (Value.string (bs f.value)) := ho.cell k 1 f hfk (by decide)
      have e2 : _ = some (Value.int .i64 f.pos) := ho.cell k 2 f hfk (by decide)
      have e3 : _ = some (Value.int .i64 f.fin) := ho.cell k 3 f hfk (by decide)
      rw [Nat.add_zero] at e0
      have hmem := List.mem_of_getElem? hfk
      obtain ⟨p1, p2⟩ := FB1.out f hmem
      have p3 := FB3.out f hmem
      have hsl := fun w0 => run_mid m f.pos f.fin p1 p2 w0
      have HNX := Lib.hid (onlyL_take m ls no hfk)
      obtain ⟨X, hX⟩ : ∃ X, (m.drop f.pos).take (f.fin - f.pos) = X := ⟨_, rfl⟩
      have hXl : X.length ≤ 10000 := by rw [← hX, List.length_take, List.length_drop]; omega
      rw [hX] at hsl
      have HX := Lib.hid hX
      obtain ⟨O, hO⟩ : ∃ O, onlyL m ls no (fs.take k) = O := ⟨_, rfl⟩
      rw [hO] at hol2
      have HO := Lib.hid hO
      obtain ⟨W1, hW1⟩ : ∃ W1, wo.alloc (.cells #[.string (bs f.name), .string (bs f.value), .int .i64 f.pos, .int .i64 f.fin] 31) = W1 := ⟨_, rfl⟩
      have hk1 : W1.heap[wo.heap.size]? = some (.cells #[.string (bs f.name), .string (bs f.value), .int .i64 f.pos, .int .i64 f.fin] 31 (0, 0)) := by rw [← hW1]; exact heap_new _ _
      have hBr : Below wo.heap.size wo W1 := by rw [← hW1]; exact (Below.refl _ _).alloc (Nat.le_refl _) _
      have hlt1 : wo.heap.size < W1.heap.size := by rw [← hW1]; simp
      have HW := Lib.hid hW1
      have hlt' : (k : Int) < fs.length := by omega
      have HK1 := Lib.hid hk1
      have HOO := Lib.hid ho
      have hfn : f.name.length ≤ 1099511627776 := by omega
      have HFN := Lib.hid hfn
      clear hfk hX hW1 hrow hol hmem hg hk1 ho hfn
      rw [hO]
      clear hO
      go_wp2_with fail
      rw [HW.out]
      clear e0 e1 e2 e3
      go_loopw [12, 28] (fun b c wr => ∃ j : Nat, j ≤ ls.length ∧ c = .int .i64 j ∧ b = .bool (amongL (ls.take j) f.name) ∧ Below W1.heap.size W1 wr) (fun _ c _ => ls.length - (intOf c).toNat)
      case atStart => exact ⟨0, Nat.zero_le _, rfl, rfl, Below.refl _ _⟩
      case round =>
        obtain ⟨j, hj, rfl, rfl, hBq⟩ := hrel
        have hzq := hBq.size
        have hB1 : Below w.heap.size w W1 := hB.trans (hBr.mono hzr)
        have hBw : Below w.heap.size w wr := hB1.trans (hBq.mono hB1.size)
        have hkq := (hBq.block wo.heap.size hlt1).trans HK1.out
        by_cases hjl : j < ls.length
        · obtain ⟨b, o, rfl⟩ := hform (by rintro rfl; simp at hjl)
          have hcell := (HV.out.below hBw).at hjl
          have hat := amongL_take ls f.name hjl
          obtain ⟨n, hnn⟩ : ∃ n, ls.getD j [] = n := ⟨_, rfl⟩
          have hnl : n.length ≤ 1099511627776 := by
            have : n ∈ ls := by rw [← hnn]; simp [List.getD, hjl]
            have := HN.out n this; omega
          rw [hnn] at hcell hat
          have HAT := Lib.hid hat
          have HNL := Lib.hid hnl
          have d0 : wr.cell? ⟨wo.heap.size, 0, none⟩ = some (.string (bs f.name)) := row_cell hkq rfl
          have g0 := fun g : Grow wr => g.cell d0
          have hjl' : (j : Int) < ls.length := by omega
          have HS1 := Lib.hid (fun w0 => refSmall_any n w0 HNL.out)
          have HS2 := Lib.hid (fun w0 => refSmall_any f.name w0 HFN.out)
          obtain ⟨A, hA⟩ : ∃ A, amongL (ls.take j) f.name = A := ⟨_, rfl⟩
          rw [hA]
          have HAT2 := HAT.out
          rw [hA] at HAT2
          have HAT3 := Lib.hid HAT2
          obtain ⟨LN, hLN⟩ : ∃ LN, lowL n = LN := ⟨_, rfl⟩
          obtain ⟨LF, hLF⟩ : ∃ LF, lowL f.name = LF := ⟨_, rfl⟩
          rw [hLN] at HS1 HAT3
          rw [hLF] at HS2 HAT3
          clear hnn hnl hat hkq hform HAT HAT2 hA d0 hLN hLF
          rcases A with _ | _
          · rcases hs : (LN == LF) with _ | _
            all_goals
              have h9 := HAT3.out
              rw [hs] at h9
              have HA4 := Lib.hid h9
              clear h9 HAT3
              go_wp2
              refine wp_region_grow (by kernel_rfl) (by kernel_rfl) ?_
              repeat (go_big_quiet_step ((go_at_call 15; first | with_reducible exact grow_call (HS1.out _) | with_reducible exact grow_call (HS2.out _))))
              refine wpQuiet_nil ?_
              rintro _ ⟨gw, rfl⟩
              go_wp2
              go_roundw
              case rel => exact ⟨j + 1, by omega, by go_num, by rw [HA4.out]; rfl, hBq.trans (gw.h.mono hzq)⟩
              case measure => simp [intOf]; omega
          · have h9 := HAT3.out
            rw [Bool.true_or] at h9
            have HA4 := Lib.hid h9
            clear h9 HAT3
            go_wp2
            refine wp_region_grow (by kernel_rfl) (by kernel_rfl) ?_
            repeat (go_big_quiet_step (fail))
            refine wpQuiet_nil ?_
            rintro _ ⟨gw, rfl⟩
            go_wp2
            go_roundw
            case rel => exact ⟨j + 1, by omega, by go_num, by rw [HA4.out], hBq.trans (gw.h.mono hzq)⟩
            case measure => simp [intOf]; omega
        · obtain rfl : j = ls.length := by omega
          rw [List.take_length]
          have d2 : wr.cell? ⟨wo.heap.size, 2, none⟩ = some (.int .i64 f.pos) := row_cell hkq rfl
          have d3 : wr.cell? ⟨wo.heap.size, 3, none⟩ = some (.int .i64 f.fin) := row_cell hkq rfl
          have hoq := (HOO.out.below hBr).below hBq
          have hnx := HNX.out
          unfold pieceL at hnx
          obtain ⟨A, hA⟩ : ∃ A, amongL ls f.name = A := ⟨_, rfl⟩
          rw [hA, HX.out, HO.out] at hnx
          rw [hA]
          have HNX2 := Lib.hid hnx
          clear hnx HNX hA hkq HOO
          rcases A with _ | _ <;> rcases no with _ | _
          all_goals
            have hnx := HNX2.out
            simp only [bne_self_eq_false, Bool.false_eq_true, if_false, List.append_nil, bne_iff_ne, ne_eq, Bool.true_eq_false, not_true_eq_false, not_false_eq_true, if_true, reduceIte] at hnx
            have HNX3 := Lib.hid hnx
            clear hnx HNX2
            have hsz : O.length + X.length ≤ 9223372036854775807 := by omega
            go_wp2
            go_roundw
            case rel => exact ⟨k + 1, by omega, by go_num, by first | (rw [HNX3.out, bs_append]) | (rw [HNX3.out]), hoq, hBw⟩
            case measure => simp [intOf]; omega
    · obtain rfl : k = fs.length := by omega
      rw [List.take_length] at hol2 ⊢
      obtain ⟨out, hout⟩ : ∃ out, onlyL m ls no fs = out := ⟨_, rfl⟩
      rw [hout] at hol2 ⊢
      have HOUT := Lib.hid hout
      clear hrow hol hout
      go_wp2
      go_ret
      exact ⟨by rw [HOUT.out, ← bs_append]; rfl, hB⟩

set_option maxRecDepth 100000 in
set_option maxHeartbeats 2000000 in
theorem headerOnly_list (m : List UInt8) (v : Value) (ls : List (List UInt8)) (no : Bool) (w : World) (hv : ArgS w v ls) (hm0 : m.length ≤ 9223372036854775807) : Calls Tryd.prog 9 #[.string (bs m), v, .bool no] w fun e w' => e = .returned (.bool true) ∧ Below w.heap.size w w' := by
  have HV := Lib.hid hv
  obtain ⟨an, capn, rfl, hform⟩ := hv.form
  clear hv
  go_enter Tryd.func9, Tryd.ntmps9
  go_wp2_with fail
  refine (alive_any _).mono ?_
  rintro e w1 ⟨rfl, hb1⟩
  by_cases hm : 10000 < m.length
  · have hm' : (10000 : Int) < m.length := by omega
    go_wp2
    go_ret
    exact ⟨rfl, hb1⟩
  have hm' : ¬ (10000 : Int) < m.length := by omega
  by_cases hl : 50 < ls.length
  · have hl' : (50 : Int) < ls.length := by omega
    go_wp2
    go_ret
    exact ⟨rfl, hb1⟩
  have hl' : ¬ (50 : Int) < ls.length := by omega
  go_wp2
  go_loopw [21] (fun c wr => ∃ k : Nat, k ≤ ls.length ∧ c = .int .i64 k ∧ Hid (∀ j, j < k → (ls.getD j []).length ≤ 1000) ∧ Below w.heap.size w wr) (fun c _ => ls.length - (intOf c).toNat)
  case atStart => exact ⟨0, Nat.zero_le _, rfl, fun j h => absurd h (Nat.not_lt_zero _), hb1⟩
  case round =>
    obtain ⟨k, hk, rfl, hjs, hB⟩ := hrel
    have hzr := hB.size
    by_cases hlt : k < ls.length
    · obtain ⟨b, o, rfl⟩ := hform (by rintro rfl; simp at hlt)
      have hcell := (HV.out.below hB).at hlt
      obtain ⟨n, hnn⟩ : ∃ n, ls.getD k [] = n := ⟨_, rfl⟩
      rw [hnn] at hcell
      have HNN := Lib.hid hnn
      have hlt' : (k : Int) < ls.length := by omega
      clear hnn hform
      by_cases hn : 500 < n.length
      · have hn' : (500 : Int) < n.length := by omega
        go_wp2
        go_ret
        exact ⟨rfl, hB⟩
      · have hn' : ¬ (500 : Int) < n.length := by omega
        go_wp2
        go_roundw
        case rel =>
          refine ⟨k + 1, by omega, by go_num, ?_, hB⟩
          intro j hj
          rcases Nat.lt_or_ge j k with h | h
          · exact hjs.out j h
          · obtain rfl : j = k := by omega
            rw [HNN.out]
            omega
        case measure => simp [intOf]; omega
    · obtain rfl : k = ls.length := by omega
      have hns : ∀ n ∈ ls, n.length ≤ 1000 := by
        intro n hn
        obtain ⟨j, hj, rfl⟩ := List.mem_iff_getElem.1 hn
        have := hjs.out j hj
        simpa [List.getD, hj] using this
      have h1 := only_any m _ ls no wr (HV.out.below hB) (by omega) (by omega) hns
      have h2 := fun w0 (h : Below wr.heap.size wr w0) => refOnly_any m _ ls no w0 ((HV.out.below hB).below h) (by omega) (by omega) hns
      obtain ⟨X, hX⟩ : ∃ X, onlyL m ls no (fieldsL m) ++ [13, 10] = X := ⟨_, rfl⟩
      have h3 := fun w0 => count_any m w0 (by omega)
      have h4 := fun w0 => refSplit_any m w0 (by omega)
      obtain ⟨L, hL⟩ : ∃ L, linesOf m = L := ⟨_, rfl⟩
      rw [hX] at h1 h2
      rw [hL] at h3 h4
      have H2 := Lib.hid h2
      have H3 := Lib.hid h3
      have H4 := Lib.hid h4
      clear h2 h3 h4 hX hL hns hform
      go_wp2_with fail
      refine h1.mono ?_
      rintro e w2 ⟨rfl, hb2⟩
      go_wp2_with fail
      refine (H2.out _ hb2).mono ?_
      rintro e w3 ⟨rfl, hb3⟩
      have hz2 := hB.trans (hb2.mono hzr)
      have hz3 := hz2.trans (hb3.mono hz2.size)
      go_wp2_with fail
      refine (H3.out _).mono ?_
      rintro e w4 ⟨rfl, hb4⟩
      have hz4 := hz3.trans (hb4.mono hz3.size)
      go_wp2_with fail
      refine (H4.out _).mono ?_
      rintro e w5 ⟨v5, rfl, o5, hb5⟩
      have hz5 := hz4.trans (hb5.mono hz4.size)
      obtain ⟨a5, n5, cap5, rfl, hn5⟩ := OwnS.form o5
      obtain rfl : n5 = L.length := hn5.out
      clear o5
      go_wp2
      go_ret
      exact ⟨rfl, hz5⟩

theorem headerOnly_any (s : ByteArray) (v : Value) (ls : List (List UInt8)) (no : Bool) (W : World) (hs : s.size ≤ 9223372036854775807) (hv : ArgS W v ls) : Calls Tryd.prog 9 #[.string s, v, .bool no] W fun e w' => e = .returned (.bool true) ∧ Below W.heap.size W w' :=
  headerOnly_list s.data.toList v ls no W hv (by simpa using hs)

end Go.Proofs.YtplmekfcnggigaaDoor
