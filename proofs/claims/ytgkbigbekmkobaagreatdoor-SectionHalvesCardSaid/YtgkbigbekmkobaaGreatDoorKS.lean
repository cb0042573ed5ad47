/- SectionHalves: the walk. Seat Z. -/
import Derived.Test.YtgkbigbekmkobaaGreatDoorKR
import Derived.Test.YtgkbigbekmkobaaGreatDoorKE
import Derived.Test.YtgkbigbekmkobaaGreatDoorK3
set_option linter.unusedVariables false
set_option linter.unusedSimpArgs false
namespace Go.Proofs.YtgkbigbekmkobaaGreatDoor
open Go.RowKit

theorem name_ref {s : List UInt8} (h : refName s = true) : nameOk s = true := by rw [← name_same]; exact h
theorem right_fields {ns : List (List UInt8)} (h0 : ns ≠ []) (hl : ns.length ≤ 20) (hn : ∀ n ∈ ns, nameOk n = true) : rightL [] tFIELDS ns = true ∧ rightL [] tNOT ns = true := by
  have ha : (ns.any fun n => !nameOk n) = false := by
    rw [List.any_eq_false]
    intro n h
    rw [hn n h]; simp
  have he : ns.isEmpty = false := by cases ns with | nil => exact absurd rfl h0 | cons _ _ => rfl
  unfold rightL
  rw [if_neg (by simp; omega), if_neg (by decide), if_neg (by decide), if_pos (.inl rfl), if_neg (by simp; omega), if_neg (by decide), if_neg (by decide), if_pos (.inr rfl), ha, he]
  exact ⟨rfl, rfl⟩
theorem total_le (m : List UInt8) : ∀ fs : List Fld, totalL m fs ≤ fs.length * m.length
  | [] => by simp [totalL]
  | f :: fs => by
    have ih := total_le m fs
    have e2 : totalL m (f :: fs) = ((m.drop f.pos).take (f.fin - f.pos)).length + totalL m fs := rfl
    have : ((m.drop f.pos).take (f.fin - f.pos)).length ≤ m.length := by simp; omega
    rw [e2, List.length_cons, Nat.add_mul]
    omega

set_option maxRecDepth 100000 in
set_option maxHeartbeats 2000000 in
theorem sectionHalves_list (m : List UInt8) (v : Value) (ns : List (List UInt8)) (w : World) (hA : ArgS w v ns) (mx : Int) (hm : w.cell? ⟨2, 0, none⟩ = some (.int .i64 mx)) :
    Calls Tryz.prog 3 #[.string (bs m), v] w fun e w' => e = .returned (.bool true) ∧ Below w.heap.size w w' := by
  have HA := Lib.hid hA
  have hal := alive_any mx w hm
  obtain ⟨a, c, rfl, fa⟩ := hA.strsF
  have FA := Lib.hid fa
  clear hA hm fa
  go_enter Tryz.func3, Tryz.ntmps3
  go_wp2_with fail
  refine hal.mono ?_
  rintro e w1 ⟨rfl, hb1⟩
  clear hal
  by_cases q1 : 10000 < m.length
  · have q1' : (10000 : Int) < m.length := by omega
    go_wp2
    go_ret
    exact ⟨rfl, hb1⟩
  have q1' : ¬ (10000 : Int) < m.length := by omega
  by_cases q2 : ns.length < 1
  · have q2' : (ns.length : Int) < 1 := by omega
    go_wp2
    go_ret
    exact ⟨rfl, hb1⟩
  have q2' : ¬ (ns.length : Int) < 1 := by omega
  by_cases q3 : 20 < ns.length
  · have q3' : (20 : Int) < ns.length := by omega
    go_wp2
    go_ret
    exact ⟨rfl, hb1⟩
  have q3' : ¬ (20 : Int) < ns.length := by omega
  go_wp2
  go_loopw [6, 38] (fun _ i wr => ∃ k : Nat, wr = w1 ∧ k ≤ ns.length ∧ i = .int .i64 k ∧ Hid (∀ n ∈ ns.take k, n.length ≤ 100 ∧ refName n = true)) (fun _ i _ => ns.length - (intOf i).toNat)
  case atStart => exact ⟨0, rfl, Nat.zero_le _, rfl, fun n h => by simp at h⟩
  case round =>
    obtain ⟨k, rfl, hk, rfl, hok⟩ := hrel
    by_cases hlt : k < ns.length
    · obtain ⟨b, o, rfl, hbl, hcells⟩ := FA.out (by rintro rfl; simp at hlt)
      have hcell := (hb1.cell (p := ⟨b, o + k, none⟩) hbl).trans (hcells k hlt)
      obtain ⟨x, hx⟩ : ∃ x, ns.getD k [] = x := ⟨_, rfl⟩
      have hat : ns[k]? = some x := by rw [← hx]; simp [List.getD, hlt]
      rw [hx] at hcell
      have hnext : x.length ≤ 100 → refName x = true → ∀ n ∈ ns.take (k + 1), n.length ≤ 100 ∧ refName n = true := by
        intro h1 h2 n hn
        rw [List.take_add_one, hat] at hn
        rcases List.mem_append.1 hn with hn | hn
        · exact hok.out n hn
        · simp at hn; subst hn; exact ⟨h1, h2⟩
      have HNX := Lib.hid hnext
      have hlt' : (k : Int) < ns.length := by omega
      clear hx hat hcells hnext hok
      by_cases h1 : 100 < x.length
      · have h1' : (100 : Int) < x.length := by omega
        go_wp2
        go_ret
        exact ⟨rfl, hb1⟩
      · have h1' : ¬ (100 : Int) < x.length := by omega
        have hrn := refName_any x wr (by omega)
        obtain ⟨rb, hrb⟩ : ∃ b, refName x = b := ⟨_, rfl⟩
        rw [hrb] at hrn
        have HRB := Lib.hid hrb
        have HRN := Lib.hid hrn
        clear hrb hrn
        go_wp2_with fail
        refine HRN.out.mono ?_
        rintro e w2 ⟨rfl, rfl⟩
        cases rb with
        | false =>
          go_wp2
          go_ret
          exact ⟨rfl, hb1⟩
        | true =>
          have hnx := HNX.out (by omega) HRB.out
          have HNX2 := Lib.hid hnx
          clear hnx HNX
          go_wp2
          go_roundw
          case rel => exact ⟨k + 1, by trivial, by omega, by go_num, HNX2.out⟩
          case measure => simp [intOf]; omega
    · obtain rfl : k = ns.length := by omega
      have hall := hok.out
      rw [List.take_length] at hall
      have h0 : ns ≠ [] := by rintro rfl; simp at q2
      have hf := right_fields h0 (by omega) (fun n h => name_ref (hall n h).2)
      have hB := fun (w0 : World) (hb : Below w.heap.size w w0) (wh : List UInt8) (h1 : rightL [] wh ns = true) (h2 : wh = tFIELDS ∨ wh = tNOT) => secBytes0_any m wh (.slice a ns.length c) ns w0 (by omega) (HA.out.below hb) (by omega) (fun n h => by have := (hall n h).1; omega) h1 (by rcases h2 with h | h; exact .inr (.inr (.inr (.inl h))); exact .inr (.inr (.inr (.inr h))))
      have hC := fun (w0 : World) (wh : List UInt8) (h1 : wh = [] ∨ wh = tHEADER ∨ wh = tTEXT) => secBytes0_any m wh (.slice none 0 0) [] w0 (by omega) (.inl ⟨none, 0, rfl, rfl⟩) (by simp) (by simp) (by rcases h1 with h | h | h <;> (subst h; decide)) (by rcases h1 with h | h | h; exact .inl h; exact .inr (.inl h); exact .inr (.inr (.inl h)))
      have hD := fun (w0 : World) (g : Nat) (hg : w0.heap[g]? = some (.cells #[.string (bs [33])] 9 (0, 0))) (wh : List UInt8) (h1 : wh = tFIELDS ∨ wh = tNOT) => secBytes0_any m wh (.slice (some ⟨g, 0, none⟩) 1 1) [[33]] w0 (by omega) (.inr ⟨g, 0, 1, rfl, by simp, (Array.getElem?_eq_some_iff.1 hg).1, fun j hj => by
        obtain rfl : j = 0 := by simp at hj; omega
        simp [World.cell?, hg]⟩) (by simp) (by simp) (by rcases h1 with h | h <;> (subst h; decide)) (by rcases h1 with h | h; exact .inr (.inr (.inr (.inl h))); exact .inr (.inr (.inr (.inr h))))
      obtain ⟨fs, hfs⟩ : ∃ fs, fieldsL m = fs := ⟨_, rfl⟩
      have hfl := (fields_bd m).2
      rw [hfs] at hfl
      obtain ⟨S1, hS1⟩ : ∃ x, onlyL m ns false fs ++ [13, 10] = x := ⟨_, rfl⟩
      obtain ⟨S2, hS2⟩ : ∃ x, onlyL m ns true fs ++ [13, 10] = x := ⟨_, rfl⟩
      obtain ⟨S3, hS3⟩ : ∃ x, onlyL m [[33]] true fs ++ [13, 10] = x := ⟨_, rfl⟩
      obtain ⟨S4, hS4⟩ : ∃ x, onlyL m [[33]] false fs ++ [13, 10] = x := ⟨_, rfl⟩
      have k1 := halves_len m ns fs
      have k2 := halves_len m [[33]] fs
      have k3 := total_le m fs
      have k4 : fs.length * m.length ≤ 10000 * 10000 := Nat.mul_le_mul (by omega) (by omega)
      have l1 : S1.length + S2.length = totalL m fs + 4 := by rw [← hS1, ← hS2]; simp; omega
      have l2 : S3.length + S4.length = totalL m fs + 4 := by rw [← hS3, ← hS4]; simp; omega
      obtain ⟨T, hT⟩ : ∃ T, totalL m fs = T := ⟨_, rfl⟩
      rw [hT] at l1 l2 k3
      have k5 : T ≤ 100000000 := by omega
      have b1 := fun w0 hb => hB w0 hb tFIELDS hf.1 (.inl rfl)
      have b2 := fun w0 hb => hB w0 hb tNOT hf.2 (.inr rfl)
      have d1 := fun w0 g hg => hD w0 g hg tNOT (.inr rfl)
      have d2 := fun w0 g hg => hD w0 g hg tFIELDS (.inl rfl)
      have c0 := fun w0 => hC w0 [] (.inl rfl)
      have c1 := fun w0 => hC w0 tHEADER (.inr (.inl rfl))
      have c2 := fun w0 => hC w0 tTEXT (.inr (.inr rfl))
      obtain ⟨Q, hQ⟩ : ∃ Q, bodyL m = Q := ⟨_, rfl⟩
      have w0e : wholeL m [] [] = m := rfl
      have w1e : wholeL m tHEADER [] = m.take Q := by rw [← hQ]; rfl
      have w2e : wholeL m tTEXT [] = m.drop Q := by rw [← hQ]; rfl
      have w3e : wholeL m tFIELDS ns = S1 := by rw [← hS1, ← hfs]; rfl
      have w4e : wholeL m tNOT ns = S2 := by rw [← hS2, ← hfs]; rfl
      have w5e : wholeL m tNOT [[33]] = S3 := by rw [← hS3, ← hfs]; rfl
      have w6e : wholeL m tFIELDS [[33]] = S4 := by rw [← hS4, ← hfs]; rfl
      obtain ⟨MA, hMA⟩ : ∃ x, m.take Q = x := ⟨_, rfl⟩
      obtain ⟨MB, hMB⟩ : ∃ x, m.drop Q = x := ⟨_, rfl⟩
      have hAB : MA ++ MB = m := by rw [← hMA, ← hMB]; exact List.take_append_drop Q m
      have hABl : MA.length + MB.length = m.length := by rw [← hAB]; simp
      rw [w3e] at b1
      rw [w4e] at b2
      rw [w5e] at d1
      rw [w6e] at d2
      rw [w0e] at c0
      rw [w1e, hMA] at c1
      rw [w2e, hMB] at c2
      have HB1 := Lib.hid b1
      have HB2 := Lib.hid b2
      have HD1 := Lib.hid d1
      have HD2 := Lib.hid d2
      have HC0 := Lib.hid c0
      have HC1 := Lib.hid c1
      have HC2 := Lib.hid c2
      have HAB := Lib.hid hAB
      clear hok hall hf hB hC hD hfs hfl hS1 hS2 hS3 hS4 k1 k2 k3 k4 hT b1 b2 d1 d2 c0 c1 c2 hQ w0e w1e w2e w3e w4e w5e w6e hMA hMB hAB h0 FA
      go_wp2_with fail
      refine (HC0.out _).mono ?_
      rintro e u1 ⟨rfl, hu1⟩
      have U1 : Below w.heap.size w u1 := hb1.trans (hu1.mono hb1.size)
      go_wp2_with fail
      refine (HC1.out _).mono ?_
      rintro e u2 ⟨rfl, hu2⟩
      have U2 : Below w.heap.size w u2 := U1.trans (hu2.mono U1.size)
      go_wp2_with fail
      refine (HC2.out _).mono ?_
      rintro e u3 ⟨rfl, hu3⟩
      have U3 : Below w.heap.size w u3 := U2.trans (hu3.mono U2.size)
      go_wp2_with fail
      refine (HB1.out _ U3).mono ?_
      rintro e u4 ⟨rfl, hu4⟩
      have U4 : Below w.heap.size w u4 := U3.trans (hu4.mono U3.size)
      go_wp2_with fail
      refine (HB2.out _ U4).mono ?_
      rintro e u5 ⟨rfl, hu5⟩
      have U5 : Below w.heap.size w u5 := U4.trans (hu5.mono U4.size)
      clear hu1 hu2 hu3 hu4 hu5 U1 U2 U3 U4 HB1 HB2 HC0 HC1 HC2
      have hneq : (!(bs MA ++ bs MB).toList == m) = false := by
        have e : (bs MA ++ bs MB).toList = m := by rw [bs_append, HAB.out, ByteArray.toList_eq]
        rw [e]; simp
      go_wp2_with fail
      obtain ⟨g, hg⟩ : ∃ g, u5.heap.size = g := ⟨_, rfl⟩
      obtain ⟨x1, hx1⟩ : ∃ x1, u5.alloc (.cells #[.string (bs [33])] 9) = x1 := ⟨_, rfl⟩
      have hr1 : x1.heap[g]? = some (.cells #[.string (bs [33])] 9 (0, 0)) := by rw [← hx1, ← hg]; exact heap_new _ _
      have X1 : Below w.heap.size w x1 := by rw [← hx1]; exact U5.alloc U5.size _
      rw [hx1]
      try rw [hg]
      clear hx1 U5
      refine (HD1.out x1 g hr1).mono ?_
      rintro e u6 ⟨rfl, hu6⟩
      have U6 : Below w.heap.size w u6 := X1.trans (hu6.mono X1.size)
      clear hr1 X1 hu6 HD1 hg
      go_wp2_with fail
      obtain ⟨g2, hg2⟩ : ∃ g, u6.heap.size = g := ⟨_, rfl⟩
      obtain ⟨x2, hx2⟩ : ∃ x2, u6.alloc (.cells #[.string (bs [33])] 9) = x2 := ⟨_, rfl⟩
      have hr2 : x2.heap[g2]? = some (.cells #[.string (bs [33])] 9 (0, 0)) := by rw [← hx2, ← hg2]; exact heap_new _ _
      have X2 : Below w.heap.size w x2 := by rw [← hx2]; exact U6.alloc U6.size _
      rw [hx2]
      try rw [hg2]
      clear hx2 U6
      refine (HD2.out x2 g2 hr2).mono ?_
      rintro e u7 ⟨rfl, hu7⟩
      have U7 : Below w.heap.size w u7 := X2.trans (hu7.mono X2.size)
      clear hr2 X2 hu7 HD2 hg2 hneq
      have hfin : ((S1.length : Int) + S2.length - 2 == (S3.length : Int) + S4.length - 2) = true := by
        rw [beq_iff_eq]; omega
      have n1 : (S1.length : Int) + S2.length ≤ 100000004 := by omega
      have n2 : (S3.length : Int) + S4.length ≤ 100000004 := by omega
      go_wp2
      go_ret
      exact ⟨by first | rfl | simp_all, U7⟩

theorem sectionHalves_any (m : ByteArray) (v : Value) (ns : List (List UInt8)) (w : World) (_ : m.size ≤ 9223372036854775807) (g : ArgS w v ns) (mx : Int) (hm : w.cell? ⟨2, 0, none⟩ = some (.int .i64 mx)) :
    Calls Tryz.prog 3 #[.string m, v] w fun e w' => e = .returned (.bool true) ∧ Below w.heap.size w w' :=
  sectionHalves_list m.data.toList v ns w g mx hm

end Go.Proofs.YtgkbigbekmkobaaGreatDoor
