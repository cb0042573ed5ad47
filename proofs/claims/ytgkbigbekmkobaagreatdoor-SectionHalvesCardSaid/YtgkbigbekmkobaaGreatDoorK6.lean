/- section: slices.ContainsFunc of names; right of any Spec. -/
import Derived.Test.YtgkbigbekmkobaaGreatDoorK5
set_option linter.unusedVariables false
set_option linter.unusedSimpArgs false
namespace Go.Proofs.YtgkbigbekmkobaaGreatDoor
open Go.RowKit

/-- a slice of strings reads as ls, wherever an empty one points -/
def StrsF (w : World) (v : Value) (ls : List (List UInt8)) : Prop := ∃ a c, v = .slice a ls.length c ∧ (ls ≠ [] → ∃ b o, a = some ⟨b, o, none⟩ ∧ b < w.heap.size ∧ ∀ j, j < ls.length → w.cell? ⟨b, o + j, none⟩ = some (.string (bs (ls.getD j []))))
theorem StrsF.below {w w' : World} {v : Value} {ls : List (List UInt8)} (h : StrsF w v ls) (hb : Below w.heap.size w w') : StrsF w' v ls := by
  obtain ⟨a, c, h1, h2⟩ := h
  refine ⟨a, c, h1, fun hne => ?_⟩
  obtain ⟨b, o, e, hl, hc⟩ := h2 hne
  exact ⟨b, o, e, Nat.lt_of_lt_of_le hl hb.size, fun j hj => (hb.cell (p := ⟨b, o + j, none⟩) hl).trans (hc j hj)⟩
theorem StrsAt.form {w : World} {v : Value} {ls : List (List UInt8)} (h : StrsAt w v ls) : StrsF w v ls := by
  rcases h with ⟨rfl, rfl⟩ | ⟨b, o, c, rfl, _, h3, h4⟩
  · exact ⟨none, 0, rfl, fun h => absurd rfl h⟩
  · exact ⟨_, c, rfl, fun _ => ⟨b, o, rfl, h3, h4⟩⟩

set_option maxRecDepth 100000 in
set_option maxHeartbeats 1000000 in
theorem indexS_any (v : Value) (ls : List (List UInt8)) (w : World) (hv : StrsF w v ls) (hl : ls.length ≤ 1000) (hn : ∀ n ∈ ls, n.length ≤ 1099511627776) :
    Calls Tryz.prog 31 #[v, .func (.func 21) #[] #[]] w fun e w' => (∃ i : Int, e = .returned (.int .i64 i) ∧ decide (0 ≤ i) = ls.any (fun n => !nameOk n)) ∧ Below w.heap.size w w' := by
  obtain ⟨A, hA⟩ : ∃ A, ls.any (fun n => !nameOk n) = A := ⟨_, rfl⟩
  rw [hA]
  have HA := Lib.hid hA
  have HN := Lib.hid hn
  obtain ⟨a, cap, rfl, hform⟩ := hv
  clear hA hn
  go_enter Tryz.func31, Tryz.ntmps31
  go_wp2
  go_loopw [8] (fun i wr => ∃ k : Nat, k ≤ ls.length ∧ i = .int .i64 k ∧ Hid ((ls.drop k).any (fun n => !nameOk n) = A) ∧ Below w.heap.size w wr) (fun i _ => ls.length - (intOf i).toNat)
  case atStart => exact ⟨0, Nat.zero_le _, rfl, HA.out, Below.refl _ _⟩
  case round =>
    obtain ⟨k, hk, rfl, hr, hB⟩ := hrel
    have hzr := hB.size
    by_cases hlt : k < ls.length
    · obtain ⟨b, o, rfl, hbl, hcells⟩ := hform (by rintro rfl; simp at hlt)
      have hcell := (hB.cell (p := ⟨b, o + k, none⟩) hbl).trans (hcells k hlt)
      obtain ⟨n, hnn⟩ : ∃ n, ls.getD k [] = n := ⟨_, rfl⟩
      have hnl : n.length ≤ 1099511627776 := HN.out n (by rw [← hnn]; simp [List.getD, hlt])
      rw [hnn] at hcell
      have hr2 := hr.out
      rw [show ls.drop k = n :: ls.drop (k + 1) by rw [List.drop_eq_getElem_cons hlt, ← hnn]; simp [List.getD, hlt], List.any_cons] at hr2
      have HR2 := Lib.hid hr2
      have HNL := Lib.hid hnl
      have hlt' : (k : Int) < ls.length := by omega
      clear hnn hr hr2 hform hcells hnl
      go_wp2_with fail
      refine (right2_any n _ HNL.out).mono ?_
      rintro e w1 ⟨rfl, hb1⟩
      rcases hs : (!nameOk n) with _ | _
      · have hr3 := HR2.out
        rw [hs, Bool.false_or] at hr3
        have HR3 := Lib.hid hr3
        clear hr3 HR2 hs
        go_wp2
        go_roundw
        case rel => exact ⟨k + 1, by omega, by go_num, HR3.out, hB.trans (hb1.mono hzr)⟩
        case measure => simp [intOf]; omega
      · have hr3 := HR2.out
        rw [hs, Bool.true_or] at hr3
        subst hr3
        clear HR2 hs
        go_wp2
        go_ret
        exact ⟨⟨k, rfl, by simp⟩, hB.trans (hb1.mono hzr)⟩
    · obtain rfl : k = ls.length := by omega
      have hr2 := hr.out
      rw [List.drop_length] at hr2
      have hr3 : A = false := by rw [← hr2]; rfl
      subst hr3
      clear hr hr2 hform
      go_wp2
      go_ret
      exact ⟨⟨-1, rfl, rfl⟩, hB⟩

set_option maxRecDepth 100000 in
theorem containsS_any (v : Value) (ls : List (List UInt8)) (w : World) (hv : StrsF w v ls) (hl : ls.length ≤ 1000) (hn : ∀ n ∈ ls, n.length ≤ 1099511627776) :
    Calls Tryz.prog 20 #[v, .func (.func 21) #[] #[]] w fun e w' => e = .returned (.bool (ls.any fun n => !nameOk n)) ∧ Below w.heap.size w w' := by
  have hi := indexS_any v ls w hv hl hn
  obtain ⟨A, hA⟩ : ∃ A, (ls.any fun n => !nameOk n) = A := ⟨_, rfl⟩
  rw [hA] at hi ⊢
  have HI := Lib.hid hi
  clear hi hA hv hn
  go_enter Tryz.func20, Tryz.ntmps20
  go_wp2_with fail
  refine HI.out.mono ?_
  rintro e w1 ⟨⟨i, rfl, hi⟩, hb1⟩
  go_wp2
  go_ret
  exact ⟨by first | rfl | simp [hi], hb1⟩

abbrev tHEADER : List UInt8 := [72, 69, 65, 68, 69, 82]
abbrev tTEXT : List UInt8 := [84, 69, 88, 84]
abbrev tMIME : List UInt8 := [77, 73, 77, 69]
abbrev tFIELDS : List UInt8 := [72, 69, 65, 68, 69, 82, 46, 70, 73, 69, 76, 68, 83]
abbrev tNOT : List UInt8 := [72, 69, 65, 68, 69, 82, 46, 70, 73, 69, 76, 68, 83, 46, 78, 79, 84]
/-- has a section a text -/
def rightL (ps : List Int) (wh : List UInt8) (ns : List (List UInt8)) : Bool :=
  if 20 < ps.length ∨ 20 < ns.length ∨ ps.any badN = true then false
  else if wh = [] ∨ wh = tHEADER ∨ wh = tTEXT then ns.isEmpty
  else if wh = tMIME then ns.isEmpty && !ps.isEmpty
  else if wh = tFIELDS ∨ wh = tNOT then !ns.isEmpty && !(ns.any fun n => !nameOk n)
  else false

set_option maxRecDepth 100000 in
set_option maxHeartbeats 2000000 in
theorem right_any (v nv : Value) (ps : List Int) (wh : List UInt8) (ns : List (List UInt8)) (w : World) (hv : IntsAt w v ps) (hnv : StrsF w nv ns) (hn : ∀ n ∈ ns, n.length ≤ 1099511627776) (hp : ps.length ≤ 1099511627776) (hnl : ns.length ≤ 1099511627776) :
    Calls Tryz.prog 9 #[.agg #[v, .string (bs wh), nv]] w fun e w' => e = .returned (.bool (rightL ps wh ns)) ∧ Below w.heap.size w w' := by
  have HV := Lib.hid hv
  have HNV := Lib.hid hnv
  have HN := Lib.hid hn
  obtain ⟨a, c, rfl, _⟩ := hv
  obtain ⟨na, nc, rfl, _⟩ := hnv
  obtain ⟨R, hR⟩ : ∃ R, rightL ps wh ns = R := ⟨_, rfl⟩
  rw [hR]
  have HR := Lib.hid hR
  clear hR hn
  have b0 := (Below.refl w.heap.size w).alloc (Nat.le_refl _) (.cells #[.slice a ps.length c, .string (bs wh), .slice na ns.length nc] 29)
  by_cases h1 : 20 < ps.length
  · have hr := HR.out
    unfold rightL at hr
    rw [if_pos (.inl h1)] at hr
    subst hr
    go_enter Tryz.func9, Tryz.ntmps9
    go_wp2
    go_ret
    exact ⟨rfl, b0⟩
  by_cases h2 : 20 < ns.length
  · have hr := HR.out
    unfold rightL at hr
    rw [if_pos (.inr (.inl h2))] at hr
    subst hr
    go_enter Tryz.func9, Tryz.ntmps9
    go_wp2
    go_ret
    exact ⟨rfl, b0⟩
  have hci := containsI_any _ ps _ (HV.out.below b0) (by omega)
  have HCI := Lib.hid hci
  clear hci
  rcases h3 : ps.any badN with _ | _
  case true =>
    have hr := HR.out
    unfold rightL at hr
    rw [if_pos (.inr (.inr h3))] at hr
    subst hr
    rw [h3] at HCI
    go_enter Tryz.func9, Tryz.ntmps9
    go_wp2_with fail
    refine HCI.out.mono ?_
    rintro e w1 ⟨rfl, hb1⟩
    go_wp2
    go_ret
    exact ⟨rfl, b0.trans (hb1.mono (by simp))⟩
  rw [h3] at HCI
  have hr := HR.out
  unfold rightL at hr
  rw [if_neg (by simp [h1, h2, h3])] at hr
  have HR2 := Lib.hid hr
  clear hr HR h3
  go_enter Tryz.func9, Tryz.ntmps9
  go_wp2_with fail
  refine HCI.out.mono ?_
  rintro e w1 ⟨rfl, hb1⟩
  have hB : Below w.heap.size w w1 := b0.trans (hb1.mono (by simp))
  have hrow := (hb1.block w.heap.size (by simp)).trans (heap_new w _)
  have q0 : w1.cell? ⟨w.heap.size, 0, none⟩ = some (.slice a ps.length c) := by simp [World.cell?, hrow]
  have q1 : w1.cell? ⟨w.heap.size, 1, none⟩ = some (.string (bs wh)) := by simp [World.cell?, hrow]
  have q2 : w1.cell? ⟨w.heap.size, 2, none⟩ = some (.slice na ns.length nc) := by simp [World.cell?, hrow]
  clear hrow hb1 HCI
  by_cases x0 : wh = []
  · subst x0
    by_cases hn0 : ns = []
    · subst hn0
      clear q0
      go_wp2
      go_ret
      exact ⟨by rw [← HR2.out]; rfl, hB⟩
    · have hpos : 0 < ns.length := List.length_pos_iff.2 hn0
      have hr : R = false := by rw [← HR2.out]; simp [hn0]
      subst hr
      clear q0
      go_wp2
      go_ret
      exact ⟨by simp; omega, hB⟩
  by_cases x1 : wh = tHEADER
  · subst x1
    by_cases hn0 : ns = []
    · subst hn0
      clear q0
      go_wp2
      go_ret
      exact ⟨by rw [← HR2.out]; rfl, hB⟩
    · have hpos : 0 < ns.length := List.length_pos_iff.2 hn0
      have hr : R = false := by rw [← HR2.out]; simp [hn0]
      subst hr
      clear q0
      go_wp2
      go_ret
      exact ⟨by simp; omega, hB⟩
  by_cases x2 : wh = tTEXT
  · subst x2
    by_cases hn0 : ns = []
    · subst hn0
      clear q0
      go_wp2
      go_ret
      exact ⟨by rw [← HR2.out]; rfl, hB⟩
    · have hpos : 0 < ns.length := List.length_pos_iff.2 hn0
      have hr : R = false := by rw [← HR2.out]; simp [hn0]
      subst hr
      clear q0
      go_wp2
      go_ret
      exact ⟨by simp; omega, hB⟩
  by_cases x3 : wh = tMIME
  · subst x3
    by_cases hn0 : ns = []
    · subst hn0
      by_cases hp0 : ps = []
      · subst hp0
        have hr : R = false := by rw [← HR2.out]; simp
        subst hr
        go_wp2
        go_ret
        exact ⟨rfl, hB⟩
      · have hpos : 0 < ps.length := List.length_pos_iff.2 hp0
        have hr : R = true := by rw [← HR2.out]; simp [hp0]
        subst hr
        have hpos' : (0 : Int) < ps.length := by omega
        go_wp2
        go_ret
        exact ⟨by simp, hB⟩
    · have hpos : 0 < ns.length := List.length_pos_iff.2 hn0
      have hr : R = false := by rw [← HR2.out]; simp [hn0]
      subst hr
      have d0 : ((ns.length : Int) == 0) = false := beq_eq_false_iff_ne.2 (by omega)
      go_wp2
      go_ret
      exact ⟨by simp, hB⟩
  by_cases x4 : wh = tFIELDS
  · subst x4
    by_cases hn0 : ns = []
    · subst hn0
      have hr : R = false := by rw [← HR2.out]; simp
      subst hr
      go_wp2
      go_ret
      exact ⟨rfl, hB⟩
    · have hpos : 0 < ns.length := List.length_pos_iff.2 hn0
      have hr : R = !(ns.any fun n => !nameOk n) := by rw [← HR2.out]; simp [hn0]
      have hcs := containsS_any _ ns _ (HNV.out.below hB) (by omega) HN.out
      have HCS := Lib.hid hcs
      obtain ⟨A, hA⟩ : ∃ A, (ns.any fun n => !nameOk n) = A := ⟨_, rfl⟩
      rw [hA] at HCS hr
      have hpos' : (0 : Int) < ns.length := by omega
      clear HR2
      subst hr
      clear hcs hA hn0 hpos
      go_wp2_with fail
      refine HCS.out.mono ?_
      rintro e w2 ⟨rfl, hb2⟩
      go_wp2
      go_ret
      exact ⟨rfl, hB.trans (hb2.mono (by have := hB.size; omega))⟩
  by_cases x5 : wh = tNOT
  · subst x5
    by_cases hn0 : ns = []
    · subst hn0
      have hr : R = false := by rw [← HR2.out]; simp
      subst hr
      go_wp2
      go_ret
      exact ⟨rfl, hB⟩
    · have hpos : 0 < ns.length := List.length_pos_iff.2 hn0
      have hr : R = !(ns.any fun n => !nameOk n) := by rw [← HR2.out]; simp [hn0]
      have hcs := containsS_any _ ns _ (HNV.out.below hB) (by omega) HN.out
      have HCS := Lib.hid hcs
      obtain ⟨A, hA⟩ : ∃ A, (ns.any fun n => !nameOk n) = A := ⟨_, rfl⟩
      rw [hA] at HCS hr
      have hpos' : (0 : Int) < ns.length := by omega
      clear HR2
      subst hr
      clear hcs hA hn0 hpos
      go_wp2_with fail
      refine HCS.out.mono ?_
      rintro e w2 ⟨rfl, hb2⟩
      go_wp2
      go_ret
      exact ⟨rfl, hB.trans (hb2.mono (by have := hB.size; omega))⟩
  · have hr : R = false := by rw [← HR2.out]; simp [x0, x1, x2, x3, x4, x5]
    subst hr
    have y0 : (wh == ([] : List UInt8)) = false := beq_eq_false_iff_ne.2 x0
    have y1 : (wh == ([72, 69, 65, 68, 69, 82] : List UInt8)) = false := beq_eq_false_iff_ne.2 x1
    have y2 : (wh == ([84, 69, 88, 84] : List UInt8)) = false := beq_eq_false_iff_ne.2 x2
    have y3 : (wh == ([77, 73, 77, 69] : List UInt8)) = false := beq_eq_false_iff_ne.2 x3
    have y4 : (wh == ([72, 69, 65, 68, 69, 82, 46, 70, 73, 69, 76, 68, 83] : List UInt8)) = false := beq_eq_false_iff_ne.2 x4
    have y5 : (wh == ([72, 69, 65, 68, 69, 82, 46, 70, 73, 69, 76, 68, 83, 46, 78, 79, 84] : List UInt8)) = false := beq_eq_false_iff_ne.2 x5
    clear x0 x1 x2 x3 x4 x5
    go_wp2
    go_ret
    exact ⟨rfl, hB⟩

end Go.Proofs.YtgkbigbekmkobaaGreatDoor
