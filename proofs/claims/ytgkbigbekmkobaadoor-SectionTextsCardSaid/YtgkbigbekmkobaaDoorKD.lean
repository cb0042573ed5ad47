/- section's reference: Right. -/
import Derived.Test.YtgkbigbekmkobaaDoorKC
set_option linter.unusedVariables false
set_option linter.unusedSimpArgs false
namespace Go.Proofs.YtgkbigbekmkobaaDoor
open Go.RowKit

def refRightL (ps : List Int) (wh : List UInt8) (ns : List (List UInt8)) : Bool :=
  if 20 < ps.length ∨ 20 < ns.length ∨ ps.any badN = true ∨ ns.any (fun n => !refName n) = true then false
  else if wh = tFIELDS ∨ wh = tNOT then !ns.isEmpty
  else if ns = [] then decide (wh = [] ∨ wh = tHEADER ∨ wh = tTEXT ∨ (wh = tMIME ∧ ps ≠ []))
  else false

set_option maxRecDepth 100000 in
set_option maxHeartbeats 4000000 in
theorem refRight_any (v nv : Value) (ps : List Int) (wh : List UInt8) (ns : List (List UInt8)) (w : World) (hv : IntsAt w v ps) (hnv : StrsF w nv ns) (hn : ∀ n ∈ ns, n.length ≤ 1099511627776) (hp : ps.length ≤ 1099511627776) (hnl : ns.length ≤ 1099511627776) :
    Calls Tryd.prog 14 #[.agg #[v, .string (bs wh), nv]] w fun e w' => e = .returned (.bool (refRightL ps wh ns)) ∧ Below w.heap.size w w' := by
  have HN := Lib.hid hn
  obtain ⟨a, c, rfl, fa⟩ := hv
  obtain ⟨na, nc, rfl, fn⟩ := hnv
  have FA := Lib.hid fa
  have FN := Lib.hid fn
  obtain ⟨R, hR⟩ : ∃ R, refRightL ps wh ns = R := ⟨_, rfl⟩
  rw [hR]
  have HR := Lib.hid hR
  clear hR hn fa fn
  have b0 := (Below.refl w.heap.size w).alloc (Nat.le_refl _) (.cells #[.slice a ps.length c, .string (bs wh), .slice na ns.length nc] 34)
  by_cases h1 : 20 < ps.length
  · have hr := HR.out
    unfold refRightL at hr
    rw [if_pos (.inl h1)] at hr
    subst hr
    go_enter Tryd.func14, Tryd.ntmps14
    go_wp2
    go_ret
    exact ⟨rfl, b0⟩
  by_cases h2 : 20 < ns.length
  · have hr := HR.out
    unfold refRightL at hr
    rw [if_pos (.inr (.inl h2))] at hr
    subst hr
    go_enter Tryd.func14, Tryd.ntmps14
    go_wp2
    go_ret
    exact ⟨rfl, b0⟩
  go_enter Tryd.func14, Tryd.ntmps14
  go_wp2
  obtain ⟨wa, hwa⟩ : ∃ wa, w.alloc (.cells #[.slice a ps.length c, .string (bs wh), .slice na ns.length nc] 34) = wa := ⟨_, rfl⟩
  have hrow : wa.heap[w.heap.size]? = some (.cells #[.slice a ps.length c, .string (bs wh), .slice na ns.length nc] 34 (0, 0)) := by rw [← hwa]; exact heap_new w _
  rw [hwa] at b0 ⊢
  have q0 : wa.cell? ⟨w.heap.size, 0, none⟩ = some (.slice a ps.length c) := by simp [World.cell?, hrow]
  have q1 : wa.cell? ⟨w.heap.size, 1, none⟩ = some (.string (bs wh)) := by simp [World.cell?, hrow]
  have q2 : wa.cell? ⟨w.heap.size, 2, none⟩ = some (.slice na ns.length nc) := by simp [World.cell?, hrow]
  clear hrow hwa
  go_loop [21] (fun i => ∃ k : Nat, k ≤ ps.length ∧ i = .int .i64 k ∧ Hid ((ps.drop k).any badN = ps.any badN)) (fun i => ps.length - (intOf i).toNat)
  case atStart => exact ⟨0, Nat.zero_le _, rfl, rfl⟩
  case round =>
    obtain ⟨k, hk, rfl, hr⟩ := hrel
    by_cases hlt : k < ps.length
    · obtain ⟨b, o, rfl, hbl, hcells⟩ := FA.out (by rintro rfl; simp at hlt)
      have hcell := (b0.cell (p := ⟨b, o + k, none⟩) hbl).trans (hcells k hlt)
      obtain ⟨n, hnn⟩ : ∃ n, ps.getD k 0 = n := ⟨_, rfl⟩
      rw [hnn] at hcell
      have hr2 := hr.out
      rw [show ps.drop k = n :: ps.drop (k + 1) by rw [List.drop_eq_getElem_cons hlt, ← hnn]; simp [List.getD, hlt], List.any_cons] at hr2
      have HR2 := Lib.hid hr2
      have hlt' : (k : Int) < ps.length := by omega
      clear hnn hr hr2 hcells
      by_cases hb : n < 1 ∨ 999 < n
      · have hbad : ps.any badN = true := by
          rw [← HR2.out]
          have : badN n = true := by unfold badN; simpa using hb
          rw [this]; rfl
        have hr := HR.out
        unfold refRightL at hr
        rw [if_pos (.inr (.inr (.inl hbad)))] at hr
        subst hr
        clear HR2 hbad
        rcases (by omega : n < 1 ∨ (1 ≤ n ∧ 999 < n)) with hb | ⟨hb, hb'⟩
        all_goals
          go_wp2
          go_ret
          exact ⟨rfl, b0⟩
      · have hz : badN n = false := by unfold badN; simp; omega
        have hr3 := HR2.out
        rw [hz, Bool.false_or] at hr3
        have HR3 := Lib.hid hr3
        have hb1 : 1 ≤ n := by omega
        have hb2 : n ≤ 999 := by omega
        clear hr3 HR2 hz hb
        go_wp2
        go_round
        case rel => exact ⟨k + 1, by omega, by go_num, HR3.out⟩
        case measure => simp [intOf]; omega
    · obtain rfl : k = ps.length := by omega
      have hr2 := hr.out
      rw [List.drop_length] at hr2
      have hbadp : Hid (ps.any badN = false) := by show _ = _; rw [← hr2]; rfl
      clear hr hr2
      go_wp2
      go_loopw [35] (fun i wr => ∃ k : Nat, k ≤ ns.length ∧ i = .int .i64 k ∧ Hid ((ns.drop k).any (fun n => !refName n) = ns.any (fun n => !refName n)) ∧ wr = wa) (fun i _ => ns.length - (intOf i).toNat)
      case atStart => exact ⟨0, Nat.zero_le _, rfl, rfl, rfl⟩
      case round =>
        obtain ⟨k, hk, rfl, hr, rfl⟩ := hrel
        by_cases hlt : k < ns.length
        · obtain ⟨b, o, rfl, hbl, hcells⟩ := FN.out (by rintro rfl; simp at hlt)
          have hcell := (b0.cell (p := ⟨b, o + k, none⟩) hbl).trans (hcells k hlt)
          obtain ⟨n, hnn⟩ : ∃ n, ns.getD k [] = n := ⟨_, rfl⟩
          have hnl' : n.length ≤ 1099511627776 := HN.out n (by rw [← hnn]; simp [List.getD, hlt])
          rw [hnn] at hcell
          have hr2 := hr.out
          rw [show ns.drop k = n :: ns.drop (k + 1) by rw [List.drop_eq_getElem_cons hlt, ← hnn]; simp [List.getD, hlt], List.any_cons] at hr2
          have HR2 := Lib.hid hr2
          have HNL := Lib.hid hnl'
          have hlt' : (k : Int) < ns.length := by omega
          clear hnn hr hr2 hcells hnl'
          rcases hs : refName n with _ | _
          · have hbad : ns.any (fun n => !refName n) = true := by rw [← HR2.out, hs]; rfl
            have hr := HR.out
            unfold refRightL at hr
            rw [if_pos (.inr (.inr (.inr hbad)))] at hr
            subst hr
            clear HR2 hbad
            have hnm := refName_any n wr HNL.out
            rw [hs] at hnm
            have HNM := Lib.hid hnm
            clear hnm hs
            go_wp2_with (go_at_call 29; refine HNM.out.mono ?_; rintro e w' ⟨rfl, rfl⟩)
            go_ret
            exact ⟨rfl, b0⟩
          · have hr3 := HR2.out
            rw [hs, Bool.not_true, Bool.false_or] at hr3
            have HR3 := Lib.hid hr3
            have hnm := refName_any n wr HNL.out
            rw [hs] at hnm
            have HNM := Lib.hid hnm
            clear hnm hs hr3 HR2
            go_wp2_with (go_at_call 29; refine HNM.out.mono ?_; rintro e w' ⟨rfl, rfl⟩)
            go_roundw
            case rel => exact ⟨k + 1, by omega, by go_num, HR3.out, by first | rfl | trivial⟩
            case measure => simp [intOf]; omega
        · obtain rfl : k = ns.length := by omega
          have hr2 := hr.out
          rw [List.drop_length] at hr2
          have hbadn : ns.any (fun n => !refName n) = false := by rw [← hr2]; rfl
          have hr9 := HR.out
          unfold refRightL at hr9
          rw [if_neg (by simp only [h1, h2, hbadp.out, hbadn]; simp)] at hr9
          have HR9 := Lib.hid hr9
          clear hr hr2 hbadn hr9 HR hbadp
          by_cases x4 : wh = tFIELDS
          · subst x4
            by_cases hn0 : ns = []
            · subst hn0
              have hr : R = false := by rw [← HR9.out]; simp
              subst hr
              clear HR9
              go_wp2
              go_ret
              exact ⟨by first | rfl | (simp; omega), b0⟩
            · have hpos : (0 : Int) < ns.length := by have := List.length_pos_iff.2 hn0; omega
              have dpos : decide (0 < ns.length) = true := decide_eq_true (by omega)
              have hr : R = true := by rw [← HR9.out]; simp [hn0]
              subst hr
              clear HR9 hn0
              go_wp2
              go_ret
              exact ⟨by first | rfl | (simp; omega), b0⟩
          by_cases x5 : wh = tNOT
          · subst x5
            by_cases hn0 : ns = []
            · subst hn0
              have hr : R = false := by rw [← HR9.out]; simp
              subst hr
              clear HR9
              go_wp2
              go_ret
              exact ⟨by first | rfl | (simp; omega), b0⟩
            · have hpos : (0 : Int) < ns.length := by have := List.length_pos_iff.2 hn0; omega
              have dpos : decide (0 < ns.length) = true := decide_eq_true (by omega)
              have hr : R = true := by rw [← HR9.out]; simp [hn0]
              subst hr
              clear HR9 hn0
              go_wp2
              go_ret
              exact ⟨by first | rfl | (simp; omega), b0⟩
          by_cases hn0 : ns = []
          case neg =>
            have hpos : (0 : Int) < ns.length := by have := List.length_pos_iff.2 hn0; omega
            have hr : R = false := by rw [← HR9.out]; simp [hn0, x4, x5]
            subst hr
            have y4 : (wh == ([72, 69, 65, 68, 69, 82, 46, 70, 73, 69, 76, 68, 83] : List UInt8)) = false := beq_eq_false_iff_ne.2 x4
            have y5 : (wh == ([72, 69, 65, 68, 69, 82, 46, 70, 73, 69, 76, 68, 83, 46, 78, 79, 84] : List UInt8)) = false := beq_eq_false_iff_ne.2 x5
            clear HR9 hn0 x4 x5
            go_wp2
            go_ret
            exact ⟨by first | rfl | (simp; omega), b0⟩
          subst hn0
          by_cases x0 : wh = []
          · subst x0
            have hr : R = true := by rw [← HR9.out]; simp
            subst hr
            clear HR9
            go_wp2
            go_ret
            exact ⟨by first | rfl | (simp; omega), b0⟩
          by_cases x1 : wh = tHEADER
          · subst x1
            have hr : R = true := by rw [← HR9.out]; simp
            subst hr
            clear HR9
            go_wp2
            go_ret
            exact ⟨by first | rfl | (simp; omega), b0⟩
          by_cases x2 : wh = tTEXT
          · subst x2
            have hr : R = true := by rw [← HR9.out]; simp
            subst hr
            clear HR9
            go_wp2
            go_ret
            exact ⟨by first | rfl | (simp; omega), b0⟩
          by_cases x3 : wh = tMIME
          · subst x3
            by_cases hp0 : ps = []
            · subst hp0
              have hr : R = false := by rw [← HR9.out]; simp
              subst hr
              clear HR9
              go_wp2
              go_ret
              exact ⟨by first | rfl | (simp; omega), b0⟩
            · have hpos : (0 : Int) < ps.length := by have := List.length_pos_iff.2 hp0; omega
              have hr : R = true := by rw [← HR9.out]; simp [hp0]
              subst hr
              clear HR9 hp0
              go_wp2
              go_ret
              exact ⟨by first | rfl | (simp; omega), b0⟩
          have hr : R = false := by rw [← HR9.out]; simp [x0, x1, x2, x3, x4, x5]
          subst hr
          have y0 : (wh == ([] : List UInt8)) = false := beq_eq_false_iff_ne.2 x0
          have y1 : (wh == ([72, 69, 65, 68, 69, 82] : List UInt8)) = false := beq_eq_false_iff_ne.2 x1
          have y2 : (wh == ([84, 69, 88, 84] : List UInt8)) = false := beq_eq_false_iff_ne.2 x2
          have y3 : (wh == ([77, 73, 77, 69] : List UInt8)) = false := beq_eq_false_iff_ne.2 x3
          have y4 : (wh == ([72, 69, 65, 68, 69, 82, 46, 70, 73, 69, 76, 68, 83] : List UInt8)) = false := beq_eq_false_iff_ne.2 x4
          have y5 : (wh == ([72, 69, 65, 68, 69, 82, 46, 70, 73, 69, 76, 68, 83, 46, 78, 79, 84] : List UInt8)) = false := beq_eq_false_iff_ne.2 x5
          clear HR9 x0 x1 x2 x3 x4 x5
          go_wp2
          go_ret
          exact ⟨by first | rfl | (simp; omega), b0⟩

end Go.Proofs.YtgkbigbekmkobaaDoor
