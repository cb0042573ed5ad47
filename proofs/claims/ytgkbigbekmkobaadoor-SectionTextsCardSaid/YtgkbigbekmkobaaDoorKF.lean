/- section's reference: Text. -/
import Derived.Test.YtgkbigbekmkobaaDoorKE
set_option linter.unusedVariables false
set_option linter.unusedSimpArgs false
namespace Go.Proofs.YtgkbigbekmkobaaDoor
open Go.RowKit

def pathT : Nat → List Int → List UInt8
  | _, [] => []
  | i, n :: ps => ((if 0 < i then [46] else []) ++ digitsL n.toNat) ++ pathT (i + 1) ps
def namesT : Nat → List (List UInt8) → List UInt8
  | _, [] => []
  | i, n :: ns => ((if i = 0 then [32, 40] else [32]) ++ n) ++ namesT (i + 1) ns
/-- a Spec's text -/
def textL (ps : List Int) (wh : List UInt8) (ns : List (List UInt8)) : List UInt8 :=
  pathT 0 ps ++ (if pathT 0 ps ≠ [] ∧ wh ≠ [] then [46] else []) ++ wh ++ namesT 0 ns ++ (if ns ≠ [] then [41] else [])
theorem digitsF_len : ∀ (f n : Nat), (digitsF f n).length ≤ f
  | 0, n => by simp [digitsF]
  | f + 1, n => by
    unfold digitsF
    split
    · simp
    · have := digitsF_len f (n / 10)
      simp
      omega
theorem digitsL_len (n : Nat) : (digitsL n).length ≤ 20 := digitsF_len 20 n

set_option maxRecDepth 100000 in
set_option maxHeartbeats 4000000 in
/-- the first loop, to the end of it: what is written is the path -/
theorem refText_any (v nv : Value) (ps : List Int) (wh : List UInt8) (ns : List (List UInt8)) (w : World) (hv : IntsAt w v ps) (hnv : StrsF w nv ns) (hn : ∀ n ∈ ns, n.length ≤ 100000) (hp : ps.length ≤ 20) (hnl : ns.length ≤ 20) (hw : wh.length ≤ 100000) (hb : ∀ n ∈ ps, 1 ≤ n ∧ n ≤ 999) :
    Calls Tryd.prog 15 #[.agg #[v, .string (bs wh), nv]] w fun e w' => e = .returned (.string (bs (textL ps wh ns))) ∧ Below w.heap.size w w' := by
  have HN := Lib.hid hn
  have HBD := Lib.hid hb
  obtain ⟨a, c, rfl, fa⟩ := hv
  obtain ⟨na, nc, rfl, fn⟩ := hnv
  have FA := Lib.hid fa
  have FN := Lib.hid fn
  clear hn fa fn hb
  go_enter Tryd.func15, Tryd.ntmps15
  go_wp2
  obtain ⟨wa, hwa⟩ : ∃ wa, w.alloc (.cells #[.slice a ps.length c, .string (bs wh), .slice na ns.length nc] 34) = wa := ⟨_, rfl⟩
  have b0 : Below w.heap.size w wa := by rw [← hwa]; exact (Below.refl _ _).alloc (Nat.le_refl _) _
  have hrow : wa.heap[w.heap.size]? = some (.cells #[.slice a ps.length c, .string (bs wh), .slice na ns.length nc] 34 (0, 0)) := by rw [← hwa]; exact heap_new w _
  rw [hwa]
  clear hwa
  obtain ⟨PT, hPT⟩ : ∃ x, pathT 0 ps = x := ⟨_, rfl⟩
  have HPT := Lib.hid hPT
  go_loopw [3, 11] (fun t i wr => ∃ (k : Nat) (acc : List UInt8), k ≤ ps.length ∧ i = .int .i64 k ∧ t = .string (bs acc) ∧ Hid (acc ++ pathT k (ps.drop k) = PT) ∧ acc.length ≤ 21 * k ∧ Below wa.heap.size wa wr) (fun _ i _ => ps.length - (intOf i).toNat)
  case atStart => exact ⟨0, [], Nat.zero_le _, rfl, rfl, by show _ = _; rw [← HPT.out]; rfl, by simp, Below.refl _ _⟩
  case round =>
    obtain ⟨k, acc, hk, rfl, rfl, hr, hal, hB⟩ := hrel
    have hB2 : Below w.heap.size w wr := b0.trans (hB.mono b0.size)
    by_cases hlt : k < ps.length
    · obtain ⟨b, o, rfl, hbl, hcells⟩ := FA.out (by rintro rfl; simp at hlt)
      have hcell := (hB2.cell (p := ⟨b, o + k, none⟩) hbl).trans (hcells k hlt)
      obtain ⟨n, hnn⟩ : ∃ n, ps.getD k 0 = n := ⟨_, rfl⟩
      rw [hnn] at hcell
      obtain ⟨n1, n2⟩ := HBD.out n (by rw [← hnn]; simp [List.getD, hlt])
      obtain ⟨m, rfl⟩ : ∃ m : Nat, n = m := ⟨n.toNat, by omega⟩
      have hr2 := hr.out
      rw [show ps.drop k = (m : Int) :: ps.drop (k + 1) by rw [List.drop_eq_getElem_cons hlt, ← hnn]; simp [List.getD, hlt], show pathT k ((m : Int) :: ps.drop (k + 1)) = ((if 0 < k then [46] else []) ++ digitsL ((m : Int)).toNat) ++ pathT (k + 1) (ps.drop (k + 1)) from rfl, Int.toNat_natCast] at hr2
      have hdl := digitsL_len m
      obtain ⟨D, hD⟩ : ∃ D, digitsL m = D := ⟨_, rfl⟩
      have hda := digits_any m wr (by omega)
      rw [hD] at hda hr2 hdl
      have HDA := Lib.hid hda
      have HR2 := Lib.hid hr2
      have hlt' : (k : Int) < ps.length := by omega
      clear hnn hr hr2 hcells hda hD
      by_cases h0 : k = 0
      · subst h0
        rw [Nat.add_zero] at hcell
        go_wp2_with (go_at_call 30; refine HDA.out.mono ?_; rintro e w1 ⟨rfl, hb1⟩)
        go_roundw
        case rel => exact ⟨1, acc ++ D, by omega, by go_num, by rw [bs_append], by show _ = _; rw [← HR2.out]; simp, by simp; omega, hB.trans (hb1.mono hB.size)⟩
        case measure => simp [intOf]; omega
      · have h0' : (0 : Int) < k := by omega
        go_wp2_with (go_at_call 30; refine HDA.out.mono ?_; rintro e w1 ⟨rfl, hb1⟩)
        go_roundw
        case rel => exact ⟨k + 1, acc ++ [46] ++ D, by omega, by go_num, by rw [← bs_append, ← bs_append], by show _ = _; rw [← HR2.out, if_pos (by omega)]; simp, by simp; omega, hB.trans (hb1.mono hB.size)⟩
        case measure => simp [intOf]; omega
    · obtain rfl : k = ps.length := by omega
      have hr2 := hr.out
      rw [List.drop_length, show pathT ps.length [] = [] from rfl, List.append_nil] at hr2
      subst hr2
      have hrow2 := (hB.block w.heap.size (by have := b0.size; have := (Array.getElem?_eq_some_iff.1 hrow).1; omega)).trans hrow
      have q0 : wr.cell? ⟨w.heap.size, 0, none⟩ = some (.slice a ps.length c) := by simp [World.cell?, hrow2]
      have q1 : wr.cell? ⟨w.heap.size, 1, none⟩ = some (.string (bs wh)) := by simp [World.cell?, hrow2]
      have q2 : wr.cell? ⟨w.heap.size, 2, none⟩ = some (.slice na ns.length nc) := by simp [World.cell?, hrow2]
      obtain ⟨T0, hT0⟩ : ∃ T0, acc ++ (if acc ≠ [] ∧ wh ≠ [] then [46] else []) ++ wh = T0 := ⟨_, rfl⟩
      have hT0l : T0.length ≤ 200000 := by rw [← hT0]; simp; split <;> simp <;> omega
      have HT0 := Lib.hid hT0
      obtain ⟨RR, hRR⟩ : ∃ RR, T0 ++ namesT 0 ns ++ (if ns ≠ [] then [41] else []) = RR := ⟨_, rfl⟩
      have hfin : textL ps wh ns = RR := by unfold textL; rw [HPT.out, hT0, hRR]
      have HFIN := Lib.hid hfin
      have HRR := Lib.hid hRR
      obtain ⟨wo, hwo⟩ : ∃ wo, wo = wr := ⟨_, rfl⟩
      subst hwo
      clear hr hrow hrow2 hT0 hRR hfin HPT hPT q0
      have key : Hid ((acc = [] ∧ wh = T0) ∨ (acc ≠ [] ∧ wh = [] ∧ acc = T0) ∨ (acc ≠ [] ∧ wh ≠ [] ∧ acc ++ [46] ++ wh = T0)) := by
        show _ ∨ _
        by_cases h1 : acc = []
        · exact .inl ⟨h1, by rw [← HT0.out, h1]; simp⟩
        · by_cases h2 : wh = []
          · exact .inr (.inl ⟨h1, h2, by rw [← HT0.out, h2]; simp⟩)
          · exact .inr (.inr ⟨h1, h2, by rw [← HT0.out, if_pos ⟨h1, h2⟩]⟩)
      clear HT0
      rcases key.out with ⟨k1, k2⟩ | ⟨k1, k2, k3⟩ | ⟨k1, k2, k3⟩
      · subst k1
        have HTT := Lib.hid k2
        clear key k2
        go_wp2
        go_loopw [3, 41] (fun t i wr => ∃ (k : Nat) (ac : List UInt8), k ≤ ns.length ∧ i = .int .i64 k ∧ t = .string (bs ac) ∧ Hid (ac ++ namesT k (ns.drop k) = T0 ++ namesT 0 ns) ∧ ac.length ≤ 200000 + 100002 * k ∧ Below wo.heap.size wo wr) (fun _ i _ => ns.length - (intOf i).toNat)
        case atStart => exact ⟨0, T0, Nat.zero_le _, rfl, by first | rfl | (rw [← HTT.out]; simp [bs_append]), by show _ = _; rfl, by omega, Below.refl _ _⟩
        case round =>
          obtain ⟨k, ac, hk, rfl, rfl, hr, hal2, hB3⟩ := hrel
          have hB4 : Below w.heap.size w wr := hB2.trans (hB3.mono hB2.size)
          have HAL := Lib.hid hal
          clear hal
          have r2 := (hB3.cell (p := ⟨w.heap.size, 2, none⟩) (cell_lt q2)).trans q2
          by_cases hlt2 : k < ns.length
          · obtain ⟨b, o, rfl, hbl, hcells⟩ := FN.out (by rintro rfl; simp at hlt2)
            have hcell := (hB4.cell (p := ⟨b, o + k, none⟩) hbl).trans (hcells k hlt2)
            obtain ⟨n, hnn⟩ : ∃ n, ns.getD k [] = n := ⟨_, rfl⟩
            have hnl' : n.length ≤ 100000 := HN.out n (by rw [← hnn]; simp [List.getD, hlt2])
            rw [hnn] at hcell
            have hr2 := hr.out
            rw [show ns.drop k = n :: ns.drop (k + 1) by rw [List.drop_eq_getElem_cons hlt2, ← hnn]; simp [List.getD, hlt2], show namesT k (n :: ns.drop (k + 1)) = ((if k = 0 then [32, 40] else [32]) ++ n) ++ namesT (k + 1) (ns.drop (k + 1)) from rfl] at hr2
            have HR2 := Lib.hid hr2
            have hlt' : (k : Int) < ns.length := by omega
            clear hnn hr hr2 hcells
            by_cases h0 : k = 0
            · have hmin : min (k : Int) 1 = 0 := by omega
              have HK0 := Lib.hid h0
              clear h0
              go_wp2
              go_roundw
              case rel => exact ⟨k + 1, ac ++ ([32, 40] ++ n), by omega, by go_num, by simp [bs_append], by show _ = _; rw [← HR2.out, if_pos HK0.out]; simp, by simp; omega, hB3.alloc hB3.size _⟩
              case measure => simp [intOf]; omega
            · have h0' : (1 : Int) ≤ k := by omega
              have hmin : min (k : Int) 1 = 1 := by omega
              go_wp2
              go_roundw
              case rel => exact ⟨k + 1, ac ++ ([32] ++ n), by omega, by go_num, by simp [bs_append], by show _ = _; rw [← HR2.out, if_neg h0]; simp, by simp; omega, hB3.alloc hB3.size _⟩
              case measure => simp [intOf]; omega
          · obtain rfl : k = ns.length := by omega
            have hr2 := hr.out
            rw [List.drop_length, show namesT ns.length [] = [] from rfl, List.append_nil] at hr2
            by_cases hn0 : ns = []
            · have hRR : RR = ac := by rw [← HRR.out, ← hr2, if_neg (by simpa using hn0)]; simp
              have HR9 := Lib.hid hRR
              subst hn0
              clear hr hr2 hRR
              go_wp2
              go_ret
              exact ⟨by rw [HFIN.out, HR9.out] <;> first | rfl | simp, hB4⟩
            · have hRR : RR = ac ++ [41] := by rw [← HRR.out, ← hr2, if_pos hn0]
              have HR9 := Lib.hid hRR
              have hpos : (0 : Int) < ns.length := by have := List.length_pos_iff.2 hn0; omega
              clear hr hr2 hRR hn0
              go_wp2
              go_ret
              exact ⟨by rw [HFIN.out, HR9.out]; first | rfl | simp [bs_append], hB4⟩
      · obtain ⟨pc, pt, rfl⟩ : ∃ c t, acc = c :: t := by
          cases acc with
          | nil => exact absurd rfl k1
          | cons c t => exact ⟨c, t, rfl⟩
        subst k2
        have HTT := Lib.hid k3
        clear key k3
        simp only [List.length_cons] at hal
        go_wp2
        go_loopw [3, 41] (fun t i wr => ∃ (k : Nat) (ac : List UInt8), k ≤ ns.length ∧ i = .int .i64 k ∧ t = .string (bs ac) ∧ Hid (ac ++ namesT k (ns.drop k) = T0 ++ namesT 0 ns) ∧ ac.length ≤ 200000 + 100002 * k ∧ Below wo.heap.size wo wr) (fun _ i _ => ns.length - (intOf i).toNat)
        case atStart => exact ⟨0, T0, Nat.zero_le _, rfl, by first | rfl | (rw [← HTT.out]; simp [bs_append]), by show _ = _; rfl, by omega, Below.refl _ _⟩
        case round =>
          obtain ⟨k, ac, hk, rfl, rfl, hr, hal2, hB3⟩ := hrel
          have hB4 : Below w.heap.size w wr := hB2.trans (hB3.mono hB2.size)
          have HAL := Lib.hid hal
          clear hal
          have r2 := (hB3.cell (p := ⟨w.heap.size, 2, none⟩) (cell_lt q2)).trans q2
          by_cases hlt2 : k < ns.length
          · obtain ⟨b, o, rfl, hbl, hcells⟩ := FN.out (by rintro rfl; simp at hlt2)
            have hcell := (hB4.cell (p := ⟨b, o + k, none⟩) hbl).trans (hcells k hlt2)
            obtain ⟨n, hnn⟩ : ∃ n, ns.getD k [] = n := ⟨_, rfl⟩
            have hnl' : n.length ≤ 100000 := HN.out n (by rw [← hnn]; simp [List.getD, hlt2])
            rw [hnn] at hcell
            have hr2 := hr.out
            rw [show ns.drop k = n :: ns.drop (k + 1) by rw [List.drop_eq_getElem_cons hlt2, ← hnn]; simp [List.getD, hlt2], show namesT k (n :: ns.drop (k + 1)) = ((if k = 0 then [32, 40] else [32]) ++ n) ++ namesT (k + 1) (ns.drop (k + 1)) from rfl] at hr2
            have HR2 := Lib.hid hr2
            have hlt' : (k : Int) < ns.length := by omega
            clear hnn hr hr2 hcells
            by_cases h0 : k = 0
            · have hmin : min (k : Int) 1 = 0 := by omega
              have HK0 := Lib.hid h0
              clear h0
              go_wp2
              go_roundw
              case rel => exact ⟨k + 1, ac ++ ([32, 40] ++ n), by omega, by go_num, by simp [bs_append], by show _ = _; rw [← HR2.out, if_pos HK0.out]; simp, by simp; omega, hB3.alloc hB3.size _⟩
              case measure => simp [intOf]; omega
            · have h0' : (1 : Int) ≤ k := by omega
              have hmin : min (k : Int) 1 = 1 := by omega
              go_wp2
              go_roundw
              case rel => exact ⟨k + 1, ac ++ ([32] ++ n), by omega, by go_num, by simp [bs_append], by show _ = _; rw [← HR2.out, if_neg h0]; simp, by simp; omega, hB3.alloc hB3.size _⟩
              case measure => simp [intOf]; omega
          · obtain rfl : k = ns.length := by omega
            have hr2 := hr.out
            rw [List.drop_length, show namesT ns.length [] = [] from rfl, List.append_nil] at hr2
            by_cases hn0 : ns = []
            · have hRR : RR = ac := by rw [← HRR.out, ← hr2, if_neg (by simpa using hn0)]; simp
              have HR9 := Lib.hid hRR
              subst hn0
              clear hr hr2 hRR
              go_wp2
              go_ret
              exact ⟨by rw [HFIN.out, HR9.out] <;> first | rfl | simp, hB4⟩
            · have hRR : RR = ac ++ [41] := by rw [← HRR.out, ← hr2, if_pos hn0]
              have HR9 := Lib.hid hRR
              have hpos : (0 : Int) < ns.length := by have := List.length_pos_iff.2 hn0; omega
              clear hr hr2 hRR hn0
              go_wp2
              go_ret
              exact ⟨by rw [HFIN.out, HR9.out]; first | rfl | simp [bs_append], hB4⟩
      · obtain ⟨pc, pt, rfl⟩ : ∃ c t, acc = c :: t := by
          cases acc with
          | nil => exact absurd rfl k1
          | cons c t => exact ⟨c, t, rfl⟩
        obtain ⟨qc, qt, rfl⟩ : ∃ c t, wh = c :: t := by
          cases wh with
          | nil => exact absurd rfl k2
          | cons c t => exact ⟨c, t, rfl⟩
        have HTT := Lib.hid k3
        clear key k3
        simp only [List.length_cons] at hal hw
        go_wp2
        go_loopw [3, 41] (fun t i wr => ∃ (k : Nat) (ac : List UInt8), k ≤ ns.length ∧ i = .int .i64 k ∧ t = .string (bs ac) ∧ Hid (ac ++ namesT k (ns.drop k) = T0 ++ namesT 0 ns) ∧ ac.length ≤ 200000 + 100002 * k ∧ Below wo.heap.size wo wr) (fun _ i _ => ns.length - (intOf i).toNat)
        case atStart => exact ⟨0, T0, Nat.zero_le _, rfl, by first | rfl | (rw [← HTT.out]; simp [bs_append]), by show _ = _; rfl, by omega, Below.refl _ _⟩
        case round =>
          obtain ⟨k, ac, hk, rfl, rfl, hr, hal2, hB3⟩ := hrel
          have hB4 : Below w.heap.size w wr := hB2.trans (hB3.mono hB2.size)
          have HAL := Lib.hid hal
          clear hal
          have r2 := (hB3.cell (p := ⟨w.heap.size, 2, none⟩) (cell_lt q2)).trans q2
          by_cases hlt2 : k < ns.length
          · obtain ⟨b, o, rfl, hbl, hcells⟩ := FN.out (by rintro rfl; simp at hlt2)
            have hcell := (hB4.cell (p := ⟨b, o + k, none⟩) hbl).trans (hcells k hlt2)
            obtain ⟨n, hnn⟩ : ∃ n, ns.getD k [] = n := ⟨_, rfl⟩
            have hnl' : n.length ≤ 100000 := HN.out n (by rw [← hnn]; simp [List.getD, hlt2])
            rw [hnn] at hcell
            have hr2 := hr.out
            rw [show ns.drop k = n :: ns.drop (k + 1) by rw [List.drop_eq_getElem_cons hlt2, ← hnn]; simp [List.getD, hlt2], show namesT k (n :: ns.drop (k + 1)) = ((if k = 0 then [32, 40] else [32]) ++ n) ++ namesT (k + 1) (ns.drop (k + 1)) from rfl] at hr2
            have HR2 := Lib.hid hr2
            have hlt' : (k : Int) < ns.length := by omega
            clear hnn hr hr2 hcells
            by_cases h0 : k = 0
            · have hmin : min (k : Int) 1 = 0 := by omega
              have HK0 := Lib.hid h0
              clear h0
              go_wp2
              go_roundw
              case rel => exact ⟨k + 1, ac ++ ([32, 40] ++ n), by omega, by go_num, by simp [bs_append], by show _ = _; rw [← HR2.out, if_pos HK0.out]; simp, by simp; omega, hB3.alloc hB3.size _⟩
              case measure => simp [intOf]; omega
            · have h0' : (1 : Int) ≤ k := by omega
              have hmin : min (k : Int) 1 = 1 := by omega
              go_wp2
              go_roundw
              case rel => exact ⟨k + 1, ac ++ ([32] ++ n), by omega, by go_num, by simp [bs_append], by show _ = _; rw [← HR2.out, if_neg h0]; simp, by simp; omega, hB3.alloc hB3.size _⟩
              case measure => simp [intOf]; omega
          · obtain rfl : k = ns.length := by omega
            have hr2 := hr.out
            rw [List.drop_length, show namesT ns.length [] = [] from rfl, List.append_nil] at hr2
            by_cases hn0 : ns = []
            · have hRR : RR = ac := by rw [← HRR.out, ← hr2, if_neg (by simpa using hn0)]; simp
              have HR9 := Lib.hid hRR
              subst hn0
              clear hr hr2 hRR
              go_wp2
              go_ret
              exact ⟨by rw [HFIN.out, HR9.out] <;> first | rfl | simp, hB4⟩
            · have hRR : RR = ac ++ [41] := by rw [← HRR.out, ← hr2, if_pos hn0]
              have HR9 := Lib.hid hRR
              have hpos : (0 : Int) < ns.length := by have := List.length_pos_iff.2 hn0; omega
              clear hr hr2 hRR hn0
              go_wp2
              go_ret
              exact ⟨by rw [HFIN.out, HR9.out]; first | rfl | simp [bs_append], hB4⟩

end Go.Proofs.YtgkbigbekmkobaaDoor
