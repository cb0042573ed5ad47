/- header.small, header.Same; the reference's Small. -/
import Derived.Test.YthnkgifbbemhfaaGreatDoorSm
import Derived.LoopTactic
set_option linter.unusedVariables false
set_option linter.unusedSimpArgs false
namespace Go.Proofs.YthnkgifbbemhfaaGreatDoor
open Go.RowKit

set_option maxRecDepth 100000 in
theorem collect_any (s : List UInt8) (b : Nat) (w : World) (hs : s.length ≤ 1099511627776) (hb : Boxed w b 9 (.string (bs s))) :
    Calls Tryz.prog 207 #[.func (.func 208) #[] #[.pointer (some ⟨b, 0, none⟩)]] w (BytesP w.heap.size (lowL s) w) := by
  have HC := fun w0 (h : Boxed w0 b 9 (.string (bs s))) => appendSeq_any s b w0 hs h
  have HC2 := Lib.hid HC
  have HB := Lib.hid hb
  clear HC hb
  go_enter Tryz.func207, Tryz.ntmps207
  go_wp2_with fail
  refine (HC2.out _ HB.out).mono ?_
  rintro e w2 ⟨v, rfl, ho, hb2⟩
  go_wp2
  go_ret
  exact ⟨v, rfl, ho, hb2⟩

set_option maxRecDepth 100000 in
theorem small_any (s : List UInt8) (w : World) (hs : s.length ≤ 1099511627776) : Calls Tryz.prog 188 #[.string (bs s)] w fun e w' => e = .returned (.string (bs (lowL s))) ∧ Below w.heap.size w w' := by
  have HS := Lib.hid hs
  have hB0 : Below w.heap.size w (w.alloc (.cells #[.string (bs s)] 9)) := (Below.refl _ w).alloc (Nat.le_refl _) _
  have bO := Boxed.new w 9 (.string (bs s))
  have HBO := Lib.hid bO
  clear bO hs
  go_enter Tryz.func188, Tryz.ntmps188
  go_wp2_with fail
  refine (collect_any s _ _ HS.out HBO.out).mono ?_
  rintro e w2 ⟨v, rfl, ho, hb2⟩
  have hcv := convert_bytes ho.bytes
  have hB2 := hB0.trans (hb2.mono (by simp))
  clear ho hb2
  go_wp2
  go_ret
  exact ⟨rfl, hB2⟩

set_option maxRecDepth 100000 in
theorem hsame_any (a b : List UInt8) (w : World) (ha : a.length ≤ 1099511627776) (hb : b.length ≤ 1099511627776) : Calls Tryz.prog 144 #[.string (bs a), .string (bs b)] w fun e w' => e = .returned (.bool (lowL a == lowL b)) ∧ Below w.heap.size w w' := by
  have HA := Lib.hid ha
  have HB := Lib.hid hb
  clear ha hb
  go_enter Tryz.func144, Tryz.ntmps144
  go_wp2_with fail
  refine (small_any a _ HA.out).mono ?_
  rintro e w2 ⟨rfl, hb2⟩
  go_wp2_with fail
  refine (small_any b _ HB.out).mono ?_
  rintro e w3 ⟨rfl, hb3⟩
  go_wp2
  go_ret
  exact ⟨rfl, hb2.trans (hb3.mono hb2.size)⟩

/-- []byte(s), with its block -/
theorem to_row2 (l : List UInt8) (w : World) : ∃ (cap : Nat) (w' : World) (cs : Array Value) (t : TypeId), (convert 9 83 (.string (bs l))).run Tryz.prog w = .ok (.slice (some ⟨w.heap.size, 0, none⟩) l.length cap) w' ∧
    w'.heap[w.heap.size]? = some (.cells cs t (cs.size, cs.size + 1)) ∧ l.length ≤ cs.size ∧ (∀ i, i < l.length → cs[i]? = some (.int .u8 ((l.getD i 0).toNat : Int))) ∧ Below w.heap.size w w' ∧ w.heap.size < w'.heap.size := by
  have h := run_bytes_of_string (P := Tryz.prog) w 9 83 5 (bs l) Tryz.underlying9 Tryz.underlying83 Tryz.underlying5
  rw [bs_size] at h
  have hcs : ∀ i, i < l.length → (bytesRow (bs l) (grownCap w l.length 0 5))[i]? = some (.int .u8 ((l.getD i 0).toNat : Int)) := fun i hi => by
    have hb := bytesRow_at (bs l) (grownCap w l.length 0 5) i (by simpa using hi)
    rw [hb]
    simp [List.getD, hi]
  refine ⟨_, _, _, _, h, heap_new w.drew _, by unfold bytesRow; simp, hcs, ((Below.refl _ w).drew).alloc (Nat.le_refl _) _, by simp⟩

theorem set_row {W : World} {g k : Nat} {cs : Array Value} {t : TypeId} {fr : Nat × Nat} (h : W.heap[g]? = some (.cells cs t fr)) (x : Value) : (W.setCell ⟨g, k, none⟩ x).heap[g]? = some (.cells (cs.setIfInBounds k x) t fr) := by
  simp [World.setCell, Array.getElem?_modify, h]

set_option maxRecDepth 100000 in
set_option maxHeartbeats 1000000 in
theorem refSmall_any (s : List UInt8) (w : World) (hs : s.length ≤ 1099511627776) : Calls Tryz.prog 31 #[.string (bs s)] w fun e w' => e = .returned (.string (bs (lowL s))) ∧ Below w.heap.size w w' := by
  obtain ⟨cap, w1, cs0, t, hrun, hrow, hle, hcs, hb1, hlt1⟩ := to_row2 s w
  obtain ⟨N, hN⟩ : ∃ N, cs0.size = N := ⟨_, rfl⟩
  rw [hN] at hrow hle
  have HCS := Lib.hid hcs
  clear hcs hN
  go_enter Tryz.func31, Tryz.ntmps31
  go_wp2
  go_loopw [4, 9] (fun _ c wr => ∃ (k : Nat) (cs : Array Value), k ≤ s.length ∧ c = .int .i64 k ∧ wr.heap[w.heap.size]? = some (.cells cs t (N, N + 1)) ∧ Hid (∀ j, j < s.length → cs[j]? = some (.int .u8 (((if j < k then lowB (s.getD j 0) else s.getD j 0).toNat : Nat) : Int))) ∧ Below w.heap.size w wr) (fun _ c _ => s.length - (intOf c).toNat)
  case atStart => exact ⟨0, cs0, Nat.zero_le _, rfl, hrow, by intro j hj; rw [HCS.out j hj]; simp, hb1⟩
  case round =>
    obtain ⟨k, cs, hk, rfl, hrw, hcs, hB⟩ := hrel
    by_cases hlt : k < s.length
    · obtain ⟨c, hcc⟩ : ∃ c, s.getD k 0 = c := ⟨_, rfl⟩
      have hck := hcs.out k hlt
      rw [if_neg (Nat.lt_irrefl k), hcc] at hck
      have hcell : wr.cell? ⟨w.heap.size, k, none⟩ = some (.int .u8 ((c.toNat : Nat) : Int)) := row_cell hrw hck
      have hfz : wr.frozen? ⟨w.heap.size, k, none⟩ = false := by simp [World.frozen?, hrw]; omega
      have hlt' : (k : Int) < s.length := by omega
      have hc256 := c.toNat_lt
      have HRW := Lib.hid hrw
      have HCC := Lib.hid hcc
      have hksz : k < cs.size := (Array.getElem?_eq_some_iff.1 hck).1
      clear hcc hrw hck
      by_cases h65 : 65 ≤ c.toNat ∧ c.toNat ≤ 90
      · obtain ⟨h1, h2⟩ := h65
        have hlo := lowB_yes h1 h2
        have h1' : (65 : Int) ≤ c.toNat := by omega
        have h2' : (c.toNat : Int) ≤ 90 := by omega
        have HLO := Lib.hid hlo
        clear hlo
        go_wp2
        go_roundw
        case rel =>
          refine ⟨k + 1, cs.setIfInBounds k (.int .u8 ((c.toNat : Int) + 32)), by omega, by go_num, set_row HRW.out _, ?_, hB.setCell (p := ⟨w.heap.size, k, none⟩) (Nat.le_refl _) _⟩
          intro j hj
          by_cases e : j = k
          · subst e
            rw [Array.getElem?_setIfInBounds_self_of_lt hksz, if_pos (by omega), HCC.out, HLO.out]
            congr 2
          · rw [Array.getElem?_setIfInBounds_ne (by omega), hcs.out j hj]
            by_cases h3 : j < k
            · rw [if_pos h3, if_pos (by omega)]
            · rw [if_neg h3, if_neg (by omega)]
        case measure => simp [intOf]; omega
      · have hlo := lowB_no h65
        have h65' : ¬ ((65 : Int) ≤ c.toNat ∧ (c.toNat : Int) ≤ 90) := by omega
        have hcase : (c.toNat : Int) < 65 ∨ (65 : Int) ≤ c.toNat ∧ 90 < (c.toNat : Int) := by omega
        have HLO := Lib.hid hlo
        clear h65 h65' hlo
        have hnext : Hid (∀ j, j < s.length → cs[j]? = some (.int .u8 (((if j < k + 1 then lowB (s.getD j 0) else s.getD j 0).toNat : Nat) : Int))) := by
          intro j hj
          rw [hcs.out j hj]
          by_cases e : j = k
          · subst e
            rw [if_neg (Nat.lt_irrefl _), if_pos (by omega), HCC.out, HLO.out]
          · by_cases h3 : j < k
            · rw [if_pos h3, if_pos (by omega)]
            · rw [if_neg h3, if_neg (by omega)]
        rcases hcase with h1 | ⟨h1, h2⟩
        all_goals
          go_wp2
          go_roundw
          case rel => exact ⟨k + 1, cs, by omega, by go_num, HRW.out, hnext, hB⟩
          case measure => simp [intOf]; omega
    · obtain rfl : k = s.length := by omega
      have hcv := convert_bytes (v := .slice (some ⟨w.heap.size, 0, none⟩) s.length cap) (w := wr) (l := lowL s) (.inr ⟨w.heap.size, 0, cap, by rw [lowL_length], fun i hi => by
        rw [lowL_length] at hi
        refine row_cell hrw ?_
        rw [Nat.zero_add, hcs.out i hi, if_pos hi]
        simp [lowL, hi]⟩)
      clear hrw
      go_wp2
      go_ret
      exact ⟨rfl, hB⟩

end Go.Proofs.YthnkgifbbemhfaaGreatDoor
