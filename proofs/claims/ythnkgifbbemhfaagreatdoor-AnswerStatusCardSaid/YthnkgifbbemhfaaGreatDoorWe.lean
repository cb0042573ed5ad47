/- Texts of one walk, merged: XVL XAl XAm XAn XAo XAq XSh. -/
import Derived.Test.YthnkgifbbemhfaaGreatDoorWd
import Derived.Deep.Slices
import Derived.Deep.Fields
import Derived.ChangeArms
import Derived.ChangeOld
import Derived.WideShapes
import Derived.SizedLaws
import Derived.Lib.SmallJoins
import Derived.HandedShaped
import Derived.Handed
import Derived.Shelf.Vars

/- The document's Quote, Nil. -/
set_option linter.unusedVariables false
set_option linter.unusedSimpArgs false
section
set_option linter.unusedVariables false
set_option linter.unusedSimpArgs false
namespace Go.Proofs.YthnkgifbbemhfaaGreatDoor
open Go.RowKit

theorem chr_ne {c d : UInt8} {n : Int} (hn : (d.toNat : Int) = n) (h : c ≠ d) : ((c.toNat : Int) == n) = false ∧ ((c.toNat : Int) != n) = true := by
  subst hn
  have : ¬ (c.toNat : Int) = d.toNat := fun e => h (UInt8.toNat_inj.1 (by omega))
  simp [this]
theorem escL_snoc (l : List UInt8) (c : UInt8) : escL (l ++ [c]) = escL l ++ (if c = 34 ∨ c = 92 then [92, c] else [c]) := by simp [escL]
theorem printB_lt {c : UInt8} (h : printB c = true) : ¬ ((c.toNat : Int) < 32) ∧ ¬ (126 < (c.toNat : Int)) := by
  unfold printB at h
  simp at h
  omega
theorem printB_not {c : UInt8} (h : printB c = false) : (c.toNat : Int) < 32 ∨ (¬ ((c.toNat : Int) < 32) ∧ 126 < (c.toNat : Int)) := by
  unfold printB at h
  simp at h
  omega

set_option maxRecDepth 100000 in
set_option maxHeartbeats 4000000 in
theorem refQuote_any (s : List UInt8) (w : World) (hl : s.length ≤ 1000000000) :
    Calls Tryz.prog 33 #[.string (bs s)] w fun e w' => e = .returned (.string (bs (qtL s))) ∧ Below w.heap.size w w' := by
  obtain ⟨Q, hQ⟩ : ∃ Q, qtL s = Q := ⟨_, rfl⟩
  rw [hQ]
  have HQ := Lib.hid hQ
  clear hQ
  have hdl := decq_length 10 s.length (by omega) (by omega)
  go_enter Tryz.func33, Tryz.ntmps33
  go_wp2
  go_loopw [3, 4] (fun out i wr => ∃ (k : Nat) (acc : List UInt8), k ≤ s.length ∧ i = .int .i64 k ∧ OwnB wr w.heap.size out acc ∧ Hid (acc = 34 :: escL (s.take k)) ∧ Hid ((s.take k).all printB = true) ∧ acc.length ≤ 2 * k + 1 ∧ Below w.heap.size w wr) (fun _ i _ => s.length - (intOf i).toNat)
  case atStart => exact ⟨0, [34], Nat.zero_le _, rfl, World.ownsRow_lit w #[.int .u8 34] 1 (Nat.le_refl _) (by decide) rfl, rfl, rfl, by simp, (Below.refl _ _).alloc (Nat.le_refl _) _⟩
  case round =>
    obtain ⟨k, acc, hk, rfl, hown, ha, hp, hal, hB⟩ := hrel
    have hzr := hB.size
    by_cases hlt : k < s.length
    · obtain ⟨c, hc⟩ : ∃ c, (bs s)[k]'(by rw [bs_size]; exact hlt) = c := ⟨_, rfl⟩
      have hc' : s[k]? = some c := List.getElem?_eq_some_iff.2 ⟨hlt, hc⟩
      have hlt' : (k : Int) < s.length := by omega
      have ht : s.take (k + 1) = s.take k ++ [c] := by rw [List.take_add_one, hc']; rfl
      have HT := Lib.hid ht
      rcases hpc : printB c with _ | _
      · have hq : Q = 123 :: (Lib.decDigits s.length ++ ([125, 13, 10] ++ s)) := by
          rw [← HQ.out]
          unfold qtL
          rw [if_neg]
          intro h
          have := List.all_eq_true.1 h c (List.mem_of_getElem? hc')
          rw [hpc] at this
          cases this
        subst hq
        clear HQ HT ht hc' ha hp
        rcases printB_not hpc with h1 | ⟨h1, h2⟩
        · clear hpc
          go_wp2_with fail
          refine (refDigits10_any s.length _ (by omega)).mono ?_
          rintro e w1 ⟨rfl, hb1⟩
          go_wp2
          go_ret
          exact ⟨by rw [bs_append, bs_append, bs_append]; simp, hB.trans (hb1.mono hzr)⟩
        · clear hpc
          go_wp2_with fail
          refine (refDigits10_any s.length _ (by omega)).mono ?_
          rintro e w1 ⟨rfl, hb1⟩
          go_wp2
          go_ret
          exact ⟨by rw [bs_append, bs_append, bs_append]; simp, hB.trans (hb1.mono hzr)⟩
      · obtain ⟨q1, q2⟩ := printB_lt hpc
        have hp2 : Hid ((s.take (k + 1)).all printB = true) := by
          show _ = _
          rw [HT.out, List.all_append, hp.out]
          simpa using hpc
        clear ht hc' hpc
        by_cases h34 : c = 34
        · subst h34
          have ha2 : Hid ((acc ++ [92]) ++ [34] = 34 :: escL (s.take (k + 1))) := by
            show _ = _
            rw [HT.out, escL_snoc, ha.out]
            simp
          clear ha HT
          go_wp2_with (first | (at_builtin; refine app_byte _ w.heap.size _ _ 92 _ rfl hown hzr (by omega) rfl _ _ rfl rfl rfl ?_; intro v' w2 own2 ap2; have hz2 := Nat.le_trans hzr ap2.size; have hl2 : (acc ++ [92]).length ≤ 2 * k + 2 := by simp; omega) | (at_builtin; refine app_byte _ w.heap.size _ _ 34 _ rfl own2 hz2 (by omega) rfl _ _ rfl rfl rfl ?_; intro v3 w3 own3 ap3))
          go_roundw
          case rel => exact ⟨k + 1, (acc ++ [92]) ++ [34], by omega, by go_num, own3, ha2, hp2, by simp; omega, ap3.below _ _ (Nat.le_refl _) (ap2.below _ _ (Nat.le_refl _) hB)⟩
          case measure => simp [intOf]; omega
        · obtain ⟨n1, n2⟩ := chr_ne (d := 34) (n := 34) rfl h34
          by_cases h92 : c = 92
          · subst h92
            have ha2 : Hid ((acc ++ [92]) ++ [92] = 34 :: escL (s.take (k + 1))) := by
              show _ = _
              rw [HT.out, escL_snoc, ha.out]
              simp
            clear ha HT h34
            go_wp2_with (first | (at_builtin; refine app_byte _ w.heap.size _ _ 92 _ rfl hown hzr (by omega) rfl _ _ rfl rfl rfl ?_; intro v' w2 own2 ap2; have hz2 := Nat.le_trans hzr ap2.size; have hl2 : (acc ++ [92]).length ≤ 2 * k + 2 := by simp; omega) | (at_builtin; refine app_byte _ w.heap.size _ _ 92 _ rfl own2 hz2 (by omega) rfl _ _ rfl rfl rfl ?_; intro v3 w3 own3 ap3))
            go_roundw
            case rel => exact ⟨k + 1, (acc ++ [92]) ++ [92], by omega, by go_num, own3, ha2, hp2, by simp; omega, ap3.below _ _ (Nat.le_refl _) (ap2.below _ _ (Nat.le_refl _) hB)⟩
            case measure => simp [intOf]; omega
          · obtain ⟨m1, m2⟩ := chr_ne (d := 92) (n := 92) rfl h92
            have ha2 : Hid (acc ++ [c] = 34 :: escL (s.take (k + 1))) := by
              show _ = _
              rw [HT.out, escL_snoc, ha.out, if_neg (by simp [h34, h92])]
              simp
            clear ha HT h34 h92
            go_wp2_with (at_builtin; refine app_byte _ w.heap.size _ _ c _ rfl hown hzr (by omega) rfl _ _ rfl rfl rfl ?_; intro v' w2 own2 ap2)
            go_roundw
            case rel => exact ⟨k + 1, acc ++ [c], by omega, by go_num, own2, ha2, hp2, by simp; omega, ap2.below _ _ (Nat.le_refl _) hB⟩
            case measure => simp [intOf]; omega
    · obtain rfl : k = s.length := by omega
      have hq : Q = acc ++ [34] := by
        have h1 := hp.out
        rw [List.take_length] at h1
        rw [← HQ.out, ha.out, List.take_length]
        unfold qtL
        rw [if_pos h1]
        simp
      subst hq
      clear HQ ha hp
      go_wp2_with (at_builtin; refine app_byte _ w.heap.size _ _ 34 _ rfl hown hzr (by omega) rfl _ _ rfl rfl rfl ?_; intro v' w2 own2 ap2; have hcv := convert_bytes own2.bytes)
      go_ret
      exact ⟨rfl, ap2.below _ _ (Nat.le_refl _) hB⟩


end Go.Proofs.YthnkgifbbemhfaaGreatDoor
end

/- The document's Status: the walk. -/
set_option linter.unusedVariables false
set_option linter.unusedSimpArgs false
section
namespace Go.Proofs.YthnkgifbbemhfaaGreatDoor
open Go.RowKit Go Go.Maps

theorem bs_ne {x k : List UInt8} (h : x ≠ k) : bs x ≠ bs k := fun e => h (by
  have := congrArg (fun b : ByteArray => b.data.toList) e
  simpa [bs] using this)
/-- what stands behind k words -/
def statP (nm : List UInt8) (ys : List (List UInt8)) : List UInt8 := [42, 32, 83, 84, 65, 84, 85, 83, 32] ++ qtL nm ++ [32, 40] ++ joinSp ys
theorem statP_snoc (nm : List UInt8) (ys : List (List UInt8)) (y : List UInt8) : statP nm (ys ++ [y]) = statP nm ys ++ (if ys = [] then [] else [32]) ++ y := by
  unfold statP
  by_cases h : ys = []
  · subst h; simp [joinSp]
  · rw [joinSp_snoc ys y h, if_neg h]; simp

theorem joinSp_bd {ls : List (List UInt8)} (h : ∀ x ∈ ls, x.length ≤ 200) : (joinSp ls).length ≤ ls.length * 201 := by
  have h1 := joinSp_len ls
  have h2 : ls.flatten.length ≤ ls.length * 200 := by
    clear h1
    induction ls with
    | nil => simp
    | cons x r ih =>
      have h3 := h x (by simp)
      have h4 := ih (fun y hy => h y (List.mem_cons_of_mem _ hy))
      simp only [List.flatten_cons, List.length_append, List.length_cons, Nat.add_mul]
      omega
  omega
theorem statP_len (nm : List UInt8) (ys : List (List UInt8)) (hn : nm.length ≤ 500) (h : ∀ y ∈ ys, y.length ≤ 200) : (statP nm ys).length ≤ 1031 + ys.length * 201 := by
  have h1 := qtL_len2 nm (by omega)
  have h2 := joinSp_bd h
  unfold statP
  simp only [List.length_append, List.length_cons, List.length_nil]
  omega

set_option maxRecDepth 100000 in
set_option maxHeartbeats 4000000 in
theorem refStatus_any (us vd nx : Int) (nm : List UInt8) (mv wv : Value) (ms : List Msg) (ws : List (List UInt8)) (w : World) (hmv : MsgsAt w mv ms) (hwv : ArgS w wv ws) (hml : ms.length ≤ 500) (hwl : ws.length ≤ 50) (hwn : ∀ x ∈ ws, x.length ≤ 100) (hnl : nm.length ≤ 500) (hnx : (Lit.int .i64 nx).wf = true) (hvd : (Lit.int .i64 vd).wf = true) :
    Calls Tryz.prog 15 #[.agg #[.int .i64 us, .string (bs nm), .int .i64 vd, .int .i64 nx, mv], wv] w fun e w' => e = .returned (.string (bs (statT nm ms.length nx vd (unseenN ms) ws))) ∧ Below w.heap.size w w' := by
  have HMV := Lib.hid hmv
  have HWV := Lib.hid hwv
  obtain ⟨ma, mc, rfl, hmc⟩ := hmv
  have HMC := Lib.hid hmc
  clear hmc
  obtain ⟨wa, wo, rfl⟩ : ∃ wa wc, wv = .slice wa ws.length wc := by
    rcases hwv with ⟨_, _, rfl, rfl⟩ | ⟨b, o, c, rfl, _⟩
    · exact ⟨_, _, rfl⟩
    · exact ⟨_, _, rfl⟩
  clear hwv
  go_enter Tryz.func15, Tryz.ntmps15
  have hql := qtL_len2 nm (by omega)
  have hqs : (bs (qtL nm)).size = (qtL nm).length := bs_size _
  go_wp2_with fail
  obtain ⟨W0, hW0⟩ : ∃ W0, w.alloc (.cells #[.int .i64 us, .string (bs nm), .int .i64 vd, .int .i64 nx, .slice ma ms.length mc] 41) = W0 := ⟨_, rfl⟩
  have hb0 : Below w.heap.size w W0 := by rw [← hW0]; exact (Below.refl _ _).alloc (Nat.le_refl _) _
  have hk0 : W0.heap[w.heap.size]? = some (.cells #[.int .i64 us, .string (bs nm), .int .i64 vd, .int .i64 nx, .slice ma ms.length mc] 41) := by rw [← hW0]; exact heap_new _ _
  rw [hW0]
  obtain ⟨g, hg⟩ : ∃ g, w.heap.size = g := ⟨_, rfl⟩
  rw [hg] at hk0 ⊢
  have g1 : W0.cell? ⟨g, 1, none⟩ = some (.string (bs nm)) := row_cell hk0 rfl
  have HK0 := Lib.hid hk0
  clear hW0 hk0
  go_wp2_with fail
  refine (refQuote_any nm _ (by omega)).mono ?_
  rintro e w1 ⟨rfl, hb1⟩
  go_wp2_with fail
  have hpre : ({ data := #[42, 32, 83, 84, 65, 84, 85, 83, 32] } : ByteArray) ++ bs (qtL nm) ++ { data := #[32, 40] } = bs (statP nm []) := by
    unfold statP
    simp only [bs_append]
    congr 1
    simp [joinSp]
  rw [hpre]
  clear hpre g1 hqs
  have hz1 := hb0.size
  have hB1 : Below w.heap.size w w1 := hb0.trans (hb1.mono hz1)
  have G1 : w1.heap[g]? = some (.cells #[.int .i64 us, .string (bs nm), .int .i64 vd, .int .i64 nx, .slice ma ms.length mc] 41) := (hb1.block g (Array.getElem?_eq_some_iff.1 HK0.out).1).trans HK0.out
  have HV1 := Lib.hid (HWV.out.belowW hB1)
  go_loopw [5, 18] (fun s i wr => ∃ k : Nat, k ≤ ws.length ∧ i = .int .i64 k ∧ s = .string (bs (statP nm ((ws.take k).map (stW ms.length nx vd (unseenN ms))))) ∧ Below w1.heap.size w1 wr) (fun _ i _ => ws.length - (intOf i).toNat)
  case atStart => exact ⟨0, Nat.zero_le _, rfl, rfl, Below.refl _ _⟩
  case round =>
    obtain ⟨k, hk, rfl, rfl, hB⟩ := hrel
    have hzr := hB.size
    have G2 : wr.heap[g]? = some (.cells #[.int .i64 us, .string (bs nm), .int .i64 vd, .int .i64 nx, .slice ma ms.length mc] 41) := (hB.block g (Array.getElem?_eq_some_iff.1 G1).1).trans G1
    have g2 : wr.cell? ⟨g, 2, none⟩ = some (.int .i64 vd) := row_cell G2 rfl
    have g3 : wr.cell? ⟨g, 3, none⟩ = some (.int .i64 nx) := row_cell G2 rfl
    have g4 : wr.cell? ⟨g, 4, none⟩ = some (.slice ma ms.length mc) := row_cell G2 rfl
    have hlen : ∀ y ∈ (ws.take k).map (stW ms.length nx vd (unseenN ms)), y.length ≤ 200 := by
      intro y hy
      obtain ⟨x, hx, rfl⟩ := List.mem_map.1 hy
      have h1 := hwn x (List.mem_of_mem_take hx)
      have h2 := statN_bd (n := ms.length) (u := unseenN ms) (x := x) hnx hvd (by omega) (by have : unseenN ms ≤ ms.length := List.length_filter_le _ _; omega)
      have h3 := itoa_len _ h2.1 h2.2
      unfold stW
      simp only [List.length_append, List.length_cons, List.length_nil]
      omega
    have hkl : ((ws.take k).map (stW ms.length nx vd (unseenN ms))).length = k := by rw [List.length_map, List.length_take]; omega
    by_cases hlt : k < ws.length
    · obtain ⟨x, hx⟩ : ∃ x, ws[k]? = some x := ⟨_, List.getElem?_eq_getElem hlt⟩
      have hxd : ws.getD k [] = x := by simp [List.getD, hx]
      obtain ⟨b, o, c, hform, _, _, hc⟩ := (HV1.out.belowW hB).resolve_left (by rintro ⟨_, _, _, h⟩; rw [h] at hlt; simp at hlt)
      obtain ⟨rfl, rfl⟩ : wa = some ⟨b, o, none⟩ ∧ wo = c := by simpa using hform
      have cx := hc k hlt
      rw [hxd] at cx
      have hxl := hwn x (List.mem_of_getElem? hx)
      have hlt' : (k : Int) < ws.length := by omega
      have hps := statP_len nm _ hnl hlen
      rw [hkl] at hps
      obtain ⟨PP, hPP⟩ : ∃ PP, statP nm ((ws.take k).map (stW ms.length nx vd (unseenN ms))) = PP := ⟨_, rfl⟩
      rw [hPP] at hps ⊢
      have hpz : (bs PP).size = PP.length := bs_size _
      -- case-split
      have HPP := Lib.hid hPP
      have htk : (ws.take (k + 1)).map (stW ms.length nx vd (unseenN ms)) = (ws.take k).map (stW ms.length nx vd (unseenN ms)) ++ [x ++ [32] ++ Lib.itoa (statN ms.length nx vd (unseenN ms) x)] := by
        rw [List.take_add_one, hx]
        simp [stW]
      have HTK := Lib.hid htk
      have hul : unseenN ms ≤ ms.length := List.length_filter_le _ _
      have hnxb : -9223372036854775808 ≤ nx ∧ nx ≤ 9223372036854775807 := by simp [Lit.wf, IntKind.min, IntKind.max, IntKind.signed, IntKind.bits] at hnx; omega
      have hvdb : -9223372036854775808 ≤ vd ∧ vd ≤ 9223372036854775807 := by simp [Lit.wf, IntKind.min, IntKind.max, IntKind.signed, IntKind.bits] at hvd; omega
      have hxz : (bs x).size = x.length := bs_size _
      clear htk hx hxd hPP hc
      by_cases hk0 : k = 0
      · subst hk0
        simp only [Nat.add_zero] at cx
        rcases b0 : (x == [77, 69, 83, 83, 65, 71, 69, 83]) with _ | _
        rotate_left
        · have hN : statN ms.length nx vd (unseenN ms) x = (ms.length : Int) := by
            have h0 : x = kMsgs := eq_of_beq b0
            unfold statN
            rw [if_pos h0]
          go_wp2_with fail
          refine (refDig22_any (ms.length : Int) wr (by omega) (by omega)).mono ?_
          rintro e w5 ⟨rfl, hb5⟩
          have hiz : (bs (Lib.itoa (ms.length : Int))).size = (Lib.itoa (ms.length : Int)).length := bs_size _
          have hil := itoa_len (ms.length : Int) (by omega) (by omega)
          go_wp2_with fail
          go_roundw
          case measure => simp [intOf]; omega
          case rel =>
            refine ⟨0 + 1, by omega, by go_num, ?_, hB.trans (hb5.mono (hB).size)⟩
            rw [HTK.out, statP_snoc, HPP.out, if_pos (by rw [← List.length_eq_zero_iff, hkl]), hN]
            rw [List.append_nil]
            all_goals try simp only [← bs_append]
            all_goals try simp only [ByteArray.append_assoc]
            all_goals try rfl
        rcases b1 : (x == [85, 73, 68, 78, 69, 88, 84]) with _ | _
        rotate_left
        · have hN : statN ms.length nx vd (unseenN ms) x = nx := by
            have h1 : x = kNext := eq_of_beq b1
            have h0 : x ≠ kMsgs := by intro h; subst h; revert b0; decide
            unfold statN
            rw [if_neg h0, if_pos h1]
          go_wp2_with fail
          refine (refDig22_any nx wr (by omega) (by omega)).mono ?_
          rintro e w5 ⟨rfl, hb5⟩
          have hiz : (bs (Lib.itoa nx)).size = (Lib.itoa nx).length := bs_size _
          have hil := itoa_len nx (by omega) (by omega)
          go_wp2_with fail
          go_roundw
          case measure => simp [intOf]; omega
          case rel =>
            refine ⟨0 + 1, by omega, by go_num, ?_, hB.trans (hb5.mono (hB).size)⟩
            rw [HTK.out, statP_snoc, HPP.out, if_pos (by rw [← List.length_eq_zero_iff, hkl]), hN]
            rw [List.append_nil]
            all_goals try simp only [← bs_append]
            all_goals try simp only [ByteArray.append_assoc]
            all_goals try rfl
        rcases b2 : (x == [85, 73, 68, 86, 65, 76, 73, 68, 73, 84, 89]) with _ | _
        rotate_left
        · have hN : statN ms.length nx vd (unseenN ms) x = vd := by
            have h2 : x = kValid := eq_of_beq b2
            have h0 : x ≠ kMsgs := by intro h; subst h; revert b0; decide
            have h1 : x ≠ kNext := by intro h; subst h; revert b1; decide
            unfold statN
            rw [if_neg h0, if_neg h1, if_pos h2]
          go_wp2_with fail
          refine (refDig22_any vd wr (by omega) (by omega)).mono ?_
          rintro e w5 ⟨rfl, hb5⟩
          have hiz : (bs (Lib.itoa vd)).size = (Lib.itoa vd).length := bs_size _
          have hil := itoa_len vd (by omega) (by omega)
          go_wp2_with fail
          go_roundw
          case measure => simp [intOf]; omega
          case rel =>
            refine ⟨0 + 1, by omega, by go_num, ?_, hB.trans (hb5.mono (hB).size)⟩
            rw [HTK.out, statP_snoc, HPP.out, if_pos (by rw [← List.length_eq_zero_iff, hkl]), hN]
            rw [List.append_nil]
            all_goals try simp only [← bs_append]
            all_goals try simp only [ByteArray.append_assoc]
            all_goals try rfl
        rcases b3 : (x == [85, 78, 83, 69, 69, 78]) with _ | _
        rotate_left
        · have hN : statN ms.length nx vd (unseenN ms) x = (unseenN ms : Int) := by
            have h3 : x = kUnseen := eq_of_beq b3
            have h0 : x ≠ kMsgs := by intro h; subst h; revert b0; decide
            have h1 : x ≠ kNext := by intro h; subst h; revert b1; decide
            have h2 : x ≠ kValid := by intro h; subst h; revert b2; decide
            unfold statN
            rw [if_neg h0, if_neg h1, if_neg h2, if_pos h3]
          go_wp2_with fail
          go_loopw [8, 46] (fun u i wq => ∃ j : Nat, j ≤ ms.length ∧ i = .int .i64 j ∧ u = .int .i64 (unseenN (ms.take j)) ∧ Below wr.heap.size wr wq) (fun _ i _ => ms.length - (intOf i).toNat)
          case atStart => exact ⟨0, Nat.zero_le _, rfl, rfl, Below.refl _ _⟩
          case round =>
            obtain ⟨j, hj, rfl, rfl, hQ⟩ := hrel
            have hzq := hQ.size
            by_cases hjl : j < ms.length
            · obtain ⟨y, hy⟩ : ∃ y, ms[j]? = some y := ⟨_, List.getElem?_eq_getElem hjl⟩
              obtain ⟨bm, om, rfl, hbl, hcm⟩ := HMC.out (by rintro rfl; simp at hjl)
              obtain ⟨x0, x1, x2, x3⟩ := hcm j y hy
              have hbl1 : bm < w1.heap.size := by have := hB1.size; omega
              have hbl2 := Nat.lt_of_lt_of_le hbl1 hzr
              have lift : ∀ i v, w.cell? ⟨bm, i, none⟩ = some v → wr.cell? ⟨bm, i, none⟩ = some v := fun i v e => (hQ.cell (p := ⟨bm, i, none⟩) hbl2).trans ((hB.cell (p := ⟨bm, i, none⟩) hbl1).trans ((hB1.cell (p := ⟨bm, i, none⟩) hbl).trans e))
              have x0 := lift _ _ x0
              have x1 := lift _ _ x1
              have x2 := lift _ _ x2
              have x3 := lift _ _ x3
              have hjl' : (j : Int) < ms.length := by omega
              have hun : unseenN (ms.take (j + 1)) = unseenN (ms.take j) + (if unseenB y.flags = true then 1 else 0) := by
                rw [List.take_add_one, hy]
                unfold unseenN
                rw [Option.toList_some, List.filter_append, List.length_append]
                congr 1
                by_cases h : unseenB y.flags = true
                · simp [h]
                · simp [h]
              have hul2 : unseenN (ms.take j) ≤ j := by
                unfold unseenN
                have := List.length_filter_le (fun x : Msg => unseenB x.flags) (ms.take j)
                rw [List.length_take] at this
                omega
              obtain ⟨U, hU⟩ : ∃ U, unseenN (ms.take j) = U := ⟨_, rfl⟩
              rw [hU] at hun hul2 ⊢
              have HUN := Lib.hid hun
              clear hcm lift hy hun hU
              rcases hb : (bits BinOp.and IntKind.i64 y.flags 1 == 0) with _ | _
              · go_wp2
                go_roundw
                case rel => exact ⟨j + 1, by omega, by go_num, by rw [HUN.out, if_neg (by unfold unseenB; rw [hb]; simp)]; rfl, hQ.alloc hzq _⟩
                case measure => simp [intOf]; omega
              · go_wp2
                go_roundw
                case rel => exact ⟨j + 1, by omega, by go_num, by rw [HUN.out, if_pos (by unfold unseenB; rw [hb])]; rfl, hQ.alloc hzq _⟩
                case measure => simp [intOf]; omega
            · obtain rfl : j = ms.length := by omega
              rw [List.take_length]
              go_wp2_with fail
              refine (refDig22_any (unseenN ms : Int) wr (by omega) (by omega)).mono ?_
              rintro e w5 ⟨rfl, hb5⟩
              have hiz : (bs (Lib.itoa (unseenN ms : Int))).size = (Lib.itoa (unseenN ms : Int)).length := bs_size _
              have hil := itoa_len (unseenN ms : Int) (by omega) (by omega)
              go_wp2_with fail
              go_roundw
              case measure => simp [intOf]; omega
              case rel =>
                refine ⟨0 + 1, by omega, by go_num, ?_, (hB.trans (hQ.mono hzr)).trans (hb5.mono ((hB.trans (hQ.mono hzr))).size)⟩
                rw [HTK.out, statP_snoc, HPP.out, if_pos (by rw [← List.length_eq_zero_iff, hkl]), hN]
                rw [List.append_nil]
                all_goals try simp only [← bs_append]
                all_goals try simp only [ByteArray.append_assoc]
                all_goals try rfl
        · have hN : statN ms.length nx vd (unseenN ms) x = 0 := by
            have h0 : x ≠ kMsgs := by intro h; subst h; revert b0; decide
            have h1 : x ≠ kNext := by intro h; subst h; revert b1; decide
            have h2 : x ≠ kValid := by intro h; subst h; revert b2; decide
            have h3 : x ≠ kUnseen := by intro h; subst h; revert b3; decide
            unfold statN
            rw [if_neg h0, if_neg h1, if_neg h2, if_neg h3]
          go_wp2_with fail
          refine (refDig22_any 0 wr (by decide) (by decide)).mono ?_
          rintro e w5 ⟨rfl, hb5⟩
          have hiz : (bs (Lib.itoa 0)).size = (Lib.itoa 0).length := bs_size _
          have hil := itoa_len 0 (by decide) (by decide)
          go_wp2_with fail
          go_roundw
          case measure => simp [intOf]; omega
          case rel =>
            refine ⟨0 + 1, by omega, by go_num, ?_, hB.trans (hb5.mono (hB).size)⟩
            rw [HTK.out, statP_snoc, HPP.out, if_pos (by rw [← List.length_eq_zero_iff, hkl]), hN]
            rw [List.append_nil]
            all_goals try simp only [← bs_append]
            all_goals try simp only [ByteArray.append_assoc]
            all_goals try rfl
      · have hk1 : 0 < (k : Int) := by omega
        rcases b0 : (x == [77, 69, 83, 83, 65, 71, 69, 83]) with _ | _
        rotate_left
        · have hN : statN ms.length nx vd (unseenN ms) x = (ms.length : Int) := by
            have h0 : x = kMsgs := eq_of_beq b0
            unfold statN
            rw [if_pos h0]
          go_wp2_with fail
          refine (refDig22_any (ms.length : Int) wr (by omega) (by omega)).mono ?_
          rintro e w5 ⟨rfl, hb5⟩
          have hiz : (bs (Lib.itoa (ms.length : Int))).size = (Lib.itoa (ms.length : Int)).length := bs_size _
          have hil := itoa_len (ms.length : Int) (by omega) (by omega)
          go_wp2_with fail
          go_roundw
          case measure => simp [intOf]; omega
          case rel =>
            refine ⟨k + 1, by omega, by go_num, ?_, hB.trans (hb5.mono (hB).size)⟩
            rw [HTK.out, statP_snoc, HPP.out, if_neg (by rw [← List.length_eq_zero_iff, hkl]; omega), hN]
            skip
            all_goals try simp only [← bs_append]
            all_goals try simp only [ByteArray.append_assoc]
            all_goals try rfl
        rcases b1 : (x == [85, 73, 68, 78, 69, 88, 84]) with _ | _
        rotate_left
        · have hN : statN ms.length nx vd (unseenN ms) x = nx := by
            have h1 : x = kNext := eq_of_beq b1
            have h0 : x ≠ kMsgs := by intro h; subst h; revert b0; decide
            unfold statN
            rw [if_neg h0, if_pos h1]
          go_wp2_with fail
          refine (refDig22_any nx wr (by omega) (by omega)).mono ?_
          rintro e w5 ⟨rfl, hb5⟩
          have hiz : (bs (Lib.itoa nx)).size = (Lib.itoa nx).length := bs_size _
          have hil := itoa_len nx (by omega) (by omega)
          go_wp2_with fail
          go_roundw
          case measure => simp [intOf]; omega
          case rel =>
            refine ⟨k + 1, by omega, by go_num, ?_, hB.trans (hb5.mono (hB).size)⟩
            rw [HTK.out, statP_snoc, HPP.out, if_neg (by rw [← List.length_eq_zero_iff, hkl]; omega), hN]
            skip
            all_goals try simp only [← bs_append]
            all_goals try simp only [ByteArray.append_assoc]
            all_goals try rfl
        rcases b2 : (x == [85, 73, 68, 86, 65, 76, 73, 68, 73, 84, 89]) with _ | _
        rotate_left
        · have hN : statN ms.length nx vd (unseenN ms) x = vd := by
            have h2 : x = kValid := eq_of_beq b2
            have h0 : x ≠ kMsgs := by intro h; subst h; revert b0; decide
            have h1 : x ≠ kNext := by intro h; subst h; revert b1; decide
            unfold statN
            rw [if_neg h0, if_neg h1, if_pos h2]
          go_wp2_with fail
          refine (refDig22_any vd wr (by omega) (by omega)).mono ?_
          rintro e w5 ⟨rfl, hb5⟩
          have hiz : (bs (Lib.itoa vd)).size = (Lib.itoa vd).length := bs_size _
          have hil := itoa_len vd (by omega) (by omega)
          go_wp2_with fail
          go_roundw
          case measure => simp [intOf]; omega
          case rel =>
            refine ⟨k + 1, by omega, by go_num, ?_, hB.trans (hb5.mono (hB).size)⟩
            rw [HTK.out, statP_snoc, HPP.out, if_neg (by rw [← List.length_eq_zero_iff, hkl]; omega), hN]
            skip
            all_goals try simp only [← bs_append]
            all_goals try simp only [ByteArray.append_assoc]
            all_goals try rfl
        rcases b3 : (x == [85, 78, 83, 69, 69, 78]) with _ | _
        rotate_left
        · have hN : statN ms.length nx vd (unseenN ms) x = (unseenN ms : Int) := by
            have h3 : x = kUnseen := eq_of_beq b3
            have h0 : x ≠ kMsgs := by intro h; subst h; revert b0; decide
            have h1 : x ≠ kNext := by intro h; subst h; revert b1; decide
            have h2 : x ≠ kValid := by intro h; subst h; revert b2; decide
            unfold statN
            rw [if_neg h0, if_neg h1, if_neg h2, if_pos h3]
          go_wp2_with fail
          go_loopw [8, 46] (fun u i wq => ∃ j : Nat, j ≤ ms.length ∧ i = .int .i64 j ∧ u = .int .i64 (unseenN (ms.take j)) ∧ Below wr.heap.size wr wq) (fun _ i _ => ms.length - (intOf i).toNat)
          case atStart => exact ⟨0, Nat.zero_le _, rfl, rfl, Below.refl _ _⟩
          case round =>
            obtain ⟨j, hj, rfl, rfl, hQ⟩ := hrel
            have hzq := hQ.size
            by_cases hjl : j < ms.length
            · obtain ⟨y, hy⟩ : ∃ y, ms[j]? = some y := ⟨_, List.getElem?_eq_getElem hjl⟩
              obtain ⟨bm, om, rfl, hbl, hcm⟩ := HMC.out (by rintro rfl; simp at hjl)
              obtain ⟨x0, x1, x2, x3⟩ := hcm j y hy
              have hbl1 : bm < w1.heap.size := by have := hB1.size; omega
              have hbl2 := Nat.lt_of_lt_of_le hbl1 hzr
              have lift : ∀ i v, w.cell? ⟨bm, i, none⟩ = some v → wr.cell? ⟨bm, i, none⟩ = some v := fun i v e => (hQ.cell (p := ⟨bm, i, none⟩) hbl2).trans ((hB.cell (p := ⟨bm, i, none⟩) hbl1).trans ((hB1.cell (p := ⟨bm, i, none⟩) hbl).trans e))
              have x0 := lift _ _ x0
              have x1 := lift _ _ x1
              have x2 := lift _ _ x2
              have x3 := lift _ _ x3
              have hjl' : (j : Int) < ms.length := by omega
              have hun : unseenN (ms.take (j + 1)) = unseenN (ms.take j) + (if unseenB y.flags = true then 1 else 0) := by
                rw [List.take_add_one, hy]
                unfold unseenN
                rw [Option.toList_some, List.filter_append, List.length_append]
                congr 1
                by_cases h : unseenB y.flags = true
                · simp [h]
                · simp [h]
              have hul2 : unseenN (ms.take j) ≤ j := by
                unfold unseenN
                have := List.length_filter_le (fun x : Msg => unseenB x.flags) (ms.take j)
                rw [List.length_take] at this
                omega
              obtain ⟨U, hU⟩ : ∃ U, unseenN (ms.take j) = U := ⟨_, rfl⟩
              rw [hU] at hun hul2 ⊢
              have HUN := Lib.hid hun
              clear hcm lift hy hun hU
              rcases hb : (bits BinOp.and IntKind.i64 y.flags 1 == 0) with _ | _
              · go_wp2
                go_roundw
                case rel => exact ⟨j + 1, by omega, by go_num, by rw [HUN.out, if_neg (by unfold unseenB; rw [hb]; simp)]; rfl, hQ.alloc hzq _⟩
                case measure => simp [intOf]; omega
              · go_wp2
                go_roundw
                case rel => exact ⟨j + 1, by omega, by go_num, by rw [HUN.out, if_pos (by unfold unseenB; rw [hb])]; rfl, hQ.alloc hzq _⟩
                case measure => simp [intOf]; omega
            · obtain rfl : j = ms.length := by omega
              rw [List.take_length]
              go_wp2_with fail
              refine (refDig22_any (unseenN ms : Int) wr (by omega) (by omega)).mono ?_
              rintro e w5 ⟨rfl, hb5⟩
              have hiz : (bs (Lib.itoa (unseenN ms : Int))).size = (Lib.itoa (unseenN ms : Int)).length := bs_size _
              have hil := itoa_len (unseenN ms : Int) (by omega) (by omega)
              go_wp2_with fail
              go_roundw
              case measure => simp [intOf]; omega
              case rel =>
                refine ⟨k + 1, by omega, by go_num, ?_, (hB.trans (hQ.mono hzr)).trans (hb5.mono ((hB.trans (hQ.mono hzr))).size)⟩
                rw [HTK.out, statP_snoc, HPP.out, if_neg (by rw [← List.length_eq_zero_iff, hkl]; omega), hN]
                skip
                all_goals try simp only [← bs_append]
                all_goals try simp only [ByteArray.append_assoc]
                all_goals try rfl
        · have hN : statN ms.length nx vd (unseenN ms) x = 0 := by
            have h0 : x ≠ kMsgs := by intro h; subst h; revert b0; decide
            have h1 : x ≠ kNext := by intro h; subst h; revert b1; decide
            have h2 : x ≠ kValid := by intro h; subst h; revert b2; decide
            have h3 : x ≠ kUnseen := by intro h; subst h; revert b3; decide
            unfold statN
            rw [if_neg h0, if_neg h1, if_neg h2, if_neg h3]
          go_wp2_with fail
          refine (refDig22_any 0 wr (by decide) (by decide)).mono ?_
          rintro e w5 ⟨rfl, hb5⟩
          have hiz : (bs (Lib.itoa 0)).size = (Lib.itoa 0).length := bs_size _
          have hil := itoa_len 0 (by decide) (by decide)
          go_wp2_with fail
          go_roundw
          case measure => simp [intOf]; omega
          case rel =>
            refine ⟨k + 1, by omega, by go_num, ?_, hB.trans (hb5.mono (hB).size)⟩
            rw [HTK.out, statP_snoc, HPP.out, if_neg (by rw [← List.length_eq_zero_iff, hkl]; omega), hN]
            skip
            all_goals try simp only [← bs_append]
            all_goals try simp only [ByteArray.append_assoc]
            all_goals try rfl
    · obtain rfl : k = ws.length := by omega
      rw [List.take_length] at hlen hkl ⊢
      have hps := statP_len nm _ hnl hlen
      rw [hkl] at hps
      have hpz : (bs (statP nm (ws.map (stW ms.length nx vd (unseenN ms))))).size = _ := bs_size _
      go_wp2_with fail
      go_ret
      refine ⟨?_, hB1.trans (hB.mono (by have := hB1.size; omega))⟩
      have e : bs (statP nm (ws.map (stW ms.length nx vd (unseenN ms)))) ++ ⟨#[41, 13, 10]⟩ = bs (statT nm ms.length nx vd (unseenN ms) ws) := by
        unfold statP statT
        simp only [bs_append]
      rw [← e]
      rfl

end Go.Proofs.YthnkgifbbemhfaaGreatDoor
end

/- answer.List and the document's: the walks. -/
set_option linter.unusedVariables false
set_option linter.unusedSimpArgs false
section
namespace Go.Proofs.YthnkgifbbemhfaaGreatDoor
open Go.RowKit Go

/-- a name in a list -/
def lsT (wd nm : List UInt8) : List UInt8 := [42, 32] ++ wd ++ [32, 40, 41, 32, 34, 47, 34, 32] ++ qtL nm ++ [13, 10]
theorem ls_sum (x q : List UInt8) : ({ data := #[42, 32] } : ByteArray) ++ bs x ++ { data := #[32, 40, 41, 32, 34, 47, 34, 32] } ++ bs q ++ { data := #[13, 10] } = bs ([42, 32] ++ x ++ [32, 40, 41, 32, 34, 47, 34, 32] ++ q ++ [13, 10]) := by
  simp only [bs_append]

set_option maxRecDepth 100000 in
theorem listA_any (wd nm : List UInt8) (m : Int) (w : World) (hw : wd.length ≤ 100) (hn : nm.length ≤ 500) (hm : w.cell? ⟨2, 0, none⟩ = some (.int .i64 m)) (hT : TabQ w) :
    Calls Tryz.prog 16 #[.string (bs wd), .string (bs nm)] w fun e w' => e = .returned (.string (bs (lsT wd nm))) ∧ Below w.heap.size w w' := by
  have hql := qtL_len2 nm (by omega)
  have hqs : (bs (qtL nm)).size = (qtL nm).length := bs_size _
  have hws : (bs wd).size = wd.length := bs_size _
  have HM := Lib.hid hm
  have HT := Lib.hid hT
  clear hm hT
  go_enter Tryz.func16, Tryz.ntmps16
  go_wp2_with fail
  refine (quote_any nm m _ (by omega) HM.out HT.out).mono ?_
  rintro e w1 ⟨rfl, hb1⟩
  go_wp2
  go_ret
  refine ⟨?_, hb1⟩
  unfold lsT
  rw [← ls_sum]
  rfl
set_option maxRecDepth 100000 in
theorem refListA_any (wd nm : List UInt8) (w : World) (hw : wd.length ≤ 100) (hn : nm.length ≤ 500) :
    Calls Tryz.prog 17 #[.string (bs wd), .string (bs nm)] w fun e w' => e = .returned (.string (bs (lsT wd nm))) ∧ Below w.heap.size w w' := by
  have hql := qtL_len2 nm (by omega)
  have hqs : (bs (qtL nm)).size = (qtL nm).length := bs_size _
  have hws : (bs wd).size = wd.length := bs_size _
  go_enter Tryz.func17, Tryz.ntmps17
  go_wp2_with fail
  refine (refQuote_any nm _ (by omega)).mono ?_
  rintro e w1 ⟨rfl, hb1⟩
  go_wp2
  go_ret
  refine ⟨?_, hb1⟩
  unfold lsT
  rw [← ls_sum]
  rfl

end Go.Proofs.YthnkgifbbemhfaaGreatDoor
end

/- The law AnswerStatus: the walk. -/
set_option linter.unusedVariables false
set_option linter.unusedSimpArgs false
section
namespace Go.Proofs.YthnkgifbbemhfaaGreatDoor
open Go.RowKit Go

set_option maxRecDepth 100000 in
set_option maxHeartbeats 4000000 in
theorem answerStatus_list (us vd nx : Int) (nm wd : List UInt8) (mv wv : Value) (ms : List Msg) (ws : List (List UInt8)) (m : Int) (w : World) (hm : w.cell? ⟨2, 0, none⟩ = some (.int .i64 m)) (hT : TabQ w) (hmv : MsgsAt w mv ms) (hwv : ArgS w wv ws) (hnx : (Lit.int .i64 nx).wf = true) (hvd : (Lit.int .i64 vd).wf = true) :
    Calls Tryz.prog 5 #[.agg #[.int .i64 us, .string (bs nm), .int .i64 vd, .int .i64 nx, mv], wv, .string (bs wd)] w fun e w' => e = .returned (.bool true) ∧ Below w.heap.size w w' := by
  have HT := Lib.hid hT
  have HM := Lib.hid hm
  have HMV := Lib.hid hmv
  have HWV := Lib.hid hwv
  have hmf : ∃ ma mc, mv = .slice ma ms.length mc := by obtain ⟨a, c, h, _⟩ := hmv; exact ⟨a, c, h⟩
  obtain ⟨ma, mc, rfl⟩ := hmf
  obtain ⟨wa, wo, rfl⟩ : ∃ wa wc, wv = .slice wa ws.length wc := by
    rcases hwv with ⟨_, _, rfl, rfl⟩ | ⟨b, o, c, rfl, _⟩
    · exact ⟨_, _, rfl⟩
    · exact ⟨_, _, rfl⟩
  clear hT hm hmv hwv
  go_enter Tryz.func5, Tryz.ntmps5
  go_wp2_with fail
  obtain ⟨W0, hW0⟩ : ∃ W0, w.alloc (.cells #[.int .i64 us, .string (bs nm), .int .i64 vd, .int .i64 nx, .slice ma ms.length mc] 41) = W0 := ⟨_, rfl⟩
  have hb0 : Below w.heap.size w W0 := by rw [← hW0]; exact (Below.refl _ _).alloc (Nat.le_refl _) _
  have hk0 : W0.heap[w.heap.size]? = some (.cells #[.int .i64 us, .string (bs nm), .int .i64 vd, .int .i64 nx, .slice ma ms.length mc] 41) := by rw [← hW0]; exact heap_new _ _
  rw [hW0]
  obtain ⟨g, hg⟩ : ∃ g, w.heap.size = g := ⟨_, rfl⟩
  rw [hg] at hk0 ⊢
  clear hW0
  refine (ansAlive_any _ (TabQ.below HT.out hb0)).mono ?_
  rintro e w1 ⟨rfl, hb1⟩
  have hz0 := hb0.size
  have hB1 : Below w.heap.size w w1 := hb0.trans (hb1.mono hz0)
  have hk1 := (hb1.block g (Array.getElem?_eq_some_iff.1 hk0).1).trans hk0
  have d0 : w1.cell? ⟨g, 0, none⟩ = some (.int .i64 us) := row_cell hk1 rfl
  have d1 : w1.cell? ⟨g, 1, none⟩ = some (.string (bs nm)) := row_cell hk1 rfl
  have d2 : w1.cell? ⟨g, 2, none⟩ = some (.int .i64 vd) := row_cell hk1 rfl
  have d3 : w1.cell? ⟨g, 3, none⟩ = some (.int .i64 nx) := row_cell hk1 rfl
  have d4 : w1.cell? ⟨g, 4, none⟩ = some (.slice ma ms.length mc) := row_cell hk1 rfl
  have z1 : (bs nm).size = nm.length := bs_size _
  have z2 : (bs wd).size = wd.length := bs_size _
  have hz1 := hB1.size
  clear hk0 hb0 hb1
  have HK1 := Lib.hid hk1
  clear hk1
  by_cases h1 : 500 < nm.length
  · have h1' : (500 : Int) < nm.length := by omega
    go_wp2
    go_ret
    exact ⟨rfl, hB1⟩
  have h1' : (nm.length : Int) ≤ 500 := by omega
  by_cases h2 : 500 < ms.length
  · have h2' : (500 : Int) < ms.length := by omega
    go_wp2
    go_ret
    exact ⟨rfl, hB1⟩
  have h2' : (ms.length : Int) ≤ 500 := by omega
  by_cases h3 : 50 < ws.length
  · have h3' : (50 : Int) < ws.length := by omega
    go_wp2
    go_ret
    exact ⟨rfl, hB1⟩
  have h3' : (ws.length : Int) ≤ 50 := by omega
  by_cases h4 : 100 < wd.length
  · have h4' : (100 : Int) < wd.length := by omega
    go_wp2
    go_ret
    exact ⟨rfl, hB1⟩
  have h4' : (wd.length : Int) ≤ 100 := by omega
  have HV1 := Lib.hid (HWV.out.belowW hB1)
  go_wp2_with fail
  go_loopw [33] (fun i wr => ∃ k : Nat, k ≤ ws.length ∧ i = .int .i64 k ∧ Hid (∀ x ∈ ws.take k, x.length ≤ 100) ∧ wr = w1) (fun i _ => ws.length - (intOf i).toNat)
  case atStart => exact ⟨0, Nat.zero_le _, rfl, by show ∀ _, _; simp, rfl⟩
  case round =>
    obtain ⟨k, hk, rfl, hin, rfl⟩ := hrel
    by_cases hlt : k < ws.length
    · obtain ⟨x, hx⟩ : ∃ x, ws[k]? = some x := ⟨_, List.getElem?_eq_getElem hlt⟩
      have hxd : ws.getD k [] = x := by simp [List.getD, hx]
      obtain ⟨b, o, c, hform, _, _, hc⟩ := HV1.out.resolve_left (by rintro ⟨_, _, _, h⟩; rw [h] at hlt; simp at hlt)
      obtain ⟨rfl, rfl⟩ : wa = some ⟨b, o, none⟩ ∧ wo = c := by simpa using hform
      have cx := hc k hlt
      rw [hxd] at cx
      have hxz : (bs x).size = x.length := bs_size _
      have hlt' : (k : Int) < ws.length := by omega
      have htk : ws.take (k + 1) = ws.take k ++ [x] := by rw [List.take_add_one, hx]; rfl
      have HTK := Lib.hid htk
      clear hx hxd hc htk
      by_cases hbig : 100 < x.length
      · have hbig' : (100 : Int) < x.length := by omega
        go_wp2
        go_ret
        exact ⟨rfl, hB1⟩
      · have hbig' : (x.length : Int) ≤ 100 := by omega
        go_wp2
        go_roundw
        case rel => exact ⟨k + 1, by omega, by go_num, by
          show ∀ y ∈ ws.take (k + 1), _
          rw [HTK.out]
          intro y hy
          rcases List.mem_append.1 hy with h | h
          · exact hin.out y h
          · rw [List.mem_singleton.1 h]; omega, by first | rfl | trivial⟩
        case measure => simp [intOf]; omega
    · obtain rfl : k = ws.length := by omega
      have hin2 := hin.out
      rw [List.take_length] at hin2
      have HS1 := Lib.hid (fun (G : Grow wr) => status_any us vd nx nm _ _ ms ws m G.v ((G.h.cell (p := ⟨2, 0, none⟩) (cell_lt ((hB1.cell (p := ⟨2, 0, none⟩) (cell_lt HM.out)).trans HM.out))).trans ((hB1.cell (p := ⟨2, 0, none⟩) (cell_lt HM.out)).trans HM.out)) (TabQ.below (TabQ.below HT.out hB1) G.h) ((HMV.out.below hB1).below G.h) ((HWV.out.belowW hB1).belowW G.h) (by omega) (by omega) hin2 (by omega) hnx hvd)
      have HS2 := Lib.hid (fun (G : Grow wr) => refStatus_any us vd nx nm _ _ ms ws G.v ((HMV.out.below hB1).below G.h) ((HWV.out.belowW hB1).belowW G.h) (by omega) (by omega) hin2 (by omega) hnx hvd)
      have HL1 := Lib.hid (fun (G : Grow wr) => listA_any wd nm m G.v (by omega) (by omega) ((G.h.cell (p := ⟨2, 0, none⟩) (cell_lt ((hB1.cell (p := ⟨2, 0, none⟩) (cell_lt HM.out)).trans HM.out))).trans ((hB1.cell (p := ⟨2, 0, none⟩) (cell_lt HM.out)).trans HM.out)) (TabQ.below (TabQ.below HT.out hB1) G.h))
      have HL2 := Lib.hid (fun (G : Grow wr) => refListA_any wd nm G.v (by omega) (by omega))
      have g0 := fun G : Grow wr => G.cell d0
      have g1 := fun G : Grow wr => G.cell d1
      have g2 := fun G : Grow wr => G.cell d2
      have g3 := fun G : Grow wr => G.cell d3
      have g4 := fun G : Grow wr => G.cell d4
      clear hin2 hin
      go_wp2
      refine wp_region_grow (by kernel_rfl) (by kernel_rfl) ?_
      repeat (go_big_quiet_step ((first | (go_at_call 14; with_reducible exact grow_call (HS1.out _)) | (go_at_call 15; with_reducible exact grow_call (HS2.out _)) | (go_at_call 16; with_reducible exact grow_call (HL1.out _)) | (go_at_call 17; with_reducible exact grow_call (HL2.out _)))))
      refine wpQuiet_nil ?_
      rintro _ ⟨gw, rfl⟩
      go_wp2
      go_ret
      exact ⟨rfl, hB1.trans (gw.h.mono hz1)⟩

end Go.Proofs.YthnkgifbbemhfaaGreatDoor
end

/- A box that came in. -/
set_option linter.unusedVariables false
set_option linter.unusedSimpArgs false
section
namespace Go.Proofs.YthnkgifbbemhfaaGreatDoor
open Go.RowKit Go.Deep Go.WideShapes Go.ChangeShapes

theorem ba_dataB (s : ByteArray) : bs s.data.toList = s := by
  apply ByteArray.ext
  simp
def cellsMsg (f : Msg) : List Value := [.int .i64 f.uid, .int .i64 f.flags, .int .i64 f.date, .string (bs f.body)]

section
variable {H : Type} {enc : TypeId × Value → H} {W : World}

set_option maxRecDepth 100000 in
theorem open_iiis {t : TypeId} {f0 f1 f2 f3 : Field} {n : Nat} {cs : List Value} {x : DataW H × List MemPlace} (hs : Tryz.prog.underlying t = some (.struct #[f0, f1, f2, f3])) (hone : oneCellFields Tryz.prog #[f0, f1, f2, f3] = true) (hC : Tryz.prog.cellsOf t = 4)
    (t0 : f0.type = 3) (t1 : f1.type = 3) (t2 : f2.type = 3) (t3 : f3.type = 9) (h : DataW.trod enc Tryz.prog W 0 (fun _ => true) true n t cs = some x) :
    ∃ f : Msg, cs = cellsMsg f := by
  obtain ⟨xs, m, _, hx, hl, hlen, hf⟩ := DataW.trod_struct hs h
  rw [hC] at hl
  match cs, hl, xs, hlen with
  | [c0, c1, c2, c3], _, [y0, y1, y2, y3], _ =>
    obtain ⟨o0, k0⟩ := hone_of hone 0 f0 rfl
    obtain ⟨o1, k1⟩ := hone_of hone 1 f1 rfl
    obtain ⟨o2, k2⟩ := hone_of hone 2 f2 rfl
    obtain ⟨o3, k3⟩ := hone_of hone 3 f3 rfl
    have h0 := hf 0 f0 rfl
    have h1 := hf 1 f1 rfl
    have h2 := hf 2 f2 rfl
    have h3 := hf 3 f3 rfl
    rw [o0, k0, t0] at h0
    rw [o1, k1, t1] at h1
    rw [o2, k2, t2] at h2
    rw [o3, k3, t3] at h3
    obtain ⟨a0, e0, _, _⟩ := DataW.trod_int Tryz.underlying3 h0
    obtain ⟨a1, e1, _, _⟩ := DataW.trod_int Tryz.underlying3 h1
    obtain ⟨a2, e2, _, _⟩ := DataW.trod_int Tryz.underlying3 h2
    obtain ⟨s3, e3, _, z3⟩ := DataW.trod_string Tryz.underlying9 h3
    simp at e0 e1 e2 e3
    subst e0 e1 e2 e3
    exact ⟨⟨a0, a1, a2, s3.data.toList⟩, by simp [cellsMsg, ba_dataB]⟩
set_option maxRecDepth 100000 in
theorem open_msg {n : Nat} {cs : List Value} {x : DataW H × List MemPlace} (h : DataW.trod enc Tryz.prog W 0 (fun _ => true) true n 27 cs = some x) : ∃ f : Msg, cs = cellsMsg f :=
  open_iiis Tryz.underlying27 (by kernel_rfl) (by kernel_rfl) rfl rfl rfl rfl h

set_option maxRecDepth 100000 in
theorem arg_msgs {t : TypeId} (ht : Tryz.prog.underlying t = some (.slice 27)) {a0 : Option Addr} {len cap : Nat} {d : DataW H} {p : List MemPlace}
    (h0 : DataW.Trod enc Tryz.prog W 0 (fun _ => true) true t (.slice a0 len cap) d p) : ∃ l, MsgsAt W (.slice a0 len cap) l ∧ l.length ≤ maxLen := by
  obtain ⟨fuel, hf⟩ := h0
  have hlt := DataW.trod_lt _ _ _ _ hf
  have hC : Tryz.prog.cellsOf 27 = 4 := by kernel_rfl
  rcases open_slice ht hf with ⟨hcs, hx⟩ | ⟨a, len', cap', m, n, D, Pl, hcs, _, hl, hm, hmm, hx, hel⟩
  · simp [Value.cells] at hcs
    obtain ⟨rfl, rfl, rfl⟩ := hcs
    exact ⟨[], ⟨_, _, rfl, by simp⟩, by simp⟩
  · simp [Value.cells] at hcs
    obtain ⟨rfl, rfl, rfl⟩ := hcs
    simp only [Prod.mk.injEq] at hx
    obtain ⟨rfl, rfl⟩ := hx
    simp only [if_true] at hmm
    subst hmm
    rw [hC] at hel
    by_cases h1 : len = 0
    · subst h1
      exact ⟨[], ⟨_, _, rfl, by simp⟩, by simp⟩
    · have key : ∀ i, i < m → ∃ f : Msg, W.cells? 0 (a.add (i * 4)) 4 = some (cellsMsg f) := fun i hi => by
        obtain ⟨cs', h1, h2⟩ := hel i hi
        obtain ⟨f, rfl⟩ := open_msg h2
        exact ⟨f, h1⟩
      haveI : Inhabited Msg := ⟨⟨0, 0, 0, []⟩⟩
      obtain ⟨F, hF⟩ := choose_lt key
      obtain ⟨b, off, spot⟩ := a
      have hcell0 := (World.cells?_some (hF 0 (by omega))).2.2 0 (by decide)
      have hspot : spot = none := by simpa [Addr.add] using World.cell?_spot hcell0
      subst hspot
      have hlen : ((List.range len).map F).length = len := by simp
      refine ⟨(List.range len).map F, ⟨some ⟨b, off, none⟩, m, by rw [hlen], fun _ => ⟨b, off, rfl, ?_, fun j f hj => ?_⟩⟩, by rw [hlen]; omega⟩
      · exact hlt (.cell b off) (List.mem_append_left _ (MemPlace.mem_row.2 ⟨0, by rw [hC]; omega, by simp⟩))
      · obtain ⟨hj1, hj2⟩ := List.getElem?_eq_some_iff.1 hj
        rw [hlen] at hj1
        simp only [List.getElem_map, List.getElem_range] at hj2
        subst hj2
        have hat := (World.cells?_some (hF j (by omega))).2.2
        have q0 := hat 0 (by decide)
        have q1 := hat 1 (by decide)
        have q2 := hat 2 (by decide)
        have q3 := hat 3 (by decide)
        rw [add_add, add_plain] at q0 q1 q2 q3
        exact ⟨q0, q1, q2, q3⟩

theorem open_agg5 {P : Program} {w : World} {base : Nat} {spare : Nat → Bool} {held : Bool} {r : Reach} {b0 : Nat} {t : TypeId} {f0 f1 f2 f3 f4 : Field} {v : Value} {d : DataW H} {p : List MemPlace} (hs : P.underlying t = some (.struct #[f0, f1, f2, f3, f4])) (hone : oneCellFields P #[f0, f1, f2, f3, f4] = true) (hC : P.cellsOf t = 5)
    (hv : Value.okWide P w r b0 t v) (h : DataW.Trod enc P w base spare held t v d p) :
    ∃ (v0 v1 v2 v3 v4 : Value) (y0 y1 y2 y3 y4 : DataW H × List MemPlace) (n : Nat), v = .agg #[v0, v1, v2, v3, v4] ∧
      DataW.trod enc P w base spare held n f0.type [v0] = some y0 ∧ DataW.trod enc P w base spare held n f1.type [v1] = some y1 ∧ DataW.trod enc P w base spare held n f2.type [v2] = some y2 ∧ DataW.trod enc P w base spare held n f3.type [v3] = some y3 ∧ DataW.trod enc P w base spare held n f4.type [v4] = some y4 := by
  obtain ⟨cs, rfl, hsz⟩ := okWide_struct hs hv
  obtain ⟨fuel, hf⟩ := h
  obtain ⟨xs, m, _, hx, hl, hlen, hff⟩ := DataW.trod_struct hs hf
  have e : cs.toList.length = 5 := by rw [Array.length_toList, hsz, hC]
  obtain ⟨l⟩ := cs
  match l, e, xs, hlen with
  | [c0, c1, c2, c3, c4], _, [y0, y1, y2, y3, y4], _ =>
    obtain ⟨o0, k0⟩ := hone_of hone 0 f0 rfl
    obtain ⟨o1, k1⟩ := hone_of hone 1 f1 rfl
    obtain ⟨o2, k2⟩ := hone_of hone 2 f2 rfl
    obtain ⟨o3, k3⟩ := hone_of hone 3 f3 rfl
    obtain ⟨o4, k4⟩ := hone_of hone 4 f4 rfl
    have h0 := hff 0 f0 rfl
    have h1 := hff 1 f1 rfl
    have h2 := hff 2 f2 rfl
    have h3 := hff 3 f3 rfl
    have h4 := hff 4 f4 rfl
    exact ⟨c0, c1, c2, c3, c4, y0, y1, y2, y3, y4, m, rfl, by simpa [Value.cells, o0, k0] using h0, by simpa [Value.cells, o1, k1] using h1, by simpa [Value.cells, o2, k2] using h2, by simpa [Value.cells, o3, k3] using h3, by simpa [Value.cells, o4, k4] using h4⟩

theorem slice_of_trodB {W : World} {t e : TypeId} (ht : Tryz.prog.underlying t = some (.slice e)) {fuel : Nat} {v : Value} {x : DataW H × List MemPlace} (h : DataW.trod enc Tryz.prog W 0 (fun _ => true) true fuel t [v] = some x) : ∃ a n c, v = .slice a n c ∧ n ≤ c := by
  rcases open_slice ht h with ⟨h0, _⟩ | ⟨a, len, cap, m, n, D, Pl, hcs, hb, hl, hm, hmm, hx, hi⟩
  · simp at h0; exact ⟨_, _, _, h0, Nat.le_refl _⟩
  · simp at hcs; exact ⟨_, _, _, hcs, hl⟩


set_option maxRecDepth 100000 in
theorem arg_box {W : World} {b0 : Nat} {r : Reach} {v : Value} {d : DataW H} {p : List MemPlace} (hv : Value.okWide Tryz.prog W r b0 41 v) (h0 : DataW.Trod enc Tryz.prog W 0 (fun _ => true) true 41 v d p) :
    ∃ (us vd nx : Int) (nm : List UInt8) (mv : Value) (ms : List Msg), v = .agg #[.int .i64 us, .string (bs nm), .int .i64 vd, .int .i64 nx, mv] ∧ MsgsAt W mv ms ∧ (Lit.int .i64 nx).wf = true ∧ (Lit.int .i64 vd).wf = true := by
  obtain ⟨v0, v1, v2, v3, v4, y0, y1, y2, y3, y4, n, rfl, h1, h2, h3, h4, h5⟩ := open_agg5 Tryz.underlying41 (by kernel_rfl) (by kernel_rfl) hv h0
  obtain ⟨a0, e0, _, w0⟩ := DataW.trod_int Tryz.underlying3 h1
  obtain ⟨s1, e1, _, z1⟩ := DataW.trod_string Tryz.underlying9 h2
  obtain ⟨a2, e2, _, w2⟩ := DataW.trod_int Tryz.underlying3 h3
  obtain ⟨a3, e3, _, w3⟩ := DataW.trod_int Tryz.underlying3 h4
  obtain ⟨a4, n4, c4, rfl, k4⟩ := slice_of_trodB Tryz.underlying39 h5
  obtain ⟨ms, hms, _⟩ := arg_msgs (enc := enc) (d := y4.1) (p := y4.2) Tryz.underlying39 ⟨n, h5⟩
  simp at e0 e1 e2 e3
  subst e0 e1 e2 e3
  exact ⟨a0, a2, a3, s1.data.toList, _, ms, by rw [ba_dataB], hms, w3, w2⟩
end

end Go.Proofs.YthnkgifbbemhfaaGreatDoor
end

/- The law AnswerStatus, as the card wants it. -/
set_option linter.unusedVariables false
set_option linter.unusedSimpArgs false
section
namespace Go.Proofs.YthnkgifbbemhfaaGreatDoor
open Go.RowKit Go

theorem answerStatus_any (us vd nx : Int) (nm : List UInt8) (mv : Value) (ms : List Msg) (v : Value) (ls : List (List UInt8)) (s : ByteArray) (w : World) (hms : MsgsAt w mv ms) (hnx : (Lit.int .i64 nx).wf = true) (hvd : (Lit.int .i64 vd).wf = true) (hls : ArgS w v ls) (_ : s.size ≤ 9223372036854775807) (hT : Tab w) (m : Int) (hm : w.cell? ⟨2, 0, none⟩ = some (.int .i64 m)) :
    Calls Tryz.prog 5 #[.agg #[.int .i64 us, .string (bs nm), .int .i64 vd, .int .i64 nx, mv], v, .string s] w fun e w' => e = .returned (.bool true) ∧ Below w.heap.size w w' := by
  have h := answerStatus_list us vd nx nm s.data.toList mv v ms ls m w hm hT hms hls hnx hvd
  rw [ba_dataB] at h
  exact h

end Go.Proofs.YthnkgifbbemhfaaGreatDoor
end

/- The wrap that hands the walk both: what the listed variables hold, and the world's shape. -/
set_option linter.unusedVariables false
set_option linter.unusedSimpArgs false
section
namespace Go
variable {H : Type} {enc : TypeId × Value → H}

theorem Proofs.YthnkgifbbemhfaaGreatDoor.handed_and_shaped {a : Assume} {C : Checked} {os : Os} {f : FuncId} {fn : Func} {s : ChangeSpec} {conds : List PathCond} {apart fresh handsOn again : Bool} {X : World → Array Value → Prop}
    (hX : ∀ (w w' : World) (args : Array Value), w.heap = w'.heap → X w args → X w' args)
    (own : ownKnob C.prog.godebug = none) (started : os.Started) (noInit : C.prog.inits.idxOf? f = none) (hfn : C.prog.funcs[f]? = some fn)
    (witness : ∃ (w : World) (tape : Tape) (i : Input), w.os = os ∧ (w.forCall tape i).Shaped C.prog ∧ i.vars = [] ∧ Input.okWide C.prog (w.forCall tape i) .any w.heap.size f i ∧
      ((s.pre enc C.prog fn conds apart (w.forCall tape i).memory i.args ∧ X (w.forCall tape i).memory i.args) ∧ sizedMet enc C.prog fn (OpenSpec.ofChange s) apart (w.forCall tape i).memory i.args) ∧ a.holds C.prog (lone (Frame.enter C.prog f i.args .normal) [] (w.forCall tape i)))
    (contract : ∀ (W : World) (base : Nat) (args : Array Value) (ds gs : List (DataW H)) (before : List MemPlace),
      (∀ (j : Nat) t v, fn.params[j]? = some t → args[j]? = some v → Value.okWide C.prog W .any base t v) →
      DataW.Whole enc C.prog fn.params.toList s.vars apart W args.toList ds gs before →
      conds.all (PathCond.test C.prog ⟨fn.params.toList, ds, s.plain.varTypes C.prog, gs⟩) = true →
      (DataW.weightsEach C.prog (fn.params.toList ++ s.plain.varTypes C.prog) (ds ++ gs)).all (· ≤ reachBytes) = true → X W args → W.ShapedOpen C.prog →
      a.holds C.prog (lone (Frame.enter C.prog f args .normal) [] W) →
      Calls C.prog f args W fun e W' => ∃ v, e = .returned v ∧ s.post enc C.prog fn apart fresh handsOn again W args v W') :
    ReturnsInHanded a C os f .any (fun w args => (s.pre enc C.prog fn conds apart w args ∧ X w args) ∧ sizedMet enc C.prog fn (OpenSpec.ofChange s) apart w args) (s.post enc C.prog fn apart fresh handsOn again) := by
  refine returnsInHanded_of_calls own started noInit witness ?_
  intro w tape i _ hsh _ hok hpre hholds
  obtain ⟨_, _, _, fn', hfn', _, _, _, _, hval⟩ := hok
  have e : fn' = fn := Option.some.inj (hfn'.symm.trans hfn)
  subst e
  obtain ⟨⟨⟨ds, gs, before, hw, hc⟩, hx⟩, hz⟩ := hpre
  have hw' := DataW.Whole.of_heap (w' := w.forCall tape i) (by rfl) hw
  refine (contract (w.forCall tape i) w.heap.size i.args ds gs before hval hw' hc (hz.weights hw) (hX _ _ _ (by rfl) hx) hsh hholds).mono fun e W' ⟨v, he, hp⟩ => ?_
  subst he
  exact ChangeSpec.post_blind hp

/-- the library's variable holds some number -/
theorem Proofs.YthnkgifbbemhfaaGreatDoor.maxLen_of {W : World} (h : W.ShapedOpen Tryz.prog) : ∃ m, W.cell? ⟨2, 0, none⟩ = some (.int .i64 m) :=
  Go.Proofs.cell_of_shapedOpen_int (zero := #[.int .i64 0]) (t := 3) h (of_decide_eq_true (by kernel_rfl)) (by kernel_rfl) rfl (by kernel_rfl) (by kernel_rfl) Tryz.underlying3

end Go
end
