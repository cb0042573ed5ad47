/- SectionPartial: the walk. -/
import Derived.Test.YtgkbigbekmkobaaDoorK3
import Derived.Deep.DeepFit
set_option linter.unusedVariables false
set_option linter.unusedSimpArgs false
namespace Go.Proofs.YtgkbigbekmkobaaDoor
open Go.RowKit

theorem pieceK_len (s : List UInt8) (p n : Int) (k : Nat) : (pieceK s p n k).length ≤ k := by
  unfold pieceK
  split
  · simp
  · simp; omega

set_option maxRecDepth 100000 in
set_option maxHeartbeats 2000000 in
theorem sectionPartial_list (s : List UInt8) (p n m : Int) (w : World) (hm : w.cell? ⟨13, 0, none⟩ = some (.int .i64 m)) :
    Calls Tryd.prog 3 #[.string (bs s), .int .i64 p, .int .i64 n] w fun e w' => e = .returned (.bool true) ∧ Below w.heap.size w w' := by
  obtain ⟨i0, hi, hz0, hz1, hz2⟩ := info_parts info_u8
  have HM := Lib.hid hm
  clear hm
  by_cases hl : s.length ≤ 20000
  case neg =>
    have d0 : decide ((20000 : Int) < s.length) = true := by simp; omega
    clear hl
    go_enter Tryd.func3, Tryd.ntmps3
    go_wp2_with (go_at_call 6; refine (alive_any m _ HM.out).mono ?_; rintro e w1 ⟨rfl, hb1⟩)
    go_ret
    exact ⟨rfl, hb1⟩
  have d0 : decide ((20000 : Int) < s.length) = false := by simp; omega
  go_enter Tryd.func3, Tryd.ntmps3
  go_wp2_with (go_at_call 6; refine (alive_any m _ HM.out).mono ?_; rintro e w1 ⟨rfl, hb1⟩)
  clear d0
  have hz1' := hb1.size
  go_loopw [7, 17] (fun v i wr => ∃ k : Nat, k ≤ s.length ∧ i = .int .i64 k ∧ OwnB wr w.heap.size v (pieceK s p n k) ∧ Below w.heap.size w wr) (fun _ i _ => s.length - (intOf i).toNat)
  case atStart => exact ⟨0, Nat.zero_le _, rfl, by rw [pieceK_zero]; exact World.ownsRow_lit w1 #[] 0 hz1' (by decide) rfl, hb1.alloc hz1' _⟩
  case round =>
    obtain ⟨k, hk, rfl, hown, hB⟩ := hrel
    have hzr := hB.size
    by_cases hlt : k < s.length
    · obtain ⟨c, hc⟩ : ∃ c, s[k]? = some c := ⟨_, List.getElem?_eq_getElem hlt⟩
      have hx : (bs s)[k]'(by rw [bs_size]; exact hlt) = c := (List.getElem?_eq_some_iff.1 hc).2
      have hsucc := pieceK_succ s p n hc
      have hlt' : (k : Int) < s.length := by omega
      have hpl := pieceK_len s p n k
      clear hc
      by_cases hin : 0 ≤ p ∧ p ≤ k ∧ (k : Int) - p < n
      · rw [if_pos hin] at hsucc
        obtain ⟨h1, h2, h3⟩ := hin
        have HS := Lib.hid hsucc
        clear hsucc
        go_wp2_with (at_builtin; refine wpList_append_own _ rfl _ _ 23 rfl w.heap.size 5 i0 (.int .u8 0) 1 1 Tryd.underlying23 hi hz0 hz1 hz2 rfl (by decide) _ _ _ rfl (World.ownsRow.alloc hown _) ⟨wr.heap.size, 0, none⟩ 1 1 [.int .u8 ((c.toNat : Nat) : Int)] rfl rfl ?c1 ?c2 ?c3 ?c4 ?c5 ?_)
        case c1 =>
          intro j u hj
          match j, hj with
          | 0, hj => simp at hj; subst hj; simp [Addr.add]
        case c2 => intro u hu; simp at hu; subst hu; rfl
        case c3 => unfold maxLen; omega
        case c4 => omega
        case c5 => simp; omega
        intro v' w2 hown' hgrow _
        have R1 : OwnB w2 w.heap.size v' (pieceK s p n (k + 1)) := by
          rw [HS.out]
          exact OwnB.step hown'
        have R2 : Below w.heap.size w w2 := (hB.alloc hzr _).grown hgrow (by simp; omega) (fun k e => (World.ownsRow.lt hown k e).1)
        clear hown' hgrow hown
        go_wp2
        go_roundw
        case rel => exact ⟨k + 1, by omega, by go_num, R1, R2⟩
        case measure => simp [intOf]; omega
      · rw [if_neg hin, List.append_nil] at hsucc
        rw [← hsucc] at hown
        have ho' : p < 0 ∨ (0 ≤ p ∧ (k : Int) < p) ∨ (0 ≤ p ∧ p ≤ (k : Int) ∧ n ≤ (k : Int) - p) := by omega
        clear hin hsucc hx
        rcases ho' with h1 | ⟨h1, h2⟩ | ⟨h1, h2, h3⟩
        all_goals
          go_wp2
          go_roundw
          case rel => exact ⟨k + 1, by omega, by go_num, hown, hB⟩
          case measure => simp [intOf]; omega
    · obtain rfl : k = s.length := by omega
      rw [pieceK_all] at hown
      have hp : ∀ W : World, Calls Tryd.prog 7 #[.string (bs s), .int .i64 p, .int .i64 n] W fun e w' => e = .returned (.string (bs (partialL s p n))) ∧ w' = W := fun W => (partial_any s p n W (by omega)).mono fun _ _ ⟨h, k⟩ => ⟨h, k.symm⟩
      have hv := hown.bytes
      obtain ⟨R, hR⟩ : ∃ R, partialL s p n = R := ⟨_, rfl⟩
      rw [hR] at hp hv hown
      clear hR
      have hcv : ∀ q, (convert 23 9 u7).run Tryd.prog (wr.drewN q) = .ok (.string (bs R)) (wr.drewN q) := fun q => convert_bytes hv
      have hcv0 := convert_bytes hv
      obtain ⟨va, vn, vc, rfl, _⟩ := OwnB.form hown
      clear hown hv
      go_wp2
      go_quiet ((go_at_call 7; exact Calls.quiet_of_same (hp _)))
      go_wp2
      go_ret
      exact ⟨rfl, below_drewN hB _⟩

theorem sectionPartial_any (s : ByteArray) (p n : Int) (w : World) (_ : s.size ≤ 9223372036854775807) (m : Int) (hm : w.cell? ⟨13, 0, none⟩ = some (.int .i64 m)) :
    Calls Tryd.prog 3 #[.string s, .int .i64 p, .int .i64 n] w fun e w' => e = .returned (.bool true) ∧ Below w.heap.size w w' :=
  sectionPartial_list s.data.toList p n m w hm

end Go.Proofs.YtgkbigbekmkobaaDoor
