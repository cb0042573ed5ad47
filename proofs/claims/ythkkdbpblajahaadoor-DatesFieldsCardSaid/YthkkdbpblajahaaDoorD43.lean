/- The reference's words. -/
import Derived.Test.YthkkdbpblajahaaDoorD40
import Derived.LoopTactic
set_option linter.unusedVariables false
set_option linter.unusedSimpArgs false
namespace Go.Proofs.YthkkdbpblajahaaDoor
open Go.RowKit Go

/-- a row of strings at an address -/
def SV (w : World) (v : Value) (ls : List (List UInt8)) : Prop := ∃ b o c, v = .slice (some ⟨b, o, none⟩) ls.length c ∧ ls.length ≤ c ∧ b < w.heap.size ∧ ∀ j, j < ls.length → w.cell? ⟨b, o + j, none⟩ = some (.string (bs (ls.getD j [])))
theorem SV.below {w w' : World} {v : Value} {ls : List (List UInt8)} (h : SV w v ls) (hb : Below w.heap.size w w') : SV w' v ls := by
  obtain ⟨b, o, c, h1, h2, h3, h4⟩ := h
  exact ⟨b, o, c, h1, h2, Nat.lt_of_lt_of_le h3 hb.size, fun j hj => (hb.cell (p := ⟨b, o + j, none⟩) h3).trans (h4 j hj)⟩
theorem OwnS.sv {w : World} {B : Nat} {v : Value} {ls : List (List UInt8)} (h : OwnS w B v ls) (hv : v ≠ .slice none 0 0) : SV w v ls := by
  rcases h.strs with ⟨h0, _⟩ | ⟨b, o, c, h1, h2, h3, h4⟩
  · exact absurd h0 hv
  · exact ⟨b, o, c, h1, h2, h3, h4⟩

theorem wordsGo_cons (cur : List UInt8) (c : UInt8) (l : List UInt8) : wordsGo cur (c :: l) = if blankC c = true then (if cur = [] then wordsGo [] l else cur :: wordsGo [] l) else wordsGo (cur ++ [c]) l := rfl
theorem wordsGo_end (cur : List UInt8) : wordsGo cur [] = if cur = [] then [] else [cur] := rfl

/-- words handed back -/
def WordsP (B : Nat) (ls : List (List UInt8)) (w : World) (e : Ending) (w' : World) : Prop := ∃ v, e = .returned v ∧ OwnS w' B v ls ∧ v ≠ .slice none 0 0 ∧ Below B w w'

set_option maxRecDepth 100000 in
set_option maxHeartbeats 4000000 in
theorem refWords_any (l : List UInt8) (w : World) (hl : l.length ≤ 1099511627776) : Calls Tryd.prog 76 #[.string (bs l)] w (WordsP w.heap.size (wordsGo [] l) w) := by
  obtain ⟨i0, hi, hz0, hz1, hz2⟩ := info_parts info_str
  obtain ⟨W, hW⟩ : ∃ W, wordsGo [] l = W := ⟨_, rfl⟩
  rw [hW]
  have HW := Lib.hid hW
  clear hW
  have o0 : OwnS (w.alloc (.cells #[] 9)) w.heap.size (.slice (some ⟨w.heap.size, 0, none⟩) 0 0) [] := World.ownsRow_lit w #[] 0 (Nat.le_refl _) (by decide) rfl
  have b0 : Below w.heap.size w (w.alloc (.cells #[] 9)) := (Below.refl _ _).alloc (Nat.le_refl _) _
  go_enter Tryd.func76, Tryd.ntmps76
  go_wp2
  go_loopw [3, 4, 5] (fun out cw i wr => ∃ (k : Nat) (ls : List (List UInt8)) (cur : List UInt8), k ≤ l.length + 1 ∧ i = .int .i64 k ∧ OwnS wr w.heap.size out ls ∧ out ≠ .slice none 0 0 ∧ cw = .string (bs cur) ∧ cur.length ≤ k ∧ ls.length ≤ k ∧ Hid (if k ≤ l.length then ls ++ wordsGo cur (l.drop k) = W else ls = W) ∧ Below w.heap.size w wr) (fun _ _ i _ => l.length + 1 - (intOf i).toNat)
  case atStart => exact ⟨0, [], [], Nat.zero_le _, rfl, o0, by simp, rfl, Nat.le_refl _, Nat.le_refl _, by show (if _ then _ else _); rw [if_pos (Nat.zero_le _), List.drop_zero, HW.out]; rfl, b0⟩
  case round =>
    obtain ⟨k, ls, cur, hk, rfl, hown, hnn, rfl, hcl, hlk, hg, hB⟩ := hrel
    have hzr := hB.size
    by_cases hkl : k ≤ l.length
    · have hg2 := hg.out
      rw [if_pos hkl] at hg2
      have hle : (k : Int) ≤ l.length := by omega
      -- what the blank (or the end) leaves
      have key : (k = l.length ∨ ∃ h : k < l.length, blankC l[k] = true) → Hid (if k + 1 ≤ l.length then (ls ++ (if cur = [] then [] else [cur])) ++ wordsGo [] (l.drop (k + 1)) = W else ls ++ (if cur = [] then [] else [cur]) = W) := by
        intro h
        show (if _ then _ else _)
        rcases h with h | ⟨h, hb⟩
        · rw [if_neg (by omega)]
          rw [List.drop_eq_nil_of_le (by omega), wordsGo_end] at hg2
          exact hg2
        · rw [if_pos (by omega)]
          rw [List.drop_eq_getElem_cons h, wordsGo_cons, if_pos hb] at hg2
          rw [← hg2]
          split <;> simp
      by_cases hend : k = l.length ∨ ∃ h : k < l.length, blankC l[k] = true
      · have HK := key hend
        have hcase : (k : Int) = l.length ∨ (((k : Int) == l.length) = false ∧ ∃ h : k < (bs l).size, (((bs l)[k].toNat : Int) == 32) = true ∨ (((bs l)[k].toNat : Int) == 32) = false ∧ (((bs l)[k].toNat : Int) == 9) = true) := by
          rcases hend with h | ⟨h, hb⟩
          · left; omega
          · right
            refine ⟨by rw [beq_eq_false_iff_ne]; omega, by rw [bs_size]; exact h, ?_⟩
            have e : (bs l)[k]'(by rw [bs_size]; exact h) = l[k] := rfl
            rw [e]
            unfold blankC at hb
            by_cases h32 : l[k] = 32
            · left; rw [h32]; rfl
            · right
              have h9 : l[k] = 9 := by simpa [h32] using hb
              rw [h9]; exact ⟨rfl, rfl⟩
        clear key hend hg hg2
        by_cases hcur : cur = []
        · subst hcur
          simp only [if_true, List.append_nil] at HK
          rcases hcase with hkk | ⟨hn, h, h32 | ⟨h32, h9⟩⟩
          all_goals
            have hlt' : (0 : Int) ≤ k := by omega
            go_wp2
            go_roundw
            case rel => exact ⟨k + 1, ls, [], by omega, by go_num, hown, hnn, rfl, by simp, by omega, HK, hB⟩
            case measure => simp [intOf]; omega
        · rw [if_neg hcur] at HK
          have hne : (cur == []) = false := by simpa using hcur
          rcases hcase with hkk | ⟨hn, h, h32 | ⟨h32, h9⟩⟩
          all_goals
            go_wp2_with (at_builtin; refine wpList_append_own _ rfl _ _ 68 rfl w.heap.size 9 i0 (.string ⟨#[]⟩) 1 16 Tryd.underlying68 hi hz0 hz1 hz2 rfl (by decide) _ _ _ rfl (World.ownsRow.alloc hown _) ⟨wr.heap.size, 0, none⟩ 1 1 [.string (bs cur)] rfl rfl ?e1 ?e2 ?e3 ?e4 ?e5 ?_)
            case e1 =>
              intro j u hj
              match j, hj with
              | 0, hj => simp at hj; subst hj; simp [Addr.add]
            case e2 => intro u hu; simp at hu; subst hu; rfl
            case e3 => unfold maxLen; omega
            case e4 => omega
            case e5 => simp; omega
            intro v' w2 hown' hgrow hnil
            have R1 : OwnS w2 w.heap.size v' (ls ++ [cur]) := OwnS.step hown'
            have R2 : Below w.heap.size w w2 := (hB.alloc hzr _).grown hgrow (by simp; omega) (fun k e => (World.ownsRow.lt hown k e).1)
            have R3 : v' ≠ .slice none 0 0 := by first | exact hnil | exact fun e => absurd (hnil.1 e).2 (by decide)
            clear hown' hgrow hnil
            go_wp2
            go_roundw
            case rel => exact ⟨k + 1, ls ++ [cur], [], by omega, by go_num, R1, R3, rfl, by simp, by simp; omega, HK, R2⟩
            case measure => simp [intOf]; omega
      · have hlt : k < l.length := by
          rcases Nat.lt_or_ge k l.length with h | h
          · exact h
          · exact absurd (.inl (by omega)) hend
        have hb : blankC l[k] = false := by
          rw [Bool.eq_false_iff]; intro h; exact hend (.inr ⟨hlt, h⟩)
        have hm := run_mid l k (k + 1) (by omega) (by omega)
        rw [show k + 1 - k = 1 by omega, List.drop_eq_getElem_cons hlt, List.take_succ_cons, List.take_zero, show ((k + 1 : Nat) : Int) = (k : Int) + 1 by simp] at hm
        obtain ⟨c, hc⟩ : ∃ c, (bs l)[k]'(by rw [bs_size]; exact hlt) = c := ⟨_, rfl⟩
        have hc' : l[k] = c := hc
        rw [hc'] at hm hb
        have hg3 : Hid (if k + 1 ≤ l.length then ls ++ wordsGo (cur ++ [c]) (l.drop (k + 1)) = W else ls = W) := by
          show (if _ then _ else _)
          rw [if_pos (by omega)]
          rw [List.drop_eq_getElem_cons hlt, wordsGo_cons, hc', if_neg (by simp [hb])] at hg2
          exact hg2
        have h32 : ((c.toNat : Int) == 32) = false := by
          rw [beq_eq_false_iff_ne]; intro e
          have : c = 32 := UInt8.toNat_inj.1 (by rw [show (32 : UInt8).toNat = 32 from rfl]; omega)
          subst this; cases hb
        have h9 : ((c.toNat : Int) == 9) = false := by
          rw [beq_eq_false_iff_ne]; intro e
          have : c = 9 := UInt8.toNat_inj.1 (by rw [show (9 : UInt8).toNat = 9 from rfl]; omega)
          subst this; cases hb
        have hn : ((k : Int) == l.length) = false := by rw [beq_eq_false_iff_ne]; omega
        have hlt' : (k : Int) < l.length := by omega
        have hsz : ¬ 9223372036854775807 < cur.length + 1 := by omega
        clear key hend hg hg2 hc' hb
        go_wp2
        go_roundw
        case rel => exact ⟨k + 1, ls, cur ++ [c], by omega, by go_num, hown, hnn, by rw [bs_append], by simp; omega, by omega, hg3, hB⟩
        case measure => simp [intOf]; omega
    · obtain rfl : k = l.length + 1 := by omega
      have hg2 := hg.out
      rw [if_neg hkl] at hg2
      subst hg2
      have hgt : ¬ (((l.length + 1 : Nat) : Int) ≤ l.length) := by omega
      clear hg
      go_wp2
      go_ret
      exact ⟨_, rfl, hown, hnn, hB⟩

end Go.Proofs.YthkkdbpblajahaaDoor
