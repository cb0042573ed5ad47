/- The reference's trim, Same. -/
import Derived.Test.YtplmekfcnggigaaDoorH9
import Derived.Test.YtplmekfcnggigaaDoorH2
import Derived.Lib.SlTrimSet
set_option linter.unusedVariables false
set_option linter.unusedSimpArgs false
namespace Go.Proofs.YtplmekfcnggigaaDoor
open Go.RowKit

def dropL (l : List UInt8) : List UInt8 := l.dropWhile blankB
def dropR (l : List UInt8) : List UInt8 := (l.reverse.dropWhile blankB).reverse

theorem dropR_nil : dropR [] = [] := rfl
theorem dropR_snoc (l : List UInt8) (c : UInt8) : dropR (l ++ [c]) = if blankB c = true then dropR l else l ++ [c] := by
  unfold dropR
  rw [List.reverse_append, List.reverse_singleton, List.singleton_append, List.dropWhile_cons]
  by_cases h : blankB c = true
  · rw [if_pos h, if_pos h]
  · rw [if_neg h, if_neg h]; simp
theorem dropR_cons (c : UInt8) (t : List UInt8) : dropR (c :: t) = if dropR t = [] then (if blankB c = true then [] else [c]) else c :: dropR t := by
  unfold dropR
  rw [List.reverse_cons, List.dropWhile_append]
  by_cases h : (t.reverse.dropWhile blankB).isEmpty = true
  · rw [if_pos h]
    have h2 : t.reverse.dropWhile blankB = [] := by simpa using h
    rw [h2, List.reverse_nil, if_pos rfl, List.dropWhile_cons]
    by_cases hc : blankB c = true
    · rw [if_pos hc, if_pos hc]; rfl
    · rw [if_neg hc, if_neg hc]; rfl
  · rw [if_neg h]
    have h2 : (t.reverse.dropWhile blankB).reverse ≠ [] := by
      intro e
      exact h (by simpa using e)
    rw [if_neg h2]; simp
theorem drop_comm (l : List UInt8) : dropL (dropR l) = dropR (dropL l) := by
  induction l with
  | nil => rfl
  | cons c t ih =>
    have hL : dropL (c :: t) = if blankB c = true then dropL t else c :: t := by unfold dropL; rw [List.dropWhile_cons]
    rw [dropR_cons, hL]
    by_cases hc : blankB c = true
    · rw [if_pos hc, if_pos hc]
      by_cases h0 : dropR t = []
      · rw [if_pos h0, ← ih, h0]
      · rw [if_neg h0, ← ih]
        show dropL (c :: dropR t) = _
        unfold dropL; rw [List.dropWhile_cons, if_pos hc]
    · rw [if_neg hc, if_neg hc, dropR_cons, if_neg hc]
      by_cases h0 : dropR t = []
      · rw [if_pos h0]; unfold dropL; rw [List.dropWhile_cons, if_neg hc]
      · rw [if_neg h0]; unfold dropL; rw [List.dropWhile_cons, if_neg hc]
theorem trimB_eq (l : List UInt8) : trimB l = dropR (dropL l) := by
  rw [← drop_comm]
  have hf : (fun c : UInt8 => ([32, 9] : List UInt8).contains c) = blankB := by
    funext c
    by_cases h1 : c = 32 <;> by_cases h2 : c = 9 <;> simp [blankB, h1, h2]
  unfold trimB Lib.trimS Lib.trimLeftS Lib.trimRightS dropL dropR
  rw [hf]

set_option maxRecDepth 100000 in
set_option maxHeartbeats 1000000 in
theorem refTrim_any (l : List UInt8) (w : World) (hl : l.length ≤ 1099511627776) : Calls Tryd.prog 31 #[.string (bs l)] w fun e w' => e = .returned (.string (bs (trimB l))) ∧ w = w' := by
  obtain ⟨T, hT⟩ : ∃ T, trimB l = T := ⟨_, rfl⟩
  rw [hT]
  rw [trimB_eq] at hT
  have HT := Lib.hid hT
  clear hT
  go_enter Tryd.func31, Tryd.ntmps31
  go_wp2
  go_loop [0] (fun s => ∃ r : List UInt8, r.length ≤ l.length ∧ s = .string (bs r) ∧ Hid (dropR (dropL r) = T)) (fun s => match s with | .string x => x.size | _ => 0)
  case atStart => exact ⟨l, Nat.le_refl _, rfl, HT.out⟩
  case round =>
    obtain ⟨r, hr, rfl, hd⟩ := hrel
    by_cases hb : goesB r = true
    · obtain ⟨c, t, rfl⟩ : ∃ c t, r = c :: t := by
        cases r with
        | nil => cases hb
        | cons c t => exact ⟨c, t, rfl⟩
      have hx : (bs (c :: t))[0]'(by rw [bs_size]; simp) = c := rfl
      have hz : (bs (c :: t)).extract 1 (t.length + 1) = bs t := bs_drop (c :: t) 1 (t.length + 1) (by simp)
      have hd2 : Hid (dropR (dropL t) = T) := by
        show _ = _
        rw [← hd.out]
        unfold dropL
        rw [List.dropWhile_cons, if_pos (show blankB c = true from hb)]
      have HB : Hid (blankB c = true) := hb
      simp only [List.length_cons] at hr
      clear hb hd
      go_wp2_with fail
      refine (blank_any c _).mono ?_
      rintro e w' ⟨rfl, rfl⟩
      rw [HB.out]
      go_wp2
      go_round
      case rel => exact ⟨t, by omega, rfl, hd2⟩
      case measure => simp [bs_size]
    · have hdl : dropL r = r := by
        cases r with
        | nil => rfl
        | cons c t => unfold dropL; rw [List.dropWhile_cons, if_neg (show ¬ blankB c = true from hb)]
      have hd2 := hd.out
      rw [hdl] at hd2
      have HD2 := Lib.hid hd2
      clear hd hd2 hdl
      obtain ⟨r0, hr0⟩ : ∃ r0, r = r0 := ⟨_, rfl⟩
      have fin : ∀ (x : List UInt8), Hid (dropR x = T) → x.length ≤ l.length → True := fun _ _ _ => trivial
      cases r with
      | nil =>
        have hT2 : T = [] := by rw [← HD2.out]; rfl
        subst hT2
        clear fin hr0 hb
        go_wp2
        go_loop [0] (fun s => s = .string (bs [])) (fun _ => 0)
        case atStart => rfl
        case round =>
          obtain rfl := hrel
          go_wp2
          go_ret
          exact ⟨rfl, rfl⟩
      | cons c t =>
        have hx : (bs (c :: t))[0]'(by rw [bs_size]; simp) = c := rfl
        have HB : Hid (blankB c = false) := by show _ = _; simpa [goesB] using hb
        clear fin hr0 hb
        go_wp2_with fail
        refine (blank_any c _).mono ?_
        rintro e w' ⟨rfl, rfl⟩
        rw [HB.out]
        clear hx
        go_wp2
        go_loop [0] (fun s => ∃ r : List UInt8, r.length ≤ l.length ∧ s = .string (bs r) ∧ Hid (dropR r = T)) (fun s => match s with | .string x => x.size | _ => 0)
        case atStart => exact ⟨c :: t, hr, rfl, HD2.out⟩
        case round =>
          obtain ⟨r, hr, rfl, hd⟩ := hrel
          rcases List.eq_nil_or_concat r with rfl | ⟨r1, d, rfl⟩
          · have hT2 : T = [] := by rw [← hd.out]; rfl
            subst hT2
            go_wp2
            go_ret
            exact ⟨rfl, rfl⟩
          · rw [List.concat_eq_append] at *
            have hy : (bs (r1 ++ [d]))[r1.length]'(by rw [bs_size]; simp) = d := by
              show (r1 ++ [d])[r1.length]'(by simp) = d
              simp
            have hz : (bs (r1 ++ [d])).extract 0 r1.length = bs r1 := by rw [bs_take]; simp
            have hd2 := hd.out
            rw [dropR_snoc] at hd2
            simp only [List.length_append, List.length_singleton] at hr
            by_cases hb : blankB d = true
            · rw [if_pos hb] at hd2
              have HB2 := Lib.hid hb
              have HD3 := Lib.hid hd2
              clear hb hd hd2
              go_wp2_with fail
              refine (blank_any d _).mono ?_
              rintro e w' ⟨rfl, rfl⟩
              rw [HB2.out]
              go_wp2
              go_round
              case rel => exact ⟨r1, by omega, rfl, HD3.out⟩
              case measure => simp [bs_size]
            · rw [if_neg hb] at hd2
              have HB2 : Hid (blankB d = false) := by show _ = _; simpa using hb
              have HD3 := Lib.hid hd2
              clear hb hd hd2
              go_wp2_with fail
              refine (blank_any d _).mono ?_
              rintro e w' ⟨rfl, rfl⟩
              rw [HB2.out]
              go_wp2
              go_ret
              exact ⟨by rw [← HD3.out]; rfl, rfl⟩

set_option maxRecDepth 100000 in
set_option maxHeartbeats 1000000 in
theorem sameF_yes (va vb : Value) (B1 B2 : Nat) (fs : List Fld) (w : World) (ha : OwnF w B1 va fs) (hb : OwnF w B2 vb fs) (hl : fs.length ≤ 1099511627776) : Calls Tryd.prog 13 #[va, vb] w fun e w' => e = .returned (.bool true) ∧ Below w.heap.size w w' := by
  by_cases h0 : fs = []
  · subst h0
    obtain ⟨a, ca, rfl⟩ : ∃ a ca, va = .slice a 0 ca := by
      rcases ha.parts with ⟨rfl, _⟩ | ⟨g, cap, rfl, _⟩
      · exact ⟨_, _, rfl⟩
      · exact ⟨_, _, rfl⟩
    obtain ⟨b, cb, rfl⟩ : ∃ a ca, vb = .slice a 0 ca := by
      rcases hb.parts with ⟨rfl, _⟩ | ⟨g, cap, rfl, _⟩
      · exact ⟨_, _, rfl⟩
      · exact ⟨_, _, rfl⟩
    clear ha hb
    go_enter Tryd.func13, Tryd.ntmps13
    go_wp2
    go_loopw [5, 13] (fun _ c wr => c = .int .i64 0 ∧ wr = w) (fun _ _ _ => 0)
    case atStart => exact ⟨rfl, rfl⟩
    case round =>
      obtain ⟨rfl, rfl⟩ := hrel
      go_wp2
      go_ret
      exact ⟨rfl, Below.refl _ _⟩
  · obtain ⟨ga, ca, rfl, _, gal⟩ := ha.parts.resolve_left (fun h => h0 h.2)
    obtain ⟨gb, cb, rfl, _, gbl⟩ := hb.parts.resolve_left (fun h => h0 h.2)
    clear h0
    go_enter Tryd.func13, Tryd.ntmps13
    go_wp2
    go_loopw [5, 13] (fun _ c wr => ∃ k : Nat, k ≤ fs.length ∧ c = .int .i64 k ∧ Below w.heap.size w wr) (fun _ c _ => fs.length - (intOf c).toNat)
    case atStart => exact ⟨0, Nat.zero_le _, rfl, Below.refl _ _⟩
    case round =>
      obtain ⟨k, hk, rfl, hB⟩ := hrel
      by_cases hlt : k < fs.length
      · obtain ⟨f, hf⟩ : ∃ f, fs[k]? = some f := ⟨_, List.getElem?_eq_getElem hlt⟩
        have oa := ha.below hB
        have ob := hb.below hB
        have a0 : _ = some (Value.string (bs f.name)) := oa.cell k 0 f hf (by decide)
        have a1 : _ = some (Value.string (bs f.value)) := oa.cell k 1 f hf (by decide)
        have a2 : _ = some (Value.int .i64 f.pos) := oa.cell k 2 f hf (by decide)
        have a3 : _ = some (Value.int .i64 f.fin) := oa.cell k 3 f hf (by decide)
        have b0 : _ = some (Value.string (bs f.name)) := ob.cell k 0 f hf (by decide)
        have b1 : _ = some (Value.string (bs f.value)) := ob.cell k 1 f hf (by decide)
        have b2 : _ = some (Value.int .i64 f.pos) := ob.cell k 2 f hf (by decide)
        have b3 : _ = some (Value.int .i64 f.fin) := ob.cell k 3 f hf (by decide)
        rw [Nat.add_zero] at a0 b0
        have hlt' : (k : Int) < fs.length := by omega
        clear hf
        go_wp2
        go_quiet (fail)
        go_wp2
        go_roundw
        case rel => exact ⟨k + 1, by omega, by go_num, below_drewN hB _⟩
        case measure => simp [intOf]; omega
      · obtain rfl : k = fs.length := by omega
        go_wp2
        go_ret
        exact ⟨rfl, hB⟩

end Go.Proofs.YtplmekfcnggigaaDoor
