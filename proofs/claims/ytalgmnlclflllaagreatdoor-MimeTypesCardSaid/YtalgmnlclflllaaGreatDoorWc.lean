/- Texts of one walk, merged: XIa XIb XAp XIc XIn XM1 XBx XLs XSs. -/
import Derived.Test.YtalgmnlclflllaaGreatDoorWb
import Derived.BigRegion
import Derived.Deep.DeepFit
import Derived.WalkLawsBesides
import Derived.Lib.Hide
import Derived.Lib.SlTrimSet
import Derived.Shelf.Strings.SlTrimAscii
import Derived.Test.YtalgmnlclflllaaGreatDoorShelf
import Derived.Lib.IndexLaws
import Derived.LoopTactic
import Derived.Outline
import Derived.Deep.DeepCutAuto
import Derived.Deep.CutBlock
import Derived.Deep.Cut
import Derived.Deep.CutRange
import Derived.Laws.AppendOwn
import Derived.Laws.OwnMore
import Derived.Deep.AppendLies
import Derived.Deep.RegionLaw
import Derived.RangeFuncNested
import Derived.RangeFuncBound
import Derived.RangeFuncCalls
import Derived.RangeFuncLeaves
import Derived.RangeFuncBox
import Derived.Shelf.Abstract
import Derived.Shelf.RegionOpen
import Derived.OwnWalkIn
import Derived.TacticsInMore
import Derived.LoopNIn
import Derived.LoopIn
import Derived.Maps.AppendAt
import Derived.Sort.LoopGhostIn

/- mime's scanner: skip, is, must. -/
set_option linter.unusedVariables false
set_option linter.unusedSimpArgs false
section
set_option linter.unusedVariables false
set_option linter.unusedSimpArgs false
namespace Go.Proofs.YtalgmnlclflllaaGreatDoor
open Go.RowKit Go

/-- the scanner at block b stands before the text l -/
def ScM (w : World) (b : Nat) (l : List UInt8) : Prop := w.heap[b]? = some (.cells #[.string (bs l)] 79 (0, 0))
theorem scm_cells {w : World} {b : Nat} {l : List UInt8} (hk : ScM w b l) : w.cell? ⟨b, 0, none⟩ = some (.string (bs l)) ∧ w.frozen? ⟨b, 0, none⟩ = false := by
  unfold ScM at hk
  refine ⟨?_, ?_⟩ <;> simp [World.cell?, World.frozen?, hk]
theorem scm_set {w : World} {b : Nat} {l : List UInt8} (hk : ScM w b l) (l' : List UInt8) : ScM (w.setCell ⟨b, 0, none⟩ (.string (bs l'))) b l' := by
  unfold ScM at *
  simp [World.setCell, Array.getElem?_modify, hk]
theorem scm_lt {w : World} {b : Nat} {l : List UInt8} (hk : ScM w b l) : b < w.heap.size := (Array.getElem?_eq_some_iff.1 hk).1
theorem scm_below {w w' : World} {b : Nat} {l : List UInt8} (hk : ScM w b l) (h : Below w.heap.size w w') : ScM w' b l := (h.block b (scm_lt hk)).trans hk
/-- the scanner's panic -/
def badM : Ending := .panicked [{ v := .iface 75 (.agg #[]), recovered := false }]

theorem skip_lib (l : List UInt8) : Lib.trimLeftS l [32, 9] = skipB l := by
  unfold Lib.trimLeftS skipB
  congr 1
  funext c
  unfold blankB
  simp [List.contains, List.elem]
  cases c == 32 <;> cases c == 9 <;> rfl
theorem trimLeft_any (l : List UInt8) (w : World) : Calls Tryz.prog 73 #[.string (bs l), .string (bs [32, 9])] w fun e w' => e = .returned (.string (bs (skipB l))) ∧ Below w.heap.size w w' := by
  rw [← skip_lib]
  exact Any.strings_TrimLeft_laid Tryz.lays161 (by kernel_rfl) (bs l) (bs [32, 9]) w (by decide) (ascii_of_all (by decide))

theorem mustM_yes (p : Value) (w : World) : Calls Tryz.prog 50 #[p, .bool true] w fun e w' => e = .returned (.tuple #[]) ∧ w' = w := by
  go_enter Tryz.func50, Tryz.ntmps50
  go_wp2
  go_end0
  exact ⟨rfl, rfl⟩
theorem mustM_no (p : Value) (w : World) : Calls Tryz.prog 50 #[p, .bool false] w fun e w' => e = badM ∧ w' = w := by
  go_enter Tryz.func50, Tryz.ntmps50
  go_wp2
  exact ⟨rfl, rfl, rfl⟩

set_option maxRecDepth 100000 in
theorem skipM_any (b : Nat) (l : List UInt8) (w : World) (hk : ScM w b l) : Calls Tryz.prog 53 #[.pointer (some ⟨b, 0, none⟩)] w fun e w' => e = .returned (.tuple #[]) ∧ ScM w' b (skipB l) ∧ Upd b w w' := by
  obtain ⟨c0, f0⟩ := scm_cells hk
  go_enter Tryz.func53, Tryz.ntmps53
  go_wp2_with fail
  refine (trimLeft_any l _).mono ?_
  rintro e w1 ⟨rfl, hb1⟩
  have hk1 := scm_below hk hb1
  obtain ⟨c1, f1⟩ := scm_cells hk1
  go_wp2
  go_end0
  exact ⟨rfl, scm_set hk1 _, (Upd.of_below hb1).setCell 0 _⟩

theorem num_ne {c d : UInt8} (h : d ≠ c) : ((d.toNat : Int) != (c.toNat : Int)) = true ∧ ((d.toNat : Int) == (c.toNat : Int)) = false := by
  have : ¬ (d.toNat : Int) = c.toNat := fun e => h (UInt8.toNat_inj.1 (by omega))
  simp [this]

set_option maxRecDepth 100000 in
theorem isM_any (b : Nat) (c : UInt8) (l : List UInt8) (w : World) (hk : ScM w b l) (hl : l.length ≤ 1099511627776) : Calls Tryz.prog 51 #[.pointer (some ⟨b, 0, none⟩), .int .u8 (c.toNat : Int)] w fun e w' => e = .returned (.bool (isC c l).1) ∧ ScM w' b (isC c l).2 ∧ Upd b w w' := by
  have hsl := skipB_len l
  unfold isC
  obtain ⟨m, hm⟩ : ∃ m, skipB l = m := ⟨_, rfl⟩
  have HM := Lib.hid hm
  rw [hm] at hsl ⊢
  clear hm
  cases m with
  | nil =>
    show Calls _ _ _ _ fun e w' => e = .returned (.bool false) ∧ ScM w' b [] ∧ _
    go_enter Tryz.func51, Tryz.ntmps51
    go_wp2_with fail
    refine (skipM_any b l _ hk).mono ?_
    rintro e w1 ⟨rfl, hk1, hu1⟩
    rw [HM.out] at hk1
    obtain ⟨c1, f1⟩ := scm_cells hk1
    go_wp2
    go_ret
    exact ⟨rfl, hk1, hu1⟩
  | cons d r =>
    by_cases hd : d = c
    · subst hd
      show Calls _ _ _ _ fun e w' => e = .returned (.bool (if d = d then (true, r) else (false, d :: r)).1) ∧ ScM w' b (if d = d then (true, r) else (false, d :: r)).2 ∧ _
      rw [if_pos rfl]
      have hx : (bs (d :: r))[0]'(by rw [bs_size]; simp) = d := rfl
      have hsl1 := fun w0 => run_from (d :: r) 1 (by simp) w0
      have hn0 : (0 : Int) < (d :: r).length := by simp only [List.length_cons]; omega
      have e1 : ((d :: r) == []) = false := rfl
      go_enter Tryz.func51, Tryz.ntmps51
      go_wp2_with fail
      refine (skipM_any b l _ hk).mono ?_
      rintro e w1 ⟨rfl, hk1, hu1⟩
      rw [HM.out] at hk1
      obtain ⟨c1, f1⟩ := scm_cells hk1
      go_wp2
      go_ret
      exact ⟨rfl, by rw [bs_drop (d :: r) 1 _ (by simp)]; exact scm_set hk1 r, hu1.setCell 0 _⟩
    · show Calls _ _ _ _ fun e w' => e = .returned (.bool (if d = c then (true, r) else (false, d :: r)).1) ∧ ScM w' b (if d = c then (true, r) else (false, d :: r)).2 ∧ _
      rw [if_neg hd]
      obtain ⟨n1, n2⟩ := num_ne hd
      have hx : (bs (d :: r))[0]'(by rw [bs_size]; simp) = d := rfl
      have hn0 : (0 : Int) < (d :: r).length := by simp only [List.length_cons]; omega
      have e1 : ((d :: r) == []) = false := rfl
      clear hd
      go_enter Tryz.func51, Tryz.ntmps51
      go_wp2_with fail
      refine (skipM_any b l _ hk).mono ?_
      rintro e w1 ⟨rfl, hk1, hu1⟩
      rw [HM.out] at hk1
      obtain ⟨c1, f1⟩ := scm_cells hk1
      go_wp2
      go_ret
      exact ⟨rfl, hk1, hu1⟩

end Go.Proofs.YtalgmnlclflllaaGreatDoor
end

/- mime's scanner: token. -/
set_option linter.unusedVariables false
set_option linter.unusedSimpArgs false
section
namespace Go.Proofs.YtalgmnlclflllaaGreatDoor
open Go.RowKit Go

def specT : List UInt8 := [40, 41, 60, 62, 64, 44, 59, 58, 92, 34, 47, 91, 93, 63, 61]
theorem spec_idx (c : UInt8) : decide (Lib.indexByte specT c < 0) = !specT.contains c := by
  by_cases h : specT.contains c = true
  · rw [h]
    have hm : c ∈ specT := by simpa using h
    have hge := Lib.indexByte_ge specT c
    by_cases h1 : Lib.indexByte specT c = -1
    · obtain ⟨k, hk⟩ := List.mem_iff_getElem?.1 hm
      exact absurd hk (Lib.indexByte_none h1 k)
    · simp; omega
  · have hf : specT.contains c = false := Bool.eq_false_iff.mpr h
    rw [hf]
    have hge := Lib.indexByte_ge specT c
    have : Lib.indexByte specT c < 0 := by
      rcases Int.lt_or_le (Lib.indexByte specT c) 0 with h1 | h1
      · exact h1
      · obtain ⟨o, ho⟩ := Int.eq_ofNat_of_zero_le h1
        have := (Lib.indexByte_some ho).1
        exact absurd (List.contains_iff_mem.2 (List.mem_of_getElem? this)) h
    simp [this]
theorem tokC_num (c : UInt8) : tokC c = (decide (32 < (c.toNat : Int)) && decide ((c.toNat : Int) < 127) && decide (Lib.indexByte specT c < 0)) := by
  rw [spec_idx]
  have a1 : decide (33 ≤ c.toNat) = decide (32 < (c.toNat : Int)) := decide_eq_decide.2 (by omega)
  have a2 : decide (c.toNat ≤ 126) = decide ((c.toNat : Int) < 127) := decide_eq_decide.2 (by omega)
  unfold tokC
  rw [a1, a2]
  rfl
set_option maxRecDepth 100000 in
theorem idx_any (c : UInt8) (w : World) : Calls Tryz.prog 72 #[.string ⟨#[40, 41, 60, 62, 64, 44, 59, 58, 92, 34, 47, 91, 93, 63, 61]⟩, .int .u8 (c.toNat : Int)] w fun e w' => e = .returned (.int .i64 (Lib.indexByte specT c)) ∧ w = w' := by
  refine (Tryz.strings_IndexByte ⟨#[40, 41, 60, 62, 64, 44, 59, 58, 92, 34, 47, 91, 93, 63, 61]⟩ (c.toNat : Int) w).mono fun _ _ ⟨h, k⟩ => ⟨?_, k.symm⟩
  have e1 : ∀ d : UInt8, d = c → (Ending.returned (.int .i64 (Lib.indexByte specT d)) = .returned (.int .i64 (Lib.indexByte specT c))) := by rintro _ rfl; rfl
  rw [h]
  exact e1 _ (by simp)

/-- what a reading leaves behind: the text read, or the panic -/
def ReadM (b : Nat) (w : World) (R : Option (List UInt8 × List UInt8)) (e : Ending) (w' : World) : Prop :=
  (∃ t r, R = some (t, r) ∧ e = .returned (.string (bs t)) ∧ ScM w' b r ∧ Upd b w w') ∨ (R = none ∧ e = badM ∧ Upd b w w')

theorem tok_stop : ∀ (m : List UInt8) (k : Nat), (m.take k).all tokC = true → (∀ c, m[k]? = some c → tokC c = false) → m.takeWhile tokC = m.take k ∧ m.dropWhile tokC = m.drop k
  | [], k, _, _ => by simp
  | c :: m, 0, _, h => by
    have := h c rfl
    simp [List.takeWhile_cons, List.dropWhile_cons, this]
  | c :: m, k + 1, ha, h => by
    rw [List.take_succ_cons, List.all_cons, Bool.and_eq_true] at ha
    obtain ⟨h1, h2⟩ := tok_stop m k ha.2 (fun d hd => h d (by simpa using hd))
    simp [List.takeWhile_cons, List.dropWhile_cons, ha.1, h1, h2]

set_option maxRecDepth 100000 in
set_option maxHeartbeats 4000000 in
theorem token_any (b : Nat) (l : List UInt8) (w : World) (hk : ScM w b l) (hl : l.length ≤ 1099511627776) : Calls Tryz.prog 49 #[.pointer (some ⟨b, 0, none⟩)] w (ReadM b w (tokP l)) := by
  have hsl := skipB_len l
  obtain ⟨R, hR⟩ : ∃ R, tokP l = R := ⟨_, rfl⟩
  rw [hR]
  unfold tokP at hR
  obtain ⟨m, hm⟩ : ∃ m, skipB l = m := ⟨_, rfl⟩
  have HM := Lib.hid hm
  rw [hm] at hsl hR
  have HR := Lib.hid hR
  have hml : m.length ≤ 1099511627776 := by omega
  clear hm hR
  go_enter Tryz.func49, Tryz.ntmps49
  go_wp2_with fail
  refine (skipM_any b l _ hk).mono ?_
  rintro e w1 ⟨rfl, hk1, hu1⟩
  rw [HM.out] at hk1
  obtain ⟨c1, f1⟩ := scm_cells hk1
  clear hk
  go_wp2
  go_loopw [3] (fun n wr => ∃ k : Nat, k ≤ m.length ∧ n = .int .i64 k ∧ Hid ((m.take k).all tokC = true) ∧ wr = w1) (fun n _ => m.length - (intOf n).toNat)
  case atStart => exact ⟨0, Nat.zero_le _, rfl, by show _ = _; simp, rfl⟩
  case round =>
    obtain ⟨k, hkm, rfl, ha, hW⟩ := hrel
    subst hW
    have key : k < m.length → ∃ c, m[k]? = some c := fun h => ⟨_, List.getElem?_eq_getElem h⟩
    by_cases hlt : k < m.length ∧ (∃ c, m[k]? = some c ∧ tokC c = true)
    · obtain ⟨hlt, c, hc', htc⟩ := hlt
      obtain ⟨hlt0, hc0⟩ := List.getElem?_eq_some_iff.1 hc'
      have hc : (bs m)[k]'(by rw [bs_size]; exact hlt) = c := hc0
      have hlt' : (k : Int) < m.length := by omega
      have ht2 := htc
      rw [tokC_num] at ht2
      simp only [Bool.and_eq_true, decide_eq_true_eq] at ht2
      obtain ⟨⟨t1, t2⟩, t3⟩ := ht2
      have ha2 : Hid ((m.take (k + 1)).all tokC = true) := by
        show _ = _
        rw [List.take_add_one, hc', List.all_append, ha.out]
        simp [htc]
      have HIX := Lib.hid (fun w0 => idx_any c w0)
      clear ha hc' htc hc0 key
      go_wp2_with (go_at_call 72; refine (HIX.out _).mono ?_; rintro e w' ⟨rfl, rfl⟩)
      go_roundw
      case rel => exact ⟨k + 1, by omega, by go_num, ha2, by trivial⟩
      case measure => simp [intOf]; omega
    · have hend : m.takeWhile tokC = m.take k ∧ m.dropWhile tokC = m.drop k := tok_stop m k ha.out (fun c hc => by
        cases ht : tokC c with
        | false => rfl
        | true => exact absurd ⟨(List.getElem?_eq_some_iff.1 hc).1, c, hc, ht⟩ hlt)
      have hr := HR.out
      rw [hend.1, hend.2] at hr
      have hreason : m.length ≤ k ∨ ∃ c, m[k]? = some c ∧ ((c.toNat : Int) ≤ 32 ∨ (32 < (c.toNat : Int) ∧ 127 ≤ (c.toNat : Int)) ∨ (32 < (c.toNat : Int) ∧ (c.toNat : Int) < 127 ∧ 0 ≤ Lib.indexByte specT c)) := by
        rcases Nat.lt_or_ge k m.length with h | h
        · obtain ⟨c, hc⟩ := key h
          refine .inr ⟨c, hc, ?_⟩
          have : ¬ tokC c = true := fun ht => hlt ⟨h, c, hc, ht⟩
          rw [tokC_num] at this
          simp only [Bool.and_eq_true, decide_eq_true_eq] at this
          omega
        · exact .inl h
      clear hend hlt key ha HR
      have htk := run_to m k hkm
      have hfr := run_from m k hkm
      by_cases hk0 : k = 0
      · rw [if_pos (by rw [hk0]; simp)] at hr
        have hdec : decide (0 < k) = false := by simp; exact hk0
        have HDEC := Lib.hid hdec
        have HPOST : ∀ e w', e = badM → Upd b w w' → ReadM b w R e w' := fun e w' h1 h2 => .inr ⟨hr.symm, h1, h2⟩
        have HP := Lib.hid HPOST
        clear HPOST hr htk hfr hk0 hdec
        rcases hreason with h | ⟨c, hc, h | ⟨h, h2⟩ | ⟨h, h2, h3⟩⟩
        · have hi : (m.length : Int) ≤ k := by omega
          clear h
          go_wp2_with fail
          rw [HDEC.out]
          refine (mustM_no _ _).mono ?_
          rintro e w' ⟨rfl, rfl⟩
          unfold badM
          go_wp2
          exact ⟨rfl, HP.out _ _ rfl hu1⟩
        · obtain ⟨hlt0, hc0⟩ := List.getElem?_eq_some_iff.1 hc
          have hc1 : (bs m)[k]'(by rw [bs_size]; exact hlt0) = c := hc0
          have hi : (k : Int) < m.length := by omega
          clear hc hc0
          go_wp2_with fail
          rw [HDEC.out]
          refine (mustM_no _ _).mono ?_
          rintro e w' ⟨rfl, rfl⟩
          unfold badM
          go_wp2
          exact ⟨rfl, HP.out _ _ rfl hu1⟩
        · obtain ⟨hlt0, hc0⟩ := List.getElem?_eq_some_iff.1 hc
          have hc1 : (bs m)[k]'(by rw [bs_size]; exact hlt0) = c := hc0
          have hi : (k : Int) < m.length := by omega
          clear hc hc0
          go_wp2_with fail
          rw [HDEC.out]
          refine (mustM_no _ _).mono ?_
          rintro e w' ⟨rfl, rfl⟩
          unfold badM
          go_wp2
          exact ⟨rfl, HP.out _ _ rfl hu1⟩
        · obtain ⟨hlt0, hc0⟩ := List.getElem?_eq_some_iff.1 hc
          have hc1 : (bs m)[k]'(by rw [bs_size]; exact hlt0) = c := hc0
          have hi : (k : Int) < m.length := by omega
          have HIX := Lib.hid (fun w0 => idx_any c w0)
          clear hc hc0
          go_wp2_with (go_at_call 72; refine (HIX.out _).mono ?_; rintro e w' ⟨rfl, rfl⟩)
          rw [HDEC.out]
          refine (mustM_no _ _).mono ?_
          rintro e w' ⟨rfl, rfl⟩
          unfold badM
          go_wp2
          exact ⟨rfl, HP.out _ _ rfl hu1⟩
      · rw [if_neg (fun h => hk0 (by
          have := congrArg List.length h
          rw [List.length_take] at this
          simp at this
          rcases this with h1 | h1
          · exact h1
          · subst h1; simp at hkm; exact hkm))] at hr
        have hdec : decide (0 < k) = true := by simp; omega
        have HDEC := Lib.hid hdec
        have HPOST : ∀ w', ScM w' b (m.drop k) → Upd b w w' → ReadM b w R (.returned (.string (bs (m.take k)))) w' := fun w' h1 h2 => .inl ⟨_, _, hr.symm, rfl, h1, h2⟩
        have HP := Lib.hid HPOST
        clear HPOST hr hk0 hdec
        rcases hreason with h | ⟨c, hc, h | ⟨h, h2⟩ | ⟨h, h2, h3⟩⟩
        · have hi : (m.length : Int) ≤ k := by omega
          clear h
          go_wp2_with fail
          rw [HDEC.out]
          refine (mustM_yes _ _).mono ?_
          rintro e w' ⟨rfl, hW⟩
          subst hW
          go_wp2
          go_ret
          exact HP.out _ (scm_set hk1 _) (hu1.setCell 0 _)
        · obtain ⟨hlt0, hc0⟩ := List.getElem?_eq_some_iff.1 hc
          have hc1 : (bs m)[k]'(by rw [bs_size]; exact hlt0) = c := hc0
          have hi : (k : Int) < m.length := by omega
          clear hc hc0
          go_wp2_with fail
          rw [HDEC.out]
          refine (mustM_yes _ _).mono ?_
          rintro e w' ⟨rfl, hW⟩
          subst hW
          go_wp2
          go_ret
          exact HP.out _ (scm_set hk1 _) (hu1.setCell 0 _)
        · obtain ⟨hlt0, hc0⟩ := List.getElem?_eq_some_iff.1 hc
          have hc1 : (bs m)[k]'(by rw [bs_size]; exact hlt0) = c := hc0
          have hi : (k : Int) < m.length := by omega
          clear hc hc0
          go_wp2_with fail
          rw [HDEC.out]
          refine (mustM_yes _ _).mono ?_
          rintro e w' ⟨rfl, hW⟩
          subst hW
          go_wp2
          go_ret
          exact HP.out _ (scm_set hk1 _) (hu1.setCell 0 _)
        · obtain ⟨hlt0, hc0⟩ := List.getElem?_eq_some_iff.1 hc
          have hc1 : (bs m)[k]'(by rw [bs_size]; exact hlt0) = c := hc0
          have hi : (k : Int) < m.length := by omega
          have HIX := Lib.hid (fun w0 => idx_any c w0)
          clear hc hc0
          go_wp2_with (go_at_call 72; refine (HIX.out _).mono ?_; rintro e w' ⟨rfl, rfl⟩)
          rw [HDEC.out]
          refine (mustM_yes _ _).mono ?_
          rintro e w' ⟨rfl, hW⟩
          subst hW
          go_wp2
          go_ret
          exact HP.out _ (scm_set hk1 _) (hu1.setCell 0 _)

end Go.Proofs.YtalgmnlclflllaaGreatDoor
end

/- Appending one byte to a slice that the call itself made. -/
set_option linter.unusedVariables false
set_option linter.unusedSimpArgs false
section
namespace Go.Proofs.YtalgmnlclflllaaGreatDoor
open Go.RowKit

/-- w' is w but for the row of v and new blocks -/
structure AppTo (B : Nat) (v : Value) (w w' : World) : Prop where
  below : ∀ m₀ u, m₀ ≤ B → Below m₀ u w → Below m₀ u w'
  block : ∀ k, k < w.heap.size → some k ≠ v.ownBlock → w'.heap[k]? = w.heap[k]?
  size : w.heap.size ≤ w'.heap.size

theorem AppTo.mk' {B : Nat} {v : Value} {w w' : World} {e : TypeId} {size n : Nat} {xs : List Value} {o : Obj} (hown : w.ownsRow B e size v n xs) (hB : B ≤ w.heap.size) (hg : (w.alloc o).grownBy w' v.ownBlock) : AppTo B v w w' where
  below m₀ u hm hb := (hb.alloc (Nat.le_trans hm hB) o).grown hg (by simp; omega) (fun k e => Nat.le_trans hm (World.ownsRow.lt hown k e).1)
  block k hk hne := (hg.block k (by simp; omega) hne).trans (Below.heap_alloc _ _ _ hk)
  size := by have := hg.size; simp at this; omega

theorem app_byte {ops : Array Oper} {rest : List Oper} {o : Oper} {a : Act} {Q : Exit → Act → World → Prop} (w : World) (B : Nat) (v : Value) (l : List UInt8) (c : UInt8) (n : Int) (hn : (c.toNat : Int) = n) (hown : OwnB w B v l) (hB : B ≤ w.heap.size) (hl : l.length < 1099511627776)
    (hgd : o.guard = none) (s x : Operand) (ho : o.op = .call { callee := .builtin .append, args := #[s, x], argTypes := #[68, 68] }) (hs : a.eval s = v) (hx : a.eval x = .slice (some ⟨w.heap.size, 0, none⟩) 1 1)
    (h : ∀ v' w', OwnB w' B v' (l ++ [c]) → AppTo B v w w' → wpList Tryz.prog ops Q rest (a.put o.dst v') w') :
    wpList Tryz.prog ops Q (o :: rest) a (w.alloc (.cells #[.int .u8 n] 5)) := by
  subst hn
  obtain ⟨i0, hi, hz0, hz1, hz2⟩ := info_parts info_u8
  refine wpList_append_own _ hgd s x 68 ho B 5 i0 (.int .u8 0) 1 1 Tryz.underlying68 hi hz0 hz1 hz2 rfl (by decide) v l.length (cellsB l) hs (World.ownsRow.alloc hown _) ⟨w.heap.size, 0, none⟩ 1 1 [.int .u8 c.toNat] hx rfl ?_ ?_ ?_ ?_ ?_ ?_
  · intro j u hj
    match j, hj with
    | 0, hj => simp at hj; subst hj; simp [Addr.add]
  · intro u hu; simp at hu; subst hu; rfl
  · unfold maxLen; omega
  · omega
  · simp; omega
  · intro v' w' h1 h2 _
    exact h v' w' (OwnB.step h1) (AppTo.mk' hown hB h2)

end Go.Proofs.YtalgmnlclflllaaGreatDoor
end

/- mime's scanner: value. -/
set_option linter.unusedVariables false
set_option linter.unusedSimpArgs false
section
namespace Go.Proofs.YtalgmnlclflllaaGreatDoor
open Go.RowKit Go

theorem num_of {c d : UInt8} {n : Int} (hn : (d.toNat : Int) = n) (h : c ≠ d) : ((c.toNat : Int) == n) = false ∧ ((c.toNat : Int) != n) = true := by
  subst hn
  have : ¬ (c.toNat : Int) = d.toNat := fun e => h (UInt8.toNat_inj.1 (by omega))
  simp [this]
theorem at_drop {p : List UInt8} {k : Nat} {c : UInt8} (h : p[k]? = some c) : p.drop k = c :: p.drop (k + 1) := by
  obtain ⟨hlt, he⟩ := List.getElem?_eq_some_iff.1 h
  rw [List.drop_eq_getElem_cons hlt, he]
theorem qGo_nil (acc : List UInt8) : qGo acc [] = none := rfl
theorem qGo_end (acc r : List UInt8) : qGo acc (34 :: r) = some (acc, r) := by cases r <;> rfl
theorem qGo_esc1 (acc : List UInt8) : qGo acc [92] = none := rfl
theorem qGo_esc (acc r : List UInt8) (d : UInt8) : qGo acc (92 :: d :: r) = qGo (acc ++ [d]) r := by rw [qGo]; rfl
theorem qGo_other (acc r : List UInt8) (c : UInt8) (h1 : c ≠ 34) (h2 : c ≠ 92) : qGo acc (c :: r) = qGo (acc ++ [c]) r := by
  cases r with
  | nil => unfold qGo; rw [if_neg h1, if_neg h2]; rfl
  | cons d r => rw [qGo, if_neg h1, if_neg h2]
theorem ReadM.pre {b : Nat} {w w1 : World} {R : Option (List UInt8 × List UInt8)} {e : Ending} {w' : World} (hu : Upd b w w1) (h : ReadM b w1 R e w') : ReadM b w R e w' := by
  rcases h with ⟨t, r, h1, h2, h3, h4⟩ | ⟨h1, h2, h3⟩
  · exact .inl ⟨t, r, h1, h2, h3, hu.trans h4⟩
  · exact .inr ⟨h1, h2, hu.trans h3⟩
theorem Upd.below_trans {b : Nat} {u v w : World} (h : Upd b u v) (k : Below v.heap.size v w) : Upd b u w := h.trans (.of_below k)

theorem OwnB.set {w : World} {B b : Nat} {v : Value} {l : List UInt8} (h : OwnB w B v l) (hb : b < B) (i : Nat) (x : Value) : OwnB (w.setCell ⟨b, i, none⟩ x) B v l := by
  refine ⟨h.1, ?_⟩
  rcases h.2 with h0 | ⟨g, cap, cur, rfl, h1, h2, r⟩
  · exact .inl h0
  · exact .inr ⟨g, cap, cur, rfl, h1, (Below.heap_setCell _ _ _ _ (by simp; omega)).trans h2, r⟩

set_option maxRecDepth 100000 in
set_option maxHeartbeats 4000000 in
theorem value_any (b : Nat) (l : List UInt8) (w : World) (hk : ScM w b l) (hl : l.length ≤ 1099511627776) : Calls Tryz.prog 52 #[.pointer (some ⟨b, 0, none⟩)] w (ReadM b w (valP l)) := by
  have hsl : (isC 34 l).2.length ≤ l.length := by
    have h1 := skipB_len l
    unfold isC
    split
    · simp
    · rename_i d r h
      rw [h] at h1
      simp at h1
      split <;> simp <;> omega
  unfold valP
  obtain ⟨P, hP⟩ : ∃ P, isC 34 l = P := ⟨_, rfl⟩
  have HP := Lib.hid hP
  rw [hP] at hsl ⊢
  clear hP
  obtain ⟨x, n⟩ := P
  simp only at hsl ⊢
  cases x with
  | false =>
    rw [if_neg (by simp)]
    obtain ⟨R, hR⟩ : ∃ R, tokP n = R := ⟨_, rfl⟩
    have HR := Lib.hid hR
    rw [hR]
    clear hR
    go_enter Tryz.func52, Tryz.ntmps52
    go_wp2_with fail
    refine (isM_any b 34 l _ hk hl).mono ?_
    rintro e w1 ⟨rfl, hk1, hu1⟩
    rw [HP.out] at hk1 ⊢
    simp only at hk1 ⊢
    go_wp2_with fail
    refine (token_any b n _ hk1 (by omega)).mono ?_
    rintro e w2 h2
    rw [HR.out] at h2
    have h2 := h2.pre hu1
    rcases h2 with ⟨t, r, rfl, rfl, hk2, hu2⟩ | ⟨rfl, rfl, hu2⟩
    · go_wp2
      go_ret
      exact .inl ⟨t, r, rfl, rfl, hk2, hu2⟩
    · unfold badM
      go_wp2
      exact ⟨rfl, .inr ⟨rfl, rfl, hu2⟩⟩
  | true =>
    rw [if_pos rfl]
    obtain ⟨R, hR⟩ : ∃ R, qGo [] n = R := ⟨_, rfl⟩
    have HR := Lib.hid hR
    rw [hR]
    clear hR
    go_enter Tryz.func52, Tryz.ntmps52
    go_wp2_with fail
    refine (isM_any b 34 l _ hk hl).mono ?_
    rintro e w1 ⟨rfl, hk1, hu1⟩
    rw [HP.out] at hk1 ⊢
    simp only at hk1 ⊢
    have hb1 := scm_lt hk1
    clear hk
    go_wp2
    go_loopw [3, 4] (fun out i wr => ∃ (k : Nat) (acc : List UInt8), k ≤ n.length ∧ i = .int .i64 k ∧ OwnB wr w1.heap.size out acc ∧ Hid (qGo acc (n.drop k) = R) ∧ acc.length ≤ k ∧ Below w1.heap.size w1 wr) (fun _ i _ => n.length - (intOf i).toNat)
    case atStart => exact ⟨0, [], Nat.zero_le _, rfl, World.ownsRow_nil _ _ _ _, HR.out, Nat.le_refl _, Below.refl _ _⟩
    case round =>
      obtain ⟨k, acc, hkn, rfl, hown, hd, hal, hB⟩ := hrel
      have hzr := hB.size
      have hkr := scm_below hk1 hB
      obtain ⟨c0, f0⟩ := scm_cells hkr
      have hbr : b < wr.heap.size := by omega
      have hbn : ¬ b = wr.heap.size := by omega
      by_cases hlt : k < n.length
      · obtain ⟨c, hc⟩ : ∃ c, (bs n)[k]'(by rw [bs_size]; exact hlt) = c := ⟨_, rfl⟩
        have hc' : n[k]? = some c := List.getElem?_eq_some_iff.2 ⟨hlt, hc⟩
        have h1 := hd.out
        rw [at_drop hc'] at h1
        have hlt' : (k : Int) < n.length := by omega
        by_cases h34 : c = 34
        · subst h34
          rw [qGo_end] at h1
          subst h1
          have hcv := convert_bytes (hown.set hb1 0 (.string ((bs n).extract (k + 1) n.length))).bytes
          have HPO := Lib.hid (fun w' (h1 : ScM w' b (n.drop (k + 1))) (h2 : Upd b w w') => (Or.inl ⟨acc, n.drop (k + 1), rfl, rfl, h1, h2⟩ : ReadM b w (some (acc, n.drop (k + 1))) (.returned (.string (bs acc))) w'))
          clear hd hc'
          go_wp2
          go_ret
          exact HPO.out _ (by rw [bs_drop n (k + 1) _ (Nat.le_refl _)]; exact scm_set hkr _) ((hu1.below_trans hB).setCell 0 _)
        · obtain ⟨n1, n2⟩ := num_of (d := 34) (n := 34) rfl h34
          by_cases h92 : c = 92
          · subst h92
            by_cases hlast : k + 1 = n.length
            · rw [hlast, List.drop_length, qGo_esc1] at h1
              have hke : ¬ ((k : Int) + 1 < (n.length : Int)) := by omega
              have hkn2 : ¬ (k + 1 < n.length) := by omega
              have hdec : decide ((k : Int) + 1 < (n.length : Int)) = false := by simp; omega
              subst h1
              clear hd hc' h34
              go_wp2_with fail
              refine (mustM_no _ _).mono ?_
              rintro e w' ⟨rfl, hW⟩
              subst hW
              unfold badM
              go_wp2
              exact ⟨rfl, .inr ⟨rfl, rfl, hu1.below_trans hB⟩⟩
            · have hlt2 : k + 1 < n.length := by omega
              obtain ⟨y, hyc⟩ : ∃ y, (bs n)[k + 1]'(by rw [bs_size]; exact hlt2) = y := ⟨_, rfl⟩
              have hy : n[k + 1]? = some y := List.getElem?_eq_some_iff.2 ⟨hlt2, hyc⟩
              rw [at_drop hy, qGo_esc] at h1
              have H1 := Lib.hid h1
              have hke : ((k : Int) + 1 < (n.length : Int)) := by omega
              clear hd h1 hc' hy h34
              go_wp2_with fail
              refine (mustM_yes _ _).mono ?_
              rintro e w' ⟨rfl, hW⟩
              subst hW
              go_wp2_with (at_builtin; refine app_byte _ w1.heap.size _ _ y _ rfl hown hzr (by omega) rfl _ _ rfl rfl rfl ?_; intro v' w2 own2 ap2)
              go_roundw
              case rel => exact ⟨k + 2, acc ++ [y], by omega, by go_num, own2, H1.out, by simp; omega, ap2.below _ _ (Nat.le_refl _) hB⟩
              case measure => simp [intOf]; omega
          · obtain ⟨m1, m2⟩ := num_of (d := 92) (n := 92) rfl h92
            rw [qGo_other _ _ _ h34 h92] at h1
            have H1 := Lib.hid h1
            clear hd h1 hc' h34 h92
            go_wp2_with (at_builtin; refine app_byte _ w1.heap.size _ _ c _ rfl hown hzr (by omega) rfl _ _ rfl rfl rfl ?_; intro v' w2 own2 ap2)
            go_roundw
            case rel => exact ⟨k + 1, acc ++ [c], by omega, by go_num, own2, H1.out, by simp; omega, ap2.below _ _ (Nat.le_refl _) hB⟩
            case measure => simp [intOf]; omega
      · obtain rfl : k = n.length := by omega
        have h1 := hd.out
        rw [List.drop_length, qGo_nil] at h1
        subst h1
        clear hd
        go_wp2
        exact ⟨rfl, .inr ⟨rfl, rfl, hu1.below_trans hB⟩⟩

end Go.Proofs.YtalgmnlclflllaaGreatDoor
end

/- mime: where the line ahead ends; a text less the blanks at its end: the walks. -/
set_option linter.unusedVariables false
set_option linter.unusedSimpArgs false
section
namespace Go.Proofs.YtalgmnlclflllaaGreatDoor
open Go.RowKit Go

theorem trimE_lib (l : List UInt8) : Lib.trimRightS l [32, 9] = trimE l := by
  unfold Lib.trimRightS trimE
  congr 2
  funext c
  unfold blankB
  simp [List.contains, List.elem]
  cases c == 32 <;> cases c == 9 <;> rfl
theorem trimRight_any (l : List UInt8) (w : World) (hl : l.length ≤ 9223372036854775807) : Calls Tryz.prog 101 #[.string (bs l), .string (bs [32, 9])] w fun e w' => e = .returned (.string (bs (trimE l))) ∧ Below w.heap.size w w' := by
  rw [← trimE_lib]
  exact Any.strings_TrimRight_laid Tryz.lays162 (by kernel_rfl) (bs l) (bs [32, 9]) w (by rw [bs_size]; exact hl) (by decide) (ascii_of_all (by decide))
theorem hasSuffix_any (l p : List UInt8) (w : World) (hl : l.length ≤ 9223372036854775807) : Calls Tryz.prog 103 #[.string (bs l), .string (bs p)] w fun e w' => e = .returned (.bool (Lib.hasSuffix l p)) ∧ w = w' :=
  (Tryz.strings_HasSuffix (bs l) (bs p) w (by rw [bs_size]; exact hl)).mono fun _ _ ⟨h, k⟩ => ⟨h, k.symm⟩

set_option maxRecDepth 100000 in
theorem ahead_any (m : List UInt8) (p : Nat) (w : World) (hp : p ≤ m.length) (hm : m.length ≤ 1099511627776) : Calls Tryz.prog 104 #[.string (bs m), .int .i64 (p : Int)] w fun e w' => e = .returned (.int .i64 (aheadL m p)) ∧ w = w' := by
  match p, hp with
  | 0, hp =>
    show Calls _ _ #[.string (bs m), .int .i64 0] _ _
    go_enter Tryz.func104, Tryz.ntmps104
    go_wp2
    go_ret
    exact ⟨rfl, rfl⟩
  | q + 1, hp =>
    have hq : q < m.length := by omega
    obtain ⟨c, hc⟩ : ∃ c, (bs m)[q]'(by rw [bs_size]; exact hq) = c := ⟨_, rfl⟩
    have hc' : m[q]? = some c := List.getElem?_eq_some_iff.2 ⟨hq, hc⟩
    have hq' : (q : Int) < m.length := by omega
    by_cases h10 : c = 10
    · subst h10
      match q, hq, hc, hc', hq' with
      | 0, hq, hc, hc', hq' =>
        have e : aheadL m 1 = 0 := by unfold aheadL; simp [hc']
        show Calls _ _ #[.string (bs m), .int .i64 1] _ _
        rw [e]
        clear hc'
        go_enter Tryz.func104, Tryz.ntmps104
        go_wp2
        go_ret
        exact ⟨rfl, rfl⟩
      | r + 1, hq, hc, hc', hq' =>
        have hr : r < m.length := by omega
        obtain ⟨d, hd⟩ : ∃ d, (bs m)[r]'(by rw [bs_size]; exact hr) = d := ⟨_, rfl⟩
        have hd' : m[r]? = some d := List.getElem?_eq_some_iff.2 ⟨hr, hd⟩
        have hr' : (r : Int) < m.length := by omega
        by_cases h13 : d = 13
        · subst h13
          have e : aheadL m (r + 1 + 1) = r := by unfold aheadL; simp [hc', hd']
          rw [e]
          clear hc' hd'
          go_enter Tryz.func104, Tryz.ntmps104
          go_wp2
          go_ret
          exact ⟨by go_num, rfl⟩
        · have e : aheadL m (r + 1 + 1) = r + 1 := by unfold aheadL; simp [hc', hd', h13]
          obtain ⟨n1, n2⟩ := num_of (d := 13) (n := 13) rfl h13
          rw [e]
          clear hc' hd' h13
          go_enter Tryz.func104, Tryz.ntmps104
          go_wp2
          go_ret
          exact ⟨by go_num, rfl⟩
    · have e : aheadL m (q + 1) = q + 1 := by unfold aheadL; simp [hc', h10]
      obtain ⟨n1, n2⟩ := num_of (d := 10) (n := 10) rfl h10
      rw [e]
      clear hc' h10
      go_enter Tryz.func104, Tryz.ntmps104
      go_wp2
      go_ret
      exact ⟨by go_num, rfl⟩

end Go.Proofs.YtalgmnlclflllaaGreatDoor
end

/- mbox: rows of spans. -/
set_option linter.unusedVariables false
set_option linter.unusedSimpArgs false
section
namespace Go.Proofs.YtalgmnlclflllaaGreatDoor
open Go.RowKit

/-- where an entry stands -/
structure Sp where
  head : Nat
  body : Nat
  fin : Nat

theorem info_sp : (Tryz.prog.info? 62).map (fun i => (i.zero, i.size, i.bytes)) = some (some (.agg #[.int .i64 0, .int .i64 0, .int .i64 0]), 3, 24) := by kernel_rfl
def cellsSp1 (f : Sp) : List Value := [.int .i64 f.head, .int .i64 f.body, .int .i64 f.fin]
def cellsSp (fs : List Sp) : List Value := fs.flatMap cellsSp1
theorem cellsSp_length (fs : List Sp) : (cellsSp fs).length = fs.length * 3 := by
  induction fs with
  | nil => rfl
  | cons f r ih => simp only [cellsSp, List.flatMap_cons, List.length_append, List.length_cons] at ih ⊢; rw [ih]; simp [cellsSp1]; omega
theorem cellsSp_append (a b : List Sp) : cellsSp (a ++ b) = cellsSp a ++ cellsSp b := by simp [cellsSp]
theorem cellsSp_at (fs : List Sp) (i j : Nat) (f : Sp) (hf : fs[i]? = some f) (hj : j < 3) : (cellsSp fs)[i * 3 + j]? = (cellsSp1 f)[j]? := by
  induction fs generalizing i with
  | nil => simp at hf
  | cons x r ih =>
    have hc : cellsSp (x :: r) = cellsSp1 x ++ cellsSp r := rfl
    have hx : (cellsSp1 x).length = 3 := rfl
    rw [hc]
    cases i with
    | zero =>
      obtain rfl : x = f := by simpa using hf
      rw [Nat.zero_mul, Nat.zero_add, List.getElem?_append_left (by omega)]
    | succ i =>
      rw [List.getElem?_append_right (by omega), hx, show (i + 1) * 3 + j - 3 = i * 3 + j by omega]
      exact ih i (by simpa using hf)

/-- a slice of spans that the call itself made, in blocks from B on -/
def OwnP (w : World) (B : Nat) (v : Value) (fs : List Sp) : Prop := w.ownsRow B 62 3 v fs.length (cellsSp fs)
theorem OwnP.form {w : World} {B : Nat} {v : Value} {fs : List Sp} (h : OwnP w B v fs) : ∃ a n cap, v = .slice a n cap ∧ Hid (n = fs.length) := by
  rcases h.2 with ⟨rfl, h0⟩ | ⟨g, cap, cur, rfl, _⟩
  · exact ⟨none, 0, 0, rfl, h0.symm⟩
  · exact ⟨_, _, _, rfl, rfl⟩
theorem OwnP.parts {w : World} {B : Nat} {v : Value} {fs : List Sp} (h : OwnP w B v fs) : (v = .slice none 0 0 ∧ fs = []) ∨ ∃ g cap, v = .slice (some ⟨g, 0, none⟩) fs.length cap ∧ B ≤ g ∧ g < w.heap.size := by
  have hlt := World.ownsRow.lt h
  rcases h.2 with ⟨rfl, h0⟩ | ⟨g, cap, cur, rfl, hb, hg, hc, _, _, ht⟩
  · exact .inl ⟨rfl, List.eq_nil_of_length_eq_zero h0⟩
  · exact .inr ⟨g, cap, rfl, hb, (hlt g rfl).2⟩
theorem OwnP.later {w w' : World} {B : Nat} {v : Value} {fs : List Sp} (h : OwnP w B v fs) (hb : ∀ k, v.ownBlock = some k → w'.heap[k]? = w.heap[k]?) : OwnP w' B v fs := by
  refine ⟨h.1, ?_⟩
  rcases h.2 with h0 | ⟨g, cap, cur, rfl, h1, h2, r⟩
  · exact .inl h0
  · exact .inr ⟨g, cap, cur, rfl, h1, (hb g rfl).trans h2, r⟩
theorem OwnP.below {w w' : World} {B : Nat} {v : Value} {fs : List Sp} (h : OwnP w B v fs) (hb : Below w.heap.size w w') : OwnP w' B v fs :=
  h.later fun k hk => hb.block k (World.ownsRow.lt h k hk).2
theorem OwnP.step {w' : World} {B : Nat} {v' : Value} {ls : List Sp} {f : Sp} (h : w'.ownsRow B 62 3 v' (ls.length + 1) (cellsSp ls ++ cellsSp1 f)) : OwnP w' B v' (ls ++ [f]) := by
  unfold OwnP
  rw [List.length_append, cellsSp_append]
  simpa [cellsSp] using h
theorem OwnP.cell {w : World} {B g n cap : Nat} {fs : List Sp} (h : OwnP w B (.slice (some ⟨g, 0, none⟩) n cap) fs) (i j : Nat) (f : Sp) (hf : fs[i]? = some f) (hj : j < 3) : w.cell? ⟨g, i * 3 + j, none⟩ = (cellsSp1 f)[j]? := by
  have hc := cellsSp_at fs i j f hf hj
  have hlt : j < (cellsSp1 f).length := hj
  rw [List.getElem?_eq_getElem hlt] at hc ⊢
  have := World.ownsRow.cells h (g := g) rfl (i * 3 + j) _ hc
  rw [← this]
  by_cases h0 : i * 3 + j = 0
  · rw [h0]; rfl
  · have e : (⟨g, 0, none⟩ : Addr).add (i * 3 + j) = ⟨g, i * 3 + j, none⟩ := by
      unfold Addr.add
      rw [if_neg h0]
      simp
    rw [e]
theorem frozenP {w : World} {B g n cap : Nat} {fs : List Sp} (h : OwnP w B (.slice (some ⟨g, 0, none⟩) n cap) fs) (j : Nat) : w.frozen? ⟨g, j, none⟩ = false := by
  rcases h.2 with ⟨h', _⟩ | ⟨g', cap', cur, h', _, hg, _⟩
  · simp at h'
  · simp at h'
    obtain ⟨rfl, _⟩ := h'
    simp [World.frozen?, hg]
/-- the last span's end turned -/
theorem OwnP.turn {w : World} {B g cap : Nat} {fs0 : List Sp} {f : Sp} (h : OwnP w B (.slice (some ⟨g, 0, none⟩) (fs0.length + 1) cap) (fs0 ++ [f])) (q : Nat) :
    OwnP (w.setCell ⟨g, fs0.length * 3 + 2, none⟩ (.int .i64 q)) B (.slice (some ⟨g, 0, none⟩) (fs0.length + 1) cap) (fs0 ++ [{ f with fin := q }]) := by
  unfold OwnP at *
  have e1 : (fs0 ++ [f]).length = fs0.length + 1 := by simp
  have e2 : (fs0 ++ [{ f with fin := q }]).length = fs0.length + 1 := by simp
  rw [e1] at h
  rw [e2]
  have h1 := (World.ownsRow.stored h (fs0.length * 3 + 2) (.int .i64 q)).1
  have e3 : (cellsSp (fs0 ++ [f])).set (fs0.length * 3 + 2) (.int .i64 q) = cellsSp (fs0 ++ [{ f with fin := q }]) := by
    rw [cellsSp_append, cellsSp_append, List.set_append_right _ _ (by rw [cellsSp_length]; omega), cellsSp_length, show fs0.length * 3 + 2 - fs0.length * 3 = 2 by omega]
    simp [cellsSp, cellsSp1]
  rwa [e3] at h1

end Go.Proofs.YtalgmnlclflllaaGreatDoor
end

/- A range over a function whose iterator keeps its state in a cell of its own (strings.Lines): the statement's law. -/
set_option linter.unusedVariables false
set_option linter.unusedSimpArgs false
section
namespace Go.Proofs.YtalgmnlclflllaaGreatDoor
open Go.RowKit Go

variable {F : Fence} {n : Nat} {P : Program}

/-- J stays whatever becomes of block b. -/
def AbidesBox {β : Type} (b : Nat) (J : β → World → Prop) : Prop := ∀ s W W', J s W → W.grownBy W' (some b) → J s W'
theorem AbidesBox.and {β : Type} {b : Nat} {I I' : β → World → Prop} (h : AbidesBox b I) (h' : AbidesBox b I') : AbidesBox b (fun s W => I s W ∧ I' s W) := fun s W W' hs hg => ⟨h s W W' hs.1 hg, h' s W W' hs.2 hg⟩
theorem abidesBox_size {β : Type} {b k : Nat} : AbidesBox b (fun (_ : β) W => k ≤ W.heap.size) := fun _ _ _ h hg => Nat.le_trans h hg.size
theorem ownFrom_size {β : Type} {B k : Nat} : OwnFrom B (fun (_ : β) W => k ≤ W.heap.size) := fun _ _ _ _ h hg _ => Nat.le_trans h hg.size
theorem abidesBox_below {β : Type} {b n₀ : Nat} {w₀ : World} (hn : n₀ ≤ b) (hs : n₀ ≤ w₀.heap.size) : AbidesBox b (fun (_ : β) W => Below n₀ w₀ W) := fun _ _ _ h hg => h.grown hg (Nat.le_trans hs h.size) (fun k e => by cases e; exact hn)

/-- An iterator over xs whose state lies in block b, where v stands at the beginning: the caller's rounds leave b alone. -/
def SeqBox {α : Type} (F : Fence) (n : Nat) (P : Program) (g : Nat) (b : Nat) (t : TypeId) (enc : α → Value) (xs : List α) (v : Value) : Prop :=
  ∀ (l : Nat) (J Jx : List α → World → Prop) (W : World), AbidesBox b J → AbidesBox b Jx →
    (∀ pre x W1, pre ++ [x] <+: xs → J pre W1 → YieldAt F (n - 1) P l #[enc x] W1 fun e W' =>
      (e = .returned (.bool true) ∧ J (pre ++ [x]) W' ∧ W'.heap[b]? = W1.heap[b]?) ∨ (e = .returned (.bool false) ∧ Jx (pre ++ [x]) W')) →
    J [] W → Boxed W b t v →
    CallsIn F n P g #[.func (.yield l) #[] #[], .pointer (some ⟨b, 0, none⟩)] W fun e W' => (∃ v, e = .returned v) ∧ (J xs W' ∨ ∃ pre, pre <+: xs ∧ Jx pre W')

/-- How the body of a round may be left. -/
def boxPost {α : Type} (B b : Nat) (I : List α → World → Prop) (Ix : Code → List α → World → Prop) (xs : List α) (W : World) : Exit → Act → World → Prop
  | .normal, _, W' => KeepsFrom B W W' ∧ W'.heap[b]? = W.heap[b]? ∧ I xs W'
  | .ret, _, W' => KeepsFrom B W W' ∧ Ix .ret xs W'
  | .exit id, _, W' => KeepsFrom B W W' ∧ Ix (.exit id) xs W'
  | .goto t, _, W' => KeepsFrom B W W' ∧ Ix (.goto t) xs W'
  | .panic _, _, _ => False
  | .outgrown, _, _ => False

theorem heap_grown {W W' : World} {b k : Nat} {o : Obj} (hg : W.grownBy W' (some b)) (h : k ≠ b) (ho : W.heap[k]? = some o) : W'.heap[k]? = some o :=
  (hg.block k (Array.getElem?_eq_some_iff.1 ho).1 (fun e => h (Option.some.inj e))).trans ho

/-- **for x := range g { .. } where g's state lies in block b.** -/
theorem wpIn_rangeFunc_box {α : Type} {g : Operand} {ps : Array Tmp} {assign body : Code} {Q : Exit → Act → World → Prop} {a : Act} {w : World}
    (hro : F.round = none) (h1 : 1 ≤ n) {gf b : Nat} {t : TypeId} (hg : a.eval g = .func (.func gf) #[] #[.pointer (some ⟨b, 0, none⟩)]) (hFg : F.fn gf) (eg : ∀ args w, (callFunc gf args).run P w = .ok (.enter gf args) w)
    {enc : α → Value} {xs : List α} {v : Value} (hseq : SeqBox F (n - 1) P gf b t enc xs v) (hbox : Boxed w b t v) (hps : ps.size = 1)
    (I : List α → World → Prop) (Ix : Code → List α → World → Prop) (hI : OwnFrom w.heap.size I) (hIx : ∀ c, OwnFrom w.heap.size (Ix c)) (hIb : AbidesBox b I) (hIxb : ∀ c, AbidesBox b (Ix c)) (h0 : I [] w) (a₁ : α → Act)
    (hassign : ∀ (l : Nat) (x : α) (W : World) (K : Act → World → Prop), K (a₁ x) W →
      assign.wpIn (F.inRound l) (n - 1 - 1) P (Exit.then K (fun _ _ _ => False)) { tmps := (ps.zip #[enc x]).foldl (fun t (p, v) => t.setIfInBounds p v) a.tmps, defers := [] } W)
    (hbody : ∀ (l : Nat) (pre : List α) (x : α) (W : World), pre ++ [x] <+: xs → I pre W → body.wpIn (F.inRound l) (n - 1 - 1) P (boxPost w.heap.size b I Ix (pre ++ [x]) W) (a₁ x) W)
    (hdone : ∀ (D : Nat) (W : World), w.heap.size ≤ D → I xs W → W.heap[D]? = some (.deferred (some [])) → Q .normal { a with defers := { target := .collected D, args := #[] } :: a.defers } W)
    (hstop : ∀ (D : Nat) (c : Code) (pre : List α) (W : World), w.heap.size ≤ D → pre <+: xs → Ix c pre W → W.heap[D]? = some (.deferred (some [])) → c.wpIn F n P Q { a with defers := { target := .collected D, args := #[] } :: a.defers } W) :
    (Code.rangeFunc g ps assign body).wpIn F n P Q a w := by
  have hbl : b < w.heap.size := hbox.lt
  refine wpIn_rangeFunc ?_
  intro fn hfn
  rw [hro]
  obtain ⟨rec, hrec⟩ : ∃ rec : LoopState → Option Code → Loop, rec = fun st pe => { state := st, pending := pe, fn, tmps := a.tmps, params := ps, assign, body, defers := w.heap.size } := ⟨_, rfl⟩
  obtain ⟨W1, hW1⟩ : ∃ W1, (w.alloc (.deferred (some []))).alloc (.loop (rec .ready none)) = W1 := ⟨_, rfl⟩
  have hL1 : W1.heap[w.heap.size + 1]? = some (.loop (rec .ready none)) := by
    rw [← hW1]; have := World.alloc_heap_new (w.alloc (.deferred (some []))) (.loop (rec .ready none)); rwa [World.size_alloc] at this
  have hK1 : W1.heap[w.heap.size]? = some (.deferred (some [])) := by
    rw [← hW1]; exact (Below.heap_alloc _ _ _ (by simp)).trans (World.alloc_heap_new w _)
  have hI1 : I [] W1 := by rw [← hW1]; exact hI.alloc _ (hI.alloc _ h0)
  have hb1 : Boxed W1 b t v := by rw [← hW1]; exact (hbox.alloc _).alloc _
  refine ⟨w.heap.size + 1, [{ target := .collected w.heap.size, args := #[] }], W1, { target := .fn (.func gf) #[.pointer (some ⟨b, 0, none⟩)], args := #[.func (.yield (w.heap.size + 1)) #[] #[]] }, W1, gf,
    #[.func (.yield (w.heap.size + 1)) #[] #[]] ++ #[.pointer (some ⟨b, 0, none⟩)], W1, ?_, ?_, ?_, ?_, fun _ => h1, ?_⟩
  · rw [← hW1, hrec]; exact run_enterLoop_outer _ _ _ _ _
  · simp only [resolve, hg]
    simp [go_sem]
  · intro f' hf'; simp [Target.leads] at hf'; subst hf'; exact hFg
  · simp [invoke, go_sem, eg]
  · refine (hseq (w.heap.size + 1)
      (fun pre W => I pre W ∧ W.heap[w.heap.size + 1]? = some (.loop (rec .ready none)) ∧ W.heap[w.heap.size]? = some (.deferred (some [])))
      (fun pre W => ∃ c, Ix c pre W ∧ W.heap[w.heap.size + 1]? = some (.loop (rec .done (some c))) ∧ W.heap[w.heap.size]? = some (.deferred (some [])))
      W1 (fun s A u hs hg => ⟨hIb _ _ _ hs.1 hg, heap_grown hg (by omega) hs.2.1, heap_grown hg (by omega) hs.2.2⟩)
      (fun s A u hs hg => by
        obtain ⟨c, hc, hl, hk⟩ := hs
        exact ⟨c, hIxb _ _ _ _ hc hg, heap_grown hg (by omega) hl, heap_grown hg (by omega) hk⟩)
      ?_ ⟨hI1, hL1, hK1⟩ hb1).mono ?_
    · rintro pre x W hpre ⟨hi, hl, hk⟩
      have hlt : w.heap.size + 1 < W.heap.size := (Array.getElem?_eq_some_iff.1 hl).1
      have hy := run_yield (P := P) (args := #[enc x]) hl (by rw [hrec]; exact hps.symm)
      rw [hrec] at hy
      refine ⟨fn, _, assign, body, hy, roundIn_of_wpIn hfn (hassign _ x W _ ⟨_, run_beginRound hl (by rw [hrec]), ?_⟩)⟩
      have hl2 : (W.putObj (w.heap.size + 1) (.loop { rec .ready none with state := .busy })).heap[w.heap.size + 1]? = some (.loop { rec .ready none with state := .busy }) := World.putObj_heap_same hlt
      have hk2 : (W.putObj (w.heap.size + 1) (.loop { rec .ready none with state := .busy })).heap[w.heap.size]? = some (.deferred (some [])) := (World.putObj_heap_other (by omega)).trans hk
      have hw2 : (W.putObj (w.heap.size + 1) (.loop { rec .ready none with state := .busy })).heap[b]? = W.heap[b]? := World.putObj_heap_other (by omega)
      refine wpIn_mono (hbody _ pre x _ hpre (hI.putObj _ hi (by omega) hl rfl)) ?_
      have fin : ∀ (jump : Option Code) (W3 : World), KeepsFrom w.heap.size (W.putObj (w.heap.size + 1) (.loop { rec .ready none with state := .busy })) W3 →
          (Instr.endRound (w.heap.size + 1) jump).run P W3 = .ok (.bool jump.isNone) (W3.putObj (w.heap.size + 1) (.loop (rec (if jump.isNone then .ready else .done) jump))) ∧
          W3.heap[w.heap.size + 1]? = some (.loop { rec .ready none with state := .busy }) ∧
          (W3.putObj (w.heap.size + 1) (.loop (rec (if jump.isNone then .ready else .done) jump))).heap[w.heap.size + 1]? = some (.loop (rec (if jump.isNone then .ready else .done) jump)) ∧
          (W3.putObj (w.heap.size + 1) (.loop (rec (if jump.isNone then .ready else .done) jump))).heap[w.heap.size]? = some (.deferred (some [])) := fun jump W3 hk3 => by
        have hl3 := hk3.same _ _ (by omega) hl2 rfl
        have := run_endRound (P := P) jump hl3
        rw [hrec] at this ⊢
        exact ⟨this, by rw [hrec] at hl3; exact hl3, World.putObj_heap_same (Array.getElem?_eq_some_iff.1 hl3).1, (World.putObj_heap_other (by omega)).trans (hk3.same _ _ (Nat.le_refl _) hk2 rfl)⟩
      rintro e a3 W3 hp
      cases e with
      | normal =>
        obtain ⟨hk3, hkp3, hi3⟩ := hp
        obtain ⟨hr, hl3, hl4, hk4⟩ := fin none W3 hk3
        exact ⟨_, _, hr, .inl ⟨rfl, ⟨hI.putObj _ hi3 (by omega) hl3 rfl, hl4, hk4⟩, (World.putObj_heap_other (by omega)).trans (hkp3.trans hw2)⟩⟩
      | ret =>
        obtain ⟨hk3, hi3⟩ := hp
        obtain ⟨hr, hl3, hl4, hk4⟩ := fin (some .ret) W3 hk3
        exact ⟨_, _, hr, .inr ⟨rfl, .ret, (hIx _).putObj _ hi3 (by omega) hl3 rfl, hl4, hk4⟩⟩
      | exit id =>
        obtain ⟨hk3, hi3⟩ := hp
        obtain ⟨hr, hl3, hl4, hk4⟩ := fin (some (.exit id)) W3 hk3
        exact ⟨_, _, hr, .inr ⟨rfl, .exit id, (hIx _).putObj _ hi3 (by omega) hl3 rfl, hl4, hk4⟩⟩
      | goto t =>
        obtain ⟨hk3, hi3⟩ := hp
        obtain ⟨hr, hl3, hl4, hk4⟩ := fin (some (.goto t)) W3 hk3
        exact ⟨_, _, hr, .inr ⟨rfl, .goto t, (hIx _).putObj _ hi3 (by omega) hl3 rfl, hl4, hk4⟩⟩
      | panic ch => exact hp.elim
      | outgrown => exact hp.elim
    · rintro e W2 ⟨⟨v, rfl⟩, (⟨hi, hl, hk⟩ | ⟨pre, hSp, c, hi, hl, hk⟩)⟩
      · exact ⟨none, _, by have := run_endLoop (P := P) hl (by rw [hrec]; simp); rw [hrec] at this; exact this, hdone _ _ (Nat.le_refl _) (hI.putObj _ hi (by omega) hl rfl) ((World.putObj_heap_other (by omega)).trans hk)⟩
      · exact ⟨some c, _, by have := run_endLoop (P := P) hl (by rw [hrec]; simp); rw [hrec] at this; exact this, hstop _ c pre _ (Nat.le_refl _) hSp ((hIx c).putObj _ hi (by omega) hl rfl) ((World.putObj_heap_other (by omega)).trans hk)⟩

/-- out = append(out, ..) into a variable's box, the row's base and what lies below apart -/
theorem boxed_appended {W w1 : World} {n₀ m₀ B : Nat} {t e : TypeId} {size : Nat} {v v' : Value} {k m : Nat} {xs ys : List Value} {tmp : Obj}
    (hv : Boxed W B t v) (hte : t ≠ e) (hrow : W.ownsRow n₀ e size v k xs) (hm : m₀ ≤ n₀) (hn₀ : m₀ ≤ W.heap.size) (hB : m₀ ≤ B)
    (hown' : w1.ownsRow n₀ e size v' m ys) (hgrow : (W.alloc tmp).grownBy w1 v.ownBlock) :
    Boxed w1 B t v ∧ Boxed (w1.setCell ⟨B, 0, none⟩ v') B t v' ∧ (w1.setCell ⟨B, 0, none⟩ v').ownsRow n₀ e size v' m ys ∧ KeepsOthers W (w1.setCell ⟨B, 0, none⟩ v') ∧ Below m₀ W (w1.setCell ⟨B, 0, none⟩ v') ∧
      ∀ b, b < W.heap.size → b < n₀ → b ≠ B → (w1.setCell ⟨B, 0, none⟩ v').heap[b]? = W.heap[b]? := by
  have hv1 : Boxed w1 B t v := (hv.alloc tmp).kept hgrow (hv.not_row hte hrow)
  have hlt := World.ownsRow.lt hrow
  refine ⟨hv1, hv1.set v', hown'.kept (grownBy_setCell' w1 B v') (.inr (hv1.not_row hte hown').symm), ?_, ?_, ?_⟩
  · refine ((KeepsOthers.alloc W tmp).trans (KeepsOthers.of_grownBy hgrow fun j o ej hj => ?_)).trans (KeepsOthers.setCell _ _ _)
    rcases (hrow.alloc tmp).2 with ⟨rfl, _⟩ | ⟨g, cap, cur, rfl, _, hgb, _⟩
    · simp [Value.ownBlock] at ej
    · obtain rfl : g = j := by simpa [Value.ownBlock] using ej
      rw [hgb] at hj; cases hj; rfl
  · refine (((Below.refl m₀ W).alloc hn₀ tmp).grown hgrow (by simp; omega) fun j ej => Nat.le_trans hm (hlt j ej).1).setCell (p := ⟨B, 0, none⟩) hB v'
  · intro b hb hbn hbB
    rw [Below.heap_setCell _ _ _ _ (by simpa using hbB), hgrow.block b (by simp; omega) (fun e => by have := (hlt b e.symm).1; omega), Below.heap_alloc _ _ _ hb]

end Go.Proofs.YtalgmnlclflllaaGreatDoor
end

/- strings.Lines as an iterator. -/
set_option linter.unusedVariables false
set_option linter.unusedSimpArgs false
section
namespace Go.Proofs.YtalgmnlclflllaaGreatDoor
open Go.RowKit Go Go.Shelf
attribute [local go_sem] Oper.semAt_some

theorem index_yes (h s r : List UInt8) (w : World) (e : cutNl h = some (s, r)) : Calls Tryz.prog 72 #[.string (bs h), .int .u8 10] w fun e w' => e = .returned (.int .i64 (s.length : Int)) ∧ w = w' := by
  refine (Tryz.strings_IndexByte (bs h) 10 w).mono fun _ _ ⟨a, b⟩ => ⟨?_, b.symm⟩
  rw [a]
  exact congrArg (fun x => Ending.returned (.int .i64 x)) (index_some e)
theorem index_no (h : List UInt8) (w : World) (e : cutNl h = none) : Calls Tryz.prog 72 #[.string (bs h), .int .u8 10] w fun e w' => e = .returned (.int .i64 (-1)) ∧ w = w' := by
  refine (Tryz.strings_IndexByte (bs h) 10 w).mono fun _ _ ⟨a, b⟩ => ⟨?_, b.symm⟩
  rw [a]
  exact congrArg (fun x => Ending.returned (.int .i64 x)) (index_none e)

theorem grown_drew {W W' : World} {row : Option Nat} (h : W.grownBy W' row) : W.grownBy W'.drew row := ⟨h.os, h.tape, h.output, h.size, h.block⟩
theorem grown_set (W : World) (b : Nat) (v : Value) : W.grownBy (W.setCell ⟨b, 0, none⟩ v) (some b) := grownBy_setCell' W b v

set_option maxRecDepth 100000 in
set_option maxHeartbeats 2000000 in
theorem lines_seq (n : Nat) (hn : 1 ≤ n) (b : Nat) (s : List UInt8) (hs : s.length ≤ 140737488355328) :
    SeqBox Fence.wide n Tryz.prog 125 b 9 (fun x => .string (bs x)) (linesOf s) (.string (bs s)) := by
  intro l J Jx W hJ hJx hY h0 hb
  refine callsIn_of_wp Tryz.func125 rfl trivial ?_ rfl
  simp only [Tryz.ntmps125, List.size_toArray, List.length_cons, List.length_nil, Nat.reduceAdd, Nat.reduceSub, Array.replicate_succ, Array.replicate_zero, List.push_toArray, List.append_toArray, List.nil_append, List.cons_append]
  gi_wp2
  gi_loopg [3, 4] s.length (fun kq _ _ wr => ∃ pre rest : List _, kq = rest.length ∧ Hid (pre ++ linesOf rest = linesOf s) ∧ rest.length ≤ s.length ∧ Boxed wr b 9 (.string (bs rest)) ∧ J pre wr)
  case atStart => exact ⟨[], s, rfl, rfl, Nat.le_refl _, hb, h0⟩
  case round =>
    obtain ⟨pre, rest, rfl, hp, hlen, hbx, hj⟩ := hrel
    have hc := hbx.cell
    have hf := hbx.frozen
    cases hcut : cutNl rest with
    | none =>
      by_cases he : rest = []
      · subst he
        gi_wp2
        go_end0
        exact ⟨⟨_, rfl⟩, .inl (by have := hp.out; rw [linesOf_nil, List.append_nil] at this; rw [← this]; exact hj)⟩
      · have h0l : 0 < rest.length := List.length_pos_iff.2 he
        have Hc := Lib.hid hcut
        have hlo := linesOf_cutNo hcut he
        have hpre : pre ++ [rest] <+: linesOf s := by rw [← hp.out, hlo]; exact List.prefix_rfl
        have hj2 := hJ pre _ _ hj (grown_set wr b (.string ⟨#[]⟩))
        obtain ⟨fn, tmps, assign, body, hy, hR⟩ := hY pre rest _ hpre hj2
        have Hlo := Lib.hid hlo
        clear hcut hlo
        gi_wp2_with (refine ⟨trivial, ?_⟩; gi_at_call 72; refine (callsIn_wide.2 (index_no _ _ Hc.out)).mono ?_; rintro e w' ⟨rfl, rfl⟩)
        refine hR.mono ?_
        rintro e W3 (⟨rfl, hJ3, hk3⟩ | ⟨rfl, hJx3⟩)
        · gi_wp2
          gi_roundg 0
          case measure => exact h0l
          case rel => exact ⟨pre ++ [rest], [], rfl, by have := hp.out; rw [Hlo.out] at this; rw [linesOf_nil, List.append_nil]; exact this, Nat.zero_le _, hk3.trans (hbx.set _), hJ3⟩
        · gi_wp2
          refine bodyPost_ret (results_none rfl _ _ _) rfl ?_
          exact ⟨⟨_, rfl⟩, .inr ⟨_, hpre, hJx3⟩⟩
    | some q =>
      obtain ⟨a, r⟩ := q
      obtain ⟨hrest, _⟩ := cutNl_some hcut
      have hll : rest.length = a.length + 1 + r.length := by rw [hrest]; simp; omega
      have h0l : 0 < rest.length := by omega
      have hla : a.length + 1 ≤ rest.length := by omega
      have hlr : r.length < rest.length := by omega
      have h1 := run_to rest (a.length + 1) hla
      have h2 := run_from rest (a.length + 1) hla
      rw [show rest.take (a.length + 1) = a ++ [10] by rw [hrest, show a ++ 10 :: r = (a ++ [10]) ++ r by simp]; exact List.take_left' (by simp), show ((a.length + 1 : Nat) : Int) = (a.length : Int) + 1 by simp] at h1
      rw [show rest.drop (a.length + 1) = r by rw [hrest, show a ++ 10 :: r = (a ++ [10]) ++ r by simp]; exact List.drop_left' (by simp), show ((a.length + 1 : Nat) : Int) = (a.length : Int) + 1 by simp] at h2
      have Hc := Lib.hid hcut
      have hlo := linesOf_cut hcut
      have hpre : pre ++ [a ++ [10]] <+: linesOf s := by rw [← hp.out, hlo]; exact ⟨linesOf r, by simp⟩
      have hj2 := hJ pre _ _ hj (grown_drew (grown_set wr b (.string (bs r))))
      obtain ⟨fn, tmps, assign, body, hy, hR⟩ := hY pre (a ++ [10]) _ hpre hj2
      have Hlo := Lib.hid hlo
      have d0 : decide (0 ≤ (a.length : Int)) = true := by simp
      clear hcut hlo hrest hll
      gi_wp2_with (refine ⟨trivial, ?_⟩; gi_at_call 72; refine (callsIn_wide.2 (index_yes _ _ _ _ Hc.out)).mono ?_; rintro e w' ⟨rfl, rfl⟩)
      gi_region
      gi_wp2
      refine hR.mono ?_
      rintro e W3 (⟨rfl, hJ3, hk3⟩ | ⟨rfl, hJx3⟩)
      · gi_wp2
        gi_roundg r.length
        case measure => exact hlr
        case rel => exact ⟨pre ++ [a ++ [10]], r, rfl, by have := hp.out; rw [Hlo.out] at this; rw [← this]; show _ = _; simp, by omega, hk3.trans (hbx.set _), hJ3⟩
      · gi_wp2
        refine bodyPost_ret (results_none rfl _ _ _) rfl ?_
        exact ⟨⟨_, rfl⟩, .inr ⟨_, hpre, hJx3⟩⟩

end Go.Proofs.YtalgmnlclflllaaGreatDoor
end

/- Slices of strings, as lists; strings.Join without a separator. -/
set_option linter.unusedVariables false
set_option linter.unusedSimpArgs false
section
namespace Go.Proofs.YtalgmnlclflllaaGreatDoor
open Go.RowKit

theorem info_str : (Tryz.prog.info? 9).map (fun i => (i.zero, i.size, i.bytes)) = some (some (.string ⟨#[]⟩), 1, 16) := by kernel_rfl

/-- strings as cells -/
def cellsS (ls : List (List UInt8)) : List Value := ls.map fun s => .string (bs s)
theorem cellsS_length (l : List (List UInt8)) : (cellsS l).length = l.length := by simp [cellsS]
theorem cellsS_append (a b : List (List UInt8)) : cellsS (a ++ b) = cellsS a ++ cellsS b := by simp [cellsS]

/-- a slice of strings reads as ls -/
def StrsAt (w : World) (v : Value) (ls : List (List UInt8)) : Prop :=
  (v = .slice none 0 0 ∧ ls = []) ∨ ∃ (b o c : Nat), v = .slice (some ⟨b, o, none⟩) ls.length c ∧ ls.length ≤ c ∧ b < w.heap.size ∧ ∀ j, j < ls.length → w.cell? ⟨b, o + j, none⟩ = some (.string (bs (ls.getD j [])))

theorem StrsAt.below {w w' : World} {v : Value} {ls : List (List UInt8)} (h : StrsAt w v ls) (hb : Below w.heap.size w w') : StrsAt w' v ls := by
  rcases h with h | ⟨b, o, c, h1, h2, h3, h4⟩
  · exact .inl h
  · exact .inr ⟨b, o, c, h1, h2, Nat.lt_of_lt_of_le h3 hb.size, fun j hj => (hb.cell (p := ⟨b, o + j, none⟩) h3).trans (h4 j hj)⟩

/-- a slice of strings that the call itself made, in blocks from base on -/
def OwnS (w : World) (base : Nat) (v : Value) (ls : List (List UInt8)) : Prop := w.ownsRow base 9 1 v ls.length (cellsS ls)

theorem OwnS.strs {w : World} {base : Nat} {v : Value} {l : List (List UInt8)} (h : OwnS w base v l) : StrsAt w v l := by
  have hlt := World.ownsRow.lt h
  rcases h.2 with ⟨rfl, h0⟩ | ⟨g, cap, cur, rfl, _, hg, hc, _, _, ht⟩
  · exact Or.inl ⟨rfl, List.eq_nil_of_length_eq_zero h0⟩
  · refine Or.inr ⟨g, 0, cap, rfl, hc, (hlt g rfl).2, fun i hi => ?_⟩
    have e : (cellsS l)[i]? = some (.string (bs (l.getD i []))) := by simp [cellsS, hi]
    rw [← ht, List.getElem?_take, if_pos (by omega)] at e
    simp only [World.cell?, hg, Nat.zero_add]
    simpa using e

theorem OwnS.base {w : World} {b b' : Nat} {v : Value} {l : List (List UInt8)} (h : OwnS w b v l) (hb : b' ≤ b) : OwnS w b' v l := by
  refine ⟨h.1, ?_⟩
  rcases h.2 with h0 | ⟨g, cap, cur, e, h1, r⟩
  · exact .inl h0
  · exact .inr ⟨g, cap, cur, e, Nat.le_trans hb h1, r⟩

theorem OwnS.step {w' : World} {base : Nat} {v' : Value} {l : List (List UInt8)} {s : List UInt8} (h : w'.ownsRow base 9 1 v' (l.length + 1) (cellsS l ++ [.string (bs s)])) : OwnS w' base v' (l ++ [s]) := by
  unfold OwnS
  rw [cellsS_append, List.length_append]
  exact h

theorem OwnS.form {w : World} {base : Nat} {v : Value} {l : List (List UInt8)} (h : OwnS w base v l) : ∃ a n cap, v = .slice a n cap ∧ Hid (n = l.length) := by
  rcases h.2 with ⟨rfl, h0⟩ | ⟨g, cap, cur, rfl, _, _, _, _, _, _⟩
  · exact ⟨none, 0, 0, rfl, h0.symm⟩
  · exact ⟨_, _, _, rfl, rfl⟩

theorem OwnS.parts {w : World} {base : Nat} {v : Value} {l : List (List UInt8)} (h : OwnS w base v l) : (v = .slice none 0 0 ∧ l = []) ∨ ∃ g cap, v = .slice (some ⟨g, 0, none⟩) l.length cap ∧ base ≤ g := by
  rcases h.2 with ⟨rfl, h0⟩ | ⟨g, cap, cur, rfl, hb, hg, hc, _, _, ht⟩
  · exact .inl ⟨rfl, List.eq_nil_of_length_eq_zero h0⟩
  · exact .inr ⟨g, cap, rfl, hb⟩
theorem cellsS_set (l : List (List UInt8)) (k : Nat) (x : List UInt8) : (cellsS l).set k (.string (bs x)) = cellsS (l.set k x) := by
  unfold cellsS; rw [List.map_set]

/-- list[k] = x, in a slice of the call's own -/
theorem OwnS.set {w : World} {B g n cap k : Nat} {ls : List (List UInt8)} (h : OwnS w B (.slice (some ⟨g, 0, none⟩) n cap) ls) (hk : k < ls.length) (x : List UInt8) :
    w.cell? ⟨g, k, none⟩ = some (.string (bs (ls.getD k []))) ∧ w.frozen? ⟨g, k, none⟩ = false ∧ OwnS (w.setCell ⟨g, k, none⟩ (.string (bs x))) B (.slice (some ⟨g, 0, none⟩) n cap) (ls.set k x) ∧ ∀ m₀ u, m₀ ≤ B → Below m₀ u w → Below m₀ u (w.setCell ⟨g, k, none⟩ (.string (bs x))) := by
  obtain rfl : n = ls.length := by
    rcases h.2 with ⟨h', _⟩ | ⟨g', cap', cur, h', _⟩
    · simp at h'
    · simp at h'; exact h'.2.1
  have hst := World.ownsRow.stored h k (.string (bs x))
  have hfr := World.ownsRow.frozenAt h k
  have hgb := (World.ownsRow.lt h g rfl).1
  refine ⟨?_, hfr, ?_, fun m₀ u hm hb => hb.setCell (p := ⟨g, k, none⟩) (Nat.le_trans hm hgb) _⟩
  · rcases h.strs with ⟨h', _⟩ | ⟨b, o, c, h', _, _, h3⟩
    · simp at h'
    · simp at h'
      obtain ⟨⟨rfl, rfl⟩, rfl⟩ := h'
      have := h3 k hk
      rwa [Nat.zero_add] at this
  · unfold OwnS
    rw [← cellsS_set, List.length_set]
    exact hst.1

end Go.Proofs.YtalgmnlclflllaaGreatDoor
end
