/- The dates' readers: what ParseDay, ParseInternal hand back. -/
import Derived.Test.YthkkdbpblajahaaDoorD27
import Derived.Test.YthkkdbpblajahaaDoorD28
import Derived.Test.YthkkdbpblajahaaDoorD29
import Derived.Test.YthkkdbpblajahaaDoorD30
import Derived.Test.YthkkdbpblajahaaDoorD31
import Derived.Test.YthkkdbpblajahaaDoorD24
import Derived.Test.YthkkdbpblajahaaDoorD25
set_option linter.unusedVariables false
set_option linter.unusedSimpArgs false
namespace Go.Proofs.YthkkdbpblajahaaDoor
open Go.RowKit

/-- what read makes of what a rule tells: a moment, or which error (0: out of range, 1: form) -/
inductive Outcome where
  | good (t : Int)
  | bad (k : Nat)
open Classical in
noncomputable def readV : Option (RuleD × List UInt8) → Outcome
  | none => .bad 1
  | some (((y, m, d, h, mi, s), z), r) =>
    if r ≠ [] then .bad 1
    else if ¬ Cal.right y m d h mi s then .bad 0
    else if 0 ≤ Cal.mom y m d h mi s - z ∧ Cal.mom y m d h mi s - z ≤ 4102444799 then .good (Cal.mom y m d h mi s - z)
    else .bad 0
def outV (a a0 : Addr) : Outcome → Value
  | .good t => .tuple #[.int .i64 t, .nilIface]
  | .bad 0 => .tuple #[.int .i64 0, errV a0]
  | .bad _ => .tuple #[.int .i64 0, errV a]
def zoneIn (R : Option (RuleD × List UInt8)) : Prop := ∀ d r, R = some (d, r) → -86400 ≤ d.2 ∧ d.2 ≤ 86400

theorem zone_ruleDay (l : List UInt8) : zoneIn (ruleDay l) := by
  intro d r h
  unfold ruleDay at h
  simp only [Option.bind_eq_some_iff] at h
  obtain ⟨q0, _, r1, _, q2, _, r3, _, q4, _, h⟩ := h
  obtain ⟨rfl, _⟩ := Prod.mk.inj (Option.some.inj h)
  exact ⟨show (-86400 : Int) ≤ 0 by decide, show (0 : Int) ≤ 86400 by decide⟩
theorem zone_ruleInternal (l : List UInt8) : zoneIn (ruleInternal l) := by
  intro d r h
  unfold ruleInternal at h
  simp only [Option.bind_eq_some_iff] at h
  obtain ⟨q0, _, r1, _, q2, _, r3, _, q4, _, r5, _, q6, _, r7, _, q8, _, r9, _, q10, _, r11, _, q12, hz, h⟩ := h
  obtain ⟨rfl, _⟩ := Prod.mk.inj (Option.some.inj h)
  have := zone_bd (z := q12.1) (r := q12.2) hz
  exact ⟨this.1, this.2.1⟩

theorem readDay_any (l : List UInt8) (w : World) (a a0 : Addr) (hc : w.cell? ⟨1, 0, none⟩ = some (errV a)) (hc0 : w.cell? ⟨0, 0, none⟩ = some (errV a0)) (hl : l.length ≤ 140737488355328) :
    Calls Tryd.prog 42 #[.string (bs l), .func (.func 43) #[] #[]] w fun e w' => e = .returned (outV a a0 (readV (ruleDay l))) ∧ Below w.heap.size w w' := by
  have hz := zone_ruleDay l
  have hF := fun (b : Nat) (w1 : World) (h1 : ScAt w1 b l) (h2 : w1.cell? ⟨1, 0, none⟩ = some (errV a)) (h3 : 1 ≠ b) => ruleDay_any b l w1 a h2 h3 h1 hl
  obtain ⟨R, hR⟩ : ∃ R, ruleDay l = R := ⟨_, rfl⟩
  rw [hR] at hz hF ⊢
  rcases R with _ | ⟨⟨⟨y, m, d, h, mi, s⟩, z⟩, r⟩
  · exact readDay_bad l w a hc hl hF
  · have hzb := hz _ _ rfl
    by_cases hr : r = []
    · subst hr
      by_cases hg : Cal.right y m d h mi s
      · by_cases ho : 0 ≤ Cal.mom y m d h mi s - z ∧ Cal.mom y m d h mi s - z ≤ 4102444799
        · have e : readV (some (((y, m, d, h, mi, s), z), [])) = .good (Cal.mom y m d h mi s - z) := by unfold readV; dsimp only; rw [if_neg (by simp), if_neg (by simpa using hg), if_pos ho]
          rw [e]
          exact readDay_good l w a a0 hc hc0 hl y m d h mi s z hg hzb ho hF
        · have e : readV (some (((y, m, d, h, mi, s), z), [])) = .bad 0 := by unfold readV; dsimp only; rw [if_neg (by simp), if_neg (by simpa using hg), if_neg ho]
          rw [e]
          exact readDay_out l w a a0 hc hc0 hl y m d h mi s z hg hzb (by omega) hF
      · have e : readV (some (((y, m, d, h, mi, s), z), [])) = .bad 0 := by unfold readV; dsimp only; rw [if_neg (by simp), if_pos hg]
        rw [e]
        exact readDay_wrong l w a a0 hc hc0 hl y m d h mi s z hg hF
    · have e : readV (some (((y, m, d, h, mi, s), z), r)) = .bad 1 := by unfold readV; dsimp only; rw [if_pos hr]
      rw [e]
      exact readDay_rest l w a hc hl y m d h mi s z r hr hF

theorem parseDay_any (l : List UInt8) (w : World) (a a0 : Addr) (hc : w.cell? ⟨1, 0, none⟩ = some (errV a)) (hc0 : w.cell? ⟨0, 0, none⟩ = some (errV a0)) (hl : l.length ≤ 140737488355328) :
    Calls Tryd.prog 24 #[.string (bs l)] w fun e w' => e = .returned (outV a a0 (readV (ruleDay l))) ∧ Below w.heap.size w w' := by
  have hr := readDay_any l w a a0 hc hc0 hl
  obtain ⟨O, hO⟩ : ∃ O, readV (ruleDay l) = O := ⟨_, rfl⟩
  rw [hO] at hr ⊢
  have HR := Lib.hid hr
  clear hr hO hc hc0
  go_enter Tryd.func24, Tryd.ntmps24
  go_wp2_with fail
  refine HR.out.mono ?_
  rintro e w2 ⟨rfl, hb2⟩
  rcases O with t | _ | k
  all_goals
    unfold outV
    try unfold errV
    go_wp2
    go_ret2
    exact ⟨rfl, hb2⟩

theorem readInternal_any (l : List UInt8) (w : World) (a a0 : Addr) (hc : w.cell? ⟨1, 0, none⟩ = some (errV a)) (hc0 : w.cell? ⟨0, 0, none⟩ = some (errV a0)) (hl : l.length ≤ 140737488355328) :
    Calls Tryd.prog 42 #[.string (bs l), .func (.func 52) #[] #[]] w fun e w' => e = .returned (outV a a0 (readV (ruleInternal l))) ∧ Below w.heap.size w w' := by
  have hz := zone_ruleInternal l
  have hF := fun (b : Nat) (w1 : World) (h1 : ScAt w1 b l) (h2 : w1.cell? ⟨1, 0, none⟩ = some (errV a)) (h3 : 1 ≠ b) => ruleInternal_any b l w1 a h2 h3 h1 hl
  obtain ⟨R, hR⟩ : ∃ R, ruleInternal l = R := ⟨_, rfl⟩
  rw [hR] at hz hF ⊢
  rcases R with _ | ⟨⟨⟨y, m, d, h, mi, s⟩, z⟩, r⟩
  · exact readInternal_bad l w a hc hl hF
  · have hzb := hz _ _ rfl
    by_cases hr : r = []
    · subst hr
      by_cases hg : Cal.right y m d h mi s
      · by_cases ho : 0 ≤ Cal.mom y m d h mi s - z ∧ Cal.mom y m d h mi s - z ≤ 4102444799
        · have e : readV (some (((y, m, d, h, mi, s), z), [])) = .good (Cal.mom y m d h mi s - z) := by unfold readV; dsimp only; rw [if_neg (by simp), if_neg (by simpa using hg), if_pos ho]
          rw [e]
          exact readInternal_good l w a a0 hc hc0 hl y m d h mi s z hg hzb ho hF
        · have e : readV (some (((y, m, d, h, mi, s), z), [])) = .bad 0 := by unfold readV; dsimp only; rw [if_neg (by simp), if_neg (by simpa using hg), if_neg ho]
          rw [e]
          exact readInternal_out l w a a0 hc hc0 hl y m d h mi s z hg hzb (by omega) hF
      · have e : readV (some (((y, m, d, h, mi, s), z), [])) = .bad 0 := by unfold readV; dsimp only; rw [if_neg (by simp), if_pos hg]
        rw [e]
        exact readInternal_wrong l w a a0 hc hc0 hl y m d h mi s z hg hF
    · have e : readV (some (((y, m, d, h, mi, s), z), r)) = .bad 1 := by unfold readV; dsimp only; rw [if_pos hr]
      rw [e]
      exact readInternal_rest l w a hc hl y m d h mi s z r hr hF

theorem parseInternal_any (l : List UInt8) (w : World) (a a0 : Addr) (hc : w.cell? ⟨1, 0, none⟩ = some (errV a)) (hc0 : w.cell? ⟨0, 0, none⟩ = some (errV a0)) (hl : l.length ≤ 140737488355328) :
    Calls Tryd.prog 26 #[.string (bs l)] w fun e w' => e = .returned (outV a a0 (readV (ruleInternal l))) ∧ Below w.heap.size w w' := by
  have hr := readInternal_any l w a a0 hc hc0 hl
  obtain ⟨O, hO⟩ : ∃ O, readV (ruleInternal l) = O := ⟨_, rfl⟩
  rw [hO] at hr ⊢
  have HR := Lib.hid hr
  clear hr hO hc hc0
  go_enter Tryd.func26, Tryd.ntmps26
  go_wp2_with fail
  refine HR.out.mono ?_
  rintro e w2 ⟨rfl, hb2⟩
  rcases O with t | _ | k
  all_goals
    unfold outV
    try unfold errV
    go_wp2
    go_ret2
    exact ⟨rfl, hb2⟩

end Go.Proofs.YthkkdbpblajahaaDoor
