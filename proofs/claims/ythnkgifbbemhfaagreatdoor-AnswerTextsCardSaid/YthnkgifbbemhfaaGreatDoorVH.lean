/- mime.Quote: the walk. -/
import Derived.Test.YthnkgifbbemhfaaGreatDoorGr
import Derived.Test.YthnkgifbbemhfaaGreatDoorShelf
import Derived.Deep.DeepFit
set_option linter.unusedVariables false
set_option linter.unusedSimpArgs false
namespace Go.Proofs.YthnkgifbbemhfaaGreatDoor
open Go.RowKit Go

theorem odd_pred (x : Nat) (w : World) : Calls Tryz.prog 51 #[.int .i32 x] w fun e w' => e = .returned (.bool (oddR x)) ∧ Below w.heap.size w w' := by
  unfold oddR
  by_cases h1 : (x : Int) < 32
  · have e1 : decide ((x : Int) < 32) = true := by simpa using h1
    rw [e1, Bool.true_or]
    clear e1
    go_enter Tryz.func51, Tryz.ntmps51
    go_wp2
    go_ret
    exact ⟨rfl, Below.refl _ _⟩
  · have e1 : decide ((x : Int) < 32) = false := by simpa using h1
    rw [e1, Bool.false_or]
    clear e1
    by_cases h2 : 126 < (x : Int)
    · have e2 : decide (126 < (x : Int)) = true := by simpa using h2
      rw [e2]
      clear e2
      go_enter Tryz.func51, Tryz.ntmps51
      go_wp2
      go_ret
      exact ⟨rfl, Below.refl _ _⟩
    · have e2 : decide (126 < (x : Int)) = false := by simpa using h2
      rw [e2]
      clear e2
      go_enter Tryz.func51, Tryz.ntmps51
      go_wp2
      go_ret
      exact ⟨rfl, Below.refl _ _⟩

theorem idxf_any (s : List UInt8) (w : World) : Calls Tryz.prog 50 #[.string (bs s), .func (.func 51) #[] #[]] w fun e w' => e = .returned (.int .i64 (Lib.idxFunc oddR true (bs s))) ∧ Below w.heap.size w w' :=
  Tryz.strings_IndexFunc_grows 51 #[] (enters_of Tryz.func51 (by kernel_rfl) rfl) oddR (bs s) w (fun W x _ _ => odd_pred x W)

theorem count_one_le (c : UInt8) : ∀ l : List UInt8, Lib.count l [c] ≤ l.length
  | [] => by rw [Lib.count_one]; simp
  | b :: l => by
    have ih := count_one_le c l
    by_cases h : b = c
    · subst h
      rw [Lib.count_cons_eq]; simp; omega
    · rw [Lib.count_cons_ne b c l h]; simp; omega

theorem repl_any (c : UInt8) (new l : List UInt8) (m : Int) (w : World) (hn : new.length = 2) (hl : l.length ≤ 2000000000) (hm : w.cell? ⟨2, 0, none⟩ = some (.int .i64 m)) :
    Calls Tryz.prog 52 #[.string (bs l), .string (bs [c]), .string (bs new)] w fun e w' => e = .returned (.string (bs (repB c new l))) ∧ Below w.heap.size w w' := by
  have hc := count_one_le c l
  refine (Tryz.strings_ReplaceAll (bs l) (bs [c]) (bs new) m w (by rw [bs_size]; omega) hm (by rw [bs_size]; simp) ?_).mono ?_
  · have : Lib.countB (bs l) (bs [c]) = Lib.count l [c] := rfl
    rw [this, bs_size, bs_size, hn]
    omega
  · rintro e w' ⟨rfl, hb⟩
    refine ⟨?_, hb⟩
    have e1 := replaceAll_one c new l (by intro h; have := congrArg List.length (eq_of_beq h); simp [hn] at this)
    rw [← e1]

end Go.Proofs.YthnkgifbbemhfaaGreatDoor
