/- quote.Looks, Quote, Unquote. -/
import Derived.Test.YtcjnpklmfcbofaaDoorSp
import Derived.Test.YtcjnpklmfcbofaaDoorQm
set_option linter.unusedVariables false
set_option linter.unusedSimpArgs false
namespace Go.Proofs.YtcjnpklmfcbofaaDoor
open Go.RowKit

theorem trim_any (l : List UInt8) (w : World) : Calls Tryd.prog 40 #[.string (bs l), .string (bs [62])] w fun e w' => e = .returned (.string (bs (unmark l))) ∧ w = w' :=
  (Tryd.strings_TrimLeft_one (bs l) 62 (by decide) w).mono fun _ _ ⟨h, k⟩ => ⟨h, k.symm⟩
theorem prefix_any (l p : List UInt8) (w : World) : Calls Tryd.prog 41 #[.string (bs l), .string (bs p)] w fun e w' => e = .returned (.bool (p.isPrefixOf l)) ∧ w = w' :=
  (Tryd.strings_HasPrefix (bs l) (bs p) w).mono fun _ _ ⟨h, k⟩ => ⟨h, k.symm⟩

theorem looks_any (l : List UInt8) (w : World) (hl : l.length ≤ 140737488355328) : Calls Tryd.prog 22 #[.string (bs l)] w fun e w' => e = .returned (.tuple #[.bool (sepB l), .bool (quotedB l)]) ∧ w = w' := by
  have h1 := unmark_length l
  have h2 := unmark_lt l
  have h3 := unmark_no l
  unfold sepB quotedB
  obtain ⟨b, hb⟩ : ∃ b, looks l = b := ⟨_, rfl⟩
  obtain ⟨c, hc⟩ : ∃ c, headM l = c := ⟨_, rfl⟩
  rw [hb, hc]
  rw [hc] at h2 h3
  unfold looks at hb
  have HB := Lib.hid hb
  clear hb hc
  cases b <;> cases c
  all_goals
    simp at h2 h3
    try have h3' := congrArg List.length h3
    clear h3
    try have hL : (unmark l).length = l.length := by omega
    try have HL := Lib.hid hL
    try clear hL
    first
      | (have e1 : decide ((unmark l).length = l.length) = true := by simpa using HL.out
         have e2 : decide ((unmark l).length < l.length) = false := by simp [HL.out]
         have e3 : (((unmark l).length : Int) == (l.length : Int)) = true := by simp [HL.out])
      | (have e1 : decide ((unmark l).length = l.length) = false := by simp; omega
         have e2 : decide ((unmark l).length < l.length) = true := by simp; omega
         have e3 : (((unmark l).length : Int) == (l.length : Int)) = false := by simp; omega)
    go_enter Tryd.func22, Tryd.ntmps22
    go_wp2_with fail
    refine (trim_any _ _).mono ?_
    rintro e w' ⟨rfl, rfl⟩
    go_wp2_with fail
    refine (prefix_any _ fromL _).mono ?_
    rintro e w' ⟨rfl, rfl⟩
    rw [HB.out]
    go_wp2
    go_ret2
    exact ⟨rfl, rfl⟩

set_option maxHeartbeats 400000 in
theorem quote_any (l : List UInt8) (w : World) (hl : l.length ≤ 140737488355328) : Calls Tryd.prog 38 #[.string (bs l)] w fun e w' => e = .returned (.string (bs (quoteL l))) ∧ w = w' := by
  have hs : sepB l = (looks l && !headM l) := rfl
  have hq : quotedB l = (looks l && headM l) := rfl
  unfold quoteL
  obtain ⟨b, hb⟩ : ∃ b, looks l = b := ⟨_, rfl⟩
  obtain ⟨c, hc⟩ : ∃ c, headM l = c := ⟨_, rfl⟩
  rw [hb, hc] at hs hq
  rw [hb]
  have HS := Lib.hid hs
  have HQ := Lib.hid hq
  clear hs hq hb hc
  cases b <;> cases c
  all_goals
    go_enter Tryd.func38, Tryd.ntmps38
    go_wp2_with fail
    refine (looks_any l _ hl).mono ?_
    rintro e w' ⟨rfl, rfl⟩
    rw [HS.out, HQ.out]
    go_wp2
    go_ret
    refine ⟨?_, rfl⟩
    simp
  all_goals exact bs_append [62] l

set_option maxHeartbeats 400000 in
theorem unquote_any (l : List UInt8) (w : World) (hl : l.length ≤ 140737488355328) : Calls Tryd.prog 43 #[.string (bs l)] w fun e w' => e = .returned (.string (bs (unquoteL l))) ∧ w = w' := by
  unfold unquoteL
  obtain ⟨b, hb⟩ : ∃ b, quotedB l = b := ⟨_, rfl⟩
  rw [hb]
  have HB := Lib.hid hb
  cases b
  · clear hb
    go_enter Tryd.func43, Tryd.ntmps43
    go_wp2_with fail
    refine (looks_any l _ hl).mono ?_
    rintro e w' ⟨rfl, rfl⟩
    rw [HB.out]
    go_wp2
    go_ret
    exact ⟨rfl, rfl⟩
  · unfold quotedB at hb
    simp at hb
    obtain ⟨r, rfl⟩ := (headM_iff l).1 hb.2
    clear hb
    have h1 := run_from (62 :: r) 1 (by simp)
    go_enter Tryd.func43, Tryd.ntmps43
    go_wp2_with fail
    refine (looks_any (62 :: r) _ hl).mono ?_
    rintro e w' ⟨rfl, rfl⟩
    rw [HB.out]
    go_wp2
    go_ret
    refine ⟨?_, rfl⟩
    simp
    rw [bs_drop _ _ _ (by simp)]
    rfl

end Go.Proofs.YtcjnpklmfcbofaaDoor
