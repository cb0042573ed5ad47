/- AnswerStatus: whatever the input, the law answers true: the row from the walk, and the tied card. -/
import Derived.Test.YthnkgifbbemhfaaGreatDoorWe
import Derived.Test.YthnkgifbbemhfaaGreatDoorRows
import Derived.Test.YthnkgifbbemhfaaGreatDoorCards
import Derived.Test.YthnkgifbbemhfaaGreatDoorTie
import Derived.ProofKit
import Derived.LaidMore
import Derived.OpenShut
import Derived.Stop.Joined
import Derived.SevenTiedAt
import Derived.ChangeMaps5
import Derived.Lay
import Derived.MakeChecks
import Derived.Stop.LaidErr
namespace Go.Proofs.YthnkgifbbemhfaaGreatDoor.CardAnswerStatus
set_option linter.unusedVariables false
set_option linter.unusedSimpArgs false
open Go.ChangeShapes Go.WideShapes Go.ChangeAt Go.WideMaps Go.WideElems Go.RowKit Go.ChangeMaps

theorem own : ownKnob Tryz.prog.godebug = none := by kernel_rfl

theorem facts_tab {W : World} (h : laidMetH Tryz.prog Rows.answerStatusRow.laid W) : Tab W := by
  rw [MakeChecks.laidMetH_plain _ _ _ (by kernel_rfl)] at h
  exact tab_of_head (h.tail.tail)

set_option maxRecDepth 100000 in
theorem lifted (os : Os) (started : os.Started) (H : Type) (enc : TypeId × Value → H) :
    ReturnsInHanded {} Tryz.checked os 5 .any (fun w args => (Rows.answerStatusSpec.pre enc Tryz.prog Tryz.f5 [] false w args ∧ laidMetH Tryz.prog Rows.answerStatusRow.laid w) ∧ sizedMet enc Tryz.prog Tryz.f5 (OpenSpec.ofChange Rows.answerStatusSpec) false w args)
      (Rows.answerStatusSpec.post enc Tryz.prog Tryz.f5 false true false false) := by
  refine handed_and_shaped (C := Tryz.checked) (X := fun w _ => laidMetH Tryz.prog Rows.answerStatusRow.laid w) (fun _ _ _ hh h => h.of_heap hh) own started (by kernel_rfl) Tryz.func5
    (ChangeSpec.witness_shaped (enc := enc) (C := Tryz.checked) (os := os) (X := fun w _ => laidMetH Tryz.prog Rows.answerStatusRow.laid w) false (World.laidAll Tryz.prog os Rows.answerStatusRow.laid) #[.agg #[.int .i64 0, .string ⟨#[]⟩, .int .i64 0, .int .i64 0, .slice none 0 0], .slice none 0 0, .string ⟨#[]⟩] 8 (World.laidAll_os _ _ _) (World.shaped_of_ZipB (by kernel_rfl) (by kernel_rfl)) (by kernel_rfl) (by kernel_rfl) (by kernel_rfl) (by rw [MakeChecks.laidMetH_plain _ _ _ (by kernel_rfl)]; exact laidMet_laidAll _ (by kernel_rfl) (by kernel_rfl))) ?_
  intro W base args ds gs before hval0 hW _ _ hL hSh _
  have hval : ∀ (j : Nat) t v, Tryz.f5.params[j]? = some t → args[j]? = some v → Value.okWide Tryz.prog W .any base t v := hval0
  have hW' := hW
  obtain ⟨p, q, hA0, hV, rfl, hfz, hnd⟩ := hW
  have hA : DataW.TrodAll enc Tryz.prog W 0 (fun _ => true) true Tryz.f5.params.toList args.toList ds p := hA0
  rw [Tryz.params5] at hA hval
  obtain ⟨v0, v1, v2, d0, d1, d2, p0, p1, p2, rfl, rfl, rfl, h0, h1, h2⟩ := trodAll_three hA
  obtain ⟨rfl, rfl⟩ := trodVars_none hV
  obtain ⟨bu0, bv0, bn0, bm0, bw0, bx0, rfl, g0, wa0, wb0⟩ := arg_box (hval 0 41 v0 rfl rfl) h0
  obtain ⟨sa1, sn1, sc1, rfl⟩ := okWide_slice Tryz.underlying29 (hval 1 29 v1 rfl rfl)
  obtain ⟨a1, g1, _, _⟩ := arg_strs Tryz.underlying29 h1
  obtain ⟨a2, rfl, rfl, rfl, ws2⟩ := open_string Tryz.underlying9 (hval 2 9 v2 rfl rfl) h2
  clear hA0 hval0
  simp only [List.append_nil] at hW'
  obtain ⟨mx, hmx⟩ := maxLen_of hSh
  refine (answerStatus_any bu0 bv0 bn0 bm0 bw0 bx0 _ a1 a2 W g0 wa0 wb0 g1 ws2 (facts_tab hL) mx hmx).mono fun e W' ⟨he, hb⟩ => ?_
  subst he
  refine ⟨_, rfl, _, _, _, [], p0 ++ p1, [], hW', ?_, ?_, rfl, hb.frame _, fun h => by cases h⟩
  · exact trodAll_mk1 (shut_bool Tryz.underlying4 true)
  · have h9 := trodAll_mk3 (Below.trod (by kernel_rfl) (by kernel_rfl) (of_decide_eq_true (by kernel_rfl)) h0 hb (fun x hx => by obtain ⟨_, hf⟩ := h0; exact DataW.trod_lt _ _ _ _ hf x hx)) (Below.trod (by kernel_rfl) (by kernel_rfl) (of_decide_eq_true (by kernel_rfl)) h1 hb (fun x hx => by obtain ⟨_, hf⟩ := h1; exact DataW.trod_lt _ _ _ _ hf x hx)) (shut_string Tryz.underlying9 ws2)
    try simp only [List.append_nil, List.nil_append] at h9
    exact h9

theorem row_holds : Rows.AnswerStatusSaid :=
  OpenClaim.holds_of_wide 5 Tryz.f5 rfl rfl rfl rfl rfl rfl rfl ⟨rfl, rfl, rfl, rfl, rfl⟩ rfl rfl rfl rfl rfl (by kernel_rfl) Tryz.func5 (by kernel_rfl)
    (of_decide_eq_true (by kernel_rfl)) (by unfold Func.isWrapper; first | (rw [if_pos (by decide +kernel)]; kernel_rfl) | (rw [if_neg (by decide +kernel)]; exact ⟨rfl, rfl⟩))
    (fun os started H enc _ => lifted os started H enc)

theorem card_holds : Rows.AnswerStatusCardSaid :=
  Claim7.holds_tied_plain_at .later [] [.data, .data, .data, .data, .sentinel, .sentinel, .sentinel, .pinned] true (true, "716afb2bc8b507ce0cf20132ad4134037d4f3aeb42ffe3f36a3d84e3f292c697") true
    row_holds (fun _ h => by cases h) (by kernel_rfl) (fun _ h => by cases h) answerStatus_row_tie rfl ⟨rfl, rfl⟩ (by kernel_rfl) rfl
    (fun f fn hf hfn => by
      obtain rfl : f = 5 := Option.some.inj ((show Tryz.prog.funcNamed "postbag/postbaglaw22.AnswerStatus" = some 5 by kernel_rfl).symm.trans hf) |>.symm
      obtain rfl : fn = Tryz.f5 := (Option.some.inj (Tryz.func5.symm.trans hfn)).symm
      exact ⟨by kernel_rfl, fun j t ht => by
        rw [Tryz.params5] at ht
        have hm : t ∈ [41, 29, 9] := by simpa using Array.mem_of_getElem? ht
        have hall : ([41, 29, 9].all fun u => !Tryz.prog.wantsStandIn u) = true := by kernel_rfl
        exact (show Tryz.prog.wantsStandIn t = false by simpa using List.all_eq_true.1 hall t hm)⟩)
    (by kernel_rfl)
#print axioms card_holds
end Go.Proofs.YthnkgifbbemhfaaGreatDoor.CardAnswerStatus
