/- MboxEntries: whatever the input, the law answers true: the row from the walk, and the tied card. -/
import Derived.Test.YtcjnpklmfcbofaaGreatDoorWm
import Derived.Test.YtcjnpklmfcbofaaGreatDoorRows
import Derived.Test.YtcjnpklmfcbofaaGreatDoorCards
import Derived.Test.YtcjnpklmfcbofaaGreatDoorTie
import Derived.ProofKit
import Derived.LaidMore
import Derived.OpenShut
import Derived.Stop.Joined
import Derived.SevenTiedAt
import Derived.ChangeMaps5
import Derived.Lay
import Derived.MakeChecks
namespace Go.Proofs.YtcjnpklmfcbofaaGreatDoor.CardMboxEntries
set_option linter.unusedVariables false
set_option linter.unusedSimpArgs false
open Go.ChangeShapes Go.WideShapes Go.ChangeAt Go.WideMaps Go.WideElems Go.RowKit Go.ChangeMaps

theorem own : ownKnob Tryz.prog.godebug = none := by kernel_rfl

theorem facts {W : World} (h : laidMetH Tryz.prog Rows.mboxEntriesRow.laid W) : ∃ a, Errs W a :=
  errs_of_laid (by kernel_rfl) h fun k hk => match k, hk with
    | 0, _ => List.mem_of_getElem? (i := 4) rfl
    | 1, _ => List.mem_of_getElem? (i := 5) rfl
    | 2, _ => List.mem_of_getElem? (i := 6) rfl
    | 3, _ => List.mem_of_getElem? (i := 7) rfl
    | 4, _ => List.mem_of_getElem? (i := 8) rfl
    | 5, _ => List.mem_of_getElem? (i := 9) rfl
    | 6, _ => List.mem_of_getElem? (i := 10) rfl
    | 7, _ => List.mem_of_getElem? (i := 11) rfl
    | 8, _ => List.mem_of_getElem? (i := 12) rfl
    | 9, _ => List.mem_of_getElem? (i := 13) rfl
    | 10, _ => List.mem_of_getElem? (i := 14) rfl
    | 11, _ => List.mem_of_getElem? (i := 15) rfl
    | 12, _ => List.mem_of_getElem? (i := 16) rfl
    | n + 13, h => absurd h (by omega)

theorem facts_tab {W : World} (h : laidMetH Tryz.prog Rows.mboxEntriesRow.laid W) : Tab W := by
  rw [MakeChecks.laidMetH_plain _ _ _ (by kernel_rfl)] at h
  exact tab_of_head (h.tail.tail)

theorem facts_sp {W : World} (h : laidMetH Tryz.prog Rows.mboxEntriesRow.laid W) : Spaces W := by
  rw [MakeChecks.laidMetH_plain _ _ _ (by kernel_rfl)] at h
  exact spaces_of_laid h (List.mem_of_getElem? (i := 18) (by kernel_rfl)) (List.mem_of_getElem? (i := 17) (by kernel_rfl))

set_option maxRecDepth 100000 in
theorem lifted (os : Os) (started : os.Started) (H : Type) (enc : TypeId × Value → H) :
    ReturnsInHanded {} Tryz.checked os 3 .any (fun w args => (Rows.mboxEntriesSpec.pre enc Tryz.prog Tryz.f3 [] false w args ∧ laidMetH Tryz.prog Rows.mboxEntriesRow.laid w) ∧ sizedMet enc Tryz.prog Tryz.f3 (OpenSpec.ofChange Rows.mboxEntriesSpec) false w args)
      (Rows.mboxEntriesSpec.post enc Tryz.prog Tryz.f3 false true false false) := by
  refine returnsInHanded_of_change_and (C := Tryz.checked) (X := fun w _ => laidMetH Tryz.prog Rows.mboxEntriesRow.laid w) (fun _ _ _ hh h => h.of_heap hh) own started (by kernel_rfl) Tryz.func3
    (ChangeSpec.witness_shaped (enc := enc) (C := Tryz.checked) (os := os) (X := fun w _ => laidMetH Tryz.prog Rows.mboxEntriesRow.laid w) false (World.laidAll Tryz.prog os Rows.mboxEntriesRow.laid) #[.string ⟨#[]⟩, .int .i64 0, .string ⟨#[]⟩] 8 (World.laidAll_os _ _ _) (World.shaped_of_ZipB (by kernel_rfl) (by kernel_rfl)) (by kernel_rfl) (by kernel_rfl) (by kernel_rfl) (by rw [MakeChecks.laidMetH_plain _ _ _ (by kernel_rfl)]; exact laidMet_laidAll _ (by kernel_rfl) (by kernel_rfl))) ?_
  intro W base args ds gs before hval0 hW _ _ hL _
  have hval : ∀ (j : Nat) t v, Tryz.f3.params[j]? = some t → args[j]? = some v → Value.okWide Tryz.prog W .any base t v := hval0
  have hW' := hW
  obtain ⟨p, q, hA0, hV, rfl, hfz, hnd⟩ := hW
  have hA : DataW.TrodAll enc Tryz.prog W 0 (fun _ => true) true Tryz.f3.params.toList args.toList ds p := hA0
  rw [Tryz.params3] at hA hval
  obtain ⟨v0, v1, v2, d0, d1, d2, p0, p1, p2, rfl, rfl, rfl, h0, h1, h2⟩ := trodAll_three hA
  obtain ⟨rfl, rfl⟩ := trodVars_none hV
  obtain ⟨a0, rfl, rfl, rfl, ws0⟩ := open_string Tryz.underlying9 (hval 0 9 v0 rfl rfl) h0
  obtain ⟨a1, rfl, rfl, rfl, wf1⟩ := open_int Tryz.underlying3 (hval 1 3 v1 rfl rfl) h1
  obtain ⟨a2, rfl, rfl, rfl, ws2⟩ := open_string Tryz.underlying9 (hval 2 9 v2 rfl rfl) h2
  clear hA0 hval0
  simp only [List.append_nil] at hW'
  obtain ⟨ae, hE⟩ := facts hL
  refine (mboxEntries_any a0 a1 a2 W ws0 ws2 ae hE (facts_tab hL) (facts_sp hL)).mono fun e W' ⟨he, hb⟩ => ?_
  subst he
  refine ⟨_, rfl, _, _, _, [], [], [], hW', ?_, ?_, rfl, hb.frame _, fun h => by cases h⟩
  · exact trodAll_mk1 (shut_bool Tryz.underlying4 true)
  · exact trodAll_mk3 (shut_string Tryz.underlying9 ws0) (shut_int Tryz.underlying3 wf1) (shut_string Tryz.underlying9 ws2)

theorem row_holds : Rows.MboxEntriesSaid :=
  OpenClaim.holds_of_wide 3 Tryz.f3 rfl rfl rfl rfl rfl rfl rfl ⟨rfl, rfl, rfl, rfl, rfl⟩ rfl rfl rfl rfl rfl (by kernel_rfl) Tryz.func3 (by kernel_rfl)
    (of_decide_eq_true (by kernel_rfl)) (by unfold Func.isWrapper; first | (rw [if_pos (by decide +kernel)]; kernel_rfl) | (rw [if_neg (by decide +kernel)]; exact ⟨rfl, rfl⟩))
    (fun os started H enc _ => lifted os started H enc)

theorem card_holds : Rows.MboxEntriesCardSaid :=
  Claim7.holds_tied_plain_at .later [] [.data, .data, .data, .data, .sentinel, .sentinel, .sentinel, .sentinel, .sentinel, .sentinel, .sentinel, .sentinel, .sentinel, .sentinel, .sentinel, .sentinel, .sentinel, .listed, .data, .pinned] true (true, "02eadfbdef3b98e16c6e66ae1306ba643e46e94a302593761f0bbe20550909de") true
    row_holds (fun _ h => by cases h) (by kernel_rfl) (fun _ h => by cases h) mboxEntries_row_tie rfl ⟨rfl, rfl⟩ (by kernel_rfl) rfl
    (fun f fn hf hfn => by
      obtain rfl : f = 3 := Option.some.inj ((show Tryz.prog.funcNamed "postbag/postbaglaw07.MboxEntries" = some 3 by kernel_rfl).symm.trans hf) |>.symm
      obtain rfl : fn = Tryz.f3 := (Option.some.inj (Tryz.func3.symm.trans hfn)).symm
      exact ⟨by kernel_rfl, fun j t ht => by
        rw [Tryz.params3] at ht
        have hm : t ∈ [9, 3, 9] := by simpa using Array.mem_of_getElem? ht
        have hall : ([9, 3, 9].all fun u => !Tryz.prog.wantsStandIn u) = true := by kernel_rfl
        exact (show Tryz.prog.wantsStandIn t = false by simpa using List.all_eq_true.1 hall t hm)⟩)
    (by kernel_rfl)
#print axioms card_holds
end Go.Proofs.YtcjnpklmfcbofaaGreatDoor.CardMboxEntries
