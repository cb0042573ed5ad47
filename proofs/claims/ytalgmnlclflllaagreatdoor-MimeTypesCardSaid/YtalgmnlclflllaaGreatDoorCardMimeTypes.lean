/- MimeTypes: whatever the input, the law answers true: the row from the walk, and the tied card. -/
import Derived.Test.YtalgmnlclflllaaGreatDoorVa
import Derived.Test.YtalgmnlclflllaaGreatDoorRows
import Derived.Test.YtalgmnlclflllaaGreatDoorCards
import Derived.Test.YtalgmnlclflllaaGreatDoorTie
import Derived.ProofKit
import Derived.LaidMore
import Derived.OpenShut
import Derived.Stop.Joined
import Derived.SevenTiedAt
import Derived.ChangeMaps5
import Derived.Lay
import Derived.MakeChecks
namespace Go.Proofs.YtalgmnlclflllaaGreatDoor.CardMimeTypes
set_option linter.unusedVariables false
set_option linter.unusedSimpArgs false
open Go.ChangeShapes Go.WideShapes Go.ChangeAt Go.WideMaps Go.WideElems Go.RowKit Go.ChangeMaps

theorem own : ownKnob Tryz.prog.godebug = none := by kernel_rfl

theorem facts {W : World} (h : laidMetH Tryz.prog Rows.mimeTypesRow.laid W) : ∃ a, Errs W a :=
  errs_of_laid (by kernel_rfl) h fun k hk => match k, hk with
    | 0, _ => List.mem_of_getElem? (i := 4) rfl
    | 1, _ => List.mem_of_getElem? (i := 5) rfl
    | 2, _ => List.mem_of_getElem? (i := 6) rfl
    | 3, _ => List.mem_of_getElem? (i := 7) rfl
    | 4, _ => List.mem_of_getElem? (i := 8) rfl
    | 5, _ => List.mem_of_getElem? (i := 9) rfl
    | 6, _ => List.mem_of_getElem? (i := 10) rfl
    | 7, _ => List.mem_of_getElem? (i := 11) rfl
    | 8, _ => List.mem_of_getElem? (i := 12) rfl
    | 9, _ => List.mem_of_getElem? (i := 13) rfl
    | 10, _ => List.mem_of_getElem? (i := 14) rfl
    | 11, _ => List.mem_of_getElem? (i := 15) rfl
    | 12, _ => List.mem_of_getElem? (i := 16) rfl
    | n + 13, h => absurd h (by omega)

theorem facts_tab {W : World} (h : laidMetH Tryz.prog Rows.mimeTypesRow.laid W) : Tab W := by
  rw [MakeChecks.laidMetH_plain _ _ _ (by kernel_rfl)] at h
  exact tab_of_head (h.tail.tail)

set_option maxRecDepth 100000 in
theorem lifted (os : Os) (started : os.Started) (H : Type) (enc : TypeId × Value → H) :
    ReturnsInHanded {} Tryz.checked os 9 .any (fun w args => (Rows.mimeTypesSpec.pre enc Tryz.prog Tryz.f9 [] false w args ∧ laidMetH Tryz.prog Rows.mimeTypesRow.laid w) ∧ sizedMet enc Tryz.prog Tryz.f9 (OpenSpec.ofChange Rows.mimeTypesSpec) false w args)
      (Rows.mimeTypesSpec.post enc Tryz.prog Tryz.f9 false true false false) := by
  refine handed_and_shaped (C := Tryz.checked) (X := fun w _ => laidMetH Tryz.prog Rows.mimeTypesRow.laid w) (fun _ _ _ hh h => h.of_heap hh) own started (by kernel_rfl) Tryz.func9
    (ChangeSpec.witness_shaped (enc := enc) (C := Tryz.checked) (os := os) (X := fun w _ => laidMetH Tryz.prog Rows.mimeTypesRow.laid w) false (World.laidAll Tryz.prog os Rows.mimeTypesRow.laid) #[.string ⟨#[]⟩] 8 (World.laidAll_os _ _ _) (World.shaped_of_ZipB (by kernel_rfl) (by kernel_rfl)) (by kernel_rfl) (by kernel_rfl) (by kernel_rfl) (by rw [MakeChecks.laidMetH_plain _ _ _ (by kernel_rfl)]; exact laidMet_laidAll _ (by kernel_rfl) (by kernel_rfl))) ?_
  intro W base args ds gs before hval0 hW _ _ hL hSh _
  have hval : ∀ (j : Nat) t v, Tryz.f9.params[j]? = some t → args[j]? = some v → Value.okWide Tryz.prog W .any base t v := hval0
  have hW' := hW
  obtain ⟨p, q, hA0, hV, rfl, hfz, hnd⟩ := hW
  have hA : DataW.TrodAll enc Tryz.prog W 0 (fun _ => true) true Tryz.f9.params.toList args.toList ds p := hA0
  rw [Tryz.params9] at hA hval
  obtain ⟨v0, d0, rfl, rfl, h0⟩ := trodAll_one hA
  obtain ⟨rfl, rfl⟩ := trodVars_none hV
  obtain ⟨a0, rfl, rfl, rfl, ws0⟩ := open_string Tryz.underlying9 (hval 0 9 v0 rfl rfl) h0
  clear hA0 hval0
  simp only [List.append_nil] at hW'
  obtain ⟨ae, hE⟩ := facts hL
  obtain ⟨mx, hmx⟩ := maxLen_of hSh
  refine (mimeTypes_any a0 W ws0 ae hE (facts_tab hL) mx hmx).mono fun e W' ⟨he, hb⟩ => ?_
  subst he
  refine ⟨_, rfl, _, _, _, [], [], [], hW', ?_, ?_, rfl, hb.frame _, fun h => by cases h⟩
  · exact trodAll_mk1 (shut_bool Tryz.underlying4 true)
  · exact trodAll_mk1 (shut_string Tryz.underlying9 ws0)

theorem row_holds : Rows.MimeTypesSaid :=
  OpenClaim.holds_of_wide 9 Tryz.f9 rfl rfl rfl rfl rfl rfl rfl ⟨rfl, rfl, rfl, rfl, rfl⟩ rfl rfl rfl rfl rfl (by kernel_rfl) Tryz.func9 (by kernel_rfl)
    (of_decide_eq_true (by kernel_rfl)) (by unfold Func.isWrapper; first | (rw [if_pos (by decide +kernel)]; kernel_rfl) | (rw [if_neg (by decide +kernel)]; exact ⟨rfl, rfl⟩))
    (fun os started H enc _ => lifted os started H enc)

theorem card_holds : Rows.MimeTypesCardSaid :=
  Claim7.holds_tied_plain_at .later [] [.data, .data, .data, .data, .sentinel, .sentinel, .sentinel, .sentinel, .sentinel, .sentinel, .sentinel, .sentinel, .sentinel, .sentinel, .sentinel, .sentinel, .sentinel, .pinned] true (true, "a57c1ec093517049a133646abc9ede5606680379efc59a1b8eb91147b8cb2f04") true
    row_holds (fun _ h => by cases h) (by kernel_rfl) (fun _ h => by cases h) mimeTypes_row_tie rfl ⟨rfl, rfl⟩ (by kernel_rfl) rfl
    (fun f fn hf hfn => by
      obtain rfl : f = 9 := Option.some.inj ((show Tryz.prog.funcNamed "postbag/postbaglaw10.MimeTypes" = some 9 by kernel_rfl).symm.trans hf) |>.symm
      obtain rfl : fn = Tryz.f9 := (Option.some.inj (Tryz.func9.symm.trans hfn)).symm
      exact ⟨by kernel_rfl, fun j t ht => by
        rw [Tryz.params9] at ht
        have hm : t ∈ [9] := by simpa using Array.mem_of_getElem? ht
        have hall : ([9].all fun u => !Tryz.prog.wantsStandIn u) = true := by kernel_rfl
        exact (show Tryz.prog.wantsStandIn t = false by simpa using List.all_eq_true.1 hall t hm)⟩)
    (by kernel_rfl)
#print axioms card_holds
end Go.Proofs.YtalgmnlclflllaaGreatDoor.CardMimeTypes
