/- LinesPlays: whatever the input, the law answers true: the row from the walk, and the tied card. -/
import Derived.Test.YtglopeijohdobaaDoorLE
import Derived.Test.YtglopeijohdobaaDoorRows
import Derived.Test.YtglopeijohdobaaDoorCards
import Derived.Test.YtglopeijohdobaaDoorTie
import Derived.ProofKit
import Derived.LaidMore
import Derived.OpenShut
import Derived.Stop.Joined
import Derived.SevenTiedAt
import Derived.Test.YtglopeijohdobaaDoorEl
namespace Go.Proofs.YtglopeijohdobaaDoor.CardLinesPlays
set_option linter.unusedVariables false
set_option linter.unusedSimpArgs false
open Go.ChangeShapes Go.WideShapes Go.ChangeAt Go.WideMaps Go.WideElems Go.RowKit

theorem own : ownKnob Tryd.prog.godebug = none := by kernel_rfl
theorem door_met (os : Os) (args : Array Value) : laidMetH Tryd.prog Rows.linesPlaysRow.laid ((World.doorLaid Tryd.prog 400 os).forCall (fun _ _ => 0) ⟨#[], args, []⟩).memory :=
  laidMetH_of_parts3 (fuel := 8) (laidMet_of_run' 8 (by kernel_rfl) (by kernel_rfl)) (by kernel_rfl) (by kernel_rfl)

theorem facts {W : World} (h : laidMetH Tryd.prog Rows.linesPlaysRow.laid W) : ∃ a, Errs W a :=
  errs_of_laid (by kernel_rfl) h fun k hk => match k, hk with
    | 0, _ => List.mem_of_getElem? (i := 0) rfl
    | 1, _ => List.mem_of_getElem? (i := 1) rfl
    | 2, _ => List.mem_of_getElem? (i := 2) rfl
    | 3, _ => List.mem_of_getElem? (i := 3) rfl
    | 4, _ => List.mem_of_getElem? (i := 4) rfl
    | 5, _ => List.mem_of_getElem? (i := 5) rfl
    | 6, _ => List.mem_of_getElem? (i := 6) rfl
    | 7, _ => List.mem_of_getElem? (i := 7) rfl
    | 8, _ => List.mem_of_getElem? (i := 8) rfl
    | 9, _ => List.mem_of_getElem? (i := 9) rfl
    | 10, _ => List.mem_of_getElem? (i := 10) rfl
    | 11, _ => List.mem_of_getElem? (i := 11) rfl
    | 12, _ => List.mem_of_getElem? (i := 12) rfl
    | n + 13, h => absurd h (by omega)

set_option maxRecDepth 100000 in
theorem lifted (os : Os) (started : os.Started) (H : Type) (enc : TypeId × Value → H) :
    ReturnsInHanded {} Tryd.checked os 5 .any (fun w args => (Rows.linesPlaysSpec.pre enc Tryd.prog Tryd.f5 [] false w args ∧ laidMetH Tryd.prog Rows.linesPlaysRow.laid w) ∧ sizedMet enc Tryd.prog Tryd.f5 (OpenSpec.ofChange Rows.linesPlaysSpec) false w args)
      (Rows.linesPlaysSpec.post enc Tryd.prog Tryd.f5 false true false false) := by
  refine returnsInHanded_of_change_and (C := Tryd.checked) (X := fun w _ => laidMetH Tryd.prog Rows.linesPlaysRow.laid w) (fun _ _ _ hh h => h.of_heap hh) own started (by kernel_rfl) Tryd.func5
    (ChangeSpec.witness_shaped (enc := enc) (C := Tryd.checked) (os := os) (X := fun w _ => laidMetH Tryd.prog Rows.linesPlaysRow.laid w) false (World.doorLaid Tryd.prog 400 os) #[.slice none 0 0] 8 rfl (World.shaped_of_RefB (by kernel_rfl) (by kernel_rfl)) (by kernel_rfl) (by kernel_rfl) (by kernel_rfl) (door_met os _)) ?_
  intro W base args ds gs before hval0 hW _ hreach hL _
  have hval : ∀ (j : Nat) t v, Tryd.f5.params[j]? = some t → args[j]? = some v → Value.okWide Tryd.prog W .any base t v := hval0
  have hW' := hW
  obtain ⟨p, q, hA0, hV, rfl, hfz, hnd⟩ := hW
  have hA : DataW.TrodAll enc Tryd.prog W 0 (fun _ => true) true Tryd.f5.params.toList args.toList ds p := hA0
  rw [Tryd.params5] at hA hval
  obtain ⟨v0, d0, rfl, rfl, h0⟩ := trodAll_one hA
  obtain ⟨rfl, rfl⟩ := trodVars_none hV
  obtain ⟨sa0, sn0, sc0, rfl⟩ := okWide_slice Tryd.underlying37 (hval 0 37 v0 rfl rfl)
  obtain ⟨a0, g0, q0, _⟩ := arg_ops Tryd.underlying37 h0
  clear hA0 hval0
  simp only [List.append_nil] at hW'
  obtain ⟨ae, hE⟩ := facts hL
  refine (linesPlays_any _ a0 W g0 (ops_sized hreach 0 rfl rfl q0) ae hE).mono fun e W' ⟨he, hb⟩ => ?_
  subst he
  refine ⟨_, rfl, _, _, _, [], p, [], hW', ?_, ?_, rfl, hb.frame _, fun h => by cases h⟩
  · exact trodAll_mk1 (shut_bool Tryd.underlying4 true)
  · have h9 := trodAll_mk1 (Below.trod (by kernel_rfl) (by kernel_rfl) (of_decide_eq_true (by kernel_rfl)) h0 hb (fun x hx => by obtain ⟨_, hf⟩ := h0; exact DataW.trod_lt _ _ _ _ hf x hx))
    exact h9

theorem row_holds : Rows.LinesPlaysSaid :=
  OpenClaim.holds_of_wide 5 Tryd.f5 rfl rfl rfl rfl rfl rfl rfl ⟨rfl, rfl, rfl, rfl, rfl⟩ rfl rfl rfl rfl rfl (by kernel_rfl) Tryd.func5 (by kernel_rfl)
    (of_decide_eq_true (by kernel_rfl)) (by unfold Func.isWrapper; first | (rw [if_pos (by decide +kernel)]; kernel_rfl) | (rw [if_neg (by decide +kernel)]; exact ⟨rfl, rfl⟩))
    (fun os started H enc _ => lifted os started H enc)

theorem card_holds : Rows.LinesPlaysCardSaid :=
  Claim7.holds_tied_plain_at .later [] [.sentinel, .sentinel, .sentinel, .sentinel, .sentinel, .sentinel, .sentinel, .sentinel, .sentinel, .sentinel, .sentinel, .sentinel, .sentinel] true (true, "d23c972b2e412363b7214f7711ec9a7ff3d02b739847a776731870948c10148b") true
    row_holds (fun _ h => by cases h) (by kernel_rfl) (fun _ h => by cases h) linesPlays_row_tie rfl ⟨rfl, rfl⟩ (by kernel_rfl) rfl
    (fun f fn hf hfn => by
      obtain rfl : f = 5 := Option.some.inj ((show Tryd.prog.funcNamed "postbag/postbaglaw02.LinesPlays" = some 5 by kernel_rfl).symm.trans hf) |>.symm
      obtain rfl : fn = Tryd.f5 := (Option.some.inj (Tryd.func5.symm.trans hfn)).symm
      exact ⟨by kernel_rfl, fun j t ht => by
        rw [Tryd.params5] at ht
        have hm : t ∈ [37] := by simpa using Array.mem_of_getElem? ht
        have hall : ([37].all fun u => !Tryd.prog.wantsStandIn u) = true := by kernel_rfl
        exact (show Tryd.prog.wantsStandIn t = false by simpa using List.all_eq_true.1 hall t hm)⟩)
    (by kernel_rfl)
#print axioms card_holds
end Go.Proofs.YtglopeijohdobaaDoor.CardLinesPlays
