/- Texts of one walk, merged: XSh XEl. -/
import Derived.Test.YtalgmnlclflllaaGreatDoorWi
import Derived.HandedShaped
import Derived.Handed
import Derived.Shelf.Vars
import Derived.LaidLaws
import Derived.Stop.LaidErr
import Derived.MakeChecks

/- The wrap that hands the walk both: what the listed variables hold, and the world's shape. -/
set_option linter.unusedVariables false
set_option linter.unusedSimpArgs false
section
set_option linter.unusedVariables false
set_option linter.unusedSimpArgs false
namespace Go
variable {H : Type} {enc : TypeId × Value → H}

theorem Proofs.YtalgmnlclflllaaGreatDoor.handed_and_shaped {a : Assume} {C : Checked} {os : Os} {f : FuncId} {fn : Func} {s : ChangeSpec} {conds : List PathCond} {apart fresh handsOn again : Bool} {X : World → Array Value → Prop}
    (hX : ∀ (w w' : World) (args : Array Value), w.heap = w'.heap → X w args → X w' args)
    (own : ownKnob C.prog.godebug = none) (started : os.Started) (noInit : C.prog.inits.idxOf? f = none) (hfn : C.prog.funcs[f]? = some fn)
    (witness : ∃ (w : World) (tape : Tape) (i : Input), w.os = os ∧ (w.forCall tape i).Shaped C.prog ∧ i.vars = [] ∧ Input.okWide C.prog (w.forCall tape i) .any w.heap.size f i ∧
      ((s.pre enc C.prog fn conds apart (w.forCall tape i).memory i.args ∧ X (w.forCall tape i).memory i.args) ∧ sizedMet enc C.prog fn (OpenSpec.ofChange s) apart (w.forCall tape i).memory i.args) ∧ a.holds C.prog (lone (Frame.enter C.prog f i.args .normal) [] (w.forCall tape i)))
    (contract : ∀ (W : World) (base : Nat) (args : Array Value) (ds gs : List (DataW H)) (before : List MemPlace),
      (∀ (j : Nat) t v, fn.params[j]? = some t → args[j]? = some v → Value.okWide C.prog W .any base t v) →
      DataW.Whole enc C.prog fn.params.toList s.vars apart W args.toList ds gs before →
      conds.all (PathCond.test C.prog ⟨fn.params.toList, ds, s.plain.varTypes C.prog, gs⟩) = true →
      (DataW.weightsEach C.prog (fn.params.toList ++ s.plain.varTypes C.prog) (ds ++ gs)).all (· ≤ reachBytes) = true → X W args → W.ShapedOpen C.prog →
      a.holds C.prog (lone (Frame.enter C.prog f args .normal) [] W) →
      Calls C.prog f args W fun e W' => ∃ v, e = .returned v ∧ s.post enc C.prog fn apart fresh handsOn again W args v W') :
    ReturnsInHanded a C os f .any (fun w args => (s.pre enc C.prog fn conds apart w args ∧ X w args) ∧ sizedMet enc C.prog fn (OpenSpec.ofChange s) apart w args) (s.post enc C.prog fn apart fresh handsOn again) := by
  refine returnsInHanded_of_calls own started noInit witness ?_
  intro w tape i _ hsh _ hok hpre hholds
  obtain ⟨_, _, _, fn', hfn', _, _, _, _, hval⟩ := hok
  have e : fn' = fn := Option.some.inj (hfn'.symm.trans hfn)
  subst e
  obtain ⟨⟨⟨ds, gs, before, hw, hc⟩, hx⟩, hz⟩ := hpre
  have hw' := DataW.Whole.of_heap (w' := w.forCall tape i) (by rfl) hw
  refine (contract (w.forCall tape i) w.heap.size i.args ds gs before hval hw' hc (hz.weights hw) (hX _ _ _ (by rfl) hx) hsh hholds).mono fun e W' ⟨v, he, hp⟩ => ?_
  subst he
  exact ChangeSpec.post_blind hp

/-- the library's variable holds some number -/
theorem Proofs.YtalgmnlclflllaaGreatDoor.maxLen_of {W : World} (h : W.ShapedOpen Tryz.prog) : ∃ m, W.cell? ⟨14, 0, none⟩ = some (.int .i64 m) :=
  Go.Proofs.cell_of_shapedOpen_int (zero := #[.int .i64 0]) (t := 3) h (of_decide_eq_true (by kernel_rfl)) (by kernel_rfl) rfl (by kernel_rfl) (by kernel_rfl) Tryz.underlying3

end Go
end

/- From 'the listed variables hold these data' to 'they hold thirteen errors, each in a place of its own'. -/
set_option linter.unusedVariables false
set_option linter.unusedSimpArgs false
section
namespace Go.Proofs.YtalgmnlclflllaaGreatDoor
open Go.RowKit Go.ChangeShapes

/-- the texts of the thirteen errors -/
def errText : Nat → List UInt8
  | 0 => [112, 111, 115, 116, 98, 97, 103, 58, 32, 114, 97, 110, 103, 101]
  | 1 => [112, 111, 115, 116, 98, 97, 103, 58, 32, 102, 111, 114, 109]
  | 2 => [112, 111, 115, 116, 98, 97, 103, 58, 32, 108, 111, 110, 103]
  | 3 => [112, 111, 115, 116, 98, 97, 103, 58, 32, 110, 97, 109, 101]
  | 4 => [112, 111, 115, 116, 98, 97, 103, 58, 32, 110, 111, 110, 101]
  | 5 => [112, 111, 115, 116, 98, 97, 103, 58, 32, 101, 120, 105, 115, 116, 115]
  | 6 => [112, 111, 115, 116, 98, 97, 103, 58, 32, 113, 117, 111, 116, 97]
  | 7 => [112, 111, 115, 116, 98, 97, 103, 58, 32, 112, 111, 119, 101, 114]
  | 8 => [112, 111, 115, 116, 98, 97, 103, 58, 32, 115, 116, 97, 116, 101]
  | 9 => [112, 111, 115, 116, 98, 97, 103, 58, 32, 115, 117, 109]
  | 10 => [112, 111, 115, 116, 98, 97, 103, 58, 32, 102, 117, 108, 108]
  | 11 => [112, 111, 115, 116, 98, 97, 103, 58, 32, 100, 101, 112, 116, 104]
  | _ => [112, 111, 115, 116, 98, 97, 103, 58, 32, 117, 115, 101, 114]

theorem errText_inj : ∀ j < 13, ∀ k < 13, errText j = errText k → j = k := by decide

/-- their names -/
def errName : Nat → String
  | 0 => "postbag/api.ErrRange" | 1 => "postbag/api.ErrForm" | 2 => "postbag/api.ErrLong" | 3 => "postbag/api.ErrName" | 4 => "postbag/api.ErrNone" | 5 => "postbag/api.ErrExists" | 6 => "postbag/api.ErrQuota" | 7 => "postbag/api.ErrPower" | 8 => "postbag/api.ErrState" | 9 => "postbag/api.ErrSum" | 10 => "postbag/api.ErrFull" | 11 => "postbag/api.ErrDepth" | _ => "postbag/api.ErrUser"

def errDatum (k : Nat) : DataW Unit := .iface "*errors.errorString" (.ptr (.agg [.lit (.string (errText k))]))

theorem errNamed (k : Nat) (hk : k < 13) : Tryz.prog.globalNamed (errName k) = some (errG k) := by
  rcases (by omega : k = 0 ∨ k = 1 ∨ k = 2 ∨ k = 3 ∨ k = 4 ∨ k = 5 ∨ k = 6 ∨ k = 7 ∨ k = 8 ∨ k = 9 ∨ k = 10 ∨ k = 11 ∨ k = 12) with rfl | rfl | rfl | rfl | rfl | rfl | rfl | rfl | rfl | rfl | rfl | rfl | rfl <;> kernel_rfl
theorem errTyped (k : Nat) (hk : k < 13) : (Tryz.prog.globals[errG k]?).map (·.type) = some 44 := by
  rcases (by omega : k = 0 ∨ k = 1 ∨ k = 2 ∨ k = 3 ∨ k = 4 ∨ k = 5 ∨ k = 6 ∨ k = 7 ∨ k = 8 ∨ k = 9 ∨ k = 10 ∨ k = 11 ∨ k = 12) with rfl | rfl | rfl | rfl | rfl | rfl | rfl | rfl | rfl | rfl | rfl | rfl | rfl <;> kernel_rfl
theorem errStar : "*" ++ "errors.errorString" = "*errors.errorString" := by decide
theorem errRow (u : TypeId) (h : Tryz.prog.typeName? 3 u = some "*errors.errorString") : u = 185 :=
  typeName_ptr_named (nm := "errors.errorString") (by rw [errStar]; kernel_rfl) (by kernel_rfl) (by decide) u (by rw [errStar]; exact h)
theorem errCellsE : Tryz.prog.cellsOf 208 = 1 := by kernel_rfl
theorem errCellsS : Tryz.prog.cellsOf 9 = 1 := by kernel_rfl

theorem laid_err_any {P : Program} {laid : List (String × DataW Unit)} {W : World} {n nm : String} {g : Nat} {text : List UInt8} {ti tp te ts : TypeId} {ms : Array (String × TypeId)} {f : Field}
    (h : laidMet P laid W) (hm : (n, DataW.iface nm (.ptr (.agg [.lit (.string text)]))) ∈ laid)
    (hg : P.globalNamed n = some g) (ht : (P.globals[g]?).map (·.type) = some ti) (hi : P.underlying ti = some (.interface ms)) (hrow : ∀ u, P.typeName? 3 u = some nm → u = tp)
    (hp : P.underlying tp = some (.pointer te)) (he : P.underlying te = some (.struct #[f])) (hft : f.type = ts) (hfo : f.offset = 0) (hs : P.underlying ts = some .string) (hc : P.cellsOf te = 1) (hcs : P.cellsOf ts = 1) :
    ∃ a : Addr, W.cell? ⟨g, 0, none⟩ = some (.iface tp (.pointer (some a))) ∧ (∃ s : ByteArray, W.cell? a = some (.string s) ∧ s.data.toList = text) ∧ ∃ c t, W.heap[a.block]? = some (.cells c t (0, 0)) := by
  induction laid with
  | nil => cases hm
  | cons x r ih =>
    rcases List.mem_cons.1 hm with e | e
    · subst e
      obtain ⟨ps, ⟨g0, t0, cs0, f0, p0, q0, hg0, ht0, hv0, hd0, _, e0⟩, _, hrows⟩ := h
      obtain rfl := Option.some.inj (hg.symm.trans hg0)
      obtain rfl := Option.some.inj (ht.symm.trans ht0)
      subst e0
      obtain ⟨l0⟩ := cs0
      have ok0 : ∀ u v, l0 = [.iface u v] → Value.okWide P W .any 0 u v := fun u v e => by
        subst e
        exact (hrows g 0 (by simp [MemPlace.row])).2 u v (by simpa using World.var?_cell hg0 hv0 0)
      obtain ⟨a0, s0, rfl, hc0, hs0, _, rfl⟩ := errorString_of_trod hi hrow hp he hft hfo hs hc hcs hd0 ok0
      obtain ⟨c0, t0, hb0⟩ := (hrows a0.block a0.off (by simp [MemPlace.row])).1
      exact ⟨a0, by simpa using World.var?_cell hg0 hv0 0, ⟨s0, hc0, hs0⟩, c0, t0, hb0⟩
    · exact ih h.tail e

theorem laid_err {laid : List (String × DataW Unit)} {W : World} {n : String} {g : Nat} {text : List UInt8} (hgn : Tryz.prog.globalNamed n = some g) (hgt : (Tryz.prog.globals[g]?).map (·.type) = some 44)
    (h : laidMet Tryz.prog laid W) (hm : (n, DataW.iface "*errors.errorString" (.ptr (.agg [.lit (.string text)]))) ∈ laid) :
    ∃ a : Addr, W.cell? ⟨g, 0, none⟩ = some (errV a) ∧ (∃ s : ByteArray, W.cell? a = some (.string s) ∧ s.data.toList = text) ∧ ∃ c t, W.heap[a.block]? = some (.cells c t (0, 0)) :=
  laid_err_any h hm hgn hgt Tryz.underlying44 errRow Tryz.underlying185 Tryz.underlying208 rfl rfl Tryz.underlying9 errCellsE errCellsS

theorem errs_of_laid {laid : List (String × DataW Unit)} {W : World} (hn : (laid.all fun x => x.2.handleName?.isNone) = true) (h : laidMetH Tryz.prog laid W) (hm : ∀ k, k < 13 → (errName k, errDatum k) ∈ laid) : ∃ a, Errs W a := by
  rw [MakeChecks.laidMetH_plain _ _ _ hn] at h
  have H : ∀ k : Nat, ∃ a : Addr, k < 13 → W.cell? ⟨errG k, 0, none⟩ = some (errV a) ∧ (∃ s : ByteArray, W.cell? a = some (.string s) ∧ s.data.toList = errText k) ∧ ∃ c t, W.heap[a.block]? = some (.cells c t (0, 0)) := fun k => by
    by_cases hk : k < 13
    · obtain ⟨a, ha⟩ := laid_err (errNamed k hk) (errTyped k hk) h (hm k hk)
      exact ⟨a, fun _ => ha⟩
    · exact ⟨⟨0, 0, none⟩, fun h => absurd h hk⟩
  obtain ⟨a, ha⟩ := Classical.axiomOfChoice H
  refine ⟨a, fun k hk => (ha k hk).1, fun k hk => (ha k hk).2.2, fun j k hj hk hne e => ?_⟩
  obtain ⟨s, c1, c2⟩ := (ha j hj).2.1
  obtain ⟨s', d1, d2⟩ := (ha k hk).2.1
  rw [e, d1] at c1
  obtain rfl := Value.string.inj (Option.some.inj c1)
  exact hne (errText_inj j hj k hk (c2.symm.trans d2))

/-- one of the thirteen alone -/
theorem err_of_laid {laid : List (String × DataW Unit)} {W : World} (hn : (laid.all fun x => x.2.handleName?.isNone) = true) (h : laidMetH Tryz.prog laid W) (k : Nat) (hk : k < 13) (hm : (errName k, errDatum k) ∈ laid) : ∃ a, W.cell? ⟨errG k, 0, none⟩ = some (errV a) := by
  rw [MakeChecks.laidMetH_plain _ _ _ hn] at h
  obtain ⟨a, ha⟩ := laid_err (errNamed k hk) (errTyped k hk) h hm
  exact ⟨a, ha.1⟩

end Go.Proofs.YtalgmnlclflllaaGreatDoor
end
