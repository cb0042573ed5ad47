/- Texts of one walk, merged: XEl XSh. -/
import Derived.Test.YtifjibgnjjiggaaDoorWg
import Derived.LaidLaws
import Derived.Stop.LaidErr
import Derived.MakeChecks
import Derived.HandedShaped
import Derived.Handed
import Derived.Shelf.Vars

/- From 'the listed variables hold these data' to 'ErrFull holds an error'. -/
set_option linter.unusedVariables false
set_option linter.unusedSimpArgs false
section
set_option linter.unusedVariables false
set_option linter.unusedSimpArgs false
namespace Go.Proofs.YtifjibgnjjiggaaDoor
open Go.RowKit Go.ChangeShapes

/-- the error's text -/
def errText (_ : Nat) : List UInt8 := [112, 111, 115, 116, 98, 97, 103, 58, 32, 102, 117, 108, 108]
def errG (_ : Nat) : Nat := 0
/-- its name -/
def errName (_ : Nat) : String := "postbag/api.ErrFull"
def errDatum (k : Nat) : DataW Unit := .iface "*errors.errorString" (.ptr (.agg [.lit (.string (errText k))]))
theorem errNamed (k : Nat) (_ : k < 13) : Tryd.prog.globalNamed (errName k) = some (errG k) := by unfold errName errG; kernel_rfl
theorem errTyped (k : Nat) (_ : k < 13) : (Tryd.prog.globals[errG k]?).map (·.type) = some 38 := by unfold errG; kernel_rfl
theorem errStar : "*" ++ "errors.errorString" = "*errors.errorString" := by decide
theorem errRow (u : TypeId) (h : Tryd.prog.typeName? 3 u = some "*errors.errorString") : u = 126 :=
  typeName_ptr_named (nm := "errors.errorString") (by rw [errStar]; kernel_rfl) (by kernel_rfl) (by decide) u (by rw [errStar]; exact h)
theorem errCellsE : Tryd.prog.cellsOf 141 = 1 := by kernel_rfl
theorem errCellsS : Tryd.prog.cellsOf 9 = 1 := by kernel_rfl

theorem laid_err_any {P : Program} {laid : List (String × DataW Unit)} {W : World} {n nm : String} {g : Nat} {text : List UInt8} {ti tp te ts : TypeId} {ms : Array (String × TypeId)} {f : Field}
    (h : laidMet P laid W) (hm : (n, DataW.iface nm (.ptr (.agg [.lit (.string text)]))) ∈ laid)
    (hg : P.globalNamed n = some g) (ht : (P.globals[g]?).map (·.type) = some ti) (hi : P.underlying ti = some (.interface ms)) (hrow : ∀ u, P.typeName? 3 u = some nm → u = tp)
    (hp : P.underlying tp = some (.pointer te)) (he : P.underlying te = some (.struct #[f])) (hft : f.type = ts) (hfo : f.offset = 0) (hs : P.underlying ts = some .string) (hc : P.cellsOf te = 1) (hcs : P.cellsOf ts = 1) :
    ∃ a : Addr, W.cell? ⟨g, 0, none⟩ = some (.iface tp (.pointer (some a))) ∧ (∃ s : ByteArray, W.cell? a = some (.string s) ∧ s.data.toList = text) ∧ ∃ c t, W.heap[a.block]? = some (.cells c t (0, 0)) := by
  induction laid with
  | nil => cases hm
  | cons x r ih =>
    rcases List.mem_cons.1 hm with e | e
    · subst e
      obtain ⟨ps, ⟨g0, t0, cs0, f0, p0, q0, hg0, ht0, hv0, hd0, _, e0⟩, _, hrows⟩ := h
      obtain rfl := Option.some.inj (hg.symm.trans hg0)
      obtain rfl := Option.some.inj (ht.symm.trans ht0)
      subst e0
      obtain ⟨l0⟩ := cs0
      have ok0 : ∀ u v, l0 = [.iface u v] → Value.okWide P W .any 0 u v := fun u v e => by
        subst e
        exact (hrows g 0 (by simp [MemPlace.row])).2 u v (by simpa using World.var?_cell hg0 hv0 0)
      obtain ⟨a0, s0, rfl, hc0, hs0, _, rfl⟩ := errorString_of_trod hi hrow hp he hft hfo hs hc hcs hd0 ok0
      obtain ⟨c0, t0, hb0⟩ := (hrows a0.block a0.off (by simp [MemPlace.row])).1
      exact ⟨a0, by simpa using World.var?_cell hg0 hv0 0, ⟨s0, hc0, hs0⟩, c0, t0, hb0⟩
    · exact ih h.tail e

theorem laid_err {laid : List (String × DataW Unit)} {W : World} {n : String} {g : Nat} {text : List UInt8} (hgn : Tryd.prog.globalNamed n = some g) (hgt : (Tryd.prog.globals[g]?).map (·.type) = some 38)
    (h : laidMet Tryd.prog laid W) (hm : (n, DataW.iface "*errors.errorString" (.ptr (.agg [.lit (.string text)]))) ∈ laid) :
    ∃ a : Addr, W.cell? ⟨g, 0, none⟩ = some (errV a) ∧ (∃ s : ByteArray, W.cell? a = some (.string s) ∧ s.data.toList = text) ∧ ∃ c t, W.heap[a.block]? = some (.cells c t (0, 0)) :=
  laid_err_any h hm hgn hgt Tryd.underlying38 errRow Tryd.underlying126 Tryd.underlying141 rfl rfl Tryd.underlying9 errCellsE errCellsS

/-- one of the thirteen alone -/
theorem err_of_laid {laid : List (String × DataW Unit)} {W : World} (hn : (laid.all fun x => x.2.handleName?.isNone) = true) (h : laidMetH Tryd.prog laid W) (k : Nat) (hk : k < 13) (hm : (errName k, errDatum k) ∈ laid) : ∃ a, W.cell? ⟨errG k, 0, none⟩ = some (errV a) := by
  rw [MakeChecks.laidMetH_plain _ _ _ hn] at h
  obtain ⟨a, ha⟩ := laid_err (errNamed k hk) (errTyped k hk) h hm
  exact ⟨a, ha.1⟩

end Go.Proofs.YtifjibgnjjiggaaDoor
end

/- The wrap that hands the walk both: what the listed variables hold, and the world's shape. -/
set_option linter.unusedVariables false
set_option linter.unusedSimpArgs false
section
namespace Go
variable {H : Type} {enc : TypeId × Value → H}

theorem Proofs.YtifjibgnjjiggaaDoor.handed_and_shaped {a : Assume} {C : Checked} {os : Os} {f : FuncId} {fn : Func} {s : ChangeSpec} {conds : List PathCond} {apart fresh handsOn again : Bool} {X : World → Array Value → Prop}
    (hX : ∀ (w w' : World) (args : Array Value), w.heap = w'.heap → X w args → X w' args)
    (own : ownKnob C.prog.godebug = none) (started : os.Started) (noInit : C.prog.inits.idxOf? f = none) (hfn : C.prog.funcs[f]? = some fn)
    (witness : ∃ (w : World) (tape : Tape) (i : Input), w.os = os ∧ (w.forCall tape i).Shaped C.prog ∧ i.vars = [] ∧ Input.okWide C.prog (w.forCall tape i) .any w.heap.size f i ∧
      ((s.pre enc C.prog fn conds apart (w.forCall tape i).memory i.args ∧ X (w.forCall tape i).memory i.args) ∧ sizedMet enc C.prog fn (OpenSpec.ofChange s) apart (w.forCall tape i).memory i.args) ∧ a.holds C.prog (lone (Frame.enter C.prog f i.args .normal) [] (w.forCall tape i)))
    (contract : ∀ (W : World) (base : Nat) (args : Array Value) (ds gs : List (DataW H)) (before : List MemPlace),
      (∀ (j : Nat) t v, fn.params[j]? = some t → args[j]? = some v → Value.okWide C.prog W .any base t v) →
      DataW.Whole enc C.prog fn.params.toList s.vars apart W args.toList ds gs before →
      conds.all (PathCond.test C.prog ⟨fn.params.toList, ds, s.plain.varTypes C.prog, gs⟩) = true →
      (DataW.weightsEach C.prog (fn.params.toList ++ s.plain.varTypes C.prog) (ds ++ gs)).all (· ≤ reachBytes) = true → X W args → W.ShapedOpen C.prog →
      a.holds C.prog (lone (Frame.enter C.prog f args .normal) [] W) →
      Calls C.prog f args W fun e W' => ∃ v, e = .returned v ∧ s.post enc C.prog fn apart fresh handsOn again W args v W') :
    ReturnsInHanded a C os f .any (fun w args => (s.pre enc C.prog fn conds apart w args ∧ X w args) ∧ sizedMet enc C.prog fn (OpenSpec.ofChange s) apart w args) (s.post enc C.prog fn apart fresh handsOn again) := by
  refine returnsInHanded_of_calls own started noInit witness ?_
  intro w tape i _ hsh _ hok hpre hholds
  obtain ⟨_, _, _, fn', hfn', _, _, _, _, hval⟩ := hok
  have e : fn' = fn := Option.some.inj (hfn'.symm.trans hfn)
  subst e
  obtain ⟨⟨⟨ds, gs, before, hw, hc⟩, hx⟩, hz⟩ := hpre
  have hw' := DataW.Whole.of_heap (w' := w.forCall tape i) (by rfl) hw
  refine (contract (w.forCall tape i) w.heap.size i.args ds gs before hval hw' hc (hz.weights hw) (hX _ _ _ (by rfl) hx) hsh hholds).mono fun e W' ⟨v, he, hp⟩ => ?_
  subst he
  exact ChangeSpec.post_blind hp

/-- the library's variable holds some number -/
theorem Proofs.YtifjibgnjjiggaaDoor.maxLen_of {W : World} (h : W.ShapedOpen Tryd.prog) : ∃ m, W.cell? ⟨1, 0, none⟩ = some (.int .i64 m) :=
  Go.Proofs.cell_of_shapedOpen_int (zero := #[.int .i64 0]) (t := 3) h (of_decide_eq_true (by kernel_rfl)) (by kernel_rfl) rfl (by kernel_rfl) (by kernel_rfl) Tryd.underlying3

end Go
end
