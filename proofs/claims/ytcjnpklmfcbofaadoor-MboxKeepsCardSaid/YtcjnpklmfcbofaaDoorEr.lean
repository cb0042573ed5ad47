/- errors.Is at errors of errors.New's make, the thirteen errors of package api, and what number each has. (The walks of errors.Is are after the guide's worked text Sentry.) -/
import Derived.LaidEql
import Derived.Stop.Asserts
import Derived.RowKitTokens
import Derived.Test.YtcjnpklmfcbofaaDoorT
set_option linter.unusedVariables false
set_option linter.unusedSimpArgs false
namespace Go.Proofs.YtcjnpklmfcbofaaDoor
open Go.RowKit Go.Extern.Stop Go.Stop Go.Extern

theorem callTypeOf (v : Value) (w : World) : (callFunc 45 #[.iface 138 v]).run Tryd.prog w = .ok (.value (.iface 97 (.agg #[.pointer (some ⟨19, 138, none⟩)]))) w := by kernel_rfl
theorem callComparable (w : World) : (callFunc 108 #[.agg #[.pointer (some ⟨19, 138, none⟩)]]).run Tryd.prog w = .ok (.value (.bool true)) w := by kernel_rfl
theorem isMethodComparable (v : Value) (w : World) : (Go.method 272 97 v "Comparable").run Tryd.prog w = .ok (108, v) w := by kernel_rfl
theorem isComp : (Tryd.prog.info? 138).map (·.comparable) = some true := by kernel_rfl
theorem isSize : (Tryd.prog.info? 161).map (·.size) = some 1 := by kernel_rfl
theorem noIsE (v : Value) (xT : TypeId) (w : World) : (Instr.typeAssert (.iface 138 v) xT 99 true).run Tryd.prog w = .ok (.tuple #[.nilIface, .bool false]) w := run_typeAssert_lacksB Tryd.underlying99 (by kernel_rfl) (by kernel_rfl) v xT w
theorem noUnwrapE (v : Value) (xT : TypeId) (w : World) : (Instr.typeAssert (.iface 138 v) xT 102 true).run Tryd.prog w = .ok (.tuple #[.nilIface, .bool false]) w := run_typeAssert_lacksB Tryd.underlying102 (by kernel_rfl) (by kernel_rfl) v xT w
theorem noUnwrapsE (v : Value) (xT : TypeId) (w : World) : (Instr.typeAssert (.iface 138 v) xT 104 true).run Tryd.prog w = .ok (.tuple #[.nilIface, .bool false]) w := run_typeAssert_lacksB Tryd.underlying104 (by kernel_rfl) (by kernel_rfl) v xT w

set_option maxRecDepth 100000 in
/-- errors.Is(x, x), x a pointer to an errors.errorString. -/
theorem is_same (a : Addr) (w : World) :
    Calls Tryd.prog 26 #[.iface 138 (.pointer (some a)), .iface 138 (.pointer (some a))] w fun e w' => e = .returned (.bool true) ∧ w' = w := by
  obtain ⟨i, hi, hcmp⟩ := Option.map_eq_some_iff.1 isComp
  obtain ⟨j, hj, hjs⟩ := Option.map_eq_some_iff.1 isSize
  have tT := callTypeOf
  have cT := callComparable
  have mR := isMethodComparable
  have heq := run_eql_iface_ptr_same (P := Tryd.prog) w a Tryd.underlying25 Tryd.underlying138 hi hcmp hj
  go_enter Tryd.func26, Tryd.ntmps26
  go_wp2
  refine wp_loop_rounds 1 ?_
  rw [rounds_succ]
  go_wp2
  go_ret
  exact ⟨rfl, rfl⟩

set_option maxRecDepth 100000 in
/-- errors.Is(x, y), two different pointers to errors.errorString: neither has Is nor Unwrap: false. -/
theorem is_other (a b : Addr) (ca cb : Array Value) (ta tb : TypeId) (w : World) (hne : a ≠ b) (ha : w.heap[a.block]? = some (.cells ca ta (0, 0))) (hb : w.heap[b.block]? = some (.cells cb tb (0, 0))) :
    Calls Tryd.prog 26 #[.iface 138 (.pointer (some a)), .iface 138 (.pointer (some b))] w fun e w' => e = .returned (.bool false) ∧ w' = w := by
  obtain ⟨i, hi, hcmp⟩ := Option.map_eq_some_iff.1 isComp
  obtain ⟨j, hj, hjs⟩ := Option.map_eq_some_iff.1 isSize
  have tT := callTypeOf
  have cT := callComparable
  have mR := isMethodComparable
  have nE := noIsE
  have uE := noUnwrapE
  have vE := noUnwrapsE
  have heq := run_eql_iface_ptr_other (P := Tryd.prog) w Tryd.underlying25 Tryd.underlying138 hi hcmp hj (by rw [hjs]; decide) hne ha hb
  go_enter Tryd.func26, Tryd.ntmps26
  go_wp2
  refine wp_loop_rounds 1 ?_
  rw [rounds_succ]
  go_wp2
  go_ret
  exact ⟨rfl, rfl⟩

/-- the variables of the thirteen errors, in the document's order -/
def errG : Nat → Nat
  | 0 => 2 | 1 => 1 | 2 => 3 | 3 => 0 | 4 => 4 | 5 => 5 | 6 => 6 | 7 => 7 | 8 => 8 | 9 => 9 | 10 => 10 | 11 => 11 | _ => 12

/-- an error of errors.New's make, by where it lies -/
def errV (a : Addr) : Value := .iface 138 (.pointer (some a))

/-- what the listed variables hold: thirteen errors, each in a place of its own -/
structure Errs (w : World) (a : Nat → Addr) : Prop where
  cell : ∀ k, k < 13 → w.cell? ⟨errG k, 0, none⟩ = some (errV (a k))
  row : ∀ k, k < 13 → ∃ c t, w.heap[(a k).block]? = some (.cells c t (0, 0))
  ne : ∀ j k, j < 13 → k < 13 → j ≠ k → a j ≠ a k

theorem Errs.below {w w' : World} {a : Nat → Addr} (h : Errs w a) (hb : Below w.heap.size w w') : Errs w' a where
  cell k hk := by rw [hb.cell (cell_lt (h.cell k hk))]; exact h.cell k hk
  row k hk := by
    obtain ⟨c, t, e⟩ := h.row k hk
    refine ⟨c, t, ?_⟩
    rw [hb.block _ (by
      rcases Nat.lt_or_ge (a k).block w.heap.size with h1 | h1
      · exact h1
      · rw [Array.getElem?_eq_none h1] at e; cases e)]
    exact e
  ne := h.ne

set_option maxRecDepth 100000 in
/-- Num of nil. -/
theorem num_nil (w : World) : Calls Tryd.prog 13 #[.nilIface] w fun e w' => e = .returned (.int .i64 0) ∧ w' = w := by
  go_enter Tryd.func13, Tryd.ntmps13
  go_wp2
  go_ret
  exact ⟨rfl, rfl⟩

/-- the cells of Num's row -/
def errCells (a : Nat → Addr) : Array Value := #[errV (a 0), errV (a 1), errV (a 2), errV (a 3), errV (a 4), errV (a 5), errV (a 6), errV (a 7), errV (a 8), errV (a 9), errV (a 10), errV (a 11), errV (a 12)]

theorem errCells_at (a : Nat → Addr) (i : Nat) (h : i < 13) : (errCells a)[i]? = some (errV (a i)) := by
  rcases (by omega : i = 0 ∨ i = 1 ∨ i = 2 ∨ i = 3 ∨ i = 4 ∨ i = 5 ∨ i = 6 ∨ i = 7 ∨ i = 8 ∨ i = 9 ∨ i = 10 ∨ i = 11 ∨ i = 12) with rfl | rfl | rfl | rfl | rfl | rfl | rfl | rfl | rfl | rfl | rfl | rfl | rfl <;> rfl

set_option maxRecDepth 100000 in
set_option maxHeartbeats 2000000 in
/-- Num of one of the thirteen. -/
theorem num_err (w : World) (a : Nat → Addr) (k : Nat) (hk : k < 13) (hE : Errs w a) : Calls Tryd.prog 13 #[errV (a k)] w fun e w' => e = .returned (.int .i64 ((k : Int) + 1)) ∧ Below w.heap.size w w' := by
  have c0 := hE.cell 0 (by decide)
  have c1 := hE.cell 1 (by decide)
  have c2 := hE.cell 2 (by decide)
  have c3 := hE.cell 3 (by decide)
  have c4 := hE.cell 4 (by decide)
  have c5 := hE.cell 5 (by decide)
  have c6 := hE.cell 6 (by decide)
  have c7 := hE.cell 7 (by decide)
  have c8 := hE.cell 8 (by decide)
  have c9 := hE.cell 9 (by decide)
  have c10 := hE.cell 10 (by decide)
  have c11 := hE.cell 11 (by decide)
  have c12 := hE.cell 12 (by decide)
  simp only [errG, errV] at c0 c1 c2 c3 c4 c5 c6 c7 c8 c9 c10 c11 c12
  obtain ⟨W1, hW1⟩ : ∃ W1, W1 = w.alloc (.cells (errCells a) 25) := ⟨_, rfl⟩
  have hB : Below w.heap.size w W1 := by rw [hW1]; exact (Below.refl _ _).alloc (Nat.le_refl _) _
  have hE1 := hE.below hB
  have hcell : ∀ i : Nat, i < 13 → W1.cell? ⟨w.heap.size, i, none⟩ = some (.iface 138 (.pointer (some (a i)))) := by
    intro i hi
    have e := errCells_at a i hi
    rw [hW1]
    simpa [errV, errCells] using e
  have hfit : Hid (w.alloc (.cells #[.iface 138 (.pointer (some (a 0))), .iface 138 (.pointer (some (a 1))), .iface 138 (.pointer (some (a 2))), .iface 138 (.pointer (some (a 3))), .iface 138 (.pointer (some (a 4))), .iface 138 (.pointer (some (a 5))), .iface 138 (.pointer (some (a 6))), .iface 138 (.pointer (some (a 7))), .iface 138 (.pointer (some (a 8))), .iface 138 (.pointer (some (a 9))), .iface 138 (.pointer (some (a 10))), .iface 138 (.pointer (some (a 11))), .iface 138 (.pointer (some (a 12)))] 25) = W1) := Lib.hid hW1.symm
  clear hW1
  unfold errV
  go_enter Tryd.func13, Tryd.ntmps13
  go_wp2
  rw [hfit.out]
  clear hfit c0 c1 c2 c3 c4 c5 c6 c7 c8 c9 c10 c11 c12
  go_loop [24] (fun i => ∃ m : Nat, m ≤ k ∧ i = .int .i64 m) (fun i => 13 - (intOf i).toNat)
  case atStart => exact ⟨0, Nat.zero_le _, rfl⟩
  case round =>
    obtain ⟨m, hm, rfl⟩ := hrel
    have h13 : (m : Int) < 13 := by omega
    have hc := hcell m (by omega)
    clear hcell
    rcases Nat.lt_or_ge m k with hlt | hge
    · obtain ⟨ca, ta, ra⟩ := hE1.row k hk
      obtain ⟨cb, tb, rb⟩ := hE1.row m (by omega)
      have hne := Lib.hid (hE1.ne k m hk (by omega) (by omega))
      have hra := Lib.hid ra
      have hrb := Lib.hid rb
      clear ra rb
      go_wp2_with (go_at_call 26; refine (is_other (a k) (a m) ca cb ta tb _ hne.out hra.out hrb.out).mono ?_; rintro e w' ⟨rfl, rfl⟩)
      go_round
      case rel => exact ⟨m + 1, by omega, by go_num⟩
      case measure => simp [intOf]; omega
    · obtain rfl : m = k := by omega
      go_wp2_with (go_at_call 26; refine (is_same (a m) _).mono ?_; rintro e w' ⟨rfl, rfl⟩)
      go_ret
      exact ⟨rfl, hB⟩

end Go.Proofs.YtcjnpklmfcbofaaDoor
