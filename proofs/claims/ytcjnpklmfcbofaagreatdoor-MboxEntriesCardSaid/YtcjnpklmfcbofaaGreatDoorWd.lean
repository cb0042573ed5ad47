/- Texts of one walk, merged: XEr XQ2 XQ3 XQ4 XQ5 XQ6 XM5 XM8 XM9. -/
import Derived.Test.YtcjnpklmfcbofaaGreatDoorWc
import Derived.LaidEql
import Derived.Stop.Asserts
import Derived.RowKitTokens
import Derived.Laws.OwnMore
import Derived.LoopTactic
import Derived.BigQuiet
import Derived.Deep.DeepCutAuto
import Derived.Deep.CutBlock

/- errors.Is at errors of errors.New's make, the thirteen errors of package api, and what number each has. (The walks of errors.Is are after the guide's worked text Sentry.) -/
set_option linter.unusedVariables false
set_option linter.unusedSimpArgs false
section
set_option linter.unusedVariables false
set_option linter.unusedSimpArgs false
namespace Go.Proofs.YtcjnpklmfcbofaaGreatDoor
open Go.RowKit Go.Extern.Stop Go.Stop Go.Extern

theorem callTypeOf (v : Value) (w : World) : (callFunc 39 #[.iface 182 v]).run Tryz.prog w = .ok (.value (.iface 103 (.agg #[.pointer (some ⟨22, 182, none⟩)]))) w := by kernel_rfl
theorem callComparable (w : World) : (callFunc 149 #[.agg #[.pointer (some ⟨22, 182, none⟩)]]).run Tryz.prog w = .ok (.value (.bool true)) w := by kernel_rfl
theorem isMethodComparable (v : Value) (w : World) : (Go.method 314 103 v "Comparable").run Tryz.prog w = .ok (149, v) w := by kernel_rfl
theorem isComp : (Tryz.prog.info? 182).map (·.comparable) = some true := by kernel_rfl
theorem isSize : (Tryz.prog.info? 204).map (·.size) = some 1 := by kernel_rfl
theorem noIsE (v : Value) (xT : TypeId) (w : World) : (Instr.typeAssert (.iface 182 v) xT 105 true).run Tryz.prog w = .ok (.tuple #[.nilIface, .bool false]) w := run_typeAssert_lacksB Tryz.underlying105 (by kernel_rfl) (by kernel_rfl) v xT w
theorem noUnwrapE (v : Value) (xT : TypeId) (w : World) : (Instr.typeAssert (.iface 182 v) xT 108 true).run Tryz.prog w = .ok (.tuple #[.nilIface, .bool false]) w := run_typeAssert_lacksB Tryz.underlying108 (by kernel_rfl) (by kernel_rfl) v xT w
theorem noUnwrapsE (v : Value) (xT : TypeId) (w : World) : (Instr.typeAssert (.iface 182 v) xT 110 true).run Tryz.prog w = .ok (.tuple #[.nilIface, .bool false]) w := run_typeAssert_lacksB Tryz.underlying110 (by kernel_rfl) (by kernel_rfl) v xT w

set_option maxRecDepth 100000 in
/-- errors.Is(x, x), x a pointer to an errors.errorString. -/
theorem is_same (a : Addr) (w : World) :
    Calls Tryz.prog 17 #[.iface 182 (.pointer (some a)), .iface 182 (.pointer (some a))] w fun e w' => e = .returned (.bool true) ∧ w' = w := by
  obtain ⟨i, hi, hcmp⟩ := Option.map_eq_some_iff.1 isComp
  obtain ⟨j, hj, hjs⟩ := Option.map_eq_some_iff.1 isSize
  have tT := callTypeOf
  have cT := callComparable
  have mR := isMethodComparable
  have heq := run_eql_iface_ptr_same (P := Tryz.prog) w a Tryz.underlying24 Tryz.underlying182 hi hcmp hj
  go_enter Tryz.func17, Tryz.ntmps17
  go_wp2
  refine wp_loop_rounds 1 ?_
  rw [rounds_succ]
  go_wp2
  go_ret
  exact ⟨rfl, rfl⟩

set_option maxRecDepth 100000 in
/-- errors.Is(x, y), two different pointers to errors.errorString: neither has Is nor Unwrap: false. -/
theorem is_other (a b : Addr) (ca cb : Array Value) (ta tb : TypeId) (w : World) (hne : a ≠ b) (ha : w.heap[a.block]? = some (.cells ca ta (0, 0))) (hb : w.heap[b.block]? = some (.cells cb tb (0, 0))) :
    Calls Tryz.prog 17 #[.iface 182 (.pointer (some a)), .iface 182 (.pointer (some b))] w fun e w' => e = .returned (.bool false) ∧ w' = w := by
  obtain ⟨i, hi, hcmp⟩ := Option.map_eq_some_iff.1 isComp
  obtain ⟨j, hj, hjs⟩ := Option.map_eq_some_iff.1 isSize
  have tT := callTypeOf
  have cT := callComparable
  have mR := isMethodComparable
  have nE := noIsE
  have uE := noUnwrapE
  have vE := noUnwrapsE
  have heq := run_eql_iface_ptr_other (P := Tryz.prog) w Tryz.underlying24 Tryz.underlying182 hi hcmp hj (by rw [hjs]; decide) hne ha hb
  go_enter Tryz.func17, Tryz.ntmps17
  go_wp2
  refine wp_loop_rounds 1 ?_
  rw [rounds_succ]
  go_wp2
  go_ret
  exact ⟨rfl, rfl⟩

/-- the variables of the thirteen errors, in the document's order -/
def errG : Nat → Nat
  | 0 => 1 | 1 => 2 | 2 => 3 | 3 => 0 | 4 => 4 | 5 => 5 | 6 => 6 | 7 => 7 | 8 => 8 | 9 => 9 | 10 => 10 | 11 => 11 | _ => 12

/-- an error of errors.New's make, by where it lies -/
def errV (a : Addr) : Value := .iface 182 (.pointer (some a))

/-- what the listed variables hold: thirteen errors, each in a place of its own -/
structure Errs (w : World) (a : Nat → Addr) : Prop where
  cell : ∀ k, k < 13 → w.cell? ⟨errG k, 0, none⟩ = some (errV (a k))
  row : ∀ k, k < 13 → ∃ c t, w.heap[(a k).block]? = some (.cells c t (0, 0))
  ne : ∀ j k, j < 13 → k < 13 → j ≠ k → a j ≠ a k

theorem Errs.below {w w' : World} {a : Nat → Addr} (h : Errs w a) (hb : Below w.heap.size w w') : Errs w' a where
  cell k hk := by rw [hb.cell (cell_lt (h.cell k hk))]; exact h.cell k hk
  row k hk := by
    obtain ⟨c, t, e⟩ := h.row k hk
    refine ⟨c, t, ?_⟩
    rw [hb.block _ (by
      rcases Nat.lt_or_ge (a k).block w.heap.size with h1 | h1
      · exact h1
      · rw [Array.getElem?_eq_none h1] at e; cases e)]
    exact e
  ne := h.ne

set_option maxRecDepth 100000 in
/-- Num of nil. -/
theorem num_nil (w : World) : Calls Tryz.prog 8 #[.nilIface] w fun e w' => e = .returned (.int .i64 0) ∧ w' = w := by
  go_enter Tryz.func8, Tryz.ntmps8
  go_wp2
  go_ret
  exact ⟨rfl, rfl⟩

/-- the cells of Num's row -/
def errCells (a : Nat → Addr) : Array Value := #[errV (a 0), errV (a 1), errV (a 2), errV (a 3), errV (a 4), errV (a 5), errV (a 6), errV (a 7), errV (a 8), errV (a 9), errV (a 10), errV (a 11), errV (a 12)]

theorem errCells_at (a : Nat → Addr) (i : Nat) (h : i < 13) : (errCells a)[i]? = some (errV (a i)) := by
  rcases (by omega : i = 0 ∨ i = 1 ∨ i = 2 ∨ i = 3 ∨ i = 4 ∨ i = 5 ∨ i = 6 ∨ i = 7 ∨ i = 8 ∨ i = 9 ∨ i = 10 ∨ i = 11 ∨ i = 12) with rfl | rfl | rfl | rfl | rfl | rfl | rfl | rfl | rfl | rfl | rfl | rfl | rfl <;> rfl

set_option maxRecDepth 100000 in
set_option maxHeartbeats 2000000 in
/-- Num of one of the thirteen. -/
theorem num_err (w : World) (a : Nat → Addr) (k : Nat) (hk : k < 13) (hE : Errs w a) : Calls Tryz.prog 8 #[errV (a k)] w fun e w' => e = .returned (.int .i64 ((k : Int) + 1)) ∧ Below w.heap.size w w' := by
  have c0 := hE.cell 0 (by decide)
  have c1 := hE.cell 1 (by decide)
  have c2 := hE.cell 2 (by decide)
  have c3 := hE.cell 3 (by decide)
  have c4 := hE.cell 4 (by decide)
  have c5 := hE.cell 5 (by decide)
  have c6 := hE.cell 6 (by decide)
  have c7 := hE.cell 7 (by decide)
  have c8 := hE.cell 8 (by decide)
  have c9 := hE.cell 9 (by decide)
  have c10 := hE.cell 10 (by decide)
  have c11 := hE.cell 11 (by decide)
  have c12 := hE.cell 12 (by decide)
  simp only [errG, errV] at c0 c1 c2 c3 c4 c5 c6 c7 c8 c9 c10 c11 c12
  obtain ⟨W1, hW1⟩ : ∃ W1, W1 = w.alloc (.cells (errCells a) 24) := ⟨_, rfl⟩
  have hB : Below w.heap.size w W1 := by rw [hW1]; exact (Below.refl _ _).alloc (Nat.le_refl _) _
  have hE1 := hE.below hB
  have hcell : ∀ i : Nat, i < 13 → W1.cell? ⟨w.heap.size, i, none⟩ = some (.iface 182 (.pointer (some (a i)))) := by
    intro i hi
    have e := errCells_at a i hi
    rw [hW1]
    simpa [errV, errCells] using e
  have hfit : Hid (w.alloc (.cells #[.iface 182 (.pointer (some (a 0))), .iface 182 (.pointer (some (a 1))), .iface 182 (.pointer (some (a 2))), .iface 182 (.pointer (some (a 3))), .iface 182 (.pointer (some (a 4))), .iface 182 (.pointer (some (a 5))), .iface 182 (.pointer (some (a 6))), .iface 182 (.pointer (some (a 7))), .iface 182 (.pointer (some (a 8))), .iface 182 (.pointer (some (a 9))), .iface 182 (.pointer (some (a 10))), .iface 182 (.pointer (some (a 11))), .iface 182 (.pointer (some (a 12)))] 24) = W1) := Lib.hid hW1.symm
  clear hW1
  unfold errV
  go_enter Tryz.func8, Tryz.ntmps8
  go_wp2
  rw [hfit.out]
  clear hfit c0 c1 c2 c3 c4 c5 c6 c7 c8 c9 c10 c11 c12
  go_loop [24] (fun i => ∃ m : Nat, m ≤ k ∧ i = .int .i64 m) (fun i => 13 - (intOf i).toNat)
  case atStart => exact ⟨0, Nat.zero_le _, rfl⟩
  case round =>
    obtain ⟨m, hm, rfl⟩ := hrel
    have h13 : (m : Int) < 13 := by omega
    have hc := hcell m (by omega)
    clear hcell
    rcases Nat.lt_or_ge m k with hlt | hge
    · obtain ⟨ca, ta, ra⟩ := hE1.row k hk
      obtain ⟨cb, tb, rb⟩ := hE1.row m (by omega)
      have hne := Lib.hid (hE1.ne k m hk (by omega) (by omega))
      have hra := Lib.hid ra
      have hrb := Lib.hid rb
      clear ra rb
      go_wp2_with (go_at_call 17; refine (is_other (a k) (a m) ca cb ta tb _ hne.out hra.out hrb.out).mono ?_; rintro e w' ⟨rfl, rfl⟩)
      go_round
      case rel => exact ⟨m + 1, by omega, by go_num⟩
      case measure => simp [intOf]; omega
    · obtain rfl : m = k := by omega
      go_wp2_with (go_at_call 17; refine (is_same (a m) _).mono ?_; rintro e w' ⟨rfl, rfl⟩)
      go_ret
      exact ⟨rfl, hB⟩

end Go.Proofs.YtcjnpklmfcbofaaGreatDoor
end

/- quote.each, Encode, Decode. -/
set_option linter.unusedVariables false
set_option linter.unusedSimpArgs false
section
namespace Go.Proofs.YtcjnpklmfcbofaaGreatDoor
open Go.RowKit Go Go.Shelf

theorem turned_at (f : List UInt8 → List UInt8) (ls : List (List UInt8)) (k : Nat) (hk : k < ls.length) (x : List UInt8) (hx : ls[k]? = some x) : ((ls.take k).map f ++ ls.drop k).getD k [] = x := by
  have hk' : (List.map f (List.take k ls)).length = k := by simp; omega
  rw [List.getD_eq_getElem?_getD, List.getElem?_append_right (by omega), hk', Nat.sub_self, List.getElem?_drop, Nat.add_zero, hx]
  rfl
theorem turned_step (f : List UInt8 → List UInt8) (ls : List (List UInt8)) (k : Nat) (hk : k < ls.length) (x : List UInt8) (hx : ls[k]? = some x) : (((ls.take k).map f ++ ls.drop k)).set k (f x) = (ls.take (k + 1)).map f ++ ls.drop (k + 1) := by
  have hk' : (List.map f (List.take k ls)).length = k := by simp; omega
  rw [List.set_append_right _ _ (by omega), hk', Nat.sub_self]
  obtain ⟨_, he⟩ := List.getElem?_eq_some_iff.1 hx
  rw [List.drop_eq_getElem_cons hk, List.set_cons_zero, List.take_add_one, hx]
  simp

set_option maxRecDepth 100000 in
set_option maxHeartbeats 2000000 in
theorem each_quote (s : List UInt8) (w : World) (hs : s.length ≤ 1099511627776) (hq : ((linesOf s).map quoteL).flatten.length ≤ 140737488355328) : Calls Tryz.prog 37 #[.string (bs s), .func (.func 38) #[] #[]] w fun e w' => e = .returned (.string (bs ((linesOf s).map quoteL).flatten)) ∧ Below w.heap.size w w' := by
  have hll := linesOf_length s
  have hmem : ∀ x ∈ linesOf s, x.length ≤ 140737488355328 := fun x hx => by have := (linesOf_mem hx).2; omega
  have HM := Lib.hid hmem
  have HQ := Lib.hid hq
  have HS := Lib.hid hs
  have hn : (linesOf s).length ≤ 1099511627776 := by omega
  clear hmem hq hll hs
  obtain ⟨ls, hls⟩ : ∃ ls, linesOf s = ls := ⟨_, rfl⟩
  rw [hls] at HM HQ hn ⊢
  have HLS := Lib.hid hls
  clear hls
  go_enter Tryz.func37, Tryz.ntmps37
  go_wp2_with fail
  refine (split_any s _ HS.out).mono ?_
  rintro e w1 ⟨v, rfl, o1, hb1⟩
  rw [HLS.out] at o1
  have hz1 := hb1.size
  rcases o1.parts with ⟨rfl, rfl⟩ | ⟨g, cap, rfl, hg⟩
  · go_wp2
    go_loopw [6, 7, 12] (fun _ _ c wr => c = .int .i64 0 ∧ wr = w1) (fun _ _ _ _ => 0)
    case atStart => exact ⟨rfl, rfl⟩
    case round =>
      obtain ⟨rfl, rfl⟩ := hrel
      go_wp2_with fail
      refine (lineJoin_any _ _ [] (.inl ⟨rfl, rfl⟩) (by decide) (by decide)).mono ?_
      rintro e w2 ⟨rfl, hb2⟩
      go_wp2
      go_ret
      exact ⟨rfl, hb1.trans (hb2.mono hz1)⟩
  · go_wp2
    go_loopw [6, 7, 12] (fun _ _ c wr => ∃ k : Nat, k ≤ ls.length ∧ c = .int .i64 k ∧ OwnS wr w.heap.size (.slice (some ⟨g, 0, none⟩) ls.length cap) ((ls.take k).map quoteL ++ ls.drop k) ∧ Below w.heap.size w wr) (fun _ _ c _ => ls.length - (intOf c).toNat)
    case atStart => exact ⟨0, Nat.zero_le _, rfl, by simpa using o1, hb1⟩
    case round =>
      obtain ⟨k, hk, rfl, hown, hB⟩ := hrel
      have hzr := hB.size
      have hlen : ((ls.take k).map quoteL ++ ls.drop k).length = ls.length := by simp; omega
      by_cases hlt : k < ls.length
      · obtain ⟨x, hx⟩ : ∃ x, ls[k]? = some x := ⟨_, List.getElem?_eq_getElem hlt⟩
        have hxl := HM.out x (List.mem_of_getElem? hx)
        have hlt' : (k : Int) < ls.length := by omega
        obtain ⟨hc, hf, ho2, hb2⟩ := OwnS.set hown (k := k) (by omega) (quoteL x)
        rw [turned_at quoteL ls k hlt x hx] at hc
        rw [turned_step quoteL ls k hlt x hx] at ho2
        have HX := Lib.hid hx
        clear hx hlen
        go_wp2_with fail
        refine (quote_any x _ hxl).mono ?_
        rintro e w' ⟨rfl, rfl⟩
        go_wp2
        go_roundw
        case rel => exact ⟨k + 1, by omega, by go_num, ho2, hb2 _ _ (Nat.le_refl _) hB⟩
        case measure => simp [intOf]; omega
      · obtain rfl : k = ls.length := by omega
        rw [List.take_length, List.drop_length, List.append_nil] at hown
        go_wp2_with fail
        refine (lineJoin_any _ _ _ hown.strs (by simp; omega) HQ.out).mono ?_
        rintro e w2 ⟨rfl, hb2⟩
        go_wp2
        go_ret
        exact ⟨rfl, hB.trans (hb2.mono hzr)⟩

set_option maxRecDepth 100000 in
set_option maxHeartbeats 2000000 in
theorem each_unquote (s : List UInt8) (w : World) (hs : s.length ≤ 1099511627776) (hq : ((linesOf s).map unquoteL).flatten.length ≤ 140737488355328) : Calls Tryz.prog 37 #[.string (bs s), .func (.func 73) #[] #[]] w fun e w' => e = .returned (.string (bs ((linesOf s).map unquoteL).flatten)) ∧ Below w.heap.size w w' := by
  have hll := linesOf_length s
  have hmem : ∀ x ∈ linesOf s, x.length ≤ 140737488355328 := fun x hx => by have := (linesOf_mem hx).2; omega
  have HM := Lib.hid hmem
  have HQ := Lib.hid hq
  have HS := Lib.hid hs
  have hn : (linesOf s).length ≤ 1099511627776 := by omega
  clear hmem hq hll hs
  obtain ⟨ls, hls⟩ : ∃ ls, linesOf s = ls := ⟨_, rfl⟩
  rw [hls] at HM HQ hn ⊢
  have HLS := Lib.hid hls
  clear hls
  go_enter Tryz.func37, Tryz.ntmps37
  go_wp2_with fail
  refine (split_any s _ HS.out).mono ?_
  rintro e w1 ⟨v, rfl, o1, hb1⟩
  rw [HLS.out] at o1
  have hz1 := hb1.size
  rcases o1.parts with ⟨rfl, rfl⟩ | ⟨g, cap, rfl, hg⟩
  · go_wp2
    go_loopw [6, 7, 12] (fun _ _ c wr => c = .int .i64 0 ∧ wr = w1) (fun _ _ _ _ => 0)
    case atStart => exact ⟨rfl, rfl⟩
    case round =>
      obtain ⟨rfl, rfl⟩ := hrel
      go_wp2_with fail
      refine (lineJoin_any _ _ [] (.inl ⟨rfl, rfl⟩) (by decide) (by decide)).mono ?_
      rintro e w2 ⟨rfl, hb2⟩
      go_wp2
      go_ret
      exact ⟨rfl, hb1.trans (hb2.mono hz1)⟩
  · go_wp2
    go_loopw [6, 7, 12] (fun _ _ c wr => ∃ k : Nat, k ≤ ls.length ∧ c = .int .i64 k ∧ OwnS wr w.heap.size (.slice (some ⟨g, 0, none⟩) ls.length cap) ((ls.take k).map unquoteL ++ ls.drop k) ∧ Below w.heap.size w wr) (fun _ _ c _ => ls.length - (intOf c).toNat)
    case atStart => exact ⟨0, Nat.zero_le _, rfl, by simpa using o1, hb1⟩
    case round =>
      obtain ⟨k, hk, rfl, hown, hB⟩ := hrel
      have hzr := hB.size
      have hlen : ((ls.take k).map unquoteL ++ ls.drop k).length = ls.length := by simp; omega
      by_cases hlt : k < ls.length
      · obtain ⟨x, hx⟩ : ∃ x, ls[k]? = some x := ⟨_, List.getElem?_eq_getElem hlt⟩
        have hxl := HM.out x (List.mem_of_getElem? hx)
        have hlt' : (k : Int) < ls.length := by omega
        obtain ⟨hc, hf, ho2, hb2⟩ := OwnS.set hown (k := k) (by omega) (unquoteL x)
        rw [turned_at unquoteL ls k hlt x hx] at hc
        rw [turned_step unquoteL ls k hlt x hx] at ho2
        have HX := Lib.hid hx
        clear hx hlen
        go_wp2_with fail
        refine (unquote_any x _ hxl).mono ?_
        rintro e w' ⟨rfl, rfl⟩
        go_wp2
        go_roundw
        case rel => exact ⟨k + 1, by omega, by go_num, ho2, hb2 _ _ (Nat.le_refl _) hB⟩
        case measure => simp [intOf]; omega
      · obtain rfl : k = ls.length := by omega
        rw [List.take_length, List.drop_length, List.append_nil] at hown
        go_wp2_with fail
        refine (lineJoin_any _ _ _ hown.strs (by simp; omega) HQ.out).mono ?_
        rintro e w2 ⟨rfl, hb2⟩
        go_wp2
        go_ret
        exact ⟨rfl, hB.trans (hb2.mono hzr)⟩

end Go.Proofs.YtcjnpklmfcbofaaGreatDoor
end

/- quote.Encode, Size. -/
set_option linter.unusedVariables false
set_option linter.unusedSimpArgs false
section
namespace Go.Proofs.YtcjnpklmfcbofaaGreatDoor
open Go.RowKit Go Go.Shelf

theorem encode_any (s : List UInt8) (w : World) (hs : s.length ≤ 1000000000) : Calls Tryz.prog 16 #[.string (bs s)] w fun e w' => e = .returned (.string (bs (encodeL s))) ∧ Below w.heap.size w w' := by
  have hq := quotes_length (linesOf s)
  rw [linesOf_flatten] at hq
  have hll := linesOf_length s
  have h1 : ((linesOf s).map quoteL).flatten.length ≤ 140737488355328 := by omega
  have h2 : s.length ≤ 1099511627776 := by omega
  have H1 := Lib.hid h1
  have H2 := Lib.hid h2
  clear h1 h2 hq hll hs
  unfold encodeL
  obtain ⟨q, hq⟩ : ∃ q, ((linesOf s).map quoteL).flatten = q := ⟨_, rfl⟩
  have hql : q.length ≤ 140737488355328 := by rw [← hq]; exact H1.out
  have HQ := Lib.hid hq
  rw [hq]
  clear hq
  go_enter Tryz.func16, Tryz.ntmps16
  go_wp2_with fail
  refine (each_quote s _ H2.out H1.out).mono ?_
  rintro e w1 ⟨rfl, hb1⟩
  rw [HQ.out]
  go_wp2
  go_ret
  exact ⟨by rw [← bs_append]; rfl, hb1⟩

end Go.Proofs.YtcjnpklmfcbofaaGreatDoor
end

/- quote.Decode. -/
set_option linter.unusedVariables false
set_option linter.unusedSimpArgs false
section
namespace Go.Proofs.YtcjnpklmfcbofaaGreatDoor
open Go.RowKit Go Go.Shelf
attribute [local go_sem] Oper.semAt_some

theorem cutSuffix_yes (m : List UInt8) (w : World) (hm : m.length ≤ 1000000000) : Calls Tryz.prog 72 #[.string (bs (m ++ [10])), .string (bs [10])] w fun e w' => e = .returned (.tuple #[.string (bs m), .bool true]) ∧ w = w' := by
  refine (Tryz.strings_CutSuffix (bs (m ++ [10])) (bs [10]) w (by rw [bs_size]; simp; omega)).mono fun _ _ ⟨h, k⟩ => ⟨?_, k.symm⟩
  rw [h]
  have h1 : Lib.hasSuffix (m ++ [10]) [10] = true := List.isSuffixOf_iff_suffix.2 ⟨m, rfl⟩
  have h2 : Lib.trimSuffix (m ++ [10]) [10] = m := by unfold Lib.trimSuffix; rw [if_pos h1]; simp
  show Ending.returned (.tuple #[.string (bs (Lib.trimSuffix (m ++ [10]) [10])), .bool (Lib.hasSuffix (m ++ [10]) [10])]) = _
  rw [h1, h2]
theorem cutSuffix_no (l : List UInt8) (w : World) (hm : l.length ≤ 1000000000) (hl : ¬ ∃ m, l = m ++ [10]) : Calls Tryz.prog 72 #[.string (bs l), .string (bs [10])] w fun e w' => e = .returned (.tuple #[.string (bs l), .bool false]) ∧ w = w' := by
  refine (Tryz.strings_CutSuffix (bs l) (bs [10]) w (by rw [bs_size]; omega)).mono fun _ _ ⟨h, k⟩ => ⟨?_, k.symm⟩
  rw [h]
  have h1 : Lib.hasSuffix l [10] = false := by
    cases hq : Lib.hasSuffix l [10] with
    | false => rfl
    | true =>
      obtain ⟨t, ht⟩ := List.isSuffixOf_iff_suffix.1 hq
      exact absurd ⟨t, ht.symm⟩ hl
  have h2 : Lib.trimSuffix l [10] = l := by unfold Lib.trimSuffix; rw [h1]; rfl
  show Ending.returned (.tuple #[.string (bs (Lib.trimSuffix l [10])), .bool (Lib.hasSuffix l [10])]) = _
  rw [h1, h2]

set_option maxRecDepth 100000 in
set_option maxHeartbeats 400000 in
theorem decode_short (l : List UInt8) (w : World) (a : Addr) (hc : w.cell? ⟨2, 0, none⟩ = some (errV a)) (hm : l.length ≤ 1000000000) (hl : ¬ ∃ m, l = m ++ [10]) :
    Calls Tryz.prog 29 #[.string (bs l)] w fun e w' => e = .returned (.tuple #[.string (bs []), errV a]) ∧ Below w.heap.size w w' := by
  have HN := Lib.hid hl
  have HM := Lib.hid hm
  clear hl hm
  unfold errV at hc ⊢
  have hlt : 2 < w.heap.size := cell_lt hc
  go_enter Tryz.func29, Tryz.ntmps29
  go_wp2_with (go_at_call 72; refine (cutSuffix_no l _ HM.out HN.out).mono ?_; rintro e w' ⟨rfl, rfl⟩)
  obtain ⟨W1, hW1⟩ : ∃ W1, ((w.alloc (.cells #[.string ⟨#[]⟩] 9)).alloc (.cells #[.nilIface] 24)) = W1 := ⟨_, rfl⟩
  rw [hW1]
  have b0 : Boxed W1 w.heap.size 9 (.string ⟨#[]⟩) := by rw [← hW1]; exact (Boxed.new w _ _).alloc _
  have b1 : Boxed W1 (w.heap.size + 1) 24 .nilIface := by
    have := Boxed.new (w.alloc (.cells #[.string ⟨#[]⟩] 9)) 24 .nilIface
    rw [World.size_alloc] at this
    rw [← hW1]; exact this
  have hB : Below w.heap.size w W1 := by rw [← hW1]; exact ((Below.refl _ w).alloc (Nat.le_refl _) _).alloc (by simp) _
  have hc1 := (hB.cell (cell_lt hc)).trans hc
  have p0 := b0.cell
  have p1 := b1.cell
  have f0 := b0.frozen
  have f1 := b1.frozen
  clear hW1
  go_region
  go_wp2
  have q0 := (b0.set (.string ⟨#[]⟩)).kept (grownBy_setCell' _ (w.heap.size + 1) (.iface 182 (.pointer (some a)))) (by simp)
  have q1 := (b1.kept (grownBy_setCell' _ w.heap.size (.string ⟨#[]⟩)) (by simp)).set (.iface 182 (.pointer (some a)))
  have c0 := q0.cell
  have c1 := q1.cell
  refine bodyPost_ret (v := .tuple #[.string (bs []), .iface 182 (.pointer (some a))]) (by simp [results, Tryz.results29, go_sem, c0, c1]) rfl ⟨rfl, ?_⟩
  exact (((hB.setCell (p := ⟨w.heap.size, 0, none⟩) (Nat.le_refl _) _).setCell (p := ⟨w.heap.size + 1, 0, none⟩) (by simp) _)).drew

end Go.Proofs.YtcjnpklmfcbofaaGreatDoor
end

/- quote.Decode of a text that ends in a line feed. -/
set_option linter.unusedVariables false
set_option linter.unusedSimpArgs false
section
namespace Go.Proofs.YtcjnpklmfcbofaaGreatDoor
open Go.RowKit Go Go.Shelf
attribute [local go_sem] Oper.semAt_some

set_option maxRecDepth 100000 in
set_option maxHeartbeats 2000000 in
theorem decode_good (m : List UInt8) (w : World) (hm : m.length ≤ 1000000000) (hn : ∀ x ∈ linesOf (m ++ [10]), sepB x = false) :
    Calls Tryz.prog 29 #[.string (bs (m ++ [10]))] w fun e w' => e = .returned (.tuple #[.string (bs (decodeL m)), .nilIface]) ∧ Below w.heap.size w w' := by
  have hlines : ∀ x ∈ linesOf (m ++ [10]), x.length ≤ 140737488355328 := fun x hx => by have := (linesOf_mem hx).2; simp at this; omega
  have HL := Lib.hid hlines
  have HN := Lib.hid hn
  have HM := Lib.hid hm
  have hs1 : (m ++ [10]).length ≤ 140737488355328 := by simp; omega
  have hd := decode_length m
  have HD : Hid (((linesOf m).map unquoteL).flatten.length ≤ 140737488355328) := by unfold decodeL at hd; show _ ≤ _; omega
  unfold decodeL
  obtain ⟨q, hq⟩ : ∃ q, ((linesOf m).map unquoteL).flatten = q := ⟨_, rfl⟩
  have HQ := Lib.hid hq
  rw [hq]
  clear hlines hn hm hd hq
  refine (callsIn_wide (n := 3)).1 ?_
  refine callsIn_of_wp_marks Tryz.func29 rfl trivial ?_ rfl
  simp only [Tryz.ntmps29, List.size_toArray, List.length_cons, List.length_nil, Nat.reduceAdd, Nat.reduceSub, Array.replicate_succ, Array.replicate_zero, List.push_toArray, List.append_toArray, List.nil_append, List.cons_append]
  gi_wp2_with (first | (refine ⟨trivial, ?_⟩; gi_at_call 72; refine (callsIn_wide.2 (cutSuffix_yes m _ HM.out)).mono ?_; rintro e w' ⟨rfl, rfl⟩) | (refine ⟨trivial, ?_⟩; gi_at_call 69; refine (callsIn_wide.2 (lines_any _ _)).mono ?_; rintro e w' ⟨rfl, rfl⟩))
  have b0 := Boxed.new w 9 (.string ⟨#[]⟩)
  have b1 := Boxed.new (w.alloc (.cells #[.string ⟨#[]⟩] 9)) 24 .nilIface
  have bN := Boxed.new ((w.alloc (.cells #[.string ⟨#[]⟩] 9)).alloc (.cells #[.nilIface] 24)) 9 (.string (bs (m ++ [10])))
  rw [World.size_alloc] at b1
  rw [World.size_alloc, World.size_alloc] at bN
  have hB0 : Below w.heap.size w (((w.alloc (.cells #[.string ⟨#[]⟩] 9)).alloc (.cells #[.nilIface] 24)).alloc (.cells #[.string (bs (m ++ [10]))] 9)) := (((Below.refl _ w).alloc (Nat.le_refl _) _).alloc (by simp) _).alloc (by simp; omega) _
  refine wpIn_rangeFunc_box rfl (by omega) (gf := 90) (b := w.heap.size + 2) (t := 9) rfl trivial (enters_of Tryz.func90 (by kernel_rfl) rfl)
    (lines_seq 2 (by omega) _ (m ++ [10]) hs1) bN rfl
    (fun pre W => Boxed W w.heap.size 9 (.string ⟨#[]⟩) ∧ Boxed W (w.heap.size + 1) 24 .nilIface ∧ Below w.heap.size w W)
    (fun _ _ _ => False)
    (OwnFrom.and (Own.from (boxed_own _ _ _) _) (OwnFrom.and (Own.from (boxed_own _ _ _) _) (ownFrom_below (Nat.le_refl _) (by simp; omega))))
    (fun _ _ _ _ _ hs _ _ => hs)
    (AbidesBox.and (fun _ _ _ h hg => h.kept hg (by simp)) (AbidesBox.and (fun _ _ _ h hg => h.kept hg (by simp)) (abidesBox_below (by omega) (Nat.le_refl _))))
    (fun _ _ _ _ hs _ => hs)
    ⟨(b0.alloc _).alloc _, b1.alloc _, hB0⟩
    (fun x => { tmps := #[.string (bs (m ++ [10])), undef, .pointer (some ⟨w.heap.size, 0, none⟩), .pointer (some ⟨w.heap.size + 1, 0, none⟩), .string (bs m), .bool true, .string (bs x), undef, undef, .tuple #[.string (bs m), .bool true], .string (bs (m ++ [10])), .tuple #[.string (bs m), .bool true], .string (bs m), .bool true, .bool true, .bool false, undef, .string (bs (m ++ [10])), .func (.func 90) #[] #[.pointer (some ⟨w.heap.size + 2, 0, none⟩)], .string (bs x), undef, undef, undef, undef, undef, undef, undef, undef, undef], defers := [] }) ?assign ?body ?done ?stop
  case assign =>
    intro l x W K hK
    gi_wp2
    exact hK
  case body =>
    rintro l pre x W hpre ⟨k0, k1, hB⟩
    have hx : x ∈ linesOf (m ++ [10]) := hpre.subset (by simp)
    have hxl := HL.out x hx
    have HX := Lib.hid (HN.out x hx)
    clear hx
    gi_wp2_with fail
    refine ⟨trivial, ?_⟩
    refine (CallsIn.inRound l (callsIn_wide.2 (looks_any x _ hxl))).mono ?_
    rintro e w' ⟨rfl, rfl⟩
    rw [HX.out]
    gi_wp2
    exact ⟨KeepsFrom.refl _ _, rfl, k0, k1, hB⟩
  case done =>
    rintro D W hD ⟨k0, k1, hB⟩ hK
    have hm2 : m.length ≤ 1099511627776 := by have := HM.out; omega
    have HM2 := Lib.hid hm2
    clear hm2
    gi_wp2_with fail
    refine ⟨trivial, ?_⟩
    refine (callsIn_wide.2 (each_unquote m _ HM2.out HD.out)).mono ?_
    rintro e w2 ⟨rfl, hb2⟩
    rw [HQ.out]
    have hDlt : D < W.heap.size := (Array.getElem?_eq_some_iff.1 hK).1
    have j0 : Boxed w2 w.heap.size 9 (.string ⟨#[]⟩) := (hb2.block _ k0.lt).trans k0
    have j1 : Boxed w2 (w.heap.size + 1) 24 .nilIface := (hb2.block _ k1.lt).trans k1
    have hK2 : w2.heap[D]? = some (.deferred (some [])) := (hb2.block _ hDlt).trans hK
    have hB2 : Below w.heap.size w w2 := hB.trans (hb2.mono hB.size)
    have c0 := j0.cell
    have c1 := j1.cell
    have f0 := j0.frozen
    have f1 := j1.frozen
    clear hK hb2
    gi_wp2
    have hD2 : w.heap.size + 2 < D := by simp at hD; omega
    have q0 := (j0.set (.string (bs q))).kept (grownBy_setCell' _ (w.heap.size + 1) .nilIface) (by simp)
    have q1 := (j1.kept (grownBy_setCell' _ w.heap.size (.string (bs q))) (by simp)).set .nilIface
    have hK3 : ((w2.setCell ⟨w.heap.size, 0, none⟩ (.string (bs q))).setCell ⟨w.heap.size + 1, 0, none⟩ .nilIface).heap[D]? = some (.deferred (some [])) :=
      (Below.heap_setCell _ _ _ _ (by simp; omega)).trans ((Below.heap_setCell _ _ _ _ (by simp; omega)).trans hK2)
    have hB3 := (hB2.setCell (p := ⟨w.heap.size, 0, none⟩) (Nat.le_refl _) (.string (bs q))).setCell (p := ⟨w.heap.size + 1, 0, none⟩) (by simp) .nilIface
    refine ⟨by simp, .inl ⟨_, _, rfl, run_takeDeferred hK3, ?_⟩⟩
    have r0 := (q0.kept (grownBy_putObj' _ D (.deferred none)) (by simp; omega)).cell
    have r1 := (q1.kept (grownBy_putObj' _ D (.deferred none)) (by simp; omega)).cell
    refine ⟨.tuple #[.string (bs q), .nilIface], ?_, rfl, ?_⟩
    · simp [results, Tryz.results29, go_sem, r0, r1]
    · exact hB3.trans (belowK_b (w := w) (Nat.le_refl _) _ D _ _ (by omega) hK3 rfl rfl)
  case stop =>
    rintro D c pre W _ _ h _
    exact h.elim

end Go.Proofs.YtcjnpklmfcbofaaGreatDoor
end

/- quote.Decode of a text a line of which looks like a separator. -/
set_option linter.unusedVariables false
set_option linter.unusedSimpArgs false
section
namespace Go.Proofs.YtcjnpklmfcbofaaGreatDoor
open Go.RowKit Go Go.Shelf
attribute [local go_sem] Oper.semAt_some

theorem boxed_drew {W : World} {B : Nat} {t : TypeId} {v : Value} (h : Boxed W B t v) : Boxed W.drew B t v := h

set_option maxRecDepth 100000 in
set_option maxHeartbeats 2000000 in
theorem decode_sep (m : List UInt8) (w : World) (a : Addr) (hc : w.cell? ⟨2, 0, none⟩ = some (errV a)) (hm : m.length ≤ 1000000000) (hn : ∃ x ∈ linesOf (m ++ [10]), sepB x = true) :
    Calls Tryz.prog 29 #[.string (bs (m ++ [10]))] w fun e w' => e = .returned (.tuple #[.string (bs []), errV a]) ∧ Below w.heap.size w w' := by
  have hlines : ∀ x ∈ linesOf (m ++ [10]), x.length ≤ 140737488355328 := fun x hx => by have := (linesOf_mem hx).2; simp at this; omega
  have HL := Lib.hid hlines
  have HN := Lib.hid hn
  have HM := Lib.hid hm
  have hs1 : (m ++ [10]).length ≤ 140737488355328 := by simp; omega
  have HC := Lib.hid hc
  have hlt : 2 < w.heap.size := cell_lt hc
  clear hlines hn hm hc
  refine (callsIn_wide (n := 3)).1 ?_
  refine callsIn_of_wp_marks Tryz.func29 rfl trivial ?_ rfl
  simp only [Tryz.ntmps29, List.size_toArray, List.length_cons, List.length_nil, Nat.reduceAdd, Nat.reduceSub, Array.replicate_succ, Array.replicate_zero, List.push_toArray, List.append_toArray, List.nil_append, List.cons_append]
  gi_wp2_with (first | (refine ⟨trivial, ?_⟩; gi_at_call 72; refine (callsIn_wide.2 (cutSuffix_yes m _ HM.out)).mono ?_; rintro e w' ⟨rfl, rfl⟩) | (refine ⟨trivial, ?_⟩; gi_at_call 69; refine (callsIn_wide.2 (lines_any _ _)).mono ?_; rintro e w' ⟨rfl, rfl⟩))
  have b0 := Boxed.new w 9 (.string ⟨#[]⟩)
  have b1 := Boxed.new (w.alloc (.cells #[.string ⟨#[]⟩] 9)) 24 .nilIface
  have bN := Boxed.new ((w.alloc (.cells #[.string ⟨#[]⟩] 9)).alloc (.cells #[.nilIface] 24)) 9 (.string (bs (m ++ [10])))
  rw [World.size_alloc] at b1
  rw [World.size_alloc, World.size_alloc] at bN
  have hB0 : Below w.heap.size w (((w.alloc (.cells #[.string ⟨#[]⟩] 9)).alloc (.cells #[.nilIface] 24)).alloc (.cells #[.string (bs (m ++ [10]))] 9)) := (((Below.refl _ w).alloc (Nat.le_refl _) _).alloc (by simp) _).alloc (by simp; omega) _
  refine wpIn_rangeFunc_box rfl (by omega) (gf := 90) (b := w.heap.size + 2) (t := 9) rfl trivial (enters_of Tryz.func90 (by kernel_rfl) rfl)
    (lines_seq 2 (by omega) _ (m ++ [10]) hs1) bN rfl
    (fun pre W => Boxed W w.heap.size 9 (.string ⟨#[]⟩) ∧ Boxed W (w.heap.size + 1) 24 .nilIface ∧ Below w.heap.size w W ∧ ∀ x ∈ pre, sepB x = false)
    (fun c _ W => c = .ret ∧ Boxed W w.heap.size 9 (.string ⟨#[]⟩) ∧ Boxed W (w.heap.size + 1) 24 (errV a) ∧ Below w.heap.size w W)
    (OwnFrom.and (Own.from (boxed_own _ _ _) _) (OwnFrom.and (Own.from (boxed_own _ _ _) _) (OwnFrom.and (ownFrom_below (Nat.le_refl _) (by simp; omega)) (fun _ _ _ _ h _ _ => h))))
    (fun c => OwnFrom.and (fun _ _ _ _ h _ _ => h) (OwnFrom.and (Own.from (boxed_own _ _ _) _) (OwnFrom.and (Own.from (boxed_own _ _ _) _) (ownFrom_below (Nat.le_refl _) (by simp; omega)))))
    (AbidesBox.and (fun _ _ _ h hg => h.kept hg (by simp)) (AbidesBox.and (fun _ _ _ h hg => h.kept hg (by simp)) (AbidesBox.and (abidesBox_below (by omega) (Nat.le_refl _)) (fun _ _ _ h _ => h))))
    (fun c => AbidesBox.and (fun _ _ _ h _ => h) (AbidesBox.and (fun _ _ _ h hg => h.kept hg (by simp)) (AbidesBox.and (fun _ _ _ h hg => h.kept hg (by simp)) (abidesBox_below (by omega) (Nat.le_refl _)))))
    ⟨(b0.alloc _).alloc _, b1.alloc _, hB0, by simp⟩
    (fun x => { tmps := #[.string (bs (m ++ [10])), undef, .pointer (some ⟨w.heap.size, 0, none⟩), .pointer (some ⟨w.heap.size + 1, 0, none⟩), .string (bs m), .bool true, .string (bs x), undef, undef, .tuple #[.string (bs m), .bool true], .string (bs (m ++ [10])), .tuple #[.string (bs m), .bool true], .string (bs m), .bool true, .bool true, .bool false, undef, .string (bs (m ++ [10])), .func (.func 90) #[] #[.pointer (some ⟨w.heap.size + 2, 0, none⟩)], .string (bs x), undef, undef, undef, undef, undef, undef, undef, undef, undef], defers := [] }) ?assign ?body ?done ?stop
  case assign =>
    intro l x W K hK
    gi_wp2
    exact hK
  case body =>
    rintro l pre x W hpre ⟨k0, k1, hB, hall⟩
    have hx : x ∈ linesOf (m ++ [10]) := hpre.subset (by simp)
    have hxl := HL.out x hx
    have HA := Lib.hid hall
    clear hx hall
    gi_wp2_with fail
    refine ⟨trivial, ?_⟩
    refine (CallsIn.inRound l (callsIn_wide.2 (looks_any x _ hxl))).mono ?_
    rintro e w' ⟨rfl, rfl⟩
    obtain ⟨z, hz⟩ : ∃ z, sepB x = z := ⟨_, rfl⟩
    rw [hz]
    have HZ := Lib.hid hz
    clear hz
    cases z
    · gi_wp2
      refine ⟨KeepsFrom.refl _ _, rfl, k0, k1, hB, ?_⟩
      intro y hy
      rcases List.mem_append.1 hy with hy | hy
      · exact HA.out y hy
      · rw [List.mem_singleton.1 hy]; exact HZ.out
    · have hc1 := (hB.cell (cell_lt HC.out)).trans HC.out
      unfold errV at hc1
      have c0 := k0.cell
      have c1 := k1.cell
      have f0 := k0.frozen
      have f1 := k1.frozen
      gi_wp2
      gi_region
      all_goals
        gi_wp2
        refine ⟨KeepsOthers.from (((KeepsOthers.setCell _ _ _).trans (KeepsOthers.setCell _ _ _)).trans (KeepsOthers.drew _)) _, rfl, ?_, ?_, ?_⟩
        · first | exact boxed_drew ((k0.set _).kept (grownBy_setCell' _ (w.heap.size + 1) _) (by simp)) | exact boxed_drew ((k0.kept (grownBy_setCell' _ (w.heap.size + 1) _) (by simp)).set _)
        · first | exact boxed_drew ((k1.kept (grownBy_setCell' _ w.heap.size _) (by simp)).set _) | exact boxed_drew ((k1.set _).kept (grownBy_setCell' _ w.heap.size _) (by simp))
        · first
            | exact ((hB.setCell (p := ⟨w.heap.size, 0, none⟩) (Nat.le_refl _) _).setCell (p := ⟨w.heap.size + 1, 0, none⟩) (by simp) _).drew
            | exact ((hB.setCell (p := ⟨w.heap.size + 1, 0, none⟩) (by simp) _).setCell (p := ⟨w.heap.size, 0, none⟩) (Nat.le_refl _) _).drew
  case done =>
    rintro D W hD ⟨k0, k1, hB, hall⟩ hK
    obtain ⟨x, hx, hs⟩ := HN.out
    rw [hall x hx] at hs
    cases hs
  case stop =>
    rintro D c pre W hD hpre ⟨rfl, k0, k1, hB⟩ hK
    gi_wp2
    have hD2 : w.heap.size + 2 < D := by simp at hD; omega
    refine ⟨by simp, .inl ⟨_, _, rfl, run_takeDeferred hK, ?_⟩⟩
    have r0 := (k0.kept (grownBy_putObj' _ D (.deferred none)) (by simp; omega)).cell
    have r1 := (k1.kept (grownBy_putObj' _ D (.deferred none)) (by simp; omega)).cell
    unfold errV at r1 ⊢
    refine ⟨.tuple #[.string (bs []), .iface 182 (.pointer (some a))], ?_, rfl, ?_⟩
    · simp [results, Tryz.results29, go_sem, r0, r1]
    · exact hB.trans (belowK_b (w := w) (Nat.le_refl _) _ D _ _ (by omega) hK rfl rfl)

end Go.Proofs.YtcjnpklmfcbofaaGreatDoor
end

/- mbox: Decode of any text (both), Message. -/
set_option linter.unusedVariables false
set_option linter.unusedSimpArgs false
section
namespace Go.Proofs.YtcjnpklmfcbofaaGreatDoor
open Go.RowKit

/-- what a message in a file decodes to -/
def decL (l : List UInt8) : List UInt8 := (decR true l).getD []
theorem decL_eq (m : List UInt8) (h : ∀ x ∈ linesOf (m ++ [10]), sepB x = false) : decL (m ++ [10]) = decodeL m := by
  unfold decL
  rw [decR_eq, if_neg]
  · rfl
  · intro hs
    obtain ⟨x, hx, hx2⟩ := List.any_eq_true.1 hs
    rw [h x hx] at hx2
    cases hx2
/-- quote.Decode of any text -/
theorem decode_yes (l : List UInt8) (w : World) (hm : l.length ≤ 1000000000) (h : decOk l = true) :
    Calls Tryz.prog 29 #[.string (bs l)] w fun e w' => e = .returned (.tuple #[.string (bs (decL l)), .nilIface]) ∧ Below w.heap.size w w' := by
  obtain ⟨m, rfl, hn, _⟩ := dec_yes h
  rw [decL_eq m hn]
  exact decode_good m w (by simp at hm; omega) hn
theorem decode_no (l : List UInt8) (w : World) (a : Addr) (hc : w.cell? ⟨2, 0, none⟩ = some (errV a)) (hm : l.length ≤ 1000000000) (h : decOk l = false) :
    Calls Tryz.prog 29 #[.string (bs l)] w fun e w' => e = .returned (.tuple #[.string (bs []), errV a]) ∧ Below w.heap.size w w' := by
  rcases dec_no h with h2 | ⟨m, rfl, h2⟩
  · exact decode_short l w a hc hm h2
  · exact decode_sep m w a hc (by simp at hm; omega) h2
/-! ### Message -/
end Go.Proofs.YtcjnpklmfcbofaaGreatDoor
end

/- mbox.Scan. -/
set_option linter.unusedVariables false
set_option linter.unusedSimpArgs false
section
namespace Go.Proofs.YtcjnpklmfcbofaaGreatDoor
open Go.RowKit

/-- what Scan hands back -/
def ScanIs (R : Option (List Sp)) (ev : Value) (e : Ending) (w w' : World) : Prop :=
  (match R with
   | none => e = .returned (.tuple #[.slice none 0 0, ev])
   | some ss => ∃ v, e = .returned (.tuple #[v, .nilIface]) ∧ OwnP w' w.heap.size v ss) ∧ Below w.heap.size w w'
theorem OwnP.base {w : World} {b b' : Nat} {v : Value} {l : List Sp} (h : OwnP w b v l) (hb : b' ≤ b) : OwnP w b' v l := by
  refine ⟨h.1, ?_⟩
  rcases h.2 with h0 | ⟨g, cap, cur, e, h1, r⟩
  · exact .inl h0
  · exact .inr ⟨g, cap, cur, e, Nat.le_trans hb h1, r⟩
theorem OwnS.stay {w w' : World} {B : Nat} {v : Value} {ls : List (List UInt8)} (h : OwnS w B v ls) (hb : Below w.heap.size w w') : OwnS w' B v ls := by
  refine ⟨h.1, ?_⟩
  rcases h.2 with h0 | ⟨g, cap, cur, rfl, h1, h2, r⟩
  · exact .inl h0
  · exact .inr ⟨g, cap, cur, rfl, h1, (hb.block g (Array.getElem?_eq_some_iff.1 h2).1).trans h2, r⟩

set_option maxRecDepth 100000 in
set_option maxHeartbeats 4000000 in
theorem scan_any (file : List UInt8) (x : Addr) (w : World) (hl : file.length ≤ 1000000) (hE : w.cell? ⟨2, 0, none⟩ = some (errV x)) :
    Calls Tryz.prog 13 #[.string (bs file)] w (ScanIs (scanL file) (errV x) · w ·) := by
  obtain ⟨i0, hi0, hz0, hz1, hz2⟩ := info_parts info_sp
  obtain ⟨R, hR⟩ : ∃ R, scanL file = R := ⟨_, rfl⟩
  rw [hR]
  unfold scanL at hR
  obtain ⟨G, hG⟩ : ∃ G, goSp none 0 (linesOf file) = G := ⟨_, rfl⟩
  rw [hG] at hR
  have hbd : ∀ ss, G = some ss → ∀ s ∈ ss, s.head < s.body ∧ s.body ≤ s.fin ∧ s.fin ≤ file.length := by
    intro ss h s hs
    have h3 := goSp_bd _ none 0 ss (fun c e => by cases e) (lines_ne file) (hG.trans h) s hs
    rw [linesOf_flatten] at h3
    exact ⟨h3.1, h3.2.1, by omega⟩
  have HBD := Lib.hid hbd
  have HR := Lib.hid hR
  have HG := Lib.hid hG
  have HE := Lib.hid hE
  have hlf := linesOf_flatten file
  have hll := linesOf_length file
  obtain ⟨ls, hls⟩ : ∃ ls, linesOf file = ls := ⟨_, rfl⟩
  have hsp := split_any file w (by omega)
  rw [hls] at HG hlf hll hsp
  have HLF := Lib.hid hlf
  clear hR hG hbd hE hlf hls
  go_enter Tryz.func13, Tryz.ntmps13
  go_wp2_with fail
  refine hsp.mono ?_
  clear hsp
  rintro e w1 ⟨vl, rfl, hos, hb1⟩
  have HOS := Lib.hid hos
  obtain ⟨la, ln, lc, rfl, hln⟩ := hos.form
  obtain rfl : ln = ls.length := hln.out
  clear hos hln
  have hzb := hb1.size
  obtain ⟨B, hB⟩ : ∃ B, w1.heap.size = B := ⟨_, rfl⟩
  go_upto_block 0 with fail
  go_cut [4, 5, 7, 8, 9, 17] (fun v4 _ _ _ _ _ wc => ∃ out : List Sp, OwnP wc B v4 out ∧ Below w1.heap.size w1 wc ∧ Hid (G = some out) ∧ out.length ≤ file.length)
  case first =>
    go_wp2_with fail
    go_loopw [4, 5, 7, 8, 9, 17] (fun v4 v5 _ _ _ v17 wr => ∃ (k p : Nat) (out : List Sp), k ≤ ls.length ∧ v17 = .int .i64 k ∧ v5 = .int .i64 p ∧ OwnP wr B v4 out ∧ Below w1.heap.size w1 wr ∧ out.length ≤ k ∧ Hid (p + (ls.drop k).flatten.length = file.length) ∧
        ((out = [] ∧ Hid (goSp none p (ls.drop k) = G)) ∨ ∃ done h b, out = done ++ [⟨h, b, p⟩] ∧ Hid ((goSp (some (h, b)) p (ls.drop k)).map (done ++ ·) = G))) (fun _ _ _ _ _ v17 _ => ls.length - (intOf v17).toNat)
    case atStart => exact ⟨0, 0, [], Nat.zero_le _, rfl, rfl, World.ownsRow_nil _ _ _ _, Below.refl _ _, Nat.le_refl _, by show _ = _; rw [List.drop_zero, HLF.out]; omega, .inl ⟨rfl, by show _ = _; exact HG.out⟩⟩
    case round =>
      obtain ⟨k, p, out, hk, rfl, rfl, hown, hbw, hol, hpl, hst⟩ := hrel
      have hzw := hbw.size
      rw [hB] at hzw
      by_cases hlt : k < ls.length
      · obtain ⟨x1, hx1⟩ : ∃ y, ls.getD k [] = y := ⟨_, rfl⟩
        have hosr := HOS.out.stay hbw
        have hcell : ∃ b, la = some ⟨b, 0, none⟩ ∧ wr.cell? ⟨b, k, none⟩ = some (.string (bs x1)) := by
          rcases hosr.strs with ⟨_, h⟩ | ⟨b, o, c, h, _, _, h3⟩
          · rw [h] at hlt; simp at hlt
          · rcases hosr.2 with ⟨h0, _⟩ | ⟨g, cap, cur, h0, _⟩
            · injection h0 with _ h8 _
              omega
            · simp at h h0
              obtain ⟨rfl, rfl, _⟩ := h0
              simp at h
              obtain ⟨⟨rfl, rfl⟩, _⟩ := h
              have := h3 k hlt
              rw [Nat.zero_add, hx1] at this
              exact ⟨g, rfl, this⟩
        obtain ⟨bl, rfl, hcell⟩ := hcell
        have hdr : ls.drop k = x1 :: ls.drop (k + 1) := by rw [List.drop_eq_getElem_cons hlt, ← hx1]; simp [List.getD, hlt]
        have hp1 := hpl.out
        rw [hdr, List.flatten_cons, List.length_append] at hp1
        have HP1 : Hid (p + x1.length + (ls.drop (k + 1)).flatten.length = file.length) := by show _ = _; omega
        have hpx : p + x1.length ≤ file.length := by omega
        have hlk := looks_any x1 wr (by omega)
        obtain ⟨sb, hsb⟩ : ∃ b, sepB x1 = b := ⟨_, rfl⟩
        rw [hsb] at hlk
        have HSB := Lib.hid hsb
        have HDR := Lib.hid hdr
        have HST := Lib.hid hst
        have hlt' : (k : Int) < ls.length := by omega
        clear hosr hx1 hdr hp1 hpl hst hsb
        go_wp2_with fail
        refine hlk.mono ?_
        clear hlk
        rintro e w2 ⟨rfl, rfl⟩
        obtain ⟨va, vn, vc, rfl, hvn⟩ := hown.form
        obtain rfl : vn = out.length := hvn.out
        clear hvn
        cases sb with
        | true =>
          have hnew : Hid ((goSp (some (p, p + x1.length)) (p + x1.length) (ls.drop (k + 1))).map (out ++ ·) = G) := by
            rcases HST.out with ⟨rfl, hg⟩ | ⟨done, h, b, rfl, hg⟩
            · have h9 := hg.out
              rw [HDR.out, goSp, if_pos HSB.out] at h9
              show _ = _
              rw [← h9]
              cases goSp (some (p, p + x1.length)) (p + x1.length) (ls.drop (k + 1)) <;> rfl
            · have h9 := hg.out
              rw [HDR.out, goSp, if_pos HSB.out] at h9
              show _ = _
              rw [← h9]
              cases goSp (some (p, p + x1.length)) (p + x1.length) (ls.drop (k + 1)) <;> simp
          clear HST HDR HSB
          go_wp2_with (at_builtin; refine wpList_append_own _ rfl _ _ 36 rfl B 40 i0 (.agg #[.int .i64 0, .int .i64 0, .int .i64 0]) 3 24 Tryz.underlying36 hi0 hz0 hz1 hz2 rfl (by decide) _ _ _ rfl (World.ownsRow.alloc hown _) ⟨wr.heap.size, 0, none⟩ 1 1 [.int .i64 p, .int .i64 ((p : Int) + x1.length), .int .i64 0] rfl rfl ?e1 ?e2 ?e3 ?e4 ?e5 ?_)
          case e1 =>
            intro j u hj
            match j, hj with
            | 0, hj => simp at hj; subst hj; simp [Addr.add]
            | 1, hj => simp at hj; subst hj; simp [Addr.add]
            | 2, hj => simp at hj; subst hj; simp [Addr.add]
            | n + 3, hj => simp at hj
          case e2 => intro u hu; simp at hu; rcases hu with rfl | rfl | rfl <;> rfl
          case e3 => unfold maxLen; omega
          case e4 => omega
          case e5 => simp; omega
          intro v' w3 hown3 hgrow _
          have hlow := fun i e => (World.ownsRow.lt hown i e).1
          have o3 : OwnP w3 B v' (out ++ [⟨p, p + x1.length, 0⟩]) := OwnP.step (by simpa [cellsSp1] using hown3)
          have B3 : Below w1.heap.size w1 w3 := (hbw.alloc (by omega) _).grown hgrow (by simp; omega) (fun i e => by have := hlow i e; omega)
          obtain ⟨g5, cap5, rfl, hg5, hl5⟩ := o3.parts.resolve_left (fun h => by simp at h)
          have o4 : OwnP w3 B (.slice (some ⟨g5, 0, none⟩) (out.length + 1) cap5) (out ++ [⟨p, p + x1.length, 0⟩]) := by simpa using o3
          have y0 : w3.cell? ⟨g5, out.length * 3 + 2, none⟩ = some (.int .i64 0) := o4.cell out.length 2 ⟨p, p + x1.length, 0⟩ (by simp) (by decide)
          have y1 := frozenP o4 (out.length * 3 + 2)
          have O4 := Lib.hid o4
          rw [show (out ++ [(⟨p, p + x1.length, 0⟩ : Sp)]).length = out.length + 1 by simp]
          clear hown3 hgrow hown hlow o3 o4
          go_wp2
          go_roundw
          case rel => exact ⟨k + 1, p + x1.length, out ++ [⟨p, p + x1.length, p + x1.length⟩], by omega, by go_num, by go_num, by have h9 := OwnP.turn O4.out (p + x1.length); rw [show (((p + x1.length : Nat)) : Int) = (p : Int) + x1.length by omega] at h9; exact h9, B3.setCell (p := ⟨g5, out.length * 3 + 2, none⟩) (by simp; omega) _, by simp; omega, HP1.out, .inr ⟨out, p, p + x1.length, rfl, hnew.out⟩⟩
          case measure => simp [intOf]; omega
        | false =>
          rcases HST.out with ⟨rfl, hg⟩ | ⟨done, h, b, rfl, hg⟩
          · have hR0 : R = none := by
              have h9 := hg.out
              rw [HDR.out, goSp, if_neg (by rw [HSB.out]; simp)] at h9
              rw [← HR.out, ← h9]
            have hE1 := ((hb1.trans (hbw.mono hb1.size)).cell (p := ⟨2, 0, none⟩) (cell_lt HE.out)).trans HE.out
            subst hR0
            have hBW : Below w.heap.size w wr := hb1.trans (hbw.mono hb1.size)
            clear HST HDR HSB hg
            simp only [List.length_nil]
            go_wp2
            go_quiet (fail)
            go_wp2
            go_ret2
            exact ⟨rfl, below_drewN hBW _⟩
          · have hnew : Hid ((goSp (some (h, b)) (p + x1.length) (ls.drop (k + 1))).map (done ++ ·) = G) := by
              have h9 := hg.out
              rw [HDR.out, goSp, if_neg (by rw [HSB.out]; simp)] at h9
              exact h9
            obtain ⟨g5, cap5, e5, hg5, hl5⟩ := hown.parts.resolve_left (fun h => by simp at h)
            simp only [Value.slice.injEq] at e5
            obtain ⟨rfl, _, rfl⟩ := e5
            have hdl : (done ++ [(⟨h, b, p⟩ : Sp)]).length = done.length + 1 := by simp
            rw [hdl] at hown ⊢
            have y0 : wr.cell? ⟨g5, done.length * 3 + 2, none⟩ = some (.int .i64 p) := hown.cell done.length 2 ⟨h, b, p⟩ (by simp) (by decide)
            have y1 := frozenP hown (done.length * 3 + 2)
            have hod : done.length ≤ k := by simp at hol; omega
            have O4 := Lib.hid hown
            have hol2 : (done ++ [(⟨h, b, p + x1.length⟩ : Sp)]).length ≤ k + 1 := by simp; omega
            clear HST HDR HSB hg hown hol
            go_wp2
            go_roundw
            case rel => exact ⟨k + 1, p + x1.length, done ++ [⟨h, b, p + x1.length⟩], by omega, by go_num, by go_num, by have h9 := OwnP.turn O4.out (p + x1.length); rw [show (((p + x1.length : Nat)) : Int) = (p : Int) + x1.length by omega] at h9; exact h9, hbw.setCell (p := ⟨g5, done.length * 3 + 2, none⟩) (by simp; omega) _, hol2, HP1.out, .inr ⟨done, h, b, rfl, hnew.out⟩⟩
            case measure => simp [intOf]; omega
      · obtain rfl : k = ls.length := by omega
        have hG9 : Hid (G = some out) := by
          rcases hst with ⟨rfl, hg⟩ | ⟨done, h, b, rfl, hg⟩
          · have h9 := hg.out
            rw [List.drop_length, goSp] at h9
            exact h9.symm
          · have h9 := hg.out
            rw [List.drop_length, goSp] at h9
            exact h9.symm
        clear hst
        go_wp2
        go_meet
        case rel => exact ⟨out, hown, hbw, hG9, by omega⟩
  case rest =>
    obtain ⟨out, hown, hbw, hG9, hol⟩ := hcut
    have hbd := HBD.out out hG9.out
    have HBO := Lib.hid hbd
    have hR9 : (if out.all (okSp file) = true then some out else none) = R := by
      have h9 := HR.out
      rw [hG9.out] at h9
      exact h9
    obtain ⟨AA, hAA⟩ : ∃ b, out.all (okSp file) = b := ⟨_, rfl⟩
    rw [hAA] at hR9
    have HR9 := Lib.hid hR9
    have HAA := Lib.hid hAA
    obtain ⟨va, vn, vc, rfl, hvn⟩ := hown.form
    obtain rfl : vn = out.length := hvn.out
    have HOW := Lib.hid hown
    have BW : Below w.heap.size w wc := hb1.trans (hbw.mono hb1.size)
    have hE1 := (BW.cell (p := ⟨2, 0, none⟩) (cell_lt HE.out)).trans HE.out
    have HE1 := Lib.hid hE1
    clear hbd hR9 hAA hvn hown hbw hG9 HBD HR HG HLF HOS hE1
    go_wp2
    go_loopw [11, 12, 13, 58] (fun _ _ _ v58 wr => ∃ j : Nat, j ≤ out.length ∧ v58 = .int .i64 j ∧ Below wc.heap.size wc wr ∧ Hid ((out.drop j).all (okSp file) = AA)) (fun _ _ _ v58 _ => out.length - (intOf v58).toNat)
    case atStart => exact ⟨0, Nat.zero_le _, rfl, Below.refl _ _, HAA.out⟩
    case round =>
      obtain ⟨j, hj, rfl, hbr, hok⟩ := hrel
      have BR : Below w.heap.size w wr := BW.trans (hbr.mono BW.size)
      have hEr := (hbr.cell (p := ⟨2, 0, none⟩) (cell_lt HE1.out)).trans HE1.out
      have HER := Lib.hid hEr
      have hown := HOW.out.below hbr
      clear hEr
      by_cases hlt : j < out.length
      · obtain ⟨sp, hsp⟩ : ∃ y, out[j]? = some y := ⟨_, List.getElem?_eq_getElem hlt⟩
        obtain ⟨s1, s2, s3⟩ := HBO.out sp (List.mem_of_getElem? hsp)
        obtain ⟨g5, cap5, e5, hg5, hl5⟩ := hown.parts.resolve_left (fun h => by rw [h.2] at hlt; simp at hlt)
        simp only [Value.slice.injEq] at e5
        obtain ⟨rfl, _, rfl⟩ := e5
        have y0 := hown.cell j 0 sp hsp (by decide)
        have y1 := hown.cell j 1 sp hsp (by decide)
        have y2 := hown.cell j 2 sp hsp (by decide)
        have hok2 := hok.out
        rw [show out.drop j = sp :: out.drop (j + 1) by rw [List.drop_eq_getElem_cons hlt, (List.getElem?_eq_some_iff.1 hsp).2], List.all_cons] at hok2
        have HOK := Lib.hid hok2
        obtain ⟨sh, sbd, sf⟩ := sp
        simp only at s1 s2 s3
        have z0 : wr.cell? ⟨g5, j * 3, none⟩ = some (.int .i64 sh) := by simpa [cellsSp1] using y0
        have z1 : wr.cell? ⟨g5, j * 3 + 1, none⟩ = some (.int .i64 sbd) := by simpa [cellsSp1] using y1
        have z2 : wr.cell? ⟨g5, j * 3 + 2, none⟩ = some (.int .i64 sf) := by simpa [cellsSp1] using y2
        obtain ⟨B1, rfl⟩ : ∃ B1, sbd = B1 + 1 := ⟨sbd - 1, by omega⟩
        obtain ⟨c, hc⟩ : ∃ c, file[B1]? = some c := ⟨_, List.getElem?_eq_getElem (by omega)⟩
        have hx : (bs file)[B1]'(by rw [bs_size]; omega) = c := (List.getElem?_eq_some_iff.1 hc).2
        have rm := fun w0 => run_mid file (B1 + 1) sf s2 s3 w0
        obtain ⟨T, hT⟩ : ∃ T, (file.drop (B1 + 1)).take (sf - (B1 + 1)) = T := ⟨_, rfl⟩
        have hTl : T.length ≤ 1000000 := by rw [← hT]; simp; omega
        have hoks : okSp file ⟨sh, B1 + 1, sf⟩ = ((c == 10) && decOk T) := by
          unfold okSp
          simp only [Nat.add_sub_cancel]
          rw [hc, hT]
          simp
        rw [hT] at rm
        have rm2 : ∀ w0, (Instr.slice 9 (.string (bs file)) (some (.int .i64 ((B1 : Int) + 1))) (some (.int .i64 sf)) none).run Tryz.prog w0 = .ok (.string (bs T)) w0 := rm
        have HOS2 := Lib.hid hoks
        have hlt' : (j : Int) < out.length := by omega
        clear hok hok2 hsp y0 y1 y2 hc hT hoks hown
        have bad : okSp file ⟨sh, B1 + 1, sf⟩ = false → R = none := by
          intro h
          have h9 := HOK.out
          rw [h, Bool.false_and] at h9
          rw [← HR9.out, ← h9]
          rfl
        have BAD := Lib.hid bad
        clear bad
        have hBA : ∀ o, Below w.heap.size w (wr.alloc o) := fun o => BR.alloc BR.size _
        have hBA2 : ∀ o, Below wc.heap.size wc (wr.alloc o) := fun o => hbr.alloc hbr.size _
        rcases hc10 : ((c.toNat : Int) != 10) with _ | _
        · have hc : (c == 10) = true := by
            rw [beq_iff_eq]
            apply UInt8.toNat_inj.1
            have := eq_of_beq (by simpa [bne] using hc10 : ((c.toNat : Int) == 10) = true)
            show c.toNat = 10
            omega
          have hs2 := HOS2.out
          rw [hc, Bool.true_and] at hs2
          have HS2 := Lib.hid hs2
          clear hc hs2
          rcases hdk : decOk T with _ | _
          · have hR0 : R = none := BAD.out (by rw [HS2.out, hdk])
            subst hR0
            have hdec := fun w0 h0 => decode_no T w0 x h0 (by omega) hdk
            have HD := Lib.hid hdec
            clear BAD HS2 HOS2 HOK hdec hdk
            go_wp2_with fail
            refine (HD.out _ (cell_alloc HER.out _)).mono ?_
            rintro e w2 ⟨rfl, hb2⟩
            have BW2 : Below w.heap.size w w2 := (hBA _).trans (hb2.mono (hBA _).size)
            have hE2 := (BW2.cell (p := ⟨2, 0, none⟩) (cell_lt HE.out)).trans HE.out
            unfold errV at hE2 ⊢
            go_wp2
            go_quiet (fail)
            go_wp2
            go_ret2
            exact ⟨rfl, below_drewN BW2 _⟩
          · have hnx : Hid ((out.drop (j + 1)).all (okSp file) = AA) := by
              have h9 := HOK.out
              rw [HS2.out, hdk, Bool.true_and] at h9
              exact h9
            have hdec := fun w0 => decode_yes T w0 (by omega) hdk
            have HD := Lib.hid hdec
            clear BAD HS2 HOS2 HOK hdec hdk
            go_wp2_with fail
            refine (HD.out _).mono ?_
            rintro e w2 ⟨rfl, hb2⟩
            have BW2 : Below wc.heap.size wc w2 := (hBA2 _).trans (hb2.mono (hBA2 _).size)
            go_wp2
            go_roundw
            case rel => exact ⟨j + 1, by omega, by go_num, BW2, hnx.out⟩
            case measure => simp [intOf]; omega
        · have hc : (c == 10) = false := by
            rw [beq_eq_false_iff_ne]
            rintro rfl
            exact absurd hc10 (by decide)
          have hR0 : R = none := BAD.out (by rw [HOS2.out, hc]; rfl)
          subst hR0
          have hE3 := fun o => cell_alloc HER.out o
          clear BAD HOS2 HOK hc rm rm2
          go_wp2
          go_quiet (fail)
          go_wp2
          go_ret2
          exact ⟨rfl, below_drewN (hBA _) _⟩
      · obtain rfl : j = out.length := by omega
        have h9 := hok.out
        rw [List.drop_length] at h9
        have hA : AA = true := h9.symm
        subst hA
        have hR1 : R = some out := by rw [← HR9.out, if_pos rfl]
        subst hR1
        have hz := hb1.size
        have hown2 : OwnP wr w.heap.size (.slice va out.length vc) out := hown.base (by omega)
        clear hok h9 HR9 HAA HBO
        go_wp2
        go_ret2
        exact ⟨⟨_, rfl, hown2⟩, BR⟩

end Go.Proofs.YtcjnpklmfcbofaaGreatDoor
end

/- mbox.Entry. -/
set_option linter.unusedVariables false
set_option linter.unusedSimpArgs false
section
namespace Go.Proofs.YtcjnpklmfcbofaaGreatDoor
open Go.RowKit Go

theorem civ7_eq {t y m d h mi s wk y' m' d' h' mi' s' wk' : Int} (ca : Cal.civ7 t y m d h mi s wk) (cb : Cal.civ7 t y' m' d' h' mi' s' wk') : y' = y ∧ m' = m ∧ d' = d ∧ h' = h ∧ mi' = mi ∧ s' = s ∧ wk' = wk := by
  obtain ⟨rfl, rfl, rfl⟩ := Cal.civ_one ca.1 cb.1 rfl
  exact ⟨rfl, rfl, rfl, cb.2.1.trans ca.2.1.symm, cb.2.2.1.trans ca.2.2.1.symm, cb.2.2.2.1.trans ca.2.2.2.1.symm, cb.2.2.2.2.trans ca.2.2.2.2.symm⟩
theorem boxL_len {y m d h mi s wk : Int} (hb : Bds y m d h mi s wk) : (boxL y m d h mi s wk).length ≤ 40 := by
  obtain ⟨y0, y1, m0, m1, d0, d1, h0, h1, i0, i1, s0, s1, k0, k1⟩ := hb
  have l1 := weekL_len wk
  have l2 := twoL_len d [32] (by omega) (by omega) (by decide)
  have l3 := monthL_len m
  have l4 := clockL_len h mi s h0 h1 i0 i1 s0 s1
  have l5 := yearL_len y y0 y1
  unfold boxL
  simp only [List.length_append, List.length_cons, List.length_nil]
  omega
/-- what Entry hands back -/
def EntryIs (sender message : List UInt8) (t : Int) (w : World) (e : Ending) (w' : World) : Prop :=
  ∃ y m d h mi s wk, Cal.civ7 t y m d h mi s wk ∧ e = .returned (.tuple #[.string (bs (headL sender (boxL y m d h mi s wk) ++ encodeL message)), .nilIface]) ∧ Below w.heap.size w w'

set_option maxRecDepth 100000 in
set_option maxHeartbeats 1000000 in
theorem entry_ok (sender message : List UInt8) (t : Int) (w : World) (hs : senderOk sender = true) (hl : sender.length ≤ 200) (hm : message.length ≤ 1000000) (h0 : 0 ≤ t) (h1 : t ≤ 4102444799) (hT : Tab w) :
    Calls Tryz.prog 6 #[.string (bs sender), .int .i64 t, .string (bs message)] w (EntryIs sender message t w) := by
  have HS := Lib.hid hs
  have HT := Lib.hid hT
  have hel := (encode_length message).2
  clear hs hT
  go_enter Tryz.func6, Tryz.ntmps6
  go_wp2_with fail
  refine (right_any sender w (by omega)).mono ?_
  rintro e w1 ⟨rfl, hb1⟩
  rw [HS.out]
  go_wp2_with fail
  refine (box_in t w1 (HT.out.below hb1) h0 h1).mono ?_
  rintro e w2 ⟨y, m, d, h, mi, s, wk, hcv, rfl, hb2⟩
  have hbl := boxL_len (Cal.civ7_bd h0 hcv)
  have HCV := Lib.hid hcv
  obtain ⟨X, hX⟩ : ∃ X, boxL y m d h mi s wk = X := ⟨_, rfl⟩
  have HX := Lib.hid hX
  rw [hX] at hbl ⊢
  have B2 : Below w.heap.size w w2 := hb1.trans (hb2.mono hb1.size)
  obtain ⟨E, hE⟩ : ∃ E, encodeL message = E := ⟨_, rfl⟩
  have henc := encode_any message w2 (by omega)
  rw [hE] at henc hel
  have HEN := Lib.hid henc
  have HEE := Lib.hid hE
  clear hcv hX hb1 hb2 henc hE
  go_wp2_with fail
  refine HEN.out.mono ?_
  rintro e w3 ⟨rfl, hb3⟩
  go_wp2
  go_ret2
  refine ⟨y, m, d, h, mi, s, wk, HCV.out, ?_, B2.trans (hb3.mono B2.size)⟩
  rw [HX.out, HEE.out]
  simp [headL, bs_append, fromL]

end Go.Proofs.YtcjnpklmfcbofaaGreatDoor
end
