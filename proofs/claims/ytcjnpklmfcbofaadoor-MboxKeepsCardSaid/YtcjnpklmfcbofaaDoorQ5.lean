/- quote.Decode of a text that ends in a line feed. -/
import Derived.Test.YtcjnpklmfcbofaaDoorQ4
set_option linter.unusedVariables false
set_option linter.unusedSimpArgs false
namespace Go.Proofs.YtcjnpklmfcbofaaDoor
open Go.RowKit Go Go.Shelf
attribute [local go_sem] Oper.semAt_some

set_option maxRecDepth 100000 in
set_option maxHeartbeats 2000000 in
theorem decode_good (m : List UInt8) (w : World) (hm : m.length ≤ 1000000000) (hn : ∀ x ∈ linesOf (m ++ [10]), sepB x = false) :
    Calls Tryd.prog 23 #[.string (bs (m ++ [10]))] w fun e w' => e = .returned (.tuple #[.string (bs (decodeL m)), .nilIface]) ∧ Below w.heap.size w w' := by
  have hlines : ∀ x ∈ linesOf (m ++ [10]), x.length ≤ 140737488355328 := fun x hx => by have := (linesOf_mem hx).2; simp at this; omega
  have HL := Lib.hid hlines
  have HN := Lib.hid hn
  have HM := Lib.hid hm
  have hs1 : (m ++ [10]).length ≤ 140737488355328 := by simp; omega
  have hd := decode_length m
  have HD : Hid (((linesOf m).map unquoteL).flatten.length ≤ 140737488355328) := by unfold decodeL at hd; show _ ≤ _; omega
  unfold decodeL
  obtain ⟨q, hq⟩ : ∃ q, ((linesOf m).map unquoteL).flatten = q := ⟨_, rfl⟩
  have HQ := Lib.hid hq
  rw [hq]
  clear hlines hn hm hd hq
  refine (callsIn_wide (n := 3)).1 ?_
  refine callsIn_of_wp_marks Tryd.func23 rfl trivial ?_ rfl
  simp only [Tryd.ntmps23, List.size_toArray, List.length_cons, List.length_nil, Nat.reduceAdd, Nat.reduceSub, Array.replicate_succ, Array.replicate_zero, List.push_toArray, List.append_toArray, List.nil_append, List.cons_append]
  gi_wp2_with (first | (refine ⟨trivial, ?_⟩; gi_at_call 42; refine (callsIn_wide.2 (cutSuffix_yes m _ HM.out)).mono ?_; rintro e w' ⟨rfl, rfl⟩) | (refine ⟨trivial, ?_⟩; gi_at_call 39; refine (callsIn_wide.2 (lines_any _ _)).mono ?_; rintro e w' ⟨rfl, rfl⟩))
  have b0 := Boxed.new w 9 (.string ⟨#[]⟩)
  have b1 := Boxed.new (w.alloc (.cells #[.string ⟨#[]⟩] 9)) 25 .nilIface
  have bN := Boxed.new ((w.alloc (.cells #[.string ⟨#[]⟩] 9)).alloc (.cells #[.nilIface] 25)) 9 (.string (bs (m ++ [10])))
  rw [World.size_alloc] at b1
  rw [World.size_alloc, World.size_alloc] at bN
  have hB0 : Below w.heap.size w (((w.alloc (.cells #[.string ⟨#[]⟩] 9)).alloc (.cells #[.nilIface] 25)).alloc (.cells #[.string (bs (m ++ [10]))] 9)) := (((Below.refl _ w).alloc (Nat.le_refl _) _).alloc (by simp) _).alloc (by simp; omega) _
  refine wpIn_rangeFunc_box rfl (by omega) (gf := 50) (b := w.heap.size + 2) (t := 9) rfl trivial (enters_of Tryd.func50 (by kernel_rfl) rfl)
    (lines_seq 2 (by omega) _ (m ++ [10]) hs1) bN rfl
    (fun pre W => Boxed W w.heap.size 9 (.string ⟨#[]⟩) ∧ Boxed W (w.heap.size + 1) 25 .nilIface ∧ Below w.heap.size w W)
    (fun _ _ _ => False)
    (OwnFrom.and (Own.from (boxed_own _ _ _) _) (OwnFrom.and (Own.from (boxed_own _ _ _) _) (ownFrom_below (Nat.le_refl _) (by simp; omega))))
    (fun _ _ _ _ _ hs _ _ => hs)
    (AbidesBox.and (fun _ _ _ h hg => h.kept hg (by simp)) (AbidesBox.and (fun _ _ _ h hg => h.kept hg (by simp)) (abidesBox_below (by omega) (Nat.le_refl _))))
    (fun _ _ _ _ hs _ => hs)
    ⟨(b0.alloc _).alloc _, b1.alloc _, hB0⟩
    (fun x => { tmps := #[.string (bs (m ++ [10])), undef, .pointer (some ⟨w.heap.size, 0, none⟩), .pointer (some ⟨w.heap.size + 1, 0, none⟩), .string (bs m), .bool true, .string (bs x), undef, undef, .tuple #[.string (bs m), .bool true], .string (bs (m ++ [10])), .tuple #[.string (bs m), .bool true], .string (bs m), .bool true, .bool true, .bool false, undef, .string (bs (m ++ [10])), .func (.func 50) #[] #[.pointer (some ⟨w.heap.size + 2, 0, none⟩)], .string (bs x), undef, undef, undef, undef, undef, undef, undef, undef, undef], defers := [] }) ?assign ?body ?done ?stop
  case assign =>
    intro l x W K hK
    gi_wp2
    exact hK
  case body =>
    rintro l pre x W hpre ⟨k0, k1, hB⟩
    have hx : x ∈ linesOf (m ++ [10]) := hpre.subset (by simp)
    have hxl := HL.out x hx
    have HX := Lib.hid (HN.out x hx)
    clear hx
    gi_wp2_with fail
    refine ⟨trivial, ?_⟩
    refine (CallsIn.inRound l (callsIn_wide.2 (looks_any x _ hxl))).mono ?_
    rintro e w' ⟨rfl, rfl⟩
    rw [HX.out]
    gi_wp2
    exact ⟨KeepsFrom.refl _ _, rfl, k0, k1, hB⟩
  case done =>
    rintro D W hD ⟨k0, k1, hB⟩ hK
    have hm2 : m.length ≤ 1099511627776 := by have := HM.out; omega
    have HM2 := Lib.hid hm2
    clear hm2
    gi_wp2_with fail
    refine ⟨trivial, ?_⟩
    refine (callsIn_wide.2 (each_unquote m _ HM2.out HD.out)).mono ?_
    rintro e w2 ⟨rfl, hb2⟩
    rw [HQ.out]
    have hDlt : D < W.heap.size := (Array.getElem?_eq_some_iff.1 hK).1
    have j0 : Boxed w2 w.heap.size 9 (.string ⟨#[]⟩) := (hb2.block _ k0.lt).trans k0
    have j1 : Boxed w2 (w.heap.size + 1) 25 .nilIface := (hb2.block _ k1.lt).trans k1
    have hK2 : w2.heap[D]? = some (.deferred (some [])) := (hb2.block _ hDlt).trans hK
    have hB2 : Below w.heap.size w w2 := hB.trans (hb2.mono hB.size)
    have c0 := j0.cell
    have c1 := j1.cell
    have f0 := j0.frozen
    have f1 := j1.frozen
    clear hK hb2
    gi_wp2
    have hD2 : w.heap.size + 2 < D := by simp at hD; omega
    have q0 := (j0.set (.string (bs q))).kept (grownBy_setCell' _ (w.heap.size + 1) .nilIface) (by simp)
    have q1 := (j1.kept (grownBy_setCell' _ w.heap.size (.string (bs q))) (by simp)).set .nilIface
    have hK3 : ((w2.setCell ⟨w.heap.size, 0, none⟩ (.string (bs q))).setCell ⟨w.heap.size + 1, 0, none⟩ .nilIface).heap[D]? = some (.deferred (some [])) :=
      (Below.heap_setCell _ _ _ _ (by simp; omega)).trans ((Below.heap_setCell _ _ _ _ (by simp; omega)).trans hK2)
    have hB3 := (hB2.setCell (p := ⟨w.heap.size, 0, none⟩) (Nat.le_refl _) (.string (bs q))).setCell (p := ⟨w.heap.size + 1, 0, none⟩) (by simp) .nilIface
    refine ⟨by simp, .inl ⟨_, _, rfl, run_takeDeferred hK3, ?_⟩⟩
    have r0 := (q0.kept (grownBy_putObj' _ D (.deferred none)) (by simp; omega)).cell
    have r1 := (q1.kept (grownBy_putObj' _ D (.deferred none)) (by simp; omega)).cell
    refine ⟨.tuple #[.string (bs q), .nilIface], ?_, rfl, ?_⟩
    · simp [results, Tryd.results23, go_sem, r0, r1]
    · exact hB3.trans (belowK_b (w := w) (Nat.le_refl _) _ D _ _ (by omega) hK3 rfl rfl)
  case stop =>
    rintro D c pre W _ _ h _
    exact h.elim

end Go.Proofs.YtcjnpklmfcbofaaDoor
