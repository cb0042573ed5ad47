/- quote.Decode of a text a line of which looks like a separator. -/
import Derived.Test.YtcjnpklmfcbofaaDoorQ5
set_option linter.unusedVariables false
set_option linter.unusedSimpArgs false
namespace Go.Proofs.YtcjnpklmfcbofaaDoor
open Go.RowKit Go Go.Shelf
attribute [local go_sem] Oper.semAt_some

theorem boxed_drew {W : World} {B : Nat} {t : TypeId} {v : Value} (h : Boxed W B t v) : Boxed W.drew B t v := h

set_option maxRecDepth 100000 in
set_option maxHeartbeats 2000000 in
theorem decode_sep (m : List UInt8) (w : World) (a : Addr) (hc : w.cell? ⟨1, 0, none⟩ = some (errV a)) (hm : m.length ≤ 1000000000) (hn : ∃ x ∈ linesOf (m ++ [10]), sepB x = true) :
    Calls Tryd.prog 23 #[.string (bs (m ++ [10]))] w fun e w' => e = .returned (.tuple #[.string (bs []), errV a]) ∧ Below w.heap.size w w' := by
  have hlines : ∀ x ∈ linesOf (m ++ [10]), x.length ≤ 140737488355328 := fun x hx => by have := (linesOf_mem hx).2; simp at this; omega
  have HL := Lib.hid hlines
  have HN := Lib.hid hn
  have HM := Lib.hid hm
  have hs1 : (m ++ [10]).length ≤ 140737488355328 := by simp; omega
  have HC := Lib.hid hc
  have hlt : 1 < w.heap.size := cell_lt hc
  clear hlines hn hm hc
  refine (callsIn_wide (n := 3)).1 ?_
  refine callsIn_of_wp_marks Tryd.func23 rfl trivial ?_ rfl
  simp only [Tryd.ntmps23, List.size_toArray, List.length_cons, List.length_nil, Nat.reduceAdd, Nat.reduceSub, Array.replicate_succ, Array.replicate_zero, List.push_toArray, List.append_toArray, List.nil_append, List.cons_append]
  gi_wp2_with (first | (refine ⟨trivial, ?_⟩; gi_at_call 42; refine (callsIn_wide.2 (cutSuffix_yes m _ HM.out)).mono ?_; rintro e w' ⟨rfl, rfl⟩) | (refine ⟨trivial, ?_⟩; gi_at_call 39; refine (callsIn_wide.2 (lines_any _ _)).mono ?_; rintro e w' ⟨rfl, rfl⟩))
  have b0 := Boxed.new w 9 (.string ⟨#[]⟩)
  have b1 := Boxed.new (w.alloc (.cells #[.string ⟨#[]⟩] 9)) 25 .nilIface
  have bN := Boxed.new ((w.alloc (.cells #[.string ⟨#[]⟩] 9)).alloc (.cells #[.nilIface] 25)) 9 (.string (bs (m ++ [10])))
  rw [World.size_alloc] at b1
  rw [World.size_alloc, World.size_alloc] at bN
  have hB0 : Below w.heap.size w (((w.alloc (.cells #[.string ⟨#[]⟩] 9)).alloc (.cells #[.nilIface] 25)).alloc (.cells #[.string (bs (m ++ [10]))] 9)) := (((Below.refl _ w).alloc (Nat.le_refl _) _).alloc (by simp) _).alloc (by simp; omega) _
  refine wpIn_rangeFunc_box rfl (by omega) (gf := 50) (b := w.heap.size + 2) (t := 9) rfl trivial (enters_of Tryd.func50 (by kernel_rfl) rfl)
    (lines_seq 2 (by omega) _ (m ++ [10]) hs1) bN rfl
    (fun pre W => Boxed W w.heap.size 9 (.string ⟨#[]⟩) ∧ Boxed W (w.heap.size + 1) 25 .nilIface ∧ Below w.heap.size w W ∧ ∀ x ∈ pre, sepB x = false)
    (fun c _ W => c = .ret ∧ Boxed W w.heap.size 9 (.string ⟨#[]⟩) ∧ Boxed W (w.heap.size + 1) 25 (errV a) ∧ Below w.heap.size w W)
    (OwnFrom.and (Own.from (boxed_own _ _ _) _) (OwnFrom.and (Own.from (boxed_own _ _ _) _) (OwnFrom.and (ownFrom_below (Nat.le_refl _) (by simp; omega)) (fun _ _ _ _ h _ _ => h))))
    (fun c => OwnFrom.and (fun _ _ _ _ h _ _ => h) (OwnFrom.and (Own.from (boxed_own _ _ _) _) (OwnFrom.and (Own.from (boxed_own _ _ _) _) (ownFrom_below (Nat.le_refl _) (by simp; omega)))))
    (AbidesBox.and (fun _ _ _ h hg => h.kept hg (by simp)) (AbidesBox.and (fun _ _ _ h hg => h.kept hg (by simp)) (AbidesBox.and (abidesBox_below (by omega) (Nat.le_refl _)) (fun _ _ _ h _ => h))))
    (fun c => AbidesBox.and (fun _ _ _ h _ => h) (AbidesBox.and (fun _ _ _ h hg => h.kept hg (by simp)) (AbidesBox.and (fun _ _ _ h hg => h.kept hg (by simp)) (abidesBox_below (by omega) (Nat.le_refl _)))))
    ⟨(b0.alloc _).alloc _, b1.alloc _, hB0, by simp⟩
    (fun x => { tmps := #[.string (bs (m ++ [10])), undef, .pointer (some ⟨w.heap.size, 0, none⟩), .pointer (some ⟨w.heap.size + 1, 0, none⟩), .string (bs m), .bool true, .string (bs x), undef, undef, .tuple #[.string (bs m), .bool true], .string (bs (m ++ [10])), .tuple #[.string (bs m), .bool true], .string (bs m), .bool true, .bool true, .bool false, undef, .string (bs (m ++ [10])), .func (.func 50) #[] #[.pointer (some ⟨w.heap.size + 2, 0, none⟩)], .string (bs x), undef, undef, undef, undef, undef, undef, undef, undef, undef], defers := [] }) ?assign ?body ?done ?stop
  case assign =>
    intro l x W K hK
    gi_wp2
    exact hK
  case body =>
    rintro l pre x W hpre ⟨k0, k1, hB, hall⟩
    have hx : x ∈ linesOf (m ++ [10]) := hpre.subset (by simp)
    have hxl := HL.out x hx
    have HA := Lib.hid hall
    clear hx hall
    gi_wp2_with fail
    refine ⟨trivial, ?_⟩
    refine (CallsIn.inRound l (callsIn_wide.2 (looks_any x _ hxl))).mono ?_
    rintro e w' ⟨rfl, rfl⟩
    obtain ⟨z, hz⟩ : ∃ z, sepB x = z := ⟨_, rfl⟩
    rw [hz]
    have HZ := Lib.hid hz
    clear hz
    cases z
    · gi_wp2
      refine ⟨KeepsFrom.refl _ _, rfl, k0, k1, hB, ?_⟩
      intro y hy
      rcases List.mem_append.1 hy with hy | hy
      · exact HA.out y hy
      · rw [List.mem_singleton.1 hy]; exact HZ.out
    · have hc1 := (hB.cell (cell_lt HC.out)).trans HC.out
      unfold errV at hc1
      have c0 := k0.cell
      have c1 := k1.cell
      have f0 := k0.frozen
      have f1 := k1.frozen
      gi_wp2
      gi_region
      all_goals
        gi_wp2
        refine ⟨KeepsOthers.from (((KeepsOthers.setCell _ _ _).trans (KeepsOthers.setCell _ _ _)).trans (KeepsOthers.drew _)) _, rfl, ?_, ?_, ?_⟩
        · first | exact boxed_drew ((k0.set _).kept (grownBy_setCell' _ (w.heap.size + 1) _) (by simp)) | exact boxed_drew ((k0.kept (grownBy_setCell' _ (w.heap.size + 1) _) (by simp)).set _)
        · first | exact boxed_drew ((k1.kept (grownBy_setCell' _ w.heap.size _) (by simp)).set _) | exact boxed_drew ((k1.set _).kept (grownBy_setCell' _ w.heap.size _) (by simp))
        · first
            | exact ((hB.setCell (p := ⟨w.heap.size, 0, none⟩) (Nat.le_refl _) _).setCell (p := ⟨w.heap.size + 1, 0, none⟩) (by simp) _).drew
            | exact ((hB.setCell (p := ⟨w.heap.size + 1, 0, none⟩) (by simp) _).setCell (p := ⟨w.heap.size, 0, none⟩) (Nat.le_refl _) _).drew
  case done =>
    rintro D W hD ⟨k0, k1, hB, hall⟩ hK
    obtain ⟨x, hx, hs⟩ := HN.out
    rw [hall x hx] at hs
    cases hs
  case stop =>
    rintro D c pre W hD hpre ⟨rfl, k0, k1, hB⟩ hK
    gi_wp2
    have hD2 : w.heap.size + 2 < D := by simp at hD; omega
    refine ⟨by simp, .inl ⟨_, _, rfl, run_takeDeferred hK, ?_⟩⟩
    have r0 := (k0.kept (grownBy_putObj' _ D (.deferred none)) (by simp; omega)).cell
    have r1 := (k1.kept (grownBy_putObj' _ D (.deferred none)) (by simp; omega)).cell
    unfold errV at r1 ⊢
    refine ⟨.tuple #[.string (bs []), .iface 138 (.pointer (some a))], ?_, rfl, ?_⟩
    · simp [results, Tryd.results23, go_sem, r0, r1]
    · exact hB.trans (belowK_b (w := w) (Nat.le_refl _) _ D _ _ (by omega) hK rfl rfl)

end Go.Proofs.YtcjnpklmfcbofaaDoor
