/- lines.Split, lines.Join. -/
import Derived.Test.YthnkgifbbemhfaaGreatDoorLs
import Derived.Test.YthnkgifbbemhfaaGreatDoorSs
set_option linter.unusedVariables false
set_option linter.unusedSimpArgs false
namespace Go.Proofs.YthnkgifbbemhfaaGreatDoor
open Go.RowKit Go Go.Shelf
attribute [local go_sem] Oper.semAt_some

theorem lines_any (s : List UInt8) (w : World) : Calls Tryz.prog 133 #[.string (bs s)] w fun e w' => e = .returned (.func (.func 181) #[] #[.pointer (some ⟨w.heap.size, 0, none⟩)]) ∧ w.alloc (.cells #[.string (bs s)] 9) = w' := by
  go_enter Tryz.func133, Tryz.ntmps133
  go_wp2
  go_ret
  exact ⟨rfl, rfl⟩

/-- a slice of strings handed back -/
def Strs (B : Nat) (ls : List (List UInt8)) (w : World) (e : Ending) (w' : World) : Prop := ∃ v, e = .returned v ∧ OwnS w' B v ls ∧ Below B w w'

set_option maxRecDepth 100000 in
set_option maxHeartbeats 2000000 in
theorem split_any (s : List UInt8) (w : World) (hs : s.length ≤ 1099511627776) : Calls Tryz.prog 92 #[.string (bs s)] w (Strs w.heap.size (linesOf s) w) := by
  obtain ⟨i0, hi, hz0, hz1, hz2⟩ := info_parts info_str
  have hll := linesOf_length s
  refine (callsIn_wide (n := 3)).1 ?_
  refine callsIn_of_wp_marks Tryz.func92 rfl trivial ?_ rfl
  simp only [Tryz.ntmps92, List.size_toArray, List.length_cons, List.length_nil, Nat.reduceAdd, Nat.reduceSub, Array.replicate_succ, Array.replicate_zero, List.push_toArray, List.append_toArray, List.nil_append, List.cons_append]
  gi_wp2_with (refine ⟨trivial, ?_⟩; gi_at_call 133; refine (callsIn_wide.2 (lines_any _ _)).mono ?_; rintro e w' ⟨rfl, rfl⟩)
  have bO := Boxed.new w 29 (.slice none 0 0)
  have bN := Boxed.new (w.alloc (.cells #[.slice none 0 0] 29)) 9 (.string (bs s))
  rw [World.size_alloc] at bN
  have hB0 : Below w.heap.size w ((w.alloc (.cells #[.slice none 0 0] 29)).alloc (.cells #[.string (bs s)] 9)) := ((Below.refl _ w).alloc (Nat.le_refl _) _).alloc (by simp) _
  refine wpIn_rangeFunc_box rfl (by omega) (gf := 181) (b := w.heap.size + 1) (t := 9) rfl trivial (enters_of Tryz.func181 (by kernel_rfl) rfl)
    (lines_seq 2 (by omega) _ s (by omega)) bN rfl
    (fun pre W => (∃ v, Boxed W w.heap.size 29 v ∧ W.ownsRow (w.heap.size + 2) 9 1 v pre.length (cellsS pre) ∧ True) ∧ Below w.heap.size w W ∧ w.heap.size + 2 ≤ W.heap.size)
    (fun _ _ _ => False)
    (OwnFrom.and (Own.from (holdsRow_own (w.heap.size + 2) w.heap.size 29 9 1 (fun pre => pre.length) (fun pre => cellsS pre) (fun _ _ => True)) _) (OwnFrom.and (ownFrom_below (Nat.le_refl _) (by simp; omega)) ownFrom_size))
    (fun _ _ _ _ _ hs _ _ => hs)
    (AbidesBox.and (by
      rintro pre W W' ⟨v, hv, hr, _⟩ hg
      refine ⟨v, hv.kept hg (by simp), hr.kept hg ?_, trivial⟩
      have := World.ownsRow.lt hr
      cases ho : v.ownBlock with
      | none => exact .inl rfl
      | some k =>
        have := (this k ho).1
        exact .inr (by simp; omega)) (AbidesBox.and (abidesBox_below (by omega) (Nat.le_refl _)) abidesBox_size))
    (fun _ _ _ _ hs _ => hs)
    ⟨⟨_, bO.alloc _, World.ownsRow_nil _ _ _ _, trivial⟩, hB0, by simp⟩
    (fun x => { tmps := #[.string (bs s), undef, .slice none 0 0, .pointer (some ⟨w.heap.size, 0, none⟩), .string (bs x), .string (bs s), .func (.func 181) #[] #[.pointer (some ⟨w.heap.size + 1, 0, none⟩)], .string (bs x), undef, undef, undef, undef, undef], defers := [] }) ?assign ?body ?done ?stop
  case assign =>
    intro l x W K hK
    gi_wp2
    exact hK
  case body =>
    rintro l pre x W hpre ⟨⟨v, hv, hrow, _⟩, hB, hbW⟩
    have hc := hv.cell
    have hpl : pre.length + 1 ≤ (linesOf s).length := by have := hpre.length_le; simpa using this
    have hzW := hB.size
    gi_wp2_with (gi_at_builtin; refine wpListIn_append_own _ rfl _ _ 29 rfl (w.heap.size + 2) 9 i0 (.string ⟨#[]⟩) 1 16 Tryz.underlying29 hi hz0 hz1 hz2 rfl (by decide) _ _ _ rfl (hrow.alloc _) ⟨W.heap.size, 0, none⟩ 1 1 [.string (bs x)] rfl rfl (cell_one_new _ _ _) (by simp [Value.oneCell']) (by unfold maxLen; omega) (by omega) (by simp; omega) ?_; intro v' w1 hown' hgrow _; obtain ⟨g', cap', rfl⟩ := ownsRow_succ hown'; obtain ⟨hv1, hv2, hr2, hk2, hb2, ho2⟩ := boxed_appended hv (by decide) hrow (by omega) hzW (Nat.le_refl _) hown' hgrow; have hc1 := hv1.cell; have hf1 := hv1.frozen)
    exact ⟨hk2.from _, ho2 _ (by omega) (by omega) (by omega), ⟨_, hv2, by rw [cellsS_append, List.length_append]; exact hr2, trivial⟩, hB.trans hb2, Nat.le_trans hbW hk2.size⟩
  case done =>
    rintro D W hD ⟨⟨v, hv, hrow, _⟩, hB, hbW⟩ hK
    have hc := hv.cell
    gi_wp2
    refine ⟨by simp, .inl ⟨_, _, rfl, run_takeDeferred hK, ?_⟩⟩
    exact ⟨_, results_tmp rfl _ _ _, v, rfl, OwnS.base (ownsRow_putObj hrow _ hK rfl) (by omega), hB.trans (belowK_b (w := w) (Nat.le_refl _) W D _ _ (by simp at hD; omega) hK rfl rfl)⟩
  case stop =>
    rintro D c pre W _ _ h _
    exact h.elim

end Go.Proofs.YthnkgifbbemhfaaGreatDoor
