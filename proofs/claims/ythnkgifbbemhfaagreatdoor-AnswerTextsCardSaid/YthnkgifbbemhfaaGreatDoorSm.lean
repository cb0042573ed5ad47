/- header.small: the iterator, slices.AppendSeq, slices.Collect. -/
import Derived.Test.YthnkgifbbemhfaaGreatDoorSl
import Derived.Test.YthnkgifbbemhfaaGreatDoorCb
import Derived.Test.YthnkgifbbemhfaaGreatDoorLs
import Derived.RangeFuncFrom
set_option linter.unusedVariables false
set_option linter.unusedSimpArgs false
namespace Go.Proofs.YthnkgifbbemhfaaGreatDoor
open Go.RowKit Go Go.Shelf
attribute [local go_sem] Oper.semAt_some

/-- []byte(s), with its block -/
theorem to_row (l : List UInt8) (w : World) : ∃ (cap : Nat) (w' : World) (cs : Array Value) (t : TypeId) (fr : Nat × Nat), (convert 9 83 (.string (bs l))).run Tryz.prog w = .ok (.slice (some ⟨w.heap.size, 0, none⟩) l.length cap) w' ∧
    w'.heap[w.heap.size]? = some (.cells cs t fr) ∧ fr ≠ (0, 0) ∧ (∀ i, i < l.length → cs[i]? = some (.int .u8 ((l.getD i 0).toNat : Int))) ∧ w.grownBy w' none ∧ w.heap.size < w'.heap.size := by
  have h := run_bytes_of_string (P := Tryz.prog) w 9 83 5 (bs l) Tryz.underlying9 Tryz.underlying83 Tryz.underlying5
  rw [bs_size] at h
  refine ⟨_, _, _, _, _, h, heap_new w.drew _, by simp, fun i hi => ?_, ⟨rfl, rfl, rfl, by simp, fun k hk _ => heap_old w.drew _ _ hk⟩, by simp⟩
  have hb := bytesRow_at (bs l) (grownCap w l.length 0 5) i (by simpa using hi)
  rw [hb]
  simp [List.getD, hi]

/-- rows that a conversion laid stay -/
def KeepsRows (W W' : World) : Prop := ∀ (k : Nat) (cs : Array Value) (t : TypeId) (fr : Nat × Nat), W.heap[k]? = some (Obj.cells cs t fr) → fr ≠ (0, 0) → W'.heap[k]? = some (Obj.cells cs t fr)
theorem keepsRows_t {A B C : World} (h : KeepsRows A B) (k : KeepsRows B C) : KeepsRows A C := fun i cs t fr e hf => k i cs t fr (h i cs t fr e hf) hf
theorem keepsRows_b {n : Nat} (W : World) (l : Nat) (o o' : Obj) (_ : n ≤ l) (h : W.heap[l]? = some o) (hc : o.isCells = false) (_ : o.isWalk = false) : KeepsRows W (W.putObj l o') := by
  intro k cs t fr e _
  refine (World.putObj_heap_other ?_).trans e
  rintro rfl
  rw [e] at h
  obtain rfl := Option.some.inj h
  cases hc
theorem keepsRows_app {W w1 : World} {n₀ B : Nat} {t e : TypeId} {size : Nat} {v v' : Value} {k : Nat} {xs : List Value} {tmp : Obj}
    (hv : Boxed W B t v) (hrow : W.ownsRow n₀ e size v k xs) (hgrow : (W.alloc tmp).grownBy w1 v.ownBlock) : KeepsRows W (w1.setCell ⟨B, 0, none⟩ v') := by
  intro i cs u fr he hf
  have hlt := (Array.getElem?_eq_some_iff.1 he).1
  have hiB : i ≠ B := by
    rintro rfl
    have h9 : W.heap[i]? = some (.cells #[v] t (0, 0)) := hv
    rw [he] at h9
    simp at h9
    exact hf h9.2.2
  have hir : some i ≠ v.ownBlock := by
    intro eo
    rcases hrow.2 with ⟨rfl, _⟩ | ⟨g, cap, cur, rfl, _, hg, _⟩
    · cases eo
    · obtain rfl : i = g := by simpa [Value.ownBlock] using eo
      rw [he] at hg
      simp at hg
      exact hf hg.2.2
  rw [Below.heap_setCell _ _ _ _ (by simpa using hiB), hgrow.block i (by simp; omega) hir, Below.heap_alloc _ _ _ hlt]
  exact he

theorem row_cell {W : World} {g k : Nat} {cs : Array Value} {t : TypeId} {fr : Nat × Nat} {x : Value} (h : W.heap[g]? = some (.cells cs t fr)) (hx : cs[k]? = some x) : W.cell? ⟨g, k, none⟩ = some x := by
  simp [World.cell?, h, hx]

set_option maxRecDepth 100000 in
set_option maxHeartbeats 2000000 in
theorem small_seq (n : Nat) (hn : 1 ≤ n) (b : Nat) (s : List UInt8) (w : World) (hs : s.length ≤ 140737488355328) (hb : Boxed w b 9 (.string (bs s))) :
    SeqStopsK Fence.wide n Tryz.prog 208 #[.pointer (some ⟨b, 0, none⟩)] (fun c : UInt8 => #[.int .u8 ((c.toNat : Nat) : Int)]) KeepsRows (fun xs => xs = lowL s) (fun _ => True) s.length w := by
  intro l J Jx W hW hJ hJx hY h0
  have hbW : Boxed W b 9 (.string (bs s)) := (hW.block b hb.lt).trans hb
  have hc := hbW.cell
  obtain ⟨cap, w1, cs, t, fr, hrun, hrow, hfr, hcs, hg1, hlt1⟩ := to_row s W
  have hj1 := hJ [] W w1 none h0 hg1 (fun r e => by cases e)
  have HFR := Lib.hid hfr
  have HCS := Lib.hid hcs
  clear hfr hcs hbW hg1
  refine callsIn_of_wp Tryz.func208 rfl trivial ?_ rfl
  simp only [Tryz.ntmps208, List.size_toArray, List.length_cons, List.length_nil, Nat.reduceAdd, Nat.reduceSub, Array.replicate_succ, Array.replicate_zero, List.push_toArray, List.append_toArray, List.nil_append, List.cons_append]
  gi_wp2
  gi_loopw [4, 8] (fun _ c wr => ∃ k : Nat, k ≤ s.length ∧ c = .int .i64 k ∧ wr.heap[W.heap.size]? = some (.cells cs t fr) ∧ J ((lowL s).take k) wr) (fun _ c _ => s.length - (intOf c).toNat)
  case atStart => exact ⟨0, Nat.zero_le _, rfl, hrow, by simpa using hj1⟩
  case round =>
    obtain ⟨k, hk, rfl, hrw, hj⟩ := hrel
    by_cases hlt : k < s.length
    · obtain ⟨c, hcc⟩ : ∃ c, s.getD k 0 = c := ⟨_, rfl⟩
      have hcell : wr.cell? ⟨W.heap.size, k, none⟩ = some (.int .u8 ((c.toNat : Nat) : Int)) := row_cell hrw (by rw [HCS.out k hlt, hcc])
      have hlt' : (k : Int) < s.length := by omega
      obtain ⟨fn, tmps, assign, body, hy, hR⟩ := hY ((lowL s).take k) (lowB c) wr hj (by simp [lowL_length]; omega)
      rw [← low_take hlt hcc] at hR
      have hc256 := c.toNat_lt
      have HRW := Lib.hid hrw
      clear hcc hrw
      by_cases h65 : 65 ≤ c.toNat ∧ c.toNat ≤ 90
      · obtain ⟨h1, h2⟩ := h65
        rw [lowB_yes h1 h2] at hy
        have h1' : (65 : Int) ≤ c.toNat := by omega
        have h2' : (c.toNat : Int) ≤ 90 := by omega
        have hcast : ((c.toNat + 32 : Nat) : Int) = (c.toNat : Int) + 32 := by omega
        rw [hcast] at hy
        clear hcast
        gi_wp2
        refine hR.mono ?_
        rintro e W3 (⟨rfl, hJ3, hk3⟩ | ⟨rfl, hJx3⟩)
        · gi_wp2
          go_roundw
          case rel => exact ⟨k + 1, by omega, by go_num, hk3 _ _ _ _ HRW.out HFR.out, hJ3⟩
          case measure => simp [intOf]; omega
        · gi_wp2
          refine bodyPost_ret (results_none rfl _ _ _) rfl ?_
          exact ⟨⟨_, rfl⟩, .inr ⟨_, trivial, hJx3⟩⟩
      · rw [lowB_no h65] at hy
        have h65' : ¬ ((65 : Int) ≤ c.toNat ∧ (c.toNat : Int) ≤ 90) := by omega
        have hcase : (c.toNat : Int) < 65 ∨ (65 : Int) ≤ c.toNat ∧ 90 < (c.toNat : Int) := by omega
        clear h65 h65'
        rcases hcase with h1 | ⟨h1, h2⟩
        all_goals
          gi_wp2
          refine hR.mono ?_
          rintro e W3 (⟨rfl, hJ3, hk3⟩ | ⟨rfl, hJx3⟩)
          · gi_wp2
            go_roundw
            case rel => exact ⟨k + 1, by omega, by go_num, hk3 _ _ _ _ HRW.out HFR.out, hJ3⟩
            case measure => simp [intOf]; omega
          · gi_wp2
            refine bodyPost_ret (results_none rfl _ _ _) rfl ?_
            exact ⟨⟨_, rfl⟩, .inr ⟨_, trivial, hJx3⟩⟩
    · obtain rfl : k = s.length := by omega
      gi_wp2
      go_end0
      exact ⟨⟨_, rfl⟩, .inl ⟨_, rfl, by rw [← lowL_length, List.take_length] at hj; exact hj⟩⟩

theorem ownsRow_base {w : World} {b b' : Nat} {e : TypeId} {size n : Nat} {v : Value} {xs : List Value} (h : w.ownsRow b e size v n xs) (hb : b' ≤ b) : w.ownsRow b' e size v n xs := by
  refine ⟨h.1, ?_⟩
  rcases h.2 with h0 | ⟨g, cap, cur, e, h1, r⟩
  · exact .inl h0
  · exact .inr ⟨g, cap, cur, e, Nat.le_trans hb h1, r⟩

/-- bytes of the call's own -/
def BytesP (B : Nat) (l : List UInt8) (w : World) (e : Ending) (w' : World) : Prop := ∃ v, e = .returned v ∧ OwnB w' B v l ∧ Below B w w'

set_option maxRecDepth 100000 in
set_option maxHeartbeats 2000000 in
theorem appendSeq_any (s : List UInt8) (b : Nat) (w : World) (hs : s.length ≤ 1099511627776) (hb : Boxed w b 9 (.string (bs s))) :
    Calls Tryz.prog 211 #[.slice none 0 0, .func (.func 208) #[] #[.pointer (some ⟨b, 0, none⟩)]] w (BytesP w.heap.size (lowL s) w) := by
  obtain ⟨i0, hi, hz0, hz1, hz2⟩ := info_parts info_u8
  refine (callsIn_wide (n := 3)).1 ?_
  refine callsIn_of_wp_marks Tryz.func211 rfl trivial ?_ rfl
  simp only [Tryz.ntmps211, List.size_toArray, List.length_cons, List.length_nil, Nat.reduceAdd, Nat.reduceSub, Array.replicate_succ, Array.replicate_zero, List.push_toArray, List.append_toArray, List.nil_append, List.cons_append]
  gi_wp2
  have bO := Boxed.new w 83 (.slice none 0 0)
  have hB0 : Below w.heap.size w (w.alloc (.cells #[.slice none 0 0] 83)) := (Below.refl _ w).alloc (Nat.le_refl _) _
  refine wpIn_rangeFunc_ownF rfl (by omega) (gf := 208) (lb := #[.pointer (some ⟨b, 0, none⟩)]) rfl trivial (enters_of Tryz.func208 (by kernel_rfl) rfl)
    (small_seq 2 (by omega) b s w (by omega) hb) (fun h k => keepsRows_t h k) keepsRows_b hB0 (fun _ => rfl)
    (fun pre W => (∃ v, Boxed W w.heap.size 83 v ∧ W.ownsRow (w.heap.size + 1) 5 1 v pre.length (cellsB pre) ∧ True) ∧ Below w.heap.size w W ∧ w.heap.size + 1 ≤ W.heap.size)
    (fun _ _ _ => False)
    (OwnFrom.and (Own.from (holdsRow_own (w.heap.size + 1) w.heap.size 83 5 1 (fun pre => pre.length) (fun pre => cellsB pre) (fun _ _ => True)) _) (OwnFrom.and (ownFrom_below (Nat.le_refl _) (by simp)) ownFrom_size))
    (fun _ _ _ _ _ hs _ _ => hs)
    ⟨⟨_, bO, World.ownsRow_nil _ _ _ _, trivial⟩, hB0, by simp⟩
    (fun x => { tmps := #[.slice none 0 0, .func (.func 208) #[] #[.pointer (some ⟨b, 0, none⟩)], .pointer (some ⟨w.heap.size, 0, none⟩), undef, .slice none 0 0, .int .u8 ((x.toNat : Nat) : Int), .func (.func 208) #[] #[.pointer (some ⟨b, 0, none⟩)], .int .u8 ((x.toNat : Nat) : Int), undef, undef, undef, undef, undef], defers := [] }) ?assign ?body ?done ?stop
  case assign =>
    intro l x W K hK
    gi_wp2
    exact hK
  case body =>
    rintro l pre x W ⟨⟨v, hv, hrow, _⟩, hB, hbW⟩ hpl
    have hc := hv.cell
    have hzW := hB.size
    gi_wp2_with (gi_at_builtin; refine wpListIn_append_own _ rfl _ _ 83 rfl (w.heap.size + 1) 5 i0 (.int .u8 0) 1 1 Tryz.underlying83 hi hz0 hz1 hz2 rfl (by decide) _ _ _ rfl (hrow.alloc _) ⟨W.heap.size, 0, none⟩ 1 1 [.int .u8 ((x.toNat : Nat) : Int)] rfl rfl (cell_one_new _ _ _) (by simp [Value.oneCell']) (by unfold maxLen; omega) (by omega) (by simp; omega) ?_; intro v' w1 hown' hgrow _; obtain ⟨g', cap', rfl⟩ := ownsRow_succ hown'; have hkr := keepsRows_app (v' := Value.slice (some ⟨g', 0, none⟩) (pre.length + 1) cap') hv hrow hgrow; obtain ⟨hv1, hv2, hr2, hk2, hb2, ho2⟩ := boxed_appended hv (by decide) hrow (by omega) hzW (Nat.le_refl _) hown' hgrow; have hc1 := hv1.cell; have hf1 := hv1.frozen)
    exact ⟨hk2, hkr, ⟨_, hv2, by rw [cellsB_append, List.length_append]; exact hr2, trivial⟩, hB.trans hb2, Nat.le_trans hbW hk2.size⟩
  case done =>
    rintro D xs W hD rfl ⟨⟨v, hv, hrow, _⟩, hB, hbW⟩ hK
    have hc := hv.cell
    gi_wp2
    refine ⟨by simp, .inl ⟨_, _, rfl, run_takeDeferred hK, ?_⟩⟩
    exact ⟨_, results_tmp rfl _ _ _, v, rfl, ownsRow_base (ownsRow_putObj hrow _ hK rfl) (by omega), hB.trans (belowK_b (w := w) (Nat.le_refl _) W D _ _ (by simp at hD; omega) hK rfl rfl)⟩
  case stop =>
    rintro D c pre W _ _ h _
    exact h.elim

end Go.Proofs.YthnkgifbbemhfaaGreatDoor
