/- Texts of one walk, merged: XLs XSm XSn XAa XHm XH1. -/
import Derived.Test.YthnkgifbbemhfaaGreatDoorWa
import Derived.Test.YthnkgifbbemhfaaGreatDoorShelf
import Derived.Shelf.Abstract
import Derived.Shelf.RegionOpen
import Derived.OwnWalkIn
import Derived.TacticsInMore
import Derived.LoopNIn
import Derived.LoopIn
import Derived.Maps.AppendAt
import Derived.Sort.LoopGhostIn
import Derived.RangeFuncFrom
import Derived.LoopTactic
import Derived.Lib.Strings
import Derived.Lib.SlTrimSet
import Derived.Shelf.Strings.SlTrimAscii
import Derived.Deep.QuietTactic
import Derived.BigQuiet

/- strings.Lines as an iterator. -/
set_option linter.unusedVariables false
set_option linter.unusedSimpArgs false
section
set_option linter.unusedVariables false
set_option linter.unusedSimpArgs false
namespace Go.Proofs.YthnkgifbbemhfaaGreatDoor
open Go.RowKit Go Go.Shelf
attribute [local go_sem] Oper.semAt_some

theorem index_yes (h s r : List UInt8) (w : World) (e : cutNl h = some (s, r)) : Calls Tryz.prog 182 #[.string (bs h), .int .u8 10] w fun e w' => e = .returned (.int .i64 (s.length : Int)) ∧ w = w' := by
  refine (Tryz.strings_IndexByte (bs h) 10 w).mono fun _ _ ⟨a, b⟩ => ⟨?_, b.symm⟩
  rw [a]
  exact congrArg (fun x => Ending.returned (.int .i64 x)) (index_some e)
theorem index_no (h : List UInt8) (w : World) (e : cutNl h = none) : Calls Tryz.prog 182 #[.string (bs h), .int .u8 10] w fun e w' => e = .returned (.int .i64 (-1)) ∧ w = w' := by
  refine (Tryz.strings_IndexByte (bs h) 10 w).mono fun _ _ ⟨a, b⟩ => ⟨?_, b.symm⟩
  rw [a]
  exact congrArg (fun x => Ending.returned (.int .i64 x)) (index_none e)

theorem grown_drew {W W' : World} {row : Option Nat} (h : W.grownBy W' row) : W.grownBy W'.drew row := ⟨h.os, h.tape, h.output, h.size, h.block⟩
theorem grown_set (W : World) (b : Nat) (v : Value) : W.grownBy (W.setCell ⟨b, 0, none⟩ v) (some b) := grownBy_setCell' W b v

set_option maxRecDepth 100000 in
set_option maxHeartbeats 2000000 in
theorem lines_seq (n : Nat) (hn : 1 ≤ n) (b : Nat) (s : List UInt8) (hs : s.length ≤ 140737488355328) :
    SeqBox Fence.wide n Tryz.prog 181 b 9 (fun x => .string (bs x)) (linesOf s) (.string (bs s)) := by
  intro l J Jx W hJ hJx hY h0 hb
  refine callsIn_of_wp Tryz.func181 rfl trivial ?_ rfl
  simp only [Tryz.ntmps181, List.size_toArray, List.length_cons, List.length_nil, Nat.reduceAdd, Nat.reduceSub, Array.replicate_succ, Array.replicate_zero, List.push_toArray, List.append_toArray, List.nil_append, List.cons_append]
  gi_wp2
  gi_loopg [3, 4] s.length (fun kq _ _ wr => ∃ pre rest : List _, kq = rest.length ∧ Hid (pre ++ linesOf rest = linesOf s) ∧ rest.length ≤ s.length ∧ Boxed wr b 9 (.string (bs rest)) ∧ J pre wr)
  case atStart => exact ⟨[], s, rfl, rfl, Nat.le_refl _, hb, h0⟩
  case round =>
    obtain ⟨pre, rest, rfl, hp, hlen, hbx, hj⟩ := hrel
    have hc := hbx.cell
    have hf := hbx.frozen
    cases hcut : cutNl rest with
    | none =>
      by_cases he : rest = []
      · subst he
        gi_wp2
        go_end0
        exact ⟨⟨_, rfl⟩, .inl (by have := hp.out; rw [linesOf_nil, List.append_nil] at this; rw [← this]; exact hj)⟩
      · have h0l : 0 < rest.length := List.length_pos_iff.2 he
        have Hc := Lib.hid hcut
        have hlo := linesOf_cutNo hcut he
        have hpre : pre ++ [rest] <+: linesOf s := by rw [← hp.out, hlo]; exact List.prefix_rfl
        have hj2 := hJ pre _ _ hj (grown_set wr b (.string ⟨#[]⟩))
        obtain ⟨fn, tmps, assign, body, hy, hR⟩ := hY pre rest _ hpre hj2
        have Hlo := Lib.hid hlo
        clear hcut hlo
        gi_wp2_with (refine ⟨trivial, ?_⟩; gi_at_call 182; refine (callsIn_wide.2 (index_no _ _ Hc.out)).mono ?_; rintro e w' ⟨rfl, rfl⟩)
        refine hR.mono ?_
        rintro e W3 (⟨rfl, hJ3, hk3⟩ | ⟨rfl, hJx3⟩)
        · gi_wp2
          gi_roundg 0
          case measure => exact h0l
          case rel => exact ⟨pre ++ [rest], [], rfl, by have := hp.out; rw [Hlo.out] at this; rw [linesOf_nil, List.append_nil]; exact this, Nat.zero_le _, hk3.trans (hbx.set _), hJ3⟩
        · gi_wp2
          refine bodyPost_ret (results_none rfl _ _ _) rfl ?_
          exact ⟨⟨_, rfl⟩, .inr ⟨_, hpre, hJx3⟩⟩
    | some q =>
      obtain ⟨a, r⟩ := q
      obtain ⟨hrest, _⟩ := cutNl_some hcut
      have hll : rest.length = a.length + 1 + r.length := by rw [hrest]; simp; omega
      have h0l : 0 < rest.length := by omega
      have hla : a.length + 1 ≤ rest.length := by omega
      have hlr : r.length < rest.length := by omega
      have h1 := run_to rest (a.length + 1) hla
      have h2 := run_from rest (a.length + 1) hla
      rw [show rest.take (a.length + 1) = a ++ [10] by rw [hrest, show a ++ 10 :: r = (a ++ [10]) ++ r by simp]; exact List.take_left' (by simp), show ((a.length + 1 : Nat) : Int) = (a.length : Int) + 1 by simp] at h1
      rw [show rest.drop (a.length + 1) = r by rw [hrest, show a ++ 10 :: r = (a ++ [10]) ++ r by simp]; exact List.drop_left' (by simp), show ((a.length + 1 : Nat) : Int) = (a.length : Int) + 1 by simp] at h2
      have Hc := Lib.hid hcut
      have hlo := linesOf_cut hcut
      have hpre : pre ++ [a ++ [10]] <+: linesOf s := by rw [← hp.out, hlo]; exact ⟨linesOf r, by simp⟩
      have hj2 := hJ pre _ _ hj (grown_drew (grown_set wr b (.string (bs r))))
      obtain ⟨fn, tmps, assign, body, hy, hR⟩ := hY pre (a ++ [10]) _ hpre hj2
      have Hlo := Lib.hid hlo
      have d0 : decide (0 ≤ (a.length : Int)) = true := by simp
      clear hcut hlo hrest hll
      gi_wp2_with (refine ⟨trivial, ?_⟩; gi_at_call 182; refine (callsIn_wide.2 (index_yes _ _ _ _ Hc.out)).mono ?_; rintro e w' ⟨rfl, rfl⟩)
      gi_region
      gi_wp2
      refine hR.mono ?_
      rintro e W3 (⟨rfl, hJ3, hk3⟩ | ⟨rfl, hJx3⟩)
      · gi_wp2
        gi_roundg r.length
        case measure => exact hlr
        case rel => exact ⟨pre ++ [a ++ [10]], r, rfl, by have := hp.out; rw [Hlo.out] at this; rw [← this]; show _ = _; simp, by omega, hk3.trans (hbx.set _), hJ3⟩
      · gi_wp2
        refine bodyPost_ret (results_none rfl _ _ _) rfl ?_
        exact ⟨⟨_, rfl⟩, .inr ⟨_, hpre, hJx3⟩⟩

end Go.Proofs.YthnkgifbbemhfaaGreatDoor
end

/- header.small: the iterator, slices.AppendSeq, slices.Collect. -/
set_option linter.unusedVariables false
set_option linter.unusedSimpArgs false
section
namespace Go.Proofs.YthnkgifbbemhfaaGreatDoor
open Go.RowKit Go Go.Shelf
attribute [local go_sem] Oper.semAt_some

/-- []byte(s), with its block -/
theorem to_row (l : List UInt8) (w : World) : ∃ (cap : Nat) (w' : World) (cs : Array Value) (t : TypeId) (fr : Nat × Nat), (convert 9 83 (.string (bs l))).run Tryz.prog w = .ok (.slice (some ⟨w.heap.size, 0, none⟩) l.length cap) w' ∧
    w'.heap[w.heap.size]? = some (.cells cs t fr) ∧ fr ≠ (0, 0) ∧ (∀ i, i < l.length → cs[i]? = some (.int .u8 ((l.getD i 0).toNat : Int))) ∧ w.grownBy w' none ∧ w.heap.size < w'.heap.size := by
  have h := run_bytes_of_string (P := Tryz.prog) w 9 83 5 (bs l) Tryz.underlying9 Tryz.underlying83 Tryz.underlying5
  rw [bs_size] at h
  refine ⟨_, _, _, _, _, h, heap_new w.drew _, by simp, fun i hi => ?_, ⟨rfl, rfl, rfl, by simp, fun k hk _ => heap_old w.drew _ _ hk⟩, by simp⟩
  have hb := bytesRow_at (bs l) (grownCap w l.length 0 5) i (by simpa using hi)
  rw [hb]
  simp [List.getD, hi]

/-- rows that a conversion laid stay -/
def KeepsRows (W W' : World) : Prop := ∀ (k : Nat) (cs : Array Value) (t : TypeId) (fr : Nat × Nat), W.heap[k]? = some (Obj.cells cs t fr) → fr ≠ (0, 0) → W'.heap[k]? = some (Obj.cells cs t fr)
theorem keepsRows_t {A B C : World} (h : KeepsRows A B) (k : KeepsRows B C) : KeepsRows A C := fun i cs t fr e hf => k i cs t fr (h i cs t fr e hf) hf
theorem keepsRows_b {n : Nat} (W : World) (l : Nat) (o o' : Obj) (_ : n ≤ l) (h : W.heap[l]? = some o) (hc : o.isCells = false) (_ : o.isWalk = false) : KeepsRows W (W.putObj l o') := by
  intro k cs t fr e _
  refine (World.putObj_heap_other ?_).trans e
  rintro rfl
  rw [e] at h
  obtain rfl := Option.some.inj h
  cases hc
theorem keepsRows_app {W w1 : World} {n₀ B : Nat} {t e : TypeId} {size : Nat} {v v' : Value} {k : Nat} {xs : List Value} {tmp : Obj}
    (hv : Boxed W B t v) (hrow : W.ownsRow n₀ e size v k xs) (hgrow : (W.alloc tmp).grownBy w1 v.ownBlock) : KeepsRows W (w1.setCell ⟨B, 0, none⟩ v') := by
  intro i cs u fr he hf
  have hlt := (Array.getElem?_eq_some_iff.1 he).1
  have hiB : i ≠ B := by
    rintro rfl
    have h9 : W.heap[i]? = some (.cells #[v] t (0, 0)) := hv
    rw [he] at h9
    simp at h9
    exact hf h9.2.2
  have hir : some i ≠ v.ownBlock := by
    intro eo
    rcases hrow.2 with ⟨rfl, _⟩ | ⟨g, cap, cur, rfl, _, hg, _⟩
    · cases eo
    · obtain rfl : i = g := by simpa [Value.ownBlock] using eo
      rw [he] at hg
      simp at hg
      exact hf hg.2.2
  rw [Below.heap_setCell _ _ _ _ (by simpa using hiB), hgrow.block i (by simp; omega) hir, Below.heap_alloc _ _ _ hlt]
  exact he

theorem row_cell {W : World} {g k : Nat} {cs : Array Value} {t : TypeId} {fr : Nat × Nat} {x : Value} (h : W.heap[g]? = some (.cells cs t fr)) (hx : cs[k]? = some x) : W.cell? ⟨g, k, none⟩ = some x := by
  simp [World.cell?, h, hx]

set_option maxRecDepth 100000 in
set_option maxHeartbeats 2000000 in
theorem small_seq (n : Nat) (hn : 1 ≤ n) (b : Nat) (s : List UInt8) (w : World) (hs : s.length ≤ 140737488355328) (hb : Boxed w b 9 (.string (bs s))) :
    SeqStopsK Fence.wide n Tryz.prog 208 #[.pointer (some ⟨b, 0, none⟩)] (fun c : UInt8 => #[.int .u8 ((c.toNat : Nat) : Int)]) KeepsRows (fun xs => xs = lowL s) (fun _ => True) s.length w := by
  intro l J Jx W hW hJ hJx hY h0
  have hbW : Boxed W b 9 (.string (bs s)) := (hW.block b hb.lt).trans hb
  have hc := hbW.cell
  obtain ⟨cap, w1, cs, t, fr, hrun, hrow, hfr, hcs, hg1, hlt1⟩ := to_row s W
  have hj1 := hJ [] W w1 none h0 hg1 (fun r e => by cases e)
  have HFR := Lib.hid hfr
  have HCS := Lib.hid hcs
  clear hfr hcs hbW hg1
  refine callsIn_of_wp Tryz.func208 rfl trivial ?_ rfl
  simp only [Tryz.ntmps208, List.size_toArray, List.length_cons, List.length_nil, Nat.reduceAdd, Nat.reduceSub, Array.replicate_succ, Array.replicate_zero, List.push_toArray, List.append_toArray, List.nil_append, List.cons_append]
  gi_wp2
  gi_loopw [4, 8] (fun _ c wr => ∃ k : Nat, k ≤ s.length ∧ c = .int .i64 k ∧ wr.heap[W.heap.size]? = some (.cells cs t fr) ∧ J ((lowL s).take k) wr) (fun _ c _ => s.length - (intOf c).toNat)
  case atStart => exact ⟨0, Nat.zero_le _, rfl, hrow, by simpa using hj1⟩
  case round =>
    obtain ⟨k, hk, rfl, hrw, hj⟩ := hrel
    by_cases hlt : k < s.length
    · obtain ⟨c, hcc⟩ : ∃ c, s.getD k 0 = c := ⟨_, rfl⟩
      have hcell : wr.cell? ⟨W.heap.size, k, none⟩ = some (.int .u8 ((c.toNat : Nat) : Int)) := row_cell hrw (by rw [HCS.out k hlt, hcc])
      have hlt' : (k : Int) < s.length := by omega
      obtain ⟨fn, tmps, assign, body, hy, hR⟩ := hY ((lowL s).take k) (lowB c) wr hj (by simp [lowL_length]; omega)
      rw [← low_take hlt hcc] at hR
      have hc256 := c.toNat_lt
      have HRW := Lib.hid hrw
      clear hcc hrw
      by_cases h65 : 65 ≤ c.toNat ∧ c.toNat ≤ 90
      · obtain ⟨h1, h2⟩ := h65
        rw [lowB_yes h1 h2] at hy
        have h1' : (65 : Int) ≤ c.toNat := by omega
        have h2' : (c.toNat : Int) ≤ 90 := by omega
        have hcast : ((c.toNat + 32 : Nat) : Int) = (c.toNat : Int) + 32 := by omega
        rw [hcast] at hy
        clear hcast
        gi_wp2
        refine hR.mono ?_
        rintro e W3 (⟨rfl, hJ3, hk3⟩ | ⟨rfl, hJx3⟩)
        · gi_wp2
          go_roundw
          case rel => exact ⟨k + 1, by omega, by go_num, hk3 _ _ _ _ HRW.out HFR.out, hJ3⟩
          case measure => simp [intOf]; omega
        · gi_wp2
          refine bodyPost_ret (results_none rfl _ _ _) rfl ?_
          exact ⟨⟨_, rfl⟩, .inr ⟨_, trivial, hJx3⟩⟩
      · rw [lowB_no h65] at hy
        have h65' : ¬ ((65 : Int) ≤ c.toNat ∧ (c.toNat : Int) ≤ 90) := by omega
        have hcase : (c.toNat : Int) < 65 ∨ (65 : Int) ≤ c.toNat ∧ 90 < (c.toNat : Int) := by omega
        clear h65 h65'
        rcases hcase with h1 | ⟨h1, h2⟩
        all_goals
          gi_wp2
          refine hR.mono ?_
          rintro e W3 (⟨rfl, hJ3, hk3⟩ | ⟨rfl, hJx3⟩)
          · gi_wp2
            go_roundw
            case rel => exact ⟨k + 1, by omega, by go_num, hk3 _ _ _ _ HRW.out HFR.out, hJ3⟩
            case measure => simp [intOf]; omega
          · gi_wp2
            refine bodyPost_ret (results_none rfl _ _ _) rfl ?_
            exact ⟨⟨_, rfl⟩, .inr ⟨_, trivial, hJx3⟩⟩
    · obtain rfl : k = s.length := by omega
      gi_wp2
      go_end0
      exact ⟨⟨_, rfl⟩, .inl ⟨_, rfl, by rw [← lowL_length, List.take_length] at hj; exact hj⟩⟩

theorem ownsRow_base {w : World} {b b' : Nat} {e : TypeId} {size n : Nat} {v : Value} {xs : List Value} (h : w.ownsRow b e size v n xs) (hb : b' ≤ b) : w.ownsRow b' e size v n xs := by
  refine ⟨h.1, ?_⟩
  rcases h.2 with h0 | ⟨g, cap, cur, e, h1, r⟩
  · exact .inl h0
  · exact .inr ⟨g, cap, cur, e, Nat.le_trans hb h1, r⟩

/-- bytes of the call's own -/
def BytesP (B : Nat) (l : List UInt8) (w : World) (e : Ending) (w' : World) : Prop := ∃ v, e = .returned v ∧ OwnB w' B v l ∧ Below B w w'

set_option maxRecDepth 100000 in
set_option maxHeartbeats 2000000 in
theorem appendSeq_any (s : List UInt8) (b : Nat) (w : World) (hs : s.length ≤ 1099511627776) (hb : Boxed w b 9 (.string (bs s))) :
    Calls Tryz.prog 211 #[.slice none 0 0, .func (.func 208) #[] #[.pointer (some ⟨b, 0, none⟩)]] w (BytesP w.heap.size (lowL s) w) := by
  obtain ⟨i0, hi, hz0, hz1, hz2⟩ := info_parts info_u8
  refine (callsIn_wide (n := 3)).1 ?_
  refine callsIn_of_wp_marks Tryz.func211 rfl trivial ?_ rfl
  simp only [Tryz.ntmps211, List.size_toArray, List.length_cons, List.length_nil, Nat.reduceAdd, Nat.reduceSub, Array.replicate_succ, Array.replicate_zero, List.push_toArray, List.append_toArray, List.nil_append, List.cons_append]
  gi_wp2
  have bO := Boxed.new w 83 (.slice none 0 0)
  have hB0 : Below w.heap.size w (w.alloc (.cells #[.slice none 0 0] 83)) := (Below.refl _ w).alloc (Nat.le_refl _) _
  refine wpIn_rangeFunc_ownF rfl (by omega) (gf := 208) (lb := #[.pointer (some ⟨b, 0, none⟩)]) rfl trivial (enters_of Tryz.func208 (by kernel_rfl) rfl)
    (small_seq 2 (by omega) b s w (by omega) hb) (fun h k => keepsRows_t h k) keepsRows_b hB0 (fun _ => rfl)
    (fun pre W => (∃ v, Boxed W w.heap.size 83 v ∧ W.ownsRow (w.heap.size + 1) 5 1 v pre.length (cellsB pre) ∧ True) ∧ Below w.heap.size w W ∧ w.heap.size + 1 ≤ W.heap.size)
    (fun _ _ _ => False)
    (OwnFrom.and (Own.from (holdsRow_own (w.heap.size + 1) w.heap.size 83 5 1 (fun pre => pre.length) (fun pre => cellsB pre) (fun _ _ => True)) _) (OwnFrom.and (ownFrom_below (Nat.le_refl _) (by simp)) ownFrom_size))
    (fun _ _ _ _ _ hs _ _ => hs)
    ⟨⟨_, bO, World.ownsRow_nil _ _ _ _, trivial⟩, hB0, by simp⟩
    (fun x => { tmps := #[.slice none 0 0, .func (.func 208) #[] #[.pointer (some ⟨b, 0, none⟩)], .pointer (some ⟨w.heap.size, 0, none⟩), undef, .slice none 0 0, .int .u8 ((x.toNat : Nat) : Int), .func (.func 208) #[] #[.pointer (some ⟨b, 0, none⟩)], .int .u8 ((x.toNat : Nat) : Int), undef, undef, undef, undef, undef], defers := [] }) ?assign ?body ?done ?stop
  case assign =>
    intro l x W K hK
    gi_wp2
    exact hK
  case body =>
    rintro l pre x W ⟨⟨v, hv, hrow, _⟩, hB, hbW⟩ hpl
    have hc := hv.cell
    have hzW := hB.size
    gi_wp2_with (gi_at_builtin; refine wpListIn_append_own _ rfl _ _ 83 rfl (w.heap.size + 1) 5 i0 (.int .u8 0) 1 1 Tryz.underlying83 hi hz0 hz1 hz2 rfl (by decide) _ _ _ rfl (hrow.alloc _) ⟨W.heap.size, 0, none⟩ 1 1 [.int .u8 ((x.toNat : Nat) : Int)] rfl rfl (cell_one_new _ _ _) (by simp [Value.oneCell']) (by unfold maxLen; omega) (by omega) (by simp; omega) ?_; intro v' w1 hown' hgrow _; obtain ⟨g', cap', rfl⟩ := ownsRow_succ hown'; have hkr := keepsRows_app (v' := Value.slice (some ⟨g', 0, none⟩) (pre.length + 1) cap') hv hrow hgrow; obtain ⟨hv1, hv2, hr2, hk2, hb2, ho2⟩ := boxed_appended hv (by decide) hrow (by omega) hzW (Nat.le_refl _) hown' hgrow; have hc1 := hv1.cell; have hf1 := hv1.frozen)
    exact ⟨hk2, hkr, ⟨_, hv2, by rw [cellsB_append, List.length_append]; exact hr2, trivial⟩, hB.trans hb2, Nat.le_trans hbW hk2.size⟩
  case done =>
    rintro D xs W hD rfl ⟨⟨v, hv, hrow, _⟩, hB, hbW⟩ hK
    have hc := hv.cell
    gi_wp2
    refine ⟨by simp, .inl ⟨_, _, rfl, run_takeDeferred hK, ?_⟩⟩
    exact ⟨_, results_tmp rfl _ _ _, v, rfl, ownsRow_base (ownsRow_putObj hrow _ hK rfl) (by omega), hB.trans (belowK_b (w := w) (Nat.le_refl _) W D _ _ (by simp at hD; omega) hK rfl rfl)⟩
  case stop =>
    rintro D c pre W _ _ h _
    exact h.elim

end Go.Proofs.YthnkgifbbemhfaaGreatDoor
end

/- header.small, header.Same; the reference's Small. -/
set_option linter.unusedVariables false
set_option linter.unusedSimpArgs false
section
namespace Go.Proofs.YthnkgifbbemhfaaGreatDoor
open Go.RowKit

set_option maxRecDepth 100000 in
theorem collect_any (s : List UInt8) (b : Nat) (w : World) (hs : s.length ≤ 1099511627776) (hb : Boxed w b 9 (.string (bs s))) :
    Calls Tryz.prog 207 #[.func (.func 208) #[] #[.pointer (some ⟨b, 0, none⟩)]] w (BytesP w.heap.size (lowL s) w) := by
  have HC := fun w0 (h : Boxed w0 b 9 (.string (bs s))) => appendSeq_any s b w0 hs h
  have HC2 := Lib.hid HC
  have HB := Lib.hid hb
  clear HC hb
  go_enter Tryz.func207, Tryz.ntmps207
  go_wp2_with fail
  refine (HC2.out _ HB.out).mono ?_
  rintro e w2 ⟨v, rfl, ho, hb2⟩
  go_wp2
  go_ret
  exact ⟨v, rfl, ho, hb2⟩

set_option maxRecDepth 100000 in
theorem small_any (s : List UInt8) (w : World) (hs : s.length ≤ 1099511627776) : Calls Tryz.prog 188 #[.string (bs s)] w fun e w' => e = .returned (.string (bs (lowL s))) ∧ Below w.heap.size w w' := by
  have HS := Lib.hid hs
  have hB0 : Below w.heap.size w (w.alloc (.cells #[.string (bs s)] 9)) := (Below.refl _ w).alloc (Nat.le_refl _) _
  have bO := Boxed.new w 9 (.string (bs s))
  have HBO := Lib.hid bO
  clear bO hs
  go_enter Tryz.func188, Tryz.ntmps188
  go_wp2_with fail
  refine (collect_any s _ _ HS.out HBO.out).mono ?_
  rintro e w2 ⟨v, rfl, ho, hb2⟩
  have hcv := convert_bytes ho.bytes
  have hB2 := hB0.trans (hb2.mono (by simp))
  clear ho hb2
  go_wp2
  go_ret
  exact ⟨rfl, hB2⟩

set_option maxRecDepth 100000 in
theorem hsame_any (a b : List UInt8) (w : World) (ha : a.length ≤ 1099511627776) (hb : b.length ≤ 1099511627776) : Calls Tryz.prog 144 #[.string (bs a), .string (bs b)] w fun e w' => e = .returned (.bool (lowL a == lowL b)) ∧ Below w.heap.size w w' := by
  have HA := Lib.hid ha
  have HB := Lib.hid hb
  clear ha hb
  go_enter Tryz.func144, Tryz.ntmps144
  go_wp2_with fail
  refine (small_any a _ HA.out).mono ?_
  rintro e w2 ⟨rfl, hb2⟩
  go_wp2_with fail
  refine (small_any b _ HB.out).mono ?_
  rintro e w3 ⟨rfl, hb3⟩
  go_wp2
  go_ret
  exact ⟨rfl, hb2.trans (hb3.mono hb2.size)⟩

/-- []byte(s), with its block -/
theorem to_row2 (l : List UInt8) (w : World) : ∃ (cap : Nat) (w' : World) (cs : Array Value) (t : TypeId), (convert 9 83 (.string (bs l))).run Tryz.prog w = .ok (.slice (some ⟨w.heap.size, 0, none⟩) l.length cap) w' ∧
    w'.heap[w.heap.size]? = some (.cells cs t (cs.size, cs.size + 1)) ∧ l.length ≤ cs.size ∧ (∀ i, i < l.length → cs[i]? = some (.int .u8 ((l.getD i 0).toNat : Int))) ∧ Below w.heap.size w w' ∧ w.heap.size < w'.heap.size := by
  have h := run_bytes_of_string (P := Tryz.prog) w 9 83 5 (bs l) Tryz.underlying9 Tryz.underlying83 Tryz.underlying5
  rw [bs_size] at h
  have hcs : ∀ i, i < l.length → (bytesRow (bs l) (grownCap w l.length 0 5))[i]? = some (.int .u8 ((l.getD i 0).toNat : Int)) := fun i hi => by
    have hb := bytesRow_at (bs l) (grownCap w l.length 0 5) i (by simpa using hi)
    rw [hb]
    simp [List.getD, hi]
  refine ⟨_, _, _, _, h, heap_new w.drew _, by unfold bytesRow; simp, hcs, ((Below.refl _ w).drew).alloc (Nat.le_refl _) _, by simp⟩

theorem set_row {W : World} {g k : Nat} {cs : Array Value} {t : TypeId} {fr : Nat × Nat} (h : W.heap[g]? = some (.cells cs t fr)) (x : Value) : (W.setCell ⟨g, k, none⟩ x).heap[g]? = some (.cells (cs.setIfInBounds k x) t fr) := by
  simp [World.setCell, Array.getElem?_modify, h]

set_option maxRecDepth 100000 in
set_option maxHeartbeats 1000000 in
theorem refSmall_any (s : List UInt8) (w : World) (hs : s.length ≤ 1099511627776) : Calls Tryz.prog 31 #[.string (bs s)] w fun e w' => e = .returned (.string (bs (lowL s))) ∧ Below w.heap.size w w' := by
  obtain ⟨cap, w1, cs0, t, hrun, hrow, hle, hcs, hb1, hlt1⟩ := to_row2 s w
  obtain ⟨N, hN⟩ : ∃ N, cs0.size = N := ⟨_, rfl⟩
  rw [hN] at hrow hle
  have HCS := Lib.hid hcs
  clear hcs hN
  go_enter Tryz.func31, Tryz.ntmps31
  go_wp2
  go_loopw [4, 9] (fun _ c wr => ∃ (k : Nat) (cs : Array Value), k ≤ s.length ∧ c = .int .i64 k ∧ wr.heap[w.heap.size]? = some (.cells cs t (N, N + 1)) ∧ Hid (∀ j, j < s.length → cs[j]? = some (.int .u8 (((if j < k then lowB (s.getD j 0) else s.getD j 0).toNat : Nat) : Int))) ∧ Below w.heap.size w wr) (fun _ c _ => s.length - (intOf c).toNat)
  case atStart => exact ⟨0, cs0, Nat.zero_le _, rfl, hrow, by intro j hj; rw [HCS.out j hj]; simp, hb1⟩
  case round =>
    obtain ⟨k, cs, hk, rfl, hrw, hcs, hB⟩ := hrel
    by_cases hlt : k < s.length
    · obtain ⟨c, hcc⟩ : ∃ c, s.getD k 0 = c := ⟨_, rfl⟩
      have hck := hcs.out k hlt
      rw [if_neg (Nat.lt_irrefl k), hcc] at hck
      have hcell : wr.cell? ⟨w.heap.size, k, none⟩ = some (.int .u8 ((c.toNat : Nat) : Int)) := row_cell hrw hck
      have hfz : wr.frozen? ⟨w.heap.size, k, none⟩ = false := by simp [World.frozen?, hrw]; omega
      have hlt' : (k : Int) < s.length := by omega
      have hc256 := c.toNat_lt
      have HRW := Lib.hid hrw
      have HCC := Lib.hid hcc
      have hksz : k < cs.size := (Array.getElem?_eq_some_iff.1 hck).1
      clear hcc hrw hck
      by_cases h65 : 65 ≤ c.toNat ∧ c.toNat ≤ 90
      · obtain ⟨h1, h2⟩ := h65
        have hlo := lowB_yes h1 h2
        have h1' : (65 : Int) ≤ c.toNat := by omega
        have h2' : (c.toNat : Int) ≤ 90 := by omega
        have HLO := Lib.hid hlo
        clear hlo
        go_wp2
        go_roundw
        case rel =>
          refine ⟨k + 1, cs.setIfInBounds k (.int .u8 ((c.toNat : Int) + 32)), by omega, by go_num, set_row HRW.out _, ?_, hB.setCell (p := ⟨w.heap.size, k, none⟩) (Nat.le_refl _) _⟩
          intro j hj
          by_cases e : j = k
          · subst e
            rw [Array.getElem?_setIfInBounds_self_of_lt hksz, if_pos (by omega), HCC.out, HLO.out]
            congr 2
          · rw [Array.getElem?_setIfInBounds_ne (by omega), hcs.out j hj]
            by_cases h3 : j < k
            · rw [if_pos h3, if_pos (by omega)]
            · rw [if_neg h3, if_neg (by omega)]
        case measure => simp [intOf]; omega
      · have hlo := lowB_no h65
        have h65' : ¬ ((65 : Int) ≤ c.toNat ∧ (c.toNat : Int) ≤ 90) := by omega
        have hcase : (c.toNat : Int) < 65 ∨ (65 : Int) ≤ c.toNat ∧ 90 < (c.toNat : Int) := by omega
        have HLO := Lib.hid hlo
        clear h65 h65' hlo
        have hnext : Hid (∀ j, j < s.length → cs[j]? = some (.int .u8 (((if j < k + 1 then lowB (s.getD j 0) else s.getD j 0).toNat : Nat) : Int))) := by
          intro j hj
          rw [hcs.out j hj]
          by_cases e : j = k
          · subst e
            rw [if_neg (Nat.lt_irrefl _), if_pos (by omega), HCC.out, HLO.out]
          · by_cases h3 : j < k
            · rw [if_pos h3, if_pos (by omega)]
            · rw [if_neg h3, if_neg (by omega)]
        rcases hcase with h1 | ⟨h1, h2⟩
        all_goals
          go_wp2
          go_roundw
          case rel => exact ⟨k + 1, cs, by omega, by go_num, HRW.out, hnext, hB⟩
          case measure => simp [intOf]; omega
    · obtain rfl : k = s.length := by omega
      have hcv := convert_bytes (v := .slice (some ⟨w.heap.size, 0, none⟩) s.length cap) (w := wr) (l := lowL s) (.inr ⟨w.heap.size, 0, cap, by rw [lowL_length], fun i hi => by
        rw [lowL_length] at hi
        refine row_cell hrw ?_
        rw [Nat.zero_add, hcs.out i hi, if_pos hi]
        simp [lowL, hi]⟩)
      clear hrw
      go_wp2
      go_ret
      exact ⟨rfl, hB⟩

end Go.Proofs.YthnkgifbbemhfaaGreatDoor
end

/- answer.Literal, answer.Has, and the document's. -/
set_option linter.unusedVariables false
set_option linter.unusedSimpArgs false
section
namespace Go.Proofs.YthnkgifbbemhfaaGreatDoor
open Go.RowKit Go

/-- a text as a literal -/
def litL (s : List UInt8) : List UInt8 := [123] ++ Lib.decDigits s.length ++ [125, 13, 10] ++ s
def hasB (s t : List UInt8) : Bool := Lib.contains (lowL s) (lowL t)

theorem contains_nil (b : List UInt8) : Lib.contains [] b = b.isEmpty := by
  unfold Lib.contains Lib.index
  cases b <;> rfl
theorem contains_cons (c : UInt8) (l b : List UInt8) : Lib.contains (c :: l) b = (b.isPrefixOf (c :: l) || Lib.contains l b) := by
  unfold Lib.contains
  rw [Lib.index]
  have hg := Lib.index_ge l b
  by_cases hp : b.isPrefixOf (c :: l) = true
  · rw [if_pos hp, hp]; rfl
  · rw [if_neg hp]
    have : b.isPrefixOf (c :: l) = false := Bool.eq_false_iff.mpr hp
    rw [this, Bool.false_or]
    by_cases h1 : Lib.index l b = -1
    · rw [if_pos (by rw [h1]; rfl), h1]
    · rw [if_neg (by simpa using h1)]
      congr 1
      apply propext
      constructor <;> intro h <;> omega
theorem contains_short : ∀ (l b : List UInt8), l.length < b.length → Lib.contains l b = false
  | [], b, h => by
    rw [contains_nil]
    cases b with
    | nil => simp at h
    | cons c b => rfl
  | c :: l, b, h => by
    rw [contains_cons, contains_short l b (by simp at h; omega), Bool.or_false]
    cases hp : b.isPrefixOf (c :: l) with
    | false => rfl
    | true =>
      have := (List.isPrefixOf_iff_prefix.1 hp).length_le
      omega
theorem contains_here {a b : List UInt8} {i : Nat} (h : (a.drop i).take b.length = b) : Lib.contains (a.drop i) b = true := by
  have hp : b <+: a.drop i := ⟨(a.drop i).drop b.length, by conv => lhs; lhs; rw [← h]
                                                            exact List.take_append_drop _ _⟩
  cases hd : a.drop i with
  | nil =>
    rw [hd] at hp
    have : b = [] := List.prefix_nil.1 hp
    rw [this, contains_nil]; rfl
  | cons c l =>
    rw [hd] at hp
    rw [contains_cons, List.isPrefixOf_iff_prefix.2 hp]; rfl
theorem contains_next {a b : List UInt8} {i : Nat} (h : (a.drop i).take b.length ≠ b) (hi : i + b.length ≤ a.length) : Lib.contains (a.drop i) b = Lib.contains (a.drop (i + 1)) b := by
  have hb : 0 < b.length := by
    rcases Nat.eq_zero_or_pos b.length with h0 | h0
    · have : b = [] := List.eq_nil_of_length_eq_zero h0
      subst this
      simp at h
    · exact h0
  have hd : a.drop i = a[i]'(by omega) :: a.drop (i + 1) := List.drop_eq_getElem_cons (by omega)
  have hp : b.isPrefixOf (a.drop i) = false := by
    cases hp : b.isPrefixOf (a.drop i) with
    | false => rfl
    | true =>
      obtain ⟨t, ht⟩ := List.isPrefixOf_iff_prefix.1 hp
      exact absurd (by rw [← ht, List.take_left]) h
  rw [hd] at hp ⊢
  rw [contains_cons, hp, Bool.false_or]
theorem next_lt {a b : List UInt8} {i : Nat} (h : (a.drop i).take b.length ≠ b) (hi : i + b.length ≤ a.length) : i + 1 ≤ a.length := by
  rcases Nat.eq_zero_or_pos b.length with h0 | h0
  · have : b = [] := List.eq_nil_of_length_eq_zero h0
    subst this
    simp at h
  · omega
theorem lit_sum (D s : List UInt8) : ({ data := #[123] } : ByteArray) ++ bs D ++ { data := #[125] } ++ { data := #[13, 10] } ++ bs s = bs ([123] ++ D ++ [125, 13, 10] ++ s) := by
  simp only [bs_append]
  congr 1
  simp
theorem contains_self (l : List UInt8) : Lib.contains l l = true := by
  have := contains_here (a := l) (b := l) (i := 0) (by simp)
  simpa using this
theorem contains_empty (l : List UInt8) : Lib.contains l [] = true := by
  have := contains_here (a := l) (b := []) (i := 0) (by simp)
  simpa using this

set_option maxRecDepth 100000 in
theorem literal_any (s : List UInt8) (w : World) (hl : s.length ≤ 1000000000) (hT : TabQ w) : Calls Tryz.prog 10 #[.string (bs s)] w fun e w' => e = .returned (.string (bs (litL s))) ∧ Below w.heap.size w w' := by
  have hd := decq_length 10 s.length (by omega) (by omega)
  have HT := Lib.hid hT
  clear hT
  unfold litL
  obtain ⟨D, hD⟩ : ∃ D, Lib.decDigits s.length = D := ⟨_, rfl⟩
  have HD := Lib.hid hD
  rw [hD] at hd ⊢
  clear hD
  go_enter Tryz.func10, Tryz.ntmps10
  go_wp2_with fail
  refine (itoaQ_any s.length _ (by omega) HT.out).mono ?_
  rintro e w1 ⟨rfl, hb1⟩
  rw [HD.out]
  go_wp2
  go_ret
  exact ⟨by show _ = Ending.returned (Value.string (bs ([123] ++ D ++ [125, 13, 10] ++ s))); rw [← lit_sum]; rfl, hb1⟩
set_option maxRecDepth 100000 in
theorem refLiteral_any (s : List UInt8) (w : World) (hl : s.length ≤ 1000000000) : Calls Tryz.prog 11 #[.string (bs s)] w fun e w' => e = .returned (.string (bs (litL s))) ∧ Below w.heap.size w w' := by
  have hd := decq_length 10 s.length (by omega) (by omega)
  unfold litL
  obtain ⟨D, hD⟩ : ∃ D, Lib.decDigits s.length = D := ⟨_, rfl⟩
  have HD := Lib.hid hD
  rw [hD] at hd ⊢
  clear hD
  go_enter Tryz.func11, Tryz.ntmps11
  go_wp2_with fail
  refine (refDigits10_any s.length _ (by omega)).mono ?_
  rintro e w1 ⟨rfl, hb1⟩
  rw [HD.out]
  go_wp2
  go_ret
  exact ⟨by simp only [← bs_append]; rfl, hb1⟩

theorem strContains_any (a b : List UInt8) (m : Int) (w : World) (ha : a.length < 4294967281) (hm : w.cell? ⟨2, 0, none⟩ = some (.int .i64 m)) :
    Calls Tryz.prog 29 #[.string (bs a), .string (bs b)] w fun e w' => e = .returned (.bool (Lib.contains a b)) ∧ Below w.heap.size w w' :=
  (Tryz.strings_Contains (bs a) (bs b) m w (by rw [bs_size]; exact ha) hm).mono fun e w' ⟨h, k⟩ => by
    subst h k
    exact ⟨by simp, Below.refl _ _⟩

set_option maxRecDepth 100000 in
theorem has_any (s t : List UInt8) (m : Int) (w : World) (hs : s.length ≤ 100000000) (ht : t.length ≤ 100000000) (hm : w.cell? ⟨2, 0, none⟩ = some (.int .i64 m)) :
    Calls Tryz.prog 12 #[.string (bs s), .string (bs t)] w fun e w' => e = .returned (.bool (hasB s t)) ∧ Below w.heap.size w w' := by
  have HM := Lib.hid hm
  clear hm
  go_enter Tryz.func12, Tryz.ntmps12
  go_wp2_with fail
  refine (ansSmall_any s _ (by omega)).mono ?_
  rintro e w1 ⟨rfl, hb1⟩
  go_wp2_with fail
  refine (ansSmall_any t _ (by omega)).mono ?_
  rintro e w2 ⟨rfl, hb2⟩
  have hb := hb1.trans (hb2.mono hb1.size)
  have hm2 := (hb.cell (p := ⟨2, 0, none⟩) (cell_lt HM.out)).trans HM.out
  have HC := Lib.hid (strContains_any (lowL s) (lowL t) m w2 (by rw [lowL_length]; omega) hm2)
  clear hm2 hb1 hb2
  go_wp2_with fail
  refine HC.out.mono ?_
  rintro e w3 ⟨rfl, hb3⟩
  go_wp2
  go_ret
  exact ⟨rfl, hb.trans (hb3.mono hb.size)⟩

set_option maxRecDepth 100000 in
set_option maxHeartbeats 1000000 in
theorem refHas_any (s t : List UInt8) (w : World) (hs : s.length ≤ 100000000) (ht : t.length ≤ 100000000) :
    Calls Tryz.prog 13 #[.string (bs s), .string (bs t)] w fun e w' => e = .returned (.bool (hasB s t)) ∧ Below w.heap.size w w' := by
  obtain ⟨R, hR⟩ : ∃ R, hasB s t = R := ⟨_, rfl⟩
  rw [hR]
  have HR := Lib.hid hR
  clear hR
  go_enter Tryz.func13, Tryz.ntmps13
  go_wp2_with fail
  refine (refSmall_any s _ (by omega)).mono ?_
  rintro e w1 ⟨rfl, hb1⟩
  go_wp2_with fail
  refine (refSmall_any t _ (by omega)).mono ?_
  rintro e w2 ⟨rfl, hb2⟩
  have hb := hb1.trans (hb2.mono hb1.size)
  have hr := HR.out
  unfold hasB at hr
  have hla := lowL_length s
  have hlb := lowL_length t
  obtain ⟨a, ha⟩ : ∃ a, lowL s = a := ⟨_, rfl⟩
  obtain ⟨b, hb9⟩ : ∃ b, lowL t = b := ⟨_, rfl⟩
  rw [ha] at hr hla ⊢
  rw [hb9] at hr hlb ⊢
  have HR2 := Lib.hid hr
  have hla2 : a.length ≤ 100000000 := by omega
  have hlb2 : b.length ≤ 100000000 := by omega
  clear hr ha hb9 HR hb1 hb2 hla hlb
  go_wp2
  go_loopw [7] (fun i wr => ∃ k : Nat, k ≤ a.length ∧ i = .int .i64 k ∧ Hid (Lib.contains (a.drop k) b = R) ∧ wr = w2) (fun i _ => a.length + 1 - (intOf i).toNat)
  case atStart => exact ⟨0, by omega, rfl, HR2.out, rfl⟩
  case round =>
    obtain ⟨k, hk, rfl, hr, rfl⟩ := hrel
    by_cases hlt : k + b.length ≤ a.length
    · have hlt' : (k : Int) + b.length ≤ a.length := by omega
      have hsl := fun w0 => run_mid a k (k + b.length) (by omega) (by omega) w0
      rw [show k + b.length - k = b.length by omega, show ((k + b.length : Nat) : Int) = (k : Int) + b.length by simp] at hsl
      by_cases he : (a.drop k).take b.length = b
      · have h1 := contains_here he
        rw [hr.out] at h1
        subst h1
        rw [he] at hsl
        clear hr he
        go_wp2
        go_ret
        exact ⟨rfl, hb⟩
      · have h1 := contains_next he hlt
        have hk2 := next_lt he hlt
        obtain ⟨M, hM⟩ : ∃ M, (a.drop k).take b.length = M := ⟨_, rfl⟩
        have hr3 : Hid (Lib.contains (a.drop (k + 1)) b = R) := by show _ = _; rw [← h1, hr.out]
        rw [hM] at hsl he
        have he2 : (M == b) = false := by simpa using he
        have hml : M.length = b.length := by rw [← hM, List.length_take, List.length_drop]; omega
        have HML := Lib.hid hml
        clear hr h1 hM he hml
        go_wp2
        go_roundw
        case rel => exact ⟨k + 1, hk2, by go_num, hr3, by trivial⟩
        case measure => simp [intOf]; omega
    · have hlt' : (a.length : Int) < k + b.length := by omega
      have h1 : R = false := by
        rw [← hr.out]
        exact contains_short _ _ (by rw [List.length_drop]; omega)
      subst h1
      clear hr
      go_wp2
      go_ret
      exact ⟨rfl, hb⟩

end Go.Proofs.YthnkgifbbemhfaaGreatDoor
end

/- Plain facts on headers. -/
set_option linter.unusedVariables false
set_option linter.unusedSimpArgs false
section
namespace Go.Proofs.YthnkgifbbemhfaaGreatDoor

/-- a field: its name, its value, where it stands -/
structure Fld where
  name : List UInt8
  value : List UInt8
  pos : Nat
  fin : Nat

/-- a line less its end -/
def textL (l : List UInt8) : List UInt8 := if Lib.hasSuffix l [10] then Lib.trimSuffix (Lib.trimSuffix l [10]) [13] else l
def blankB (c : UInt8) : Bool := c == 32 || c == 9
def goesB : List UInt8 → Bool
  | [] => false
  | c :: _ => blankB c
def okC (c : UInt8) : Bool := decide (33 ≤ c.toNat) && decide (c.toNat ≤ 126)
/-- what is ahead of the first ":", and what is behind it -/
def cutC : List UInt8 → Option (List UInt8 × List UInt8)
  | [] => none
  | c :: r => if c = 58 then some ([], r) else match cutC r with
    | none => none
    | some (a, b) => some (c :: a, b)
/-- a field's name and what is behind the ":" -/
def nameL (t : List UInt8) : Option (List UInt8 × List UInt8) :=
  match cutC t with
  | none => none
  | some (n, r) => if n ≠ [] ∧ n.all okC = true then some (n, r) else none

/-- what a line turns: the fields, whether the last one may go on, whether the header goes on -/
def turnL (fs : List Fld) (op : Bool) (p q : Nat) (t : List UInt8) : List Fld × Bool × Bool :=
  if t = [] then (fs, op, false)
  else if goesB t = true then
    (match op, fs.getLast? with
     | true, some f => (fs.dropLast ++ [{ f with value := f.value ++ t, fin := q }], true, true)
     | _, _ => (fs, op, true))
  else match nameL t with
    | some (n, v) => (fs ++ [⟨n, v, p, q⟩], true, true)
    | none => (fs, false, true)

/-- over the lines -/
def goL (fs : List Fld) (op : Bool) (p : Nat) : List (List UInt8) → List Fld × Nat
  | [] => (fs, p)
  | l :: ls =>
    if (turnL fs op p (p + l.length) (textL l)).2.2 = true then goL (turnL fs op p (p + l.length) (textL l)).1 (turnL fs op p (p + l.length) (textL l)).2.1 (p + l.length) ls
    else ((turnL fs op p (p + l.length) (textL l)).1, p + l.length)

def trimB (l : List UInt8) : List UInt8 := Lib.trimS l [32, 9]
def trimF (f : Fld) : Fld := { f with value := trimB f.value }
/-- a message's fields -/
def fieldsL (m : List UInt8) : List Fld := (goL [] false 0 (linesOf m)).1.map trimF
def bodyL (m : List UInt8) : Nat := (goL [] false 0 (linesOf m)).2

/-! ### the document's fields: a line and those that go on -/

/-- the lines that go on: what they add, where they end, what is left -/
def contL (p : Nat) : List (List UInt8) → List UInt8 × Nat × List (List UInt8)
  | [] => ([], p, [])
  | l :: ls => if goesB (textL l) = true then (textL l ++ (contL (p + l.length) ls).1, (contL (p + l.length) ls).2.1, (contL (p + l.length) ls).2.2) else ([], p, l :: ls)

theorem contL_len (p : Nat) (ls : List (List UInt8)) : (contL p ls).2.2.length ≤ ls.length := by
  induction ls generalizing p with
  | nil => simp [contL]
  | cons l ls ih =>
    unfold contL
    split
    · have := ih (p + l.length); simp; omega
    · simp

def refL (p : Nat) : List (List UInt8) → List Fld × Nat
  | [] => ([], p)
  | l :: ls =>
    if textL l = [] then ([], p + l.length)
    else
      let c := contL (p + l.length) ls
      let r := refL c.2.1 c.2.2
      (match nameL (textL l) with
       | some (n, v) => if goesB (textL l) = true then r.1 else ⟨n, trimB (v ++ c.1), p, c.2.1⟩ :: r.1
       | none => r.1, r.2)
termination_by ls => ls.length
decreasing_by
  have := contL_len (p + l.length) ls
  simp
  omega

theorem refL_cons (p : Nat) (l : List UInt8) (ls : List (List UInt8)) : refL p (l :: ls) =
    if textL l = [] then ([], p + l.length)
    else (match nameL (textL l) with
       | some (n, v) => if goesB (textL l) = true then (refL (contL (p + l.length) ls).2.1 (contL (p + l.length) ls).2.2).1 else ⟨n, trimB (v ++ (contL (p + l.length) ls).1), p, (contL (p + l.length) ls).2.1⟩ :: (refL (contL (p + l.length) ls).2.1 (contL (p + l.length) ls).2.2).1
       | none => (refL (contL (p + l.length) ls).2.1 (contL (p + l.length) ls).2.2).1, (refL (contL (p + l.length) ls).2.1 (contL (p + l.length) ls).2.2).2) := by
  rw [refL]

theorem goesB_ne {t : List UInt8} (h : goesB t = true) : t ≠ [] := by
  rintro rfl; cases h

/-- the lines that go on behind an open field -/
theorem goL_open (fs : List Fld) (f : Fld) (p : Nat) (ls : List (List UInt8)) : (f.fin = p) → goL (fs ++ [f]) true p ls = goL (fs ++ [{ f with value := f.value ++ (contL p ls).1, fin := (contL p ls).2.1 }]) true (contL p ls).2.1 (contL p ls).2.2 := by
  induction ls generalizing f p with
  | nil => rintro rfl; simp [contL, goL]
  | cons l ls ih =>
    intro hp
    by_cases h : goesB (textL l) = true
    · have hc : contL p (l :: ls) = (textL l ++ (contL (p + l.length) ls).1, (contL (p + l.length) ls).2.1, (contL (p + l.length) ls).2.2) := by
        rw [contL, if_pos h]
      have ht : turnL (fs ++ [f]) true p (p + l.length) (textL l) = (fs ++ [{ f with value := f.value ++ textL l, fin := p + l.length }], true, true) := by
        unfold turnL
        rw [if_neg (goesB_ne h), if_pos h]
        simp
      rw [goL, ht, if_pos rfl, ih { f with value := f.value ++ textL l, fin := p + l.length } (p + l.length) rfl, hc]
      simp
    · have hc : contL p (l :: ls) = ([], p, l :: ls) := by rw [contL, if_neg h]
      rw [hc]
      subst hp
      simp
theorem goL_shut (fs : List Fld) (p : Nat) (ls : List (List UInt8)) : goL fs false p ls = goL fs false (contL p ls).2.1 (contL p ls).2.2 := by
  induction ls generalizing p with
  | nil => simp [contL, goL]
  | cons l ls ih =>
    by_cases h : goesB (textL l) = true
    · have hc : contL p (l :: ls) = (textL l ++ (contL (p + l.length) ls).1, (contL (p + l.length) ls).2.1, (contL (p + l.length) ls).2.2) := by
        rw [contL, if_pos h]
      have ht : turnL fs false p (p + l.length) (textL l) = (fs, false, true) := by
        unfold turnL
        rw [if_neg (goesB_ne h), if_pos h]
      rw [goL, ht, if_pos rfl, ih (p + l.length), hc]
    · have hc : contL p (l :: ls) = ([], p, l :: ls) := by rw [contL, if_neg h]
      rw [hc]
/-- where the next line does not go on, it is one whether the last field may go on -/
theorem goL_either (fs : List Fld) (p : Nat) (ls : List (List UInt8)) (h : ∀ l r, ls = l :: r → goesB (textL l) = false) : goL fs true p ls = goL fs false p ls := by
  cases ls with
  | nil => rfl
  | cons l r =>
    have hg := h l r rfl
    have ht : turnL fs true p (p + l.length) (textL l) = ((turnL fs false p (p + l.length) (textL l)).1, (if textL l = [] then true else (turnL fs false p (p + l.length) (textL l)).2.1), (turnL fs false p (p + l.length) (textL l)).2.2) := by
      unfold turnL
      by_cases h0 : textL l = []
      · simp [h0]
      · simp only [h0, if_false, hg]
        cases nameL (textL l) with
        | none => simp
        | some q => simp
    rw [goL, goL, ht]
    by_cases h0 : textL l = []
    · have : (turnL fs false p (p + l.length) (textL l)).2.2 = false := by unfold turnL; simp [h0]
      simp [this]
    · simp [h0]
theorem contL_stop (p : Nat) (ls : List (List UInt8)) : ∀ l r, (contL p ls).2.2 = l :: r → goesB (textL l) = false := by
  induction ls generalizing p with
  | nil => intro l r h; simp [contL] at h
  | cons x ls ih =>
    intro l r h
    unfold contL at h
    by_cases hg : goesB (textL x) = true
    · rw [if_pos hg] at h; exact ih _ l r h
    · rw [if_neg hg] at h
      simp at h
      rw [← h.1]; simpa using hg

/-- the two ways to read a header tell the same -/
theorem goL_ref (n : Nat) : ∀ (ls : List (List UInt8)), ls.length ≤ n → ∀ (fs : List Fld) (p : Nat), ((goL fs false p ls).1.map trimF, (goL fs false p ls).2) = (fs.map trimF ++ (refL p ls).1, (refL p ls).2) := by
  induction n with
  | zero =>
    intro ls hl fs p
    obtain rfl : ls = [] := List.eq_nil_of_length_eq_zero (by omega)
    simp [goL, refL]
  | succ n ih =>
    intro ls hl fs p
    cases ls with
    | nil => simp [goL, refL]
    | cons l ls =>
      simp only [List.length_cons] at hl
      rw [refL_cons]
      by_cases h0 : textL l = []
      · have ht : turnL fs false p (p + l.length) (textL l) = (fs, false, false) := by unfold turnL; rw [if_pos h0]
        rw [goL, ht, if_neg (by simp), if_pos h0]
        simp
      · rw [if_neg h0]
        have hcl := contL_len (p + l.length) ls
        by_cases hg : goesB (textL l) = true
        · have ht : turnL fs false p (p + l.length) (textL l) = (fs, false, true) := by unfold turnL; rw [if_neg h0, if_pos hg]
          rw [goL, ht, if_pos rfl, goL_shut, ih _ (by omega)]
          cases nameL (textL l) with
          | none => rfl
          | some q => simp [hg]
        · have hgf : goesB (textL l) = false := by simpa using hg
          cases hn : nameL (textL l) with
          | none =>
            have ht : turnL fs false p (p + l.length) (textL l) = (fs, false, true) := by unfold turnL; rw [if_neg h0, if_neg hg, hn]
            rw [goL, ht, if_pos rfl, goL_shut, ih _ (by omega)]
          | some q =>
            obtain ⟨nm, v⟩ := q
            have ht : turnL fs false p (p + l.length) (textL l) = (fs ++ [⟨nm, v, p, p + l.length⟩], true, true) := by unfold turnL; rw [if_neg h0, if_neg hg, hn]
            rw [goL, ht, if_pos rfl, goL_open _ _ _ _ rfl, goL_either _ _ _ (contL_stop _ _), ih (contL (p + l.length) ls).2.2 (by omega)]
            simp [hg, trimF]

theorem fields_ref (m : List UInt8) : fieldsL m = (refL 0 (linesOf m)).1 ∧ bodyL m = (refL 0 (linesOf m)).2 := by
  have := goL_ref (linesOf m).length (linesOf m) (Nat.le_refl _) [] 0
  simp only [List.map_nil, List.nil_append] at this
  have h1 := congrArg Prod.fst this
  have h2 := congrArg Prod.snd this
  exact ⟨h1, h2⟩

end Go.Proofs.YthnkgifbbemhfaaGreatDoor
end

/- header.text, goesOn, name. -/
set_option linter.unusedVariables false
set_option linter.unusedSimpArgs false
section
namespace Go.Proofs.YthnkgifbbemhfaaGreatDoor
open Go.RowKit

theorem textL_len (l : List UInt8) : (textL l).length ≤ l.length := by
  have h : ∀ (a b : List UInt8), (Lib.trimSuffix a b).length ≤ a.length := by
    intro a b; unfold Lib.trimSuffix; split <;> simp
  unfold textL
  split
  · exact Nat.le_trans (h _ _) (h _ _)
  · exact Nat.le_refl _

theorem cutSuffix_any (l p : List UInt8) (w : World) (hl : l.length ≤ 9223372036854775807) : Calls Tryz.prog 183 #[.string (bs l), .string (bs p)] w fun e w' => e = .returned (.tuple #[.string (bs (Lib.trimSuffix l p)), .bool (Lib.hasSuffix l p)]) ∧ w = w' :=
  (Tryz.strings_CutSuffix (bs l) (bs p) w (by rw [bs_size]; exact hl)).mono fun _ _ ⟨h, k⟩ => ⟨h, k.symm⟩
theorem trimSuffix_any (l p : List UInt8) (w : World) (hl : l.length ≤ 9223372036854775807) : Calls Tryz.prog 184 #[.string (bs l), .string (bs p)] w fun e w' => e = .returned (.string (bs (Lib.trimSuffix l p))) ∧ w = w' :=
  (Tryz.strings_TrimSuffix (bs l) (bs p) w (by rw [bs_size]; exact hl)).mono fun _ _ ⟨h, k⟩ => ⟨h, k.symm⟩

theorem trimSuffix_len (a b : List UInt8) : (Lib.trimSuffix a b).length ≤ a.length := by unfold Lib.trimSuffix; split <;> simp

theorem text_any (l : List UInt8) (w : World) (hl : l.length ≤ 1099511627776) : Calls Tryz.prog 134 #[.string (bs l)] w fun e w' => e = .returned (.string (bs (textL l))) ∧ w = w' := by
  have h1 := trimSuffix_len l [10]
  unfold textL
  obtain ⟨b, hb⟩ : ∃ b, Lib.hasSuffix l [10] = b := ⟨_, rfl⟩
  obtain ⟨t, ht⟩ : ∃ t, Lib.trimSuffix l [10] = t := ⟨_, rfl⟩
  rw [ht] at h1
  have hno : b = false → t = l := by
    rintro rfl
    rw [← ht]; unfold Lib.trimSuffix; rw [hb]; rfl
  rw [hb, ht]
  have HB := Lib.hid hb
  have HT := Lib.hid ht
  clear hb ht
  cases b
  · obtain rfl := hno rfl
    go_enter Tryz.func134, Tryz.ntmps134
    go_wp2_with fail
    refine (cutSuffix_any _ [10] _ (by omega)).mono ?_
    rintro e w' ⟨rfl, rfl⟩
    rw [HB.out, HT.out]
    go_wp2
    go_ret
    exact ⟨rfl, rfl⟩
  · clear hno
    go_enter Tryz.func134, Tryz.ntmps134
    go_wp2_with fail
    refine (cutSuffix_any l [10] _ (by omega)).mono ?_
    rintro e w' ⟨rfl, rfl⟩
    rw [HB.out, HT.out]
    go_wp2_with fail
    refine (trimSuffix_any t [13] _ (by omega)).mono ?_
    rintro e w' ⟨rfl, rfl⟩
    go_wp2
    go_ret
    exact ⟨rfl, rfl⟩

theorem goesOn_any (t : List UInt8) (w : World) : Calls Tryz.prog 136 #[.string (bs t)] w fun e w' => e = .returned (.bool (goesB t)) ∧ w = w' := by
  cases t with
  | nil =>
    go_enter Tryz.func136, Tryz.ntmps136
    go_wp2
    go_ret
    exact ⟨rfl, rfl⟩
  | cons c r =>
    have hx : (bs (c :: r))[0]'(by rw [bs_size]; simp) = c := rfl
    have hib : Lib.indexByte [32, 9] c = if c = 32 then 0 else if c = 9 then 1 else -1 := by
      by_cases h1 : c = 32
      · subst h1; rfl
      · have e1 : ((32 : UInt8) == c) = false := by simpa using fun e : (32 : UInt8) = c => h1 e.symm
        by_cases h2 : c = 9
        · subst h2; rfl
        · have e2 : ((9 : UInt8) == c) = false := by simpa using fun e : (9 : UInt8) = c => h2 e.symm
          simp [Lib.indexByte, e1, e2, h1, h2]
    have hcall : Calls Tryz.prog 182 #[.string ⟨#[32, 9]⟩, .int .u8 (c.toNat : Int)] w fun e w' => e = .returned (.int .i64 (if c = 32 then 0 else if c = 9 then 1 else -1)) ∧ w = w' := by
      refine (Tryz.strings_IndexByte ⟨#[32, 9]⟩ (c.toNat : Int) w).mono fun _ _ ⟨h, k⟩ => ⟨?_, k.symm⟩
      rw [h, ← hib]
      simp
    have HC := Lib.hid hcall
    unfold goesB blankB
    clear hib hcall
    by_cases h1 : c = 32
    · subst h1
      go_enter Tryz.func136, Tryz.ntmps136
      go_wp2_with fail
      refine HC.out.mono ?_
      rintro e w' ⟨rfl, rfl⟩
      go_wp2
      go_ret
      exact ⟨rfl, rfl⟩
    · by_cases h2 : c = 9
      · subst h2
        go_enter Tryz.func136, Tryz.ntmps136
        go_wp2_with fail
        refine HC.out.mono ?_
        rintro e w' ⟨rfl, rfl⟩
        go_wp2
        go_ret
        exact ⟨rfl, rfl⟩
      · go_enter Tryz.func136, Tryz.ntmps136
        go_wp2_with fail
        refine HC.out.mono ?_
        rintro e w' ⟨rfl, rfl⟩
        rw [if_neg h1, if_neg h2]
        go_wp2
        go_ret
        exact ⟨by simp [h1, h2], rfl⟩

theorem index58 (t : List UInt8) : Lib.indexByte t 58 = match cutC t with | none => -1 | some (a, _) => (a.length : Int) := by
  induction t with
  | nil => rfl
  | cons c t ih =>
    unfold Lib.indexByte cutC
    by_cases hc : c = 58
    · simp [hc]
    · simp only [beq_iff_eq, hc, if_false]
      cases hq : cutC t with
      | none => rw [hq] at ih; simp [ih]
      | some p =>
        obtain ⟨a, b⟩ := p
        rw [hq] at ih
        simp only at ih
        rw [ih, if_neg (by omega)]
        simp
theorem cutC_some {t a r : List UInt8} (e : cutC t = some (a, r)) : t = a ++ 58 :: r := by
  induction t generalizing a r with
  | nil => simp [cutC] at e
  | cons c t ih =>
    unfold cutC at e
    by_cases hc : c = 58
    · rw [if_pos hc] at e
      obtain ⟨rfl, rfl⟩ := Prod.mk.inj (Option.some.inj e)
      simp [hc]
    · rw [if_neg hc] at e
      cases hq : cutC t with
      | none => rw [hq] at e; cases e
      | some p =>
        obtain ⟨x, y⟩ := p
        rw [hq] at e
        obtain ⟨rfl, rfl⟩ := Prod.mk.inj (Option.some.inj e)
        rw [ih hq]; rfl

theorem index_one (t : List UInt8) (w : World) : Calls Tryz.prog 80 #[.string (bs t), .string (bs [58])] w fun e w' => e = .returned (.int .i64 (match cutC t with | none => -1 | some (a, _) => (a.length : Int))) ∧ w = w' :=
  (Tryz.stringslite_Index_one (bs t) 58 w).mono fun _ _ ⟨h, k⟩ => ⟨by rw [h, ← index58], k.symm⟩

theorem cutl_some (t a r : List UInt8) (w : World) (hc : cutC t = some (a, r)) (hl : t.length ≤ 1099511627776) : Calls Tryz.prog 189 #[.string (bs t), .string (bs [58])] w fun e w' => e = .returned (.tuple #[.string (bs a), .string (bs r), .bool true]) ∧ Below w.heap.size w w' := by
  have hi := index_one t
  rw [hc] at hi
  have ht := cutC_some hc
  have htl : t.length = a.length + 1 + r.length := by rw [ht]; simp; omega
  have h1 := run_to t a.length (by omega)
  have h2 := run_from t (a.length + 1) (by omega)
  rw [show t.take a.length = a by rw [ht]; simp] at h1
  rw [show t.drop (a.length + 1) = r by rw [ht, show a ++ 58 :: r = (a ++ [58]) ++ r by simp]; exact List.drop_left' (by simp), show ((a.length + 1 : Nat) : Int) = (a.length : Int) + 1 by simp] at h2
  have hal : a.length + 1 ≤ t.length := by omega
  have HI := Lib.hid hi
  have d0 : decide (0 ≤ (a.length : Int)) = true := by simp
  clear hi hc ht htl
  go_enter Tryz.func189, Tryz.ntmps189
  go_wp2_with fail
  refine (HI.out _).mono ?_
  rintro e w' ⟨rfl, rfl⟩
  go_wp2
  go_quiet (fail)
  go_wp2
  go_ret3
  exact ⟨rfl, below_drewN (Below.refl _ _) _⟩
theorem cutl_none (t : List UInt8) (w : World) (hc : cutC t = none) : Calls Tryz.prog 189 #[.string (bs t), .string (bs [58])] w fun e w' => e = .returned (.tuple #[.string (bs t), .string (bs []), .bool false]) ∧ Below w.heap.size w w' := by
  have hi := index_one t
  rw [hc] at hi
  have HI := Lib.hid hi
  clear hi hc
  go_enter Tryz.func189, Tryz.ntmps189
  go_wp2_with fail
  refine (HI.out _).mono ?_
  rintro e w' ⟨rfl, rfl⟩
  go_wp2
  go_ret3
  exact ⟨rfl, Below.refl _ _⟩
theorem cut_some (t a r : List UInt8) (w : World) (hc : cutC t = some (a, r)) (hl : t.length ≤ 1099511627776) : Calls Tryz.prog 148 #[.string (bs t), .string (bs [58])] w fun e w' => e = .returned (.tuple #[.string (bs a), .string (bs r), .bool true]) ∧ Below w.heap.size w w' := by
  have HC := Lib.hid hc
  clear hc
  go_enter Tryz.func148, Tryz.ntmps148
  go_wp2_with fail
  refine (cutl_some t a r _ HC.out hl).mono ?_
  rintro e w' ⟨rfl, hb⟩
  go_wp2
  go_ret3
  exact ⟨rfl, hb⟩
theorem cut_none (t : List UInt8) (w : World) (hc : cutC t = none) : Calls Tryz.prog 148 #[.string (bs t), .string (bs [58])] w fun e w' => e = .returned (.tuple #[.string (bs t), .string (bs []), .bool false]) ∧ Below w.heap.size w w' := by
  have HC := Lib.hid hc
  clear hc
  go_enter Tryz.func148, Tryz.ntmps148
  go_wp2_with fail
  refine (cutl_none t _ HC.out).mono ?_
  rintro e w' ⟨rfl, hb⟩
  go_wp2
  go_ret3
  exact ⟨rfl, hb⟩

theorem ok_bounds (c : UInt8) : okC c = true ↔ 33 ≤ (c.toNat : Int) ∧ (c.toNat : Int) ≤ 126 := by unfold okC; simp; omega

/-- the loop of name over the bytes ahead of the ":" -/
def nameV (t : List UInt8) (e : Ending) (w w' : World) : Prop :=
  (match nameL t with
   | some (n, v) => e = .returned (.tuple #[.string (bs n), .string (bs v), .bool true])
   | none => ∃ x y, e = .returned (.tuple #[.string (bs x), .string (bs y), .bool false])) ∧ Below w.heap.size w w'

set_option maxRecDepth 100000 in
set_option maxHeartbeats 1000000 in
theorem name_any (t : List UInt8) (w : World) (hl : t.length ≤ 1099511627776) : Calls Tryz.prog 135 #[.string (bs t)] w fun e w' => nameV t e w w' := by
  obtain ⟨a, r, is, hcut, hal, hnm⟩ : ∃ (a r : List UInt8) (is : Bool), Hid (∀ w, Calls Tryz.prog 148 #[.string (bs t), .string (bs [58])] w fun e w' => e = .returned (.tuple #[.string (bs a), .string (bs r), .bool is]) ∧ Below w.heap.size w w') ∧ a.length ≤ t.length ∧ nameL t = if is = true ∧ a ≠ [] ∧ a.all okC = true then some (a, r) else none := by
    cases hc : cutC t with
    | none => exact ⟨t, [], false, fun w => cut_none t w hc, Nat.le_refl _, by unfold nameL; rw [hc]; simp⟩
    | some q =>
      obtain ⟨a, r⟩ := q
      refine ⟨a, r, true, fun w => cut_some t a r w hc hl, by rw [cutC_some hc]; simp, ?_⟩
      unfold nameL
      rw [hc]
      simp
  obtain ⟨R, hR⟩ : ∃ R, nameL t = R := ⟨_, rfl⟩
  unfold nameV
  rw [hR]
  rw [hR] at hnm
  have HN := Lib.hid hnm
  clear hnm hR
  go_enter Tryz.func135, Tryz.ntmps135
  go_wp2_with fail
  refine (hcut.out _).mono ?_
  rintro e w1 ⟨rfl, hb1⟩
  obtain ⟨cap, w2, hconv, hcells, hb2, hlt2⟩ := to_bytes a w1
  have HC := Lib.hid hcells
  clear hcells
  go_wp2
  clear hconv
  go_loop [9, 19] (fun _ i => ∃ k : Nat, k ≤ a.length ∧ i = .int .i64 k ∧ Hid (∀ j, j < k → okC (a.getD j 0) = true)) (fun _ i => a.length - (intOf i).toNat)
  case atStart => exact ⟨0, Nat.zero_le _, rfl, by intro j hj; omega⟩
  case round =>
    obtain ⟨k, hk, rfl, hok⟩ := hrel
    by_cases hlt : k < a.length
    · have hck := HC.out k hlt
      have hlt' : (k : Int) < a.length := by omega
      obtain ⟨c, hc⟩ : ∃ c, a.getD k 0 = c := ⟨_, rfl⟩
      rw [hc] at hck
      have hcm : c ∈ a := by rw [← hc, List.getD_eq_getElem?_getD, List.getElem?_eq_getElem hlt]; exact List.getElem_mem hlt
      have HK := Lib.hid hc
      clear hc
      by_cases ho : okC c = true
      · obtain ⟨o1, o2⟩ := (ok_bounds c).1 ho
        have HO := Lib.hid ho
        clear ho
        go_wp2
        go_round
        case rel =>
          refine ⟨k + 1, by omega, by go_num, ?_⟩
          intro j hj
          rcases Nat.lt_or_ge j k with h1 | h1
          · exact hok.out j h1
          · obtain rfl : j = k := by omega
            rw [HK.out]; exact HO.out
        case measure => simp [intOf]; omega
      · have hnone : R = none := by
          rw [HN.out, if_neg]
          rintro ⟨_, _, h⟩
          exact ho (List.all_eq_true.1 h c hcm)
        subst hnone
        have hb : (c.toNat : Int) < 33 ∨ 33 ≤ (c.toNat : Int) ∧ 126 < (c.toNat : Int) := by
          have := ok_bounds c
          rcases Int.lt_or_le (c.toNat : Int) 33 with h1 | h1
          · exact .inl h1
          · refine .inr ⟨h1, ?_⟩
            rcases Int.lt_or_le 126 (c.toNat : Int) with h2 | h2
            · exact h2
            · exact absurd (this.2 ⟨h1, h2⟩) ho
        clear ho hcm
        rcases hb with hb | ⟨hb, hb'⟩
        all_goals
          go_wp2
          go_ret3
          exact ⟨⟨[], [], rfl⟩, hb1.trans (hb2.mono hb1.size)⟩
    · obtain rfl : k = a.length := by omega
      have hall : a.all okC = true := by
        rw [List.all_eq_true]
        intro c hc
        obtain ⟨j, hj, rfl⟩ := List.mem_iff_getElem.1 hc
        have := hok.out j hj
        rwa [List.getD_eq_getElem?_getD, List.getElem?_eq_getElem hj] at this
      have hR2 := HN.out
      rw [hall] at hR2
      clear hall hok
      by_cases h0 : a = []
      · subst h0
        have hR3 : R = none := by rw [hR2]; simp
        subst hR3
        clear hR2
        cases is
        all_goals
          go_wp2
          go_ret3
          exact ⟨⟨_, _, rfl⟩, hb1.trans (hb2.mono hb1.size)⟩
      · have hne : (!a == []) = true := by simp [h0]
        have hne2 : a.isEmpty = false := by simp [h0]
        cases is
        · have hR3 : R = none := by rw [hR2]; simp
          subst hR3
          clear hR2 h0
          go_wp2
          go_ret3
          exact ⟨⟨_, _, rfl⟩, hb1.trans (hb2.mono hb1.size)⟩
        · have hR3 : R = some (a, r) := by rw [hR2, if_pos ⟨rfl, h0, rfl⟩]
          subst hR3
          clear hR2 h0
          go_wp2
          go_ret3
          exact ⟨rfl, hb1.trans (hb2.mono hb1.size)⟩

end Go.Proofs.YthnkgifbbemhfaaGreatDoor
end
