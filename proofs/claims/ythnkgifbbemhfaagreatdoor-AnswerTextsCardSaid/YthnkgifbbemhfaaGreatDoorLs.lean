/- strings.Lines as an iterator. -/
import Derived.Test.YthnkgifbbemhfaaGreatDoorBx
import Derived.Test.YthnkgifbbemhfaaGreatDoorS
import Derived.Test.YthnkgifbbemhfaaGreatDoorShelf
import Derived.Test.YthnkgifbbemhfaaGreatDoorLp
import Derived.Shelf.Abstract
import Derived.Shelf.RegionOpen
import Derived.OwnWalkIn
import Derived.TacticsInMore
import Derived.LoopNIn
import Derived.LoopIn
import Derived.Maps.AppendAt
import Derived.Sort.LoopGhostIn
set_option linter.unusedVariables false
set_option linter.unusedSimpArgs false
namespace Go.Proofs.YthnkgifbbemhfaaGreatDoor
open Go.RowKit Go Go.Shelf
attribute [local go_sem] Oper.semAt_some

theorem index_yes (h s r : List UInt8) (w : World) (e : cutNl h = some (s, r)) : Calls Tryz.prog 182 #[.string (bs h), .int .u8 10] w fun e w' => e = .returned (.int .i64 (s.length : Int)) ∧ w = w' := by
  refine (Tryz.strings_IndexByte (bs h) 10 w).mono fun _ _ ⟨a, b⟩ => ⟨?_, b.symm⟩
  rw [a]
  exact congrArg (fun x => Ending.returned (.int .i64 x)) (index_some e)
theorem index_no (h : List UInt8) (w : World) (e : cutNl h = none) : Calls Tryz.prog 182 #[.string (bs h), .int .u8 10] w fun e w' => e = .returned (.int .i64 (-1)) ∧ w = w' := by
  refine (Tryz.strings_IndexByte (bs h) 10 w).mono fun _ _ ⟨a, b⟩ => ⟨?_, b.symm⟩
  rw [a]
  exact congrArg (fun x => Ending.returned (.int .i64 x)) (index_none e)

theorem grown_drew {W W' : World} {row : Option Nat} (h : W.grownBy W' row) : W.grownBy W'.drew row := ⟨h.os, h.tape, h.output, h.size, h.block⟩
theorem grown_set (W : World) (b : Nat) (v : Value) : W.grownBy (W.setCell ⟨b, 0, none⟩ v) (some b) := grownBy_setCell' W b v

set_option maxRecDepth 100000 in
set_option maxHeartbeats 2000000 in
theorem lines_seq (n : Nat) (hn : 1 ≤ n) (b : Nat) (s : List UInt8) (hs : s.length ≤ 140737488355328) :
    SeqBox Fence.wide n Tryz.prog 181 b 9 (fun x => .string (bs x)) (linesOf s) (.string (bs s)) := by
  intro l J Jx W hJ hJx hY h0 hb
  refine callsIn_of_wp Tryz.func181 rfl trivial ?_ rfl
  simp only [Tryz.ntmps181, List.size_toArray, List.length_cons, List.length_nil, Nat.reduceAdd, Nat.reduceSub, Array.replicate_succ, Array.replicate_zero, List.push_toArray, List.append_toArray, List.nil_append, List.cons_append]
  gi_wp2
  gi_loopg [3, 4] s.length (fun kq _ _ wr => ∃ pre rest : List _, kq = rest.length ∧ Hid (pre ++ linesOf rest = linesOf s) ∧ rest.length ≤ s.length ∧ Boxed wr b 9 (.string (bs rest)) ∧ J pre wr)
  case atStart => exact ⟨[], s, rfl, rfl, Nat.le_refl _, hb, h0⟩
  case round =>
    obtain ⟨pre, rest, rfl, hp, hlen, hbx, hj⟩ := hrel
    have hc := hbx.cell
    have hf := hbx.frozen
    cases hcut : cutNl rest with
    | none =>
      by_cases he : rest = []
      · subst he
        gi_wp2
        go_end0
        exact ⟨⟨_, rfl⟩, .inl (by have := hp.out; rw [linesOf_nil, List.append_nil] at this; rw [← this]; exact hj)⟩
      · have h0l : 0 < rest.length := List.length_pos_iff.2 he
        have Hc := Lib.hid hcut
        have hlo := linesOf_cutNo hcut he
        have hpre : pre ++ [rest] <+: linesOf s := by rw [← hp.out, hlo]; exact List.prefix_rfl
        have hj2 := hJ pre _ _ hj (grown_set wr b (.string ⟨#[]⟩))
        obtain ⟨fn, tmps, assign, body, hy, hR⟩ := hY pre rest _ hpre hj2
        have Hlo := Lib.hid hlo
        clear hcut hlo
        gi_wp2_with (refine ⟨trivial, ?_⟩; gi_at_call 182; refine (callsIn_wide.2 (index_no _ _ Hc.out)).mono ?_; rintro e w' ⟨rfl, rfl⟩)
        refine hR.mono ?_
        rintro e W3 (⟨rfl, hJ3, hk3⟩ | ⟨rfl, hJx3⟩)
        · gi_wp2
          gi_roundg 0
          case measure => exact h0l
          case rel => exact ⟨pre ++ [rest], [], rfl, by have := hp.out; rw [Hlo.out] at this; rw [linesOf_nil, List.append_nil]; exact this, Nat.zero_le _, hk3.trans (hbx.set _), hJ3⟩
        · gi_wp2
          refine bodyPost_ret (results_none rfl _ _ _) rfl ?_
          exact ⟨⟨_, rfl⟩, .inr ⟨_, hpre, hJx3⟩⟩
    | some q =>
      obtain ⟨a, r⟩ := q
      obtain ⟨hrest, _⟩ := cutNl_some hcut
      have hll : rest.length = a.length + 1 + r.length := by rw [hrest]; simp; omega
      have h0l : 0 < rest.length := by omega
      have hla : a.length + 1 ≤ rest.length := by omega
      have hlr : r.length < rest.length := by omega
      have h1 := run_to rest (a.length + 1) hla
      have h2 := run_from rest (a.length + 1) hla
      rw [show rest.take (a.length + 1) = a ++ [10] by rw [hrest, show a ++ 10 :: r = (a ++ [10]) ++ r by simp]; exact List.take_left' (by simp), show ((a.length + 1 : Nat) : Int) = (a.length : Int) + 1 by simp] at h1
      rw [show rest.drop (a.length + 1) = r by rw [hrest, show a ++ 10 :: r = (a ++ [10]) ++ r by simp]; exact List.drop_left' (by simp), show ((a.length + 1 : Nat) : Int) = (a.length : Int) + 1 by simp] at h2
      have Hc := Lib.hid hcut
      have hlo := linesOf_cut hcut
      have hpre : pre ++ [a ++ [10]] <+: linesOf s := by rw [← hp.out, hlo]; exact ⟨linesOf r, by simp⟩
      have hj2 := hJ pre _ _ hj (grown_drew (grown_set wr b (.string (bs r))))
      obtain ⟨fn, tmps, assign, body, hy, hR⟩ := hY pre (a ++ [10]) _ hpre hj2
      have Hlo := Lib.hid hlo
      have d0 : decide (0 ≤ (a.length : Int)) = true := by simp
      clear hcut hlo hrest hll
      gi_wp2_with (refine ⟨trivial, ?_⟩; gi_at_call 182; refine (callsIn_wide.2 (index_yes _ _ _ _ Hc.out)).mono ?_; rintro e w' ⟨rfl, rfl⟩)
      gi_region
      gi_wp2
      refine hR.mono ?_
      rintro e W3 (⟨rfl, hJ3, hk3⟩ | ⟨rfl, hJx3⟩)
      · gi_wp2
        gi_roundg r.length
        case measure => exact hlr
        case rel => exact ⟨pre ++ [a ++ [10]], r, rfl, by have := hp.out; rw [Hlo.out] at this; rw [← this]; show _ = _; simp, by omega, hk3.trans (hbx.set _), hJ3⟩
      · gi_wp2
        refine bodyPost_ret (results_none rfl _ _ _) rfl ?_
        exact ⟨⟨_, rfl⟩, .inr ⟨_, hpre, hJx3⟩⟩

end Go.Proofs.YthnkgifbbemhfaaGreatDoor
