/- header's reader: a field's first line. -/
import Derived.Test.YthnkgifbbemhfaaGreatDoorH4
set_option linter.unusedVariables false
set_option linter.unusedSimpArgs false
namespace Go.Proofs.YthnkgifbbemhfaaGreatDoor
open Go.RowKit


set_option maxRecDepth 100000 in
set_option maxHeartbeats 2000000 in
theorem line_new (w : World) (b B : Nat) (v : Value) (fs : List Fld) (op : Bool) (p : Nat) (l : List UInt8) (c : UInt8) (r : List UInt8) (hk : RdrAt w b v op p) (ho : OwnF w B v fs) (hl : l.length ≤ 1099511627776) (hp : p + l.length ≤ 1099511627776) (ht : textL l = c :: r) (n vv : List UInt8) (hg : goesB (c :: r) = false) (hnm : nameL (c :: r) = some (n, vv)) (hB : B ≤ w.heap.size) (hfl : fs.length ≤ 1099511627776) :
    Calls Tryz.prog 93 #[.pointer (some ⟨b, 0, none⟩), .string (bs l)] w (LineP b B v w (fs ++ [⟨n, vv, p, p + l.length⟩]) true true (p + l.length)) := by
  obtain ⟨i0, hi0, hz0, hz1, hz2⟩ := info_parts info_fld
  have HN := Lib.hid hnm
  have HG := Lib.hid hg
  clear hg hnm
  obtain ⟨c0, c1, c2, f0, f1, f2⟩ := hk.cells
  have HT := Lib.hid ht
  have hkV := hk.set2 (p + l.length)
  have hcast : (p : Int) + (l.length : Int) = ((p + l.length : Nat) : Int) := by omega
  rw [← hcast] at hkV
  have hoV : OwnF (w.setCell ⟨b, 2, none⟩ (.int .i64 ((p : Int) + l.length))) B v fs := ho.later fun k hkk => Below.heap_setCell _ _ _ _ (by simp; rintro rfl; exact hk.not_row ho hkk)
  have hfV : Frm b v w (w.setCell ⟨b, 2, none⟩ (.int .i64 ((p : Int) + l.length))) := (Frm.refl b v w).set 2 _
  have hszV : (w.setCell ⟨b, 2, none⟩ (.int .i64 ((p : Int) + l.length))).heap.size = w.heap.size := by simp [World.setCell]
  obtain ⟨V, hV⟩ : ∃ V, w.setCell ⟨b, 2, none⟩ (.int .i64 ((p : Int) + l.length)) = V := ⟨_, rfl⟩
  rw [hV] at hkV hoV hfV hszV
  have HV := Lib.hid hV
  have HK := Lib.hid hkV
  have htl := textL_len l
  rw [ht] at htl
  have HTL : Hid ((c :: r).length ≤ 1099511627776) := by show _ ≤ _; omega
  clear ht hkV hcast hV htl
  go_enter Tryz.func93, Tryz.ntmps93
  go_wp2_with fail
  refine (text_any l _ hl).mono ?_
  rintro e w' ⟨rfl, rfl⟩
  rw [HT.out]
  go_wp2_with fail
  rw [HV.out]
  refine (name_any (c :: r) _ HTL.out).mono ?_
  rintro e w1 hn
  unfold nameV at hn
  rw [HN.out] at hn
  obtain ⟨rfl, hb1⟩ := hn
  have hk1 := HK.out.below hb1
  have ho1 := hoV.below hb1
  have hf1 := hfV.trans (Frm.of_below (v := v) hb1) (fun k h => .inl h)
  have hnr := hk1.not_row ho1
  obtain ⟨d0, d1, d2, g0, g1, g2⟩ := hk1.cells
  have HK1 := Lib.hid hk1
  have hB1 : B ≤ w1.heap.size := by have := hb1.size; omega
  clear c0 c1 c2 f0 f1 f2 hk1
  go_wp2_with fail
  refine (goesOn_any (c :: r) _).mono ?_
  rintro e w' ⟨rfl, rfl⟩
  rw [HG.out]
  go_wp2
  have A0 := fun o => cell_alloc d0 o
  have A2 := fun o => cell_alloc d2 o
  go_region_law ((refine step_append_lies _ (by rfl) _ _ _ (by rfl) B 135 i0 _ 4 48 Tryz.underlying95 hi0 hz0 hz1 hz2 rfl (by omega) v fs.length (cellsF fs) (by rfl) ((World.ownsRow.alloc ho1 _).drew) ⟨w1.heap.size, 0, none⟩ 1 1 [.string (bs n), .string (bs vv), .int .i64 p, .int .i64 (p + l.length : Nat)] (by rfl) (by rfl) (World.news_of_block (cs := #[.string (bs n), .string (bs vv), .int .i64 p, .int .i64 (p + l.length : Nat)]) (t := 135) (fr := (0, 0)) (heap_new w1 _)) (by simp [Value.oneCell']) (by omega) (by unfold maxLen; omega) (by omega) (by simp; omega) (w1.heap.size + 1) (by simp) ?_; intro gg cap w2 hown2 hgrow hat hlt; have hk2 : RdrAt w2 b v op (p + l.length) := (hgrow.block b (by have := HK1.out.lt; simp; omega) (fun e => hnr e.symm)).trans ((heap_old w1 _ _ HK1.out.lt).trans HK1.out); obtain ⟨a0, a1, a2, y0, y1, y2⟩ := hk2.cells))
  all_goals
    go_wp2
    go_ret
    have hbl := HK1.out.lt
    have hgb : gg ≠ b := by
      rintro rfl
      rcases hat with h1 | h1
      · exact hnr h1
      · omega
    have hown : OwnF w2 B (.slice (some ⟨gg, 0, none⟩) (fs.length + 1) cap) (fs ++ [⟨n, vv, p, p + l.length⟩]) := by
      unfold OwnF
      rw [List.length_append, cellsF_append]
      exact hown2
    have hf2 : Frm b v w1 w2 := ⟨hgrow.os, hgrow.tape, hgrow.output, by have := hgrow.size; simp at this; omega, fun k hk1 hk2 hk3 => (hgrow.block k (by simp; omega) (fun e => hk3 e.symm)).trans (heap_old w1 _ _ hk1)⟩
    refine ⟨_, rfl, (hk2.set0 _).set1 true, hown.later fun k hkk => (Below.heap_setCell _ _ _ _ (by have : gg = k := (by simpa [Value.ownBlock] using hkk); simp; omega)).trans (Below.heap_setCell _ _ _ _ (by have : gg = k := (by simpa [Value.ownBlock] using hkk); simp; omega)), ((hf1.trans hf2 (fun k h => .inl h)).set 0 _).set 1 _, fun k hkk => ?_⟩
    have hkg : gg = k := by simpa [Value.ownBlock] using hkk
    have hs := hf1.size
    rcases hat with h1 | h1
    · left; rw [h1, hkg]
    · right; omega

end Go.Proofs.YthnkgifbbemhfaaGreatDoor
