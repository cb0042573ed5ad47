/- header's reader: a line behind an open field. -/
import Derived.Test.YthnkgifbbemhfaaGreatDoorH3
set_option linter.unusedVariables false
set_option linter.unusedSimpArgs false
namespace Go.Proofs.YthnkgifbbemhfaaGreatDoor
open Go.RowKit


set_option maxRecDepth 100000 in
set_option maxHeartbeats 2000000 in
theorem line_more (w : World) (b B : Nat) (v : Value) (fs : List Fld) (op : Bool) (p : Nat) (l : List UInt8) (c : UInt8) (r : List UInt8) (hk : RdrAt w b v op p) (ho : OwnF w B v fs) (hl : l.length ≤ 1099511627776) (hp : p + l.length ≤ 1099511627776) (ht : textL l = c :: r) (f : Fld) (fs0 : List Fld) (hfs : fs = fs0 ++ [f]) (hfv : f.value.length ≤ 1099511627776) (hfl : fs0.length ≤ 1099511627776) (hg : goesB (c :: r) = true) (hop : op = true) :
    Calls Tryz.prog 93 #[.pointer (some ⟨b, 0, none⟩), .string (bs l)] w (LineP b B v w (fs0 ++ [{ f with value := f.value ++ (c :: r), fin := p + l.length }]) true true (p + l.length)) := by
  subst hop
  have HN := Lib.hid (nameL_goes hg)
  have HG := Lib.hid hg
  clear hg
  obtain ⟨c0, c1, c2, f0, f1, f2⟩ := hk.cells
  have HT := Lib.hid ht
  have hkV := hk.set2 (p + l.length)
  have hcast : (p : Int) + (l.length : Int) = ((p + l.length : Nat) : Int) := by omega
  rw [← hcast] at hkV
  have hoV : OwnF (w.setCell ⟨b, 2, none⟩ (.int .i64 ((p : Int) + l.length))) B v fs := ho.later fun k hkk => Below.heap_setCell _ _ _ _ (by simp; rintro rfl; exact hk.not_row ho hkk)
  have hfV : Frm b v w (w.setCell ⟨b, 2, none⟩ (.int .i64 ((p : Int) + l.length))) := (Frm.refl b v w).set 2 _
  have hszV : (w.setCell ⟨b, 2, none⟩ (.int .i64 ((p : Int) + l.length))).heap.size = w.heap.size := by simp [World.setCell]
  obtain ⟨V, hV⟩ : ∃ V, w.setCell ⟨b, 2, none⟩ (.int .i64 ((p : Int) + l.length)) = V := ⟨_, rfl⟩
  rw [hV] at hkV hoV hfV hszV
  have HV := Lib.hid hV
  have HK := Lib.hid hkV
  have htl := textL_len l
  rw [ht] at htl
  have HTL : Hid ((c :: r).length ≤ 1099511627776) := by show _ ≤ _; omega
  clear ht hkV hcast hV htl
  go_enter Tryz.func93, Tryz.ntmps93
  go_wp2_with fail
  refine (text_any l _ hl).mono ?_
  rintro e w' ⟨rfl, rfl⟩
  rw [HT.out]
  go_wp2_with fail
  rw [HV.out]
  refine (name_any (c :: r) _ HTL.out).mono ?_
  rintro e w1 hn
  unfold nameV at hn
  rw [HN.out] at hn
  obtain ⟨⟨x, y, rfl⟩, hb1⟩ := hn
  have hk1 := HK.out.below hb1
  have ho1 := hoV.below hb1
  have hf1 := hfV.trans (Frm.of_below (v := v) hb1) (fun k h => .inl h)
  obtain ⟨d0, d1, d2, g0, g1, g2⟩ := hk1.cells
  have HK1 := Lib.hid hk1
  clear c0 c1 c2 f0 f1 f2 hk1
  go_wp2_with fail
  refine (goesOn_any (c :: r) _).mono ?_
  rintro e w' ⟨rfl, rfl⟩
  rw [HG.out]
  subst hfs
  obtain ⟨g, cap, rfl, hBg, hgl⟩ := (ho1.parts).resolve_left (fun h => by have := h.2; simp at this)
  rw [List.length_append, List.length_singleton] at ho1 d0 hf1 HK1 ⊢
  have hfi : (fs0 ++ [f])[fs0.length]? = some f := by simp
  have e1 : _ = some (Value.string (bs f.value)) := ho1.cell fs0.length 1 f hfi (by decide)
  have e3 : _ = some (Value.int .i64 f.fin) := ho1.cell fs0.length 3 f hfi (by decide)
  have z1 : w1.frozen? ⟨g, fs0.length * 4 + 1, none⟩ = false := frozenF ho1 _
  have z3 : w1.frozen? ⟨g, fs0.length * 4 + 3, none⟩ = false := frozenF ho1 _
  have HFI := Lib.hid hfi
  clear hfi HN HG
  go_wp2
  go_quiet (fail)
  go_wp2
  have hcl : ¬ 9223372036854775807 < f.value.length + (r.length + 1) := by have := HTL.out; simp at this; omega
  go_region
  all_goals go_wp2
  go_ret
  have hgb : g ≠ b := fun e => HK1.out.not_row ho1 (by rw [e]; rfl)
  have hcast : ((p : Int) + (l.length : Int)) = ((p + l.length : Nat) : Int) := by omega
  rw [hcast, bs_append]
  refine ⟨_, rfl, ?_, OwnF.turn (ho1.later fun _ _ => rfl) (f.value ++ c :: r) (p + l.length), ?_, fun k h => .inl h⟩
  · exact (Below.heap_setCell _ _ _ _ (by simpa using hgb.symm)).trans ((Below.heap_setCell _ _ _ _ (by simpa using hgb.symm)).trans HK1.out)
  · have e : (fs0 ++ [f]).length = fs0.length + 1 := by simp
    rw [e]
    exact ((hf1.drewN (nq + 1)).setRow rfl _ _).setRow rfl _ _

end Go.Proofs.YthnkgifbbemhfaaGreatDoor
