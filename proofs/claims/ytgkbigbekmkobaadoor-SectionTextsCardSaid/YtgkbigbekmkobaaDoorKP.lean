/- SectionTexts: the walk. -/
import Derived.Test.YtgkbigbekmkobaaDoorKO
import Derived.Test.YtgkbigbekmkobaaDoorEr
import Derived.Test.YtgkbigbekmkobaaDoorK3
set_option linter.unusedVariables false
set_option linter.unusedSimpArgs false
namespace Go.Proofs.YtgkbigbekmkobaaDoor
open Go.RowKit

theorem eqInts_yes (v1 v2 : Value) (ps : List Int) (w : World) (h1 : IntsAt w v1 ps) (h2 : IntsAt w v2 ps) (hp : ps.length ≤ 1000) :
    Calls Tryd.prog 31 #[v1, v2] w fun e w' => e = .returned (.bool true) ∧ Below w.heap.size w w' := by
  obtain ⟨a1, c1, rfl, k1⟩ := h1
  obtain ⟨a2, c2, rfl, k2⟩ := h2
  by_cases h0 : ps = []
  · subst h0
    exact (Tryd.slices_Equal_int_empty a1 a2 c1 0 c2 w (by decide)).mono fun _ _ ⟨he, hw⟩ => ⟨he, hw ▸ Below.refl _ _⟩
  · obtain ⟨b1, o1, rfl, _, q1⟩ := k1 h0
    obtain ⟨b2, o2, rfl, _, q2⟩ := k2 h0
    refine (Tryd.slices_Equal_int b1 o1 ps.length c1 b2 o2 ps.length c2 ps ps w (Nat.le_refl _) (Nat.le_refl _) (by omega) (by omega) q1 q2).mono ?_
    rintro e w' ⟨rfl, q, rfl⟩
    exact ⟨by rw [beq_self_eq_true], below_drewN (Below.refl _ _) q⟩
theorem eqStrs_yes (v1 v2 : Value) (ns : List (List UInt8)) (w : World) (h1 : StrsF w v1 ns) (h2 : StrsF w v2 ns) (hp : ns.length ≤ 1000) :
    Calls Tryd.prog 32 #[v1, v2] w fun e w' => e = .returned (.bool true) ∧ Below w.heap.size w w' := by
  obtain ⟨a1, c1, rfl, k1⟩ := h1
  obtain ⟨a2, c2, rfl, k2⟩ := h2
  by_cases h0 : ns = []
  · subst h0
    exact (Tryd.slices_Equal_string_empty a1 a2 c1 0 c2 w (by decide)).mono fun _ _ ⟨he, hw⟩ => ⟨he, hw ▸ Below.refl _ _⟩
  · obtain ⟨b1, o1, rfl, _, q1⟩ := k1 h0
    obtain ⟨b2, o2, rfl, _, q2⟩ := k2 h0
    have hg : ∀ j, j < ns.length → (ns.map bs).getD j ByteArray.empty = bs (ns.getD j []) := fun j hj => by simp [List.getD, hj]
    refine (Tryd.slices_Equal_string b1 o1 ns.length c1 b2 o2 ns.length c2 (ns.map bs) (ns.map bs) w (by simp) (by simp) (by omega) (by omega) (fun j hj => ?_) (fun j hj => ?_)).mono ?_
    · rw [List.length_map] at hj; rw [hg j hj]; exact q1 j hj
    · rw [List.length_map] at hj; rw [hg j hj]; exact q2 j hj
    rintro e w' ⟨rfl, q, rfl⟩
    exact ⟨by rw [decide_eq_true rfl], below_drewN (Below.refl _ _) q⟩

set_option maxRecDepth 100000 in
set_option maxHeartbeats 1000000 in
theorem secSame_yes (v1 n1 v2 n2 : Value) (ps : List Int) (wh : List UInt8) (ns : List (List UInt8)) (w : World) (h1 : IntsAt w v1 ps) (h2 : IntsAt w v2 ps) (k1 : StrsF w n1 ns) (k2 : StrsF w n2 ns) (hp : ps.length ≤ 1000) (hn : ns.length ≤ 1000) :
    Calls Tryd.prog 16 #[.agg #[v1, .string (bs wh), n1], .agg #[v2, .string (bs wh), n2]] w fun e w' => e = .returned (.bool true) ∧ Below w.heap.size w w' := by
  have H1 := Lib.hid h1
  have H2 := Lib.hid h2
  have K1 := Lib.hid k1
  have K2 := Lib.hid k2
  obtain ⟨a1, c1, rfl, _⟩ := h1
  obtain ⟨a2, c2, rfl, _⟩ := h2
  obtain ⟨b1, d1, rfl, _⟩ := k1
  obtain ⟨b2, d2, rfl, _⟩ := k2
  go_enter Tryd.func16, Tryd.ntmps16
  go_wp2_with fail
  obtain ⟨wa, hwa⟩ : ∃ wa, (w.alloc (.cells #[.slice a1 ps.length c1, .string (bs wh), .slice b1 ns.length d1] 29)).alloc (.cells #[.slice a2 ps.length c2, .string (bs wh), .slice b2 ns.length d2] 29) = wa := ⟨_, rfl⟩
  have b0 : Below w.heap.size w wa := by rw [← hwa]; exact ((Below.refl _ _).alloc (Nat.le_refl _) _).alloc (by simp) _
  have r1 : SpecN wa w.heap.size (.slice a1 ps.length c1) wh (.slice b1 ns.length d1) := by rw [← hwa]; exact (heap_old _ _ _ (by simp)).trans (heap_new w _)
  have r2 : SpecN wa (w.heap.size + 1) (.slice a2 ps.length c2) wh (.slice b2 ns.length d2) := by
    rw [← hwa, ← size_alloc w (.cells #[.slice a1 ps.length c1, .string (bs wh), .slice b1 ns.length d1] 29)]; exact heap_new _ _
  rw [hwa]
  clear hwa
  refine (eqInts_yes _ _ ps wa (H1.out.below b0) (H2.out.below b0) hp).mono ?_
  rintro e w1 ⟨rfl, hb1⟩
  have B1 : Below w.heap.size w w1 := b0.trans (hb1.mono b0.size)
  obtain ⟨c0, c1', c2', f0, f1, f2⟩ := (r1.later hb1).cells
  obtain ⟨e0, e1, e2, g0, g1, g2⟩ := (r2.later hb1).cells
  clear r1 r2 hb1 b0
  go_wp2_with fail
  refine (eqStrs_yes _ _ ns w1 (K1.out.below B1) (K2.out.below B1) hn).mono ?_
  rintro e w2 ⟨rfl, hb2⟩
  go_wp2
  go_ret
  exact ⟨rfl, B1.trans (hb2.mono B1.size)⟩

end Go.Proofs.YtgkbigbekmkobaaDoor
