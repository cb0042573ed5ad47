/- LinesPlays: the model's Expect and Stretch. -/
import Derived.Test.YtglopeijohdobaaDoorL9
set_option linter.unusedVariables false
set_option linter.unusedSimpArgs false
namespace Go.Proofs.YtglopeijohdobaaDoor
open Go.RowKit

set_option maxRecDepth 100000 in
theorem refExpect_range (w : World) (g : Nat) (n : Int) (hn : n < 1 ∨ 100000 < n) :
    Calls Tryd.prog 17 #[.pointer (some ⟨g, 0, none⟩), .int .i64 n] w fun e w' => e = .returned (.int .i64 1) ∧ w = w' := by
  rcases (by omega : n < 1 ∨ (¬ n < 1 ∧ 100000 < n)) with h | ⟨h0, h⟩
  · go_enter Tryd.func17, Tryd.ntmps17
    go_wp2
    go_ret
    exact ⟨rfl, rfl⟩
  · go_enter Tryd.func17, Tryd.ntmps17
    go_wp2
    go_ret
    exact ⟨rfl, rfl⟩
set_option maxRecDepth 100000 in
theorem refExpect_state (w : World) (g : Nat) (va : Value) (p : Nat) (k n : Int) (hM : MdAt w g va p k) (h1 : 1 ≤ n) (h2 : n ≤ 100000) (h0 : 0 < k) :
    Calls Tryd.prog 17 #[.pointer (some ⟨g, 0, none⟩), .int .i64 n] w fun e w' => e = .returned (.int .i64 9) ∧ w = w' := by
  obtain ⟨c0, c1, c2, f0, f1, f2⟩ := hM.cells
  clear hM
  go_enter Tryd.func17, Tryd.ntmps17
  go_wp2
  go_ret
  exact ⟨rfl, rfl⟩
set_option maxRecDepth 100000 in
theorem refExpect_ok (w : World) (g : Nat) (va : Value) (p : Nat) (n : Int) (hM : MdAt w g va p 0) (h1 : 1 ≤ n) (h2 : n ≤ 100000) :
    Calls Tryd.prog 17 #[.pointer (some ⟨g, 0, none⟩), .int .i64 n] w fun e w' => e = .returned (.int .i64 0) ∧ MdAt w' g va p n ∧ Upd g w w' := by
  obtain ⟨c0, c1, c2, f0, f1, f2⟩ := hM.cells
  go_enter Tryd.func17, Tryd.ntmps17
  go_wp2
  go_ret
  exact ⟨rfl, hM.set2 n, (Upd.refl g w).setCell 2 _⟩

set_option maxRecDepth 100000 in
set_option maxHeartbeats 1000000 in
theorem refStretch_no (w : World) (g B : Nat) (va : Value) (all : List UInt8) (p : Nat) (k : Int) (hM : MdAt w g va p k) (hv : OwnB w B va all) (hp : p ≤ all.length) (hl : all.length ≤ 100000) (hk : k = 0 ∨ (all.length : Int) - p < k) (hk2 : k ≤ 100000) :
    Calls Tryd.prog 19 #[.pointer (some ⟨g, 0, none⟩)] w fun e w' => e = .returned (.tuple #[.string (bs []), .bool false]) ∧ Below w.heap.size w w' := by
  obtain ⟨c0, c1, c2, f0, f1, f2⟩ := hM.cells
  obtain ⟨a, n, cap, rfl, hn⟩ := hv.form
  obtain rfl : n = all.length := hn.out
  clear hM
  rcases (by omega : k = 0 ∨ (k ≠ 0 ∧ (all.length : Int) - p < k)) with rfl | ⟨h0, h1⟩
  · go_enter Tryd.func19, Tryd.ntmps19
    go_wp2
    go_quiet (fail)
    go_wp2
    go_ret2
    exact ⟨rfl, below_drewN (Below.refl _ _) _⟩
  · have b0 : (k == 0) = false := beq_eq_false_iff_ne.2 h0
    have b1 : decide ((all.length : Int) - p < k) = true := decide_eq_true h1
    clear h0 hk
    go_enter Tryd.func19, Tryd.ntmps19
    go_wp2
    go_quiet (fail)
    go_wp2
    go_ret2
    exact ⟨rfl, below_drewN (Below.refl _ _) _⟩

set_option maxRecDepth 100000 in
set_option maxHeartbeats 1000000 in
theorem refStretch_yes (w : World) (g B : Nat) (va : Value) (all : List UInt8) (p k : Nat) (hM : MdAt w g va p k) (hv : OwnB w B va all) (hgB : g < B) (hl : all.length ≤ 100000) (hk : 0 < k) (hk2 : p + k ≤ all.length) :
    Calls Tryd.prog 19 #[.pointer (some ⟨g, 0, none⟩)] w fun e w' => e = .returned (.tuple #[.string (bs ((all.drop p).take k)), .bool true]) ∧ MdAt w' g va (p + k) 0 ∧ Upd g w w' := by
  obtain ⟨c0, c1, c2, f0, f1, f2⟩ := hM.cells
  rcases hv.parts with ⟨rfl, rfl⟩ | ⟨gb, cap, rfl, hcap, hBg, hgl, hcells⟩
  · simp at hk2; omega
  · have HCE := Lib.hid hcells
    have hsl := own_slice gb all.length cap p (p + k) (by omega) hk2 hcap (by omega)
    rw [show p + k - p = k by omega] at hsl
    have b0 : ((k : Int) == 0) = false := beq_eq_false_iff_ne.2 (by omega)
    have b1 : decide ((all.length : Int) - p < k) = false := decide_eq_false (by omega)
    obtain ⟨R, hR⟩ : ∃ R, (all.drop p).take k = R := ⟨_, rfl⟩
    rw [hR]
    have HR := Lib.hid hR
    clear hR hcells
    go_enter Tryd.func19, Tryd.ntmps19
    go_wp2
    go_quiet (fail)
    go_upto_region 3 with fail
    have hU1 : Upd g w (w.drewN nq) := (Upd.refl g w).drewN nq
    have hM1 : MdAt (w.drewN nq) g (.slice (some ⟨gb, 0, none⟩) all.length cap) p k := hM
    have hce1 : ∀ i, i < all.length → (w.drewN nq).cell? ⟨gb, i, none⟩ = some (.int .u8 (all.getD i 0).toNat) := HCE.out
    generalize w.drewN nq = w1 at hU1 hM1 hce1 ⊢
    have hcv := fun (q : Nat) (c : Nat) => convert_bytes (w := w1.drewN q) (at_cells (w := w1.drewN q) (g := gb) (all := all) hce1 (p := p) (n := k) hk2 c)
    have hcv0 := fun (c : Nat) => convert_bytes (w := w1) (at_cells (w := w1) (g := gb) (all := all) hce1 (p := p) (n := k) hk2 c)
    rw [HR.out] at hcv hcv0
    clear c0 c1 c2 f0 f1 f2 hce1 hM HCE
    obtain ⟨c0, c1, c2, f0, f1, f2⟩ := hM1.cells
    go_wp2
    go_quiet (fail)
    go_upto_region 4 with fail
    have hU2 : Upd g w (w1.drewN nq) := hU1.drewN nq
    have hM2 : MdAt (w1.drewN nq) g (.slice (some ⟨gb, 0, none⟩) all.length cap) p k := hM1
    generalize w1.drewN nq = w2 at hU2 hM2 ⊢
    clear c0 c1 c2 f0 f1 f2 hcv hcv0 hsl hU1 hM1
    obtain ⟨c0, c1, c2, f0, f1, f2⟩ := hM2.cells
    go_region
    all_goals
      go_wp2
      go_ret2
      rw [show ((p : Int) + (k : Int)) = ((p + k : Nat) : Int) by omega]
      first
        | exact ⟨rfl, (hM2.set1 (p + k)).set2 0, (hU2.drew.setCell 1 _).setCell 2 _⟩
        | exact ⟨rfl, (hM2.set1 (p + k)).set2 0, (hU2.setCell 1 _).drew.setCell 2 _⟩

end Go.Proofs.YtglopeijohdobaaDoor
