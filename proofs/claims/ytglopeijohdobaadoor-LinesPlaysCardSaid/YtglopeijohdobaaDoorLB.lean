/- LinesPlays: postbagnum.Bytes, Kept. -/
import Derived.Test.YtglopeijohdobaaDoorLA
import Derived.Laws.MakeOwn
set_option linter.unusedVariables false
set_option linter.unusedSimpArgs false
namespace Go.Proofs.YtglopeijohdobaaDoor
open Go.RowKit

def marksL : List UInt8 := [201, 202, 203, 204, 205, 206]
/-- bytes that came in; a nil slice holds none and has no room -/
structure ArgBN (w : World) (v : Value) (l : List UInt8) : Prop where
  arg : ArgB w v l
  none : ∀ n c, v = .slice none n c → n = 0 ∧ c = 0
theorem ArgBN.below {w w' : World} {v : Value} {l : List UInt8} (h : ArgBN w v l) (hb : Below w.heap.size w w') : ArgBN w' v l := ⟨h.arg.below hb, h.none⟩

set_option maxRecDepth 100000 in
set_option maxHeartbeats 1000000 in
theorem bytesCopy_any (w : World) (v : Value) (l : List UInt8) (hv : ArgBN w v l) (hl : l.length ≤ 20000) :
    Calls Tryd.prog 12 #[v] w fun e w' => (∃ g cap, e = .returned (.slice (some ⟨g, 0, none⟩) l.length cap) ∧ OwnB w' w.heap.size (.slice (some ⟨g, 0, none⟩) (l.length + 6) cap) (l ++ marksL)) ∧ Below w.heap.size w w' := by
  obtain ⟨i0, hi0, hz0, hz1, hz2⟩ := info_parts info_u8
  have HV := Lib.hid hv
  obtain ⟨a, c, rfl, hlc, hcells⟩ := hv.arg
  have hnone := hv.none
  obtain ⟨w1, hmk, hown0, hg0⟩ := run_make_own (P := Tryd.prog) w w.heap.size 22 5 i0 (.int .u8 0) 1 Tryd.underlying22 hi0 hz0 hz1 .i64 .i64 (l.length + 6) (by rw [hz2]; omega) (by unfold maxLen; omega) (Nat.le_refl _)
  rw [show ((l.length + 6 : Nat) : Int) = (l.length : Int) + 6 by omega] at hmk
  have B1 : Below w.heap.size w w1 := (Below.refl _ _).grown hg0 (Nat.le_refl _) (fun k e => by cases e)
  have HCE := Lib.hid hcells
  have HNO := Lib.hid hnone
  clear hv hcells hnone
  go_enter Tryd.func12, Tryd.ntmps12
  have hB1 : ∀ ad, a = some ad → ∀ j u, (cellsB l)[j]? = some u → w1.cell? (ad.add j) = some u := by
    intro ad e j u hj
    have hjl : j < l.length := by
      have := (List.getElem?_eq_some_iff.1 hj).1
      simpa [cellsB] using this
    obtain ⟨b, o, e2, hb, hc⟩ := HCE.out (by rintro rfl; simp at hjl)
    rw [e] at e2
    cases e2
    rw [add_pl, (B1.cell (p := ⟨b, o + j, none⟩) hb).trans (hc j hjl)]
    simpa [cellsB, hjl, List.getD] using hj
  have HB1 := Lib.hid hB1
  have hna : a = none → l.length = 0 ∧ c = 0 := fun e => HNO.out _ _ (by rw [e])
  have HNA := Lib.hid hna
  clear hB1 hna HNO HCE
  go_wp2_with (at_builtin; refine wpList_append_opt rfl _ _ 22 rfl w.heap.size 5 i0 (.int .u8 0) 1 1 Tryd.underlying22 hi0 hz0 hz1 hz2 rfl (by decide) _ 0 [] rfl hown0 a l.length c (cellsB l) rfl HNA.out (by simp [cellsB]) HB1.out ?e2 ?e3 ?e4 ?e5 ?_)
  case e2 => intro u hu; simp [cellsB] at hu; obtain ⟨k, _, rfl⟩ := hu; rfl
  case e3 => unfold maxLen; omega
  case e4 => omega
  case e5 => exact B1.size
  intro v2 w2 hown2 hgrow2
  have h2 : OwnB w2 w.heap.size v2 l := by
    unfold OwnB
    simpa using hown2
  have B2 : Below w.heap.size w w2 := B1.grown hgrow2 B1.size (fun k e => (World.ownsRow.lt hown0 k e).1)
  have hz2' := B2.size
  clear hown2 hgrow2 HB1 HNA hown0 hg0
  obtain ⟨va2, vn2, vc2, rfl, hn2⟩ := h2.form
  go_wp2_with (at_builtin; refine wpList_append_own _ rfl _ _ 22 rfl w.heap.size 5 i0 (.int .u8 0) 1 1 Tryd.underlying22 hi0 hz0 hz1 hz2 rfl (by decide) _ _ _ rfl (World.ownsRow.alloc h2 _) ⟨w2.heap.size, 0, none⟩ 6 6 [.int .u8 201, .int .u8 202, .int .u8 203, .int .u8 204, .int .u8 205, .int .u8 206] rfl rfl ?e1 ?e2 ?e3 ?e4 ?e5 ?_)
  case e1 =>
    intro j u hj
    match j, hj with
    | 0, hj => simp at hj; subst hj; simp [Addr.add]
    | 1, hj => simp at hj; subst hj; simp [Addr.add]
    | 2, hj => simp at hj; subst hj; simp [Addr.add]
    | 3, hj => simp at hj; subst hj; simp [Addr.add]
    | 4, hj => simp at hj; subst hj; simp [Addr.add]
    | 5, hj => simp at hj; subst hj; simp [Addr.add]
    | n + 6, hj => simp at hj
  case e2 => intro u hu; simp at hu; rcases hu with rfl | rfl | rfl | rfl | rfl | rfl <;> rfl
  case e3 => unfold maxLen; omega
  case e4 => omega
  case e5 => simp; omega
  intro v3 w3 hown3 hgrow3 _
  have h3 : OwnB w3 w.heap.size v3 (l ++ marksL) := by
    unfold OwnB
    rw [cellsB_append, List.length_append]
    exact hown3
  have B3 : Below w.heap.size w w3 := (B2.alloc B2.size _).grown hgrow3 (by simp; omega) (fun k e => (World.ownsRow.lt h2 k e).1)
  obtain ⟨g, cap, rfl, hcap, _, _, _⟩ := h3.parts.resolve_left (fun h => by have := h.2; simp [marksL] at this)
  rw [show (l ++ marksL).length = l.length + 6 by simp [marksL]] at h3 hcap ⊢
  clear hown3 hgrow3 h2
  go_wp2
  go_ret
  exact ⟨⟨g, cap, rfl, h3⟩, B3⟩

end Go.Proofs.YtglopeijohdobaaDoor
