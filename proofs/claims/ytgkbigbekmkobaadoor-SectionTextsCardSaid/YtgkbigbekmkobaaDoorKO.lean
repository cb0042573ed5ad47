/- section's statement: big; section.Same of equal Specs. -/
import Derived.Test.YtgkbigbekmkobaaDoorKN
set_option linter.unusedVariables false
set_option linter.unusedSimpArgs false
namespace Go.Proofs.YtgkbigbekmkobaaDoor
open Go.RowKit

def bigN : Nat → List (List UInt8) → Bool
  | n, [] => decide (5000 < n)
  | n, x :: r => if 5000 < n + x.length then true else bigN (n + x.length) r
def bigL (ps : List Int) (wh : List UInt8) (ns : List (List UInt8)) : Bool := if 1000 < ps.length ∨ 1000 < wh.length ∨ 1000 < ns.length then true else bigN 0 ns
theorem bigN_no : ∀ (ns : List (List UInt8)) (n : Nat), bigN n ns = false → ∀ x ∈ ns, x.length ≤ 5000
  | [], _, _, x, hx => by cases hx
  | y :: r, n, h, x, hx => by
    rw [bigN] at h
    split at h
    · cases h
    · rcases List.mem_cons.1 hx with rfl | hx
      · omega
      · exact bigN_no r _ h x hx
theorem bigN_sum : ∀ (ns : List (List UInt8)) (n : Nat), bigN n ns = false → n + (ns.map List.length).sum ≤ 5000
  | [], n, h => by
    rw [bigN, decide_eq_false_iff_not] at h
    simpa using h
  | y :: r, n, h => by
    rw [bigN] at h
    split at h
    · cases h
    · have := bigN_sum r _ h
      simp only [List.map_cons, List.sum_cons]
      omega
theorem join_sum (sep : List UInt8) : ∀ ns : List (List UInt8), (Lib.join ns sep).length ≤ (ns.map List.length).sum + ns.length * sep.length
  | [] => by simp [Lib.join_nil]
  | [x] => by rw [Lib.join_one]; simp
  | x :: y :: r => by
    have ih := join_sum sep (y :: r)
    rw [joinS_cc, List.length_append, List.length_append, List.map_cons, List.sum_cons, List.length_cons (a := x), Nat.add_mul]
    omega
theorem bigL_no {ps : List Int} {wh : List UInt8} {ns : List (List UInt8)} (h : bigL ps wh ns = false) : ps.length ≤ 1000 ∧ wh.length ≤ 1000 ∧ ns.length ≤ 1000 ∧ (∀ x ∈ ns, x.length ≤ 5000) ∧ (ns.map List.length).sum ≤ 5000 := by
  unfold bigL at h
  split at h
  · cases h
  · rename_i hc
    rw [not_or, not_or] at hc
    have := bigN_sum ns 0 h
    exact ⟨by omega, by omega, by omega, bigN_no ns 0 h, by omega⟩

set_option maxRecDepth 100000 in
set_option maxHeartbeats 1000000 in
theorem big_any (v : Value) (ps : List Int) (wh : List UInt8) (ns : List (List UInt8)) (w : World) (hv : ArgP w v ps wh ns) (hn : ∀ n ∈ ns, n.length ≤ 140737488351232) :
    Calls Tryd.prog 12 #[v] w fun e w' => e = .returned (.bool (bigL ps wh ns)) ∧ Below w.heap.size w w' := by
  obtain ⟨va, nv, rfl, h1, h2, _⟩ := hv
  have HN := Lib.hid hn
  obtain ⟨a, c, rfl, _⟩ := h1
  obtain ⟨na, nc, rfl, fn⟩ := h2
  have FN := Lib.hid fn
  obtain ⟨R, hR⟩ : ∃ R, bigL ps wh ns = R := ⟨_, rfl⟩
  rw [hR]
  unfold bigL at hR
  clear hn fn
  go_enter Tryd.func12, Tryd.ntmps12
  by_cases q1 : 1000 < ps.length
  · rw [if_pos (.inl q1)] at hR
    subst hR
    have q1' : (1000 : Int) < ps.length := by omega
    go_wp2
    go_ret
    exact ⟨rfl, (Below.refl _ _).alloc (Nat.le_refl _) _⟩
  have q1' : ¬ (1000 : Int) < ps.length := by omega
  by_cases q2 : 1000 < wh.length
  · rw [if_pos (.inr (.inl q2))] at hR
    subst hR
    have q2' : (1000 : Int) < wh.length := by omega
    go_wp2
    go_ret
    exact ⟨rfl, (Below.refl _ _).alloc (Nat.le_refl _) _⟩
  have q2' : ¬ (1000 : Int) < wh.length := by omega
  by_cases q3 : 1000 < ns.length
  · rw [if_pos (.inr (.inr q3))] at hR
    subst hR
    have q3' : (1000 : Int) < ns.length := by omega
    go_wp2
    go_ret
    exact ⟨rfl, (Below.refl _ _).alloc (Nat.le_refl _) _⟩
  have q3' : ¬ (1000 : Int) < ns.length := by omega
  rw [if_neg (by omega)] at hR
  have HR := Lib.hid hR
  clear hR
  go_wp2
  have b0 : Below w.heap.size w (w.alloc (.cells #[.slice a ps.length c, .string (bs wh), .slice na ns.length nc] 29)) := (Below.refl _ _).alloc (Nat.le_refl _) _
  obtain ⟨wa, hwa⟩ : ∃ wa, w.alloc (.cells #[.slice a ps.length c, .string (bs wh), .slice na ns.length nc] 29) = wa := ⟨_, rfl⟩
  rw [hwa] at b0 ⊢
  go_loopw [3, 5, 25] (fun x3 _ i wr => ∃ k n : Nat, wr = wa ∧ k ≤ ns.length ∧ i = .int .i64 k ∧ x3 = .int .i64 n ∧ n ≤ 5000 ∧ Hid (bigN n (ns.drop k) = R)) (fun _ _ i _ => ns.length - (intOf i).toNat)
  case atStart => exact ⟨0, 0, rfl, Nat.zero_le _, rfl, rfl, by decide, HR.out⟩
  case round =>
    obtain ⟨k, n, rfl, hk, rfl, rfl, hn5, hr⟩ := hrel
    by_cases hlt : k < ns.length
    · obtain ⟨b, o, rfl, hbl, hcells⟩ := FN.out (by rintro rfl; simp at hlt)
      have hcell := (b0.cell (p := ⟨b, o + k, none⟩) hbl).trans (hcells k hlt)
      obtain ⟨x, hx⟩ : ∃ x, ns.getD k [] = x := ⟨_, rfl⟩
      have hxl := HN.out x (by rw [← hx]; simp [List.getD, hlt])
      have hdr : ns.drop k = x :: ns.drop (k + 1) := by rw [List.drop_eq_getElem_cons hlt, ← hx]; simp [List.getD, hlt]
      rw [hx] at hcell
      have hr2 := hr.out
      rw [hdr, bigN] at hr2
      have hlt' : (k : Int) < ns.length := by omega
      clear hx hdr hr hcells
      by_cases h5 : 5000 < n + x.length
      · rw [if_pos h5] at hr2
        subst hr2
        have h5' : (5000 : Int) < (n : Int) + x.length := by omega
        by_cases h0 : k = 0
        · subst h0
          rw [Nat.add_zero] at hcell
          go_wp2
          go_ret
          exact ⟨rfl, b0⟩
        · go_wp2
          go_ret
          exact ⟨rfl, b0⟩
      · rw [if_neg h5] at hr2
        have HR2 := Lib.hid hr2
        have h5' : ¬ (5000 : Int) < (n : Int) + x.length := by omega
        clear hr2
        by_cases h0 : k = 0
        · subst h0
          rw [Nat.add_zero] at hcell
          go_wp2
          go_roundw
          case rel => exact ⟨1, n + x.length, by trivial, by omega, by go_num, by go_num, by omega, HR2.out⟩
          case measure => simp [intOf]; omega
        · go_wp2
          go_roundw
          case rel => exact ⟨k + 1, n + x.length, by trivial, by omega, by go_num, by go_num, by omega, HR2.out⟩
          case measure => simp [intOf]; omega
    · obtain rfl : k = ns.length := by omega
      have hr2 := hr.out
      rw [List.drop_length, bigN] at hr2
      have h5 : ¬ 5000 < n := by omega
      rw [decide_eq_false h5] at hr2
      subst hr2
      have h5' : ¬ (5000 : Int) < n := by omega
      clear hr
      go_wp2
      go_ret
      exact ⟨rfl, b0⟩

end Go.Proofs.YtgkbigbekmkobaaDoor
