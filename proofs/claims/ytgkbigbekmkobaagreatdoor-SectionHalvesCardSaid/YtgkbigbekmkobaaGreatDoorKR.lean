/- section.Bytes of a message itself (Path empty); header and text, some fields and all others (plain). Seat Z. -/
import Derived.Test.YtgkbigbekmkobaaGreatDoorHN
import Derived.Test.YtgkbigbekmkobaaGreatDoorK6
set_option linter.unusedVariables false
set_option linter.unusedSimpArgs false
namespace Go.Proofs.YtgkbigbekmkobaaGreatDoor
open Go.RowKit

theorem goL_le : ∀ (ls : List (List UInt8)) (fs : List Fld) (op : Bool) (p : Nat), (goL fs op p ls).2 ≤ p + ls.flatten.length
  | [], fs, op, p => by simp [goL]
  | l :: ls, fs, op, p => by
    unfold goL
    split
    · have := goL_le ls (turnL fs op p (p + l.length) (textL l)).1 (turnL fs op p (p + l.length) (textL l)).2.1 (p + l.length)
      simp only [List.flatten_cons, List.length_append]
      omega
    · simp only [List.flatten_cons, List.length_append]
      omega
theorem body_le (m : List UInt8) : bodyL m ≤ m.length := by
  have := goL_le (linesOf m) [] false 0
  rw [linesOf_flatten] at this
  unfold bodyL
  omega
/-- how many bytes the fields have -/
def totalL (m : List UInt8) (fs : List Fld) : Nat := (fs.map fun f => ((m.drop f.pos).take (f.fin - f.pos)).length).sum
theorem halves_len (m : List UInt8) (ns : List (List UInt8)) : ∀ fs : List Fld, (onlyL m ns false fs).length + (onlyL m ns true fs).length = totalL m fs
  | [] => rfl
  | f :: fs => by
    have ih := halves_len m ns fs
    have e : ∀ no, onlyL m ns no (f :: fs) = pieceL m ns no f ++ onlyL m ns no fs := fun no => rfl
    have e2 : totalL m (f :: fs) = ((m.drop f.pos).take (f.fin - f.pos)).length + totalL m fs := rfl
    rw [e, e, e2, List.length_append, List.length_append]
    have k : (pieceL m ns false f).length + (pieceL m ns true f).length = ((m.drop f.pos).take (f.fin - f.pos)).length := by
      unfold pieceL
      cases amongL ns f.name <;> simp
    omega
/-- what is meant of a message itself -/
def wholeL (m wh : List UInt8) (ns : List (List UInt8)) : List UInt8 :=
  if wh = tHEADER then m.take (bodyL m) else if wh = tTEXT then m.drop (bodyL m) else if wh = tFIELDS then onlyL m ns false (fieldsL m) ++ [13, 10] else if wh = tNOT then onlyL m ns true (fieldsL m) ++ [13, 10] else m
theorem ArgS.strsF {w : World} {v : Value} {ns : List (List UInt8)} (h : ArgS w v ns) : StrsF w v ns := by
  rcases h with ⟨a, c, e1, rfl⟩ | ⟨b, o, c, e1, e2, e3, e4⟩
  · exact ⟨a, c, e1, fun h => absurd rfl h⟩
  · exact ⟨_, c, e1, fun _ => ⟨b, o, rfl, e3, e4⟩⟩

set_option maxRecDepth 100000 in
set_option maxHeartbeats 1000000 in
theorem whole_any (m wh : List UInt8) (nv : Value) (ns : List (List UInt8)) (w : World) (hm : m.length ≤ 10000) (hA : ArgS w nv ns) (hl : ns.length ≤ 100) (hn : ∀ n ∈ ns, n.length ≤ 1000) (hwh : wh = [] ∨ wh = tHEADER ∨ wh = tTEXT ∨ wh = tFIELDS ∨ wh = tNOT) :
    Calls Tryz.prog 10 #[.string (bs m), .agg #[.slice none 0 0, .string (bs wh), nv]] w fun e w' => e = .returned (.string (bs (wholeL m wh ns))) ∧ Below w.heap.size w w' := by
  have HA := Lib.hid hA
  have HN := Lib.hid hn
  obtain ⟨na, nc, rfl, _⟩ := hA.strsF
  have hbl := body_le m
  obtain ⟨Q, hQ⟩ : ∃ Q, bodyL m = Q := ⟨_, rfl⟩
  have hbody := fun w0 => body_any m w0 (by omega)
  rw [hQ] at hbl hbody
  have HB := Lib.hid hbody
  obtain ⟨R, hR⟩ : ∃ R, wholeL m wh ns = R := ⟨_, rfl⟩
  rw [hR]
  unfold wholeL at hR
  rw [hQ] at hR
  have honly := fun no w0 (hb : Below w.heap.size w w0) => only_any m (.slice na ns.length nc) ns no w0 (HA.out.below hb) hm hl HN.out
  have HO := Lib.hid honly
  have r1 := fun w0 => run_to m Q hbl w0
  have r2 := fun w0 => run_from m Q hbl w0
  have R1 := Lib.hid r1
  have R2 := Lib.hid r2
  clear hA hn hQ hbody honly r1 r2
  go_enter Tryz.func10, Tryz.ntmps10
  rcases hwh with rfl | rfl | rfl | rfl | rfl
  · rw [if_neg (by decide), if_neg (by decide), if_neg (by decide), if_neg (by decide)] at hR
    subst hR
    go_wp2_with fail
    obtain ⟨wa, hwa⟩ : ∃ wa, w.alloc (.cells #[.slice none 0 0, .string (bs []), .slice na ns.length nc] 29) = wa := ⟨_, rfl⟩
    have b0 : Below w.heap.size w wa := by rw [← hwa]; exact (Below.refl _ _).alloc (Nat.le_refl _) _
    have s0 : wa.heap[w.heap.size]? = some (.cells #[.slice none 0 0, .string (bs []), .slice na ns.length nc] 29 (0, 0)) := by rw [← hwa]; exact heap_new w _
    rw [hwa]
    clear hwa
    refine (HB.out wa).mono ?_
    rintro e w1 ⟨rfl, hb1⟩
    have B1 : Below w.heap.size w w1 := b0.trans (hb1.mono b0.size)
    have s1 := (hb1.block _ (Array.getElem?_eq_some_iff.1 s0).1).trans s0
    have q1 : w1.cell? ⟨w.heap.size, 1, none⟩ = some (.string (bs [])) := by simp [World.cell?, s1]
    clear s0 s1 b0 hb1
    go_wp2
    go_ret
    exact ⟨rfl, B1⟩
  · rw [if_pos rfl] at hR
    subst hR
    have r1 := R1.out
    go_wp2_with fail
    obtain ⟨wa, hwa⟩ : ∃ wa, w.alloc (.cells #[.slice none 0 0, .string (bs tHEADER), .slice na ns.length nc] 29) = wa := ⟨_, rfl⟩
    have b0 : Below w.heap.size w wa := by rw [← hwa]; exact (Below.refl _ _).alloc (Nat.le_refl _) _
    have s0 : wa.heap[w.heap.size]? = some (.cells #[.slice none 0 0, .string (bs tHEADER), .slice na ns.length nc] 29 (0, 0)) := by rw [← hwa]; exact heap_new w _
    rw [hwa]
    clear hwa
    refine (HB.out wa).mono ?_
    rintro e w1 ⟨rfl, hb1⟩
    have B1 : Below w.heap.size w w1 := b0.trans (hb1.mono b0.size)
    have s1 := (hb1.block _ (Array.getElem?_eq_some_iff.1 s0).1).trans s0
    have q1 : w1.cell? ⟨w.heap.size, 1, none⟩ = some (.string (bs tHEADER)) := by simp [World.cell?, s1]
    clear s0 s1 b0 hb1
    go_wp2
    go_ret
    exact ⟨rfl, B1⟩
  · rw [if_neg (by decide), if_pos rfl] at hR
    subst hR
    have r2 := R2.out
    go_wp2_with fail
    obtain ⟨wa, hwa⟩ : ∃ wa, w.alloc (.cells #[.slice none 0 0, .string (bs tTEXT), .slice na ns.length nc] 29) = wa := ⟨_, rfl⟩
    have b0 : Below w.heap.size w wa := by rw [← hwa]; exact (Below.refl _ _).alloc (Nat.le_refl _) _
    have s0 : wa.heap[w.heap.size]? = some (.cells #[.slice none 0 0, .string (bs tTEXT), .slice na ns.length nc] 29 (0, 0)) := by rw [← hwa]; exact heap_new w _
    rw [hwa]
    clear hwa
    refine (HB.out wa).mono ?_
    rintro e w1 ⟨rfl, hb1⟩
    have B1 : Below w.heap.size w w1 := b0.trans (hb1.mono b0.size)
    have s1 := (hb1.block _ (Array.getElem?_eq_some_iff.1 s0).1).trans s0
    have q1 : w1.cell? ⟨w.heap.size, 1, none⟩ = some (.string (bs tTEXT)) := by simp [World.cell?, s1]
    clear s0 s1 b0 hb1
    go_wp2
    go_ret
    exact ⟨rfl, B1⟩
  · rw [if_neg (by decide), if_neg (by decide), if_pos rfl] at hR
    subst hR
    go_wp2_with fail
    obtain ⟨wa, hwa⟩ : ∃ wa, w.alloc (.cells #[.slice none 0 0, .string (bs tFIELDS), .slice na ns.length nc] 29) = wa := ⟨_, rfl⟩
    have b0 : Below w.heap.size w wa := by rw [← hwa]; exact (Below.refl _ _).alloc (Nat.le_refl _) _
    have s0 : wa.heap[w.heap.size]? = some (.cells #[.slice none 0 0, .string (bs tFIELDS), .slice na ns.length nc] 29 (0, 0)) := by rw [← hwa]; exact heap_new w _
    rw [hwa]
    clear hwa
    refine (HB.out wa).mono ?_
    rintro e w1 ⟨rfl, hb1⟩
    have B1 : Below w.heap.size w w1 := b0.trans (hb1.mono b0.size)
    have s1 := (hb1.block _ (Array.getElem?_eq_some_iff.1 s0).1).trans s0
    have q1 : w1.cell? ⟨w.heap.size, 1, none⟩ = some (.string (bs tFIELDS)) := by simp [World.cell?, s1]
    have q2 : w1.cell? ⟨w.heap.size, 2, none⟩ = some (.slice na ns.length nc) := by simp [World.cell?, s1]
    clear s0 s1 b0 hb1
    go_wp2_with fail
    refine (HO.out false w1 B1).mono ?_
    rintro e w2 ⟨rfl, hb2⟩
    go_wp2
    go_ret
    exact ⟨rfl, B1.trans (hb2.mono B1.size)⟩
  · rw [if_neg (by decide), if_neg (by decide), if_neg (by decide), if_pos rfl] at hR
    subst hR
    go_wp2_with fail
    obtain ⟨wa, hwa⟩ : ∃ wa, w.alloc (.cells #[.slice none 0 0, .string (bs tNOT), .slice na ns.length nc] 29) = wa := ⟨_, rfl⟩
    have b0 : Below w.heap.size w wa := by rw [← hwa]; exact (Below.refl _ _).alloc (Nat.le_refl _) _
    have s0 : wa.heap[w.heap.size]? = some (.cells #[.slice none 0 0, .string (bs tNOT), .slice na ns.length nc] 29 (0, 0)) := by rw [← hwa]; exact heap_new w _
    rw [hwa]
    clear hwa
    refine (HB.out wa).mono ?_
    rintro e w1 ⟨rfl, hb1⟩
    have B1 : Below w.heap.size w w1 := b0.trans (hb1.mono b0.size)
    have s1 := (hb1.block _ (Array.getElem?_eq_some_iff.1 s0).1).trans s0
    have q1 : w1.cell? ⟨w.heap.size, 1, none⟩ = some (.string (bs tNOT)) := by simp [World.cell?, s1]
    have q2 : w1.cell? ⟨w.heap.size, 2, none⟩ = some (.slice na ns.length nc) := by simp [World.cell?, s1]
    clear s0 s1 b0 hb1
    go_wp2_with fail
    refine (HO.out true w1 B1).mono ?_
    rintro e w2 ⟨rfl, hb2⟩
    go_wp2
    go_ret
    exact ⟨rfl, B1.trans (hb2.mono B1.size)⟩

set_option maxRecDepth 100000 in
set_option maxHeartbeats 1000000 in
theorem secBytes0_any (m wh : List UInt8) (nv : Value) (ns : List (List UInt8)) (w : World) (hm : m.length ≤ 10000) (hA : ArgS w nv ns) (hl : ns.length ≤ 100) (hn : ∀ n ∈ ns, n.length ≤ 1000) (hr : rightL [] wh ns = true) (hwh : wh = [] ∨ wh = tHEADER ∨ wh = tTEXT ∨ wh = tFIELDS ∨ wh = tNOT) :
    Calls Tryz.prog 6 #[.string (bs m), .agg #[.slice none 0 0, .string (bs wh), nv]] w fun e w' => e = .returned (.tuple #[.string (bs (wholeL m wh ns)), .bool true]) ∧ Below w.heap.size w w' := by
  have HA := Lib.hid hA
  have HN := Lib.hid hn
  have HR := Lib.hid hr
  obtain ⟨na, nc, rfl, _⟩ := hA.strsF
  have HW := Lib.hid hwh
  obtain ⟨R, hR⟩ : ∃ R, wholeL m wh ns = R := ⟨_, rfl⟩
  have HWL := Lib.hid hR
  rw [hR]
  clear hA hn hr hwh hR
  go_enter Tryz.func6, Tryz.ntmps6
  go_wp2_with fail
  obtain ⟨wa, hwa⟩ : ∃ wa, w.alloc (.cells #[.slice none 0 0, .string (bs wh), .slice na ns.length nc] 29) = wa := ⟨_, rfl⟩
  have b0 : Below w.heap.size w wa := by rw [← hwa]; exact (Below.refl _ _).alloc (Nat.le_refl _) _
  have s0 : wa.heap[w.heap.size]? = some (.cells #[.slice none 0 0, .string (bs wh), .slice na ns.length nc] 29 (0, 0)) := by rw [← hwa]; exact heap_new w _
  rw [hwa]
  clear hwa
  refine (right_any (.slice none 0 0) _ [] wh ns wa ⟨none, 0, rfl, fun h => absurd rfl h⟩ (HA.out.strsF.below b0) (fun n h => by have := HN.out n h; omega) (by simp) (by omega)).mono ?_
  rintro e w1 ⟨rfl, hb1⟩
  rw [HR.out]
  have B1 : Below w.heap.size w w1 := b0.trans (hb1.mono b0.size)
  have s1 := (hb1.block _ (Array.getElem?_eq_some_iff.1 s0).1).trans s0
  have q0 : w1.cell? ⟨w.heap.size, 0, none⟩ = some (.slice none 0 0) := by simp [World.cell?, s1]
  have q1 : w1.cell? ⟨w.heap.size, 1, none⟩ = some (.string (bs wh)) := by simp [World.cell?, s1]
  have q2 : w1.cell? ⟨w.heap.size, 2, none⟩ = some (.slice na ns.length nc) := by simp [World.cell?, s1]
  have hw := whole_any m wh (.slice na ns.length nc) ns w1 hm (HA.out.below B1) hl HN.out HW.out
  rw [HWL.out] at hw
  have HWH := Lib.hid hw
  clear s0 s1 b0 hb1 hw
  go_wp2_with fail
  refine HWH.out.mono ?_
  rintro e w2 ⟨rfl, hb2⟩
  go_wp2
  go_ret2
  exact ⟨rfl, B1.trans (hb2.mono B1.size)⟩

end Go.Proofs.YtgkbigbekmkobaaGreatDoor
