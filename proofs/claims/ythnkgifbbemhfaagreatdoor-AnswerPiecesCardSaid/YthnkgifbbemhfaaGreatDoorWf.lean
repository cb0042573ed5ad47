/- Texts of one walk, merged: XKR XAh XAi XSh. -/
import Derived.Test.YthnkgifbbemhfaaGreatDoorWe
import Derived.HandedShaped
import Derived.Handed
import Derived.Shelf.Vars

/- section.Bytes of a message itself (Path empty); header and text, some fields and all others (plain). Seat Z. -/
set_option linter.unusedVariables false
set_option linter.unusedSimpArgs false
section
set_option linter.unusedVariables false
set_option linter.unusedSimpArgs false
namespace Go.Proofs.YthnkgifbbemhfaaGreatDoor
open Go.RowKit

theorem goL_le : ∀ (ls : List (List UInt8)) (fs : List Fld) (op : Bool) (p : Nat), (goL fs op p ls).2 ≤ p + ls.flatten.length
  | [], fs, op, p => by simp [goL]
  | l :: ls, fs, op, p => by
    unfold goL
    split
    · have := goL_le ls (turnL fs op p (p + l.length) (textL l)).1 (turnL fs op p (p + l.length) (textL l)).2.1 (p + l.length)
      simp only [List.flatten_cons, List.length_append]
      omega
    · simp only [List.flatten_cons, List.length_append]
      omega
theorem body_le (m : List UInt8) : bodyL m ≤ m.length := by
  have := goL_le (linesOf m) [] false 0
  rw [linesOf_flatten] at this
  unfold bodyL
  omega
/-- how many bytes the fields have -/
def totalL (m : List UInt8) (fs : List Fld) : Nat := (fs.map fun f => ((m.drop f.pos).take (f.fin - f.pos)).length).sum
theorem halves_len (m : List UInt8) (ns : List (List UInt8)) : ∀ fs : List Fld, (onlyL m ns false fs).length + (onlyL m ns true fs).length = totalL m fs
  | [] => rfl
  | f :: fs => by
    have ih := halves_len m ns fs
    have e : ∀ no, onlyL m ns no (f :: fs) = pieceL m ns no f ++ onlyL m ns no fs := fun no => rfl
    have e2 : totalL m (f :: fs) = ((m.drop f.pos).take (f.fin - f.pos)).length + totalL m fs := rfl
    rw [e, e, e2, List.length_append, List.length_append]
    have k : (pieceL m ns false f).length + (pieceL m ns true f).length = ((m.drop f.pos).take (f.fin - f.pos)).length := by
      unfold pieceL
      cases amongL ns f.name <;> simp
    omega
/-- what is meant of a message itself -/
def wholeL (m wh : List UInt8) (ns : List (List UInt8)) : List UInt8 :=
  if wh = tHEADER then m.take (bodyL m) else if wh = tTEXT then m.drop (bodyL m) else if wh = tFIELDS then onlyL m ns false (fieldsL m) ++ [13, 10] else if wh = tNOT then onlyL m ns true (fieldsL m) ++ [13, 10] else m
theorem ArgS.strsF {w : World} {v : Value} {ns : List (List UInt8)} (h : ArgS w v ns) : StrsF w v ns := by
  rcases h with ⟨a, c, e1, rfl⟩ | ⟨b, o, c, e1, e2, e3, e4⟩
  · exact ⟨a, c, e1, fun h => absurd rfl h⟩
  · exact ⟨_, c, e1, fun _ => ⟨b, o, rfl, e3, e4⟩⟩

set_option maxRecDepth 100000 in
set_option maxHeartbeats 1000000 in
theorem whole_any (m wh : List UInt8) (nv : Value) (ns : List (List UInt8)) (w : World) (hm : m.length ≤ 10000) (hA : ArgS w nv ns) (hl : ns.length ≤ 100) (hn : ∀ n ∈ ns, n.length ≤ 1000) (hwh : wh = [] ∨ wh = tHEADER ∨ wh = tTEXT ∨ wh = tFIELDS ∨ wh = tNOT) :
    Calls Tryz.prog 105 #[.string (bs m), .agg #[.slice none 0 0, .string (bs wh), nv]] w fun e w' => e = .returned (.string (bs (wholeL m wh ns))) ∧ Below w.heap.size w w' := by
  have HA := Lib.hid hA
  have HN := Lib.hid hn
  obtain ⟨na, nc, rfl, _⟩ := hA.strsF
  have hbl := body_le m
  obtain ⟨Q, hQ⟩ : ∃ Q, bodyL m = Q := ⟨_, rfl⟩
  have hbody := fun w0 => body_any m w0 (by omega)
  rw [hQ] at hbl hbody
  have HB := Lib.hid hbody
  obtain ⟨R, hR⟩ : ∃ R, wholeL m wh ns = R := ⟨_, rfl⟩
  rw [hR]
  unfold wholeL at hR
  rw [hQ] at hR
  have honly := fun no w0 (hb : Below w.heap.size w w0) => only_any m (.slice na ns.length nc) ns no w0 (HA.out.below hb) hm hl HN.out
  have HO := Lib.hid honly
  have r1 := fun w0 => run_to m Q hbl w0
  have r2 := fun w0 => run_from m Q hbl w0
  have R1 := Lib.hid r1
  have R2 := Lib.hid r2
  clear hA hn hQ hbody honly r1 r2
  go_enter Tryz.func105, Tryz.ntmps105
  rcases hwh with rfl | rfl | rfl | rfl | rfl
  · rw [if_neg (by decide), if_neg (by decide), if_neg (by decide), if_neg (by decide)] at hR
    subst hR
    go_wp2_with fail
    obtain ⟨wa, hwa⟩ : ∃ wa, w.alloc (.cells #[.slice none 0 0, .string (bs []), .slice na ns.length nc] 31) = wa := ⟨_, rfl⟩
    have b0 : Below w.heap.size w wa := by rw [← hwa]; exact (Below.refl _ _).alloc (Nat.le_refl _) _
    have s0 : wa.heap[w.heap.size]? = some (.cells #[.slice none 0 0, .string (bs []), .slice na ns.length nc] 31 (0, 0)) := by rw [← hwa]; exact heap_new w _
    rw [hwa]
    clear hwa
    refine (HB.out wa).mono ?_
    rintro e w1 ⟨rfl, hb1⟩
    have B1 : Below w.heap.size w w1 := b0.trans (hb1.mono b0.size)
    have s1 := (hb1.block _ (Array.getElem?_eq_some_iff.1 s0).1).trans s0
    have q1 : w1.cell? ⟨w.heap.size, 1, none⟩ = some (.string (bs [])) := by simp [World.cell?, s1]
    clear s0 s1 b0 hb1
    go_wp2
    go_ret
    exact ⟨rfl, B1⟩
  · rw [if_pos rfl] at hR
    subst hR
    have r1 := R1.out
    go_wp2_with fail
    obtain ⟨wa, hwa⟩ : ∃ wa, w.alloc (.cells #[.slice none 0 0, .string (bs tHEADER), .slice na ns.length nc] 31) = wa := ⟨_, rfl⟩
    have b0 : Below w.heap.size w wa := by rw [← hwa]; exact (Below.refl _ _).alloc (Nat.le_refl _) _
    have s0 : wa.heap[w.heap.size]? = some (.cells #[.slice none 0 0, .string (bs tHEADER), .slice na ns.length nc] 31 (0, 0)) := by rw [← hwa]; exact heap_new w _
    rw [hwa]
    clear hwa
    refine (HB.out wa).mono ?_
    rintro e w1 ⟨rfl, hb1⟩
    have B1 : Below w.heap.size w w1 := b0.trans (hb1.mono b0.size)
    have s1 := (hb1.block _ (Array.getElem?_eq_some_iff.1 s0).1).trans s0
    have q1 : w1.cell? ⟨w.heap.size, 1, none⟩ = some (.string (bs tHEADER)) := by simp [World.cell?, s1]
    clear s0 s1 b0 hb1
    go_wp2
    go_ret
    exact ⟨rfl, B1⟩
  · rw [if_neg (by decide), if_pos rfl] at hR
    subst hR
    have r2 := R2.out
    go_wp2_with fail
    obtain ⟨wa, hwa⟩ : ∃ wa, w.alloc (.cells #[.slice none 0 0, .string (bs tTEXT), .slice na ns.length nc] 31) = wa := ⟨_, rfl⟩
    have b0 : Below w.heap.size w wa := by rw [← hwa]; exact (Below.refl _ _).alloc (Nat.le_refl _) _
    have s0 : wa.heap[w.heap.size]? = some (.cells #[.slice none 0 0, .string (bs tTEXT), .slice na ns.length nc] 31 (0, 0)) := by rw [← hwa]; exact heap_new w _
    rw [hwa]
    clear hwa
    refine (HB.out wa).mono ?_
    rintro e w1 ⟨rfl, hb1⟩
    have B1 : Below w.heap.size w w1 := b0.trans (hb1.mono b0.size)
    have s1 := (hb1.block _ (Array.getElem?_eq_some_iff.1 s0).1).trans s0
    have q1 : w1.cell? ⟨w.heap.size, 1, none⟩ = some (.string (bs tTEXT)) := by simp [World.cell?, s1]
    clear s0 s1 b0 hb1
    go_wp2
    go_ret
    exact ⟨rfl, B1⟩
  · rw [if_neg (by decide), if_neg (by decide), if_pos rfl] at hR
    subst hR
    go_wp2_with fail
    obtain ⟨wa, hwa⟩ : ∃ wa, w.alloc (.cells #[.slice none 0 0, .string (bs tFIELDS), .slice na ns.length nc] 31) = wa := ⟨_, rfl⟩
    have b0 : Below w.heap.size w wa := by rw [← hwa]; exact (Below.refl _ _).alloc (Nat.le_refl _) _
    have s0 : wa.heap[w.heap.size]? = some (.cells #[.slice none 0 0, .string (bs tFIELDS), .slice na ns.length nc] 31 (0, 0)) := by rw [← hwa]; exact heap_new w _
    rw [hwa]
    clear hwa
    refine (HB.out wa).mono ?_
    rintro e w1 ⟨rfl, hb1⟩
    have B1 : Below w.heap.size w w1 := b0.trans (hb1.mono b0.size)
    have s1 := (hb1.block _ (Array.getElem?_eq_some_iff.1 s0).1).trans s0
    have q1 : w1.cell? ⟨w.heap.size, 1, none⟩ = some (.string (bs tFIELDS)) := by simp [World.cell?, s1]
    have q2 : w1.cell? ⟨w.heap.size, 2, none⟩ = some (.slice na ns.length nc) := by simp [World.cell?, s1]
    clear s0 s1 b0 hb1
    go_wp2_with fail
    refine (HO.out false w1 B1).mono ?_
    rintro e w2 ⟨rfl, hb2⟩
    go_wp2
    go_ret
    exact ⟨rfl, B1.trans (hb2.mono B1.size)⟩
  · rw [if_neg (by decide), if_neg (by decide), if_neg (by decide), if_pos rfl] at hR
    subst hR
    go_wp2_with fail
    obtain ⟨wa, hwa⟩ : ∃ wa, w.alloc (.cells #[.slice none 0 0, .string (bs tNOT), .slice na ns.length nc] 31) = wa := ⟨_, rfl⟩
    have b0 : Below w.heap.size w wa := by rw [← hwa]; exact (Below.refl _ _).alloc (Nat.le_refl _) _
    have s0 : wa.heap[w.heap.size]? = some (.cells #[.slice none 0 0, .string (bs tNOT), .slice na ns.length nc] 31 (0, 0)) := by rw [← hwa]; exact heap_new w _
    rw [hwa]
    clear hwa
    refine (HB.out wa).mono ?_
    rintro e w1 ⟨rfl, hb1⟩
    have B1 : Below w.heap.size w w1 := b0.trans (hb1.mono b0.size)
    have s1 := (hb1.block _ (Array.getElem?_eq_some_iff.1 s0).1).trans s0
    have q1 : w1.cell? ⟨w.heap.size, 1, none⟩ = some (.string (bs tNOT)) := by simp [World.cell?, s1]
    have q2 : w1.cell? ⟨w.heap.size, 2, none⟩ = some (.slice na ns.length nc) := by simp [World.cell?, s1]
    clear s0 s1 b0 hb1
    go_wp2_with fail
    refine (HO.out true w1 B1).mono ?_
    rintro e w2 ⟨rfl, hb2⟩
    go_wp2
    go_ret
    exact ⟨rfl, B1.trans (hb2.mono B1.size)⟩

set_option maxRecDepth 100000 in
set_option maxHeartbeats 1000000 in
theorem secBytes0_any (m wh : List UInt8) (nv : Value) (ns : List (List UInt8)) (w : World) (hm : m.length ≤ 10000) (hA : ArgS w nv ns) (hl : ns.length ≤ 100) (hn : ∀ n ∈ ns, n.length ≤ 1000) (hr : rightL [] wh ns = true) (hwh : wh = [] ∨ wh = tHEADER ∨ wh = tTEXT ∨ wh = tFIELDS ∨ wh = tNOT) :
    Calls Tryz.prog 75 #[.string (bs m), .agg #[.slice none 0 0, .string (bs wh), nv]] w fun e w' => e = .returned (.tuple #[.string (bs (wholeL m wh ns)), .bool true]) ∧ Below w.heap.size w w' := by
  have HA := Lib.hid hA
  have HN := Lib.hid hn
  have HR := Lib.hid hr
  obtain ⟨na, nc, rfl, _⟩ := hA.strsF
  have HW := Lib.hid hwh
  obtain ⟨R, hR⟩ : ∃ R, wholeL m wh ns = R := ⟨_, rfl⟩
  have HWL := Lib.hid hR
  rw [hR]
  clear hA hn hr hwh hR
  go_enter Tryz.func75, Tryz.ntmps75
  go_wp2_with fail
  obtain ⟨wa, hwa⟩ : ∃ wa, w.alloc (.cells #[.slice none 0 0, .string (bs wh), .slice na ns.length nc] 31) = wa := ⟨_, rfl⟩
  have b0 : Below w.heap.size w wa := by rw [← hwa]; exact (Below.refl _ _).alloc (Nat.le_refl _) _
  have s0 : wa.heap[w.heap.size]? = some (.cells #[.slice none 0 0, .string (bs wh), .slice na ns.length nc] 31 (0, 0)) := by rw [← hwa]; exact heap_new w _
  rw [hwa]
  clear hwa
  refine (right_any (.slice none 0 0) _ [] wh ns wa ⟨none, 0, rfl, fun h => absurd rfl h⟩ (HA.out.strsF.below b0) (fun n h => by have := HN.out n h; omega) (by simp) (by omega)).mono ?_
  rintro e w1 ⟨rfl, hb1⟩
  rw [HR.out]
  have B1 : Below w.heap.size w w1 := b0.trans (hb1.mono b0.size)
  have s1 := (hb1.block _ (Array.getElem?_eq_some_iff.1 s0).1).trans s0
  have q0 : w1.cell? ⟨w.heap.size, 0, none⟩ = some (.slice none 0 0) := by simp [World.cell?, s1]
  have q1 : w1.cell? ⟨w.heap.size, 1, none⟩ = some (.string (bs wh)) := by simp [World.cell?, s1]
  have q2 : w1.cell? ⟨w.heap.size, 2, none⟩ = some (.slice na ns.length nc) := by simp [World.cell?, s1]
  have hw := whole_any m wh (.slice na ns.length nc) ns w1 hm (HA.out.below B1) hl HN.out HW.out
  rw [HWL.out] at hw
  have HWH := Lib.hid hw
  clear s0 s1 b0 hb1 hw
  go_wp2_with fail
  refine HWH.out.mono ?_
  rintro e w2 ⟨rfl, hb2⟩
  go_wp2
  go_ret2
  exact ⟨rfl, B1.trans (hb2.mono B1.size)⟩

end Go.Proofs.YthnkgifbbemhfaaGreatDoor
end

/- answer: the item BODY[ of the whole message, in part; the document's Digits. -/
set_option linter.unusedVariables false
set_option linter.unusedSimpArgs false
section
namespace Go.Proofs.YthnkgifbbemhfaaGreatDoor
open Go.RowKit Go

theorem right_whole : rightL [] [] [] = true := by decide +kernel

set_option maxRecDepth 100000 in
set_option maxHeartbeats 2000000 in
theorem secText0_any (w : World) : Calls Tryz.prog 74 #[.agg #[.slice none 0 0, .string ⟨#[]⟩, .slice none 0 0]] w fun e w' => e = .returned (.tuple #[.string ⟨#[]⟩, .nilIface]) ∧ Below w.heap.size w w' := by
  have hr := fun w0 => right_any (.slice none 0 0) (.slice none 0 0) [] [] [] w0 ⟨none, 0, rfl, fun h => absurd rfl h⟩ ⟨none, 0, rfl, fun h => absurd rfl h⟩ (by simp) (by simp) (by simp)
  have HR := Lib.hid hr
  have HX := Lib.hid right_whole
  clear hr
  go_enter Tryz.func74, Tryz.ntmps74
  go_wp2_with fail
  refine (HR.out _).mono ?_
  rintro e w1 ⟨rfl, hb1⟩
  rw [HX.out]
  obtain ⟨W0, hW0⟩ : ∃ W0, w.alloc (.cells #[.slice none 0 0, .string ⟨#[]⟩, .slice none 0 0] 31) = W0 := ⟨_, rfl⟩
  have hk0 : W0.heap[w.heap.size]? = some (.cells #[.slice none 0 0, .string ⟨#[]⟩, .slice none 0 0] 31) := by rw [← hW0]; exact heap_new _ _
  have hb0 : Below w.heap.size w W0 := by rw [← hW0]; exact (Below.refl _ _).alloc (Nat.le_refl _) _
  have hlt : w.heap.size < W0.heap.size := by rw [← hW0]; simp
  rw [hW0] at hb1
  have hk1 : w1.heap[w.heap.size]? = some (.cells #[.slice none 0 0, .string ⟨#[]⟩, .slice none 0 0] 31) := (hb1.block _ hlt).trans hk0
  have k0 : w1.cell? ⟨w.heap.size, 0, none⟩ = some (.slice none 0 0) := row_cell hk1 rfl
  have k1 : w1.cell? ⟨w.heap.size, 1, none⟩ = some (.string ⟨#[]⟩) := row_cell hk1 rfl
  have k2 : w1.cell? ⟨w.heap.size, 2, none⟩ = some (.slice none 0 0) := row_cell hk1 rfl
  have hB1 := hb0.trans (hb1.mono hb0.size)
  have hz1 := hB1.size
  have HJ := Lib.hid (fun w0 : World => (Tryz.strings_Join_none none 0 (bs [46]) w0))
  clear hk0 hk1 hW0 hb0 hb1 HR
  go_wp2
  go_loopw [4, 15] (fun o i wr => o = .slice none 0 0 ∧ i = .int .i64 0 ∧ wr = w1) (fun _ _ _ => 0)
  case atStart => exact ⟨rfl, rfl, rfl⟩
  case round =>
    obtain ⟨rfl, rfl, hW⟩ := hrel
    subst hW
    go_wp2_with fail
    refine (HJ.out _).mono ?_
    rintro e w2 ⟨rfl, hW2⟩
    subst hW2
    go_wp2
    go_ret2
    exact ⟨rfl, hB1⟩

/-- a piece of the whole message, as it is answered -/
def pieceT (fr : Nat) (ct : Int) (body : List UInt8) : List UInt8 := [66, 79, 68, 89, 91, 93, 60] ++ Lib.decDigits fr ++ [62, 32] ++ litL (partialL body fr ct)
theorem partialL_len (s : List UInt8) (p n : Int) : (partialL s p n).length ≤ s.length := by
  unfold partialL
  split
  · simp
  · rw [List.length_take, List.length_drop]; omega

/-- the message and the item in their boxes -/
structure BoxAt (w : World) (g : Nat) (body : List UInt8) (fr ct : Int) : Prop where
  m3 : w.cell? ⟨g, 3, none⟩ = some (.string (bs body))
  c1 : w.cell? ⟨g + 1, 1, none⟩ = some (.slice none 0 0)
  c2 : w.cell? ⟨g + 1, 2, none⟩ = some (.string ⟨#[]⟩)
  c3 : w.cell? ⟨g + 1, 3, none⟩ = some (.slice none 0 0)
  c5 : w.cell? ⟨g + 1, 5, none⟩ = some (.bool true)
  c6 : w.cell? ⟨g + 1, 6, none⟩ = some (.int .i64 fr)
  c7 : w.cell? ⟨g + 1, 7, none⟩ = some (.int .i64 ct)
theorem BoxAt.below {w w' : World} {g : Nat} {body : List UInt8} {fr ct : Int} (h : BoxAt w g body fr ct) (hb : Below w.heap.size w w') : BoxAt w' g body fr ct := by
  have f : ∀ p v, w.cell? p = some v → w'.cell? p = some v := fun p v e => (hb.cell (cell_lt e)).trans e
  exact ⟨f _ _ h.m3, f _ _ h.c1, f _ _ h.c2, f _ _ h.c3, f _ _ h.c5, f _ _ h.c6, f _ _ h.c7⟩
theorem BoxAt.new (w : World) (u f d : Int) (body : List UInt8) (nm : List UInt8) (pk : Bool) (fr ct : Int) : BoxAt ((w.alloc (.cells #[.int .i64 u, .int .i64 f, .int .i64 d, .string (bs body)] 61)).alloc (.cells #[.string (bs nm), .slice none 0 0, .string ⟨#[]⟩, .slice none 0 0, .bool pk, .bool true, .int .i64 fr, .int .i64 ct] 33)) w.heap.size body fr ct := by
  have h1 := row_cell (heap_new w (.cells #[.int .i64 u, .int .i64 f, .int .i64 d, .string (bs body)] 61)) (k := 3) rfl
  have h2 := heap_new (w.alloc (.cells #[.int .i64 u, .int .i64 f, .int .i64 d, .string (bs body)] 61)) (.cells #[.string (bs nm), .slice none 0 0, .string ⟨#[]⟩, .slice none 0 0, .bool pk, .bool true, .int .i64 fr, .int .i64 ct] 33)
  rw [size_alloc] at h2
  exact ⟨cell_alloc h1 _, row_cell h2 rfl, row_cell h2 rfl, row_cell h2 rfl, row_cell h2 rfl, row_cell h2 rfl, row_cell h2 rfl⟩
theorem piece_sum (d l : List UInt8) : ({ data := #[66, 79, 68, 89, 91] } : ByteArray) ++ { data := #[] } ++ { data := #[93] } ++ ({ data := #[60] } ++ bs d ++ { data := #[62] }) ++ { data := #[32] } ++ bs l = bs ([66, 79, 68, 89, 91, 93, 60] ++ d ++ [62, 32] ++ l) := by
  apply ByteArray.ext
  simp

set_option maxRecDepth 100000 in
set_option maxHeartbeats 4000000 in
theorem part_any (u f d : Int) (body : List UInt8) (fr : Nat) (ct : Int) (w : World) (hl : body.length ≤ 10000) (hf : fr ≤ 1000000000) (hT : TabQ w) :
    Calls Tryz.prog 44 #[.agg #[.int .i64 u, .int .i64 f, .int .i64 d, .string (bs body)], .agg #[.string (bs [66, 79, 68, 89, 91]), .slice none 0 0, .string ⟨#[]⟩, .slice none 0 0, .bool false, .bool true, .int .i64 fr, .int .i64 ct]] w fun e w' => e = .returned (.string (bs (pieceT fr ct body))) ∧ Below w.heap.size w w' := by
  have HT := Lib.hid hT
  have hdl := decq_length 10 fr (by omega) (by omega)
  have hpl := partialL_len body fr ct
  have hB0 := Lib.hid (fun w0 => secBytes0_any body [] (.slice none 0 0) [] w0 hl (.inl ⟨_, _, rfl, rfl⟩) (by simp) (by simp) right_whole (.inl rfl))
  have hX := BoxAt.new w u f d body [66, 79, 68, 89, 91] false fr ct
  clear hT
  unfold pieceT
  obtain ⟨D, hD⟩ : ∃ D, Lib.decDigits fr = D := ⟨_, rfl⟩
  have HD := Lib.hid hD
  rw [hD] at hdl ⊢
  obtain ⟨P, hP⟩ : ∃ P, partialL body fr ct = P := ⟨_, rfl⟩
  have HP := Lib.hid hP
  rw [hP] at hpl ⊢
  have hll : (litL P).length ≤ P.length + 14 := by
    have := decq_length 10 P.length (by omega) (by omega)
    unfold litL
    simp
    omega
  clear hD hP
  go_enter Tryz.func44, Tryz.ntmps44
  go_wp2_with fail
  obtain ⟨W0, hW0⟩ : ∃ W0, ((w.alloc (.cells #[.int .i64 u, .int .i64 f, .int .i64 d, .string (bs body)] 61)).alloc (.cells #[.string (bs [66, 79, 68, 89, 91]), .slice none 0 0, .string ⟨#[]⟩, .slice none 0 0, .bool false, .bool true, .int .i64 fr, .int .i64 ct] 33)) = W0 := ⟨_, rfl⟩
  have hb0 : Below w.heap.size w W0 := by rw [← hW0]; exact ((Below.refl _ _).alloc (Nat.le_refl _) _).alloc (by simp) _
  rw [hW0] at hX ⊢
  clear hW0
  have hz0 := hb0.size
  refine (secText0_any _).mono ?_
  rintro e w1 ⟨rfl, hb1⟩
  have hX1 := hX.below hb1
  have hB1 := hb0.trans (hb1.mono hz0)
  have hz1 := hB1.size
  obtain ⟨g, hg⟩ : ∃ g, w.heap.size = g := ⟨_, rfl⟩
  rw [hg] at hX1 ⊢
  have HX1 := Lib.hid hX1
  obtain ⟨m3, c1, c2, c3, c5, c6, c7⟩ := hX1
  clear hX
  have hT1 := TabQ.below HT.out hB1
  go_wp2_with fail
  refine (itoaQ_any fr _ (by omega) hT1).mono ?_
  rintro e w2 ⟨rfl, hb2⟩
  rw [HD.out]
  have HX2 := Lib.hid (HX1.out.below hb2)
  clear m3 c1 c2 c3 c5 c6 c7 HX1 hT1
  obtain ⟨m3, c1, c2, c3, c5, c6, c7⟩ := HX2.out
  have hB2 := hB1.trans (hb2.mono hz1)
  have hz2 := hB2.size
  go_wp2_with fail
  refine (hB0.out _).mono ?_
  rintro e w3 ⟨rfl, hb3⟩
  have ew : wholeL body [] [] = body := rfl
  rw [ew]
  have HX3 := Lib.hid (HX2.out.below hb3)
  clear m3 c1 c2 c3 c5 c6 c7 HX2 ew
  obtain ⟨m3, c1, c2, c3, c5, c6, c7⟩ := HX3.out
  have hB3 := hB2.trans (hb3.mono hz2)
  have hz3 := hB3.size
  go_wp2_with fail
  refine (partial_any body fr ct _ (by omega)).mono ?_
  rintro e w4 ⟨rfl, hW⟩
  subst hW
  rw [HP.out]
  have hT3 := TabQ.below HT.out hB3
  go_wp2_with fail
  refine (literal_any P _ (by omega) hT3).mono ?_
  rintro e w5 ⟨rfl, hb5⟩
  clear m3 c1 c2 c3 c5 c6 c7 HX3 hT3
  go_wp2
  go_ret
  exact ⟨by show _ = Ending.returned (.string (bs ([66, 79, 68, 89, 91, 93, 60] ++ D ++ [62, 32] ++ litL P))); rw [← piece_sum]; rfl, hB3.trans (hb5.mono hz3)⟩

set_option maxRecDepth 100000 in
set_option maxHeartbeats 4000000 in
theorem item_body (u f d : Int) (body : List UInt8) (fr : Nat) (ct : Int) (w : World) (hl : body.length ≤ 10000) (hf : fr ≤ 1000000000) (hT : TabQ w) :
    Calls Tryz.prog 25 #[.agg #[.int .i64 u, .int .i64 f, .int .i64 d, .string (bs body)], .agg #[.string (bs [66, 79, 68, 89, 91]), .slice none 0 0, .string ⟨#[]⟩, .slice none 0 0, .bool false, .bool true, .int .i64 fr, .int .i64 ct]] w fun e w' => e = .returned (.string (bs (pieceT fr ct body))) ∧ Below w.heap.size w w' := by
  have HT := Lib.hid hT
  clear hT
  go_enter Tryz.func25, Tryz.ntmps25
  go_wp2_with fail
  refine (body_any body _ (by omega)).mono ?_
  rintro e w1 ⟨rfl, hb1⟩
  obtain ⟨g, hg⟩ : ∃ g, w.heap.size = g := ⟨_, rfl⟩
  have hmk : ∀ i v, (#[Value.int .i64 u, .int .i64 f, .int .i64 d, .string (bs body)] : Array Value)[i]? = some v → w1.cell? ⟨g, i, none⟩ = some v := by
    intro i v hv
    refine (hb1.cell (p := ⟨g, i, none⟩) (by simp; omega)).trans ?_
    rw [← hg]
    exact cell_alloc (row_cell (heap_new w _) hv) _
  have hik : ∀ i v, (#[Value.string (bs [66, 79, 68, 89, 91]), .slice none 0 0, .string ⟨#[]⟩, .slice none 0 0, .bool false, .bool true, .int .i64 fr, .int .i64 ct] : Array Value)[i]? = some v → w1.cell? ⟨g + 1, i, none⟩ = some v := by
    intro i v hv
    refine (hb1.cell (p := ⟨g + 1, i, none⟩) (by simp; omega)).trans ?_
    have h := heap_new (w.alloc (.cells #[.int .i64 u, .int .i64 f, .int .i64 d, .string (bs body)] 61)) (.cells #[.string (bs [66, 79, 68, 89, 91]), .slice none 0 0, .string ⟨#[]⟩, .slice none 0 0, .bool false, .bool true, .int .i64 fr, .int .i64 ct] 33)
    rw [size_alloc, hg] at h
    exact row_cell h hv
  have hB1 : Below w.heap.size w w1 := (((Below.refl _ w).alloc (Nat.le_refl _) _).alloc (by simp) _).trans (hb1.mono (by simp; omega))
  have m0 : w1.cell? ⟨g, 0, none⟩ = some (.int .i64 u) := hmk 0 _ rfl
  have m1 : w1.cell? ⟨g, 1, none⟩ = some (.int .i64 f) := hmk 1 _ rfl
  have m2 : w1.cell? ⟨g, 2, none⟩ = some (.int .i64 d) := hmk 2 _ rfl
  have m3 : w1.cell? ⟨g, 3, none⟩ = some (.string (bs body)) := hmk 3 _ rfl
  have i0 : w1.cell? ⟨g + 1, 0, none⟩ = some (.string (bs [66, 79, 68, 89, 91])) := hik 0 _ rfl
  have i1 : w1.cell? ⟨g + 1, 1, none⟩ = some (.slice none 0 0) := hik 1 _ rfl
  have i2 : w1.cell? ⟨g + 1, 2, none⟩ = some (.string ⟨#[]⟩) := hik 2 _ rfl
  have i3 : w1.cell? ⟨g + 1, 3, none⟩ = some (.slice none 0 0) := hik 3 _ rfl
  have i4 : w1.cell? ⟨g + 1, 4, none⟩ = some (.bool false) := hik 4 _ rfl
  have i5 : w1.cell? ⟨g + 1, 5, none⟩ = some (.bool true) := hik 5 _ rfl
  have i6 : w1.cell? ⟨g + 1, 6, none⟩ = some (.int .i64 fr) := hik 6 _ rfl
  have i7 : w1.cell? ⟨g + 1, 7, none⟩ = some (.int .i64 ct) := hik 7 _ rfl
  have hz1 := hB1.size
  have hT1 := TabQ.below HT.out hB1
  have HP := Lib.hid (part_any u f d body fr ct w1 hl hf hT1)
  rw [hg]
  clear hmk hik hb1 hT1
  go_wp2_with fail
  refine HP.out.mono ?_
  rintro e w2 ⟨rfl, hb2⟩
  go_wp2
  go_ret
  exact ⟨rfl, hB1.trans (hb2.mono hz1)⟩

set_option maxRecDepth 100000 in
theorem refDig22_nat (n : Nat) (w : World) (hn : n ≤ 1000000000) : Calls Tryz.prog 9 #[.int .i64 n] w fun e w' => e = .returned (.string (bs (Lib.decDigits n))) ∧ Below w.heap.size w w' := by
  go_enter Tryz.func9, Tryz.ntmps9
  go_wp2_with fail
  refine (refDigits10_any n _ hn).mono ?_
  rintro e w1 ⟨rfl, hb1⟩
  go_wp2
  go_ret
  exact ⟨rfl, hb1⟩

end Go.Proofs.YthnkgifbbemhfaaGreatDoor
end

/- AnswerPieces: the law. -/
set_option linter.unusedVariables false
set_option linter.unusedSimpArgs false
section
namespace Go.Proofs.YthnkgifbbemhfaaGreatDoor
open Go.RowKit Go

/-- what stands ahead of a piece -/
def headT (k n : Nat) : List UInt8 := [42, 32, 49, 32, 70, 69, 84, 67, 72, 32, 40, 66, 79, 68, 89, 91, 93, 60] ++ Lib.decDigits k ++ [62, 32, 123] ++ Lib.decDigits n ++ [125, 13, 10]
theorem fetch_head (k : Nat) (ct : Int) (l : List UInt8) : fetchT 1 (pieceT k ct l) = headT k (partialL l k ct).length ++ ((partialL l k ct) ++ [41, 13, 10]) := by
  have e1 : Lib.decDigits 1 = [49] := by decide +kernel
  unfold fetchT pieceT headT litL
  rw [e1]
  simp
theorem head_sum (a b : List UInt8) : ({ data := #[42, 32, 49, 32, 70, 69, 84, 67, 72, 32, 40, 66, 79, 68, 89, 91, 93, 60] } : ByteArray) ++ bs a ++ { data := #[62, 32, 123] } ++ bs b ++ { data := #[125, 13, 10] } = bs ([42, 32, 49, 32, 70, 69, 84, 67, 72, 32, 40, 66, 79, 68, 89, 91, 93, 60] ++ a ++ [62, 32, 123] ++ b ++ [125, 13, 10]) := by
  simp only [bs_append]

theorem step_ok (n : Int) : ∃ s : Nat, 1 ≤ s ∧ s ≤ 2000 ∧ wrap64 (1 + wrap64 ((IntKind.u64.wrap n).tmod 2000)) = (s : Int) := by
  have e : IntKind.u64.wrap n = n % 18446744073709551616 := by simp [IntKind.wrap, IntKind.bits, IntKind.signed]
  rw [e, Int.tmod_eq_emod_of_nonneg (by omega)]
  refine ⟨1 + ((n % 18446744073709551616) % 2000).toNat, by omega, by omega, ?_⟩
  unfold wrap64
  omega
theorem partial_at (l : List UInt8) (k s : Nat) (hk : k < l.length) : partialL l k s = (l.drop k).take s := by
  unfold partialL
  rw [if_neg (by omega)]
  simp

set_option maxRecDepth 100000 in
set_option maxHeartbeats 4000000 in
theorem answerPieces_list (l : List UInt8) (n : Int) (w : World) (hT : TabQ w) : Calls Tryz.prog 3 #[.string (bs l), .int .i64 n] w fun e w' => e = .returned (.bool true) ∧ Below w.heap.size w w' := by
  have HT := Lib.hid hT
  clear hT
  go_enter Tryz.func3, Tryz.ntmps3
  go_wp2_with fail
  refine (ansAlive_any _ HT.out).mono ?_
  rintro e w1 ⟨rfl, hb1⟩
  have hT1 := TabQ.below HT.out hb1
  have HT1 := Lib.hid hT1
  clear hT1 HT
  by_cases hl : 5000 < l.length
  · have hl2 : (5000 : Int) < l.length := by omega
    go_wp2
    go_ret
    exact ⟨rfl, hb1⟩
  have hl2 : (l.length : Int) ≤ 5000 := by omega
  have hz1 := hb1.size
  obtain ⟨st, hs1, hs2, hst⟩ := step_ok n
  have hs1i : (1 : Int) ≤ st := by omega
  have hs2i : (st : Int) ≤ 2000 := by omega
  have HTB := Lib.hid (fun w0 (h : Below w1.heap.size w1 w0) => TabQ.below HT1.out h)
  clear HT1
  go_wp2
  rw [hst]
  clear hst
  go_loopw [5, 6] (fun got at_ wr => ∃ k : Nat, k ≤ l.length + 2000 ∧ at_ = .int .i64 k ∧ got = .string (bs (l.take k)) ∧ Below w1.heap.size w1 wr) (fun _ at_ _ => l.length + 2000 - (intOf at_).toNat)
  case atStart => exact ⟨0, by omega, rfl, rfl, Below.refl _ _⟩
  case round =>
    obtain ⟨k, hk, rfl, rfl, hB⟩ := hrel
    have hzr := hB.size
    by_cases hlt : k < l.length
    · have hlt' : (k : Int) < l.length := by omega
      obtain ⟨W0, hW0⟩ : ∃ W0, wr.alloc (.cells #[.string (bs [66, 79, 68, 89, 91]), .slice none 0 0, .string ⟨#[]⟩, .slice none 0 0, .bool false, .bool true, .int .i64 k, .int .i64 st] 33) = W0 := ⟨_, rfl⟩
      have hb0 : Below wr.heap.size wr W0 := by rw [← hW0]; exact (Below.refl _ _).alloc (Nat.le_refl _) _
      have hi0 : ItemAt W0 wr.heap.size [66, 79, 68, 89, 91] false true k st := by
        rw [← hW0]
        have h := heap_new wr (.cells #[.string (bs [66, 79, 68, 89, 91]), .slice none 0 0, .string ⟨#[]⟩, .slice none 0 0, .bool false, .bool true, .int .i64 k, .int .i64 st] 33)
        exact ⟨row_cell h rfl, row_cell h rfl, row_cell h rfl, row_cell h rfl, row_cell h rfl, row_cell h rfl, row_cell h rfl, row_cell h rfl⟩
      have hB0 := hB.trans (hb0.mono hzr)
      have hz0 := hB0.size
      have hT0 := HTB.out _ hB0
      have hpl := partialL_len l k st
      have hd1 := decq_length 10 k (by omega) (by omega)
      have hd2 := decq_length 10 (partialL l k st).length (by omega) (by omega)
      have hpt : (pieceT k st l).length ≤ 100000 := by
        unfold pieceT litL
        simp
        omega
      have HF := Lib.hid (fetch_body 1 0 0 0 l (pieceT k st l) wr.heap.size false true k st W0 (by omega) (by omega) hT0 hi0 (fun w0 h0 => item_body 0 0 0 l k st w0 (by omega) (by omega) (TabQ.below hT0 h0)))
      rw [fetch_head k st l] at HF
      obtain ⟨P, hP⟩ : ∃ P, partialL l k st = P := ⟨_, rfl⟩
      have hPe := hP
      rw [partial_at l k st hlt] at hPe
      rw [hP] at HF hpl hd2
      have hmn : ∃ q : Nat, min ((k : Int) + st) l.length = (q : Int) ∧ k ≤ q ∧ q ≤ l.length ∧ (l.drop k).take (q - k) = P := by
        refine ⟨min (k + st) l.length, by omega, by omega, by omega, ?_⟩
        rw [← hPe]
        rcases Nat.le_total (k + st) l.length with h | h
        · rw [Nat.min_eq_left h, show k + st - k = st by omega]
        · rw [Nat.min_eq_right h, List.take_of_length_le (by rw [List.length_drop]; exact Nat.le_refl _), List.take_of_length_le (by rw [List.length_drop]; omega)]
      obtain ⟨q, hq1, hq2, hq3, hq4⟩ := hmn
      have hmid := fun w0 => run_mid l k q hq2 hq3 w0
      rw [hq4] at hmid
      obtain ⟨Hd, hHd⟩ : ∃ Hd, headT k P.length = Hd := ⟨_, rfl⟩
      have hhl : Hd.length ≤ 100 := by
        rw [← hHd]
        unfold headT
        simp
        omega
      have HHD := Lib.hid hHd
      rw [hHd] at HF
      have htk : l.take (k + st) = l.take k ++ P := by rw [← hPe, List.take_add]
      have HTK := Lib.hid htk
      clear hi0 hT0 hP hPe hq4 hHd htk hpt
      go_wp2_with fail
      clear hW0
      refine HF.out.mono ?_
      rintro e w2 ⟨rfl, hb2⟩
      have hB2 := hB0.trans (hb2.mono hz0)
      have hz2 := hB2.size
      clear HF
      obtain ⟨S, hS⟩ : ∃ S, Hd ++ (P ++ [41, 13, 10]) = S := ⟨_, rfl⟩
      have hSl1 : S.length ≤ Hd.length + P.length + 3 := by rw [← hS]; simp; omega
      have hSl2 : Hd.length + P.length + 3 ≤ S.length := by rw [← hS]; simp; omega
      have r1 := fun w0 => run_to S Hd.length (by omega) w0
      rw [show S.take Hd.length = Hd by rw [← hS, List.take_left]] at r1
      have r2 := fun w0 => run_from S (S.length - 3) (by omega) w0
      rw [show S.drop (S.length - 3) = [41, 13, 10] by
        have e : S.length - 3 = (Hd ++ P).length := by rw [List.length_append]; omega
        rw [e, ← hS, ← List.append_assoc, List.drop_left], show ((S.length - 3 : Nat) : Int) = (S.length : Int) - 3 by omega] at r2
      have r3 := fun w0 => run_mid S Hd.length (S.length - 3) (by omega) (by omega) w0
      rw [show (S.drop Hd.length).take (S.length - 3 - Hd.length) = P by
        have e : S.length - 3 - Hd.length = P.length := by omega
        rw [e, ← hS, List.drop_left, List.take_left], show ((S.length - 3 : Nat) : Int) = (S.length : Int) - 3 by omega] at r3
      rw [hS]
      have hHH := HHD.out
      unfold headT at hHH
      have HHH := Lib.hid hHH
      have i1 : (Hd.length : Int) + 3 ≤ S.length := by omega
      have i2 : (S.length : Int) ≤ 6000 := by omega
      have i3 : (l.take k).length ≤ l.length := by rw [List.length_take]; omega
      clear hS hHH HHD
      go_wp2_with fail
      refine (refDig22_nat k _ (by omega)).mono ?_
      rintro e w3 ⟨rfl, hb3⟩
      have hB3 := hB2.trans (hb3.mono hz2)
      have hz3 := hB3.size
      go_wp2_with fail
      refine (refDig22_nat P.length _ (by omega)).mono ?_
      rintro e w4 ⟨rfl, hb4⟩
      have hB4 := hB3.trans (hb4.mono hz3)
      obtain ⟨D1, hD1⟩ : ∃ D, Lib.decDigits k = D := ⟨_, rfl⟩
      obtain ⟨D2, hD2⟩ : ∃ D, Lib.decDigits P.length = D := ⟨_, rfl⟩
      rw [hD1] at hd1 HHH ⊢
      rw [hD2] at hd2 HHH ⊢
      clear hD1 hD2
      go_upto_region 13 with fail
      rw [head_sum, HHH.out]
      go_wp2
      go_roundw
      case rel => exact ⟨k + st, by omega, by go_num, by rw [HTK.out, bs_append], hB4⟩
      case measure => simp [intOf]; omega
    · have hge : (l.length : Int) ≤ k := by omega
      have ht : l.take k = l := List.take_of_length_le (by omega)
      rw [ht]
      go_wp2
      go_ret
      exact ⟨rfl, hb1.trans (hB.mono hz1)⟩

theorem answerPieces_any (s : ByteArray) (n : Int) (w : World) (_ : s.size ≤ 9223372036854775807) (hT : Tab w) :
    Calls Tryz.prog 3 #[.string s, .int .i64 n] w fun e w' => e = .returned (.bool true) ∧ Below w.heap.size w w' :=
  answerPieces_list s.data.toList n w hT

end Go.Proofs.YthnkgifbbemhfaaGreatDoor
end

/- The wrap that hands the walk both: what the listed variables hold, and the world's shape. -/
set_option linter.unusedVariables false
set_option linter.unusedSimpArgs false
section
namespace Go
variable {H : Type} {enc : TypeId × Value → H}

theorem Proofs.YthnkgifbbemhfaaGreatDoor.handed_and_shaped {a : Assume} {C : Checked} {os : Os} {f : FuncId} {fn : Func} {s : ChangeSpec} {conds : List PathCond} {apart fresh handsOn again : Bool} {X : World → Array Value → Prop}
    (hX : ∀ (w w' : World) (args : Array Value), w.heap = w'.heap → X w args → X w' args)
    (own : ownKnob C.prog.godebug = none) (started : os.Started) (noInit : C.prog.inits.idxOf? f = none) (hfn : C.prog.funcs[f]? = some fn)
    (witness : ∃ (w : World) (tape : Tape) (i : Input), w.os = os ∧ (w.forCall tape i).Shaped C.prog ∧ i.vars = [] ∧ Input.okWide C.prog (w.forCall tape i) .any w.heap.size f i ∧
      ((s.pre enc C.prog fn conds apart (w.forCall tape i).memory i.args ∧ X (w.forCall tape i).memory i.args) ∧ sizedMet enc C.prog fn (OpenSpec.ofChange s) apart (w.forCall tape i).memory i.args) ∧ a.holds C.prog (lone (Frame.enter C.prog f i.args .normal) [] (w.forCall tape i)))
    (contract : ∀ (W : World) (base : Nat) (args : Array Value) (ds gs : List (DataW H)) (before : List MemPlace),
      (∀ (j : Nat) t v, fn.params[j]? = some t → args[j]? = some v → Value.okWide C.prog W .any base t v) →
      DataW.Whole enc C.prog fn.params.toList s.vars apart W args.toList ds gs before →
      conds.all (PathCond.test C.prog ⟨fn.params.toList, ds, s.plain.varTypes C.prog, gs⟩) = true →
      (DataW.weightsEach C.prog (fn.params.toList ++ s.plain.varTypes C.prog) (ds ++ gs)).all (· ≤ reachBytes) = true → X W args → W.ShapedOpen C.prog →
      a.holds C.prog (lone (Frame.enter C.prog f args .normal) [] W) →
      Calls C.prog f args W fun e W' => ∃ v, e = .returned v ∧ s.post enc C.prog fn apart fresh handsOn again W args v W') :
    ReturnsInHanded a C os f .any (fun w args => (s.pre enc C.prog fn conds apart w args ∧ X w args) ∧ sizedMet enc C.prog fn (OpenSpec.ofChange s) apart w args) (s.post enc C.prog fn apart fresh handsOn again) := by
  refine returnsInHanded_of_calls own started noInit witness ?_
  intro w tape i _ hsh _ hok hpre hholds
  obtain ⟨_, _, _, fn', hfn', _, _, _, _, hval⟩ := hok
  have e : fn' = fn := Option.some.inj (hfn'.symm.trans hfn)
  subst e
  obtain ⟨⟨⟨ds, gs, before, hw, hc⟩, hx⟩, hz⟩ := hpre
  have hw' := DataW.Whole.of_heap (w' := w.forCall tape i) (by rfl) hw
  refine (contract (w.forCall tape i) w.heap.size i.args ds gs before hval hw' hc (hz.weights hw) (hX _ _ _ (by rfl) hx) hsh hholds).mono fun e W' ⟨v, he, hp⟩ => ?_
  subst he
  exact ChangeSpec.post_blind hp

/-- the library's variable holds some number -/
theorem Proofs.YthnkgifbbemhfaaGreatDoor.maxLen_of {W : World} (h : W.ShapedOpen Tryz.prog) : ∃ m, W.cell? ⟨2, 0, none⟩ = some (.int .i64 m) :=
  Go.Proofs.cell_of_shapedOpen_int (zero := #[.int .i64 0]) (t := 3) h (of_decide_eq_true (by kernel_rfl)) (by kernel_rfl) rfl (by kernel_rfl) (by kernel_rfl) Tryz.underlying3

end Go
end
