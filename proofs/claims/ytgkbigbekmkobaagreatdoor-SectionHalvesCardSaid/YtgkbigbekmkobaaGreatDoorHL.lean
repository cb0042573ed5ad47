/- header.Only's parts: where fields stand (plain), the closure, slices.ContainsFunc. -/
import Derived.Test.YtgkbigbekmkobaaGreatDoorHI
import Derived.Test.YtgkbigbekmkobaaGreatDoorBd
import Derived.Test.YtgkbigbekmkobaaGreatDoorOs
import Derived.Test.YtgkbigbekmkobaaGreatDoorHm
set_option linter.unusedVariables false
set_option linter.unusedSimpArgs false
namespace Go.Proofs.YtgkbigbekmkobaaGreatDoor
open Go.RowKit Go

theorem contL_bd : ∀ (ls : List (List UInt8)) (p : Nat), p ≤ (contL p ls).2.1 ∧ (contL p ls).2.1 + (contL p ls).2.2.flatten.length = p + ls.flatten.length
  | [], p => by simp [contL]
  | l :: ls, p => by
    unfold contL
    split
    · have := contL_bd ls (p + l.length)
      simp only [List.flatten_cons, List.length_append]
      omega
    · simp
theorem refL_bd : ∀ (n : Nat) (ls : List (List UInt8)) (p : Nat), ls.length ≤ n → (∀ f ∈ (refL p ls).1, f.pos ≤ f.fin ∧ f.fin ≤ p + ls.flatten.length) ∧ (refL p ls).1.length ≤ ls.length
  | n, [], p, _ => by simp [refL]
  | 0, l :: ls, p, h => by simp at h
  | n + 1, l :: ls, p, h => by
    rw [refL_cons]
    by_cases ht : textL l = []
    · rw [if_pos ht]; simp
    · rw [if_neg ht]
      have hc := contL_bd ls (p + l.length)
      have hcl := contL_len (p + l.length) ls
      obtain ⟨i1, i2⟩ := refL_bd n (contL (p + l.length) ls).2.2 (contL (p + l.length) ls).2.1 (by simp at h; omega)
      have hall : ∀ f ∈ (refL (contL (p + l.length) ls).2.1 (contL (p + l.length) ls).2.2).1, f.pos ≤ f.fin ∧ f.fin ≤ p + (l :: ls).flatten.length := by
        intro f hf
        have := i1 f hf
        simp only [List.flatten_cons, List.length_append]
        omega
      cases hn : nameL (textL l) with
      | none =>
        refine ⟨hall, ?_⟩
        simp only [List.length_cons]
        omega
      | some q =>
        obtain ⟨nm, v⟩ := q
        simp only
        split
        · refine ⟨hall, ?_⟩
          simp only [List.length_cons]
          omega
        · refine ⟨fun f hf => ?_, ?_⟩
          · rcases List.mem_cons.1 hf with rfl | hf
            · simp only [List.flatten_cons, List.length_append]
              omega
            · exact hall f hf
          · simp only [List.length_cons]
            omega
theorem fields_bd (m : List UInt8) : (∀ f ∈ fieldsL m, f.pos ≤ f.fin ∧ f.fin ≤ m.length) ∧ (fieldsL m).length ≤ m.length := by
  obtain ⟨h1, h2⟩ := refL_bd _ (linesOf m) 0 (Nat.le_refl _)
  have hl := linesOf_length m
  rw [(fields_ref m).1]
  rw [linesOf_flatten, Nat.zero_add] at h1
  exact ⟨h1, by omega⟩

/-- is a name among these -/
def amongL (names : List (List UInt8)) (nm : List UInt8) : Bool := names.any fun n => lowL n == lowL nm
theorem amongL_cons (n : List UInt8) (names : List (List UInt8)) (nm : List UInt8) : amongL (n :: names) nm = ((lowL n == lowL nm) || amongL names nm) := rfl
/-- some fields as they stand -/
def pieceL (m : List UInt8) (names : List (List UInt8)) (no : Bool) (f : Fld) : List UInt8 := if (amongL names f.name != no) = true then (m.drop f.pos).take (f.fin - f.pos) else []
def onlyL (m : List UInt8) (names : List (List UInt8)) (no : Bool) (fs : List Fld) : List UInt8 := fs.flatMap (pieceL m names no)
theorem pieceL_len (m : List UInt8) (names : List (List UInt8)) (no : Bool) (f : Fld) : (pieceL m names no f).length ≤ m.length := by
  unfold pieceL
  split
  · rw [List.length_take, List.length_drop]; omega
  · simp

set_option maxRecDepth 100000 in
theorem only1_any (n nm : List UInt8) (c : Nat) (w : World) (hn : n.length ≤ 1099511627776) (hm : nm.length ≤ 1099511627776) (hc : w.cell? ⟨c, 0, none⟩ = some (.string (bs nm))) :
    Calls Tryz.prog 34 #[.string (bs n), .pointer (some ⟨c, 0, none⟩)] w fun e w' => e = .returned (.bool (lowL n == lowL nm)) ∧ Below w.heap.size w w' := by
  have HN := Lib.hid hn
  have HM := Lib.hid hm
  clear hn hm
  go_enter Tryz.func34, Tryz.ntmps34
  go_wp2_with fail
  refine (hsame_any n nm _ HN.out HM.out).mono ?_
  rintro e w1 ⟨rfl, hb1⟩
  go_wp2
  go_ret
  exact ⟨rfl, hb1⟩

/-- the argument of names, an element -/
theorem ArgS.below {w w' : World} {v : Value} {ls : List (List UInt8)} (h : ArgS w v ls) (hb : Below w.heap.size w w') : ArgS w' v ls := by
  rcases h with h | ⟨b, o, c, h1, h2, h3, h4⟩
  · exact .inl h
  · exact .inr ⟨b, o, c, h1, h2, Nat.lt_of_lt_of_le h3 hb.size, fun j hj => (hb.cell (p := ⟨b, o + j, none⟩) h3).trans (h4 j hj)⟩
theorem ArgS.form {w : World} {v : Value} {ls : List (List UInt8)} (h : ArgS w v ls) : ∃ a c, v = .slice a ls.length c ∧ (ls ≠ [] → ∃ b o, a = some ⟨b, o, none⟩) := by
  rcases h with ⟨a, c, rfl, rfl⟩ | ⟨b, o, c, rfl, _⟩
  · exact ⟨a, c, rfl, fun h => absurd rfl h⟩
  · exact ⟨_, c, rfl, fun _ => ⟨b, o, rfl⟩⟩
theorem ArgS.at {w : World} {b o n c : Nat} {ls : List (List UInt8)} (h : ArgS w (.slice (some ⟨b, o, none⟩) n c) ls) {k : Nat} (hk : k < ls.length) : w.cell? ⟨b, o + k, none⟩ = some (.string (bs (ls.getD k []))) := by
  rcases h with ⟨_, _, _, rfl⟩ | ⟨b', o', c', h, _, _, h4⟩
  · simp at hk
  · obtain ⟨⟨rfl, rfl⟩, _, _⟩ : (b = b' ∧ o = o') ∧ n = ls.length ∧ c = c' := by simpa using h
    exact h4 k hk

set_option maxRecDepth 100000 in
set_option maxHeartbeats 1000000 in
theorem index_any (v : Value) (ls : List (List UInt8)) (nm : List UInt8) (c : Nat) (w : World) (hv : ArgS w v ls) (hl : ls.length ≤ 100) (hn : ∀ n ∈ ls, n.length ≤ 1000) (hm : nm.length ≤ 1099511627776) (hc : w.cell? ⟨c, 0, none⟩ = some (.string (bs nm))) :
    Calls Tryz.prog 31 #[v, .func (.func 34) #[] #[.pointer (some ⟨c, 0, none⟩)]] w fun e w' => (∃ i : Int, e = .returned (.int .i64 i) ∧ decide (0 ≤ i) = amongL ls nm) ∧ Below w.heap.size w w' := by
  have HN := Lib.hid hn
  have HM := Lib.hid hm
  have HV := Lib.hid hv
  obtain ⟨A, hA⟩ : ∃ A, amongL ls nm = A := ⟨_, rfl⟩
  rw [hA]
  have HA := Lib.hid hA
  obtain ⟨a, cap, rfl, hform⟩ := hv.form
  have hclt := cell_lt hc
  clear hn hm hv hA
  go_enter Tryz.func31, Tryz.ntmps31
  go_wp2
  go_loopw [8] (fun i wr => ∃ k : Nat, k ≤ ls.length ∧ i = .int .i64 k ∧ Hid (amongL (ls.drop k) nm = A) ∧ Below w.heap.size w wr) (fun i _ => ls.length - (intOf i).toNat)
  case atStart => exact ⟨0, Nat.zero_le _, rfl, HA.out, Below.refl _ _⟩
  case round =>
    obtain ⟨k, hk, rfl, hr, hB⟩ := hrel
    have hzr := hB.size
    by_cases hlt : k < ls.length
    · obtain ⟨b, o, rfl⟩ := hform (by rintro rfl; simp at hlt)
      have hcell := (HV.out.below hB).at hlt
      obtain ⟨n, hnn⟩ : ∃ n, ls.getD k [] = n := ⟨_, rfl⟩
      have hnl : n.length ≤ 1099511627776 := by
        have : n ∈ ls := by rw [← hnn]; simp [List.getD, hlt]
        have := HN.out n this; omega
      rw [hnn] at hcell
      have hr2 := hr.out
      rw [show ls.drop k = n :: ls.drop (k + 1) by rw [List.drop_eq_getElem_cons hlt, ← hnn]; simp [List.getD, hlt], amongL_cons] at hr2
      have HR2 := Lib.hid hr2
      have HNL := Lib.hid hnl
      have hcr := (hB.cell hclt).trans hc
      have hlt' : (k : Int) < ls.length := by omega
      clear hnn hnl hr hr2 hform
      go_wp2_with fail
      refine (only1_any n nm c _ HNL.out HM.out hcr).mono ?_
      rintro e w1 ⟨rfl, hb1⟩
      rcases hs : (lowL n == lowL nm) with _ | _
      · have hr3 := HR2.out
        rw [hs, Bool.false_or] at hr3
        have HR3 := Lib.hid hr3
        clear hr3 HR2 hs
        go_wp2
        go_roundw
        case rel => exact ⟨k + 1, by omega, by go_num, HR3.out, hB.trans (hb1.mono hzr)⟩
        case measure => simp [intOf]; omega
      · have hr3 := HR2.out
        rw [hs, Bool.true_or] at hr3
        subst hr3
        clear HR2 hs
        go_wp2
        go_ret
        exact ⟨⟨k, rfl, by simp⟩, hB.trans (hb1.mono hzr)⟩
    · obtain rfl : k = ls.length := by omega
      have hr2 := hr.out
      rw [List.drop_length] at hr2
      have hr3 : A = false := by rw [← hr2]; rfl
      subst hr3
      clear hr hr2 hform
      go_wp2
      go_ret
      exact ⟨⟨-1, rfl, rfl⟩, hB⟩

set_option maxRecDepth 100000 in
theorem contains_any (v : Value) (ls : List (List UInt8)) (nm : List UInt8) (c : Nat) (w : World) (hv : ArgS w v ls) (hl : ls.length ≤ 100) (hn : ∀ n ∈ ls, n.length ≤ 1000) (hm : nm.length ≤ 1099511627776) (hc : w.cell? ⟨c, 0, none⟩ = some (.string (bs nm))) :
    Calls Tryz.prog 20 #[v, .func (.func 34) #[] #[.pointer (some ⟨c, 0, none⟩)]] w fun e w' => e = .returned (.bool (amongL ls nm)) ∧ Below w.heap.size w w' := by
  have hi := index_any v ls nm c w hv hl hn hm hc
  obtain ⟨A, hA⟩ : ∃ A, amongL ls nm = A := ⟨_, rfl⟩
  rw [hA] at hi ⊢
  have HI := Lib.hid hi
  clear hi hA hv hn hm
  go_enter Tryz.func20, Tryz.ntmps20
  go_wp2_with fail
  refine HI.out.mono ?_
  rintro e w1 ⟨⟨i, rfl, hi⟩, hb1⟩
  go_wp2
  go_ret
  exact ⟨by first | rfl | simp [hi], hb1⟩

end Go.Proofs.YtgkbigbekmkobaaGreatDoor
