/- Texts of one walk, merged: XHL XHN XOi XCp XK1 XK2 XK5 XK6. -/
import Derived.Test.YthnkgifbbemhfaaGreatDoorWd
import Derived.Laws.AppendOwn
import Derived.Laws.OwnMore
import Derived.Test.YthnkgifbbemhfaaGreatDoorShelf

/- header.Only's parts: where fields stand (plain), the closure, slices.ContainsFunc. -/
set_option linter.unusedVariables false
set_option linter.unusedSimpArgs false
section
set_option linter.unusedVariables false
set_option linter.unusedSimpArgs false
namespace Go.Proofs.YthnkgifbbemhfaaGreatDoor
open Go.RowKit Go

/-- is a name among these -/
def amongL (names : List (List UInt8)) (nm : List UInt8) : Bool := names.any fun n => lowL n == lowL nm
theorem amongL_cons (n : List UInt8) (names : List (List UInt8)) (nm : List UInt8) : amongL (n :: names) nm = ((lowL n == lowL nm) || amongL names nm) := rfl
/-- some fields as they stand -/
def pieceL (m : List UInt8) (names : List (List UInt8)) (no : Bool) (f : Fld) : List UInt8 := if (amongL names f.name != no) = true then (m.drop f.pos).take (f.fin - f.pos) else []
def onlyL (m : List UInt8) (names : List (List UInt8)) (no : Bool) (fs : List Fld) : List UInt8 := fs.flatMap (pieceL m names no)
theorem pieceL_len (m : List UInt8) (names : List (List UInt8)) (no : Bool) (f : Fld) : (pieceL m names no f).length ≤ m.length := by
  unfold pieceL
  split
  · rw [List.length_take, List.length_drop]; omega
  · simp

set_option maxRecDepth 100000 in
theorem only1_any (n nm : List UInt8) (c : Nat) (w : World) (hn : n.length ≤ 1099511627776) (hm : nm.length ≤ 1099511627776) (hc : w.cell? ⟨c, 0, none⟩ = some (.string (bs nm))) :
    Calls Tryz.prog 199 #[.string (bs n), .pointer (some ⟨c, 0, none⟩)] w fun e w' => e = .returned (.bool (lowL n == lowL nm)) ∧ Below w.heap.size w w' := by
  have HN := Lib.hid hn
  have HM := Lib.hid hm
  clear hn hm
  go_enter Tryz.func199, Tryz.ntmps199
  go_wp2_with fail
  refine (hsame_any n nm _ HN.out HM.out).mono ?_
  rintro e w1 ⟨rfl, hb1⟩
  go_wp2
  go_ret
  exact ⟨rfl, hb1⟩

/-- the argument of names, an element -/
theorem ArgS.below {w w' : World} {v : Value} {ls : List (List UInt8)} (h : ArgS w v ls) (hb : Below w.heap.size w w') : ArgS w' v ls := by
  rcases h with h | ⟨b, o, c, h1, h2, h3, h4⟩
  · exact .inl h
  · exact .inr ⟨b, o, c, h1, h2, Nat.lt_of_lt_of_le h3 hb.size, fun j hj => (hb.cell (p := ⟨b, o + j, none⟩) h3).trans (h4 j hj)⟩
theorem ArgS.form {w : World} {v : Value} {ls : List (List UInt8)} (h : ArgS w v ls) : ∃ a c, v = .slice a ls.length c ∧ (ls ≠ [] → ∃ b o, a = some ⟨b, o, none⟩) := by
  rcases h with ⟨a, c, rfl, rfl⟩ | ⟨b, o, c, rfl, _⟩
  · exact ⟨a, c, rfl, fun h => absurd rfl h⟩
  · exact ⟨_, c, rfl, fun _ => ⟨b, o, rfl⟩⟩
theorem ArgS.at {w : World} {b o n c : Nat} {ls : List (List UInt8)} (h : ArgS w (.slice (some ⟨b, o, none⟩) n c) ls) {k : Nat} (hk : k < ls.length) : w.cell? ⟨b, o + k, none⟩ = some (.string (bs (ls.getD k []))) := by
  rcases h with ⟨_, _, _, rfl⟩ | ⟨b', o', c', h, _, _, h4⟩
  · simp at hk
  · obtain ⟨⟨rfl, rfl⟩, _, _⟩ : (b = b' ∧ o = o') ∧ n = ls.length ∧ c = c' := by simpa using h
    exact h4 k hk

set_option maxRecDepth 100000 in
set_option maxHeartbeats 1000000 in
theorem index_any (v : Value) (ls : List (List UInt8)) (nm : List UInt8) (c : Nat) (w : World) (hv : ArgS w v ls) (hl : ls.length ≤ 100) (hn : ∀ n ∈ ls, n.length ≤ 1000) (hm : nm.length ≤ 1099511627776) (hc : w.cell? ⟨c, 0, none⟩ = some (.string (bs nm))) :
    Calls Tryz.prog 180 #[v, .func (.func 199) #[] #[.pointer (some ⟨c, 0, none⟩)]] w fun e w' => (∃ i : Int, e = .returned (.int .i64 i) ∧ decide (0 ≤ i) = amongL ls nm) ∧ Below w.heap.size w w' := by
  have HN := Lib.hid hn
  have HM := Lib.hid hm
  have HV := Lib.hid hv
  obtain ⟨A, hA⟩ : ∃ A, amongL ls nm = A := ⟨_, rfl⟩
  rw [hA]
  have HA := Lib.hid hA
  obtain ⟨a, cap, rfl, hform⟩ := hv.form
  have hclt := cell_lt hc
  clear hn hm hv hA
  go_enter Tryz.func180, Tryz.ntmps180
  go_wp2
  go_loopw [8] (fun i wr => ∃ k : Nat, k ≤ ls.length ∧ i = .int .i64 k ∧ Hid (amongL (ls.drop k) nm = A) ∧ Below w.heap.size w wr) (fun i _ => ls.length - (intOf i).toNat)
  case atStart => exact ⟨0, Nat.zero_le _, rfl, HA.out, Below.refl _ _⟩
  case round =>
    obtain ⟨k, hk, rfl, hr, hB⟩ := hrel
    have hzr := hB.size
    by_cases hlt : k < ls.length
    · obtain ⟨b, o, rfl⟩ := hform (by rintro rfl; simp at hlt)
      have hcell := (HV.out.below hB).at hlt
      obtain ⟨n, hnn⟩ : ∃ n, ls.getD k [] = n := ⟨_, rfl⟩
      have hnl : n.length ≤ 1099511627776 := by
        have : n ∈ ls := by rw [← hnn]; simp [List.getD, hlt]
        have := HN.out n this; omega
      rw [hnn] at hcell
      have hr2 := hr.out
      rw [show ls.drop k = n :: ls.drop (k + 1) by rw [List.drop_eq_getElem_cons hlt, ← hnn]; simp [List.getD, hlt], amongL_cons] at hr2
      have HR2 := Lib.hid hr2
      have HNL := Lib.hid hnl
      have hcr := (hB.cell hclt).trans hc
      have hlt' : (k : Int) < ls.length := by omega
      clear hnn hnl hr hr2 hform
      go_wp2_with fail
      refine (only1_any n nm c _ HNL.out HM.out hcr).mono ?_
      rintro e w1 ⟨rfl, hb1⟩
      rcases hs : (lowL n == lowL nm) with _ | _
      · have hr3 := HR2.out
        rw [hs, Bool.false_or] at hr3
        have HR3 := Lib.hid hr3
        clear hr3 HR2 hs
        go_wp2
        go_roundw
        case rel => exact ⟨k + 1, by omega, by go_num, HR3.out, hB.trans (hb1.mono hzr)⟩
        case measure => simp [intOf]; omega
      · have hr3 := HR2.out
        rw [hs, Bool.true_or] at hr3
        subst hr3
        clear HR2 hs
        go_wp2
        go_ret
        exact ⟨⟨k, rfl, by simp⟩, hB.trans (hb1.mono hzr)⟩
    · obtain rfl : k = ls.length := by omega
      have hr2 := hr.out
      rw [List.drop_length] at hr2
      have hr3 : A = false := by rw [← hr2]; rfl
      subst hr3
      clear hr hr2 hform
      go_wp2
      go_ret
      exact ⟨⟨-1, rfl, rfl⟩, hB⟩

set_option maxRecDepth 100000 in
theorem contains_any (v : Value) (ls : List (List UInt8)) (nm : List UInt8) (c : Nat) (w : World) (hv : ArgS w v ls) (hl : ls.length ≤ 100) (hn : ∀ n ∈ ls, n.length ≤ 1000) (hm : nm.length ≤ 1099511627776) (hc : w.cell? ⟨c, 0, none⟩ = some (.string (bs nm))) :
    Calls Tryz.prog 131 #[v, .func (.func 199) #[] #[.pointer (some ⟨c, 0, none⟩)]] w fun e w' => e = .returned (.bool (amongL ls nm)) ∧ Below w.heap.size w w' := by
  have hi := index_any v ls nm c w hv hl hn hm hc
  obtain ⟨A, hA⟩ : ∃ A, amongL ls nm = A := ⟨_, rfl⟩
  rw [hA] at hi ⊢
  have HI := Lib.hid hi
  clear hi hA hv hn hm
  go_enter Tryz.func131, Tryz.ntmps131
  go_wp2_with fail
  refine HI.out.mono ?_
  rintro e w1 ⟨⟨i, rfl, hi⟩, hb1⟩
  go_wp2
  go_ret
  exact ⟨by first | rfl | simp [hi], hb1⟩

end Go.Proofs.YthnkgifbbemhfaaGreatDoor
end

/- header.Only, header.Count. -/
set_option linter.unusedVariables false
set_option linter.unusedSimpArgs false
section
namespace Go.Proofs.YthnkgifbbemhfaaGreatDoor
open Go.RowKit Go

theorem refL_names : ∀ (n : Nat) (ls : List (List UInt8)) (p : Nat), ls.length ≤ n → ∀ f ∈ (refL p ls).1, f.name.length ≤ ls.flatten.length
  | n, [], p, _ => by simp [refL]
  | 0, l :: ls, p, h => by simp at h
  | n + 1, l :: ls, p, h => by
    rw [refL_cons]
    by_cases ht : textL l = []
    · rw [if_pos ht]; simp
    · rw [if_neg ht]
      have hc := contL_bd ls (p + l.length)
      have hcl := contL_len (p + l.length) ls
      have i1 := refL_names n (contL (p + l.length) ls).2.2 (contL (p + l.length) ls).2.1 (by simp at h; omega)
      have hall : ∀ f ∈ (refL (contL (p + l.length) ls).2.1 (contL (p + l.length) ls).2.2).1, f.name.length ≤ (l :: ls).flatten.length := by
        intro f hf
        have := i1 f hf
        simp only [List.flatten_cons, List.length_append]
        omega
      cases hn : nameL (textL l) with
      | none => exact hall
      | some q =>
        obtain ⟨nm, v⟩ := q
        simp only
        split
        · exact hall
        · intro f hf
          rcases List.mem_cons.1 hf with rfl | hf
          · have h1 := nameL_len hn
            have h2 := textL_len l
            simp only [List.flatten_cons, List.length_append]
            omega
          · exact hall f hf
theorem fields_names (m : List UInt8) : ∀ f ∈ fieldsL m, f.name.length ≤ m.length := by
  have h1 := refL_names _ (linesOf m) 0 (Nat.le_refl _)
  rw [(fields_ref m).1]
  rw [linesOf_flatten] at h1
  exact h1

theorem BldAt.below {w w' : World} {B b : Nat} {l : List UInt8} (h : BldAt w B b l) (hb : Below w.heap.size w w') : BldAt w' B b l := by
  have key : ∀ p, Lib.BuilderAt 85 5 B b p (Lib.byteCells l) w → Lib.BuilderAt 85 5 B b p (Lib.byteCells l) w' := by
    rintro p ⟨h1, v, h2, h3, h4⟩
    refine ⟨h1, v, (hb.block b (Array.getElem?_eq_some_iff.1 h2).1).trans h2, ⟨h3.1, ?_⟩, h4⟩
    rcases h3.2 with h0 | ⟨g, cap, cur, rfl, k1, k2, r⟩
    · exact .inl h0
    · exact .inr ⟨g, cap, cur, rfl, k1, (hb.block g (Array.getElem?_eq_some_iff.1 k2).1).trans k2, r⟩
  rcases h with h | h
  · exact .inl (key _ h)
  · exact .inr (key _ h)
theorem OwnF.kept {w w' : World} {B b : Nat} {v : Value} {fs : List Fld} (h : OwnF w B v fs) (hk : KeptBut b w w') (hb : b < B) : OwnF w' B v fs := by
  refine ⟨h.1, ?_⟩
  rcases h.2 with h0 | ⟨g, cap, cur, rfl, h1, h2, r⟩
  · exact .inl h0
  · exact .inr ⟨g, cap, cur, rfl, h1, hk g _ h2 (by omega) (by intro cs fr e; simp at e), r⟩
theorem onlyL_take (m : List UInt8) (names : List (List UInt8)) (no : Bool) {fs : List Fld} {k : Nat} {f : Fld} (hf : fs[k]? = some f) : onlyL m names no (fs.take (k + 1)) = onlyL m names no (fs.take k) ++ pieceL m names no f := by
  obtain ⟨hlt, rfl⟩ := List.getElem?_eq_some_iff.1 hf
  unfold onlyL
  rw [List.take_add_one, List.getElem?_eq_getElem hlt, List.flatMap_append]
  simp
theorem onlyL_len (m : List UInt8) (names : List (List UInt8)) (no : Bool) (fs : List Fld) : (onlyL m names no fs).length ≤ fs.length * m.length := by
  induction fs with
  | nil => simp [onlyL]
  | cons f fs ih =>
    have := pieceL_len m names no f
    simp only [onlyL, List.flatMap_cons, List.length_append, List.length_cons, Nat.succ_mul] at ih ⊢
    omega

set_option maxRecDepth 100000 in
set_option maxHeartbeats 4000000 in
theorem only_any (m : List UInt8) (v : Value) (ls : List (List UInt8)) (no : Bool) (w : World) (hv : ArgS w v ls) (hm : m.length ≤ 10000) (hl : ls.length ≤ 100) (hn : ∀ n ∈ ls, n.length ≤ 1000) :
    Calls Tryz.prog 164 #[.string (bs m), v, .bool no] w fun e w' => e = .returned (.string (bs (onlyL m ls no (fieldsL m) ++ [13, 10]))) ∧ Below w.heap.size w w' := by
  obtain ⟨fb1, fb2⟩ := fields_bd m
  have fb3 := fields_names m
  have hread := fun w0 => read_any m w0 (by omega)
  obtain ⟨fs, hfs⟩ : ∃ fs, fieldsL m = fs := ⟨_, rfl⟩
  rw [hfs] at fb1 fb2 fb3 hread ⊢
  obtain ⟨q, hq⟩ : ∃ q, bodyL m = q := ⟨_, rfl⟩
  rw [hq] at hread
  have HREAD := Lib.hid hread
  have HV := Lib.hid hv
  have HN := Lib.hid hn
  have FB1 := Lib.hid fb1
  have FB3 := Lib.hid fb3
  obtain ⟨an, capn, rfl, _⟩ := hv.form
  clear hread hfs hq hv hn fb1 fb3
  have hb0 := BldAt.new w w.heap.size (Nat.le_refl _)
  have hB0 : Below w.heap.size w (w.alloc (.cells #[.pointer none, .slice none 0 0] 85)) := (Below.refl _ w).alloc (Nat.le_refl _) _
  go_enter Tryz.func164, Tryz.ntmps164
  go_wp2_with fail
  refine (HREAD.out _).mono ?_
  rintro e w1 ⟨v1, op, rfl, hk1, ho1, hB1⟩
  rw [size_alloc] at hk1 ho1
  have hbl1 := hb0.below hB1
  have hBB1 : Below w.heap.size w w1 := hB0.trans (hB1.mono (by simp))
  obtain ⟨c0, c1, c2, f0, f1, f2⟩ := hk1.cells
  obtain ⟨a1, n1, cap1, rfl, hn1⟩ := OwnF.form ho1
  obtain rfl : n1 = fs.length := hn1.out
  clear hk1 c1 c2 f0 f1 f2 hb0 hB0 hB1
  have hrow : ∀ (k : Nat) (f : Fld), fs[k]? = some f → a1 = some ⟨(a1.getD ⟨0, 0, none⟩).block, 0, none⟩ := by
    intro k f hf
    rcases ho1.parts with ⟨h, h0⟩ | ⟨g, cap, h, _, _⟩
    · rw [h0] at hf; simp at hf
    · obtain ⟨rfl, rfl⟩ : a1 = some ⟨g, 0, none⟩ ∧ cap1 = cap := by simpa using h
      rfl
  go_wp2_with fail
  go_loopw [17] (fun c wr => ∃ k : Nat, k ≤ fs.length ∧ c = .int .i64 k ∧ BldAt wr w.heap.size w.heap.size (onlyL m ls no (fs.take k)) ∧ OwnF wr (w.heap.size + 1) (.slice a1 fs.length cap1) fs ∧ Below w.heap.size w wr ∧ w.heap.size < wr.heap.size) (fun c _ => fs.length - (intOf c).toNat)
  case atStart => exact ⟨0, Nat.zero_le _, rfl, hbl1, ho1, hBB1, by have := hbl1; rcases this with h | h <;> exact h.lt⟩
  case round =>
    obtain ⟨k, hk, rfl, hbl, ho, hB, hsz⟩ := hrel
    have hzr := hB.size
    have hol := onlyL_len m ls no (fs.take k)
    rw [List.length_take, Nat.min_eq_left hk] at hol
    have hol2 : (onlyL m ls no (fs.take k)).length ≤ 100000000 := by
      have : k * m.length ≤ 10000 * 10000 := Nat.mul_le_mul (by omega) hm
      omega
    by_cases hlt : k < fs.length
    · obtain ⟨f, hfk⟩ : ∃ f, fs[k]? = some f := ⟨_, List.getElem?_eq_getElem hlt⟩
      have ha1 := hrow k f hfk
      obtain ⟨g, hg⟩ : ∃ g, (a1.getD ⟨0, 0, none⟩).block = g := ⟨_, rfl⟩
      rw [hg] at ha1
      subst ha1
      have e0 : _ = some (Value.string (bs f.name)) := ho.cell k 0 f hfk (by decide)
      have e1 : _ = some (Value.string (bs f.value)) := ho.cell k 1 f hfk (by decide)
      have e2 : _ = some (Value.int .i64 f.pos) := ho.cell k 2 f hfk (by decide)
      have e3 : _ = some (Value.int .i64 f.fin) := ho.cell k 3 f hfk (by decide)
      rw [Nat.add_zero] at e0
      have hmem := List.mem_of_getElem? hfk
      obtain ⟨p1, p2⟩ := FB1.out f hmem
      have p3 := FB3.out f hmem
      have hsl := fun w0 => run_mid m f.pos f.fin p1 p2 w0
      have hnext := onlyL_take m ls no hfk
      have HNX := Lib.hid hnext
      obtain ⟨X, hX⟩ : ∃ X, (m.drop f.pos).take (f.fin - f.pos) = X := ⟨_, rfl⟩
      have hXl : X.length ≤ 10000 := by rw [← hX, List.length_take, List.length_drop]; omega
      rw [hX] at hsl
      have HX := Lib.hid hX
      obtain ⟨W1, hW1⟩ : ∃ W1, wr.alloc (.cells #[.string (bs f.name), .string (bs f.value), .int .i64 f.pos, .int .i64 f.fin] 135) = W1 := ⟨_, rfl⟩
      have hk1 : W1.heap[wr.heap.size]? = some (.cells #[.string (bs f.name), .string (bs f.value), .int .i64 f.pos, .int .i64 f.fin] 135 (0, 0)) := by rw [← hW1]; exact heap_new _ _
      have hBr : Below wr.heap.size wr W1 := by rw [← hW1]; exact (Below.refl _ _).alloc (Nat.le_refl _) _
      have hlt1 : wr.heap.size < W1.heap.size := by rw [← hW1]; simp
      have hB1 : Below w.heap.size w W1 := hB.trans (hBr.mono hzr)
      have HW := Lib.hid hW1
      have q0 : W1.cell? ⟨wr.heap.size, 0, none⟩ = some (.string (bs f.name)) := row_cell hk1 rfl
      have hcon := contains_any _ ls f.name wr.heap.size W1 (HV.out.below hB1) hl HN.out (by omega) q0
      obtain ⟨A, hA⟩ : ∃ A, amongL ls f.name = A := ⟨_, rfl⟩
      rw [hA] at hcon
      have HA := Lib.hid hA
      have HC := Lib.hid hcon
      have hlt' : (k : Int) < fs.length := by omega
      clear hfk hX hA hcon hW1 hnext hrow hol hmem q0 hg
      go_wp2_with fail
      rw [HW.out]
      refine HC.out.mono ?_
      rintro e w2 ⟨rfl, hb2⟩
      have hB2 := hB1.trans (hb2.mono hB1.size)
      have hz1 := hBr.size
      have hk2 := (hb2.block wr.heap.size hlt1).trans hk1
      have d2 : w2.cell? ⟨wr.heap.size, 2, none⟩ = some (.int .i64 f.pos) := row_cell hk2 rfl
      have d3 : w2.cell? ⟨wr.heap.size, 3, none⟩ = some (.int .i64 f.fin) := row_cell hk2 rfl
      have hbl2 := (hbl.below hBr).below hb2
      have ho2 := (ho.below hBr).below hb2
      have hs2 : w.heap.size < w2.heap.size := by have := hb2.size; omega
      have HNX2 := HNX.out
      unfold pieceL at HNX2
      rw [HA.out, HX.out] at HNX2
      have HNX3 := Lib.hid HNX2
      clear hk1 hk2 HC HNX HNX2 hbl ho e0 e1 e2 e3
      rcases A with _ | _ <;> rcases no with _ | _
      all_goals
        have hnx := HNX3.out
        simp only [bne_self_eq_false, Bool.false_eq_true, if_false, List.append_nil, bne_iff_ne, ne_eq, Bool.true_eq_false, not_true_eq_false, not_false_eq_true, if_true, reduceIte] at hnx
        replace HNX3 := Lib.hid hnx
        clear hnx
      · go_wp2
        go_roundw
        case rel => exact ⟨k + 1, by omega, by go_num, by rw [HNX3.out]; exact hbl2, ho2, hB2, hs2⟩
        case measure => simp [intOf]; omega
      · go_wp2_with fail
        refine (write_any w.heap.size w.heap.size _ X _ hbl2 (by omega) hB2.size).mono ?_
        rintro e w3 ⟨rfl, hbl3, hb3, hkp3⟩
        have hs3 : w.heap.size < w3.heap.size := by have := hb3.size; omega
        go_wp2
        go_roundw
        case rel => exact ⟨k + 1, by omega, by go_num, by rw [HNX3.out]; exact hbl3, ho2.kept hkp3 (by omega), hB2.trans hb3, hs3⟩
        case measure => simp [intOf]; omega
      · go_wp2_with fail
        refine (write_any w.heap.size w.heap.size _ X _ hbl2 (by omega) hB2.size).mono ?_
        rintro e w3 ⟨rfl, hbl3, hb3, hkp3⟩
        have hs3 : w.heap.size < w3.heap.size := by have := hb3.size; omega
        go_wp2
        go_roundw
        case rel => exact ⟨k + 1, by omega, by go_num, by rw [HNX3.out]; exact hbl3, ho2.kept hkp3 (by omega), hB2.trans hb3, hs3⟩
        case measure => simp [intOf]; omega
      · go_wp2
        go_roundw
        case rel => exact ⟨k + 1, by omega, by go_num, by rw [HNX3.out]; exact hbl2, ho2, hB2, hs2⟩
        case measure => simp [intOf]; omega
    · obtain rfl : k = fs.length := by omega
      rw [List.take_length] at hbl hol2
      obtain ⟨out, hout⟩ : ∃ out, onlyL m ls no fs = out := ⟨_, rfl⟩
      rw [hout] at hbl hol2
      have HOUT := Lib.hid hout
      clear hrow hol hout
      go_wp2_with fail
      refine (string_any w.heap.size w.heap.size out _ hbl hzr).mono ?_
      rintro e w2 ⟨rfl, hb2⟩
      go_wp2
      go_ret
      exact ⟨by rw [HOUT.out, ← bs_append]; rfl, hB.trans hb2⟩

set_option maxRecDepth 100000 in
theorem count_any (m : List UInt8) (w : World) (hm : m.length ≤ 1099511627776) : Calls Tryz.prog 100 #[.string (bs m)] w fun e w' => e = .returned (.int .i64 (linesOf m).length) ∧ Below w.heap.size w w' := by
  have hs := split_any m w hm
  have hll := linesOf_length m
  obtain ⟨L, hL⟩ : ∃ L, linesOf m = L := ⟨_, rfl⟩
  rw [hL] at hs hll ⊢
  have HS := Lib.hid hs
  clear hs hL
  go_enter Tryz.func100, Tryz.ntmps100
  go_wp2_with fail
  refine HS.out.mono ?_
  rintro e w1 ⟨v, rfl, ho, hb1⟩
  obtain ⟨a, n, cap, rfl, hn⟩ := OwnS.form ho
  obtain rfl : n = L.length := hn.out
  go_wp2
  go_ret
  exact ⟨rfl, hb1⟩

end Go.Proofs.YthnkgifbbemhfaaGreatDoor
end

/- Rows of ints that the call itself made. -/
set_option linter.unusedVariables false
set_option linter.unusedSimpArgs false
section
namespace Go.Proofs.YthnkgifbbemhfaaGreatDoor
open Go.RowKit

theorem info_int : (Tryz.prog.info? 3).map (fun i => (i.zero, i.size, i.bytes)) = some (some (.int .i64 0), 1, 8) := by kernel_rfl
def cellsI (l : List Int) : List Value := l.map fun k => .int .i64 k
def OwnI (w : World) (B : Nat) (v : Value) (l : List Int) : Prop := w.ownsRow B 3 1 v l.length (cellsI l)
theorem OwnI.step {w' : World} {B : Nat} {v' : Value} {ls : List Int} {k : Int} (h : w'.ownsRow B 3 1 v' (ls.length + 1) (cellsI ls ++ [.int .i64 k])) : OwnI w' B v' (ls ++ [k]) := by
  unfold OwnI
  rw [List.length_append]
  simpa [cellsI] using h
theorem OwnI.later {w w' : World} {B : Nat} {v : Value} {l : List Int} (h : OwnI w B v l) (hb : ∀ k, v.ownBlock = some k → w'.heap[k]? = w.heap[k]?) : OwnI w' B v l := by
  refine ⟨h.1, ?_⟩
  rcases h.2 with h0 | ⟨g, cap, cur, rfl, h1, h2, r⟩
  · exact .inl h0
  · exact .inr ⟨g, cap, cur, rfl, h1, (hb g rfl).trans h2, r⟩
theorem OwnI.below {w w' : World} {B : Nat} {v : Value} {l : List Int} (h : OwnI w B v l) (hb : Below w.heap.size w w') : OwnI w' B v l :=
  h.later fun k hk => hb.block k (World.ownsRow.lt h k hk).2
theorem OwnI.parts {w : World} {B : Nat} {v : Value} {l : List Int} (h : OwnI w B v l) (hl : l ≠ []) : ∃ g cap, v = .slice (some ⟨g, 0, none⟩) l.length cap ∧ g < w.heap.size ∧ B ≤ g := by
  have hlt := World.ownsRow.lt h
  rcases h.2 with ⟨rfl, h0⟩ | ⟨g, cap, cur, rfl, hb, hg, hc, _, _, ht⟩
  · exact absurd (List.eq_nil_of_length_eq_zero h0) hl
  · exact ⟨g, cap, rfl, (hlt g rfl).2, (hlt g rfl).1⟩
theorem OwnI.cell {w : World} {B g n cap : Nat} {l : List Int} (h : OwnI w B (.slice (some ⟨g, 0, none⟩) n cap) l) (j : Nat) (k : Int) (hj : l[j]? = some k) : w.cell? ⟨g, j, none⟩ = some (.int .i64 k) := by
  obtain ⟨hlt, _⟩ := List.getElem?_eq_some_iff.1 hj
  have hn : n = l.length := by
    rcases h.2 with ⟨h, _⟩ | ⟨g', cap', cur, h, _⟩
    · cases h
    · simp at h; omega
  have := World.ownsRow.cellAt (n := l.length) (by rw [← hn]; rw [hn]; exact hn ▸ h) j (by omega)
  rw [this]
  simp [cellsI, hj]

end Go.Proofs.YthnkgifbbemhfaaGreatDoor
end

/- A piece of a text (plain). -/
set_option linter.unusedVariables false
set_option linter.unusedSimpArgs false
section
namespace Go.Proofs.YthnkgifbbemhfaaGreatDoor

/-- a piece of a text -/
def partialL (s : List UInt8) (p n : Int) : List UInt8 := if p < 0 ∨ (s.length : Int) ≤ p ∨ n < 0 then [] else (s.drop p.toNat).take n.toNat
/-- what the statement's loop has collected of the first k bytes -/
def pieceK (s : List UInt8) (p n : Int) (k : Nat) : List UInt8 := if p < 0 then [] else ((s.take k).drop p.toNat).take n.toNat
theorem pieceK_zero (s : List UInt8) (p n : Int) : pieceK s p n 0 = [] := by unfold pieceK; split <;> simp
theorem pieceK_succ (s : List UInt8) (p n : Int) {k : Nat} {c : UInt8} (hk : s[k]? = some c) : pieceK s p n (k + 1) = pieceK s p n k ++ (if 0 ≤ p ∧ p ≤ k ∧ (k : Int) - p < n then [c] else []) := by
  obtain ⟨hlt, hc⟩ := List.getElem?_eq_some_iff.1 hk
  unfold pieceK
  by_cases hp : p < 0
  · rw [if_pos hp, if_pos hp, if_neg (by omega)]; rfl
  · rw [if_neg hp, if_neg hp]
    have e : s.take (k + 1) = s.take k ++ [c] := by rw [List.take_add_one, hk]; rfl
    have hl : (s.take k).length = k := by simp; omega
    rw [e]
    by_cases hpk : p ≤ k
    · rw [List.drop_append_of_le_length (by omega), List.take_append]
      have hd : ((s.take k).drop p.toNat).length = k - p.toNat := by rw [List.length_drop, hl]
      congr 1
      rw [hd]
      by_cases hn : (k : Int) - p < n
      · rw [if_pos ⟨by omega, hpk, hn⟩]
        rw [List.take_of_length_le (by simp; omega)]
      · rw [if_neg (by omega)]
        have : n.toNat - (k - p.toNat) = 0 := by omega
        rw [this]; rfl
    · rw [if_neg (by omega), List.append_nil, List.drop_eq_nil_of_le (by simp; omega), List.drop_eq_nil_of_le (by omega)]
theorem pieceK_all (s : List UInt8) (p n : Int) : pieceK s p n s.length = partialL s p n := by
  unfold pieceK partialL
  rw [List.take_length]
  by_cases hp : p < 0
  · rw [if_pos hp, if_pos (.inl hp)]
  · rw [if_neg hp]
    by_cases h : p < 0 ∨ (s.length : Int) ≤ p ∨ n < 0
    · rw [if_pos h]
      rcases h with h | h | h
      · exact absurd h hp
      · rw [List.drop_eq_nil_of_le (by omega)]; simp
      · have : n.toNat = 0 := by omega
        rw [this]; rfl
    · rw [if_neg h]

end Go.Proofs.YthnkgifbbemhfaaGreatDoor
end

/- section: Cut, number, Partial. -/
set_option linter.unusedVariables false
set_option linter.unusedSimpArgs false
section
namespace Go.Proofs.YthnkgifbbemhfaaGreatDoor
open Go.RowKit

theorem cut_any (s sep a r : List UInt8) (is : Bool) (m : Int) (w : World) (hs : s.length < 4294967281) (hm : w.cell? ⟨2, 0, none⟩ = some (.int .i64 m)) (hc : Lib.cut s sep = (a, r, is)) :
    Calls Tryz.prog 148 #[.string (bs s), .string (bs sep)] w fun e w' => e = .returned (.tuple #[.string (bs a), .string (bs r), .bool is]) ∧ Below w.heap.size w w' :=
  (Tryz.strings_Cut (bs s) (bs sep) m w (by rw [bs_size]; exact hs) hm).mono fun e w' ⟨h, n, k⟩ => by
    subst h k
    have e1 : Lib.cut (bs s).data.toList (bs sep).data.toList = (a, r, is) := by simpa using hc
    rw [e1]
    exact ⟨rfl, below_drewN (Below.refl _ _) _⟩

set_option maxRecDepth 100000 in
set_option maxHeartbeats 1000000 in
theorem partial_any (s : List UInt8) (p n : Int) (w : World) (hs : s.length ≤ 1099511627776) : Calls Tryz.prog 76 #[.string (bs s), .int .i64 p, .int .i64 n] w fun e w' => e = .returned (.string (bs (partialL s p n))) ∧ w = w' := by
  obtain ⟨R, hR⟩ : ∃ R, partialL s p n = R := ⟨_, rfl⟩
  rw [hR]
  have HR := Lib.hid hR
  clear hR
  by_cases h1 : p < 0
  · have e := HR.out
    unfold partialL at e
    rw [if_pos (.inl h1)] at e
    subst e
    go_enter Tryz.func76, Tryz.ntmps76
    go_wp2
    go_ret
    exact ⟨rfl, rfl⟩
  · by_cases h2 : (s.length : Int) ≤ p
    · have e := HR.out
      unfold partialL at e
      rw [if_pos (.inr (.inl h2))] at e
      subst e
      go_enter Tryz.func76, Tryz.ntmps76
      go_wp2
      go_ret
      exact ⟨rfl, rfl⟩
    · by_cases h3 : n < 0
      · have e := HR.out
        unfold partialL at e
        rw [if_pos (.inr (.inr h3))] at e
        subst e
        go_enter Tryz.func76, Tryz.ntmps76
        go_wp2
        go_ret
        exact ⟨rfl, rfl⟩
      · have e := HR.out
        unfold partialL at e
        rw [if_neg (by omega)] at e
        obtain ⟨P, rfl⟩ : ∃ P : Nat, p = P := ⟨p.toNat, by omega⟩
        obtain ⟨N, rfl⟩ : ∃ N : Nat, n = N := ⟨n.toNat, by omega⟩
        simp only [Int.toNat_natCast] at e
        have hPl : P ≤ s.length := by omega
        have r1 := run_from s P hPl
        have hd : (s.drop P).length = s.length - P := by simp
        obtain ⟨k, hk, hkl⟩ : ∃ k : Nat, min (N : Int) ((s.length : Int) - P) = k ∧ k ≤ (s.drop P).length := ⟨min N (s.length - P), by omega, by omega⟩
        have r2 := run_to (s.drop P) k hkl
        have ek : (s.drop P).take k = R := by
          rw [← e]
          rcases Nat.le_total N (s.length - P) with h | h
          · have : k = N := by omega
            rw [this]
          · rw [List.take_of_length_le (by omega), List.take_of_length_le (by omega)]
        rw [ek] at r2
        have EK := Lib.hid ek
        clear ek e
        go_enter Tryz.func76, Tryz.ntmps76
        go_wp2
        go_ret
        exact ⟨rfl, rfl⟩

end Go.Proofs.YthnkgifbbemhfaaGreatDoor
end

/- section: right's test of numbers, slices.ContainsFunc; large. -/
set_option linter.unusedVariables false
set_option linter.unusedSimpArgs false
section
namespace Go.Proofs.YthnkgifbbemhfaaGreatDoor
open Go.RowKit

/-- a slice that reads as these numbers -/
def IntsAt (w : World) (v : Value) (l : List Int) : Prop := ∃ a c, v = .slice a l.length c ∧ (l ≠ [] → ∃ b o, a = some ⟨b, o, none⟩ ∧ b < w.heap.size ∧ ∀ j, j < l.length → w.cell? ⟨b, o + j, none⟩ = some (.int .i64 (l.getD j 0)))
theorem IntsAt.below {w w' : World} {v : Value} {l : List Int} (h : IntsAt w v l) (hb : Below w.heap.size w w') : IntsAt w' v l := by
  obtain ⟨a, c, h1, h3⟩ := h
  refine ⟨a, c, h1, fun hne => ?_⟩
  obtain ⟨b, o, h4, h5, h6⟩ := h3 hne
  exact ⟨b, o, h4, Nat.lt_of_lt_of_le h5 hb.size, fun j hj => (hb.cell (p := ⟨b, o + j, none⟩) h5).trans (h6 j hj)⟩
theorem OwnI.ints {w : World} {B : Nat} {v : Value} {l : List Int} (h : OwnI w B v l) : IntsAt w v l := by
  by_cases hl : l = []
  · subst hl
    rcases h.2 with ⟨rfl, _⟩ | ⟨g, cap, cur, rfl, _⟩
    · exact ⟨none, 0, rfl, fun h => absurd rfl h⟩
    · exact ⟨_, cap, rfl, fun h => absurd rfl h⟩
  · obtain ⟨g, cap, rfl, hg, _⟩ := h.parts hl
    refine ⟨_, cap, rfl, fun _ => ⟨g, 0, rfl, hg, fun j hj => ?_⟩⟩
    rw [Nat.zero_add]
    exact h.cell j _ (by simp [List.getD, hj])
def badN (n : Int) : Bool := decide (n < 1) || decide (999 < n)

set_option maxRecDepth 100000 in
theorem right1_any (n : Int) (w : World) : Calls Tryz.prog 161 #[.int .i64 n] w fun e w' => e = .returned (.bool (badN n)) ∧ w = w' := by
  unfold badN
  rcases h : decide (n < 1) with _ | _
  · go_enter Tryz.func161, Tryz.ntmps161
    go_wp2
    go_ret
    exact ⟨by simp, rfl⟩
  · go_enter Tryz.func161, Tryz.ntmps161
    go_wp2
    go_ret
    exact ⟨by simp, rfl⟩

set_option maxRecDepth 100000 in
set_option maxHeartbeats 1000000 in
theorem indexI_any (v : Value) (ls : List Int) (w : World) (hv : IntsAt w v ls) (hl : ls.length ≤ 1000) :
    Calls Tryz.prog 198 #[v, .func (.func 161) #[] #[]] w fun e w' => (∃ i : Int, e = .returned (.int .i64 i) ∧ decide (0 ≤ i) = ls.any badN) ∧ Below w.heap.size w w' := by
  have HV := Lib.hid hv
  obtain ⟨A, hA⟩ : ∃ A, ls.any badN = A := ⟨_, rfl⟩
  rw [hA]
  have HA := Lib.hid hA
  obtain ⟨a, cap, rfl, hform⟩ := hv
  clear hA
  go_enter Tryz.func198, Tryz.ntmps198
  go_wp2
  go_loopw [8] (fun i wr => ∃ k : Nat, k ≤ ls.length ∧ i = .int .i64 k ∧ Hid ((ls.drop k).any badN = A) ∧ Below w.heap.size w wr) (fun i _ => ls.length - (intOf i).toNat)
  case atStart => exact ⟨0, Nat.zero_le _, rfl, HA.out, Below.refl _ _⟩
  case round =>
    obtain ⟨k, hk, rfl, hr, hB⟩ := hrel
    have hzr := hB.size
    by_cases hlt : k < ls.length
    · obtain ⟨b, o, rfl, hbl, hcells⟩ := hform (by rintro rfl; simp at hlt)
      have hcell := (hB.cell (p := ⟨b, o + k, none⟩) hbl).trans (hcells k hlt)
      obtain ⟨n, hnn⟩ : ∃ n, ls.getD k 0 = n := ⟨_, rfl⟩
      rw [hnn] at hcell
      have hr2 := hr.out
      rw [show ls.drop k = n :: ls.drop (k + 1) by rw [List.drop_eq_getElem_cons hlt, ← hnn]; simp [List.getD, hlt], List.any_cons] at hr2
      have HR2 := Lib.hid hr2
      have hlt' : (k : Int) < ls.length := by omega
      clear hnn hr hr2 hform hcells
      go_wp2_with fail
      refine (right1_any n _).mono ?_
      rintro e w1 ⟨rfl, rfl⟩
      rcases hs : badN n with _ | _
      · have hr3 := HR2.out
        rw [hs, Bool.false_or] at hr3
        have HR3 := Lib.hid hr3
        clear hr3 HR2 hs
        go_wp2
        go_roundw
        case rel => exact ⟨k + 1, by omega, by go_num, HR3.out, hB⟩
        case measure => simp [intOf]; omega
      · have hr3 := HR2.out
        rw [hs, Bool.true_or] at hr3
        subst hr3
        clear HR2 hs
        go_wp2
        go_ret
        exact ⟨⟨k, rfl, by simp⟩, hB⟩
    · obtain rfl : k = ls.length := by omega
      have hr2 := hr.out
      rw [List.drop_length] at hr2
      have hr3 : A = false := by rw [← hr2]; rfl
      subst hr3
      clear hr hr2 hform
      go_wp2
      go_ret
      exact ⟨⟨-1, rfl, rfl⟩, hB⟩

set_option maxRecDepth 100000 in
theorem containsI_any (v : Value) (ls : List Int) (w : World) (hv : IntsAt w v ls) (hl : ls.length ≤ 1000) :
    Calls Tryz.prog 160 #[v, .func (.func 161) #[] #[]] w fun e w' => e = .returned (.bool (ls.any badN)) ∧ Below w.heap.size w w' := by
  have hi := indexI_any v ls w hv hl
  obtain ⟨A, hA⟩ : ∃ A, ls.any badN = A := ⟨_, rfl⟩
  rw [hA] at hi ⊢
  have HI := Lib.hid hi
  clear hi hA hv
  go_enter Tryz.func160, Tryz.ntmps160
  go_wp2_with fail
  refine HI.out.mono ?_
  rintro e w1 ⟨⟨i, rfl, hi⟩, hb1⟩
  go_wp2
  go_ret
  exact ⟨by first | rfl | simp [hi], hb1⟩

/-! ### large -/
def upB (c : UInt8) : UInt8 := if 97 ≤ c.toNat ∧ c.toNat ≤ 122 then c - 32 else c
theorem upB_yes {c : UInt8} (h1 : 97 ≤ c.toNat) (h2 : c.toNat ≤ 122) : ((upB c).toNat : Int) = (c.toNat : Int) - 32 := by
  unfold upB
  rw [if_pos ⟨h1, h2⟩, UInt8.toNat_sub_of_le]
  · simp; omega
  · rw [UInt8.le_iff_toNat_le]; simp; omega
def upL (l : List UInt8) : List UInt8 := l.map upB
theorem up_step (l : List UInt8) (k : Nat) (hk : k < l.length) (c : UInt8) (hc : l.getD k 0 = c) : (upL (l.take k) ++ l.drop k).set k (upB c) = upL (l.take (k + 1)) ++ l.drop (k + 1) := by
  have e : l[k]? = some c := by rw [← hc]; simp [List.getD, hk]
  have e2 : l[k] = c := (List.getElem?_eq_some_iff.1 e).2
  rw [List.drop_eq_getElem_cons hk, e2, List.take_add_one, e]
  have hl : (upL (l.take k)).length = k := by simp [upL]; omega
  rw [List.set_append_right _ _ (by omega), hl, Nat.sub_self, List.set_cons_zero]
  simp [upL]
theorem up_at (l : List UInt8) (k : Nat) (hk : k < l.length) : (upL (l.take k) ++ l.drop k).getD k 0 = l.getD k 0 := by
  have hl : (upL (l.take k)).length = k := by simp [upL]; omega
  simp only [List.getD]
  rw [List.getElem?_append_right (by omega), hl, Nat.sub_self, List.getElem?_drop]
  simp
theorem up_same (l : List UInt8) (k : Nat) (hk : k < l.length) (c : UInt8) (hc : l.getD k 0 = c) (hu : upB c = c) : upL (l.take (k + 1)) ++ l.drop (k + 1) = upL (l.take k) ++ l.drop k := by
  have e : l[k]? = some c := by rw [← hc]; simp [List.getD, hk]
  have e2 : l[k] = c := (List.getElem?_eq_some_iff.1 e).2
  rw [List.take_add_one, e, List.drop_eq_getElem_cons hk, e2]
  simp [upL, hu]
theorem up_len (l : List UInt8) (k : Nat) : (upL (l.take k) ++ l.drop k).length = l.length := by simp [upL]; omega

end Go.Proofs.YthnkgifbbemhfaaGreatDoor
end

/- section: name, right's test of names, right of any Spec. -/
set_option linter.unusedVariables false
set_option linter.unusedSimpArgs false
section
namespace Go.Proofs.YthnkgifbbemhfaaGreatDoor
open Go.RowKit

/-- a byte that no name holds -/
def badC (c : UInt8) : Bool := decide ((c.toNat : Int) < 33) || decide (126 < (c.toNat : Int)) || decide (0 ≤ Lib.indexByte [40, 41, 58, 34, 123, 92] c)
def nameOk (s : List UInt8) : Bool := s.all (fun c => !badC c) && !s.isEmpty

set_option maxRecDepth 100000 in
set_option maxHeartbeats 1000000 in
theorem secname_any (s : List UInt8) (w : World) (hl : s.length ≤ 1099511627776) : Calls Tryz.prog 163 #[.string (bs s)] w fun e w' => e = .returned (.bool (nameOk s)) ∧ Below w.heap.size w w' := by
  obtain ⟨A, hA⟩ : ∃ A, nameOk s = A := ⟨_, rfl⟩
  rw [hA]
  have HA := Lib.hid hA
  clear hA
  obtain ⟨cap, w2, hconv, hcells, hb2, hlt2⟩ := to_bytes s w
  have HC := Lib.hid hcells
  clear hcells
  go_enter Tryz.func163, Tryz.ntmps163
  go_wp2
  clear hconv
  go_loop [8] (fun i => ∃ k : Nat, k ≤ s.length ∧ i = .int .i64 k ∧ Hid (((s.drop k).all (fun c => !badC c) && !s.isEmpty) = A)) (fun i => s.length - (intOf i).toNat)
  case atStart => exact ⟨0, Nat.zero_le _, rfl, HA.out⟩
  case round =>
    obtain ⟨k, hk, rfl, hok⟩ := hrel
    by_cases hlt : k < s.length
    · have hck := HC.out k hlt
      have hlt' : (k : Int) < s.length := by omega
      obtain ⟨c, hc⟩ : ∃ c, s.getD k 0 = c := ⟨_, rfl⟩
      rw [hc] at hck
      have hr2 := hok.out
      rw [show s.drop k = c :: s.drop (k + 1) by rw [List.drop_eq_getElem_cons hlt, ← hc]; simp [List.getD, hlt], List.all_cons] at hr2
      have HR := Lib.hid hr2
      clear hc hr2 hok
      have fin : ∀ b, badC c = b → (b = true → A = false) ∧ (b = false → Hid (((s.drop (k + 1)).all (fun c => !badC c) && !s.isEmpty) = A)) := by
        intro b hb
        have := HR.out
        rw [hb] at this
        refine ⟨fun h => ?_, fun h => ?_⟩
        · rw [h] at this; simpa using this.symm
        · rw [h] at this; show _ = _; simpa using this
      rcases h1 : decide ((c.toNat : Int) < 33) with _ | _
      · rcases h2 : decide (126 < (c.toNat : Int)) with _ | _
        · have hix : ∀ W, Calls Tryz.prog 182 #[.string ⟨#[40, 41, 58, 34, 123, 92]⟩, .int .u8 (c.toNat : Int)] W fun e w' => e = .returned (.int .i64 (Lib.indexByte [40, 41, 58, 34, 123, 92] c)) ∧ W = w' := fun W => by
            refine (Tryz.strings_IndexByte ⟨#[40, 41, 58, 34, 123, 92]⟩ _ W).mono fun e w' ⟨h, k⟩ => ⟨?_, k.symm⟩
            rw [h]
            simp
          have HIX := Lib.hid hix
          clear hix
          obtain ⟨ix, hix⟩ : ∃ ix, Lib.indexByte [40, 41, 58, 34, 123, 92] c = ix := ⟨_, rfl⟩
          have hbad : badC c = decide (0 ≤ ix) := by unfold badC; rw [h1, h2, hix]; rfl
          rw [hix] at HIX
          obtain ⟨f1, f2⟩ := fin _ hbad
          have F1 := Lib.hid f1
          have F2 := Lib.hid f2
          clear fin hbad f1 f2 hix
          rcases h3 : decide (0 ≤ ix) with _ | _
          · have hgo := F2.out h3
            clear F1 F2
            go_wp2_with (go_at_call 182; refine (HIX.out _).mono ?_; rintro e w' ⟨rfl, rfl⟩)
            go_round
            case rel => exact ⟨k + 1, by omega, by go_num, hgo.out⟩
            case measure => simp [intOf]; omega
          · have hA := F1.out h3
            subst hA
            clear F1 F2
            go_wp2_with (go_at_call 182; refine (HIX.out _).mono ?_; rintro e w' ⟨rfl, rfl⟩)
            go_ret
            exact ⟨rfl, hb2⟩
        · have hA := (fin true (by unfold badC; rw [h1, h2]; rfl)).1 rfl
          subst hA
          clear fin
          go_wp2
          go_ret
          exact ⟨rfl, hb2⟩
      · have hA := (fin true (by unfold badC; rw [h1]; rfl)).1 rfl
        subst hA
        clear fin
        go_wp2
        go_ret
        exact ⟨rfl, hb2⟩
    · obtain rfl : k = s.length := by omega
      have hr2 := hok.out
      rw [List.drop_length] at hr2
      have hr3 : (!s.isEmpty) = A := by rw [← hr2]; simp
      clear hok hr2
      subst hr3
      go_wp2
      go_ret
      exact ⟨by cases s <;> simp, hb2⟩

set_option maxRecDepth 100000 in
theorem right2_any (s : List UInt8) (w : World) (hl : s.length ≤ 1099511627776) : Calls Tryz.prog 162 #[.string (bs s)] w fun e w' => e = .returned (.bool (!nameOk s)) ∧ Below w.heap.size w w' := by
  have H := Lib.hid (secname_any s w hl)
  go_enter Tryz.func162, Tryz.ntmps162
  go_wp2_with fail
  refine H.out.mono ?_
  rintro e w1 ⟨rfl, hb1⟩
  go_wp2
  go_ret
  exact ⟨rfl, hb1⟩

end Go.Proofs.YthnkgifbbemhfaaGreatDoor
end

/- section: slices.ContainsFunc of names; right of any Spec. -/
set_option linter.unusedVariables false
set_option linter.unusedSimpArgs false
section
namespace Go.Proofs.YthnkgifbbemhfaaGreatDoor
open Go.RowKit

/-- a slice of strings reads as ls, wherever an empty one points -/
def StrsF (w : World) (v : Value) (ls : List (List UInt8)) : Prop := ∃ a c, v = .slice a ls.length c ∧ (ls ≠ [] → ∃ b o, a = some ⟨b, o, none⟩ ∧ b < w.heap.size ∧ ∀ j, j < ls.length → w.cell? ⟨b, o + j, none⟩ = some (.string (bs (ls.getD j []))))
theorem StrsF.below {w w' : World} {v : Value} {ls : List (List UInt8)} (h : StrsF w v ls) (hb : Below w.heap.size w w') : StrsF w' v ls := by
  obtain ⟨a, c, h1, h2⟩ := h
  refine ⟨a, c, h1, fun hne => ?_⟩
  obtain ⟨b, o, e, hl, hc⟩ := h2 hne
  exact ⟨b, o, e, Nat.lt_of_lt_of_le hl hb.size, fun j hj => (hb.cell (p := ⟨b, o + j, none⟩) hl).trans (hc j hj)⟩
theorem StrsAt.form {w : World} {v : Value} {ls : List (List UInt8)} (h : StrsAt w v ls) : StrsF w v ls := by
  rcases h with ⟨rfl, rfl⟩ | ⟨b, o, c, rfl, _, h3, h4⟩
  · exact ⟨none, 0, rfl, fun h => absurd rfl h⟩
  · exact ⟨_, c, rfl, fun _ => ⟨b, o, rfl, h3, h4⟩⟩

set_option maxRecDepth 100000 in
set_option maxHeartbeats 1000000 in
theorem indexS_any (v : Value) (ls : List (List UInt8)) (w : World) (hv : StrsF w v ls) (hl : ls.length ≤ 1000) (hn : ∀ n ∈ ls, n.length ≤ 1099511627776) :
    Calls Tryz.prog 180 #[v, .func (.func 162) #[] #[]] w fun e w' => (∃ i : Int, e = .returned (.int .i64 i) ∧ decide (0 ≤ i) = ls.any (fun n => !nameOk n)) ∧ Below w.heap.size w w' := by
  obtain ⟨A, hA⟩ : ∃ A, ls.any (fun n => !nameOk n) = A := ⟨_, rfl⟩
  rw [hA]
  have HA := Lib.hid hA
  have HN := Lib.hid hn
  obtain ⟨a, cap, rfl, hform⟩ := hv
  clear hA hn
  go_enter Tryz.func180, Tryz.ntmps180
  go_wp2
  go_loopw [8] (fun i wr => ∃ k : Nat, k ≤ ls.length ∧ i = .int .i64 k ∧ Hid ((ls.drop k).any (fun n => !nameOk n) = A) ∧ Below w.heap.size w wr) (fun i _ => ls.length - (intOf i).toNat)
  case atStart => exact ⟨0, Nat.zero_le _, rfl, HA.out, Below.refl _ _⟩
  case round =>
    obtain ⟨k, hk, rfl, hr, hB⟩ := hrel
    have hzr := hB.size
    by_cases hlt : k < ls.length
    · obtain ⟨b, o, rfl, hbl, hcells⟩ := hform (by rintro rfl; simp at hlt)
      have hcell := (hB.cell (p := ⟨b, o + k, none⟩) hbl).trans (hcells k hlt)
      obtain ⟨n, hnn⟩ : ∃ n, ls.getD k [] = n := ⟨_, rfl⟩
      have hnl : n.length ≤ 1099511627776 := HN.out n (by rw [← hnn]; simp [List.getD, hlt])
      rw [hnn] at hcell
      have hr2 := hr.out
      rw [show ls.drop k = n :: ls.drop (k + 1) by rw [List.drop_eq_getElem_cons hlt, ← hnn]; simp [List.getD, hlt], List.any_cons] at hr2
      have HR2 := Lib.hid hr2
      have HNL := Lib.hid hnl
      have hlt' : (k : Int) < ls.length := by omega
      clear hnn hr hr2 hform hcells hnl
      go_wp2_with fail
      refine (right2_any n _ HNL.out).mono ?_
      rintro e w1 ⟨rfl, hb1⟩
      rcases hs : (!nameOk n) with _ | _
      · have hr3 := HR2.out
        rw [hs, Bool.false_or] at hr3
        have HR3 := Lib.hid hr3
        clear hr3 HR2 hs
        go_wp2
        go_roundw
        case rel => exact ⟨k + 1, by omega, by go_num, HR3.out, hB.trans (hb1.mono hzr)⟩
        case measure => simp [intOf]; omega
      · have hr3 := HR2.out
        rw [hs, Bool.true_or] at hr3
        subst hr3
        clear HR2 hs
        go_wp2
        go_ret
        exact ⟨⟨k, rfl, by simp⟩, hB.trans (hb1.mono hzr)⟩
    · obtain rfl : k = ls.length := by omega
      have hr2 := hr.out
      rw [List.drop_length] at hr2
      have hr3 : A = false := by rw [← hr2]; rfl
      subst hr3
      clear hr hr2 hform
      go_wp2
      go_ret
      exact ⟨⟨-1, rfl, rfl⟩, hB⟩

set_option maxRecDepth 100000 in
theorem containsS_any (v : Value) (ls : List (List UInt8)) (w : World) (hv : StrsF w v ls) (hl : ls.length ≤ 1000) (hn : ∀ n ∈ ls, n.length ≤ 1099511627776) :
    Calls Tryz.prog 131 #[v, .func (.func 162) #[] #[]] w fun e w' => e = .returned (.bool (ls.any fun n => !nameOk n)) ∧ Below w.heap.size w w' := by
  have hi := indexS_any v ls w hv hl hn
  obtain ⟨A, hA⟩ : ∃ A, (ls.any fun n => !nameOk n) = A := ⟨_, rfl⟩
  rw [hA] at hi ⊢
  have HI := Lib.hid hi
  clear hi hA hv hn
  go_enter Tryz.func131, Tryz.ntmps131
  go_wp2_with fail
  refine HI.out.mono ?_
  rintro e w1 ⟨⟨i, rfl, hi⟩, hb1⟩
  go_wp2
  go_ret
  exact ⟨by first | rfl | simp [hi], hb1⟩

abbrev tHEADER : List UInt8 := [72, 69, 65, 68, 69, 82]
abbrev tTEXT : List UInt8 := [84, 69, 88, 84]
abbrev tMIME : List UInt8 := [77, 73, 77, 69]
abbrev tFIELDS : List UInt8 := [72, 69, 65, 68, 69, 82, 46, 70, 73, 69, 76, 68, 83]
abbrev tNOT : List UInt8 := [72, 69, 65, 68, 69, 82, 46, 70, 73, 69, 76, 68, 83, 46, 78, 79, 84]
/-- has a section a text -/
def rightL (ps : List Int) (wh : List UInt8) (ns : List (List UInt8)) : Bool :=
  if 20 < ps.length ∨ 20 < ns.length ∨ ps.any badN = true then false
  else if wh = [] ∨ wh = tHEADER ∨ wh = tTEXT then ns.isEmpty
  else if wh = tMIME then ns.isEmpty && !ps.isEmpty
  else if wh = tFIELDS ∨ wh = tNOT then !ns.isEmpty && !(ns.any fun n => !nameOk n)
  else false

set_option maxRecDepth 100000 in
set_option maxHeartbeats 2000000 in
theorem right_any (v nv : Value) (ps : List Int) (wh : List UInt8) (ns : List (List UInt8)) (w : World) (hv : IntsAt w v ps) (hnv : StrsF w nv ns) (hn : ∀ n ∈ ns, n.length ≤ 1099511627776) (hp : ps.length ≤ 1099511627776) (hnl : ns.length ≤ 1099511627776) :
    Calls Tryz.prog 104 #[.agg #[v, .string (bs wh), nv]] w fun e w' => e = .returned (.bool (rightL ps wh ns)) ∧ Below w.heap.size w w' := by
  have HV := Lib.hid hv
  have HNV := Lib.hid hnv
  have HN := Lib.hid hn
  obtain ⟨a, c, rfl, _⟩ := hv
  obtain ⟨na, nc, rfl, _⟩ := hnv
  obtain ⟨R, hR⟩ : ∃ R, rightL ps wh ns = R := ⟨_, rfl⟩
  rw [hR]
  have HR := Lib.hid hR
  clear hR hn
  have b0 := (Below.refl w.heap.size w).alloc (Nat.le_refl _) (.cells #[.slice a ps.length c, .string (bs wh), .slice na ns.length nc] 31)
  by_cases h1 : 20 < ps.length
  · have hr := HR.out
    unfold rightL at hr
    rw [if_pos (.inl h1)] at hr
    subst hr
    go_enter Tryz.func104, Tryz.ntmps104
    go_wp2
    go_ret
    exact ⟨rfl, b0⟩
  by_cases h2 : 20 < ns.length
  · have hr := HR.out
    unfold rightL at hr
    rw [if_pos (.inr (.inl h2))] at hr
    subst hr
    go_enter Tryz.func104, Tryz.ntmps104
    go_wp2
    go_ret
    exact ⟨rfl, b0⟩
  have hci := containsI_any _ ps _ (HV.out.below b0) (by omega)
  have HCI := Lib.hid hci
  clear hci
  rcases h3 : ps.any badN with _ | _
  case true =>
    have hr := HR.out
    unfold rightL at hr
    rw [if_pos (.inr (.inr h3))] at hr
    subst hr
    rw [h3] at HCI
    go_enter Tryz.func104, Tryz.ntmps104
    go_wp2_with fail
    refine HCI.out.mono ?_
    rintro e w1 ⟨rfl, hb1⟩
    go_wp2
    go_ret
    exact ⟨rfl, b0.trans (hb1.mono (by simp))⟩
  rw [h3] at HCI
  have hr := HR.out
  unfold rightL at hr
  rw [if_neg (by simp [h1, h2, h3])] at hr
  have HR2 := Lib.hid hr
  clear hr HR h3
  go_enter Tryz.func104, Tryz.ntmps104
  go_wp2_with fail
  refine HCI.out.mono ?_
  rintro e w1 ⟨rfl, hb1⟩
  have hB : Below w.heap.size w w1 := b0.trans (hb1.mono (by simp))
  have hrow := (hb1.block w.heap.size (by simp)).trans (heap_new w _)
  have q0 : w1.cell? ⟨w.heap.size, 0, none⟩ = some (.slice a ps.length c) := by simp [World.cell?, hrow]
  have q1 : w1.cell? ⟨w.heap.size, 1, none⟩ = some (.string (bs wh)) := by simp [World.cell?, hrow]
  have q2 : w1.cell? ⟨w.heap.size, 2, none⟩ = some (.slice na ns.length nc) := by simp [World.cell?, hrow]
  clear hrow hb1 HCI
  by_cases x0 : wh = []
  · subst x0
    by_cases hn0 : ns = []
    · subst hn0
      clear q0
      go_wp2
      go_ret
      exact ⟨by rw [← HR2.out]; rfl, hB⟩
    · have hpos : 0 < ns.length := List.length_pos_iff.2 hn0
      have hr : R = false := by rw [← HR2.out]; simp [hn0]
      subst hr
      clear q0
      go_wp2
      go_ret
      exact ⟨by simp; omega, hB⟩
  by_cases x1 : wh = tHEADER
  · subst x1
    by_cases hn0 : ns = []
    · subst hn0
      clear q0
      go_wp2
      go_ret
      exact ⟨by rw [← HR2.out]; rfl, hB⟩
    · have hpos : 0 < ns.length := List.length_pos_iff.2 hn0
      have hr : R = false := by rw [← HR2.out]; simp [hn0]
      subst hr
      clear q0
      go_wp2
      go_ret
      exact ⟨by simp; omega, hB⟩
  by_cases x2 : wh = tTEXT
  · subst x2
    by_cases hn0 : ns = []
    · subst hn0
      clear q0
      go_wp2
      go_ret
      exact ⟨by rw [← HR2.out]; rfl, hB⟩
    · have hpos : 0 < ns.length := List.length_pos_iff.2 hn0
      have hr : R = false := by rw [← HR2.out]; simp [hn0]
      subst hr
      clear q0
      go_wp2
      go_ret
      exact ⟨by simp; omega, hB⟩
  by_cases x3 : wh = tMIME
  · subst x3
    by_cases hn0 : ns = []
    · subst hn0
      by_cases hp0 : ps = []
      · subst hp0
        have hr : R = false := by rw [← HR2.out]; simp
        subst hr
        go_wp2
        go_ret
        exact ⟨rfl, hB⟩
      · have hpos : 0 < ps.length := List.length_pos_iff.2 hp0
        have hr : R = true := by rw [← HR2.out]; simp [hp0]
        subst hr
        have hpos' : (0 : Int) < ps.length := by omega
        go_wp2
        go_ret
        exact ⟨by simp, hB⟩
    · have hpos : 0 < ns.length := List.length_pos_iff.2 hn0
      have hr : R = false := by rw [← HR2.out]; simp [hn0]
      subst hr
      have d0 : ((ns.length : Int) == 0) = false := beq_eq_false_iff_ne.2 (by omega)
      go_wp2
      go_ret
      exact ⟨by simp, hB⟩
  by_cases x4 : wh = tFIELDS
  · subst x4
    by_cases hn0 : ns = []
    · subst hn0
      have hr : R = false := by rw [← HR2.out]; simp
      subst hr
      go_wp2
      go_ret
      exact ⟨rfl, hB⟩
    · have hpos : 0 < ns.length := List.length_pos_iff.2 hn0
      have hr : R = !(ns.any fun n => !nameOk n) := by rw [← HR2.out]; simp [hn0]
      have hcs := containsS_any _ ns _ (HNV.out.below hB) (by omega) HN.out
      have HCS := Lib.hid hcs
      obtain ⟨A, hA⟩ : ∃ A, (ns.any fun n => !nameOk n) = A := ⟨_, rfl⟩
      rw [hA] at HCS hr
      have hpos' : (0 : Int) < ns.length := by omega
      clear HR2
      subst hr
      clear hcs hA hn0 hpos
      go_wp2_with fail
      refine HCS.out.mono ?_
      rintro e w2 ⟨rfl, hb2⟩
      go_wp2
      go_ret
      exact ⟨rfl, hB.trans (hb2.mono (by have := hB.size; omega))⟩
  by_cases x5 : wh = tNOT
  · subst x5
    by_cases hn0 : ns = []
    · subst hn0
      have hr : R = false := by rw [← HR2.out]; simp
      subst hr
      go_wp2
      go_ret
      exact ⟨rfl, hB⟩
    · have hpos : 0 < ns.length := List.length_pos_iff.2 hn0
      have hr : R = !(ns.any fun n => !nameOk n) := by rw [← HR2.out]; simp [hn0]
      have hcs := containsS_any _ ns _ (HNV.out.below hB) (by omega) HN.out
      have HCS := Lib.hid hcs
      obtain ⟨A, hA⟩ : ∃ A, (ns.any fun n => !nameOk n) = A := ⟨_, rfl⟩
      rw [hA] at HCS hr
      have hpos' : (0 : Int) < ns.length := by omega
      clear HR2
      subst hr
      clear hcs hA hn0 hpos
      go_wp2_with fail
      refine HCS.out.mono ?_
      rintro e w2 ⟨rfl, hb2⟩
      go_wp2
      go_ret
      exact ⟨rfl, hB.trans (hb2.mono (by have := hB.size; omega))⟩
  · have hr : R = false := by rw [← HR2.out]; simp [x0, x1, x2, x3, x4, x5]
    subst hr
    have y0 : (wh == ([] : List UInt8)) = false := beq_eq_false_iff_ne.2 x0
    have y1 : (wh == ([72, 69, 65, 68, 69, 82] : List UInt8)) = false := beq_eq_false_iff_ne.2 x1
    have y2 : (wh == ([84, 69, 88, 84] : List UInt8)) = false := beq_eq_false_iff_ne.2 x2
    have y3 : (wh == ([77, 73, 77, 69] : List UInt8)) = false := beq_eq_false_iff_ne.2 x3
    have y4 : (wh == ([72, 69, 65, 68, 69, 82, 46, 70, 73, 69, 76, 68, 83] : List UInt8)) = false := beq_eq_false_iff_ne.2 x4
    have y5 : (wh == ([72, 69, 65, 68, 69, 82, 46, 70, 73, 69, 76, 68, 83, 46, 78, 79, 84] : List UInt8)) = false := beq_eq_false_iff_ne.2 x5
    clear x0 x1 x2 x3 x4 x5
    go_wp2
    go_ret
    exact ⟨rfl, hB⟩

end Go.Proofs.YthnkgifbbemhfaaGreatDoor
end
