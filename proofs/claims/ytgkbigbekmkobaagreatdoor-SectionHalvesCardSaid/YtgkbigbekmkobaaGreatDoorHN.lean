/- header.Only, header.Count. -/
import Derived.Test.YtgkbigbekmkobaaGreatDoorHL
set_option linter.unusedVariables false
set_option linter.unusedSimpArgs false
namespace Go.Proofs.YtgkbigbekmkobaaGreatDoor
open Go.RowKit Go

theorem refL_names : ∀ (n : Nat) (ls : List (List UInt8)) (p : Nat), ls.length ≤ n → ∀ f ∈ (refL p ls).1, f.name.length ≤ ls.flatten.length
  | n, [], p, _ => by simp [refL]
  | 0, l :: ls, p, h => by simp at h
  | n + 1, l :: ls, p, h => by
    rw [refL_cons]
    by_cases ht : textL l = []
    · rw [if_pos ht]; simp
    · rw [if_neg ht]
      have hc := contL_bd ls (p + l.length)
      have hcl := contL_len (p + l.length) ls
      have i1 := refL_names n (contL (p + l.length) ls).2.2 (contL (p + l.length) ls).2.1 (by simp at h; omega)
      have hall : ∀ f ∈ (refL (contL (p + l.length) ls).2.1 (contL (p + l.length) ls).2.2).1, f.name.length ≤ (l :: ls).flatten.length := by
        intro f hf
        have := i1 f hf
        simp only [List.flatten_cons, List.length_append]
        omega
      cases hn : nameL (textL l) with
      | none => exact hall
      | some q =>
        obtain ⟨nm, v⟩ := q
        simp only
        split
        · exact hall
        · intro f hf
          rcases List.mem_cons.1 hf with rfl | hf
          · have h1 := nameL_len hn
            have h2 := textL_len l
            simp only [List.flatten_cons, List.length_append]
            omega
          · exact hall f hf
theorem fields_names (m : List UInt8) : ∀ f ∈ fieldsL m, f.name.length ≤ m.length := by
  have h1 := refL_names _ (linesOf m) 0 (Nat.le_refl _)
  rw [(fields_ref m).1]
  rw [linesOf_flatten] at h1
  exact h1

theorem BldAt.below {w w' : World} {B b : Nat} {l : List UInt8} (h : BldAt w B b l) (hb : Below w.heap.size w w') : BldAt w' B b l := by
  have key : ∀ p, Lib.BuilderAt 70 5 B b p (Lib.byteCells l) w → Lib.BuilderAt 70 5 B b p (Lib.byteCells l) w' := by
    rintro p ⟨h1, v, h2, h3, h4⟩
    refine ⟨h1, v, (hb.block b (Array.getElem?_eq_some_iff.1 h2).1).trans h2, ⟨h3.1, ?_⟩, h4⟩
    rcases h3.2 with h0 | ⟨g, cap, cur, rfl, k1, k2, r⟩
    · exact .inl h0
    · exact .inr ⟨g, cap, cur, rfl, k1, (hb.block g (Array.getElem?_eq_some_iff.1 k2).1).trans k2, r⟩
  rcases h with h | h
  · exact .inl (key _ h)
  · exact .inr (key _ h)
theorem OwnF.kept {w w' : World} {B b : Nat} {v : Value} {fs : List Fld} (h : OwnF w B v fs) (hk : KeptBut b w w') (hb : b < B) : OwnF w' B v fs := by
  refine ⟨h.1, ?_⟩
  rcases h.2 with h0 | ⟨g, cap, cur, rfl, h1, h2, r⟩
  · exact .inl h0
  · exact .inr ⟨g, cap, cur, rfl, h1, hk g _ h2 (by omega) (by intro cs fr e; simp at e), r⟩
theorem onlyL_take (m : List UInt8) (names : List (List UInt8)) (no : Bool) {fs : List Fld} {k : Nat} {f : Fld} (hf : fs[k]? = some f) : onlyL m names no (fs.take (k + 1)) = onlyL m names no (fs.take k) ++ pieceL m names no f := by
  obtain ⟨hlt, rfl⟩ := List.getElem?_eq_some_iff.1 hf
  unfold onlyL
  rw [List.take_add_one, List.getElem?_eq_getElem hlt, List.flatMap_append]
  simp
theorem onlyL_len (m : List UInt8) (names : List (List UInt8)) (no : Bool) (fs : List Fld) : (onlyL m names no fs).length ≤ fs.length * m.length := by
  induction fs with
  | nil => simp [onlyL]
  | cons f fs ih =>
    have := pieceL_len m names no f
    simp only [onlyL, List.flatMap_cons, List.length_append, List.length_cons, Nat.succ_mul] at ih ⊢
    omega

set_option maxRecDepth 100000 in
set_option maxHeartbeats 4000000 in
theorem only_any (m : List UInt8) (v : Value) (ls : List (List UInt8)) (no : Bool) (w : World) (hv : ArgS w v ls) (hm : m.length ≤ 10000) (hl : ls.length ≤ 100) (hn : ∀ n ∈ ls, n.length ≤ 1000) :
    Calls Tryz.prog 24 #[.string (bs m), v, .bool no] w fun e w' => e = .returned (.string (bs (onlyL m ls no (fieldsL m) ++ [13, 10]))) ∧ Below w.heap.size w w' := by
  obtain ⟨fb1, fb2⟩ := fields_bd m
  have fb3 := fields_names m
  have hread := fun w0 => read_any m w0 (by omega)
  obtain ⟨fs, hfs⟩ : ∃ fs, fieldsL m = fs := ⟨_, rfl⟩
  rw [hfs] at fb1 fb2 fb3 hread ⊢
  obtain ⟨q, hq⟩ : ∃ q, bodyL m = q := ⟨_, rfl⟩
  rw [hq] at hread
  have HREAD := Lib.hid hread
  have HV := Lib.hid hv
  have HN := Lib.hid hn
  have FB1 := Lib.hid fb1
  have FB3 := Lib.hid fb3
  obtain ⟨an, capn, rfl, _⟩ := hv.form
  clear hread hfs hq hv hn fb1 fb3
  have hb0 := BldAt.new w w.heap.size (Nat.le_refl _)
  have hB0 : Below w.heap.size w (w.alloc (.cells #[.pointer none, .slice none 0 0] 70)) := (Below.refl _ w).alloc (Nat.le_refl _) _
  go_enter Tryz.func24, Tryz.ntmps24
  go_wp2_with fail
  refine (HREAD.out _).mono ?_
  rintro e w1 ⟨v1, op, rfl, hk1, ho1, hB1⟩
  rw [size_alloc] at hk1 ho1
  have hbl1 := hb0.below hB1
  have hBB1 : Below w.heap.size w w1 := hB0.trans (hB1.mono (by simp))
  obtain ⟨c0, c1, c2, f0, f1, f2⟩ := hk1.cells
  obtain ⟨a1, n1, cap1, rfl, hn1⟩ := OwnF.form ho1
  obtain rfl : n1 = fs.length := hn1.out
  clear hk1 c1 c2 f0 f1 f2 hb0 hB0 hB1
  have hrow : ∀ (k : Nat) (f : Fld), fs[k]? = some f → a1 = some ⟨(a1.getD ⟨0, 0, none⟩).block, 0, none⟩ := by
    intro k f hf
    rcases ho1.parts with ⟨h, h0⟩ | ⟨g, cap, h, _, _⟩
    · rw [h0] at hf; simp at hf
    · obtain ⟨rfl, rfl⟩ : a1 = some ⟨g, 0, none⟩ ∧ cap1 = cap := by simpa using h
      rfl
  go_wp2_with fail
  go_loopw [17] (fun c wr => ∃ k : Nat, k ≤ fs.length ∧ c = .int .i64 k ∧ BldAt wr w.heap.size w.heap.size (onlyL m ls no (fs.take k)) ∧ OwnF wr (w.heap.size + 1) (.slice a1 fs.length cap1) fs ∧ Below w.heap.size w wr ∧ w.heap.size < wr.heap.size) (fun c _ => fs.length - (intOf c).toNat)
  case atStart => exact ⟨0, Nat.zero_le _, rfl, hbl1, ho1, hBB1, by have := hbl1; rcases this with h | h <;> exact h.lt⟩
  case round =>
    obtain ⟨k, hk, rfl, hbl, ho, hB, hsz⟩ := hrel
    have hzr := hB.size
    have hol := onlyL_len m ls no (fs.take k)
    rw [List.length_take, Nat.min_eq_left hk] at hol
    have hol2 : (onlyL m ls no (fs.take k)).length ≤ 100000000 := by
      have : k * m.length ≤ 10000 * 10000 := Nat.mul_le_mul (by omega) hm
      omega
    by_cases hlt : k < fs.length
    · obtain ⟨f, hfk⟩ : ∃ f, fs[k]? = some f := ⟨_, List.getElem?_eq_getElem hlt⟩
      have ha1 := hrow k f hfk
      obtain ⟨g, hg⟩ : ∃ g, (a1.getD ⟨0, 0, none⟩).block = g := ⟨_, rfl⟩
      rw [hg] at ha1
      subst ha1
      have e0 : _ = some (Value.string (bs f.name)) := ho.cell k 0 f hfk (by decide)
      have e1 : _ = some (Value.string (bs f.value)) := ho.cell k 1 f hfk (by decide)
      have e2 : _ = some (Value.int .i64 f.pos) := ho.cell k 2 f hfk (by decide)
      have e3 : _ = some (Value.int .i64 f.fin) := ho.cell k 3 f hfk (by decide)
      rw [Nat.add_zero] at e0
      have hmem := List.mem_of_getElem? hfk
      obtain ⟨p1, p2⟩ := FB1.out f hmem
      have p3 := FB3.out f hmem
      have hsl := fun w0 => run_mid m f.pos f.fin p1 p2 w0
      have hnext := onlyL_take m ls no hfk
      have HNX := Lib.hid hnext
      obtain ⟨X, hX⟩ : ∃ X, (m.drop f.pos).take (f.fin - f.pos) = X := ⟨_, rfl⟩
      have hXl : X.length ≤ 10000 := by rw [← hX, List.length_take, List.length_drop]; omega
      rw [hX] at hsl
      have HX := Lib.hid hX
      obtain ⟨W1, hW1⟩ : ∃ W1, wr.alloc (.cells #[.string (bs f.name), .string (bs f.value), .int .i64 f.pos, .int .i64 f.fin] 72) = W1 := ⟨_, rfl⟩
      have hk1 : W1.heap[wr.heap.size]? = some (.cells #[.string (bs f.name), .string (bs f.value), .int .i64 f.pos, .int .i64 f.fin] 72 (0, 0)) := by rw [← hW1]; exact heap_new _ _
      have hBr : Below wr.heap.size wr W1 := by rw [← hW1]; exact (Below.refl _ _).alloc (Nat.le_refl _) _
      have hlt1 : wr.heap.size < W1.heap.size := by rw [← hW1]; simp
      have hB1 : Below w.heap.size w W1 := hB.trans (hBr.mono hzr)
      have HW := Lib.hid hW1
      have q0 : W1.cell? ⟨wr.heap.size, 0, none⟩ = some (.string (bs f.name)) := row_cell hk1 rfl
      have hcon := contains_any _ ls f.name wr.heap.size W1 (HV.out.below hB1) hl HN.out (by omega) q0
      obtain ⟨A, hA⟩ : ∃ A, amongL ls f.name = A := ⟨_, rfl⟩
      rw [hA] at hcon
      have HA := Lib.hid hA
      have HC := Lib.hid hcon
      have hlt' : (k : Int) < fs.length := by omega
      clear hfk hX hA hcon hW1 hnext hrow hol hmem q0 hg
      go_wp2_with fail
      rw [HW.out]
      refine HC.out.mono ?_
      rintro e w2 ⟨rfl, hb2⟩
      have hB2 := hB1.trans (hb2.mono hB1.size)
      have hz1 := hBr.size
      have hk2 := (hb2.block wr.heap.size hlt1).trans hk1
      have d2 : w2.cell? ⟨wr.heap.size, 2, none⟩ = some (.int .i64 f.pos) := row_cell hk2 rfl
      have d3 : w2.cell? ⟨wr.heap.size, 3, none⟩ = some (.int .i64 f.fin) := row_cell hk2 rfl
      have hbl2 := (hbl.below hBr).below hb2
      have ho2 := (ho.below hBr).below hb2
      have hs2 : w.heap.size < w2.heap.size := by have := hb2.size; omega
      have HNX2 := HNX.out
      unfold pieceL at HNX2
      rw [HA.out, HX.out] at HNX2
      have HNX3 := Lib.hid HNX2
      clear hk1 hk2 HC HNX HNX2 hbl ho e0 e1 e2 e3
      rcases A with _ | _ <;> rcases no with _ | _
      all_goals
        have hnx := HNX3.out
        simp only [bne_self_eq_false, Bool.false_eq_true, if_false, List.append_nil, bne_iff_ne, ne_eq, Bool.true_eq_false, not_true_eq_false, not_false_eq_true, if_true, reduceIte] at hnx
        replace HNX3 := Lib.hid hnx
        clear hnx
      · go_wp2
        go_roundw
        case rel => exact ⟨k + 1, by omega, by go_num, by rw [HNX3.out]; exact hbl2, ho2, hB2, hs2⟩
        case measure => simp [intOf]; omega
      · go_wp2_with fail
        refine (write_any w.heap.size w.heap.size _ X _ hbl2 (by omega) hB2.size).mono ?_
        rintro e w3 ⟨rfl, hbl3, hb3, hkp3⟩
        have hs3 : w.heap.size < w3.heap.size := by have := hb3.size; omega
        go_wp2
        go_roundw
        case rel => exact ⟨k + 1, by omega, by go_num, by rw [HNX3.out]; exact hbl3, ho2.kept hkp3 (by omega), hB2.trans hb3, hs3⟩
        case measure => simp [intOf]; omega
      · go_wp2_with fail
        refine (write_any w.heap.size w.heap.size _ X _ hbl2 (by omega) hB2.size).mono ?_
        rintro e w3 ⟨rfl, hbl3, hb3, hkp3⟩
        have hs3 : w.heap.size < w3.heap.size := by have := hb3.size; omega
        go_wp2
        go_roundw
        case rel => exact ⟨k + 1, by omega, by go_num, by rw [HNX3.out]; exact hbl3, ho2.kept hkp3 (by omega), hB2.trans hb3, hs3⟩
        case measure => simp [intOf]; omega
      · go_wp2
        go_roundw
        case rel => exact ⟨k + 1, by omega, by go_num, by rw [HNX3.out]; exact hbl2, ho2, hB2, hs2⟩
        case measure => simp [intOf]; omega
    · obtain rfl : k = fs.length := by omega
      rw [List.take_length] at hbl hol2
      obtain ⟨out, hout⟩ : ∃ out, onlyL m ls no fs = out := ⟨_, rfl⟩
      rw [hout] at hbl hol2
      have HOUT := Lib.hid hout
      clear hrow hol hout
      go_wp2_with fail
      refine (string_any w.heap.size w.heap.size out _ hbl hzr).mono ?_
      rintro e w2 ⟨rfl, hb2⟩
      go_wp2
      go_ret
      exact ⟨by rw [HOUT.out, ← bs_append]; rfl, hB.trans hb2⟩

set_option maxRecDepth 100000 in
theorem count_any (m : List UInt8) (w : World) (hm : m.length ≤ 1099511627776) : Calls Tryz.prog 42 #[.string (bs m)] w fun e w' => e = .returned (.int .i64 (linesOf m).length) ∧ Below w.heap.size w w' := by
  have hs := split_any m w hm
  have hll := linesOf_length m
  obtain ⟨L, hL⟩ : ∃ L, linesOf m = L := ⟨_, rfl⟩
  rw [hL] at hs hll ⊢
  have HS := Lib.hid hs
  clear hs hL
  go_enter Tryz.func42, Tryz.ntmps42
  go_wp2_with fail
  refine HS.out.mono ?_
  rintro e w1 ⟨v, rfl, ho, hb1⟩
  obtain ⟨a, n, cap, rfl, hn⟩ := OwnS.form ho
  obtain rfl : n = L.length := hn.out
  go_wp2
  go_ret
  exact ⟨rfl, hb1⟩

end Go.Proofs.YtgkbigbekmkobaaGreatDoor
