/- Texts of one walk, merged: XVL XVR XVS XBd XTl XVT XSl XV5 XHq XVp. -/
import Derived.Test.YtifjibgnjjiggaaDoorWc
import Derived.Deep.QuietTactic
import Derived.BigQuiet
import Derived.Test.YtifjibgnjjiggaaDoorShelf
import Derived.Lib.Builder
import Derived.Lib.AppendStr
import Derived.Lib.UnsafeStr
import Derived.Lib.Strings
import Derived.Laws.Externs
import Derived.Deep.DeepFit
import Derived.StillTail
import Derived.Deep.Quiet
import Derived.Outline

/- The document's Quote, Nil. -/
set_option linter.unusedVariables false
set_option linter.unusedSimpArgs false
section
set_option linter.unusedVariables false
set_option linter.unusedSimpArgs false
namespace Go.Proofs.YtifjibgnjjiggaaDoor
open Go.RowKit

theorem escL_snoc (l : List UInt8) (c : UInt8) : escL (l ++ [c]) = escL l ++ (if c = 34 ∨ c = 92 then [92, c] else [c]) := by simp [escL]
theorem printB_lt {c : UInt8} (h : printB c = true) : ¬ ((c.toNat : Int) < 32) ∧ ¬ (126 < (c.toNat : Int)) := by
  unfold printB at h
  simp at h
  omega
theorem printB_not {c : UInt8} (h : printB c = false) : (c.toNat : Int) < 32 ∨ (¬ ((c.toNat : Int) < 32) ∧ 126 < (c.toNat : Int)) := by
  unfold printB at h
  simp at h
  omega

set_option maxRecDepth 100000 in
set_option maxHeartbeats 4000000 in
theorem refQuote_any (s : List UInt8) (w : World) (hl : s.length ≤ 1000000000) :
    Calls Tryd.prog 12 #[.string (bs s)] w fun e w' => e = .returned (.string (bs (qtL s))) ∧ Below w.heap.size w w' := by
  obtain ⟨Q, hQ⟩ : ∃ Q, qtL s = Q := ⟨_, rfl⟩
  rw [hQ]
  have HQ := Lib.hid hQ
  clear hQ
  have hdl := decq_length 10 s.length (by omega) (by omega)
  go_enter Tryd.func12, Tryd.ntmps12
  go_wp2
  go_loopw [3, 4] (fun out i wr => ∃ (k : Nat) (acc : List UInt8), k ≤ s.length ∧ i = .int .i64 k ∧ OwnB wr w.heap.size out acc ∧ Hid (acc = 34 :: escL (s.take k)) ∧ Hid ((s.take k).all printB = true) ∧ acc.length ≤ 2 * k + 1 ∧ Below w.heap.size w wr) (fun _ i _ => s.length - (intOf i).toNat)
  case atStart => exact ⟨0, [34], Nat.zero_le _, rfl, World.ownsRow_lit w #[.int .u8 34] 1 (Nat.le_refl _) (by decide) rfl, rfl, rfl, by simp, (Below.refl _ _).alloc (Nat.le_refl _) _⟩
  case round =>
    obtain ⟨k, acc, hk, rfl, hown, ha, hp, hal, hB⟩ := hrel
    have hzr := hB.size
    by_cases hlt : k < s.length
    · obtain ⟨c, hc⟩ : ∃ c, (bs s)[k]'(by rw [bs_size]; exact hlt) = c := ⟨_, rfl⟩
      have hc' : s[k]? = some c := List.getElem?_eq_some_iff.2 ⟨hlt, hc⟩
      have hlt' : (k : Int) < s.length := by omega
      have ht : s.take (k + 1) = s.take k ++ [c] := by rw [List.take_add_one, hc']; rfl
      have HT := Lib.hid ht
      rcases hpc : printB c with _ | _
      · have hq : Q = 123 :: (Lib.decDigits s.length ++ ([125, 13, 10] ++ s)) := by
          rw [← HQ.out]
          unfold qtL
          rw [if_neg]
          intro h
          have := List.all_eq_true.1 h c (List.mem_of_getElem? hc')
          rw [hpc] at this
          cases this
        subst hq
        clear HQ HT ht hc' ha hp
        rcases printB_not hpc with h1 | ⟨h1, h2⟩
        · clear hpc
          go_wp2_with fail
          refine (refDigits10_any s.length _ (by omega)).mono ?_
          rintro e w1 ⟨rfl, hb1⟩
          go_wp2
          go_ret
          exact ⟨by rw [bs_append, bs_append, bs_append]; simp, hB.trans (hb1.mono hzr)⟩
        · clear hpc
          go_wp2_with fail
          refine (refDigits10_any s.length _ (by omega)).mono ?_
          rintro e w1 ⟨rfl, hb1⟩
          go_wp2
          go_ret
          exact ⟨by rw [bs_append, bs_append, bs_append]; simp, hB.trans (hb1.mono hzr)⟩
      · obtain ⟨q1, q2⟩ := printB_lt hpc
        have hp2 : Hid ((s.take (k + 1)).all printB = true) := by
          show _ = _
          rw [HT.out, List.all_append, hp.out]
          simpa using hpc
        clear ht hc' hpc
        by_cases h34 : c = 34
        · subst h34
          have ha2 : Hid ((acc ++ [92]) ++ [34] = 34 :: escL (s.take (k + 1))) := by
            show _ = _
            rw [HT.out, escL_snoc, ha.out]
            simp
          clear ha HT
          go_wp2_with (first | (at_builtin; refine app_byte _ w.heap.size _ _ 92 _ rfl hown hzr (by omega) rfl _ _ rfl rfl rfl ?_; intro v' w2 own2 ap2; have hz2 := Nat.le_trans hzr ap2.size; have hl2 : (acc ++ [92]).length ≤ 2 * k + 2 := by simp; omega) | (at_builtin; refine app_byte _ w.heap.size _ _ 34 _ rfl own2 hz2 (by omega) rfl _ _ rfl rfl rfl ?_; intro v3 w3 own3 ap3))
          go_roundw
          case rel => exact ⟨k + 1, (acc ++ [92]) ++ [34], by omega, by go_num, own3, ha2, hp2, by simp; omega, ap3.below _ _ (Nat.le_refl _) (ap2.below _ _ (Nat.le_refl _) hB)⟩
          case measure => simp [intOf]; omega
        · obtain ⟨n1, n2⟩ := chr_ne (d := 34) (n := 34) rfl h34
          by_cases h92 : c = 92
          · subst h92
            have ha2 : Hid ((acc ++ [92]) ++ [92] = 34 :: escL (s.take (k + 1))) := by
              show _ = _
              rw [HT.out, escL_snoc, ha.out]
              simp
            clear ha HT h34
            go_wp2_with (first | (at_builtin; refine app_byte _ w.heap.size _ _ 92 _ rfl hown hzr (by omega) rfl _ _ rfl rfl rfl ?_; intro v' w2 own2 ap2; have hz2 := Nat.le_trans hzr ap2.size; have hl2 : (acc ++ [92]).length ≤ 2 * k + 2 := by simp; omega) | (at_builtin; refine app_byte _ w.heap.size _ _ 92 _ rfl own2 hz2 (by omega) rfl _ _ rfl rfl rfl ?_; intro v3 w3 own3 ap3))
            go_roundw
            case rel => exact ⟨k + 1, (acc ++ [92]) ++ [92], by omega, by go_num, own3, ha2, hp2, by simp; omega, ap3.below _ _ (Nat.le_refl _) (ap2.below _ _ (Nat.le_refl _) hB)⟩
            case measure => simp [intOf]; omega
          · obtain ⟨m1, m2⟩ := chr_ne (d := 92) (n := 92) rfl h92
            have ha2 : Hid (acc ++ [c] = 34 :: escL (s.take (k + 1))) := by
              show _ = _
              rw [HT.out, escL_snoc, ha.out, if_neg (by simp [h34, h92])]
              simp
            clear ha HT h34 h92
            go_wp2_with (at_builtin; refine app_byte _ w.heap.size _ _ c _ rfl hown hzr (by omega) rfl _ _ rfl rfl rfl ?_; intro v' w2 own2 ap2)
            go_roundw
            case rel => exact ⟨k + 1, acc ++ [c], by omega, by go_num, own2, ha2, hp2, by simp; omega, ap2.below _ _ (Nat.le_refl _) hB⟩
            case measure => simp [intOf]; omega
    · obtain rfl : k = s.length := by omega
      have hq : Q = acc ++ [34] := by
        have h1 := hp.out
        rw [List.take_length] at h1
        rw [← HQ.out, ha.out, List.take_length]
        unfold qtL
        rw [if_pos h1]
        simp
      subst hq
      clear HQ ha hp
      go_wp2_with (at_builtin; refine app_byte _ w.heap.size _ _ 34 _ rfl hown hzr (by omega) rfl _ _ rfl rfl rfl ?_; intro v' w2 own2 ap2; have hcv := convert_bytes own2.bytes)
      go_ret
      exact ⟨rfl, ap2.below _ _ (Nat.le_refl _) hB⟩

theorem refNil_any (s : List UInt8) (w : World) (hl : s.length ≤ 1000000000) :
    Calls Tryd.prog 17 #[.string (bs s)] w fun e w' => e = .returned (.string (bs (nilOr s))) ∧ Below w.heap.size w w' := by
  cases s with
  | nil =>
    show Calls _ _ _ _ fun e w' => e = .returned (.string (bs [78, 73, 76])) ∧ _
    go_enter Tryd.func17, Tryd.ntmps17
    go_wp2
    go_ret
    exact ⟨rfl, Below.refl _ _⟩
  | cons c r =>
    have e : nilOr (c :: r) = qtL (c :: r) := by simp [nilOr]
    rw [e]
    have HL := Lib.hid hl
    clear hl e
    go_enter Tryd.func17, Tryd.ntmps17
    go_wp2_with fail
    refine (refQuote_any (c :: r) _ HL.out).mono ?_
    rintro e w1 ⟨rfl, hb1⟩
    go_wp2
    go_ret
    exact ⟨rfl, hb1⟩

end Go.Proofs.YtifjibgnjjiggaaDoor
end

/- Addresses that stand somewhere; the document's Same; envelope.orNil. -/
set_option linter.unusedVariables false
set_option linter.unusedSimpArgs false
section
namespace Go.Proofs.YtifjibgnjjiggaaDoor
open Go.RowKit Go

/-- a slice of addresses reads as l -/
def AdrsAt (w : World) (v : Value) (l : List Adr) : Prop :=
  (∃ a c, v = .slice a 0 c ∧ l = []) ∨ ∃ (b o c : Nat), v = .slice (some ⟨b, o, none⟩) l.length c ∧ l ≠ [] ∧ b < w.heap.size ∧ ∀ (k : Nat) (a : Adr), l[k]? = some a →
    w.cell? ⟨b, o + k * 3, none⟩ = some (.string (bs a.name)) ∧ w.cell? ⟨b, o + k * 3 + 1, none⟩ = some (.string (bs a.loc)) ∧ w.cell? ⟨b, o + k * 3 + 2, none⟩ = some (.string (bs a.dom))
theorem AdrsAt.below {w w' : World} {v : Value} {l : List Adr} (h : AdrsAt w v l) (hb : Below w.heap.size w w') : AdrsAt w' v l := by
  rcases h with h | ⟨b, o, c, h1, h2, h3, h4⟩
  · exact .inl h
  · exact .inr ⟨b, o, c, h1, h2, Nat.lt_of_lt_of_le h3 hb.size, fun k a ha => ⟨(hb.cell (p := ⟨b, _, none⟩) h3).trans (h4 k a ha).1, (hb.cell (p := ⟨b, _, none⟩) h3).trans (h4 k a ha).2.1, (hb.cell (p := ⟨b, _, none⟩) h3).trans (h4 k a ha).2.2⟩⟩
theorem OwnA.adrs {w : World} {B : Nat} {v : Value} {l : List Adr} (h : OwnA w B v l) : AdrsAt w v l := by
  rcases h.parts with ⟨rfl, rfl⟩ | ⟨g, cap, rfl, _, hg⟩
  · exact .inl ⟨_, _, rfl, rfl⟩
  · by_cases h0 : l = []
    · subst h0; exact .inl ⟨_, _, rfl, rfl⟩
    · exact .inr ⟨g, 0, cap, rfl, h0, hg, fun k a ha => by rw [Nat.zero_add]; exact h.cells k a ha⟩

set_option maxRecDepth 100000 in
set_option maxHeartbeats 2000000 in
theorem refSame11_yes (va vb : Value) (l : List Adr) (w : World) (ha : AdrsAt w va l) (hb : AdrsAt w vb l) (hl : l.length ≤ 1099511627776) : Calls Tryd.prog 9 #[va, vb] w fun e w' => e = .returned (.bool true) ∧ Below w.heap.size w w' := by
  rcases ha with ⟨a, ca, rfl, rfl⟩ | ⟨b1, o1, ca, rfl, hne, g1, h1⟩
  · obtain ⟨b, cb, rfl⟩ : ∃ a ca, vb = .slice a 0 ca := by
      rcases hb with ⟨a, c, rfl, _⟩ | ⟨_, _, _, _, h, _⟩
      · exact ⟨_, _, rfl⟩
      · exact absurd rfl h
    clear hb
    go_enter Tryd.func9, Tryd.ntmps9
    go_wp2
    go_loopw [5, 13] (fun _ c wr => c = .int .i64 0 ∧ wr = w) (fun _ _ _ => 0)
    case atStart => exact ⟨rfl, rfl⟩
    case round =>
      obtain ⟨rfl, rfl⟩ := hrel
      go_wp2
      go_ret
      exact ⟨rfl, Below.refl _ _⟩
  · obtain ⟨b2, o2, cb, rfl, _, g2, h2⟩ := hb.resolve_left (fun ⟨_, _, _, h⟩ => hne h)
    have H1 := Lib.hid h1
    have H2 := Lib.hid h2
    clear h1 h2 hne hb
    go_enter Tryd.func9, Tryd.ntmps9
    go_wp2
    go_loopw [5, 13] (fun _ c wr => ∃ k : Nat, k ≤ l.length ∧ c = .int .i64 k ∧ Below w.heap.size w wr) (fun _ c _ => l.length - (intOf c).toNat)
    case atStart => exact ⟨0, Nat.zero_le _, rfl, Below.refl _ _⟩
    case round =>
      obtain ⟨k, hk, rfl, hB⟩ := hrel
      by_cases hlt : k < l.length
      · obtain ⟨f, hf⟩ : ∃ f, l[k]? = some f := ⟨_, List.getElem?_eq_getElem hlt⟩
        obtain ⟨a0, a1, a2⟩ := H1.out k f hf
        obtain ⟨b0, b1', b2'⟩ := H2.out k f hf
        have a0 := (hB.cell (p := ⟨b1, o1 + k * 3, none⟩) g1).trans a0
        have a1 := (hB.cell (p := ⟨b1, o1 + k * 3 + 1, none⟩) g1).trans a1
        have a2 := (hB.cell (p := ⟨b1, o1 + k * 3 + 2, none⟩) g1).trans a2
        have b0 := (hB.cell (p := ⟨b2, o2 + k * 3, none⟩) g2).trans b0
        have b1' := (hB.cell (p := ⟨b2, o2 + k * 3 + 1, none⟩) g2).trans b1'
        have b2' := (hB.cell (p := ⟨b2, o2 + k * 3 + 2, none⟩) g2).trans b2'
        have hlt' : (k : Int) < l.length := by omega
        clear hf
        go_wp2
        go_quiet (fail)
        go_wp2
        go_roundw
        case rel => exact ⟨k + 1, by omega, by go_num, below_drewN hB _⟩
        case measure => simp [intOf] <;> omega
      · obtain rfl : k = l.length := by omega
        go_wp2
        go_ret
        exact ⟨rfl, hB⟩

set_option maxRecDepth 100000 in
theorem orNil_any (s : List UInt8) (m : Int) (w : World) (hl : s.length ≤ 1000000000) (hm : w.cell? ⟨1, 0, none⟩ = some (.int .i64 m)) (hT : TabQ w) :
    Calls Tryd.prog 14 #[.string (bs s), .bool true] w fun e w' => e = .returned (.string (bs (qtL s))) ∧ Below w.heap.size w w' := by
  have HL := Lib.hid hl
  have HM := Lib.hid hm
  have HT := Lib.hid hT
  clear hl hm hT
  go_enter Tryd.func14, Tryd.ntmps14
  go_wp2_with fail
  refine (quote_any s m _ HL.out HM.out HT.out).mono ?_
  rintro e w1 ⟨rfl, hb1⟩
  go_wp2
  go_ret
  exact ⟨rfl, hb1⟩
theorem orNil_not (s : List UInt8) (w : World) : Calls Tryd.prog 14 #[.string (bs s), .bool false] w fun e w' => e = .returned (.string (bs nilL)) ∧ Below w.heap.size w w' := by
  go_enter Tryd.func14, Tryd.ntmps14
  go_wp2
  go_ret
  exact ⟨rfl, Below.refl _ _⟩

end Go.Proofs.YtifjibgnjjiggaaDoor
end

/- The document's List: the walk. -/
set_option linter.unusedVariables false
set_option linter.unusedSimpArgs false
section
namespace Go.Proofs.YtifjibgnjjiggaaDoor
open Go.RowKit Go

theorem qtL_len (s : List UInt8) (h : s.length ≤ 1000000000) : (qtL s).length ≤ 2 * s.length + 20 := by
  unfold qtL
  split
  · have := escL_len s
    simp
    omega
  · have := decq_length 10 s.length (by omega) (by omega)
    simp
    omega
theorem nilOr_len (s : List UInt8) (h : s.length ≤ 1000000000) : (nilOr s).length ≤ 2 * s.length + 20 := by
  unfold nilOr
  split
  · simp [nilL]
  · exact qtL_len s h
/-- no text in the addresses is long -/
def ShortA (l : List Adr) : Prop := ∀ a ∈ l, a.name.length ≤ 1000000 ∧ a.loc.length ≤ 1000000 ∧ a.dom.length ≤ 1000000
theorem adrT_len {a : Adr} (h : a.name.length ≤ 1000000 ∧ a.loc.length ≤ 1000000 ∧ a.dom.length ≤ 1000000) : (adrT a).length ≤ 7000000 := by
  have h1 := nilOr_len a.name (by omega)
  have h2 := qtL_len a.loc (by omega)
  have h3 := qtL_len a.dom (by omega)
  unfold adrT
  simp
  omega
theorem adrW_cells {W : World} {g : Nat} {a : Adr} (h : AdrAt W g a) (G : Grow W) : G.v.cell? ⟨g, 0, none⟩ = some (.string (bs a.name)) ∧ G.v.cell? ⟨g, 1, none⟩ = some (.string (bs a.loc)) ∧ G.v.cell? ⟨g, 2, none⟩ = some (.string (bs a.dom)) :=
  ⟨G.cell h.cells.1, G.cell h.cells.2.1, G.cell h.cells.2.2.1⟩

set_option maxRecDepth 100000 in
set_option maxHeartbeats 4000000 in
theorem refList_any (v : Value) (l : List Adr) (w : World) (hv : AdrsAt w v l) (hl : l.length ≤ 10000) (hs : ShortA l) : Calls Tryd.prog 8 #[v] w fun e w' => e = .returned (.string (bs (listT l))) ∧ Below w.heap.size w w' := by
  rcases hv with ⟨a, ca, rfl, rfl⟩ | ⟨b, o, ca, rfl, hne, hg, hc⟩
  · show Calls _ _ _ _ fun e w' => e = .returned (.string (bs nilL)) ∧ _
    go_enter Tryd.func8, Tryd.ntmps8
    go_wp2
    go_ret
    exact ⟨rfl, Below.refl _ _⟩
  · have hlist : listT l = [40] ++ (l.map adrT).flatten ++ [41] := by unfold listT; rw [if_neg hne]
    rw [hlist]
    have HC := Lib.hid hc
    have HS := Lib.hid hs
    have hl0 : ((l.length : Int) == 0) = false := by
      rw [beq_eq_false_iff_ne]
      have := List.length_pos_iff.2 hne
      omega
    clear hc hs hlist hne
    go_enter Tryd.func8, Tryd.ntmps8
    go_wp2
    go_loopw [3, 11] (fun s c wr => ∃ (k : Nat) (L : List UInt8), k ≤ l.length ∧ c = .int .i64 k ∧ s = .string (bs L) ∧ Hid (L = [40] ++ ((l.take k).map adrT).flatten) ∧ L.length ≤ 1 + k * 7000000 ∧ Below w.heap.size w wr) (fun _ c _ => l.length - (intOf c).toNat)
    case atStart => exact ⟨0, [40], Nat.zero_le _, rfl, rfl, rfl, by simp, Below.refl _ _⟩
    case round =>
      obtain ⟨k, L, hk, rfl, rfl, hL, hLl, hB⟩ := hrel
      have hzr := hB.size
      by_cases hlt : k < l.length
      · obtain ⟨f, hf⟩ : ∃ f, l[k]? = some f := ⟨_, List.getElem?_eq_getElem hlt⟩
        obtain ⟨a0, a1, a2⟩ := HC.out k f hf
        have a0 := (hB.cell (p := ⟨b, o + k * 3, none⟩) hg).trans a0
        have a1 := (hB.cell (p := ⟨b, o + k * 3 + 1, none⟩) hg).trans a1
        have a2 := (hB.cell (p := ⟨b, o + k * 3 + 2, none⟩) hg).trans a2
        have hsf := HS.out f (List.mem_of_getElem? hf)
        have hal := adrT_len hsf
        have hL2 : Hid (L ++ adrT f = [40] ++ ((l.take (k + 1)).map adrT).flatten) := by
          show _ = _
          rw [hL.out, List.take_add_one, hf]
          simp
        have hlt' : (k : Int) < l.length := by omega
        obtain ⟨W1, hW1⟩ : ∃ W1, wr.alloc (.cells #[.string (bs f.name), .string (bs f.loc), .string (bs f.dom)] 25) = W1 := ⟨_, rfl⟩
        have hk1 : AdrAt W1 wr.heap.size f := by rw [← hW1]; exact heap_new _ _
        have hB1 : Below w.heap.size w W1 := by rw [← hW1]; exact hB.alloc hzr _
        have HW := Lib.hid hW1
        have hgc := fun G : Grow W1 => adrW_cells hk1 G
        have g0 := fun G : Grow W1 => (hgc G).1
        have g1 := fun G : Grow W1 => (hgc G).2.1
        have g2 := fun G : Grow W1 => (hgc G).2.2
        obtain ⟨s1, s2, s3⟩ := hsf
        have q1 := nilOr_len f.name (by omega)
        have q2 := qtL_len f.loc (by omega)
        have q3 := qtL_len f.dom (by omega)
        clear hf hW1 hk1 hgc hL
        go_wp2
        rw [HW.out]
        refine wp_region_grow (by kernel_rfl) (by kernel_rfl) ?_
        repeat (go_big_quiet_step (first | (go_at_call 17; exact grow_call (refNil_any _ _ (by omega))) | (go_at_call 12; exact grow_call (refQuote_any _ _ (by omega)))))
        refine wpQuiet_nil ?_
        rintro _ ⟨gw, rfl⟩
        go_wp2
        go_roundw
        case rel => exact ⟨k + 1, L ++ adrT f, by omega, by go_num, by unfold adrT; rw [← bs_append, ← bs_append, ← bs_append, ← bs_append, ← bs_append, ← bs_append]; rfl, hL2, by simp; omega, hB1.trans (gw.h.mono hB1.size)⟩
        case measure => simp [intOf] <;> omega
      · obtain rfl : k = l.length := by omega
        have hL3 := hL.out
        rw [List.take_length] at hL3
        have HL3 := Lib.hid hL3
        clear hL hL3
        go_wp2
        go_ret
        exact ⟨by rw [show (40 :: ((l.map adrT).flatten ++ [41])) = L ++ [41] by rw [HL3.out]; simp, ← bs_append]; rfl, hB⟩

end Go.Proofs.YtifjibgnjjiggaaDoor
end

/- strings.Builder: WriteString where copyCheck's panic is refused by the loader: walked at this program. -/
set_option linter.unusedVariables false
set_option linter.unusedSimpArgs false
section
namespace Go.Proofs.YtifjibgnjjiggaaDoor
open Go.RowKit Go

theorem info_bld : (Tryd.prog.info? 36).map (fun i => i.size) = some 2 := by kernel_rfl
theorem info_byt : (Tryd.prog.info? 5).map (fun i => (i.zero, i.size, i.bytes)) = some (some (.int .u8 0), 1, 1) := by kernel_rfl

set_option maxRecDepth 100000 in
set_option maxHeartbeats 1000000 in
theorem check_used (b : Nat) (w : World) (h0 : w.cell? ⟨b, 0, none⟩ = some (.pointer (some ⟨b, 0, none⟩))) :
    Calls Tryd.prog 27 #[.pointer (some ⟨b, 0, none⟩)] w fun e w' => e = .returned (.tuple #[]) ∧ w' = w := by
  obtain ⟨j, hj, hjs⟩ : ∃ j, Tryd.prog.info? 36 = some j ∧ j.size ≠ 0 := by
    obtain ⟨j, hj, hs⟩ := Option.map_eq_some_iff.1 info_bld
    exact ⟨j, hj, by rw [hs]; decide⟩
  have hn := fun w0 => Lib.run_neq_ptr_same (P := Tryd.prog) w0 ⟨b, 0, none⟩ Tryd.underlying33 hj
  go_enter Tryd.func27, Tryd.ntmps27
  go_wp2
  try rw [Lib.run_neq_ptr_same w _ Tryd.underlying33 hj]
  try go_wp2
  go_end0
  exact ⟨rfl, rfl⟩

set_option maxRecDepth 100000 in
set_option maxHeartbeats 1000000 in
theorem check_fresh (b : Nat) (w : World) (h0 : w.cell? ⟨b, 0, none⟩ = some (.pointer none)) (hsh : w.shape? b = some (36, 2)) (hfz : w.frozen? ⟨b, 0, none⟩ = false) :
    Calls Tryd.prog 27 #[.pointer (some ⟨b, 0, none⟩)] w fun e w' => e = .returned (.tuple #[]) ∧ w' = w.setCell ⟨b, 0, none⟩ (.pointer (some ⟨b, 0, none⟩)) := by
  obtain ⟨j, hj, hjs⟩ : ∃ j, Tryd.prog.info? 36 = some j ∧ j.size ≠ 0 := by
    obtain ⟨j, hj, hs⟩ := Option.map_eq_some_iff.1 info_bld
    exact ⟨j, hj, by rw [hs]; decide⟩
  go_enter Tryd.func27, Tryd.ntmps27
  go_wp2
  rw [Lib.run_to_unsafe w ⟨b, 0, none⟩ Tryd.underlying33 Tryd.underlying78 hj hjs hsh (Nat.zero_lt_succ 1)]
  simp only [Result.andThen]
  rw [Oper.upon_value]
  go_wp2
  rw [run_callFunc_extern Tryd.func47 (by kernel_rfl) (by kernel_rfl) (by kernel_rfl) (e := Extern.AbiNoEscape.same) (by kernel_rfl)]
  rw [Lib.run_noEscape]
  simp only [Result.andThen]
  rw [Oper.upon_value]
  go_wp2
  rw [Lib.run_from_unsafe w ⟨b, 0, none⟩ Tryd.underlying78 Tryd.underlying33 hj hsh (by kernel_rfl)]
  simp only [Result.andThen]
  rw [Oper.upon_value]
  go_wp2
  go_end0
  exact ⟨rfl, rfl⟩

theorem check_any (B b : Nat) (l : List Value) (w : World) (h : Lib.IsBuilder 36 5 B b l w) :
    Calls Tryd.prog 27 #[.pointer (some ⟨b, 0, none⟩)] w fun e w' => e = .returned (.tuple #[]) ∧ (Lib.BuilderAt 36 5 B b (.pointer (some ⟨b, 0, none⟩)) l w' ∧ Below B w w' ∧ (∀ k, k ≠ b → w'.heap[k]? = w.heap[k]?)) := by
  rcases h with h | h
  · refine (check_fresh b w h.cell0 h.shape h.frozen0).mono ?_
    rintro e w' ⟨rfl, rfl⟩
    exact ⟨rfl, h.used _, (Below.refl B w).setCell (p := ⟨b, 0, none⟩) h.1 _, fun k hk => Below.heap_setCell _ _ _ _ (by simpa using hk)⟩
  · refine (check_used b w h.cell0).mono ?_
    rintro e w' ⟨rfl, rfl⟩
    exact ⟨rfl, h, Below.refl B _, fun _ _ => rfl⟩

/-- all blocks but b and rows of bytes are as they were -/
def KeptBut (b : Nat) (w w' : World) : Prop := ∀ k o, w.heap[k]? = some o → k ≠ b → (∀ cs fr, o ≠ .cells cs 5 fr) → w'.heap[k]? = some o
/-- the builder at b holds the bytes l -/
def BldAt (w : World) (B b : Nat) (l : List UInt8) : Prop := Lib.IsBuilder 36 5 B b (Lib.byteCells l) w

set_option maxRecDepth 100000 in
set_option maxHeartbeats 2000000 in
theorem write_any (B b : Nat) (l s : List UInt8) (w : World) (h : BldAt w B b l) (hlen : l.length + s.length ≤ 140737488355328) (hBw : B ≤ w.heap.size) :
    Calls Tryd.prog 13 #[.pointer (some ⟨b, 0, none⟩), .string (bs s)] w fun e w' => e = .returned (.tuple #[.int .i64 s.length, .nilIface]) ∧ BldAt w' B b (l ++ s) ∧ Below B w w' ∧ KeptBut b w w' := by
  obtain ⟨i0, hi, hz0, hz1, hz2⟩ := info_parts info_byt
  have hbl : (Lib.byteCells l).length = l.length := by simp [Lib.byteCells]
  go_enter Tryd.func13, Tryd.ntmps13
  go_wp2_with fail
  refine (check_any B b _ _ h).mono ?_
  rintro e w1 ⟨rfl, h1, hb1, hk1⟩
  obtain ⟨hB, v, hbk, hown, hne⟩ := h1
  have c0 : w1.cell? ⟨b, 0, none⟩ = some (.pointer (some ⟨b, 0, none⟩)) := by rw [Lib.cell_of_heap hbk]; rfl
  have c1 : w1.cell? ⟨b, 1, none⟩ = some v := by rw [Lib.cell_of_heap hbk]; rfl
  go_wp2_with (at_builtin; refine Lib.wpList_append_own_string _ rfl _ _ 34 9 rfl B 5 i0 Tryd.underlying34 Tryd.underlying9 hi hz0 hz1 hz2 _ _ _ rfl hown (bs s) rfl ?c3 ?c4 ?c5 ?_)
  case c3 => rw [hbl, bs_size]; unfold maxLen; omega
  case c4 => rw [hbl, bs_size]; omega
  case c5 => have := hb1.size; omega
  intro v' w2 hown' hgrow _
  have hlt : b < w1.heap.size := by
    rcases Nat.lt_or_ge b w1.heap.size with h' | h'
    · exact h'
    · simp [Array.getElem?_eq_none h'] at hbk
  have hb2 : w2.heap[b]? = some (.cells #[.pointer (some ⟨b, 0, none⟩), v] 36 (0, 0)) := by
    rw [hgrow.block b hlt (fun e => hne e.symm)]
    exact hbk
  have d0 : w2.cell? ⟨b, 0, none⟩ = some (.pointer (some ⟨b, 0, none⟩)) := by rw [Lib.cell_of_heap hb2]; rfl
  have d1 : w2.cell? ⟨b, 1, none⟩ = some v := by rw [Lib.cell_of_heap hb2]; rfl
  have f1 : w2.frozen? ⟨b, 1, none⟩ = false := Lib.frozen_of_heap hb2 1
  obtain ⟨ao, n', cap, rfl⟩ : ∃ ao n' cap, v' = .slice ao n' cap := by
    rcases hown'.2 with ⟨hv, _⟩ | ⟨g, cap, cur, hv, _⟩
    · exact ⟨_, _, _, hv⟩
    · exact ⟨_, _, _, hv⟩
  go_wp2
  go_ret2
  refine ⟨rfl, ?_, ?_, ?_⟩
  · have e : Lib.byteCells (l ++ s) = Lib.byteCells l ++ Lib.strCells (bs s) := by simp [Lib.byteCells, Lib.strCells]
    unfold BldAt
    rw [e]
    exact .inr (Lib.BuilderAt.put (T := 36) (e := 5) hB hb2 (bs' := Lib.byteCells l ++ Lib.strCells (bs s)) (by rw [List.length_append, Lib.strCells_length, hbl, bs_size]; exact hown') (by decide))
  · exact (hb1.grown hgrow (by have := hb1.size; omega) (fun k hk => (hown.lt k hk).1)).setCell (p := ⟨b, 1, none⟩) hB _
  · intro k o ho hkb hno
    have hlk : k < w1.heap.size := Nat.lt_of_lt_of_le (Array.getElem?_eq_some_iff.1 ho).1 hb1.size
    have h1 : w1.heap[k]? = some o := (hk1 k hkb).trans ho
    have hv : some k ≠ v.ownBlock := by
      intro e
      rcases hown.2 with ⟨rfl, _⟩ | ⟨g, cap, cur, rfl, _, hg, _⟩
      · cases e
      · obtain rfl : k = g := by simpa [Value.ownBlock] using e
        rw [h1] at hg
        exact hno _ _ (Option.some.inj hg)
    exact (Below.heap_setCell _ _ _ _ (by simpa using hkb)).trans ((hgrow.block k hlk hv).trans h1)

theorem string_any (B b : Nat) (l : List UInt8) (w : World) (h : BldAt w B b l) (hBw : B ≤ w.heap.size) :
    Calls Tryd.prog 16 #[.pointer (some ⟨b, 0, none⟩)] w fun e w' => e = .returned (.string (bs l)) ∧ Below B w w' := Tryd.Builder_String_any B b l w h hBw

theorem BldAt.new (w : World) (B : Nat) (hB : B ≤ w.heap.size) : BldAt (w.alloc (.cells #[.pointer none, .slice none 0 0] 36)) B w.heap.size [] :=
  .inl ⟨hB, _, by show (w.heap.push _)[w.heap.size]? = _; simp, World.ownsRow_nil _ _ _ _, by simp [Value.ownBlock]⟩

end Go.Proofs.YtifjibgnjjiggaaDoor
end

/- A region that draws its order, whose operations but the last ones only read or make memory, and whose last ones come in a forced order: one walk of the text's order serves every order. -/
set_option linter.unusedVariables false
set_option linter.unusedSimpArgs false
section
namespace Go.Proofs.YtifjibgnjjiggaaDoor
open Go.RowKit Go

section
variable {P : Program} {ops : Array Oper} {md : Region.Mode} {C : World → Prop}

def wpHeadQ (P : Program) (md : Region.Mode) (ops : Array Oper) (C : World → Prop) (n : Nat) (L : Array Bool → Act → Prop) : Nat → Array Bool → Act → Prop
  | 0, listed, a => L listed a
  | f + 1, listed, a =>
    Region.ready md ops listed ≠ [] ∧ ∀ i ∈ Region.ready md ops listed, i < n ∧ qOp P ops C i (wpHeadQ P md ops C n L f (listed.setIfInBounds i true)) a

theorem wpAny_of_headQ {n g : Nat} {L : Array Bool → Act → Prop} {Q' : Exit → Act → World → Prop} (hL : ∀ listed a w, C w → L listed a → wpAny P md ops Q' g listed a w) :
    ∀ (f : Nat) (listed : Array Bool) (a : Act) (w : World), C w → wpHeadQ P md ops C n L f listed a → wpAny P md ops Q' (f + g) listed a w
  | 0, listed, a, w, hw, h => by rw [Nat.zero_add]; exact hL _ _ _ hw h
  | f + 1, listed, a, w, hw, h => by
    rw [show f + 1 + g = (f + g) + 1 by omega]
    exact ⟨fun h0 => absurd h0 h.1, fun i hi => wpOp_of_qOp hw (fun a' w' hw' h' => wpAny_of_headQ hL f _ a' w' hw' h') (h.2 i hi).2⟩

theorem wpHeadQ_first {n i : Nat} {oi : Oper} {v : Value} {L : Array Bool → Act → Prop} (hi : ops[i]? = some oi) (hsel : ∀ (j : Nat) (o : Oper) cs b, ops[j]? = some o → o.op ≠ .select cs b)
    (hs : Region.sinkB md ops n = true) (hc : Region.chainB md ops n = true) (hn : n < ops.size) (hin : i < n)
    (hdone : ∀ listed a, L listed a → ∀ j ∈ Region.ready md ops listed, n ≤ j) :
    ∀ (f : Nat) (listed : Array Bool) (a : Act), HeadInv md ops n listed →
      (∀ j oj, ops[j]? = some oj → j ≠ i → listed.getD j true = false → (∀ e ∈ oj.after, Region.binds md e = true → e.on ≠ i) → oi.apart ops oj = true) →
      i ∈ Region.ready md ops listed → YieldsIn P ops C oi v a →
      wpHeadQ P md ops C n L f (listed.setIfInBounds i true) (a.put oi.dst v) → wpHeadQ P md ops C n L (f + 1) listed a := by
  intro f
  induction f with
  | zero =>
    intro listed a inv _ hr hy H
    have hun := (mem_ready.1 hr).1
    refine ⟨fun h => (by rw [h] at hr; cases hr), fun j hj => ?_⟩
    have hjn : j < n := by
      rcases Nat.lt_or_ge j n with h | h
      · exact h
      · exact absurd hj (tail_waits hs hc hn inv _ i rfl hin hun j h)
    refine ⟨hjn, ?_⟩
    by_cases hji : j = i
    · subst hji; exact hy.qOp hi H
    · have := hdone _ _ H j (ready_mono hj hji)
      omega
  | succ f ih =>
    intro listed a inv hfree hr hy H
    have hun := (mem_ready.1 hr).1
    refine ⟨fun h => (by rw [h] at hr; cases hr), fun j hj => ?_⟩
    have hjn : j < n := by
      rcases Nat.lt_or_ge j n with h | h
      · exact h
      · exact absurd hj (tail_waits hs hc hn inv _ i rfl hin hun j h)
    refine ⟨hjn, ?_⟩
    by_cases hji : j = i
    · subst hji; exact hy.qOp hi H
    · have h1 := (H.2 j (ready_mono hj hji)).2
      obtain ⟨hjun, oj, hoj, hall⟩ := mem_ready.1 hj
      have hnot : ∀ e ∈ oj.after, Region.binds md e = true → e.on ≠ i := fun e he hb heq => by
        have h1 := hall e he hb
        rw [heq, getD_both hun] at h1
        cases h1
      have h2 := qOp_put hoj (hfree j oj hoj hji hjun hnot) (fun cs b => hsel i oi cs b hi) (fun cs b => hsel j oj cs b hoj) hy h1
      have hfree' : ∀ k ok, ops[k]? = some ok → k ≠ i → (listed.setIfInBounds j true).getD k true = false →
          (∀ e ∈ ok.after, Region.binds md e = true → e.on ≠ i) → oi.apart ops ok = true := fun k ok hk hki hun hno => by
        refine hfree k ok hk hki ?_ hno
        by_cases hjk : j = k
        · subst hjk; exact hjun
        · rw [getD_set_ne true hjk] at hun; exact hun
      refine qOp_mono (fun a' h3 => ih (listed.setIfInBounds j true) a' (inv.set hj hjn) hfree' (ready_mono hr (Ne.symm hji)) h3.1 ?_) h2
      rw [Array.setIfInBounds_comm _ _ hji]
      exact h3.2

theorem wpHeadQ_lex {n g : Nat} {Lq : Act → Prop} (hsel : Region.noSelect ops = true) (hs : Region.sinkB md ops n = true) (hc : Region.chainB md ops n = true) (hn : n < ops.size) :
    ∀ (l : List Oper) (k : Nat) (listed : Array Bool) (a : Act), (∀ j, j < l.length → l[j]? = ops[k + j]?) → k + l.length = n → HeadInv md ops n listed →
    Region.lexHead md ops g l.length k listed = true → wpQuiet P ops C Lq l a →
    wpHeadQ P md ops C n (fun listed' a' => Region.seqB md ops g n listed' = true ∧ Lq a') l.length listed a
  | [], k, listed, a, _, hk, _, hB, h => by
    have : k = n := by simpa using hk
    subst this
    exact ⟨by simpa [Region.lexHead] using hB, h⟩
  | o :: l, k, listed, a, hl, hk, inv, hB, h => by
    have h0 : ops[k]? = some o := by simpa using (hl 0 (by simp)).symm
    simp only [List.length_cons, Region.lexHead, Bool.and_eq_true] at hB
    obtain ⟨⟨hr, hf⟩, hB'⟩ := hB
    have hkn : k < n := by simp only [List.length_cons] at hk; omega
    have hr' : k ∈ Region.ready md ops listed := by simpa using hr
    have hst : qOp P ops C k (wpQuiet P ops C Lq l) a := by unfold qOp; simp only [h0]; exact h
    obtain ⟨v, hy, hK⟩ := yieldsIn_of_qOp h0 hst
    exact wpHeadQ_first h0 (Region.noSelect_spec hsel) hs hc hn hkn (fun listed' a' hL => seqB_ready hL.1) l.length listed a inv (Region.free_spec h0 hf) hr' hy
      (wpHeadQ_lex hsel hs hc hn l (k + 1) _ _ (fun j hj => by have := hl (j + 1) (by simp; omega); simpa [Nat.add_assoc, Nat.add_comm 1 j] using this) (by simp only [List.length_cons] at hk; omega) (inv.set hr' hkn) hB' hK)

theorem wp_region_quiet_tail {id : Nat} {Q : Exit → Act → World → Prop} {a : Act} {w : World} {l : List Oper} (n : Nat) (hm : P.follows .mixedOrders = true) (hB : Region.lexTailB .any l.toArray n = true)
    (hC : C { w with drawn := w.drawn + 1 })
    (h : wpQuiet P l.toArray C (fun a' => ∀ w', C w' → wpList P l.toArray Q (l.drop n) a' w') (l.take n) a) : (Code.region id l.toArray true).wp P Q a w := by
  simp only [Region.lexTailB, Bool.and_eq_true, decide_eq_true_eq] at hB
  obtain ⟨⟨⟨⟨hsel, hn⟩, hs⟩, hc⟩, hlex⟩ := hB
  have hn' : n < l.length := by simpa using hn
  have htl : (l.take n).length = n := by simp; omega
  have hdl : (l.drop n).length = l.toArray.size - n := by simp
  have inv0 : HeadInv .any l.toArray n (Array.replicate l.toArray.size false) :=
    ⟨by simp, fun j oj _ hl => (by rw [getD_replicate_false] at hl; cases hl), fun t _ ht => getD_in (by simpa using ht) (getD_replicate_false _ _)⟩
  have H := wpHeadQ_lex (md := .any) (g := l.toArray.size - n) hsel hs hc hn (l.take n) 0 _ a (fun j hj => by
    have hj' : j < n := by rw [htl] at hj; exact hj
    simp [hj']) (by simpa using htl) inv0 (by rw [htl]; exact hlex) h
  refine wp_region_any hm ?_
  have := wpAny_of_headQ (Q' := Q) (g := l.toArray.size - n) (fun listed a' w' hw' hL => by
    have := wpAny_of_seq (md := .any) (Q' := Q) (l.drop n) n listed a' w' (fun j => by simp [List.getElem?_drop]) (by rw [hdl]; exact hL.1) (hL.2 w' hw')
    rwa [hdl] at this) _ _ _ _ hC H
  rw [htl, show n + (l.toArray.size - n) = l.toArray.size by omega] at this
  exact this

/-- the class: worlds that have grown beyond w -/
theorem wp_region_grow_tail {id : Nat} {Q : Exit → Act → World → Prop} {a : Act} {w : World} {l : List Oper} (n : Nat) (hm : P.follows .mixedOrders = true) (hB : Region.lexTailB .any l.toArray n = true)
    (h : wpQuiet P l.toArray (fun w' => ∃ g : Grow w, w' = g.v) (fun a' => ∀ w', (∃ g : Grow w, w' = g.v) → wpList P l.toArray Q (l.drop n) a' w') (l.take n) a) : (Code.region id l.toArray true).wp P Q a w :=
  wp_region_quiet_tail (C := fun w' => ∃ g : Grow w, w' = g.v) n hm hB ⟨⟨w.drew, (Below.refl _ _).drew⟩, rfl⟩ h
end

end Go.Proofs.YtifjibgnjjiggaaDoor
end

/- envelope.List: the walk. -/
set_option linter.unusedVariables false
set_option linter.unusedSimpArgs false
section
namespace Go.Proofs.YtifjibgnjjiggaaDoor
open Go.RowKit Go

theorem BldAt.below {w w' : World} {B b : Nat} {l : List UInt8} (h : BldAt w B b l) (hb : Below w.heap.size w w') : BldAt w' B b l := by
  have key : ∀ p, Lib.BuilderAt 36 5 B b p (Lib.byteCells l) w → Lib.BuilderAt 36 5 B b p (Lib.byteCells l) w' := by
    rintro p ⟨h1, v, h2, h3, h4⟩
    refine ⟨h1, v, (hb.block b (Array.getElem?_eq_some_iff.1 h2).1).trans h2, ⟨h3.1, ?_⟩, h4⟩
    rcases h3.2 with h0 | ⟨g, cap, cur, rfl, k1, k2, r⟩
    · exact .inl h0
    · exact .inr ⟨g, cap, cur, rfl, k1, (hb.block g (Array.getElem?_eq_some_iff.1 k2).1).trans k2, r⟩
  rcases h with h | h
  · exact .inl (key _ h)
  · exact .inr (key _ h)

theorem adrT_sum (x y z : List UInt8) : ({ data := #[40] } : ByteArray) ++ bs x ++ { data := #[32, 78, 73, 76, 32] } ++ bs y ++ { data := #[32] } ++ bs z ++ { data := #[41] } = bs ([40] ++ x ++ [32, 78, 73, 76, 32] ++ y ++ [32] ++ z ++ [41]) := by
  simp only [bs_append]

set_option maxRecDepth 100000 in
set_option maxHeartbeats 4000000 in
theorem list_any (v : Value) (l : List Adr) (m : Int) (w : World) (hm : w.cell? ⟨1, 0, none⟩ = some (.int .i64 m)) (hT : TabQ w) (hv : AdrsAt w v l) (hl : l.length ≤ 10000) (hs : ShortA l) : Calls Tryd.prog 7 #[v] w fun e w' => e = .returned (.string (bs (listT l))) ∧ Below w.heap.size w w' := by
  rcases hv with ⟨a, ca, rfl, rfl⟩ | ⟨b, o, ca, rfl, hne, hg, hc⟩
  · show Calls _ _ _ _ fun e w' => e = .returned (.string (bs nilL)) ∧ _
    clear hm hT
    go_enter Tryd.func7, Tryd.ntmps7
    go_wp2
    go_ret
    exact ⟨rfl, Below.refl _ _⟩
  · have hlist : listT l = [40] ++ (l.map adrT).flatten ++ [41] := by unfold listT; rw [if_neg hne]
    rw [hlist]
    have HC := Lib.hid hc
    have HS := Lib.hid hs
    have HM := Lib.hid hm
    have HT := Lib.hid hT
    have hml := cell_lt hm
    have hl0 : ((l.length : Int) == 0) = false := by
      rw [beq_eq_false_iff_ne]
      have := List.length_pos_iff.2 hne
      omega
    clear hc hs hlist hne hm hT
    go_enter Tryd.func7, Tryd.ntmps7
    go_wp2
    obtain ⟨w0, hw0⟩ : ∃ w0, w.alloc (.cells #[.pointer none, .slice none 0 0] 36) = w0 := ⟨_, rfl⟩
    have d0 : BldAt w0 w.heap.size w.heap.size [] := by rw [← hw0]; exact BldAt.new w _ (Nat.le_refl _)
    have b0 : Below w.heap.size w w0 := by rw [← hw0]; exact (Below.refl _ _).alloc (Nat.le_refl _) _
    rw [hw0]
    clear hw0
    obtain ⟨B, hB0⟩ : ∃ B, w.heap.size = B := ⟨_, rfl⟩
    rw [hB0] at d0 b0 ⊢
    go_loopw [5, 11] (fun _ c wr => ∃ (k : Nat) (L : List UInt8), k ≤ l.length ∧ c = .int .i64 k ∧ BldAt wr B B L ∧ Hid (L = ((l.take k).map adrT).flatten) ∧ L.length ≤ k * 7000000 ∧ Below B w wr) (fun _ c _ => l.length - (intOf c).toNat)
    case atStart => exact ⟨0, [], Nat.zero_le _, rfl, d0, rfl, by simp, b0⟩
    case round =>
      clear d0 b0
      obtain ⟨k, L, hk, rfl, hbd, hL, hLl, hB⟩ := hrel
      have hzr := hB.size
      rw [hB0] at hzr
      by_cases hlt : k < l.length
      · obtain ⟨f, hf⟩ : ∃ f, l[k]? = some f := ⟨_, List.getElem?_eq_getElem hlt⟩
        obtain ⟨a0, a1, a2⟩ := HC.out k f hf
        have a0 := (hB.cell (p := ⟨b, o + k * 3, none⟩) (by rw [← hB0]; exact hg)).trans a0
        have a1 := (hB.cell (p := ⟨b, o + k * 3 + 1, none⟩) (by rw [← hB0]; exact hg)).trans a1
        have a2 := (hB.cell (p := ⟨b, o + k * 3 + 2, none⟩) (by rw [← hB0]; exact hg)).trans a2
        have hlt' : (k : Int) < l.length := by omega
        have hsf := HS.out f (List.mem_of_getElem? hf)
        have hal := adrT_len hsf
        have hL2 : Hid (L ++ adrT f = ((l.take (k + 1)).map adrT).flatten) := by
          show _ = _
          rw [hL.out, List.take_add_one, hf]
          simp
        obtain ⟨s1, s2, s3⟩ := hsf
        have q1 := nilOr_len f.name (by omega)
        have q2 := qtL_len f.loc (by omega)
        have q3 := qtL_len f.dom (by omega)
        obtain ⟨W1, hW1⟩ : ∃ W1, wr.alloc (.cells #[.string (bs f.name), .string (bs f.loc), .string (bs f.dom)] 25) = W1 := ⟨_, rfl⟩
        have hk1 : AdrAt W1 wr.heap.size f := by rw [← hW1]; exact heap_new _ _
        have hb1 : Below wr.heap.size wr W1 := by rw [← hW1]; exact (Below.refl _ _).alloc (Nat.le_refl _) _
        have hB1 : Below B w W1 := hB.trans (hb1.mono hzr)
        have hbd1 : BldAt W1 B B L := hbd.below hb1
        have HW := Lib.hid hW1
        have hm1 := (hb1.cell (p := ⟨1, 0, none⟩) (Nat.lt_of_lt_of_le (Nat.lt_of_lt_of_le hml (by rw [hB0]; exact Nat.le_refl _)) hzr)).trans ((hB.cell (p := ⟨1, 0, none⟩) (by rw [← hB0]; exact hml)).trans HM.out)
        have hT1 := TabQ.below (TabQ.below HT.out (by rw [hB0]; exact hB)) hb1
        obtain ⟨g, hg9⟩ : ∃ g, wr.heap.size = g := ⟨_, rfl⟩
        rw [hg9] at hk1
        have hgc := fun G : Grow W1 => adrW_cells hk1 G
        have g0 := fun G : Grow W1 => (hgc G).1
        have g1 := fun G : Grow W1 => (hgc G).2.1
        have g2 := fun G : Grow W1 => (hgc G).2.2
        have HON := Lib.hid (fun G : Grow W1 => orNil_any f.name m G.v (by omega) (G.cell hm1) (TabQ.below hT1 G.h))
        have HQL := Lib.hid (fun G : Grow W1 => quote_any f.loc m G.v (by omega) (G.cell hm1) (TabQ.below hT1 G.h))
        have HQD := Lib.hid (fun G : Grow W1 => quote_any f.dom m G.v (by omega) (G.cell hm1) (TabQ.below hT1 G.h))
        have hz1 := hB1.size
        have hbW : ∀ G : Grow W1, BldAt G.v B B L := fun G => hbd1.below G.h
        have HBW := Lib.hid hbW
        have hBW : ∀ G : Grow W1, Below B w G.v := fun G => hB1.trans (G.h.mono (by rw [← hB0]; exact hz1))
        have HGW := Lib.hid hBW
        have hae : adrT f = [40] ++ nilOr f.name ++ [32, 78, 73, 76, 32] ++ qtL f.loc ++ [32] ++ qtL f.dom ++ [41] := rfl
        clear hf hW1 hk1 hgc hL hm1 hT1 hbd1 hbW hBW hbd hb1 hB1
        obtain ⟨nm, lc, dm⟩ := f
        cases nm with
        | nil =>
          have HN := Lib.hid (fun G : Grow W1 => orNil_not [] G.v)
          have e : nilOr [] = nilL := rfl
          simp only [e] at *
          clear HON
          go_wp2
          rw [HW.out]
          refine wp_region_grow_tail 18 (by kernel_rfl) (by kernel_rfl) ?_
          simp only [List.take_succ_cons, List.take_zero, List.drop_succ_cons, List.drop_zero]
          repeat (go_big_quiet_step (first | (go_at_call 14; exact grow_call (HN.out _)) | (go_at_call 15; first | with_reducible exact grow_call (HQL.out _) | with_reducible exact grow_call (HQD.out _))))
          refine wpQuiet_nil ?_
          rintro _ ⟨gw, rfl⟩
          have HBL := HBW.out gw
          have HBG := HGW.out gw
          have hzg := gw.h.size
          clear HBW HGW HQL HQD HN g0 g1 g2
          go_wp2_with fail
          rw [adrT_sum, ← hae]
          refine (write_any B B L _ _ HBL (by omega) (by omega)).mono ?_
          rintro e w3 ⟨rfl, hbl3, hb3, hkp3⟩
          go_wp2
          go_roundw
          case rel => exact ⟨k + 1, _, by omega, by go_num, hbl3, hL2, by simp; omega, HBG.trans hb3⟩
          case measure => simp [intOf]; omega
        | cons c0 t0 =>
          have e : nilOr (c0 :: t0) = qtL (c0 :: t0) := by simp [nilOr]
          simp only [e] at *
          have hn0 : (c0 :: t0).length ≤ 1000000 := s1
          go_wp2
          rw [HW.out]
          refine wp_region_grow_tail 18 (by kernel_rfl) (by kernel_rfl) ?_
          simp only [List.take_succ_cons, List.take_zero, List.drop_succ_cons, List.drop_zero]
          repeat (go_big_quiet_step (first | (go_at_call 14; exact grow_call (HON.out _)) | (go_at_call 15; first | with_reducible exact grow_call (HQL.out _) | with_reducible exact grow_call (HQD.out _))))
          refine wpQuiet_nil ?_
          rintro _ ⟨gw, rfl⟩
          have HBL := HBW.out gw
          have HBG := HGW.out gw
          have hzg := gw.h.size
          clear HBW HGW HQL HQD HON g0 g1 g2
          go_wp2_with fail
          rw [adrT_sum, ← hae]
          refine (write_any B B L _ _ HBL (by omega) (by omega)).mono ?_
          rintro e w3 ⟨rfl, hbl3, hb3, hkp3⟩
          go_wp2
          go_roundw
          case rel => exact ⟨k + 1, _, by omega, by go_num, hbl3, hL2, by simp; omega, HBG.trans hb3⟩
          case measure => simp [intOf]; omega
      · obtain rfl : k = l.length := by omega
        have hL3 := hL.out
        rw [List.take_length] at hL3
        have HL3 := Lib.hid hL3
        clear hL hL3
        go_wp2_with fail
        refine (string_any B B L _ hbd hzr).mono ?_
        rintro e w2 ⟨rfl, hb2⟩
        go_wp2
        go_ret
        exact ⟨by rw [show (40 :: ((l.map adrT).flatten ++ [41])) = [40] ++ L ++ [41] by rw [HL3.out]; simp, ← bs_append, ← bs_append]; rfl, by rw [hB0]; exact hB.trans hb2⟩

end Go.Proofs.YtifjibgnjjiggaaDoor
end

/- Small letters (plain). -/
set_option linter.unusedVariables false
set_option linter.unusedSimpArgs false
section
namespace Go.Proofs.YtifjibgnjjiggaaDoor

/-- a byte's small letter -/
def lowB (c : UInt8) : UInt8 := if 65 ≤ c.toNat ∧ c.toNat ≤ 90 then c + 32 else c
def lowL (l : List UInt8) : List UInt8 := l.map lowB
theorem lowL_length (l : List UInt8) : (lowL l).length = l.length := by simp [lowL]
theorem lowB_yes {c : UInt8} (h1 : 65 ≤ c.toNat) (h2 : c.toNat ≤ 90) : (lowB c).toNat = c.toNat + 32 := by
  unfold lowB
  rw [if_pos ⟨h1, h2⟩, UInt8.toNat_add]
  simp; omega
theorem lowB_no {c : UInt8} (h : ¬ (65 ≤ c.toNat ∧ c.toNat ≤ 90)) : lowB c = c := by
  unfold lowB; rw [if_neg h]
theorem low_take {l : List UInt8} {k : Nat} (h : k < l.length) {c : UInt8} (hc : l.getD k 0 = c) : (lowL l).take (k + 1) = (lowL l).take k ++ [lowB c] := by
  have e : l[k]? = some c := by rw [← hc]; simp [List.getD, h]
  rw [List.take_add_one]
  congr 1
  simp [lowL, e]

end Go.Proofs.YtifjibgnjjiggaaDoor
end

/- envelope (plain): a message's envelope; a subject stands in its place. -/
set_option linter.unusedVariables false
set_option linter.unusedSimpArgs false
section
namespace Go.Proofs.YtifjibgnjjiggaaDoor
open Go

def nDate : List UInt8 := [68, 97, 116, 101]
def nSubject : List UInt8 := [83, 117, 98, 106, 101, 99, 116]
def nFrom : List UInt8 := [70, 114, 111, 109]
def nSender : List UInt8 := [83, 101, 110, 100, 101, 114]
def nReply : List UInt8 := [82, 101, 112, 108, 121, 45, 84, 111]
def nTo : List UInt8 := [84, 111]
def nCc : List UInt8 := [67, 99]
def nBcc : List UInt8 := [66, 99, 99]
def nInReply : List UInt8 := [73, 110, 45, 82, 101, 112, 108, 121, 45, 84, 111]
def nMsgId : List UInt8 := [77, 101, 115, 115, 97, 103, 101, 45, 73, 68]
/-- g: the first value of a name -/
def valT (g : List UInt8 → Option (List UInt8)) (nm : List UInt8) : List UInt8 := match g nm with
  | none => nilL
  | some v => qtL v
def adrOf (g : List UInt8 → Option (List UInt8)) (nm : List UInt8) : List Adr := adrsL ((g nm).getD [])
def adr1T (g : List UInt8 → Option (List UInt8)) (nm : List UInt8) : List UInt8 := listT (adrOf g nm)
def adr2T (g : List UInt8 → Option (List UInt8)) (a b : List UInt8) : List UInt8 := if (adrOf g a).isEmpty = true then adr1T g b else adr1T g a
/-- a message's envelope -/
def envT (g : List UInt8 → Option (List UInt8)) : List UInt8 :=
  [40] ++ joinSp [valT g nDate, valT g nSubject, adr1T g nFrom, adr2T g nSender nFrom, adr2T g nReply nFrom, adr1T g nTo, adr1T g nCc, adr1T g nBcc, valT g nInReply, valT g nMsgId] ++ [41]
theorem adrs_nil : adrsL [] = [] := rfl
/-- a subject alone -/
theorem env_subject (s : List UInt8) (g : List UInt8 → Option (List UInt8)) (h1 : g nSubject = some s) (h2 : ∀ nm ∈ [nDate, nFrom, nSender, nReply, nTo, nCc, nBcc, nInReply, nMsgId], g nm = none) :
    envT g = [40] ++ nilL ++ [32] ++ qtL s ++ [32] ++ nilL ++ [32] ++ nilL ++ [32] ++ nilL ++ [32] ++ nilL ++ [32] ++ nilL ++ [32] ++ nilL ++ [32] ++ nilL ++ [32] ++ nilL ++ [41] := by
  have a : ∀ nm, g nm = none → valT g nm = nilL ∧ adr1T g nm = nilL ∧ (adrOf g nm).isEmpty = true := by
    intro nm h
    unfold valT adr1T adrOf
    rw [h]
    exact ⟨rfl, rfl, rfl⟩
  have b := fun nm hm => a nm (h2 nm hm)
  have e1 := b nDate (by simp)
  have e2 := b nFrom (by simp)
  have e3 := b nSender (by simp)
  have e4 := b nReply (by simp)
  have e5 := b nTo (by simp)
  have e6 := b nCc (by simp)
  have e7 := b nBcc (by simp)
  have e8 := b nInReply (by simp)
  have e9 := b nMsgId (by simp)
  have es : valT g nSubject = qtL s := by unfold valT; rw [h1]
  unfold envT adr2T
  rw [e3.2.2, e4.2.2, if_pos rfl, if_pos rfl, e1.1, e2.2.1, e5.2.1, e6.2.1, e7.2.1, e8.1, e9.1, es]
  simp [joinSp]

/-- the message of the statement -/
def subjT (s : List UInt8) : List UInt8 := nSubject ++ [58, 32] ++ s ++ [13, 10, 13, 10, 98, 111, 100, 121]
theorem textL_crlf (x : List UInt8) : textL (x ++ [13, 10]) = x := by
  unfold textL Lib.trimSuffix Lib.hasSuffix
  have h1 : ([10] : List UInt8).isSuffixOf (x ++ [13, 10]) = true := by
    rw [List.isSuffixOf_iff_suffix]; exact ⟨x ++ [13], by simp⟩
  rw [if_pos h1, if_pos h1]
  have e : (x ++ [13, 10]).take ((x ++ [13, 10]).length - ([10] : List UInt8).length) = x ++ [13] := by
    rw [show x ++ [13, 10] = (x ++ [13]) ++ [10] by simp, List.length_append, Nat.add_sub_cancel, List.take_left]
  rw [e]
  have h2 : ([13] : List UInt8).isSuffixOf (x ++ [13]) = true := by
    rw [List.isSuffixOf_iff_suffix]; exact ⟨x, rfl⟩
  rw [if_pos h2, List.length_append, Nat.add_sub_cancel, List.take_left]
theorem subj_fields (s : List UInt8) (h10 : (10 : UInt8) ∉ s) (he : edgeB s = true) : ∃ q, fieldsL (subjT s) = [⟨nSubject, s, 0, q⟩] := by
  have el : linesOf (subjT s) = (nSubject ++ [58, 32] ++ s ++ [13, 10]) :: [13, 10] :: linesOf [98, 111, 100, 121] := by
    have e : subjT s = (nSubject ++ [58, 32] ++ s ++ [13]) ++ 10 :: ([13] ++ 10 :: [98, 111, 100, 121]) := by simp [subjT]
    rw [e, linesOf_nl _ _ (by
      intro c hc
      simp only [List.mem_append] at hc
      rcases hc with ((hc | hc) | hc) | hc
      · rintro rfl; exact absurd hc (by decide)
      · rintro rfl; exact absurd hc (by decide)
      · rintro rfl; exact h10 hc
      · rintro rfl; exact absurd hc (by decide)), linesOf_nl [13] _ (by decide)]
    simp
  have ht : textL (nSubject ++ [58, 32] ++ s ++ [13, 10]) = nSubject ++ [58, 32] ++ s := textL_crlf _
  have h2 : textL [13, 10] = [] := by decide +kernel
  have hn : nameL (nSubject ++ [58, 32] ++ s) = some (nSubject, 32 :: s) := by
    have hc : cutC (nSubject ++ [58, 32] ++ s) = some (nSubject, 32 :: s) := rfl
    unfold nameL
    rw [hc]
    exact if_pos ⟨by decide, by decide⟩
  have hg : goesB (nSubject ++ [58, 32] ++ s) = false := rfl
  have hturn : ∀ q, turnL [] false 0 q (nSubject ++ [58, 32] ++ s) = ([⟨nSubject, 32 :: s, 0, q⟩], true, true) := by
    intro q
    unfold turnL
    rw [if_neg (by simp [nSubject]), if_neg (by rw [hg]; simp), hn]
    rfl
  refine ⟨0 + (nSubject ++ [58, 32] ++ s ++ [13, 10]).length, ?_⟩
  unfold fieldsL
  rw [el, goL, ht, hturn, if_pos rfl, goL, h2]
  have htr : trimB (32 :: s) = s := by
    have := trim_edge (x := s) (a := [32]) (b := []) he (by simp) (by simp)
    simpa using this
  simp [turnL, trimF, htr]

end Go.Proofs.YtifjibgnjjiggaaDoor
end

/- How long names and values are (plain). -/
set_option linter.unusedVariables false
set_option linter.unusedSimpArgs false
section
namespace Go.Proofs.YtifjibgnjjiggaaDoor

theorem trimSuffix_short (a b : List UInt8) : (Lib.trimSuffix a b).length ≤ a.length := by
  unfold Lib.trimSuffix
  split
  · rw [List.length_take]; omega
  · exact Nat.le_refl _
theorem textL_short (l : List UInt8) : (textL l).length ≤ l.length := by
  unfold textL
  split
  · exact Nat.le_trans (trimSuffix_short _ _) (trimSuffix_short _ _)
  · exact Nat.le_refl _
theorem cutC_short : ∀ (l a b : List UInt8), cutC l = some (a, b) → a.length ≤ l.length ∧ b.length ≤ l.length
  | [], a, b, h => by cases h
  | c :: r, a, b, h => by
    unfold cutC at h
    split at h
    · cases h; simp
    · cases hr : cutC r with
      | none => rw [hr] at h; cases h
      | some q =>
        obtain ⟨x, y⟩ := q
        rw [hr] at h
        cases h
        have := cutC_short r _ _ hr
        simp; omega
theorem nameL_short {t n v : List UInt8} (h : nameL t = some (n, v)) : n.length ≤ t.length ∧ v.length ≤ t.length := by
  unfold nameL at h
  cases hc : cutC t with
  | none => rw [hc] at h; cases h
  | some q =>
    obtain ⟨x, y⟩ := q
    rw [hc] at h
    simp only at h
    split at h
    · cases h
      exact cutC_short t _ _ hc
    · cases h
def ShortF (n : Nat) (fs : List Fld) : Prop := ∀ f ∈ fs, f.name.length ≤ n ∧ f.value.length ≤ n
theorem ShortF.up {n k : Nat} {fs : List Fld} (h : ShortF n fs) (hk : n ≤ k) : ShortF k fs := fun f hf => ⟨Nat.le_trans (h f hf).1 hk, Nat.le_trans (h f hf).2 hk⟩
theorem turnL_short (fs : List Fld) (op : Bool) (p q : Nat) (l : List UInt8) (h : ShortF p fs) (hq : q = p + l.length) : ShortF q (turnL fs op p q (textL l)).1 := by
  have ht := textL_short l
  have hup : ShortF q fs := h.up (by omega)
  unfold turnL
  split
  · exact hup
  · split
    · split
      · rename_i f hl
        intro x hx
        rcases List.mem_append.1 hx with hx | hx
        · exact hup x (List.dropLast_subset _ hx)
        · obtain rfl : x = _ := by simpa using hx
          have hf := h f (List.mem_of_getLast? hl)
          refine ⟨by simp only; omega, ?_⟩
          simp only [List.length_append]
          omega
      · exact hup
    · split
      · rename_i n v hn
        have hs := nameL_short hn
        intro x hx
        rcases List.mem_append.1 hx with hx | hx
        · exact hup x hx
        · obtain rfl : x = _ := by simpa using hx
          exact ⟨by simp only; omega, by simp only; omega⟩
      · exact hup
theorem goL_short : ∀ (ls : List (List UInt8)) (fs : List Fld) (op : Bool) (p : Nat), ShortF p fs → ShortF (p + ls.flatten.length) (goL fs op p ls).1
  | [], fs, op, p, h => by simpa [goL] using h
  | l :: ls, fs, op, p, h => by
    have ht := turnL_short fs op p (p + l.length) l h rfl
    rw [goL]
    simp only [List.flatten_cons, List.length_append]
    split
    · have := goL_short ls _ (turnL fs op p (p + l.length) (textL l)).2.1 _ ht
      exact this.up (by omega)
    · exact ht.up (by omega)
theorem dropW_short {α : Type} (p : α → Bool) (l : List α) : (l.dropWhile p).length ≤ l.length := (List.dropWhile_sublist p).length_le
theorem trimB_short (l : List UInt8) : (trimB l).length ≤ l.length := by
  unfold trimB Lib.trimS Lib.trimRightS Lib.trimLeftS
  refine Nat.le_trans (dropW_short _ _) ?_
  rw [List.length_reverse]
  refine Nat.le_trans (dropW_short _ _) ?_
  rw [List.length_reverse]
  exact Nat.le_refl _
/-- names and values are no longer than the message -/
theorem fields_short (m : List UInt8) : ShortF m.length (fieldsL m) := by
  have h := goL_short (linesOf m) [] false 0 (fun f hf => by cases hf)
  rw [linesOf_flatten, Nat.zero_add] at h
  intro f hf
  unfold fieldsL at hf
  obtain ⟨g, hg, rfl⟩ := List.mem_map.1 hf
  have := h g hg
  have ht := trimB_short g.value
  exact ⟨this.1, by show (trimB g.value).length ≤ _; omega⟩
/-- a header's fields; too many: none -/
def flds200 (t : List UInt8) : List Fld := if 200 < (fieldsL t).length then [] else fieldsL t
theorem flds200_short (m : List UInt8) : ShortF m.length (flds200 m) := by
  unfold flds200
  split
  · intro f hf; cases hf
  · exact fields_short m
theorem flds200_few (m : List UInt8) : (flds200 m).length ≤ 200 := by
  unfold flds200
  split
  · simp
  · omega

end Go.Proofs.YtifjibgnjjiggaaDoor
end

/- How long addresses are (plain); the first value of a name. -/
set_option linter.unusedVariables false
set_option linter.unusedSimpArgs false
section
namespace Go.Proofs.YtifjibgnjjiggaaDoor
open Go

theorem meantGo_short : ∀ (n acc r : List UInt8), meantGo acc n = some r → r.length ≤ acc.length + n.length
  | [], acc, r, h => by cases h
  | [c], acc, r, h => by
    unfold meantGo at h
    split at h
    · cases h; omega
    · cases h
  | c :: d :: t, acc, r, h => by
    unfold meantGo at h
    split at h
    · cases h
    · split at h
      · have := meantGo_short t _ r h
        simp at this ⊢; omega
      · have := meantGo_short (d :: t) _ r h
        simp at this ⊢; omega
theorem meantL_short (n : List UInt8) : (meantL n).length ≤ n.length := by
  unfold meantL
  split
  · rename_i c d r
    split
    · cases h : meantGo [] (d :: r) with
      | none => simp
      | some x =>
        have := meantGo_short _ _ _ h
        simp at this ⊢; omega
    · exact Nat.le_refl _
  · exact Nat.le_refl _
def ShortN (n : Nat) (a : Adr) : Prop := a.name.length ≤ n ∧ a.loc.length ≤ n ∧ a.dom.length ≤ n
theorem mailL2_short {n : Nat} (nm p : List UInt8) (h1 : nm.length ≤ n) (h2 : p.length ≤ n) : ShortN n (mailL2 nm p) := by
  unfold mailL2
  split
  · rename_i a b h
    have := congrArg List.length (cutAt_some h).1
    simp at this
    exact ⟨h1, by show a.length ≤ n; omega, by show b.length ≤ n; omega⟩
  · exact ⟨h1, h2, by simp⟩
theorem adrL_short (p : List UInt8) : ShortN p.length (adrL p) := by
  unfold adrL
  split
  · rename_i i h
    refine mailL2_short _ _ ?_ ?_
    · have h1 := meantL_short (trimB (p.take i))
      have h2 := trimB_short (p.take i)
      rw [List.length_take] at h2
      omega
    · have h1 : (upTo62 (p.drop (i + 1))).length ≤ (p.drop (i + 1)).length := by
        unfold upTo62
        exact (List.takeWhile_sublist _).length_le
      rw [List.length_drop] at h1
      omega
  · exact mailL2_short _ _ (by simp) (Nat.le_refl _)
theorem adrsL_short (v : List UInt8) : ∀ a ∈ adrsL v, ShortN v.length a := by
  intro a ha
  unfold adrsL at ha
  obtain ⟨p, hp, rfl⟩ := List.mem_map.1 ha
  have hp := List.mem_of_mem_take hp
  have hp := (List.mem_filter.1 hp).1
  obtain ⟨q, hq, rfl⟩ := List.mem_map.1 hp
  have h1 := (piecesS_len v st0 []).2 q hq
  have h2 := trimB_short q
  have h3 := adrL_short (trimB q)
  simp at h1
  exact ⟨by have := h3.1; omega, by have := h3.2.1; omega, by have := h3.2.2; omega⟩
theorem adrsL_few (v : List UInt8) : (adrsL v).length ≤ 50 := by
  unfold adrsL
  simp
  omega

/-- the first list of addresses among these names -/
def addrsGo (g : List UInt8 → Option (List UInt8)) : List (List UInt8) → List UInt8
  | [] => nilL
  | nm :: r => if (adrOf g nm).isEmpty = true then addrsGo g r else listT (adrOf g nm)
theorem addrsGo_one (g : List UInt8 → Option (List UInt8)) (nm : List UInt8) : addrsGo g [nm] = adr1T g nm := by
  unfold addrsGo addrsGo adr1T
  cases h : adrOf g nm with
  | nil => rfl
  | cons a r => rfl
theorem addrsGo_two (g : List UInt8 → Option (List UInt8)) (a b : List UInt8) : addrsGo g [a, b] = adr2T g a b := by
  unfold addrsGo adr2T
  rw [addrsGo_one]
  cases h : adrOf g a with
  | nil => rfl
  | cons x r => simp [adr1T, h]

end Go.Proofs.YtifjibgnjjiggaaDoor
end
