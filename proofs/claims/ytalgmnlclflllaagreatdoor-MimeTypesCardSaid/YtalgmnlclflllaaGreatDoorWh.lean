/- Texts of one walk, merged: XIv XGq XGr XI5 XJs XVH XVI XTl. -/
import Derived.Test.YtalgmnlclflllaaGreatDoorWg
import Derived.Lib.ItoaNum
import Derived.Lib.Join
import Derived.Lib.Replace
import Derived.Lib.DecodeNEq
import Derived.Shelf.GgClosure.StringsIndexFunc
import Derived.Test.YtalgmnlclflllaaGreatDoorShelf
import Derived.Deep.DeepFit
import Derived.Lib.LaidTab
import Derived.Lib.AppendIntMem
import Derived.WalkSmall
import Derived.StillTail
import Derived.Deep.Quiet

/- mime: the reading of a part: the walk, over what a multipart's reading does. -/
set_option linter.unusedVariables false
set_option linter.unusedSimpArgs false
section
set_option linter.unusedVariables false
set_option linter.unusedSimpArgs false
namespace Go.Proofs.YtalgmnlclflllaaGreatDoor
open Go.RowKit Go

/-- the part's own block, as the reading returns it -/
theorem part_end {w w' : World} {c : Nat} {typ sub id desc enc : List UInt8} {pv kv : Value} {ap bo fi ln : Int} (h : PrtC w c typ sub pv id desc enc ap bo fi ln kv) : (w.cell? ⟨c, 0, none⟩ = some (.string (bs typ))) := h.cells.1

set_option maxRecDepth 100000 in
set_option maxHeartbeats 4000000 in
theorem part_any (m : List UInt8) (n d a b : Nat) (hnd : d + n = 32) (hm : m.length ≤ 1000000) (h1 : a ≤ b) (h2 : b ≤ m.length) (ea ef : Addr) (w : World) (hE : EnvM w ea ef)
    (hmulti : (typeOf (flds200 (pieceM m a b))).1 = multiT → ∀ (c : Nat) (pv : Value) (ok : Nat → Prop) (w' : World),
      PrtC w' c (typeOf (flds200 (pieceM m a b))).1 (typeOf (flds200 (pieceM m a b))).2.1 pv (first1 (flds200 (pieceM m a b)) cidT) (first1 (flds200 (pieceM m a b)) cdescT) (encOf (flds200 (pieceM m a b))) a (bodyAt m a b : Nat) b ((linesOf (pieceM m (bodyAt m a b) b)).length : Nat) (.slice none 0 0) →
      PmAt w' ok pv (typeOf (flds200 (pieceM m a b))).2.2 → EnvM w' ea ef → 0 ≠ c → 10 ≠ c →
      Calls Tryz.prog 61 #[.string (bs m), .pointer (some ⟨c, 0, none⟩), .int .i64 (d : Int)] w'
        (MultiP c (typeOf (flds200 (pieceM m a b))).1 (typeOf (flds200 (pieceM m a b))).2.1 pv (first1 (flds200 (pieceM m a b)) cidT) (first1 (flds200 (pieceM m a b)) cdescT) (encOf (flds200 (pieceM m a b))) a (bodyAt m a b : Nat) b ((linesOf (pieceM m (bodyAt m a b) b)).length : Nat) (kidsT m (partT m (n - 1)) (decide (0 < n)) (bodyAt m a b) b (boundOf (typeOf (flds200 (pieceM m a b))).2.2)) w')) :
    Calls Tryz.prog 29 #[.string (bs m), .int .i64 (a : Int), .int .i64 (b : Int), .int .i64 (d : Int)] w (PartP m n a b w) := by
  have hfew := flds200_few (pieceM m a b)
  have hshort := flds200_short (pieceM m a b)
  have hpl : (pieceM m a b).length = b - a := by unfold pieceM; rw [List.length_take, List.length_drop]; omega
  have hbd := bodyL_bd (pieceM m a b)
  have hmid := run_midR m a b h1 h2
  rw [show (m.drop a).take (b - a) = pieceM m a b from rfl] at hmid
  have hbody : bodyAt m a b = a + bodyL (pieceM m a b) := rfl
  have hF := fieldsM_any (pieceM m a b) ef w (by omega) hE.2
  have HBD := Lib.hid (fun w0 => body_any (pieceM m a b) w0 (by omega))
  obtain ⟨X, hX⟩ : ∃ X, pieceM m a b = X := ⟨_, rfl⟩
  rw [hX] at hfew hshort hpl hbd hmid hbody hmulti HBD
  have hFX := fun w0 (h0 : w0.cell? ⟨10, 0, none⟩ = some (errV ef)) => fieldsM_any X ef w0 (by omega) h0
  obtain ⟨F, hF9⟩ : ∃ F, flds200 X = F := ⟨_, rfl⟩
  rw [hF9] at hfew hshort hmulti hFX
  have HFX := Lib.hid hFX
  have HMU := Lib.hid hmulti
  have HX := Lib.hid hX
  have HF9 := Lib.hid hF9
  have HB := Lib.hid hbody
  clear hmulti hX hF hFX hF9 hbody
  go_enter Tryz.func29, Tryz.ntmps29
  go_wp2_with fail
  have hb0 : Below w.heap.size w (w.alloc (.cells #[.string ⟨#[]⟩, .string ⟨#[]⟩, .slice none 0 0, .string ⟨#[]⟩, .string ⟨#[]⟩, .string ⟨#[]⟩, .int .i64 0, .int .i64 0, .int .i64 0, .int .i64 0, .slice none 0 0] 26)) := (Below.refl _ _).alloc (Nat.le_refl _) _
  have hP0 : PrtC (w.alloc (.cells #[.string ⟨#[]⟩, .string ⟨#[]⟩, .slice none 0 0, .string ⟨#[]⟩, .string ⟨#[]⟩, .string ⟨#[]⟩, .int .i64 0, .int .i64 0, .int .i64 0, .int .i64 0, .slice none 0 0] 26)) w.heap.size [] [] (.slice none 0 0) [] [] [] 0 0 0 0 (.slice none 0 0) := heap_new w _
  obtain ⟨g0, hg0⟩ : ∃ g, w.heap.size = g := ⟨_, rfl⟩
  obtain ⟨W0, hW0⟩ : ∃ W, w.alloc (.cells #[.string ⟨#[]⟩, .string ⟨#[]⟩, .slice none 0 0, .string ⟨#[]⟩, .string ⟨#[]⟩, .string ⟨#[]⟩, .int .i64 0, .int .i64 0, .int .i64 0, .int .i64 0, .slice none 0 0] 26) = W := ⟨_, rfl⟩
  rw [hW0, hg0] at hP0
  rw [hW0] at hb0 ⊢
  have hE0 := hE.below hb0
  have hgE : 0 < g0 ∧ 10 < g0 := by
    rw [← hg0]; exact ⟨cell_lt hE.1, cell_lt hE.2⟩
  obtain ⟨hgE1, hgE2⟩ := hgE
  rw [hg0] at hb0 ⊢
  clear hW0 hE
  refine (HFX.out _ hE0.2).mono ?_
  rintro e w1 ⟨sa, sn, sc, x, rfl, hx, hb1⟩
  have hE1 := hE0.below hb1
  have hP1 := hP0.below hb1
  have hz0 := hb0.size
  have hz1 := hb1.size
  have hB1 : Below g0 w w1 := hb0.trans (hb1.mono (by have := hP0.lt; omega))
  have hg01 : g0 < w1.heap.size := hP1.lt
  clear HFX hE0 hP0 hb0
  rcases hx with ⟨rfl, hx⟩ | ⟨rfl, hx⟩
  case' inl =>
    have hfl : FlsAt (w1.alloc (.cells #[.slice sa sn sc] 54)) w1.heap.size F := ⟨.slice sa sn sc, by simp, hx.below ((Below.refl _ _).alloc (Nat.le_refl _) _), fun hne b o n c e => by
      rcases hx with ⟨_, _, _, h0⟩ | ⟨b2, o2, c2, e2, _, h3, _⟩
      · exact absurd (by simpa using h0) hne
      · rw [e] at e2
        simp at e2
        omega⟩
    have hB2 : Below g0 w (w1.alloc (.cells #[.slice sa sn sc] 54)) := hB1.alloc (by omega) _
    have hE2 := hE1.below ((Below.refl _ w1).alloc (Nat.le_refl _) (.cells #[.slice sa sn sc] 54))
    have hP2 := hP1.below ((Below.refl _ w1).alloc (Nat.le_refl _) (.cells #[.slice sa sn sc] 54))
    go_upto_region 5 with fail
    obtain ⟨W2, hW2⟩ : ∃ W, w1.alloc (.cells #[.slice sa sn sc] 54) = W := ⟨_, rfl⟩
    have hz2 : w1.heap.size < W2.heap.size := by rw [← hW2]; simp
    rw [hW2] at hfl hB2 hE2 hP2 ⊢
  case' inr =>
    have hfl : FlsAt (w1.alloc (.cells #[.slice none 0 0] 54)) w1.heap.size F := ⟨.slice none 0 0, by simp, by rw [hx]; exact .inl ⟨_, _, rfl, rfl⟩, fun _ b o n c e => by cases e⟩
    have hB2 : Below g0 w (w1.alloc (.cells #[.slice none 0 0] 54)) := hB1.alloc (by omega) _
    have hE2 := hE1.below ((Below.refl _ w1).alloc (Nat.le_refl _) (.cells #[.slice none 0 0] 54))
    have hP2 := hP1.below ((Below.refl _ w1).alloc (Nat.le_refl _) (.cells #[.slice none 0 0] 54))
    unfold errV
    go_upto_region 5 with fail
    obtain ⟨W2, hW2⟩ : ∃ W, w1.alloc (.cells #[.slice none 0 0] 54) = W := ⟨_, rfl⟩
    have hz2 : w1.heap.size < W2.heap.size := by rw [← hW2]; simp
    rw [hW2] at hfl hB2 hE2 hP2 ⊢
  all_goals
    have hsF : ShortF 1000000 F := fun f hf => ⟨Nat.le_trans (hshort f hf).1 (by omega), Nat.le_trans (hshort f hf).2 (by omega)⟩
    have HSF := Lib.hid hsF
    have hmf : ∀ (fn : Fn) (first cap : Array Value) (w : World), (Instr.makeFunc fn first cap).run Tryz.prog w = .ok (.func fn first cap) w := fun _ _ _ _ => rfl
    obtain ⟨g1, hg1⟩ : ∃ g, w1.heap.size = g := ⟨_, rfl⟩
    rw [hg1] at hfl hz2 hg01 ⊢
    have hB1' : g0 < g1 := hg01
    clear hW2 hx hB1 hE1 hP1 hb1 hsF hshort hz1 hg1
    have hzg : g1 < W2.heap.size := hz2
    clear hz2
    have hid := first1_len HSF.out cidT
    have hde := first1_len HSF.out cdescT
    have hen := first1_len HSF.out cencT
    have hct := first1_len HSF.out ctypeT
    obtain ⟨ID, hID⟩ : ∃ x, first1 F cidT = x := ⟨_, rfl⟩
    obtain ⟨DE, hDE⟩ : ∃ x, first1 F cdescT = x := ⟨_, rfl⟩
    obtain ⟨EN, hEN⟩ : ∃ x, first1 F cencT = x := ⟨_, rfl⟩
    obtain ⟨CT, hCT⟩ : ∃ x, first1 F ctypeT = x := ⟨_, rfl⟩
    rw [hID] at hid
    rw [hDE] at hde
    rw [hEN] at hen
    rw [hCT] at hct
    have HID := Lib.hid hID
    have HDE := Lib.hid hDE
    have HEN := Lib.hid hEN
    have HCT := Lib.hid hCT
    clear hID hDE hEN hCT
    go_wp2_with fail
    refine (firstM_any [67, 111, 110, 116, 101, 110, 116, 45, 73, 68] g1 F _ hfl hfew HSF.out (by decide) (first1 F cidT) rfl).mono ?_
    rintro e w3 ⟨rfl, hb⟩
    replace hfl := hfl.below hb
    replace hE2 := hE2.below hb
    replace hP2 := hP2.below hb
    replace hB2 := hB2.trans (hb.mono (by have := hB2.size; have := hzg; omega))
    replace hzg := Nat.lt_of_lt_of_le hzg hb.size
    clear hb
    rw [HID.out]
    go_wp2_with fail
    refine (firstM_any [67, 111, 110, 116, 101, 110, 116, 45, 68, 101, 115, 99, 114, 105, 112, 116, 105, 111, 110] g1 F _ hfl hfew HSF.out (by decide) (first1 F cdescT) rfl).mono ?_
    rintro e w4 ⟨rfl, hb⟩
    replace hfl := hfl.below hb
    replace hE2 := hE2.below hb
    replace hP2 := hP2.below hb
    replace hB2 := hB2.trans (hb.mono (by have := hB2.size; have := hzg; omega))
    replace hzg := Nat.lt_of_lt_of_le hzg hb.size
    clear hb
    rw [HDE.out]
    go_wp2_with fail
    refine (firstM_any [67, 111, 110, 116, 101, 110, 116, 45, 84, 114, 97, 110, 115, 102, 101, 114, 45, 69, 110, 99, 111, 100, 105, 110, 103] g1 F _ hfl hfew HSF.out (by decide) (first1 F cencT) rfl).mono ?_
    rintro e w5 ⟨rfl, hb⟩
    replace hfl := hfl.below hb
    replace hE2 := hE2.below hb
    replace hP2 := hP2.below hb
    replace hB2 := hB2.trans (hb.mono (by have := hB2.size; have := hzg; omega))
    replace hzg := Nat.lt_of_lt_of_le hzg hb.size
    clear hb
    rw [HEN.out]
    go_wp2_with fail
    refine (mimeSmall_any EN _ (by omega)).mono ?_
    rintro e w6 ⟨rfl, hb⟩
    replace hfl := hfl.below hb
    replace hE2 := hE2.below hb
    replace hP2 := hP2.below hb
    replace hB2 := hB2.trans (hb.mono (by have := hB2.size; have := hzg; omega))
    replace hzg := Nat.lt_of_lt_of_le hzg hb.size
    clear hb
    obtain ⟨EL, hEL⟩ : ∃ x, lowL EN = x := ⟨_, rfl⟩
    rw [hEL]
    have HEL := Lib.hid hEL
    clear hEL
    go_wp2_with fail
    refine (HBD.out _).mono ?_
    rintro e w7 ⟨rfl, hb⟩
    replace hfl := hfl.below hb
    replace hE2 := hE2.below hb
    replace hP2 := hP2.below hb
    replace hB2 := hB2.trans (hb.mono (by have := hB2.size; have := hzg; omega))
    replace hzg := Nat.lt_of_lt_of_le hzg hb.size
    clear hb
    obtain ⟨bo, hbo⟩ : ∃ x, bodyAt m a b = x := ⟨_, rfl⟩
    have hbo2 : (a : Int) + (bodyL X : Int) = (bo : Int) := by have := HB.out; omega
    have hbob : bo ≤ b := by have := HB.out; omega
    have hmid2 := run_midR m bo b hbob h2
    rw [show (m.drop bo).take (b - bo) = pieceM m bo b from rfl] at hmid2
    have hpl2 : (pieceM m bo b).length ≤ 1000000 := by unfold pieceM; rw [List.length_take, List.length_drop]; omega
    have HCN := Lib.hid (fun w0 => count_any (pieceM m bo b) w0 (by omega))
    obtain ⟨Y, hY⟩ : ∃ Y, pieceM m bo b = Y := ⟨_, rfl⟩
    rw [hY] at hmid2 HCN hpl2
    have HY := Lib.hid hY
    have HBO := Lib.hid hbo
    clear hY hbo hmid hbd hpl
    go_upto_region 7 with fail
    obtain ⟨W8, hW8⟩ : ∃ W, w7.alloc (.cells #[.string ⟨#[116, 101, 120, 116]⟩, .string ⟨#[112, 108, 97, 105, 110]⟩, .slice none 0 0, .string (bs ID), .string (bs DE), .string (bs EL), .int .i64 (a : Int), .int .i64 (bo : Int), .int .i64 (b : Int), .int .i64 0, .slice none 0 0] 26) = W := ⟨_, rfl⟩
    have hPc : PrtC W8 w7.heap.size textT plainT (.slice none 0 0) ID DE EL a bo b 0 (.slice none 0 0) := by rw [← hW8]; exact heap_new w7 _
    have hb : Below w7.heap.size w7 W8 := by rw [← hW8]; exact (Below.refl _ _).alloc (Nat.le_refl _) _
    rw [hW8]
    have hzc : g1 < w7.heap.size := hzg
    replace hfl := hfl.below hb
    replace hE2 := hE2.below hb
    replace hP2 := hP2.below hb
    replace hB2 := hB2.trans (hb.mono (by have := hB2.size; have := hzg; omega))
    replace hzg := Nat.lt_of_lt_of_le hzg hb.size
    clear hb
    obtain ⟨c, hc⟩ : ∃ c, w7.heap.size = c := ⟨_, rfl⟩
    rw [hc] at hPc hzc ⊢
    have hcl := hPc.lt
    clear hW8 hc
    obtain ⟨p0, p1, p2, p3, p4, p5, p6, p7, p8, p9, p10⟩ := hPc.cells
    have f5 := hPc.frozen 5
    by_cases hel : EL = []
    case' pos =>
      subst hel
      have hE9 : Hid (encOf F = bit7T) := by
        show _ = _
        unfold encOf
        rw [HEN.out, HEL.out, if_pos rfl]
      have hPd := hPc.setEnc bit7T
      have hB3 := hB2.setCell (p := ⟨c, 5, none⟩) (by simp; omega) (.string (bs bit7T))
      have hE3 := hE2.upd ((Upd.refl c W8).setCell 5 (.string (bs bit7T))) (by omega) (by omega)
      have hP3 := hP2.keep (w' := W8.setCell ⟨c, 5, none⟩ (.string (bs bit7T))) (Below.heap_setCell _ _ _ _ (by simp; omega))
      have hf3 := hfl.upd1 ((Upd.refl c W8).setCell 5 (.string (bs bit7T))) hzc
      have hc3 : c < (W8.setCell ⟨c, 5, none⟩ (.string (bs bit7T))).heap.size := by simp [World.setCell]; exact hcl
      clear hPc hB2 hE2 hP2 hfl
      go_upto_region 9 with fail
      obtain ⟨W9, hW9⟩ : ∃ W, W8.setCell ⟨c, 5, none⟩ (.string (bs bit7T)) = W := ⟨_, rfl⟩
      rw [hW9] at hPd hB3 hE3 hP3 hf3 hc3
      rw [show W8.setCell ⟨c, 5, none⟩ (.string ⟨#[55, 98, 105, 116]⟩) = W9 from hW9]
      obtain ⟨E9, he9⟩ : ∃ x, bit7T = x := ⟨_, rfl⟩
      rw [he9] at hPd hE9
      clear hW9 he9
    case' neg =>
      have hel1 : (EL == []) = false := by simpa using hel
      have hel2 : EL.isEmpty = false := by simpa using hel
      have hE9 : Hid (encOf F = EL) := by
        show _ = _
        unfold encOf
        rw [HEN.out, HEL.out, if_neg hel]
      have hPd := hPc
      have hB3 := hB2
      have hE3 := hE2
      have hP3 := hP2
      have hf3 := hfl
      have hc3 := hcl
      clear hPc hB2 hE2 hP2 hfl hel
      go_upto_region 9 with fail
      obtain ⟨W9, hW9⟩ : ∃ W, W8 = W := ⟨_, rfl⟩
      rw [hW9] at hPd hB3 hE3 hP3 hf3 hc3 ⊢
      obtain ⟨E9, he9⟩ : ∃ x, EL = x := ⟨_, rfl⟩
      rw [he9] at hPd hE9
      clear hW9 he9
    all_goals
      clear p0 p1 p2 p3 p4 p5 p6 p7 p8 p9 p10 f5 hcl hzg HEL HEN
      obtain ⟨p0, p1, p2, p3, p4, p5, p6, p7, p8, p9, p10⟩ := hPd.cells
      have f9 := hPd.frozen 9
      go_wp2_with fail
      refine (HCN.out _).mono ?_
      rintro e w10 ⟨rfl, hb⟩
      replace hPd := hPd.below hb
      replace hE3 := hE3.below hb
      replace hP3 := hP3.below hb
      replace hf3 := hf3.below hb
      replace hB3 := hB3.trans (hb.mono (by have := hB3.size; omega))
      replace hc3 := Nat.lt_of_lt_of_le hc3 hb.size
      clear hb p0 p1 p2 p3 p4 p5 p6 p7 p8 p9 p10 f9
      obtain ⟨p0, p1, p2, p3, p4, p5, p6, p7, p8, p9, p10⟩ := hPd.cells
      have f9 := hPd.frozen 9
      obtain ⟨LN, hLN⟩ : ∃ n : Nat, (linesOf Y).length = n := ⟨_, rfl⟩
      rw [hLN]
      have HLN := Lib.hid hLN
      clear hLN
      go_upto_region 10 with fail
      have hPd2 := hPd.setLines (LN : Int)
      have hB4 := hB3.setCell (p := ⟨c, 9, none⟩) (by simp; omega) (.int .i64 (LN : Int))
      have hE4 := hE3.upd ((Upd.refl c w10).setCell 9 (.int .i64 (LN : Int))) (by omega) (by omega)
      have hP4 := hP3.keep (w' := w10.setCell ⟨c, 9, none⟩ (.int .i64 (LN : Int))) (Below.heap_setCell _ _ _ _ (by simp; omega))
      have hf4 := hf3.upd1 ((Upd.refl c w10).setCell 9 (.int .i64 (LN : Int))) hzc
      have hc4 : c < (w10.setCell ⟨c, 9, none⟩ (.int .i64 (LN : Int))).heap.size := by simp [World.setCell]; exact hc3
      obtain ⟨W11, hW11⟩ : ∃ W, w10.setCell ⟨c, 9, none⟩ (.int .i64 (LN : Int)) = W := ⟨_, rfl⟩
      rw [hW11] at hPd2 hB4 hE4 hP4 hf4 hc4 ⊢
      clear hW11 hPd hB3 hE3 hP3 hf3 hc3 p0 p1 p2 p3 p4 p5 p6 p7 p8 p9 p10 f9
      go_wp2_with fail
      refine (firstM_any [67, 111, 110, 116, 101, 110, 116, 45, 84, 121, 112, 101] g1 F _ hf4 hfew HSF.out (by decide) (first1 F ctypeT) rfl).mono ?_
      rintro e w12 ⟨rfl, hb⟩
      rw [HCT.out]
      replace hPd2 := hPd2.below hb
      replace hE4 := hE4.below hb
      replace hP4 := hP4.below hb
      replace hB4 := hB4.trans (hb.mono (by have := hB4.size; omega))
      replace hc4 := Nat.lt_of_lt_of_le hc4 hb.size
      clear hb hf4
      go_wp2_with fail
      refine (type_any CT ea _ (by omega) hE4.1).mono ?_
      intro e w13 hty
      rcases hty with ⟨ty, su, ps, pv, hR, rfl, hpv, hb⟩ | ⟨hR, rfl, hb⟩
      case' inl =>
        have hTY : Hid (typeOf F = (ty, su, ps)) := by
          show _ = _
          unfold typeOf
          rw [HCT.out, hR]
        have hPd3 := hPd2.below hb
        have hPd4 := hPd3.setType ty su pv
        have hu : Upd c w13 (((w13.setCell ⟨c, 0, none⟩ (.string (bs ty))).setCell ⟨c, 1, none⟩ (.string (bs su))).setCell ⟨c, 2, none⟩ pv) := (((Upd.refl c w13).setCell 0 _).setCell 1 _).setCell 2 _
        have hpm := (hpv.pmAt.imp (ok' := fun b => c < b) (fun b hok _ => by omega)).keep (w' := ((w13.setCell ⟨c, 0, none⟩ (.string (bs ty))).setCell ⟨c, 1, none⟩ (.string (bs su))).setCell ⟨c, 2, none⟩ pv) (fun b hok hbl => hu.block b hbl (by omega))
        obtain ⟨pa, pc, rfl⟩ := hpv.form
        have hE5 := (hE4.below hb).upd hu (by omega) (by omega)
        have hP5 := (hP4.below hb).keep (hu.block g0 (hP4.below hb).lt (by omega))
        have hB5 := (hB4.trans (hb.mono (by have := hB4.size; omega))).trans (hu.below (B := g0) (by omega) (by have := (hP4.below hb).lt; omega))
        obtain ⟨p0, p1, p2, _, _, _, _, _, _, _, _⟩ := hPd3.cells
        have f0 := hPd3.frozen 0
        have f1 := hPd3.frozen 1
        have f2 := hPd3.frozen 2
        clear hPd2 hPd3 hE4 hP4 hB4 hb hR hpv
        go_upto_region 13 with fail
        obtain ⟨W14, hW14⟩ : ∃ W, (((w13.setCell ⟨c, 0, none⟩ (.string (bs ty))).setCell ⟨c, 1, none⟩ (.string (bs su))).setCell ⟨c, 2, none⟩ (.slice pa ps.length pc)) = W := ⟨_, rfl⟩
        rw [hW14] at hPd4 hE5 hP5 hB5 hpm ⊢
        clear hW14 hu p0 p1 p2 f0 f1 f2
      case' inr =>
        have hTY : Hid (typeOf F = (textT, plainT, [])) := by
          show _ = _
          unfold typeOf
          rw [HCT.out, hR]
        have hPd4 := hPd2.below hb
        have hpm : PmAt w13 (fun b => c < b) (.slice none ([] : List Prm).length 0) [] := ⟨none, 0, rfl, fun h => absurd rfl h⟩
        have hE5 := hE4.below hb
        have hP5 := hP4.below hb
        have hB5 := hB4.trans (hb.mono (by have := hB4.size; omega))
        unfold errV
        clear hPd2 hE4 hP4 hB4 hb hR
        go_upto_region 13 with fail
        obtain ⟨W14, hW14⟩ : ∃ W, w13 = W := ⟨_, rfl⟩
        rw [hW14] at hPd4 hE5 hP5 hB5 hpm ⊢
        obtain ⟨ty, su, ps, pa, pc, hPd5, hpm5, hTY5⟩ : ∃ ty su ps pa pc, PrtC W14 c ty su (.slice pa ps.length pc) ID DE E9 a bo b LN (.slice none 0 0) ∧ PmAt W14 (fun b => c < b) (.slice pa ps.length pc) ps ∧ Hid (typeOf F = (ty, su, ps)) := ⟨textT, plainT, [], none, 0, hPd4, hpm, hTY⟩
        clear hW14 hPd4 hpm hTY
        have hPd4 := hPd5
        have hpm := hpm5
        have hTY := hTY5
        clear hPd5 hpm5 hTY5
      all_goals
        have hc5 := hPd4.lt
        obtain ⟨p0, p1, p2, p3, p4, p5, p6, p7, p8, p9, p10⟩ := hPd4.cells
        have hz5 : g0 < W14.heap.size := hP5.lt
        have hcg : c ≠ g0 := by omega
        by_cases hmt : ty = multiT
        case neg =>
          have hm1 : (ty == [109, 117, 108, 116, 105, 112, 97, 114, 116]) = false := by simpa [multiT] using hmt
          obtain ⟨q0, q1, q2, q3, q4, q5, q6, q7, q8, q9, q10⟩ := hP5.cells
          have fq := fun i => hP5.frozen i
          have hP6 := hP5
          have hB6 := hB5
          have HMT := Lib.hid hmt
          clear hmt
          go_wp2
          have hPf := hP6.copy ty su (.slice pa ps.length pc) ID DE E9 a bo b LN (.slice none 0 0)
          have huf := copy_upd W14 g0 ty su (.slice pa ps.length pc) ID DE E9 a bo b LN (.slice none 0 0)
          have hsf := copy_size W14 g0 ty su (.slice pa ps.length pc) ID DE E9 a bo b LN (.slice none 0 0)
          (try simp only [Exit.inBlock, Exit.then])
          refine bodyPost_ret (part_results hPf _ (by rfl)) rfl ?_
          have hpe : partT m n a b = .mk ty su ps ID DE E9 a bo b LN [] := part_leaf (by rw [HX.out]; exact HF9.out) hTY.out HID.out HDE.out hE9.out HBO.out (by rw [HY.out]; exact HLN.out) HMT.out
          obtain ⟨Wf, hWf⟩ : ∃ W, copyP W14 g0 ty su (.slice pa ps.length pc) ID DE E9 a bo b LN (.slice none 0 0) = W := ⟨_, rfl⟩
          rw [hWf] at huf hsf
          change PartP m n a b w _ (copyP W14 g0 ty su (.slice pa ps.length pc) ID DE E9 a bo b LN (.slice none 0 0))
          rw [hWf]
          refine ⟨_, rfl, ?_, ?_⟩
          · rw [hpe]
            simp only [hg0]
            exact PtAt.mk ty su ID DE E9 _ ps a bo b LN none 0 [] (fun _ => .nilIface) ((hpm.keep (fun b9 hok hbl => huf.block b9 hbl (by omega))).imp (fun b9 hok hbl => ⟨by omega, hbl⟩)) (fun h => absurd rfl h) (fun j k h => by simp at h)
          · rw [hg0]
            exact hB6.trans (huf.below (Nat.le_refl _) (by omega))
        have hm1 : (ty == [109, 117, 108, 116, 105, 112, 97, 114, 116]) = true := by rw [hmt]; rfl
        have hmu := HMU.out
        rw [hTY.out, HID.out, HDE.out, hE9.out, HBO.out, HY.out, HLN.out] at hmu
        simp only at hmu
        have HCALL := Lib.hid (hmu hmt c (.slice pa ps.length pc) (fun b => c < b) W14 hPd4 hpm hE5 (by omega) (by omega))
        have HMT := Lib.hid hmt
        clear hmt hmu
        go_wp2_with fail
        refine HCALL.out.mono ?_
        rintro e w15 ⟨rfl, hu, hres⟩
        have hP6 := hP5.keep (hu.block g0 hz5 (Ne.symm hcg))
        have hB6 := hB5.trans (hu.below (B := g0) (by omega) (by omega))
        have hpm6 := hpm.keep (fun b9 hok hbl => hu.block b9 hbl (by omega))
        have hz6 := hu.size
        obtain ⟨q0, q1, q2, q3, q4, q5, q6, q7, q8, q9, q10⟩ := hP6.cells
        have fq := fun i => hP6.frozen i
        clear HCALL p0 p1 p2 p3 p4 p5 p6 p7 p8 p9 p10
        rcases hres with ⟨hk, hPk⟩ | ⟨hk, kv, hPk, hown⟩
        · obtain ⟨p0, p1, p2, p3, p4, p5, p6, p7, p8, p9, p10⟩ := hPk.cells
          have HK := Lib.hid hk
          clear hk
          go_wp2
          have hPf := hP6.copy applT octT (.slice none 0 0) ID DE E9 a bo b LN (.slice none 0 0)
          have huf := copy_upd w15 g0 applT octT (.slice none 0 0) ID DE E9 a bo b LN (.slice none 0 0)
          have hsf := copy_size w15 g0 applT octT (.slice none 0 0) ID DE E9 a bo b LN (.slice none 0 0)
          (try simp only [Exit.inBlock, Exit.then])
          refine bodyPost_ret (part_results hPf _ (by rfl)) rfl ?_
          have hpe : partT m n a b = .mk applT octT [] ID DE E9 a bo b LN [] := part_none (by rw [HX.out]; exact HF9.out) hTY.out HID.out HDE.out hE9.out HBO.out (by rw [HY.out]; exact HLN.out) HMT.out HK.out
          obtain ⟨Wf, hWf⟩ : ∃ W, copyP w15 g0 applT octT (.slice none 0 0) ID DE E9 a bo b LN (.slice none 0 0) = W := ⟨_, rfl⟩
          rw [hWf] at huf hsf
          change PartP m n a b w _ (copyP w15 g0 applT octT (.slice none 0 0) ID DE E9 a bo b LN (.slice none 0 0))
          rw [hWf]
          refine ⟨_, rfl, ?_, ?_⟩
          · rw [hpe]
            simp only [hg0]
            exact PtAt.mk applT octT ID DE E9 _ [] a bo b LN none 0 [] (fun _ => .nilIface) ⟨none, 0, rfl, fun h => absurd rfl h⟩ (fun h => absurd rfl h) (fun j k h => by simp at h)
          · rw [hg0]
            exact hB6.trans (huf.below (Nat.le_refl _) (by omega))
        · obtain ⟨KS, hKS⟩ : ∃ K, kidsT m (partT m (n - 1)) (decide (0 < n)) bo b (boundOf ps) = K := ⟨_, rfl⟩
          rw [hKS] at hk hown
          obtain ⟨ka, kc, kvs, rfl, hka, hkp⟩ := hown.kids
          obtain ⟨p0, p1, p2, p3, p4, p5, p6, p7, p8, p9, p10⟩ := hPk.cells
          have HK := Lib.hid hk
          have HKS := Lib.hid hKS
          have HKA := Lib.hid hka
          have HKP := Lib.hid hkp
          clear hk hKS hka hkp hown
          go_wp2
          have hPf := hP6.copy ty su (.slice pa ps.length pc) ID DE E9 a bo b LN (.slice ka KS.length kc)
          have huf := copy_upd w15 g0 ty su (.slice pa ps.length pc) ID DE E9 a bo b LN (.slice ka KS.length kc)
          have hsf := copy_size w15 g0 ty su (.slice pa ps.length pc) ID DE E9 a bo b LN (.slice ka KS.length kc)
          (try simp only [Exit.inBlock, Exit.then])
          refine bodyPost_ret (part_results hPf _ (by rfl)) rfl ?_
          have hpe : partT m n a b = .mk ty su ps ID DE E9 a bo b LN KS := part_kids (by rw [HX.out]; exact HF9.out) hTY.out HID.out HDE.out hE9.out HBO.out (by rw [HY.out]; exact HLN.out) HMT.out HKS.out HK.out
          obtain ⟨Wf, hWf⟩ : ∃ W, copyP w15 g0 ty su (.slice pa ps.length pc) ID DE E9 a bo b LN (.slice ka KS.length kc) = W := ⟨_, rfl⟩
          rw [hWf] at huf hsf
          change PartP m n a b w _ (copyP w15 g0 ty su (.slice pa ps.length pc) ID DE E9 a bo b LN (.slice ka KS.length kc))
          rw [hWf]
          refine ⟨_, rfl, ?_, ?_⟩
          · rw [hpe]
            simp only [hg0]
            exact PtAt.mk ty su ID DE E9 _ ps a bo b LN ka kc KS kvs ((hpm6.keep (fun b9 hok hbl => huf.block b9 hbl (by omega))).imp (fun b9 hok hbl => ⟨by omega, hbl⟩)) (fun hne => by
              obtain ⟨b9, o9, e9, h9, hl9, hcel⟩ := HKA.out hne
              have hbk := huf.block b9 hl9 (by omega)
              exact ⟨b9, o9, e9, ⟨by omega, keep_lt hbk hl9⟩, keep_lt hbk hl9, fun j k hj i x hx => (keep_cell hbk).trans (hcel j k hj i x hx)⟩) (fun j k hj => ((HKP.out j k hj).keep (fun b9 hok hbl => huf.block b9 hbl (by omega))).imp (fun b9 hok hbl => ⟨by omega, hbl⟩))
          · rw [hg0]
            exact hB6.trans (huf.below (Nat.le_refl _) (by omega))

end Go.Proofs.YtalgmnlclflllaaGreatDoor
end

/- How IMAP tells a text (plain). -/
set_option linter.unusedVariables false
set_option linter.unusedSimpArgs false
section
namespace Go.Proofs.YtalgmnlclflllaaGreatDoor
open Go

/-! ### how IMAP tells a text -/
def printB (c : UInt8) : Bool := decide (32 ≤ c.toNat) && decide (c.toNat ≤ 126)
def escL (l : List UInt8) : List UInt8 := l.flatMap fun c => if c = 34 ∨ c = 92 then [92, c] else [c]
def qtL (s : List UInt8) : List UInt8 := if s.all printB = true then 34 :: (escL s ++ [34]) else 123 :: (Lib.decDigits s.length ++ ([125, 13, 10] ++ s))
def nilL : List UInt8 := [78, 73, 76]
def nilOr (s : List UInt8) : List UInt8 := if s = [] then nilL else qtL s
def joinSp : List (List UInt8) → List UInt8
  | [] => []
  | [x] => x
  | x :: y :: r => x ++ 32 :: joinSp (y :: r)
theorem joinSp_snoc : ∀ (l : List (List UInt8)) (x : List UInt8), l ≠ [] → joinSp (l ++ [x]) = joinSp l ++ 32 :: x
  | [], _, h => absurd rfl h
  | [a], x, _ => rfl
  | a :: b :: r, x, _ => by
    have ih := joinSp_snoc (b :: r) x (by simp)
    rw [List.cons_append, List.cons_append, joinSp, ← List.cons_append, ih, joinSp]
    simp
theorem joinSp_lib : ∀ l : List (List UInt8), Lib.join l [32] = joinSp l
  | [] => rfl
  | [x] => by simp [Lib.join, joinSp]
  | x :: y :: r => by
    have h : Lib.join (x :: y :: r) [32] = x ++ ([32] ++ Lib.join (y :: r) [32]) := rfl
    rw [h, joinSp_lib (y :: r)]
    rfl
theorem joinSp_len : ∀ l : List (List UInt8), (joinSp l).length ≤ l.flatten.length + l.length
  | [] => by simp [joinSp]
  | [x] => by simp [joinSp]
  | x :: y :: r => by
    have ih := joinSp_len (y :: r)
    simp only [joinSp, List.length_append, List.length_cons, List.flatten_cons] at ih ⊢
    omega
theorem escL_len (l : List UInt8) : (escL l).length ≤ 2 * l.length := by
  unfold escL
  induction l with
  | nil => simp
  | cons c r ih =>
    rw [List.flatMap_cons, List.length_append, List.length_cons]
    split <;> simp only [List.length_cons, List.length_nil] <;> omega

end Go.Proofs.YtalgmnlclflllaaGreatDoor
end

/- How IMAP quotes a text (plain): which runes are printed, one byte replaced. -/
set_option linter.unusedVariables false
set_option linter.unusedSimpArgs false
section
namespace Go.Proofs.YtalgmnlclflllaaGreatDoor
open Go

/-- a rune that is not printed -/
def oddR (r : Nat) : Bool := decide ((r : Int) < 32) || decide (126 < (r : Int))
theorem odd_byte (c : UInt8) : oddR c.toNat = !printB c := by
  unfold oddR printB
  rw [Bool.eq_iff_iff]
  simp
  omega
theorem decodeN_odd (n b0 b1 b2 b3 : Nat) : (b0 < 128 ∧ Lib.decodeN n b0 b1 b2 b3 = (b0, 1)) ∨ (128 ≤ b0 ∧ 128 ≤ (Lib.decodeN n b0 b1 b2 b3).1) := by
  obtain ⟨D, hD⟩ : ∃ D, Lib.decodeN n b0 b1 b2 b3 = D := ⟨_, rfl⟩
  rw [hD]
  subst hD
  unfold Lib.decodeN
  repeat' split
  all_goals first
    | exact .inl ⟨by assumption, rfl⟩
    | (right; simp only; omega)
theorem get_byte (l : List UInt8) (i : Nat) (c : UInt8) (h : l[i]? = some c) : (bs l).get! i = c := by
  obtain ⟨hlt, hc⟩ := List.getElem?_eq_some_iff.1 h
  show (l.toArray)[i]! = c
  rw [getElem!_pos l.toArray i (by simpa using hlt)]
  simpa using hc
theorem idx_odd (l : List UInt8) : ∀ (f pos : Nat), pos ≤ l.length → l.length ≤ pos + f → (decide (0 ≤ Lib.idxFuncFrom oddR true (bs l) f pos)) = !((l.drop pos).all printB)
  | 0, pos, h1, h2 => by
    have : pos = l.length := by omega
    rw [this, List.drop_length]
    rfl
  | f + 1, pos, h1, h2 => by
    by_cases hlt : pos < l.length
    · obtain ⟨c, hc⟩ : ∃ c, l[pos]? = some c := ⟨_, List.getElem?_eq_getElem hlt⟩
      have hd : l.drop pos = c :: l.drop (pos + 1) := by
        rw [List.drop_eq_getElem_cons hlt, (List.getElem?_eq_some_iff.1 hc).2]
      rw [hd, List.all_cons]
      unfold Lib.idxFuncFrom
      rw [if_pos (by rw [bs_size]; exact hlt), Lib.decode_at, get_byte l pos c hc]
      rcases decodeN_odd ((bs l).size - pos) c.toNat ((bs l).get! (pos + 1)).toNat ((bs l).get! (pos + 2)).toNat ((bs l).get! (pos + 3)).toNat with ⟨h3, h4⟩ | ⟨h3, h4⟩
      · rw [h4]
        simp only
        rw [odd_byte]
        cases hp : printB c with
        | true =>
          simp only [Bool.not_true, Bool.false_eq_true, if_false, Bool.true_and]
          exact idx_odd l f (pos + 1) (by omega) (by omega)
        | false =>
          simp only [Bool.not_false, if_true, Bool.false_and]
          simp
      · have ho : oddR (Lib.decodeN ((bs l).size - pos) c.toNat ((bs l).get! (pos + 1)).toNat ((bs l).get! (pos + 2)).toNat ((bs l).get! (pos + 3)).toNat).1 = true := by
          unfold oddR
          rw [Bool.or_eq_true, decide_eq_true_eq, decide_eq_true_eq]
          right; omega
        have hp : printB c = false := by
          unfold printB
          rw [Bool.and_eq_false_iff]
          right
          simp; omega
        rw [if_pos ho, hp]
        simp
    · have : pos = l.length := by omega
      rw [Lib.idxFuncFrom_end _ _ _ _ _ (by rw [bs_size]; exact hlt), this, List.drop_length]
      rfl
theorem idx_print (l : List UInt8) : decide (0 ≤ Lib.idxFunc oddR true (bs l)) = !(l.all printB) := by
  have := idx_odd l l.length 0 (by omega) (by omega)
  rw [List.drop_zero] at this
  unfold Lib.idxFunc
  rw [bs_size]
  exact this

/-- one byte replaced by a text -/
def repB (c : UInt8) (new : List UInt8) (l : List UInt8) : List UInt8 := l.flatMap fun b => if b = c then new else [b]
theorem index_nil (c : UInt8) : Lib.index [] [c] = -1 := rfl
theorem replaceK_ne (c b : UInt8) (new : List UInt8) (h : b ≠ c) : ∀ (k : Nat) (l : List UInt8), Lib.replaceK [c] new k (b :: l) = b :: Lib.replaceK [c] new k l
  | 0, l => rfl
  | k + 1, l => by
    have hp : ([c] : List UInt8).isPrefixOf (b :: l) = false := by simp [List.isPrefixOf, Ne.symm h]
    have hix : Lib.index (b :: l) [c] = if Lib.index l [c] == -1 then -1 else Lib.index l [c] + 1 := by rw [Lib.index, hp]; simp
    have hge := Lib.index_ge l [c]
    rw [Lib.replaceK, Lib.replaceK, hix]
    by_cases hm : Lib.index l [c] = -1
    · rw [hm]; simp
    · obtain ⟨i, hi⟩ : ∃ i : Nat, Lib.index l [c] = i := ⟨(Lib.index l [c]).toNat, by omega⟩
      rw [hi]
      have e1 : ((i : Int) == -1) = false := by rw [beq_eq_false_iff_ne]; omega
      have e2 : ((i : Int) + 1 == -1) = false := by rw [beq_eq_false_iff_ne]; omega
      rw [e1]
      simp only [Bool.false_eq_true, if_false]
      rw [e2]
      simp only [Bool.false_eq_true, if_false]
      rw [show ((i : Int) + 1).toNat = i + 1 by omega, show ((i : Int)).toNat = i by omega]
      simp only [List.take_succ_cons, List.cons_append, List.length_singleton, List.drop_succ_cons]
theorem replace_one (c : UInt8) (new : List UInt8) : ∀ l : List UInt8, Lib.replaceK [c] new (Lib.count l [c]) l = repB c new l
  | [] => by
    rw [Lib.count_one]
    rfl
  | b :: l => by
    have ih := replace_one c new l
    unfold repB at ih ⊢
    rw [List.flatMap_cons]
    by_cases h : b = c
    · subst h
      rw [Lib.count_cons_eq, if_pos rfl, show 1 + Lib.count l [b] = Lib.count l [b] + 1 by omega]
      have hix : Lib.index (b :: l) [b] = ((0 : Nat) : Int) := by rw [Lib.index]; simp [List.isPrefixOf]
      rw [Lib.replaceK_hit [b] new _ _ 0 hix]
      simp only [List.take_zero, List.nil_append, Nat.zero_add, List.length_singleton, List.drop_succ_cons, List.drop_zero]
      rw [ih]
    · rw [Lib.count_cons_ne b c l h, replaceK_ne c b new h, ih, if_neg h]
      rfl
theorem replaceAll_one (c : UInt8) (new l : List UInt8) (h : ¬ ([c] : List UInt8) == new) : Lib.replaceAll l [c] new = repB c new l := by
  unfold Lib.replaceAll Lib.replace Lib.replaceNum
  rw [if_neg h, if_pos (by omega)]
  exact replace_one c new l
theorem escL_eq (l : List UInt8) : repB 34 [92, 34] (repB 92 [92, 92] l) = escL l := by
  unfold repB escL
  induction l with
  | nil => rfl
  | cons c r ih =>
    rw [List.flatMap_cons, List.flatMap_append, ih, List.flatMap_cons]
    congr 1
    by_cases h1 : c = 92
    · subst h1; rfl
    · by_cases h2 : c = 34
      · subst h2; rfl
      · rw [if_neg h1]
        simp [h1, h2]
theorem repB_len (c : UInt8) (new : List UInt8) (h : new.length ≤ 2) : ∀ l : List UInt8, (repB c new l).length ≤ 2 * l.length
  | [] => by simp [repB]
  | b :: l => by
    have ih := repB_len c new h l
    unfold repB at ih ⊢
    rw [List.flatMap_cons, List.length_append, List.length_cons]
    split
    · omega
    · simp only [List.length_cons, List.length_nil]; omega

end Go.Proofs.YtalgmnlclflllaaGreatDoor
end

/- mime (plain): how IMAP tells a part. -/
set_option linter.unusedVariables false
set_option linter.unusedSimpArgs false
section
namespace Go.Proofs.YtalgmnlclflllaaGreatDoor
open Go

def rowTx (l : List (List UInt8)) : List UInt8 := [40] ++ joinSp l ++ [41]
/-- a number that is not below 0 -/
def numTx (n : Int) : List UInt8 := Lib.decDigits n.toNat
def flatPs (ps : List Prm) : List (List UInt8) := ps.flatMap fun x => [qtL x.1, qtL x.2]
def psTx (ps : List Prm) : List UInt8 := if ps.isEmpty = true then nilL else rowTx (flatPs ps)
def leafTx (p : Prt) : List UInt8 := rowTx ([qtL p.typ, qtL p.sub, psTx p.ps, nilOr p.id, nilOr p.desc, qtL p.enc, numTx (p.fin - p.body)] ++ (if p.typ = textT then [numTx p.lines] else []))
/-- a part's text, at most f parts within each other -/
def ptext : Nat → Prt → List UInt8
  | 0, _ => []
  | f + 1, p => if p.kids.isEmpty = true then leafTx p else rowTx [(p.kids.map (ptext f)).flatten, qtL p.sub]
/-- how deep a part is -/
def DeepP : Nat → Prt → Prop
  | 0, _ => False
  | f + 1, p => ∀ k ∈ p.kids, DeepP f k
theorem deep_up : ∀ {f g : Nat} {p : Prt}, DeepP f p → f ≤ g → DeepP g p
  | 0, _, _, h, _ => h.elim
  | f + 1, 0, _, _, h => absurd h (by omega)
  | f + 1, g + 1, p, h, hg => fun k hk => deep_up (h k hk) (by omega)
theorem ptext_fuel : ∀ (f g : Nat) (p : Prt), DeepP f p → DeepP g p → ptext f p = ptext g p
  | 0, _, p, h, _ => h.elim
  | _, 0, p, _, h => h.elim
  | f + 1, g + 1, p, hf, hg => by
    have e : p.kids.map (ptext f) = p.kids.map (ptext g) := List.map_congr_left (fun k hk => ptext_fuel f g k (hf k hk) (hg k hk))
    rw [ptext, ptext, e]
theorem kids_partT (m : List UInt8) (kid : Nat → Nat → Prt) (deep : Bool) (p fin : Nat) : ∀ k ∈ (buildT m kid deep p fin).kids, deep = true ∧ ∃ a b, k = kid a b := by
  intro k hk
  have key : ∀ b bd, k ∈ kidsT m kid deep b fin bd → deep = true ∧ ∃ a b, k = kid a b := by
    intro b bd h
    unfold kidsT at h
    split at h
    · rename_i hc
      obtain ⟨s, _, rfl⟩ := List.mem_map.1 h
      exact ⟨hc.1, s.1, s.2, rfl⟩
    · cases h
  unfold buildT at hk
  split at hk
  · unfold wrapT at hk
    split at hk
    · cases hk
    · exact key _ _ hk
  · cases hk
theorem deep_partT (m : List UInt8) : ∀ (n p fin : Nat), DeepP (n + 1) (partT m n p fin)
  | 0, p, fin => fun k hk => by
    have := (kids_partT m _ false p fin k hk).1
    cases this
  | n + 1, p, fin => fun k hk => by
    obtain ⟨_, a, b, rfl⟩ := kids_partT m (partT m n) true p fin k hk
    exact deep_partT m n a b
/-- a part stands at a path -/
def findP : Prt → List Int → Option Prt
  | p, [] => some p
  | p, n :: r => if 1 ≤ n ∧ n ≤ p.kids.length then (match p.kids[(n - 1).toNat]? with
      | some k => findP k r
      | none => none) else none
def countP : Nat → Prt → Nat
  | 0, _ => 0
  | f + 1, p => 1 + (p.kids.map (countP f)).sum
theorem flatPs_snoc (ps : List Prm) (x : Prm) : flatPs (ps ++ [x]) = flatPs ps ++ [qtL x.1, qtL x.2] := by simp [flatPs]
/-- the document's way over the parameters -/
def psGo (ps : List Prm) : List UInt8 := if ps.isEmpty = true then [] else [40] ++ joinSp (flatPs ps)
theorem psGo_snoc (ps : List Prm) (x : Prm) : psGo (ps ++ [x]) = psGo ps ++ (if ps.isEmpty = true then [40] else [32]) ++ qtL x.1 ++ [32] ++ qtL x.2 := by
  cases ps with
  | nil => simp [psGo, flatPs, joinSp]
  | cons a r =>
    have h1 : flatPs (a :: r) ≠ [] := by simp [flatPs]
    have h2 : flatPs (a :: r) ++ [qtL x.1] ≠ [] := by simp
    unfold psGo
    rw [flatPs_snoc, show flatPs (a :: r) ++ [qtL x.1, qtL x.2] = (flatPs (a :: r) ++ [qtL x.1]) ++ [qtL x.2] by simp, joinSp_snoc _ _ h2, joinSp_snoc _ _ h1]
    simp

end Go.Proofs.YtalgmnlclflllaaGreatDoor
end

/- strings.Join with a blank between. -/
set_option linter.unusedVariables false
set_option linter.unusedSimpArgs false
section
namespace Go.Proofs.YtalgmnlclflllaaGreatDoor
open Go.RowKit Go

theorem joinBl_any (w : World) (v : Value) (ls : List (List UInt8)) (hv : StrsAt w v ls) (hn : ls.length ≤ 140737488355328) (hl : (joinSp ls).length ≤ 140737488355328) :
    Calls Tryz.prog 68 #[v, .string (bs [32])] w fun e w' => e = .returned (.string (bs (joinSp ls))) ∧ Below w.heap.size w w' := by
  rcases hv with ⟨rfl, rfl⟩ | ⟨b, o, c, rfl, h1, h2, h3⟩
  · exact (Tryz.strings_Join_none none 0 (bs [32]) w).mono fun _ _ ⟨he, hw⟩ => ⟨he, hw ▸ Below.refl _ _⟩
  · have e : (ls.map bs).map (·.data.toList) = ls := by rw [List.map_map]; exact List.map_id ls
    have hj := Tryz.strings_Join b o c (ls.map bs) (bs [32]) w (fun j x hx => by
      rw [List.getElem?_map] at hx
      cases hq : ls[j]? with
      | none => rw [hq] at hx; cases hx
      | some y =>
        rw [hq] at hx
        obtain rfl := Option.some.inj hx
        have hlt := (List.getElem?_eq_some_iff.1 hq).1
        rw [h3 j hlt]
        simp [List.getD, hq]) h2 (by simpa using hn) (by simpa using h1) (by rw [e]; rw [show (bs [32]).data.toList = [32] by simp, joinSp_lib]; exact hl)
    rw [e, show (bs [32]).data.toList = [32] by simp, joinSp_lib, List.length_map] at hj
    exact hj

end Go.Proofs.YtalgmnlclflllaaGreatDoor
end

/- mime.Quote: the walk. -/
set_option linter.unusedVariables false
set_option linter.unusedSimpArgs false
section
namespace Go.Proofs.YtalgmnlclflllaaGreatDoor
open Go.RowKit Go

theorem odd_pred (x : Nat) (w : World) : Calls Tryz.prog 41 #[.int .i32 x] w fun e w' => e = .returned (.bool (oddR x)) ∧ Below w.heap.size w w' := by
  unfold oddR
  by_cases h1 : (x : Int) < 32
  · have e1 : decide ((x : Int) < 32) = true := by simpa using h1
    rw [e1, Bool.true_or]
    clear e1
    go_enter Tryz.func41, Tryz.ntmps41
    go_wp2
    go_ret
    exact ⟨rfl, Below.refl _ _⟩
  · have e1 : decide ((x : Int) < 32) = false := by simpa using h1
    rw [e1, Bool.false_or]
    clear e1
    by_cases h2 : 126 < (x : Int)
    · have e2 : decide (126 < (x : Int)) = true := by simpa using h2
      rw [e2]
      clear e2
      go_enter Tryz.func41, Tryz.ntmps41
      go_wp2
      go_ret
      exact ⟨rfl, Below.refl _ _⟩
    · have e2 : decide (126 < (x : Int)) = false := by simpa using h2
      rw [e2]
      clear e2
      go_enter Tryz.func41, Tryz.ntmps41
      go_wp2
      go_ret
      exact ⟨rfl, Below.refl _ _⟩

theorem idxf_any (s : List UInt8) (w : World) : Calls Tryz.prog 40 #[.string (bs s), .func (.func 41) #[] #[]] w fun e w' => e = .returned (.int .i64 (Lib.idxFunc oddR true (bs s))) ∧ Below w.heap.size w w' :=
  Tryz.strings_IndexFunc_grows 41 #[] (enters_of Tryz.func41 (by kernel_rfl) rfl) oddR (bs s) w (fun W x _ _ => odd_pred x W)

theorem count_one_le (c : UInt8) : ∀ l : List UInt8, Lib.count l [c] ≤ l.length
  | [] => by rw [Lib.count_one]; simp
  | b :: l => by
    have ih := count_one_le c l
    by_cases h : b = c
    · subst h
      rw [Lib.count_cons_eq]; simp; omega
    · rw [Lib.count_cons_ne b c l h]; simp; omega

theorem repl_any (c : UInt8) (new l : List UInt8) (m : Int) (w : World) (hn : new.length = 2) (hl : l.length ≤ 2000000000) (hm : w.cell? ⟨14, 0, none⟩ = some (.int .i64 m)) :
    Calls Tryz.prog 42 #[.string (bs l), .string (bs [c]), .string (bs new)] w fun e w' => e = .returned (.string (bs (repB c new l))) ∧ Below w.heap.size w w' := by
  have hc := count_one_le c l
  refine (Tryz.strings_ReplaceAll (bs l) (bs [c]) (bs new) m w (by rw [bs_size]; omega) hm (by rw [bs_size]; simp) ?_).mono ?_
  · have : Lib.countB (bs l) (bs [c]) = Lib.count l [c] := rfl
    rw [this, bs_size, bs_size, hn]
    omega
  · rintro e w' ⟨rfl, hb⟩
    refine ⟨?_, hb⟩
    have e1 := replaceAll_one c new l (by intro h; have := congrArg List.length (eq_of_beq h); simp [hn] at this)
    rw [← e1]

end Go.Proofs.YtalgmnlclflllaaGreatDoor
end

/- mime.Quote: the walk. -/
set_option linter.unusedVariables false
set_option linter.unusedSimpArgs false
section
namespace Go.Proofs.YtalgmnlclflllaaGreatDoor
open Go.RowKit Go Go.Sort

def TabQ (w : World) : Prop := Lib.TabIs Tryz.prog w "internal/strconv.uint64pow10" .u64 Lib.pow10Tab
theorem tabQNamed : Tryz.prog.globalNamed "internal/strconv.uint64pow10" = some 13 := by kernel_rfl
theorem TabQ.lt {w : World} (h : TabQ w) : 13 < w.heap.size := cell_lt (Lib.TabIs.cell h tabQNamed 0 (by decide))
theorem TabQ.below {w w' : World} (h : TabQ w) (hb : Below w.heap.size w w') : TabQ w' := var?_below hb tabQNamed h.lt h
theorem decq_length : ∀ (f u : Nat), u < 10 ^ f → 0 < f → (Lib.decDigits u).length ≤ f
  | 0, _, _, h => absurd h (by omega)
  | f + 1, u, h, _ => by
    rw [Lib.decDigits.eq_1]
    split
    · simp
    · rename_i h10
      have hf : 0 < f := by
        rcases Nat.eq_zero_or_pos f with rfl | h0
        · simp at h; omega
        · exact h0
      have := decq_length f (u / 10) (by rw [Nat.pow_succ] at h; omega) hf
      simp
      omega

theorem itoaQ_any (n : Nat) (w : World) (hn : n ≤ 9223372036854775807) (hT : TabQ w) : Calls Tryz.prog 37 #[.int .i64 n] w fun e w' => e = .returned (.string (bs (Lib.decDigits n))) ∧ Below w.heap.size w w' := by
  refine (Tryz.strconv_Itoa n (by omega) (by omega) w hT).mono ?_
  rintro e w' ⟨rfl, k, os, rfl⟩
  have e1 : Lib.itoa n = Lib.decDigits n := by
    unfold Lib.itoa
    rw [if_neg (by omega)]
    simp
  exact ⟨by rw [e1], Lib.below_grow _ _ (Nat.le_refl _) _ _⟩

set_option maxRecDepth 100000 in
set_option maxHeartbeats 2000000 in
theorem quote_any (s : List UInt8) (m : Int) (w : World) (hl : s.length ≤ 1000000000) (hm : w.cell? ⟨14, 0, none⟩ = some (.int .i64 m)) (hT : TabQ w) :
    Calls Tryz.prog 16 #[.string (bs s)] w fun e w' => e = .returned (.string (bs (qtL s))) ∧ Below w.heap.size w w' := by
  have hp := idx_print s
  obtain ⟨ix, hix⟩ : ∃ ix, Lib.idxFunc oddR true (bs s) = ix := ⟨_, rfl⟩
  rw [hix] at hp
  have HIX := Lib.hid hix
  have HM := Lib.hid hm
  have HT := Lib.hid hT
  have hlt := cell_lt hm
  clear hix hm hT
  cases ha : s.all printB with
  | false =>
    have e : qtL s = 123 :: (Lib.decDigits s.length ++ ([125, 13, 10] ++ s)) := by
      unfold qtL
      rw [ha]
      rfl
    rw [e]
    rw [ha] at hp
    have hge : 0 ≤ ix := of_decide_eq_true hp
    clear e ha hp
    have hdl := decq_length 10 s.length (by omega) (by omega)
    go_enter Tryz.func16, Tryz.ntmps16
    go_wp2_with fail
    refine (idxf_any s _).mono ?_
    rintro e w1 ⟨rfl, hb1⟩
    rw [HIX.out]
    go_wp2_with fail
    refine (itoaQ_any s.length _ (by omega) (TabQ.below HT.out hb1)).mono ?_
    rintro e w2 ⟨rfl, hb2⟩
    go_wp2
    go_ret
    exact ⟨by rw [show (⟨#[123]⟩ : ByteArray) = bs [123] from rfl, show (⟨#[125, 13, 10]⟩ : ByteArray) = bs [125, 13, 10] from rfl, bs_append, bs_append, bs_append]; simp, hb1.trans (hb2.mono hb1.size)⟩
  | true =>
    have e : qtL s = 34 :: (escL s ++ [34]) := by
      unfold qtL
      rw [if_pos ha]
    rw [e]
    rw [ha] at hp
    have hge : ¬ 0 ≤ ix := of_decide_eq_false hp
    have hr1 := repB_len 92 [92, 92] (by decide) s
    have he := escL_eq s
    obtain ⟨t, ht⟩ : ∃ t, repB 92 [92, 92] s = t := ⟨_, rfl⟩
    rw [ht] at hr1 he
    have HT2 := Lib.hid ht
    have HE := Lib.hid he
    clear e ha hp he ht
    have hel := escL_len s
    go_enter Tryz.func16, Tryz.ntmps16
    go_wp2_with fail
    refine (idxf_any s _).mono ?_
    rintro e w1 ⟨rfl, hb1⟩
    rw [HIX.out]
    go_wp2_with fail
    refine (repl_any 92 [92, 92] s m _ rfl (by omega) ((hb1.cell (p := ⟨14, 0, none⟩) hlt).trans HM.out)).mono ?_
    rintro e w2 ⟨rfl, hb2⟩
    rw [HT2.out]
    have hb12 := hb1.trans (hb2.mono hb1.size)
    go_wp2_with fail
    refine (repl_any 34 [92, 34] t m _ rfl (by omega) ((hb12.cell (p := ⟨14, 0, none⟩) hlt).trans HM.out)).mono ?_
    rintro e w3 ⟨rfl, hb3⟩
    rw [HE.out]
    go_wp2
    go_ret
    exact ⟨by rw [show (⟨#[34]⟩ : ByteArray) = bs [34] from rfl, bs_append, bs_append]; simp, hb12.trans (hb3.mono hb12.size)⟩

end Go.Proofs.YtalgmnlclflllaaGreatDoor
end

/- A region that draws its order, whose operations but the last ones only read or make memory, and whose last ones come in a forced order: one walk of the text's order serves every order. -/
set_option linter.unusedVariables false
set_option linter.unusedSimpArgs false
section
namespace Go.Proofs.YtalgmnlclflllaaGreatDoor
open Go.RowKit Go

section
variable {P : Program} {ops : Array Oper} {md : Region.Mode} {C : World → Prop}

def wpHeadQ (P : Program) (md : Region.Mode) (ops : Array Oper) (C : World → Prop) (n : Nat) (L : Array Bool → Act → Prop) : Nat → Array Bool → Act → Prop
  | 0, listed, a => L listed a
  | f + 1, listed, a =>
    Region.ready md ops listed ≠ [] ∧ ∀ i ∈ Region.ready md ops listed, i < n ∧ qOp P ops C i (wpHeadQ P md ops C n L f (listed.setIfInBounds i true)) a

theorem wpAny_of_headQ {n g : Nat} {L : Array Bool → Act → Prop} {Q' : Exit → Act → World → Prop} (hL : ∀ listed a w, C w → L listed a → wpAny P md ops Q' g listed a w) :
    ∀ (f : Nat) (listed : Array Bool) (a : Act) (w : World), C w → wpHeadQ P md ops C n L f listed a → wpAny P md ops Q' (f + g) listed a w
  | 0, listed, a, w, hw, h => by rw [Nat.zero_add]; exact hL _ _ _ hw h
  | f + 1, listed, a, w, hw, h => by
    rw [show f + 1 + g = (f + g) + 1 by omega]
    exact ⟨fun h0 => absurd h0 h.1, fun i hi => wpOp_of_qOp hw (fun a' w' hw' h' => wpAny_of_headQ hL f _ a' w' hw' h') (h.2 i hi).2⟩

theorem wpHeadQ_first {n i : Nat} {oi : Oper} {v : Value} {L : Array Bool → Act → Prop} (hi : ops[i]? = some oi) (hsel : ∀ (j : Nat) (o : Oper) cs b, ops[j]? = some o → o.op ≠ .select cs b)
    (hs : Region.sinkB md ops n = true) (hc : Region.chainB md ops n = true) (hn : n < ops.size) (hin : i < n)
    (hdone : ∀ listed a, L listed a → ∀ j ∈ Region.ready md ops listed, n ≤ j) :
    ∀ (f : Nat) (listed : Array Bool) (a : Act), HeadInv md ops n listed →
      (∀ j oj, ops[j]? = some oj → j ≠ i → listed.getD j true = false → (∀ e ∈ oj.after, Region.binds md e = true → e.on ≠ i) → oi.apart ops oj = true) →
      i ∈ Region.ready md ops listed → YieldsIn P ops C oi v a →
      wpHeadQ P md ops C n L f (listed.setIfInBounds i true) (a.put oi.dst v) → wpHeadQ P md ops C n L (f + 1) listed a := by
  intro f
  induction f with
  | zero =>
    intro listed a inv _ hr hy H
    have hun := (mem_ready.1 hr).1
    refine ⟨fun h => (by rw [h] at hr; cases hr), fun j hj => ?_⟩
    have hjn : j < n := by
      rcases Nat.lt_or_ge j n with h | h
      · exact h
      · exact absurd hj (tail_waits hs hc hn inv _ i rfl hin hun j h)
    refine ⟨hjn, ?_⟩
    by_cases hji : j = i
    · subst hji; exact hy.qOp hi H
    · have := hdone _ _ H j (ready_mono hj hji)
      omega
  | succ f ih =>
    intro listed a inv hfree hr hy H
    have hun := (mem_ready.1 hr).1
    refine ⟨fun h => (by rw [h] at hr; cases hr), fun j hj => ?_⟩
    have hjn : j < n := by
      rcases Nat.lt_or_ge j n with h | h
      · exact h
      · exact absurd hj (tail_waits hs hc hn inv _ i rfl hin hun j h)
    refine ⟨hjn, ?_⟩
    by_cases hji : j = i
    · subst hji; exact hy.qOp hi H
    · have h1 := (H.2 j (ready_mono hj hji)).2
      obtain ⟨hjun, oj, hoj, hall⟩ := mem_ready.1 hj
      have hnot : ∀ e ∈ oj.after, Region.binds md e = true → e.on ≠ i := fun e he hb heq => by
        have h1 := hall e he hb
        rw [heq, getD_both hun] at h1
        cases h1
      have h2 := qOp_put hoj (hfree j oj hoj hji hjun hnot) (fun cs b => hsel i oi cs b hi) (fun cs b => hsel j oj cs b hoj) hy h1
      have hfree' : ∀ k ok, ops[k]? = some ok → k ≠ i → (listed.setIfInBounds j true).getD k true = false →
          (∀ e ∈ ok.after, Region.binds md e = true → e.on ≠ i) → oi.apart ops ok = true := fun k ok hk hki hun hno => by
        refine hfree k ok hk hki ?_ hno
        by_cases hjk : j = k
        · subst hjk; exact hjun
        · rw [getD_set_ne true hjk] at hun; exact hun
      refine qOp_mono (fun a' h3 => ih (listed.setIfInBounds j true) a' (inv.set hj hjn) hfree' (ready_mono hr (Ne.symm hji)) h3.1 ?_) h2
      rw [Array.setIfInBounds_comm _ _ hji]
      exact h3.2

theorem wpHeadQ_lex {n g : Nat} {Lq : Act → Prop} (hsel : Region.noSelect ops = true) (hs : Region.sinkB md ops n = true) (hc : Region.chainB md ops n = true) (hn : n < ops.size) :
    ∀ (l : List Oper) (k : Nat) (listed : Array Bool) (a : Act), (∀ j, j < l.length → l[j]? = ops[k + j]?) → k + l.length = n → HeadInv md ops n listed →
    Region.lexHead md ops g l.length k listed = true → wpQuiet P ops C Lq l a →
    wpHeadQ P md ops C n (fun listed' a' => Region.seqB md ops g n listed' = true ∧ Lq a') l.length listed a
  | [], k, listed, a, _, hk, _, hB, h => by
    have : k = n := by simpa using hk
    subst this
    exact ⟨by simpa [Region.lexHead] using hB, h⟩
  | o :: l, k, listed, a, hl, hk, inv, hB, h => by
    have h0 : ops[k]? = some o := by simpa using (hl 0 (by simp)).symm
    simp only [List.length_cons, Region.lexHead, Bool.and_eq_true] at hB
    obtain ⟨⟨hr, hf⟩, hB'⟩ := hB
    have hkn : k < n := by simp only [List.length_cons] at hk; omega
    have hr' : k ∈ Region.ready md ops listed := by simpa using hr
    have hst : qOp P ops C k (wpQuiet P ops C Lq l) a := by unfold qOp; simp only [h0]; exact h
    obtain ⟨v, hy, hK⟩ := yieldsIn_of_qOp h0 hst
    exact wpHeadQ_first h0 (Region.noSelect_spec hsel) hs hc hn hkn (fun listed' a' hL => seqB_ready hL.1) l.length listed a inv (Region.free_spec h0 hf) hr' hy
      (wpHeadQ_lex hsel hs hc hn l (k + 1) _ _ (fun j hj => by have := hl (j + 1) (by simp; omega); simpa [Nat.add_assoc, Nat.add_comm 1 j] using this) (by simp only [List.length_cons] at hk; omega) (inv.set hr' hkn) hB' hK)

theorem wp_region_quiet_tail {id : Nat} {Q : Exit → Act → World → Prop} {a : Act} {w : World} {l : List Oper} (n : Nat) (hm : P.follows .mixedOrders = true) (hB : Region.lexTailB .any l.toArray n = true)
    (hC : C { w with drawn := w.drawn + 1 })
    (h : wpQuiet P l.toArray C (fun a' => ∀ w', C w' → wpList P l.toArray Q (l.drop n) a' w') (l.take n) a) : (Code.region id l.toArray true).wp P Q a w := by
  simp only [Region.lexTailB, Bool.and_eq_true, decide_eq_true_eq] at hB
  obtain ⟨⟨⟨⟨hsel, hn⟩, hs⟩, hc⟩, hlex⟩ := hB
  have hn' : n < l.length := by simpa using hn
  have htl : (l.take n).length = n := by simp; omega
  have hdl : (l.drop n).length = l.toArray.size - n := by simp
  have inv0 : HeadInv .any l.toArray n (Array.replicate l.toArray.size false) :=
    ⟨by simp, fun j oj _ hl => (by rw [getD_replicate_false] at hl; cases hl), fun t _ ht => getD_in (by simpa using ht) (getD_replicate_false _ _)⟩
  have H := wpHeadQ_lex (md := .any) (g := l.toArray.size - n) hsel hs hc hn (l.take n) 0 _ a (fun j hj => by
    have hj' : j < n := by rw [htl] at hj; exact hj
    simp [hj']) (by simpa using htl) inv0 (by rw [htl]; exact hlex) h
  refine wp_region_any hm ?_
  have := wpAny_of_headQ (Q' := Q) (g := l.toArray.size - n) (fun listed a' w' hw' hL => by
    have := wpAny_of_seq (md := .any) (Q' := Q) (l.drop n) n listed a' w' (fun j => by simp [List.getElem?_drop]) (by rw [hdl]; exact hL.1) (hL.2 w' hw')
    rwa [hdl] at this) _ _ _ _ hC H
  rw [htl, show n + (l.toArray.size - n) = l.toArray.size by omega] at this
  exact this

/-- the class: worlds that have grown beyond w -/
theorem wp_region_grow_tail {id : Nat} {Q : Exit → Act → World → Prop} {a : Act} {w : World} {l : List Oper} (n : Nat) (hm : P.follows .mixedOrders = true) (hB : Region.lexTailB .any l.toArray n = true)
    (h : wpQuiet P l.toArray (fun w' => ∃ g : Grow w, w' = g.v) (fun a' => ∀ w', (∃ g : Grow w, w' = g.v) → wpList P l.toArray Q (l.drop n) a' w') (l.take n) a) : (Code.region id l.toArray true).wp P Q a w :=
  wp_region_quiet_tail (C := fun w' => ∃ g : Grow w, w' = g.v) n hm hB ⟨⟨w.drew, (Below.refl _ _).drew⟩, rfl⟩ h
end

end Go.Proofs.YtalgmnlclflllaaGreatDoor
end
