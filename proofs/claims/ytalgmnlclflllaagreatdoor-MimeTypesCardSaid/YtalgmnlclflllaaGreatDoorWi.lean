/- Texts of one walk, merged: XJa XI3 XI4 XJb XVK XV1 XVA XVB XVL XJc. -/
import Derived.Test.YtalgmnlclflllaaGreatDoorWh
import Derived.LoopTactic
import Derived.Deep.DeepFit

/- mime.Text at a part of text without parameters; the chapter's example. -/
set_option linter.unusedVariables false
set_option linter.unusedSimpArgs false
section
set_option linter.unusedVariables false
set_option linter.unusedSimpArgs false
namespace Go.Proofs.YtalgmnlclflllaaGreatDoor
open Go.RowKit Go

/-- what the laws of mime read besides: the errors, the table of powers, a length's bound -/
structure MimeW (w : World) (ea ef : Addr) (mx : Int) : Prop where
  env : EnvM w ea ef
  tab : TabQ w
  max : w.cell? ⟨14, 0, none⟩ = some (.int .i64 mx)
theorem MimeW.below {w w' : World} {ea ef : Addr} {mx : Int} (h : MimeW w ea ef mx) (hb : Below w.heap.size w w') : MimeW w' ea ef mx :=
  ⟨h.env.below hb, TabQ.below h.tab hb, (hb.cell (p := ⟨14, 0, none⟩) (cell_lt h.max)).trans h.max⟩

theorem qtL_lenM (s : List UInt8) (h : s.length ≤ 1000000000) : (qtL s).length ≤ 2 * s.length + 20 := by
  unfold qtL
  split
  · have := escL_len s
    simp; omega
  · have := decq_length 10 s.length (by omega) (by decide)
    simp; omega

set_option maxRecDepth 100000 in
theorem orNilM_any (s : List UInt8) (ea ef : Addr) (mx : Int) (w : World) (hl : s.length ≤ 1000000000) (h : MimeW w ea ef mx) : Calls Tryz.prog 36 #[.string (bs s)] w fun e w' => e = .returned (.string (bs (nilOr s))) ∧ Below w.heap.size w w' := by
  have HQ := Lib.hid (quote_any s mx w hl h.max h.tab)
  clear h
  unfold nilOr
  by_cases hs : s = []
  · subst hs
    rw [if_pos rfl]
    go_enter Tryz.func36, Tryz.ntmps36
    go_wp2
    go_ret
    exact ⟨rfl, Below.refl _ _⟩
  · rw [if_neg hs]
    have e1 : (s == []) = false := by simpa using hs
    have e2 : s.isEmpty = false := by simpa using hs
    clear hs
    go_enter Tryz.func36, Tryz.ntmps36
    go_wp2_with fail
    refine HQ.out.mono ?_
    rintro e w1 ⟨rfl, hb1⟩
    go_wp2
    go_ret
    exact ⟨rfl, hb1⟩

theorem rowM_any (v : Value) (ls : List (List UInt8)) (w : World) (hv : StrsAt w v ls) (hn : ls.length ≤ 1000000000) (hl : (joinSp ls).length ≤ 100000000000000) : Calls Tryz.prog 35 #[v] w fun e w' => e = .returned (.string (bs (rowTx ls))) ∧ Below w.heap.size w w' := by
  have HJ := Lib.hid (joinBl_any w v ls hv (by omega) (by omega))
  unfold rowTx
  obtain ⟨J, hJ⟩ : ∃ J, joinSp ls = J := ⟨_, rfl⟩
  rw [hJ] at HJ hl ⊢
  clear hJ hv
  go_enter Tryz.func35, Tryz.ntmps35
  go_wp2_with fail
  refine HJ.out.mono ?_
  rintro e w1 ⟨rfl, hb1⟩
  go_wp2
  go_ret
  exact ⟨rfl, hb1⟩

set_option maxRecDepth 100000 in
set_option maxHeartbeats 4000000 in
theorem textPlain_any (sub id desc enc : List UInt8) (pa ka : Option Addr) (pc kc : Nat) (ap : Int) (bo fi ln : Nat) (ea ef : Addr) (mx : Int) (w : World) (h : MimeW w ea ef mx) (h1 : bo ≤ fi) (h2 : fi ≤ 1000000) (hln : ln ≤ 1000000)
    (hs : sub.length ≤ 1000000) (hi : id.length ≤ 1000000) (hd : desc.length ≤ 1000000) (he : enc.length ≤ 1000000) :
    Calls Tryz.prog 14 #[prtV textT sub (.slice pa 0 pc) id desc enc ap bo fi ln (.slice ka 0 kc)] w fun e w' => e = .returned (.string (bs (rowTx [qtL textT, qtL sub, nilL, nilOr id, nilOr desc, qtL enc, Lib.decDigits (fi - bo), Lib.decDigits ln]))) ∧ Below w.heap.size w w' := by
  have q1 := qtL_lenM textT (by decide)
  have q2 := qtL_lenM sub (by omega)
  have q3 : (nilOr id).length ≤ 2000020 := by unfold nilOr; split; · simp [nilL]
                                              · have := qtL_lenM id (by omega); omega
  have q4 : (nilOr desc).length ≤ 2000020 := by unfold nilOr; split; · simp [nilL]
                                                · have := qtL_lenM desc (by omega); omega
  have q5 := qtL_lenM enc (by omega)
  have q6 := decq_length 10 (fi - bo) (by omega) (by decide)
  have q7 := decq_length 10 ln (by omega) (by decide)
  have hfl : (joinSp [qtL textT, qtL sub, nilL, nilOr id, nilOr desc, qtL enc, Lib.decDigits (fi - bo), Lib.decDigits ln]).length ≤ 100000000000000 := by
    simp [joinSp, textT, nilL] at *
    omega
  have HJ := Lib.hid hfl
  obtain ⟨i0, hi0, hz0, hz1, hz2⟩ := info_parts info_str
  have hP : PrtC (w.alloc (.cells #[.string (bs textT), .string (bs sub), .slice pa 0 pc, .string (bs id), .string (bs desc), .string (bs enc), .int .i64 ap, .int .i64 (bo : Int), .int .i64 (fi : Int), .int .i64 (ln : Int), .slice ka 0 kc] 26)) w.heap.size textT sub (.slice pa 0 pc) id desc enc ap bo fi ln (.slice ka 0 kc) := heap_new w _
  have hb0 : Below w.heap.size w (w.alloc (.cells #[.string (bs textT), .string (bs sub), .slice pa 0 pc, .string (bs id), .string (bs desc), .string (bs enc), .int .i64 ap, .int .i64 (bo : Int), .int .i64 (fi : Int), .int .i64 (ln : Int), .slice ka 0 kc] 26)) := (Below.refl _ _).alloc (Nat.le_refl _) _
  have hM := h.below hb0
  clear q1 q2 q3 q4 q5 q6 q7 hfl h
  show Calls _ _ #[.agg #[.string ⟨#[116, 101, 120, 116]⟩, .string (bs sub), .slice pa 0 pc, .string (bs id), .string (bs desc), .string (bs enc), .int .i64 ap, .int .i64 (bo : Int), .int .i64 (fi : Int), .int .i64 (ln : Int), .slice ka 0 kc]] _ _
  obtain ⟨W1, hW1⟩ : ∃ W, w.alloc (.cells #[.string ⟨#[116, 101, 120, 116]⟩, .string (bs sub), .slice pa 0 pc, .string (bs id), .string (bs desc), .string (bs enc), .int .i64 ap, .int .i64 (bo : Int), .int .i64 (fi : Int), .int .i64 (ln : Int), .slice ka 0 kc] 26) = W := ⟨_, rfl⟩
  have hP1 : PrtC W1 w.heap.size textT sub (.slice pa 0 pc) id desc enc ap bo fi ln (.slice ka 0 kc) := by rw [← hW1]; exact hP
  have hB1 : Below w.heap.size w W1 := by rw [← hW1]; exact hb0
  have hM1 : MimeW W1 ea ef mx := by rw [← hW1]; exact hM
  have hz1' : w.heap.size < W1.heap.size := hP1.lt
  clear hP hb0 hM
  obtain ⟨g, hg⟩ : ∃ g, w.heap.size = g := ⟨_, rfl⟩
  go_enter Tryz.func14, Tryz.ntmps14
  go_upto_region 1 with fail
  rw [hg] at hP1 hz1' hB1
  clear hW1
  obtain ⟨p0, p1, p2, p3, p4, p5, p6, p7, p8, p9, p10⟩ := hP1.cells
  replace p0 : W1.cell? ⟨g, 0, none⟩ = some (.string ⟨#[116, 101, 120, 116]⟩) := p0
  have hH0 : Hid (∀ G : Grow W1, Calls Tryz.prog 16 #[.string ⟨#[116, 101, 120, 116]⟩] G.v fun e w' => e = .returned (.string (bs (qtL textT))) ∧ Below G.v.heap.size G.v w') := fun G => quote_any textT mx G.v (by decide) ((hM1.below G.h).max) (hM1.below G.h).tab
  have hH1 := Lib.hid (fun G : Grow W1 => quote_any sub mx G.v (by omega) ((hM1.below G.h).max) (hM1.below G.h).tab)
  have hH2 := Lib.hid (fun G : Grow W1 => orNilM_any id ea ef mx G.v (by omega) (hM1.below G.h))
  have hH3 := Lib.hid (fun G : Grow W1 => orNilM_any desc ea ef mx G.v (by omega) (hM1.below G.h))
  have hH4 := Lib.hid (fun G : Grow W1 => quote_any enc mx G.v (by omega) ((hM1.below G.h).max) (hM1.below G.h).tab)
  have hH5 := Lib.hid (fun G : Grow W1 => itoaQ_any (fi - bo) G.v (by omega) (hM1.below G.h).tab)
  have HM := Lib.hid hM1
  have g0 := fun G : Grow W1 => G.cell p0
  have g1 := fun G : Grow W1 => G.cell p1
  have g3 := fun G : Grow W1 => G.cell p3
  have g4 := fun G : Grow W1 => G.cell p4
  have g5 := fun G : Grow W1 => G.cell p5
  have g7 := fun G : Grow W1 => G.cell p7
  have g8 := fun G : Grow W1 => G.cell p8
  have g9 := fun G : Grow W1 => G.cell p9
  have hsub : IntKind.i64.wrap ((fi : Int) - (bo : Int)) = ((fi - bo : Nat) : Int) := by rw [IntKind.wrap_i64]; omega
  clear hM1
  go_wp2
  refine wp_region_grow_tail 22 (by kernel_rfl) (by kernel_rfl) ?_
  simp only [List.take_succ_cons, List.take_zero, List.drop_succ_cons, List.drop_zero]
  repeat (go_big_quiet_step (first | (go_at_call 36; first | with_reducible exact grow_call (hH2.out _) | with_reducible exact grow_call (hH3.out _)) | (go_at_call 16; first | with_reducible exact grow_call (hH0.out _) | with_reducible exact grow_call (hH1.out _) | with_reducible exact grow_call (hH4.out _)) | (go_at_call 37; with_reducible exact grow_call (hH5.out _))))
  refine wpQuiet_nil ?_
  rintro _ ⟨gw, rfl⟩
  have hMw := HM.out.below gw.h
  have hown : OwnS (gw.v.alloc (.cells #[.string (bs (qtL textT)), .string (bs (qtL sub)), .string ⟨#[78, 73, 76]⟩, .string (bs (nilOr id)), .string (bs (nilOr desc)), .string (bs (qtL enc)), .string (bs (Lib.decDigits (fi - bo)))] 9)) gw.v.heap.size (.slice (some ⟨gw.v.heap.size, 0, none⟩) 7 7) [qtL textT, qtL sub, nilL, nilOr id, nilOr desc, qtL enc, Lib.decDigits (fi - bo)] := World.ownsRow_lit gw.v _ 7 (Nat.le_refl _) (by decide) rfl
  have hb3 : Below gw.v.heap.size gw.v (gw.v.alloc (.cells #[.string (bs (qtL textT)), .string (bs (qtL sub)), .string ⟨#[78, 73, 76]⟩, .string (bs (nilOr id)), .string (bs (nilOr desc)), .string (bs (qtL enc)), .string (bs (Lib.decDigits (fi - bo)))] 9)) := (Below.refl _ _).alloc (Nat.le_refl _) _
  have c0 := (hb3.cell (p := ⟨g, 0, none⟩) (cell_lt (g0 gw))).trans (g0 gw)
  have c9 := (hb3.cell (p := ⟨g, 9, none⟩) (cell_lt (g9 gw))).trans (g9 gw)
  have hzw := gw.h.size
  have hM4 := hMw.below hb3
  clear hH0 hH1 hH2 hH3 hH4 hH5 g0 g1 g3 g4 g5 g7 g8 g9 p0 p1 p2 p3 p4 p5 p6 p7 p8 p9 p10
  go_upto_region 19 with fail
  obtain ⟨W3, hW3⟩ : ∃ W, gw.v.alloc (.cells #[.string (bs (qtL textT)), .string (bs (qtL sub)), .string ⟨#[78, 73, 76]⟩, .string (bs (nilOr id)), .string (bs (nilOr desc)), .string (bs (qtL enc)), .string (bs (Lib.decDigits (fi - bo)))] 9) = W := ⟨_, rfl⟩
  have hz3 : gw.v.heap.size < W3.heap.size := by rw [← hW3]; simp
  rw [hW3] at hown hb3 c0 c9 hM4 ⊢
  obtain ⟨g3, hg3⟩ : ∃ x, gw.v.heap.size = x := ⟨_, rfl⟩
  have hbG : Below g w gw.v := hB1.trans (gw.h.mono (by omega))
  rw [hg3] at hown hz3 hb3 ⊢
  clear hW3 hMw
  go_wp2_with fail
  refine (itoaQ_any ln _ (by omega) hM4.tab).mono ?_
  rintro e w4 ⟨rfl, hb4⟩
  have hown4 := OwnS.over hown hb4
  have hz4 := hb4.size
  obtain ⟨DL, hDL⟩ : ∃ x, Lib.decDigits ln = x := ⟨_, rfl⟩
  rw [hDL] at HJ ⊢
  have HDL := Lib.hid hDL
  clear hDL c0 c9
  go_wp2_with (at_builtin; refine wpList_append_own _ rfl _ _ 34 rfl g3 9 i0 (.string ⟨#[]⟩) 1 16 Tryz.underlying34 hi0 hz0 hz1 hz2 rfl (by decide) _ _ _ rfl (World.ownsRow.alloc hown4 _) ⟨w4.heap.size, 0, none⟩ 1 1 [.string (bs DL)] rfl rfl ?e1 ?e2 ?e3 ?e4 ?e5 ?_)
  case e1 =>
    intro j u hj
    match j, hj with
    | 0, hj => simp at hj; subst hj; simp [Addr.add]
    | n + 1, hj => simp at hj
  case e2 => intro u hu; simp at hu; subst hu; rfl
  case e3 => first | (unfold maxLen; simp; done) | simp
  case e4 => first | omega | (simp; omega) | simp
  case e5 => first | omega | (simp; omega)
  intro v' w5 hown5 hgrow _
  have R1 : OwnS w5 g3 v' ([qtL textT, qtL sub, nilL, nilOr id, nilOr desc, qtL enc, Lib.decDigits (fi - bo)] ++ [DL]) := OwnS.step hown5
  have R2 : Below g3 gw.v w5 := OwnS.below ((hb3.trans (hb4.mono (by omega))).alloc (by omega) _) (World.ownsRow.alloc hown4 _) hgrow (by simp; omega)
  clear hown5 hgrow hown4 hown
  go_wp2_with fail
  refine (rowM_any v' _ _ R1.strs (by simp) (by rw [← HDL.out] at HJ ⊢; exact HJ.out)).mono ?_
  rintro e w6 ⟨rfl, hb6⟩
  go_wp2
  go_ret
  refine ⟨by rw [HDL.out]; rfl, ?_⟩
  have := R2.size
  rw [hg]
  exact (hbG.trans (R2.mono (by have := hbG.size; omega))).trans (hb6.mono (by have := hbG.size; omega))

end Go.Proofs.YtalgmnlclflllaaGreatDoor
end

/- mime (plain): bodies put between delimiters are a multipart's kids. -/
set_option linter.unusedVariables false
set_option linter.unusedSimpArgs false
section
namespace Go.Proofs.YtalgmnlclflllaaGreatDoor
open Go

theorem ends_lines (r : List UInt8) : ∀ t : List UInt8, (t = [] ∨ t.getLast? = some 10) → linesOf (t ++ r) = linesOf t ++ linesOf r := by
  refine lines_induction ?_ ?_ ?_
  · intro _; rfl
  · intro a ha hn h
    rcases h with h | h
    · exact absurd h ha
    · exact absurd rfl (hn 10 (by rw [last_split h]; simp))
  · intro a t hn ih h
    rw [List.append_assoc, List.cons_append, linesOf_nl a (t ++ r) hn, linesOf_nl a t hn, List.cons_append]
    by_cases ht : t = []
    · subst ht; rfl
    · rw [ih (.inr ?_)]
      rcases h with h | h
      · simp at h
      · rw [List.getLast?_append, List.getLast?_cons] at h
        cases hl : t.getLast? with
        | none => rw [List.getLast?_eq_none_iff] at hl; exact absurd hl ht
        | some d => rw [hl] at h; simpa using h

def zqT : List UInt8 := [122, 113, 122, 113, 122, 113]
def dlT : List UInt8 := [45, 45] ++ zqT
def hdrT : List UInt8 := [67, 111, 110, 116, 101, 110, 116, 45, 84, 121, 112, 101, 58, 32, 109, 117, 108, 116, 105, 112, 97, 114, 116, 47, 109, 105, 120, 101, 100, 59, 32, 98, 111, 117, 110, 100, 97, 114, 121, 61, 122, 113, 122, 113, 122, 113, 13, 10, 13, 10]
def mixedT : List UInt8 := [109, 105, 120, 101, 100]
def blockT (b : List UInt8) : List UInt8 := dlT ++ [13, 10, 13, 10] ++ b ++ [13, 10]
def tailT (closed : Bool) : List UInt8 := if closed then dlT ++ [45, 45, 13, 10] else []
def joinT (closed : Bool) : List (List UInt8) → List UInt8
  | [] => tailT closed
  | b :: bs => blockT b ++ joinT closed bs
/-- a text stands in another one -/
def hasL (s t : List UInt8) : Prop := ∃ a b, s = a ++ t ++ b

/-- a line of a text without the boundary is no delimiter -/
theorem line_sub {s x : List UInt8} (h : x ∈ linesOf s) : ∃ a b, s = a ++ x ++ b := by
  have hf := linesOf_flatten s
  obtain ⟨l1, l2, he⟩ := List.append_of_mem h
  refine ⟨l1.flatten, l2.flatten, ?_⟩
  rw [← hf, he]
  simp
theorem trimE_pre (l : List UInt8) : ∃ r, l = trimE l ++ r := by
  unfold trimE
  refine ⟨(l.reverse.takeWhile blankB).reverse, ?_⟩
  rw [← List.reverse_append, List.takeWhile_append_dropWhile, List.reverse_reverse]
theorem trimSuffix_pre (l p : List UInt8) : ∃ r, l = Lib.trimSuffix l p ++ r := by
  unfold Lib.trimSuffix
  split
  · exact ⟨l.drop (l.length - p.length), (List.take_append_drop _ _).symm⟩
  · exact ⟨[], by simp⟩
theorem textL_pre (l : List UInt8) : ∃ r, l = textL l ++ r := by
  unfold textL
  split
  · obtain ⟨r1, h1⟩ := trimSuffix_pre l [10]
    obtain ⟨r2, h2⟩ := trimSuffix_pre (Lib.trimSuffix l [10]) [13]
    exact ⟨r2 ++ r1, by rw [← List.append_assoc, ← h2, ← h1]⟩
  · exact ⟨[], by simp⟩
theorem zq_split {a b c d : List UInt8} (h : a ++ zqT ++ b = c ++ d) (hd : ∀ x ∈ d, x = 13 ∨ x = 10) : hasL c zqT := by
  -- the boundary has no byte of d
  have hl := congrArg List.length h
  simp only [List.length_append] at hl
  have hz : ∀ x ∈ zqT, ¬ (x = 13 ∨ x = 10) := by decide
  have hcl : a.length + zqT.length ≤ c.length := by
    by_cases hc : a.length + zqT.length ≤ c.length
    · exact hc
    · exfalso
      have hzl : zqT.length = 6 := rfl
      have hlt : a.length + zqT.length - 1 < (a ++ zqT ++ b).length := by simp only [List.length_append]; omega
      have e1 : (a ++ zqT ++ b)[a.length + zqT.length - 1]? = some 113 := by
        rw [List.append_assoc, List.getElem?_append_right (by omega), List.getElem?_append_left (by omega), show a.length + zqT.length - 1 - a.length = 5 by omega]
        rfl
      rw [h, List.getElem?_append_right (by omega)] at e1
      have := hd 113 (List.mem_of_getElem? e1)
      exact absurd this (by decide)
  refine ⟨a, c.drop (a.length + zqT.length), ?_⟩
  have e := congrArg (List.take c.length) h
  rw [List.take_append_of_le_length (Nat.le_refl _), List.take_length] at e
  have e2 : (a ++ zqT ++ b).take c.length = (a ++ zqT) ++ b.take (c.length - (a ++ zqT).length) := by
    rw [List.take_append, List.take_of_length_le (by simp only [List.length_append]; omega)]
  rw [e2] at e
  rw [← e]
  simp only [List.append_assoc]
  congr 2
  rw [show a.length + zqT.length = (a ++ zqT).length by simp, ← List.append_assoc, List.drop_left]
theorem no_delim {b x : List UInt8} (hb : ¬ hasL b zqT) (hx : x ∈ linesOf (b ++ [13, 10])) : trimE (textL x) ≠ dlT ∧ trimE (textL x) ≠ dlT ++ [45, 45] := by
  have key : ∀ r, trimE (textL x) ≠ [45, 45] ++ zqT ++ r := by
    intro r h
    obtain ⟨r1, h1⟩ := trimE_pre (textL x)
    obtain ⟨r2, h2⟩ := textL_pre x
    obtain ⟨a, c, h3⟩ := line_sub hx
    rw [h] at h1
    rw [h1] at h2
    have h4 : (a ++ [45, 45]) ++ zqT ++ (r ++ r1 ++ r2 ++ c) = b ++ [13, 10] := by
      rw [h3, h2]
      simp
    exact hb (zq_split h4 (by simp))
  exact ⟨fun h => key [] (by rw [h]; simp [dlT]), fun h => key [45, 45] (by rw [h]; simp [dlT])⟩
theorem cutGo_skip (m : List UInt8) (fin : Nat) (dl : List UInt8) : ∀ (xs ls : List (List UInt8)) (out : List (Nat × Nat)) (p : Nat), (∀ x ∈ xs, trimE (textL x) ≠ dl ∧ trimE (textL x) ≠ dl ++ [45, 45]) → cutGo m fin dl out p (xs ++ ls) = cutGo m fin dl out (p + xs.flatten.length) ls
  | [], ls, out, p, _ => by simp
  | x :: xs, ls, out, p, h => by
    obtain ⟨h1, h2⟩ := h x (by simp)
    rw [List.cons_append, cutGo, if_neg h2, if_neg h1, cutGo_skip m fin dl xs ls out _ (fun y hy => h y (List.mem_cons_of_mem _ hy))]
    congr 1
    simp; omega
/-- the spans of the bodies -/
def spansJ (closed : Bool) (fin : Nat) : Nat → List (List UInt8) → List (Nat × Nat)
  | _, [] => []
  | p, b :: bs => (p + 10, if bs = [] ∧ closed = false then fin else p + 12 + b.length) :: spansJ closed fin (p + 14 + b.length) bs
theorem joinT_lines (closed : Bool) (b : List UInt8) (bs : List (List UInt8)) : linesOf (joinT closed (b :: bs)) = (dlT ++ [13, 10]) :: [13, 10] :: (linesOf (b ++ [13, 10]) ++ linesOf (joinT closed bs)) := by
  have e : joinT closed (b :: bs) = (dlT ++ [13]) ++ 10 :: ([13] ++ 10 :: ((b ++ [13, 10]) ++ joinT closed bs)) := by simp [joinT, blockT]
  rw [e, linesOf_nl (dlT ++ [13]) _ (by decide), linesOf_nl [13] _ (by decide), ends_lines _ (b ++ [13, 10]) (.inr (by simp))]
  simp
theorem cut_join (m : List UInt8) (closed : Bool) (fin : Nat) : ∀ (bs : List (List UInt8)) (pre : List UInt8) (p : Nat) (out : List (Nat × Nat)), m = pre ++ joinT closed bs → pre.length = p → (∀ b ∈ bs, ¬ hasL b zqT) →
    cutGo m fin dlT out p (linesOf (joinT closed bs)) = (if bs = [] ∧ closed = false then out else endL (aheadL m p) out) ++ spansJ closed fin p bs
  | [], pre, p, out, hm, hp, _ => by
    cases closed with
    | false => simp [joinT, tailT, spansJ, linesOf, cutGo]
    | true =>
      have e : linesOf (joinT true []) = [dlT ++ [45, 45, 13, 10]] := by decide +kernel
      rw [e, cutGo, if_pos (by decide +kernel), if_neg (fun h => by cases h.2)]
      simp [spansJ]
  | b :: bs, pre, p, out, hm, hp, hb => by
    have hb1 := hb b (by simp)
    have ih := cut_join m closed fin bs (pre ++ blockT b) (p + 14 + b.length) (endL (aheadL m p) out ++ [(p + 10, fin)]) (by rw [hm]; simp [joinT]) (by simp [blockT, dlT, zqT]; omega) (fun y hy => hb y (List.mem_cons_of_mem _ hy))
    rw [joinT_lines, cutGo, if_neg (by decide +kernel), if_pos (by decide +kernel), cutGo, if_neg (by decide +kernel), if_neg (by decide +kernel), cutGo_skip m fin dlT _ _ _ _ (fun x hx => no_delim hb1 hx), linesOf_flatten]
    have e1 : p + (dlT ++ [13, 10]).length = p + 10 := rfl
    have e2 : p + 10 + ([13, 10] : List UInt8).length + (b ++ [13, 10]).length = p + 14 + b.length := by simp; omega
    have hn : ¬ (b :: bs = [] ∧ closed = false) := fun h => by cases h.1
    rw [e1, e2, ih, if_neg hn]
    have ha : aheadL m (p + 14 + b.length) = p + 12 + b.length := by
      have em : m = (pre ++ (dlT ++ [13, 10, 13, 10] ++ b)) ++ ([13, 10] ++ joinT closed bs) := by rw [hm]; simp [joinT, blockT]
      have el : (pre ++ (dlT ++ [13, 10, 13, 10] ++ b)).length = p + 12 + b.length := by simp [dlT, zqT]; omega
      have a1 : m[p + 14 + b.length - 1]? = some 10 := by
        rw [em, List.getElem?_append_right (by rw [el]; omega), el, show p + 14 + b.length - 1 - (p + 12 + b.length) = 1 by omega]
        rfl
      have a2 : m[p + 14 + b.length - 1 - 1]? = some 13 := by
        rw [em, List.getElem?_append_right (by rw [el]; omega), el, show p + 14 + b.length - 1 - 1 - (p + 12 + b.length) = 0 by omega]
        rfl
      unfold aheadL
      rw [if_pos ⟨by omega, a1⟩, if_pos ⟨by omega, a2⟩]
      omega
    rw [spansJ]
    by_cases hc : bs = [] ∧ closed = false
    · rw [if_pos hc, if_pos hc]
      simp
    · rw [if_neg hc, if_neg hc, ha]
      have : endL (p + 12 + b.length) (endL (aheadL m p) out ++ [(p + 10, fin)]) = endL (aheadL m p) out ++ [(p + 10, p + 12 + b.length)] := by
        unfold endL
        rw [List.getLast?_append, List.getLast?_singleton]
        simp only [Option.some_or, List.dropLast_concat]
        rw [show max (p + 12 + b.length) (p + 10) = p + 12 + b.length by omega]
      rw [this]
      simp

end Go.Proofs.YtalgmnlclflllaaGreatDoor
end

/- mime (plain): the parts of bodies put between delimiters. -/
set_option linter.unusedVariables false
set_option linter.unusedSimpArgs false
section
namespace Go.Proofs.YtalgmnlclflllaaGreatDoor
open Go

def hdr1 : List UInt8 := [67, 111, 110, 116, 101, 110, 116, 45, 84, 121, 112, 101, 58, 32, 109, 117, 108, 116, 105, 112, 97, 114, 116, 47, 109, 105, 120, 101, 100, 59, 32, 98, 111, 117, 110, 100, 97, 114, 121, 61, 122, 113, 122, 113, 122, 113, 13]
theorem go_stop (fs : List Fld) (op : Bool) (p : Nat) (rest : List (List UInt8)) : goL fs op p ([13, 10] :: rest) = (fs, p + 2) := by
  have h2 : textL [13, 10] = [] := by decide +kernel
  rw [goL, h2]
  rfl
theorem go_hdr (rest : List (List UInt8)) : goL [] false 0 ((hdr1 ++ [10]) :: [13, 10] :: rest) = goL [] false 0 [hdr1 ++ [10], [13, 10]] := by
  have h1 : (turnL [] false 0 (0 + (hdr1 ++ [10]).length) (textL (hdr1 ++ [10]))).2.2 = true := by decide +kernel
  have key : ∀ r, goL [] false 0 ((hdr1 ++ [10]) :: [13, 10] :: r) = ((turnL [] false 0 (0 + (hdr1 ++ [10]).length) (textL (hdr1 ++ [10]))).1, 0 + (hdr1 ++ [10]).length + 2) := by
    intro r
    rw [goL, if_pos h1, go_stop]
  rw [key, key]
theorem hdr_lines (r : List UInt8) : linesOf (hdrT ++ r) = (hdr1 ++ [10]) :: [13, 10] :: linesOf r := by
  have e : hdrT ++ r = hdr1 ++ 10 :: ([13] ++ 10 :: r) := rfl
  rw [e, linesOf_nl hdr1 _ (by decide), linesOf_nl [13] _ (by decide)]
  rfl
theorem hdr_fields (r : List UInt8) : fieldsL (hdrT ++ r) = fieldsL hdrT ∧ bodyL (hdrT ++ r) = bodyL hdrT := by
  have h0 := hdr_lines []
  rw [List.append_nil] at h0
  unfold fieldsL bodyL
  rw [hdr_lines, h0, go_hdr, go_hdr (linesOf [])]
  exact ⟨rfl, rfl⟩
theorem hdr_type : typeOf (flds200 hdrT) = (multiT, mixedT, [(boundT, zqT)]) := by decide +kernel
theorem hdr_body : bodyL hdrT = 50 := by decide +kernel
theorem nl_fields (r : List UInt8) : fieldsL ([13, 10] ++ r) = [] ∧ bodyL ([13, 10] ++ r) = 2 := by
  have e : ([13, 10] : List UInt8) ++ r = [13] ++ 10 :: r := rfl
  have h2 : textL [13, 10] = [] := by decide +kernel
  unfold fieldsL bodyL
  rw [e, linesOf_nl [13] _ (by decide)]
  have h3 : ([13] : List UInt8) ++ [10] = [13, 10] := rfl
  rw [h3, goL, h2]
  simp [turnL]
theorem type_none : typeOf [] = (textT, plainT, []) := by decide +kernel
theorem spansJ_len (closed : Bool) (fin : Nat) : ∀ (bs : List (List UInt8)) (p : Nat), (spansJ closed fin p bs).length = bs.length
  | [], _ => rfl
  | b :: bs, p => by simp [spansJ, spansJ_len closed fin bs]
/-- the k-th span holds an empty line and the k-th body -/
theorem spansJ_at (m : List UInt8) (closed : Bool) : ∀ (bs : List (List UInt8)) (pre : List UInt8) (p : Nat), m = pre ++ joinT closed bs → pre.length = p → ∀ (k : Nat) (b : List UInt8), bs[k]? = some b →
    ∃ s : Nat × Nat, (spansJ closed m.length p bs)[k]? = some s ∧ s.1 + 2 ≤ s.2 ∧ s.2 ≤ m.length ∧ pieceM m s.1 s.2 = [13, 10] ++ (if k + 1 = bs.length ∧ closed = false then b ++ [13, 10] else b)
  | [], _, _, _, _, k, b, h => by simp at h
  | b0 :: bs, pre, p, hm, hp, 0, b, h => by
    obtain rfl : b0 = b := by simpa using h
    have em : m = (pre ++ (dlT ++ [13, 10])) ++ ([13, 10] ++ b0 ++ [13, 10] ++ joinT closed bs) := by rw [hm]; simp [joinT, blockT]
    have el : (pre ++ (dlT ++ [13, 10])).length = p + 10 := by simp [dlT, zqT]; omega
    have hd : m.drop (p + 10) = [13, 10] ++ b0 ++ [13, 10] ++ joinT closed bs := by rw [em, ← el, List.drop_left]
    have hml : m.length = p + 14 + b0.length + (joinT closed bs).length := by
      rw [em, List.length_append, el]; simp; omega
    rw [spansJ]
    refine ⟨_, rfl, ?_, ?_, ?_⟩
    · simp only
      split <;> omega
    · simp only
      split <;> omega
    · simp only
      unfold pieceM
      rw [hd]
      by_cases hc : bs = [] ∧ closed = false
      · obtain ⟨rfl, rfl⟩ := hc
        simp only [true_and, if_true, and_self, List.length_cons, List.length_nil, Nat.zero_add]
        have : joinT false [] = [] := rfl
        rw [this, List.append_nil, List.take_of_length_le]
        · simp
        · rw [this] at hml; simp at hml ⊢; omega
      · have hc2 : ¬ (0 + 1 = (b0 :: bs).length ∧ closed = false) := by
          rintro ⟨h1, h2⟩
          refine hc ⟨List.eq_nil_of_length_eq_zero (by simpa using h1.symm), h2⟩
        rw [if_neg hc, if_neg hc2, show p + 12 + b0.length - (p + 10) = ([13, 10] ++ b0 : List UInt8).length by simp; omega, List.append_assoc ([13, 10] ++ b0), List.take_left]
  | b0 :: bs, pre, p, hm, hp, k + 1, b, h => by
    obtain ⟨s, h1, h2, h3, h4⟩ := spansJ_at m closed bs (pre ++ blockT b0) (p + 14 + b0.length) (by rw [hm]; simp [joinT]) (by simp [blockT, dlT, zqT]; omega) k b (by simpa using h)
    refine ⟨s, by rw [spansJ, List.getElem?_cons_succ]; exact h1, h2, h3, ?_⟩
    rw [h4]
    simp only [List.length_cons, Nat.add_right_cancel_iff]
/-- a part that begins with an empty line -/
theorem nl_part (m : List UInt8) (n p fin : Nat) (x : List UInt8) (h : pieceM m p fin = [13, 10] ++ x) : (partT m n p fin).typ = textT ∧ (partT m n p fin).body = ((p + 2 : Nat) : Int) ∧ (partT m n p fin).fin = fin := by
  obtain ⟨e1, e2, e3⟩ := partT_at m n p fin
  obtain ⟨f1, f2⟩ := nl_fields x
  refine ⟨?_, by rw [e3]; unfold bodyAt; rw [h, f2], e2⟩
  have hf : flds200 (pieceM m p fin) = [] := by unfold flds200; rw [h, f1]; rfl
  have key : ∀ kid deep, (buildT m kid deep p fin).typ = textT := by
    intro kid deep
    unfold buildT
    rw [hf, type_none, if_neg (by decide)]
    rfl
  cases n with
  | zero => exact key _ _
  | succ n => exact key _ _
/-- bodies put between delimiters are a multipart's kids -/
theorem join_parts (closed : Bool) (bs : List (List UInt8)) (hne : bs ≠ []) (hl : bs.length ≤ 30) (hb : ∀ b ∈ bs, ¬ hasL b zqT) (m : List UInt8) (hm : m = hdrT ++ joinT closed bs) :
    (partT m 32 0 m.length).kids.length = bs.length ∧ (partT m 32 0 m.length).sub = mixedT ∧ ∀ (k : Nat) (b : List UInt8), bs[k]? = some b → ∃ (kid : Prt) (s : Nat × Nat), (partT m 32 0 m.length).kids[k]? = some kid ∧ kid.typ = textT ∧ kid.body = ((s.1 : Nat) : Int) ∧ kid.fin = ((s.2 : Nat) : Int) ∧ s.1 ≤ s.2 ∧ s.2 ≤ m.length ∧ (m.drop s.1).take (s.2 - s.1) = (if k + 1 = bs.length ∧ closed = false then b ++ [13, 10] else b) := by
  have hp0 : pieceM m 0 m.length = m := by unfold pieceM; simp
  obtain ⟨f1, f2⟩ := hdr_fields (joinT closed bs)
  rw [← hm] at f1 f2
  have hty : typeOf (flds200 (pieceM m 0 m.length)) = (multiT, mixedT, [(boundT, zqT)]) := by
    rw [hp0]
    have : flds200 m = flds200 hdrT := by unfold flds200; rw [f1]
    rw [this, hdr_type]
  have hba : bodyAt m 0 m.length = 50 := by unfold bodyAt; rw [hp0, f2, hdr_body]
  have hh : hdrT.length = 50 := rfl
  have hpj : pieceM m 50 m.length = joinT closed bs := by
    unfold pieceM
    rw [hm, ← hh, List.drop_left, List.take_of_length_le]
    rw [List.length_append]; omega
  have hcut : cutM m 50 m.length ([45, 45] ++ boundOf [(boundT, zqT)]) = spansJ closed m.length 50 bs := by
    have hd : ([45, 45] : List UInt8) ++ boundOf [(boundT, zqT)] = dlT := by decide +kernel
    unfold cutM
    rw [hd, hpj, cut_join m closed m.length bs hdrT 50 [] hm hh hb]
    have : endL (aheadL m 50) [] = [] := rfl
    rw [this]
    simp
  have hk : kidsT m (partT m 31) true 50 m.length (boundOf [(boundT, zqT)]) = (spansJ closed m.length 50 bs).map fun s => partT m 31 s.1 s.2 := by
    unfold kidsT
    rw [if_pos (by decide +kernel), hcut, List.take_of_length_le (by rw [spansJ_len]; omega)]
  have hP : partT m 32 0 m.length = .mk multiT mixedT [(boundT, zqT)] (first1 (flds200 (pieceM m 0 m.length)) cidT) (first1 (flds200 (pieceM m 0 m.length)) cdescT) (encOf (flds200 (pieceM m 0 m.length))) ((0 : Nat) : Int) ((50 : Nat) : Int) m.length ((linesOf (pieceM m 50 m.length)).length : Nat) ((spansJ closed m.length 50 bs).map fun s => partT m 31 s.1 s.2) := by
    have : partT m 32 0 m.length = buildT m (partT m 31) true 0 m.length := rfl
    rw [this]
    unfold buildT
    rw [hty, if_pos rfl]
    simp only
    rw [hba, hk]
    unfold wrapT
    rw [if_neg]
    intro he
    rw [List.isEmpty_iff, List.map_eq_nil_iff] at he
    have := congrArg List.length he
    rw [spansJ_len] at this
    exact hne (List.eq_nil_of_length_eq_zero this)
  rw [hP]
  refine ⟨?_, rfl, fun k b hkb => ?_⟩
  · simp only [Prt.kids, List.length_map, spansJ_len]
  · obtain ⟨s, h1, h2, h3, h4⟩ := spansJ_at m closed bs hdrT 50 hm hh k b hkb
    obtain ⟨n1, n2, n3⟩ := nl_part m 31 s.1 s.2 _ h4
    refine ⟨partT m 31 s.1 s.2, (s.1 + 2, s.2), ?_, n1, n2, n3, h2, h3, ?_⟩
    · simp only [Prt.kids]
      rw [List.getElem?_map, h1]
      rfl
    · simp only
      unfold pieceM at h4
      have h5 := congrArg (List.drop 2) h4
      rw [List.drop_take, List.drop_drop] at h5
      rw [show s.2 - (s.1 + 2) = s.2 - s.1 - 2 by omega, h5]
      rfl

end Go.Proofs.YtalgmnlclflllaaGreatDoor
end

/- mime: the chapter's example. -/
set_option linter.unusedVariables false
set_option linter.unusedSimpArgs false
section
namespace Go.Proofs.YtalgmnlclflllaaGreatDoor
open Go.RowKit Go

theorem parse_results {w : World} {c : Nat} {typ sub id desc enc : List UInt8} {pv kv : Value} {ap bo fi ln : Int} (h : PrtC w c typ sub pv id desc enc ap bo fi ln kv) (tmps : Array Value) (ht : tmps[2]?.getD undef = .pointer (some ⟨c, 0, none⟩)) :
    (results Tryz.f11 tmps).run Tryz.prog w = .ok (prtV typ sub pv id desc enc ap bo fi ln kv) w := by
  obtain ⟨p0, p1, p2, p3, p4, p5, p6, p7, p8, p9, p10⟩ := h.cells
  simp [results, Tryz.results11, go_sem, ht, p0, p1, p2, p3, p4, p5, p6, p7, p8, p9, p10, prtV]
theorem parse_of (m : List UInt8) (w : World) (hm : m.length ≤ 1000000)
    (hp : ∀ w' : World, Below w.heap.size w w' → Calls Tryz.prog 29 #[.string (bs m), .int .i64 0, .int .i64 (m.length : Int), .int .i64 0] w' (PartP m 32 0 m.length w')) :
    Calls Tryz.prog 11 #[.string (bs m)] w (PartP m 32 0 m.length w) := by
  have hb0 : Below w.heap.size w (w.alloc (.cells #[.string ⟨#[]⟩, .string ⟨#[]⟩, .slice none 0 0, .string ⟨#[]⟩, .string ⟨#[]⟩, .string ⟨#[]⟩, .int .i64 0, .int .i64 0, .int .i64 0, .int .i64 0, .slice none 0 0] 26)) := (Below.refl _ _).alloc (Nat.le_refl _) _
  have HP := Lib.hid (hp _ hb0)
  have hP0 : PrtC (w.alloc (.cells #[.string ⟨#[]⟩, .string ⟨#[]⟩, .slice none 0 0, .string ⟨#[]⟩, .string ⟨#[]⟩, .string ⟨#[]⟩, .int .i64 0, .int .i64 0, .int .i64 0, .int .i64 0, .slice none 0 0] 26)) w.heap.size [] [] (.slice none 0 0) [] [] [] 0 0 0 0 (.slice none 0 0) := heap_new w _
  clear hp
  go_enter Tryz.func11, Tryz.ntmps11
  go_wp2_with fail
  refine HP.out.mono ?_
  rintro e w1 ⟨v, rfl, hv, hb⟩
  have hP1 := hP0.below hb
  have hz1 := hb.size
  rw [size_alloc] at hz1
  have hB1 := hb0.trans (hb.mono (by simp))
  have hv1 : PtAt w1 (fun b => w.heap.size < b ∧ b < w1.heap.size) v (partT m 32 0 m.length) := hv.imp fun b hk _ => by have := hk.1; simp at this; omega
  obtain ⟨typ, sub, id, desc, enc, pa, pn, pc, ap, bo, fi, ln, ka, kn, kc, rfl⟩ := hv1.shape
  obtain ⟨g, hg⟩ : ∃ g, w.heap.size = g := ⟨_, rfl⟩
  rw [hg] at hP1 hv1 hz1 hB1
  rw [hg]
  obtain ⟨q0, q1, q2, q3, q4, q5, q6, q7, q8, q9, q10⟩ := hP1.cells
  have fq := fun i => hP1.frozen i
  have hPf := hP1.copy typ sub (.slice pa pn pc) id desc enc ap bo fi ln (.slice ka kn kc)
  have huf := copy_upd w1 g typ sub (.slice pa pn pc) id desc enc ap bo fi ln (.slice ka kn kc)
  clear hb hv HP hP0
  unfold prtV
  go_wp2
  (try simp only [Exit.inBlock, Exit.then])
  refine bodyPost_ret (parse_results hPf _ (by rfl)) rfl ?_
  change PartP m 32 0 m.length w _ (copyP w1 g typ sub (.slice pa pn pc) id desc enc ap bo fi ln (.slice ka kn kc))
  obtain ⟨Wf, hWf⟩ : ∃ W, copyP w1 g typ sub (.slice pa pn pc) id desc enc ap bo fi ln (.slice ka kn kc) = W := ⟨_, rfl⟩
  rw [hWf] at huf ⊢
  have hzf := huf.size
  refine ⟨_, rfl, ?_, ?_⟩
  · simp only [hg]
    exact (hv1.keep (fun b hk hl => huf.block b hl (by omega))).imp (fun b hk hl => ⟨by omega, hl⟩)
  · rw [hg]
    exact hB1.trans (huf.below (Nat.le_refl _) (by omega))

def exT : List UInt8 := [84, 101, 120, 116, 47, 80, 108, 97, 105, 110, 59, 32, 99, 104, 97, 114, 115, 101, 116, 61, 34, 97, 32, 98, 34]
def exMm : List UInt8 := [13, 10, 97, 98, 99, 10]
theorem ex_type : typeP exT = some (textT, plainT, [([99, 104, 97, 114, 115, 101, 116], [97, 32, 98])]) := by decide +kernel
theorem ex_flds : flds200 (pieceM exMm 0 6) = [] := by
  have h := (nl_fields [97, 98, 99, 10]).1
  have e : pieceM exMm 0 6 = [13, 10] ++ [97, 98, 99, 10] := by decide +kernel
  rw [e]
  unfold flds200
  rw [h, if_neg (by simp)]
theorem ex_bodyAt : bodyAt exMm 0 6 = 2 := by
  have h := (nl_fields [97, 98, 99, 10]).2
  have e : pieceM exMm 0 6 = [13, 10] ++ [97, 98, 99, 10] := by decide +kernel
  unfold bodyAt
  rw [e, h]
theorem ex_part : partT exMm 32 0 6 = .mk textT plainT [] [] [] bit7T ((0 : Nat) : Int) ((2 : Nat) : Int) ((6 : Nat) : Int) ((1 : Nat) : Int) [] :=
  part_leaf ex_flds type_none (by rfl) (by rfl) (by decide +kernel) ex_bodyAt (by decide +kernel) (by decide)
theorem ex_text : rowTx [qtL textT, qtL plainT, nilL, nilOr [], nilOr [], qtL bit7T, Lib.decDigits (6 - 2), Lib.decDigits 1] = [40, 34, 116, 101, 120, 116, 34, 32, 34, 112, 108, 97, 105, 110, 34, 32, 78, 73, 76, 32, 78, 73, 76, 32, 78, 73, 76, 32, 34, 55, 98, 105, 116, 34, 32, 52, 32, 49, 41] := by
  have h4 : Lib.decDigits (6 - 2) = [52] := by rw [Lib.decDigits_one (by decide)]; rfl
  have h1 : Lib.decDigits 1 = [49] := by rw [Lib.decDigits_one (by decide)]; rfl
  rw [h4, h1]
  decide +kernel

theorem leaf_form {w : World} {ok : Nat → Prop} {v : Value} {typ sub id desc enc : List UInt8} {ap bo fi ln : Int} (h : PtAt w ok v (.mk typ sub [] id desc enc ap bo fi ln [])) : ∃ pa pc ka kc, v = prtV typ sub (.slice pa 0 pc) id desc enc ap bo fi ln (.slice ka 0 kc) := by
  cases h with
  | mk _ _ _ _ _ pv _ _ _ _ _ ka kc _ kvs hps hka hk =>
    obtain ⟨a, c, rfl, _⟩ := hps
    exact ⟨a, c, ka, kc, rfl⟩
theorem exPart_any (ea ef : Addr) (w : World) (hE : EnvM w ea ef) : Calls Tryz.prog 11 #[.string (bs exMm)] w (PartP exMm 32 0 6 w) :=
  parse_of exMm w (by decide) (fun w' hb => part_any exMm 32 0 0 6 (by omega) (by decide) (by omega) (by decide) ea ef w' (hE.below hb) (fun h => by
    rw [ex_flds, type_none] at h
    exact absurd h (by decide)))

set_option maxRecDepth 100000 in
set_option maxHeartbeats 2000000 in
theorem aliveM_any (ea ef : Addr) (mx : Int) (w : World) (h : MimeW w ea ef mx) : Calls Tryz.prog 10 #[] w fun e w' => e = .returned (.bool true) ∧ Below w.heap.size w w' := by
  have HT := Lib.hid (type_any exT ea w (by decide) h.env.1)
  have H := Lib.hid h
  clear h
  go_enter Tryz.func10, Tryz.ntmps10
  go_wp2_with fail
  refine HT.out.mono ?_
  intro e w1 hty
  rw [ex_type] at hty
  rcases hty with ⟨t, s, ps, pv, hR, rfl, hpv, hb1⟩ | ⟨hR, _⟩
  case inr => cases hR
  obtain ⟨rfl, rfl, rfl⟩ : textT = t ∧ plainT = s ∧ [([99, 104, 97, 114, 115, 101, 116], [97, 32, 98])] = ps := by
    have := Option.some.inj hR
    simp only [Prod.mk.injEq] at this
    exact this
  obtain ⟨g, cap, rfl, hg, hgl⟩ : ∃ g cap, pv = .slice (some ⟨g, 0, none⟩) 1 cap ∧ w.heap.size ≤ g ∧ g < w1.heap.size := by
    rcases hpv.parts with ⟨_, h⟩ | h
    · cases h
    · exact h
  have c1 : w1.cell? ⟨g, 1, none⟩ = some (.string ⟨#[97, 32, 98]⟩) := (hpv.cells 0 _ rfl).2
  have H1 := Lib.hid (H.out.below hb1)
  have HX := Lib.hid (exPart_any ea ef w1 H1.out.env)
  change match Ending.returned (.tuple #[.string ⟨#[116, 101, 120, 116]⟩, .string ⟨#[112, 108, 97, 105, 110]⟩, .slice (some ⟨g, 0, none⟩) 1 cap, .nilIface]), w1 with | _, _ => _
  clear HT
  go_wp2_with (first | (go_at_call 11; refine HX.out.mono ?_; rintro e w2 ⟨v, rfl, hv, hb2⟩; rw [ex_part] at hv; obtain ⟨pa, pc, ka, kc, rfl⟩ := leaf_form hv) | (go_at_call 14; refine (textPlain_any plainT [] [] bit7T pa ka pc kc 0 2 6 1 ea ef mx _ (H1.out.below hb2) (by decide) (by decide) (by decide) (by decide) (by decide) (by decide) (by decide)).mono ?_; rintro e w3 ⟨rfl, hb3⟩; rw [ex_text]))
  go_ret
  exact ⟨rfl, (hb1.trans (hb2.mono hb1.size)).trans (hb3.mono (Nat.le_trans hb1.size hb2.size))⟩

end Go.Proofs.YtalgmnlclflllaaGreatDoor
end

/- The document's Digits. -/
set_option linter.unusedVariables false
set_option linter.unusedSimpArgs false
section
namespace Go.Proofs.YtalgmnlclflllaaGreatDoor
open Go.RowKit Go

theorem oneByte (w : World) (c : UInt8) : (convert 68 9 (.slice (some ⟨w.heap.size, 0, none⟩) 1 1)).run Tryz.prog (w.alloc (.cells #[.int .u8 ((c.toNat : Nat) : Int)] 5)) = .ok (.string (bs [c])) (w.alloc (.cells #[.int .u8 ((c.toNat : Nat) : Int)] 5)) := by
  have h : OwnB (w.alloc (.cells #[.int .u8 ((c.toNat : Nat) : Int)] 5)) 0 (.slice (some ⟨w.heap.size, 0, none⟩) 1 1) [c] := World.ownsRow_lit (base := 0) (e := 5) (size := 1) w #[.int .u8 ((c.toNat : Nat) : Int)] 1 (Nat.zero_le _) (by unfold maxLen; omega) rfl
  exact convert_bytes h.bytes

set_option maxRecDepth 100000 in
set_option maxHeartbeats 2000000 in
theorem refDigits10_any (n : Nat) (w : World) (hn : n ≤ 9223372036854775807) : Calls Tryz.prog 39 #[.int .i64 n] w fun e w' => e = .returned (.string (bs (Lib.decDigits n))) ∧ Below w.heap.size w w' := by
  have hdl := decq_length 19 n (by omega) (by omega)
  obtain ⟨Z, hZ⟩ : ∃ Z, Lib.decDigits n = Z := ⟨_, rfl⟩
  rw [hZ] at hdl ⊢
  have HZ := Lib.hid hZ
  clear hZ
  go_enter Tryz.func39, Tryz.ntmps39
  go_wp2
  go_loopw [0, 3] (fun v0 v3 wr => ∃ (k : Nat) (L : List UInt8), k ≤ n ∧ v0 = .int .i64 k ∧ v3 = .string (bs L) ∧ Hid (Lib.decDigits k ++ L = Z) ∧ L.length ≤ 19 ∧ Below w.heap.size w wr) (fun v0 _ _ => (intOf v0).toNat)
  case atStart => exact ⟨n, [], Nat.le_refl _, rfl, rfl, by show _ = _; rw [HZ.out, List.append_nil], by simp, Below.refl _ _⟩
  case round =>
    obtain ⟨k, L, hk, rfl, rfl, hd, hL, hB⟩ := hrel
    have hzr := hB.size
    have hlen : (Lib.decDigits k).length + L.length ≤ 19 := by rw [← List.length_append, hd.out]; exact hdl
    by_cases h9 : 9 < k
    · have h1 := hd.out
      rw [Lib.decDigits.eq_1, dif_neg (by omega)] at h1
      have hl2 := hlen
      rw [Lib.decDigits.eq_1, dif_neg (by omega)] at hl2
      simp only [List.length_append, List.length_cons, List.length_nil] at hl2
      have e9 : (48 : Int) + (k : Int) % 10 = ((48 + k % 10 : Nat) : Int) := by omega
      have hin : ((48 + k % 10 : Nat) : Int) = (((UInt8.ofNat (48 + k % 10)).toNat : Nat) : Int) := by
        rw [UInt8.toNat_ofNat']; omega
      obtain ⟨d, hdd⟩ : ∃ d, UInt8.ofNat (48 + k % 10) = d := ⟨_, rfl⟩
      rw [hdd] at hin h1
      have hcv := oneByte wr d
      have h9' : (9 : Int) < k := by omega
      have H1 : Hid (Lib.decDigits (k / 10) ++ (d :: L) = Z) := by
        show _ = _
        rw [← h1]; simp
      clear hd h1 hdd hlen
      go_wp2
      go_roundw
      case rel => exact ⟨k / 10, d :: L, by omega, by go_num, by rw [bs_append]; rfl, H1, by simp; omega, hB.alloc hzr _⟩
      case measure => simp [intOf]; omega
    · have h1 := hd.out
      rw [Lib.decDigits.eq_1, dif_pos (by omega)] at h1
      have e9 : (48 : Int) + (k : Int) = ((48 + k : Nat) : Int) := by omega
      have hin : ((48 + k : Nat) : Int) = (((UInt8.ofNat (48 + k)).toNat : Nat) : Int) := by
        rw [UInt8.toNat_ofNat']; omega
      obtain ⟨d, hdd⟩ : ∃ d, UInt8.ofNat (48 + k) = d := ⟨_, rfl⟩
      rw [hdd] at hin h1
      have hcv := oneByte wr d
      have h9' : ¬ (9 : Int) < k := by omega
      subst h1
      clear hd hdd hlen hdl
      go_wp2
      go_ret
      exact ⟨by rw [bs_append]; rfl, hB.alloc hzr _⟩

end Go.Proofs.YtalgmnlclflllaaGreatDoor
end

/- envelope (plain): what a value's addresses are. -/
set_option linter.unusedVariables false
set_option linter.unusedSimpArgs false
section
namespace Go.Proofs.YtalgmnlclflllaaGreatDoor
open Go

/-- what a scanner is in: a quoted text, brackets, behind a backslash -/
structure St where
  quo : Bool
  ang : Bool
  esc : Bool
def st0 : St := ⟨false, false, false⟩
/-- over a byte: does it stand outside? -/
def outB (s : St) (c : UInt8) : Bool := !s.esc && !s.quo && !s.ang && c != 34
def stepS (s : St) (c : UInt8) : St :=
  if s.esc then ⟨s.quo, s.ang, false⟩
  else if s.quo then ⟨c != 34, s.ang, c == 92⟩
  else if s.ang then ⟨s.quo, c != 62, s.esc⟩
  else if c = 34 then ⟨true, s.ang, s.esc⟩
  else if c = 60 then ⟨s.quo, true, s.esc⟩
  else s
def runS (s : St) (l : List UInt8) : St := l.foldl stepS s
theorem runS_snoc (s : St) (l : List UInt8) (c : UInt8) : runS s (l ++ [c]) = stepS (runS s l) c := by simp [runS]
/-- a value cut at its commas -/
def piecesS : St → List UInt8 → List UInt8 → List (List UInt8)
  | _, cur, [] => [cur]
  | s, cur, c :: r => if (outB s c && c == 44) = true then cur :: piecesS (stepS s c) [] r else piecesS (stepS s c) (cur ++ [c]) r
def piecesL (v : List UInt8) : List (List UInt8) := piecesS st0 [] v
/-- where the "<" of a piece is -/
def braS : St → List UInt8 → Option Nat
  | _, [] => none
  | s, c :: r => if (outB s c && c == 60) = true then some 0 else (braS (stepS s c) r).map (· + 1)
/-- what a name means -/
def meantGo : List UInt8 → List UInt8 → Option (List UInt8)
  | _, [] => none
  | acc, [c] => if c = 34 then some acc else none
  | acc, c :: d :: r => if c = 34 then none else if c = 92 then meantGo (acc ++ [d]) r else meantGo (acc ++ [c]) (d :: r)
def meantL (n : List UInt8) : List UInt8 := match n with
  | c :: d :: r => if c = 34 then (meantGo [] (d :: r)).getD n else n
  | _ => n
/-- at the last "@" -/
def cutAt : List UInt8 → Option (List UInt8 × List UInt8)
  | [] => none
  | c :: t => match cutAt t with
    | some (a, b) => some (c :: a, b)
    | none => if c = 64 then some ([], t) else none
structure Adr where
  name : List UInt8
  loc : List UInt8
  dom : List UInt8
def mailL2 (nm p : List UInt8) : Adr := match cutAt p with
  | some (a, b) => ⟨nm, a, b⟩
  | none => ⟨nm, p, []⟩
def upTo62 (l : List UInt8) : List UInt8 := l.takeWhile (· != 62)
def adrL (p : List UInt8) : Adr := match braS st0 p with
  | some i => mailL2 (meantL (trimB (p.take i))) (upTo62 (p.drop (i + 1)))
  | none => mailL2 [] p
def neB (p : List UInt8) : Bool := !p.isEmpty
/-- a field's addresses -/
def adrsL (v : List UInt8) : List Adr := ((((piecesL v).map trimB).filter neB).take 50).map adrL

def adrT (a : Adr) : List UInt8 := [40] ++ nilOr a.name ++ [32, 78, 73, 76, 32] ++ qtL a.loc ++ [32] ++ qtL a.dom ++ [41]
def listT (l : List Adr) : List UInt8 := if l = [] then nilL else [40] ++ (l.map adrT).flatten ++ [41]

/-! ### bounds -/
theorem piecesS_len : ∀ (v : List UInt8) (s : St) (cur : List UInt8), (piecesS s cur v).length ≤ v.length + 1 ∧ ∀ p ∈ piecesS s cur v, p.length ≤ cur.length + v.length
  | [], s, cur => by simp [piecesS]
  | c :: r, s, cur => by
    unfold piecesS
    split
    · obtain ⟨h1, h2⟩ := piecesS_len r (stepS s c) []
      refine ⟨by simp; omega, fun p hp => ?_⟩
      rcases List.mem_cons.1 hp with rfl | hp
      · simp
      · have := h2 p hp; simp at this ⊢; omega
    · obtain ⟨h1, h2⟩ := piecesS_len r (stepS s c) (cur ++ [c])
      refine ⟨by simp; omega, fun p hp => ?_⟩
      have := h2 p hp
      simp at this ⊢
      omega
theorem braS_lt : ∀ (p : List UInt8) (s : St) (i : Nat), braS s p = some i → i < p.length
  | [], _, _, h => by cases h
  | c :: r, s, i, h => by
    unfold braS at h
    split at h
    · cases h; simp
    · obtain ⟨j, hj, rfl⟩ := Option.map_eq_some_iff.1 h
      have := braS_lt r _ j hj
      simp; omega
theorem cutAt_some : ∀ {p a b : List UInt8}, cutAt p = some (a, b) → p = a ++ 64 :: b ∧ 64 ∉ b
  | [], _, _, h => by cases h
  | c :: t, a, b, h => by
    unfold cutAt at h
    cases hq : cutAt t with
    | some q =>
      obtain ⟨x, y⟩ := q
      rw [hq] at h
      obtain ⟨rfl, rfl⟩ := Prod.mk.inj (Option.some.inj h)
      obtain ⟨h1, h2⟩ := cutAt_some hq
      exact ⟨by rw [h1]; rfl, h2⟩
    | none =>
      rw [hq] at h
      simp only at h
      split at h
      · rename_i hc
        obtain ⟨rfl, rfl⟩ := Prod.mk.inj (Option.some.inj h)
        refine ⟨by rw [hc]; rfl, ?_⟩
        intro hm
        have : ∀ t : List UInt8, cutAt t = none → 64 ∉ t := by
          intro t
          induction t with
          | nil => simp
          | cons d t ih =>
            intro h
            unfold cutAt at h
            cases hq : cutAt t with
            | some q => rw [hq] at h; cases h
            | none =>
              rw [hq] at h
              simp only at h
              split at h
              · cases h
              · rename_i hd
                simp only [List.mem_cons, not_or]
                exact ⟨fun e => hd e.symm, ih hq⟩
        exact this t hq hm
      · cases h

end Go.Proofs.YtalgmnlclflllaaGreatDoor
end

/- envelope's scanner: where it lies; outside. -/
set_option linter.unusedVariables false
set_option linter.unusedSimpArgs false
section
namespace Go.Proofs.YtalgmnlclflllaaGreatDoor
open Go.RowKit

/-- but for block b nothing turned -/
structure But (b : Nat) (w w' : World) : Prop where
  os : w'.os = w.os
  tape : w'.tape = w.tape
  output : w'.output = w.output
  size : w'.heap.size = w.heap.size
  block : ∀ k, k ≠ b → w'.heap[k]? = w.heap[k]?
theorem But.refl (b : Nat) (w : World) : But b w w := ⟨rfl, rfl, rfl, rfl, fun _ _ => rfl⟩
theorem But.set {b : Nat} {w w' : World} (h : But b w w') (i : Nat) (x : Value) : But b w (w'.setCell ⟨b, i, none⟩ x) :=
  ⟨h.os, h.tape, h.output, by simpa [World.setCell] using h.size, fun k hk => (Below.heap_setCell _ _ _ _ (by simpa using hk)).trans (h.block k hk)⟩
theorem But.below {b B : Nat} {w w' : World} (h : But b w w') (hb : B ≤ b) : Below B w w' := ⟨h.os, h.tape, h.output, Nat.le_of_eq h.size.symm, fun k hk => h.block k (by omega)⟩
theorem chr_ne {c d : UInt8} {n : Int} (hn : (d.toNat : Int) = n) (h : c ≠ d) : ((c.toNat : Int) == n) = false ∧ ((c.toNat : Int) != n) = true := by
  subst hn
  have : ¬ (c.toNat : Int) = d.toNat := fun e => h (UInt8.toNat_inj.1 (by omega))
  simp [this]

end Go.Proofs.YtalgmnlclflllaaGreatDoor
end

/- envelope's bracket, pieces: the walks. -/
set_option linter.unusedVariables false
set_option linter.unusedSimpArgs false
section
namespace Go.Proofs.YtalgmnlclflllaaGreatDoor
open Go.RowKit

def braV (r : Option Nat) : Int := match r with | none => -1 | some i => (i : Int)
theorem drop_at {p : List UInt8} {k : Nat} {c : UInt8} (h : p[k]? = some c) : p.drop k = c :: p.drop (k + 1) := by
  obtain ⟨hlt, he⟩ := List.getElem?_eq_some_iff.1 h
  rw [List.drop_eq_getElem_cons hlt, he]
theorem take_at {p : List UInt8} {k f : Nat} {c : UInt8} (hf : f ≤ k) (h : p[k]? = some c) : (p.drop f).take (k + 1 - f) = (p.drop f).take (k - f) ++ [c] := by
  have : (p.drop f)[k - f]? = some c := by rw [List.getElem?_drop, show f + (k - f) = k by omega]; exact h
  rw [show k + 1 - f = (k - f) + 1 by omega, List.take_add_one, this]
  rfl

theorem piecesS_yes {s : St} {c : UInt8} (h : (outB s c && c == 44) = true) (cur r : List UInt8) : piecesS s cur (c :: r) = cur :: piecesS (stepS s c) [] r := by rw [piecesS, if_pos h]
theorem piecesS_no {s : St} {c : UInt8} (h : (outB s c && c == 44) = false) (cur r : List UInt8) : piecesS s cur (c :: r) = piecesS (stepS s c) (cur ++ [c]) r := by rw [piecesS, if_neg (by rw [h]; decide)]
end Go.Proofs.YtalgmnlclflllaaGreatDoor
end

/- The document's Quote, Nil. -/
set_option linter.unusedVariables false
set_option linter.unusedSimpArgs false
section
namespace Go.Proofs.YtalgmnlclflllaaGreatDoor
open Go.RowKit

theorem escL_snoc (l : List UInt8) (c : UInt8) : escL (l ++ [c]) = escL l ++ (if c = 34 ∨ c = 92 then [92, c] else [c]) := by simp [escL]
theorem printB_lt {c : UInt8} (h : printB c = true) : ¬ ((c.toNat : Int) < 32) ∧ ¬ (126 < (c.toNat : Int)) := by
  unfold printB at h
  simp at h
  omega
theorem printB_not {c : UInt8} (h : printB c = false) : (c.toNat : Int) < 32 ∨ (¬ ((c.toNat : Int) < 32) ∧ 126 < (c.toNat : Int)) := by
  unfold printB at h
  simp at h
  omega

set_option maxRecDepth 100000 in
set_option maxHeartbeats 4000000 in
theorem refQuote_any (s : List UInt8) (w : World) (hl : s.length ≤ 1000000000) :
    Calls Tryz.prog 17 #[.string (bs s)] w fun e w' => e = .returned (.string (bs (qtL s))) ∧ Below w.heap.size w w' := by
  obtain ⟨Q, hQ⟩ : ∃ Q, qtL s = Q := ⟨_, rfl⟩
  rw [hQ]
  have HQ := Lib.hid hQ
  clear hQ
  have hdl := decq_length 10 s.length (by omega) (by omega)
  go_enter Tryz.func17, Tryz.ntmps17
  go_wp2
  go_loopw [3, 4] (fun out i wr => ∃ (k : Nat) (acc : List UInt8), k ≤ s.length ∧ i = .int .i64 k ∧ OwnB wr w.heap.size out acc ∧ Hid (acc = 34 :: escL (s.take k)) ∧ Hid ((s.take k).all printB = true) ∧ acc.length ≤ 2 * k + 1 ∧ Below w.heap.size w wr) (fun _ i _ => s.length - (intOf i).toNat)
  case atStart => exact ⟨0, [34], Nat.zero_le _, rfl, World.ownsRow_lit w #[.int .u8 34] 1 (Nat.le_refl _) (by decide) rfl, rfl, rfl, by simp, (Below.refl _ _).alloc (Nat.le_refl _) _⟩
  case round =>
    obtain ⟨k, acc, hk, rfl, hown, ha, hp, hal, hB⟩ := hrel
    have hzr := hB.size
    by_cases hlt : k < s.length
    · obtain ⟨c, hc⟩ : ∃ c, (bs s)[k]'(by rw [bs_size]; exact hlt) = c := ⟨_, rfl⟩
      have hc' : s[k]? = some c := List.getElem?_eq_some_iff.2 ⟨hlt, hc⟩
      have hlt' : (k : Int) < s.length := by omega
      have ht : s.take (k + 1) = s.take k ++ [c] := by rw [List.take_add_one, hc']; rfl
      have HT := Lib.hid ht
      rcases hpc : printB c with _ | _
      · have hq : Q = 123 :: (Lib.decDigits s.length ++ ([125, 13, 10] ++ s)) := by
          rw [← HQ.out]
          unfold qtL
          rw [if_neg]
          intro h
          have := List.all_eq_true.1 h c (List.mem_of_getElem? hc')
          rw [hpc] at this
          cases this
        subst hq
        clear HQ HT ht hc' ha hp
        rcases printB_not hpc with h1 | ⟨h1, h2⟩
        · clear hpc
          go_wp2_with fail
          refine (refDigits10_any s.length _ (by omega)).mono ?_
          rintro e w1 ⟨rfl, hb1⟩
          go_wp2
          go_ret
          exact ⟨by rw [bs_append, bs_append, bs_append]; simp, hB.trans (hb1.mono hzr)⟩
        · clear hpc
          go_wp2_with fail
          refine (refDigits10_any s.length _ (by omega)).mono ?_
          rintro e w1 ⟨rfl, hb1⟩
          go_wp2
          go_ret
          exact ⟨by rw [bs_append, bs_append, bs_append]; simp, hB.trans (hb1.mono hzr)⟩
      · obtain ⟨q1, q2⟩ := printB_lt hpc
        have hp2 : Hid ((s.take (k + 1)).all printB = true) := by
          show _ = _
          rw [HT.out, List.all_append, hp.out]
          simpa using hpc
        clear ht hc' hpc
        by_cases h34 : c = 34
        · subst h34
          have ha2 : Hid ((acc ++ [92]) ++ [34] = 34 :: escL (s.take (k + 1))) := by
            show _ = _
            rw [HT.out, escL_snoc, ha.out]
            simp
          clear ha HT
          go_wp2_with (first | (at_builtin; refine app_byte _ w.heap.size _ _ 92 _ rfl hown hzr (by omega) rfl _ _ rfl rfl rfl ?_; intro v' w2 own2 ap2; have hz2 := Nat.le_trans hzr ap2.size; have hl2 : (acc ++ [92]).length ≤ 2 * k + 2 := by simp; omega) | (at_builtin; refine app_byte _ w.heap.size _ _ 34 _ rfl own2 hz2 (by omega) rfl _ _ rfl rfl rfl ?_; intro v3 w3 own3 ap3))
          go_roundw
          case rel => exact ⟨k + 1, (acc ++ [92]) ++ [34], by omega, by go_num, own3, ha2, hp2, by simp; omega, ap3.below _ _ (Nat.le_refl _) (ap2.below _ _ (Nat.le_refl _) hB)⟩
          case measure => simp [intOf]; omega
        · obtain ⟨n1, n2⟩ := chr_ne (d := 34) (n := 34) rfl h34
          by_cases h92 : c = 92
          · subst h92
            have ha2 : Hid ((acc ++ [92]) ++ [92] = 34 :: escL (s.take (k + 1))) := by
              show _ = _
              rw [HT.out, escL_snoc, ha.out]
              simp
            clear ha HT h34
            go_wp2_with (first | (at_builtin; refine app_byte _ w.heap.size _ _ 92 _ rfl hown hzr (by omega) rfl _ _ rfl rfl rfl ?_; intro v' w2 own2 ap2; have hz2 := Nat.le_trans hzr ap2.size; have hl2 : (acc ++ [92]).length ≤ 2 * k + 2 := by simp; omega) | (at_builtin; refine app_byte _ w.heap.size _ _ 92 _ rfl own2 hz2 (by omega) rfl _ _ rfl rfl rfl ?_; intro v3 w3 own3 ap3))
            go_roundw
            case rel => exact ⟨k + 1, (acc ++ [92]) ++ [92], by omega, by go_num, own3, ha2, hp2, by simp; omega, ap3.below _ _ (Nat.le_refl _) (ap2.below _ _ (Nat.le_refl _) hB)⟩
            case measure => simp [intOf]; omega
          · obtain ⟨m1, m2⟩ := chr_ne (d := 92) (n := 92) rfl h92
            have ha2 : Hid (acc ++ [c] = 34 :: escL (s.take (k + 1))) := by
              show _ = _
              rw [HT.out, escL_snoc, ha.out, if_neg (by simp [h34, h92])]
              simp
            clear ha HT h34 h92
            go_wp2_with (at_builtin; refine app_byte _ w.heap.size _ _ c _ rfl hown hzr (by omega) rfl _ _ rfl rfl rfl ?_; intro v' w2 own2 ap2)
            go_roundw
            case rel => exact ⟨k + 1, acc ++ [c], by omega, by go_num, own2, ha2, hp2, by simp; omega, ap2.below _ _ (Nat.le_refl _) hB⟩
            case measure => simp [intOf]; omega
    · obtain rfl : k = s.length := by omega
      have hq : Q = acc ++ [34] := by
        have h1 := hp.out
        rw [List.take_length] at h1
        rw [← HQ.out, ha.out, List.take_length]
        unfold qtL
        rw [if_pos h1]
        simp
      subst hq
      clear HQ ha hp
      go_wp2_with (at_builtin; refine app_byte _ w.heap.size _ _ 34 _ rfl hown hzr (by omega) rfl _ _ rfl rfl rfl ?_; intro v' w2 own2 ap2; have hcv := convert_bytes own2.bytes)
      go_ret
      exact ⟨rfl, ap2.below _ _ (Nat.le_refl _) hB⟩

theorem refNil_any (s : List UInt8) (w : World) (hl : s.length ≤ 1000000000) :
    Calls Tryz.prog 38 #[.string (bs s)] w fun e w' => e = .returned (.string (bs (nilOr s))) ∧ Below w.heap.size w w' := by
  cases s with
  | nil =>
    show Calls _ _ _ _ fun e w' => e = .returned (.string (bs [78, 73, 76])) ∧ _
    go_enter Tryz.func38, Tryz.ntmps38
    go_wp2
    go_ret
    exact ⟨rfl, Below.refl _ _⟩
  | cons c r =>
    have e : nilOr (c :: r) = qtL (c :: r) := by simp [nilOr]
    rw [e]
    have HL := Lib.hid hl
    clear hl e
    go_enter Tryz.func38, Tryz.ntmps38
    go_wp2_with fail
    refine (refQuote_any (c :: r) _ HL.out).mono ?_
    rintro e w1 ⟨rfl, hb1⟩
    go_wp2
    go_ret
    exact ⟨rfl, hb1⟩

end Go.Proofs.YtalgmnlclflllaaGreatDoor
end

/- MimeQuotes: the law. -/
set_option linter.unusedVariables false
set_option linter.unusedSimpArgs false
section
namespace Go.Proofs.YtalgmnlclflllaaGreatDoor
open Go.RowKit Go

set_option maxRecDepth 100000 in
theorem mimeQuotes_list (s : List UInt8) (ea ef : Addr) (mx : Int) (w : World) (hs : s.length ≤ 9223372036854775807) (h : MimeW w ea ef mx) : Calls Tryz.prog 4 #[.string (bs s)] w fun e w' => e = .returned (.bool true) ∧ Below w.heap.size w w' := by
  have HA := Lib.hid (aliveM_any ea ef mx w h)
  have H := Lib.hid h
  have hsz : (bs s).size = s.length := bs_size s
  clear h
  by_cases hl : 20000 < s.length
  · have hl' : (20000 : Int) < s.length := by omega
    clear hl hs
    go_enter Tryz.func4, Tryz.ntmps4
    go_wp2_with fail
    refine HA.out.mono ?_
    rintro e w1 ⟨rfl, hb1⟩
    go_wp2
    go_ret
    exact ⟨rfl, hb1⟩
  · have hl' : (s.length : Int) ≤ 20000 := by omega
    have hl2 : s.length ≤ 1000000000 := by omega
    clear hl hs
    go_enter Tryz.func4, Tryz.ntmps4
    go_wp2_with fail
    refine HA.out.mono ?_
    rintro e w1 ⟨rfl, hb1⟩
    have H1 := H.out.below hb1
    go_wp2_with (first | (go_at_call 16; refine (quote_any s mx _ hl2 H1.max H1.tab).mono ?_; rintro e w2 ⟨rfl, hb2⟩) | (go_at_call 17; refine (refQuote_any s _ hl2).mono ?_; rintro e w3 ⟨rfl, hb3⟩))
    go_ret
    exact ⟨by first | rfl | simp, (hb1.trans (hb2.mono hb1.size)).trans (hb3.mono (Nat.le_trans hb1.size hb2.size))⟩

theorem mimeQuotes_any (s : ByteArray) (w : World) (hs : s.size ≤ 9223372036854775807) (ea : Addr) (hE : w.cell? ⟨0, 0, none⟩ = some (errV ea)) (ef : Addr) (hF : w.cell? ⟨10, 0, none⟩ = some (errV ef)) (hT : TabQ w) (mx : Int) (hm : w.cell? ⟨14, 0, none⟩ = some (.int .i64 mx)) :
    Calls Tryz.prog 4 #[.string s] w fun e w' => e = .returned (.bool true) ∧ Below w.heap.size w w' := by
  have h := mimeQuotes_list s.data.toList ea ef mx w (by rw [Array.length_toList]; exact hs) ⟨⟨hE, hF⟩, hT, hm⟩
  have e : bs s.data.toList = s := by apply ByteArray.ext; simp
  rw [e] at h
  exact h

abbrev Tab (w : World) : Prop := TabQ w
theorem tab_of_head {W : World} {rest : List (String × DataW Unit)} (h : laidMet Tryz.prog (("internal/strconv.uint64pow10", Lib.tabData .u64 Lib.pow10Tab) :: rest) W) : Tab W :=
  Lib.tabIs_of_head tabQNamed (by kernel_rfl) Tryz.underlying163 Tryz.underlying150 (by kernel_rfl) (by kernel_rfl) h

end Go.Proofs.YtalgmnlclflllaaGreatDoor
end
