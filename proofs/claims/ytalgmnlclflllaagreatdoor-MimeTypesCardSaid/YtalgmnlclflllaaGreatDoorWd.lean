/- Texts of one walk, merged: XSp XIo XIr XEr XId. -/
import Derived.Test.YtalgmnlclflllaaGreatDoorWc
import Derived.Deep.AppendLies
import Derived.Deep.RegionLaw
import Derived.Deep.MidRow
import Derived.LaidEql
import Derived.Stop.Asserts
import Derived.RowKitTokens
import Derived.Defers
import Derived.Recover
import Derived.Laws.Pointers

/- lines.Split, lines.Join. -/
set_option linter.unusedVariables false
set_option linter.unusedSimpArgs false
section
set_option linter.unusedVariables false
set_option linter.unusedSimpArgs false
namespace Go.Proofs.YtalgmnlclflllaaGreatDoor
open Go.RowKit Go Go.Shelf
attribute [local go_sem] Oper.semAt_some

theorem lines_any (s : List UInt8) (w : World) : Calls Tryz.prog 98 #[.string (bs s)] w fun e w' => e = .returned (.func (.func 125) #[] #[.pointer (some ⟨w.heap.size, 0, none⟩)]) ∧ w.alloc (.cells #[.string (bs s)] 9) = w' := by
  go_enter Tryz.func98, Tryz.ntmps98
  go_wp2
  go_ret
  exact ⟨rfl, rfl⟩

/-- a slice of strings handed back -/
def Strs (B : Nat) (ls : List (List UInt8)) (w : World) (e : Ending) (w' : World) : Prop := ∃ v, e = .returned v ∧ OwnS w' B v ls ∧ Below B w w'

set_option maxRecDepth 100000 in
set_option maxHeartbeats 2000000 in
theorem split_any (s : List UInt8) (w : World) (hs : s.length ≤ 1099511627776) : Calls Tryz.prog 80 #[.string (bs s)] w (Strs w.heap.size (linesOf s) w) := by
  obtain ⟨i0, hi, hz0, hz1, hz2⟩ := info_parts info_str
  have hll := linesOf_length s
  refine (callsIn_wide (n := 3)).1 ?_
  refine callsIn_of_wp_marks Tryz.func80 rfl trivial ?_ rfl
  simp only [Tryz.ntmps80, List.size_toArray, List.length_cons, List.length_nil, Nat.reduceAdd, Nat.reduceSub, Array.replicate_succ, Array.replicate_zero, List.push_toArray, List.append_toArray, List.nil_append, List.cons_append]
  gi_wp2_with (refine ⟨trivial, ?_⟩; gi_at_call 98; refine (callsIn_wide.2 (lines_any _ _)).mono ?_; rintro e w' ⟨rfl, rfl⟩)
  have bO := Boxed.new w 34 (.slice none 0 0)
  have bN := Boxed.new (w.alloc (.cells #[.slice none 0 0] 34)) 9 (.string (bs s))
  rw [World.size_alloc] at bN
  have hB0 : Below w.heap.size w ((w.alloc (.cells #[.slice none 0 0] 34)).alloc (.cells #[.string (bs s)] 9)) := ((Below.refl _ w).alloc (Nat.le_refl _) _).alloc (by simp) _
  refine wpIn_rangeFunc_box rfl (by omega) (gf := 125) (b := w.heap.size + 1) (t := 9) rfl trivial (enters_of Tryz.func125 (by kernel_rfl) rfl)
    (lines_seq 2 (by omega) _ s (by omega)) bN rfl
    (fun pre W => (∃ v, Boxed W w.heap.size 34 v ∧ W.ownsRow (w.heap.size + 2) 9 1 v pre.length (cellsS pre) ∧ True) ∧ Below w.heap.size w W ∧ w.heap.size + 2 ≤ W.heap.size)
    (fun _ _ _ => False)
    (OwnFrom.and (Own.from (holdsRow_own (w.heap.size + 2) w.heap.size 34 9 1 (fun pre => pre.length) (fun pre => cellsS pre) (fun _ _ => True)) _) (OwnFrom.and (ownFrom_below (Nat.le_refl _) (by simp; omega)) ownFrom_size))
    (fun _ _ _ _ _ hs _ _ => hs)
    (AbidesBox.and (by
      rintro pre W W' ⟨v, hv, hr, _⟩ hg
      refine ⟨v, hv.kept hg (by simp), hr.kept hg ?_, trivial⟩
      have := World.ownsRow.lt hr
      cases ho : v.ownBlock with
      | none => exact .inl rfl
      | some k =>
        have := (this k ho).1
        exact .inr (by simp; omega)) (AbidesBox.and (abidesBox_below (by omega) (Nat.le_refl _)) abidesBox_size))
    (fun _ _ _ _ hs _ => hs)
    ⟨⟨_, bO.alloc _, World.ownsRow_nil _ _ _ _, trivial⟩, hB0, by simp⟩
    (fun x => { tmps := #[.string (bs s), undef, .slice none 0 0, .pointer (some ⟨w.heap.size, 0, none⟩), .string (bs x), .string (bs s), .func (.func 125) #[] #[.pointer (some ⟨w.heap.size + 1, 0, none⟩)], .string (bs x), undef, undef, undef, undef, undef], defers := [] }) ?assign ?body ?done ?stop
  case assign =>
    intro l x W K hK
    gi_wp2
    exact hK
  case body =>
    rintro l pre x W hpre ⟨⟨v, hv, hrow, _⟩, hB, hbW⟩
    have hc := hv.cell
    have hpl : pre.length + 1 ≤ (linesOf s).length := by have := hpre.length_le; simpa using this
    have hzW := hB.size
    gi_wp2_with (gi_at_builtin; refine wpListIn_append_own _ rfl _ _ 34 rfl (w.heap.size + 2) 9 i0 (.string ⟨#[]⟩) 1 16 Tryz.underlying34 hi hz0 hz1 hz2 rfl (by decide) _ _ _ rfl (hrow.alloc _) ⟨W.heap.size, 0, none⟩ 1 1 [.string (bs x)] rfl rfl (cell_one_new _ _ _) (by simp [Value.oneCell']) (by unfold maxLen; omega) (by omega) (by simp; omega) ?_; intro v' w1 hown' hgrow _; obtain ⟨g', cap', rfl⟩ := ownsRow_succ hown'; obtain ⟨hv1, hv2, hr2, hk2, hb2, ho2⟩ := boxed_appended hv (by decide) hrow (by omega) hzW (Nat.le_refl _) hown' hgrow; have hc1 := hv1.cell; have hf1 := hv1.frozen)
    exact ⟨hk2.from _, ho2 _ (by omega) (by omega) (by omega), ⟨_, hv2, by rw [cellsS_append, List.length_append]; exact hr2, trivial⟩, hB.trans hb2, Nat.le_trans hbW hk2.size⟩
  case done =>
    rintro D W hD ⟨⟨v, hv, hrow, _⟩, hB, hbW⟩ hK
    have hc := hv.cell
    gi_wp2
    refine ⟨by simp, .inl ⟨_, _, rfl, run_takeDeferred hK, ?_⟩⟩
    exact ⟨_, results_tmp rfl _ _ _, v, rfl, OwnS.base (ownsRow_putObj hrow _ hK rfl) (by omega), hB.trans (belowK_b (w := w) (Nat.le_refl _) W D _ _ (by simp at hD; omega) hK rfl rfl)⟩
  case stop =>
    rintro D c pre W _ _ h _
    exact h.elim

end Go.Proofs.YtalgmnlclflllaaGreatDoor
end

/- mime: what stands between delimiters: the walk. -/
set_option linter.unusedVariables false
set_option linter.unusedSimpArgs false
section
namespace Go.Proofs.YtalgmnlclflllaaGreatDoor
open Go.RowKit Go

/-- m[i:j] of a reader -/
theorem run_midR (l : List UInt8) (i j : Nat) (h : i ≤ j) (hj : j ≤ l.length) (w : World) : (Instr.slice 52 (.string (bs l)) (some (.int .i64 i)) (some (.int .i64 j)) none).run Tryz.prog w = .ok (.string (bs ((l.drop i).take (j - i)))) w := by
  rw [run_slice_string_if w _ _ _ _ _ _ Tryz.underlying52, if_pos (by rw [bs_size]; omega), if_pos (by omega)]
  simp [bs_mid]
def spsOf (l : List (Nat × Nat)) : List Sp := l.map fun s => ⟨0, s.1, s.2⟩
theorem spsOf_app (a b : List (Nat × Nat)) : spsOf (a ++ b) = spsOf a ++ spsOf b := by simp [spsOf]
theorem spsOf_len (a : List (Nat × Nat)) : (spsOf a).length = a.length := by simp [spsOf]
theorem OwnP.basis {w : World} {b b' : Nat} {v : Value} {l : List Sp} (h : OwnP w b v l) (hb : b' ≤ b) : OwnP w b' v l := by
  refine ⟨h.1, ?_⟩
  rcases h.2 with h0 | ⟨g, cap, cur, e, h1, r⟩
  · exact .inl h0
  · exact .inr ⟨g, cap, cur, e, Nat.le_trans hb h1, r⟩
/-- spans that the call itself made -/
def SpansP (B : Nat) (l : List (Nat × Nat)) (w : World) (e : Ending) (w' : World) : Prop := ∃ v, e = .returned v ∧ OwnP w' B v (spsOf l) ∧ Below B w w'
theorem endL_nil (e : Nat) : endL e [] = [] := rfl
theorem endL_snoc (e : Nat) (l : List (Nat × Nat)) (s : Nat × Nat) : endL e (l ++ [s]) = l ++ [(s.1, max e s.1)] := by
  unfold endL
  rw [List.getLast?_append, List.getLast?_singleton]
  simp
theorem trimE_len (l : List UInt8) : (trimE l).length ≤ l.length := by
  unfold trimE
  rw [List.length_reverse]
  exact Nat.le_trans (dropW_len _ _) (by simp)
theorem snoc_or {α : Type} (l : List α) : l = [] ∨ ∃ a b, l = a ++ [b] := by
  rcases h : l.getLast? with _ | b
  · left; simpa using h
  · exact .inr ⟨l.dropLast, b, last_split h⟩

set_option maxRecDepth 100000 in
set_option maxHeartbeats 4000000 in
theorem cut_any (m : List UInt8) (p0 fin : Nat) (dl : List UInt8) (w : World) (hm : m.length ≤ 1000000000) (h1 : p0 ≤ fin) (h2 : fin ≤ m.length) (hdl : dl.length ≤ 1000000) :
    Calls Tryz.prog 82 #[.string (bs m), .int .i64 (p0 : Int), .int .i64 (fin : Int), .string (bs dl)] w (SpansP w.heap.size (cutM m p0 fin dl) w) := by
  obtain ⟨i0, hi0, hz0, hz1, hz2⟩ := info_parts info_sp
  have hmid := run_midR m p0 fin h1 h2
  unfold cutM
  have hpl : (pieceM m p0 fin).length = fin - p0 := by unfold pieceM; rw [List.length_take, List.length_drop]; omega
  have hfl := linesOf_flatten (pieceM m p0 fin)
  have hsp := fun w0 => split_any (pieceM m p0 fin) w0 (by omega)
  rw [show (m.drop p0).take (fin - p0) = pieceM m p0 fin from rfl] at hmid
  obtain ⟨X, hX⟩ : ∃ X, pieceM m p0 fin = X := ⟨_, rfl⟩
  rw [hX] at hmid hpl hfl hsp ⊢
  obtain ⟨ls, hls⟩ : ∃ ls, linesOf X = ls := ⟨_, rfl⟩
  rw [hls] at hfl hsp ⊢
  have hlen : ls.flatten.length = fin - p0 := by rw [hfl]; exact hpl
  obtain ⟨R, hR⟩ : ∃ R, cutGo m fin dl [] p0 ls = R := ⟨_, rfl⟩
  rw [hR]
  have HR := Lib.hid hR
  have HSP := Lib.hid hsp
  have HL := Lib.hid hlen
  have hcount : ls.length ≤ X.length := by
    rw [← hls]
    exact linesOf_length X
  clear hX hls hR hsp hfl hlen
  obtain ⟨B, hB0⟩ : ∃ B, w.heap.size = B := ⟨_, rfl⟩
  go_enter Tryz.func82, Tryz.ntmps82
  go_wp2_with fail
  refine (HSP.out _).mono ?_
  rintro e w1 ⟨lv, rfl, hlv, hb1⟩
  have hst := hlv.strs
  obtain ⟨la, ln, lc, rfl, hln⟩ := hlv.form
  obtain rfl := hln.out
  have HLV : Hid (ls ≠ [] → ∃ g, la = some ⟨g, 0, none⟩ ∧ g < w1.heap.size ∧ ∀ (k : Nat) (x : List UInt8), ls[k]? = some x → w1.cell? ⟨g, k, none⟩ = some (.string (bs x))) := by
    intro hne
    rcases hlv.parts with ⟨_, h⟩ | ⟨g, cap, h, hbg⟩
    · exact absurd h hne
    · have e : la = some ⟨g, 0, none⟩ ∧ lc = cap := by simpa using h
      obtain ⟨rfl, rfl⟩ := e
      refine ⟨g, rfl, (World.ownsRow.lt hlv g rfl).2, fun k x hx => ?_⟩
      rcases hst with h0 | ⟨b, o, c, h1, hq1, hq2, h3⟩
      · exact absurd h0.2 hne
      · simp at h1
        obtain ⟨⟨rfl, rfl⟩, _⟩ := h1
        have := h3 k (List.getElem?_eq_some_iff.1 hx).1
        rw [Nat.zero_add] at this
        rw [this]
        simp [List.getD, hx]
  clear hst hlv hln
  have hz1' := hb1.size
  clear HSP hmid
  go_wp2
  go_loopw [1, 9, 10, 22] (fun pp out op c wr => ∃ (k p : Nat) (sp : List (Nat × Nat)), k ≤ ls.length ∧ c = .int .i64 k ∧ pp = .int .i64 p ∧ op = .bool (!sp.isEmpty) ∧ OwnP wr w1.heap.size out (spsOf sp) ∧ Below w1.heap.size w1 wr ∧ Hid (p + (ls.drop k).flatten.length = fin) ∧ Hid (cutGo m fin dl sp p (ls.drop k) = R) ∧ sp.length ≤ k) (fun _ _ _ c _ => ls.length - (intOf c).toNat)
  case atStart => exact ⟨0, p0, [], Nat.zero_le _, rfl, rfl, rfl, World.ownsRow_nil _ _ _ _, Below.refl _ _, by show _ = _; rw [List.drop_zero, HL.out]; omega, HR.out, Nat.le_refl _⟩
  case round =>
    obtain ⟨k, p, sp, hk, rfl, rfl, rfl, hop, hB, hfin, hd, hal⟩ := hrel
    have hzr := hB.size
    by_cases hlt : k < ls.length
    · obtain ⟨x, hx⟩ : ∃ x, ls[k]? = some x := ⟨_, List.getElem?_eq_getElem hlt⟩
      have hdk : ls.drop k = x :: ls.drop (k + 1) := by rw [List.drop_eq_getElem_cons hlt, (List.getElem?_eq_some_iff.1 hx).2]
      obtain ⟨g, rfl, hgl, hcell⟩ := HLV.out (by rintro rfl; simp at hlt)
      have hcx := (hB.cell (p := ⟨g, k, none⟩) hgl).trans (hcell k x hx)
      have hd' := hd.out
      have hf' := hfin.out
      rw [hdk] at hd' hf'
      rw [cutGo] at hd'
      rw [List.flatten_cons, List.length_append] at hf'
      have hxl : x.length ≤ fin := by omega
      have hpf : p + x.length ≤ fin := by omega
      have hxs : (bs x).size = x.length := bs_size _
      have hlt' : (k : Int) < ls.length := by omega
      have htl : (trimE (textL x)).length ≤ x.length := Nat.le_trans (trimE_len _) (textL_len x)
      obtain ⟨T, hT⟩ : ∃ T, trimE (textL x) = T := ⟨_, rfl⟩
      obtain ⟨Y, hY⟩ : ∃ Y, trimE (Lib.trimSuffix (Lib.trimSuffix x [10]) [13]) = Y := ⟨_, rfl⟩
      have hyl : (Lib.trimSuffix (Lib.trimSuffix x [10]) [13]).length ≤ x.length := Nat.le_trans (trimSuffix_len _ _) (trimSuffix_len _ _)
      have hs1 := trimSuffix_len x [10]
      obtain ⟨y1, hy1⟩ : ∃ y, Lib.trimSuffix x [10] = y := ⟨_, rfl⟩
      obtain ⟨y2, hy2⟩ : ∃ y, Lib.trimSuffix y1 [13] = y := ⟨_, rfl⟩
      rw [hy1] at hY hyl hs1
      rw [hy2] at hY hyl
      have HY1 := Lib.hid hy1
      have HY2 := Lib.hid hy2
      have HY := Lib.hid hY
      have hsel : (Lib.hasSuffix x [10] = true ∧ Y = T) ∨ (Lib.hasSuffix x [10] = false ∧ trimE x = T) := by
        rw [← hT]
        unfold textL
        rcases hs : Lib.hasSuffix x [10] with _ | _
        · exact .inr ⟨rfl, rfl⟩
        · left
          rw [hy1, hy2, if_pos rfl, hY]
          exact ⟨rfl, rfl⟩
      rw [hT] at hd' htl
      have HX := Lib.hid hx
      have HFN : Hid (p + x.length + (ls.drop (k + 1)).flatten.length = fin) := by show _ = _; omega
      have HD := Lib.hid hd'
      clear hx hdk hd hd' hf' hfin hy1 hy2 hY hT hcell
      go_wp2_with fail
      refine (trimSuffix_any x [10] _ (by omega)).mono ?_
      rintro e w2 ⟨rfl, rfl⟩
      rw [HY1.out]
      go_wp2_with fail
      refine (trimSuffix_any y1 [13] _ (by omega)).mono ?_
      rintro e w2 ⟨rfl, rfl⟩
      rw [HY2.out]
      go_wp2_with fail
      refine (trimRight_any y2 _ (by omega)).mono ?_
      rintro e w3 ⟨rfl, hb3⟩
      rw [HY.out]
      have hop3 := hop.below hb3
      have hB3 := hB.trans (hb3.mono hzr)
      have hcx3 := (hb3.cell (p := ⟨g, k, none⟩) (cell_lt hcx)).trans hcx
      clear hop hB hb3 hcx HY1 HY2 HY hzr
      have hzr := hB3.size
      go_wp2_with fail
      refine (hasSuffix_any x [10] _ (by omega)).mono ?_
      rintro e w4 ⟨rfl, rfl⟩
      rcases hsel with ⟨hs, hT⟩ | ⟨hs, hT⟩
      case' inl =>
        rw [hs]
        have hT' := hT.symm
        subst hT'
        clear hs
        obtain ⟨w5, hw5⟩ : ∃ w5, w5 = w3 := ⟨_, rfl⟩
        subst hw5
        have hop5 := hop3
        have hB5 := hB3
        have hz5 := hzr
        clear hop3 hB3 hcx3 hzr
      case' inr =>
        rw [hs]
        clear hs
        go_wp2_with fail
        refine (trimRight_any x _ (by omega)).mono ?_
        rintro e w5 ⟨rfl, hb5⟩
        rw [hT]
        have hop5 := hop3.below hb5
        have hB5 := hB3.trans (hb5.mono hzr)
        have hz5 := hB5.size
        clear hop3 hB3 hb5 hcx3 hT hzr
      all_goals
        have HTD : (bs dl ++ (⟨#[45, 45]⟩ : ByteArray)).toList = dl ++ [45, 45] := by
          rw [show (⟨#[45, 45]⟩ : ByteArray) = bs [45, 45] from rfl, bs_append, ByteArray.toList_eq]
        by_cases hc1 : T = dl ++ [45, 45]
        · have HD2 := HD.out
          rw [if_pos hc1] at HD2
          replace HD := Lib.hid HD2
          have f1 : (T == (bs dl ++ (⟨#[45, 45]⟩ : ByteArray)).toList) = true := by rw [HTD, hc1]; simp
          have f2 : (T == dl) = false := by rw [hc1]; simp
          clear HD2 hc1 HTD
          rcases snoc_or sp with rfl | ⟨s0, s, rfl⟩
          · have hr := HD.out
            rw [endL_nil] at hr
            subst hr
            clear HD
            go_wp2
            go_ret
            subst hB0
            exact ⟨_, rfl, OwnP.basis hop5 hz1', hb1.trans (hB5.mono hz1')⟩
          · have hr := HD.out
            rw [endL_snoc] at hr
            rw [show (!(s0 ++ [s]).isEmpty) = true by simp]
            have HR2 := Lib.hid hr
            rw [spsOf_app] at hop5
            obtain ⟨g5, cap5, hform, hg5, hg6⟩ : ∃ g cap, u9 = Value.slice (some ⟨g, 0, none⟩) (s0.length + 1) cap ∧ w1.heap.size ≤ g ∧ g < w5.heap.size := by
              rcases hop5.parts with ⟨_, h⟩ | ⟨g, cap, h, h1, h2⟩
              · exact absurd h (by simp [spsOf])
              · refine ⟨g, cap, h.trans ?_, h1, h2⟩
                simp [spsOf]
            subst hform
            have c5 : w5.cell? ⟨g5, s0.length * 3 + 1, none⟩ = some (.int .i64 (s.1 : Int)) := OwnP.cell hop5 s0.length 1 ⟨0, s.1, s.2⟩ (by rw [List.getElem?_append_right (by rw [spsOf_len]; exact Nat.le_refl _), spsOf_len, Nat.sub_self]; rfl) (by decide)
            have c6 : w5.cell? ⟨g5, s0.length * 3 + 2, none⟩ = some (.int .i64 (s.2 : Int)) := OwnP.cell hop5 s0.length 2 ⟨0, s.1, s.2⟩ (by rw [List.getElem?_append_right (by rw [spsOf_len]; exact Nat.le_refl _), spsOf_len, Nat.sub_self]; rfl) (by decide)
            have fr5 := frozenP hop5 (s0.length * 3 + 2)
            have HT5 := Lib.hid (fun q : Nat => OwnP.turn (fs0 := spsOf s0) (f := ⟨0, s.1, s.2⟩) (by rw [spsOf_len]; exact hop5) q)
            have HAH := Lib.hid (ahead_any m p w5.drew (by omega) (by omega))
            obtain ⟨n0, hn0⟩ : ∃ n, s0.length = n := ⟨_, rfl⟩
            rw [hn0] at c5 c6 fr5 ⊢
            have HN0 := Lib.hid hn0
            have hal6 : n0 + 1 ≤ k := by simp at hal; omega
            clear HD hr hn0 hal hop5
            go_wp2_with fail
            go_region_with ((go_at_call 104; refine HAH.out.mono ?_; rintro e w6 ⟨rfl, rfl⟩))
            all_goals
              have h9 := HT5.out (max (aheadL m p) s.1)
              rw [spsOf_len, HN0.out, show (((max (aheadL m p) s.1 : Nat)) : Int) = max ((aheadL m p : Nat) : Int) (s.1 : Int) by omega] at h9
              have R1 : OwnP ((w5.setCell ⟨g5, n0 * 3 + 2, none⟩ (.int .i64 (max ((aheadL m p : Nat) : Int) (s.1 : Int)))).drew) w1.heap.size (.slice (some ⟨g5, 0, none⟩) (n0 + 1) cap5) (spsOf (s0 ++ [(s.1, max (aheadL m p) s.1)])) := by
                rw [spsOf_app]
                exact World.ownsRow.drew h9
              have R2 : Below w1.heap.size w1 ((w5.setCell ⟨g5, n0 * 3 + 2, none⟩ (.int .i64 (max ((aheadL m p : Nat) : Int) (s.1 : Int)))).drew) := below_drewN (hB5.setCell (p := ⟨g5, n0 * 3 + 2, none⟩) (by simp; omega) _) 1
              obtain ⟨W6, hW6⟩ : ∃ W, (w5.setCell ⟨g5, n0 * 3 + 2, none⟩ (.int .i64 (max ((aheadL m p : Nat) : Int) (s.1 : Int)))).drew = W := ⟨_, rfl⟩
              rw [hW6] at R1 R2 ⊢
              clear h9 hW6 HT5 HAH c5 c6 fr5
              have hr := HR2.out
              subst hr
              go_wp2
              go_ret
              subst hB0
              exact ⟨_, rfl, OwnP.basis R1 hz1', hb1.trans (R2.mono hz1')⟩
        · have HD2 := HD.out
          rw [if_neg hc1] at HD2
          have f1 : (T == (bs dl ++ (⟨#[45, 45]⟩ : ByteArray)).toList) = false := by rw [HTD]; simpa using hc1
          clear hc1 HTD
          by_cases hc2 : T = dl
          · rw [if_pos hc2] at HD2
            replace HD := Lib.hid HD2
            have f2 : (T == dl) = true := by rw [hc2]; simp
            clear HD2 hc2
            rcases snoc_or sp with rfl | ⟨s0, s, rfl⟩
            · have hr := HD.out
              rw [endL_nil] at hr
              replace HD := Lib.hid hr
              have hal6 : 0 ≤ k := Nat.zero_le _
              clear hr hal
              have hz6 := (hB5).size
              have hnews : ∀ j u, [Value.int .i64 0, .int .i64 ((p : Int) + (x.length : Int)), .int .i64 (fin : Int)][j]? = some u → (w5.alloc (.cells #[.int .i64 0, .int .i64 ((p : Int) + (x.length : Int)), .int .i64 (fin : Int)] 62)).cell? ((⟨w5.heap.size, 0, none⟩ : Addr).add j) = some u := by
                intro j u hj
                match j, hj with
                | 0, hj => simp at hj; subst hj; simp [Addr.add]
                | 1, hj => simp at hj; subst hj; simp [Addr.add]
                | 2, hj => simp at hj; subst hj; simp [Addr.add]
                | n + 3, hj => simp at hj
              have hone : ∀ u ∈ [Value.int .i64 0, .int .i64 ((p : Int) + (x.length : Int)), .int .i64 (fin : Int)], u.oneCell' = true := by intro u hu; simp at hu; rcases hu with rfl | rfl | rfl <;> rfl
              have hlen6 : ([] : List (Nat × Nat)).length ≤ k := by first | exact Nat.zero_le _ | (rw [List.length_append, HN0.out]; exact hal6)
              have hlen7 := hlen6
              rw [← spsOf_len] at hlen7
              go_wp2_with (at_builtin; refine wpList_append_own _ rfl _ _ 59 rfl w1.heap.size 62 i0 _ 3 24 Tryz.underlying59 hi0 hz0 hz1 hz2 rfl (by decide) _ _ _ rfl (World.ownsRow.alloc hop5 _) ⟨w5.heap.size, 0, none⟩ 1 1 [.int .i64 0, .int .i64 ((p : Int) + (x.length : Int)), .int .i64 (fin : Int)] rfl rfl hnews hone ?c3 ?c4 ?c5 ?_)
              case c3 => unfold maxLen; omega
              case c4 => omega
              case c5 => first | omega | (simp; omega)
              intro v' w7 hown7 hgrow _
              have R7 : OwnP w7 w1.heap.size v' (spsOf ([] ++ [(p + x.length, fin)])) := by
                rw [spsOf_app]
                refine OwnP.step (f := ⟨0, p + x.length, fin⟩) ?_
                rw [show cellsSp1 ⟨0, p + x.length, fin⟩ = [.int .i64 0, .int .i64 ((p : Int) + (x.length : Int)), .int .i64 (fin : Int)] by simp [cellsSp1]]
                exact hown7
              have hlow := fun i e => (World.ownsRow.lt hop5 i e).1
              have B7 : Below w1.heap.size w1 w7 := ((hB5).alloc (by omega) _).grown hgrow (by simp; omega) (fun i e => by have := hlow i e; omega)
              clear hown7 hgrow hnews hone hlow
              go_wp2
              go_roundw
              case rel => exact ⟨k + 1, p + x.length, _, by omega, by go_num, by go_num, (by simp), R7, B7, HFN, HD.out, by rw [List.length_append]; exact Nat.add_le_add_right hlen6 1⟩
              case measure => first | (simp [intOf]; omega) | omega
            · have hr := HD.out
              rw [endL_snoc] at hr
              replace HD := Lib.hid hr
              rw [show (!(s0 ++ [s]).isEmpty) = true by simp]
              rw [spsOf_app] at hop5
              obtain ⟨g5, cap5, hform, hg5, hg6⟩ : ∃ g cap, u9 = Value.slice (some ⟨g, 0, none⟩) (s0.length + 1) cap ∧ w1.heap.size ≤ g ∧ g < w5.heap.size := by
                rcases hop5.parts with ⟨_, h⟩ | ⟨g, cap, h, h1, h2⟩
                · exact absurd h (by simp [spsOf])
                · refine ⟨g, cap, h.trans ?_, h1, h2⟩
                  simp [spsOf]
              subst hform
              have c5 : w5.cell? ⟨g5, s0.length * 3 + 1, none⟩ = some (.int .i64 (s.1 : Int)) := OwnP.cell hop5 s0.length 1 ⟨0, s.1, s.2⟩ (by rw [List.getElem?_append_right (by rw [spsOf_len]; exact Nat.le_refl _), spsOf_len, Nat.sub_self]; rfl) (by decide)
              have c6 : w5.cell? ⟨g5, s0.length * 3 + 2, none⟩ = some (.int .i64 (s.2 : Int)) := OwnP.cell hop5 s0.length 2 ⟨0, s.1, s.2⟩ (by rw [List.getElem?_append_right (by rw [spsOf_len]; exact Nat.le_refl _), spsOf_len, Nat.sub_self]; rfl) (by decide)
              have fr5 := frozenP hop5 (s0.length * 3 + 2)
              have HT5 := Lib.hid (fun q : Nat => OwnP.turn (fs0 := spsOf s0) (f := ⟨0, s.1, s.2⟩) (by rw [spsOf_len]; exact hop5) q)
              have HAH := Lib.hid (ahead_any m p w5.drew (by omega) (by omega))
              obtain ⟨n0, hn0⟩ : ∃ n, s0.length = n := ⟨_, rfl⟩
              rw [hn0] at c5 c6 fr5 ⊢
              have HN0 := Lib.hid hn0
              have hal6 : n0 + 1 ≤ k := by simp at hal; omega
              clear hr hn0 hal hop5
              go_wp2_with fail
              go_region_with ((go_at_call 104; refine HAH.out.mono ?_; rintro e w6 ⟨rfl, rfl⟩))
              all_goals
                have h9 := HT5.out (max (aheadL m p) s.1)
                rw [spsOf_len, HN0.out, show (((max (aheadL m p) s.1 : Nat)) : Int) = max ((aheadL m p : Nat) : Int) (s.1 : Int) by omega] at h9
                have R1 : OwnP ((w5.setCell ⟨g5, n0 * 3 + 2, none⟩ (.int .i64 (max ((aheadL m p : Nat) : Int) (s.1 : Int)))).drew) w1.heap.size (.slice (some ⟨g5, 0, none⟩) (n0 + 1) cap5) (spsOf (s0 ++ [(s.1, max (aheadL m p) s.1)])) := by
                  rw [spsOf_app]
                  exact World.ownsRow.drew h9
                have R2 : Below w1.heap.size w1 ((w5.setCell ⟨g5, n0 * 3 + 2, none⟩ (.int .i64 (max ((aheadL m p : Nat) : Int) (s.1 : Int)))).drew) := below_drewN (hB5.setCell (p := ⟨g5, n0 * 3 + 2, none⟩) (by simp; omega) _) 1
                obtain ⟨W6, hW6⟩ : ∃ W, (w5.setCell ⟨g5, n0 * 3 + 2, none⟩ (.int .i64 (max ((aheadL m p : Nat) : Int) (s.1 : Int)))).drew = W := ⟨_, rfl⟩
                rw [hW6] at R1 R2 ⊢
                clear h9 hW6 HT5 HAH c5 c6 fr5
                have hz6 := (R2).size
                have hnews : ∀ j u, [Value.int .i64 0, .int .i64 ((p : Int) + (x.length : Int)), .int .i64 (fin : Int)][j]? = some u → (W6.alloc (.cells #[.int .i64 0, .int .i64 ((p : Int) + (x.length : Int)), .int .i64 (fin : Int)] 62)).cell? ((⟨W6.heap.size, 0, none⟩ : Addr).add j) = some u := by
                  intro j u hj
                  match j, hj with
                  | 0, hj => simp at hj; subst hj; simp [Addr.add]
                  | 1, hj => simp at hj; subst hj; simp [Addr.add]
                  | 2, hj => simp at hj; subst hj; simp [Addr.add]
                  | n + 3, hj => simp at hj
                have hone : ∀ u ∈ [Value.int .i64 0, .int .i64 ((p : Int) + (x.length : Int)), .int .i64 (fin : Int)], u.oneCell' = true := by intro u hu; simp at hu; rcases hu with rfl | rfl | rfl <;> rfl
                have hlen6 : (s0 ++ [(s.1, max (aheadL m p) s.1)]).length ≤ k := by first | exact Nat.zero_le _ | (rw [List.length_append, HN0.out]; exact hal6)
                have hlen7 := hlen6
                rw [← spsOf_len] at hlen7
                go_wp2_with (at_builtin; refine wpList_append_own _ rfl _ _ 59 rfl w1.heap.size 62 i0 _ 3 24 Tryz.underlying59 hi0 hz0 hz1 hz2 rfl (by decide) _ _ _ rfl (World.ownsRow.alloc R1 _) ⟨W6.heap.size, 0, none⟩ 1 1 [.int .i64 0, .int .i64 ((p : Int) + (x.length : Int)), .int .i64 (fin : Int)] rfl rfl hnews hone ?c3 ?c4 ?c5 ?_)
                case c3 => unfold maxLen; omega
                case c4 => omega
                case c5 => first | omega | (simp; omega)
                intro v' w7 hown7 hgrow _
                have R7 : OwnP w7 w1.heap.size v' (spsOf (s0 ++ [(s.1, max (aheadL m p) s.1)] ++ [(p + x.length, fin)])) := by
                  rw [spsOf_app]
                  refine OwnP.step (f := ⟨0, p + x.length, fin⟩) ?_
                  rw [show cellsSp1 ⟨0, p + x.length, fin⟩ = [.int .i64 0, .int .i64 ((p : Int) + (x.length : Int)), .int .i64 (fin : Int)] by simp [cellsSp1]]
                  exact hown7
                have hlow := fun i e => (World.ownsRow.lt R1 i e).1
                have B7 : Below w1.heap.size w1 w7 := ((R2).alloc (by omega) _).grown hgrow (by simp; omega) (fun i e => by have := hlow i e; omega)
                clear hown7 hgrow hnews hone hlow
                go_wp2
                go_roundw
                case rel => exact ⟨k + 1, p + x.length, _, by omega, by go_num, by go_num, (by simp), R7, B7, HFN, HD.out, by rw [List.length_append]; exact Nat.add_le_add_right hlen6 1⟩
                case measure => first | (simp [intOf]; omega) | omega
          · rw [if_neg hc2] at HD2
            replace HD := Lib.hid HD2
            have f2 : (T == dl) = false := by simpa using hc2
            clear HD2 hc2
            go_wp2
            go_roundw
            case rel => exact ⟨k + 1, p + x.length, sp, by omega, by go_num, by go_num, rfl, hop5, hB5, HFN, HD.out, by omega⟩
            case measure => first | (simp [intOf]; omega) | omega
    · obtain rfl : k = ls.length := by omega
      have hr := hd.out
      rw [List.drop_length, cutGo] at hr
      subst hr
      clear hd
      go_wp2
      go_ret
      subst hB0
      exact ⟨_, rfl, OwnP.basis hop hz1', hb1.trans (hB.mono hz1')⟩

end Go.Proofs.YtalgmnlclflllaaGreatDoor
end

/- mime: rows of kids that grow. -/
set_option linter.unusedVariables false
set_option linter.unusedSimpArgs false
section
namespace Go.Proofs.YtalgmnlclflllaaGreatDoor
open Go.RowKit Go

theorem stores_row {B : Nat} {e : TypeId} {sz g n cap : Nat} : ∀ (l : List Value) (w : World) (xs rest : List Value), w.ownsRow B e sz (.slice (some ⟨g, 0, none⟩) n cap) n (xs ++ rest) → l.length ≤ rest.length →
    (w.setCells g xs.length l).ownsRow B e sz (.slice (some ⟨g, 0, none⟩) n cap) n (xs ++ l ++ rest.drop l.length)
  | [], w, xs, rest, h, _ => by simpa [World.setCells] using h
  | x :: r, w, xs, rest, h, hl => by
    match rest, hl with
    | [], hl => simp at hl
    | y :: rest, hl =>
      have h1 := (World.ownsRow.stored h xs.length x).1
      have e1 : (xs ++ y :: rest).set xs.length x = (xs ++ [x]) ++ rest := by simp
      rw [e1] at h1
      have h2 := stores_row r _ (xs ++ [x]) rest h1 (by simp at hl; omega)
      have e2 : (xs ++ [x]).length = xs.length + 1 := by simp
      rw [e2] at h2
      have e3 : xs ++ [x] ++ r ++ rest.drop r.length = xs ++ (x :: r) ++ (y :: rest).drop (x :: r).length := by simp
      rw [e3] at h2
      exact h2
theorem stores_heap (g : Nat) : ∀ (l : List Value) (w : World) (o b : Nat), b ≠ g → (w.setCells g o l).heap[b]? = w.heap[b]?
  | [], _, _, _, _ => rfl
  | x :: r, w, o, b, h => by
    rw [World.setCells, stores_heap g r _ _ b h]
    exact Below.heap_setCell _ _ _ _ (by simpa using h)
theorem stores_size (g : Nat) : ∀ (l : List Value) (w : World) (o : Nat), (w.setCells g o l).heap.size = w.heap.size
  | [], _, _ => rfl
  | x :: r, w, o => by rw [World.setCells, stores_size g r]; simp [World.setCell]
theorem stores_rest (g : Nat) : ∀ (l : List Value) (w : World) (o : Nat), (w.setCells g o l).os = w.os ∧ (w.setCells g o l).tape = w.tape ∧ (w.setCells g o l).output = w.output
  | [], _, _ => ⟨rfl, rfl, rfl⟩
  | x :: r, w, o => by rw [World.setCells]; exact stores_rest g r _ _

theorem cellsK_length : ∀ (vals : List Value), (∀ x ∈ vals, x.cells.size = 11) → (vals.flatMap fun x => x.cells.toList).length = vals.length * 11
  | [], _ => rfl
  | v :: r, h => by
    have h1 := h v (by simp)
    have h2 := cellsK_length r (fun x hx => h x (List.mem_cons_of_mem _ hx))
    rw [List.flatMap_cons, List.length_append, h2, Array.length_toList, h1, List.length_cons]
    omega

/-- one more kid in the row: behind the call that made it, the append, the stores, the store of the row -/
theorem OwnK.push {w1 u v6 v7 w9 : World} {c : Nat} {kv : Value} {ks : List Prt} {vals : List Value} {xv : Value} {kid : Prt} {gg cap : Nat} {zs : List Value} {y : Value}
    {typ sub id desc enc : List UInt8} {pv : Value} {ap bo fi ln : Int}
    (hu : Upd c w1 u) (hP : PrtC u c typ sub pv id desc enc ap bo fi ln kv)
    (hlen : vals.length = ks.length)
    (hkids : ∀ (j : Nat) (k : Prt), ks[j]? = some k → ∃ x, vals[j]? = some x ∧ x.cells.size = 11 ∧ PtAt u (fun b => w1.heap.size ≤ b ∧ b < u.heap.size ∧ kv.ownBlock ≠ some b) x k)
    (hb : Below u.heap.size u v6) (hx : PtAt v6 (fun b => u.heap.size ≤ b ∧ b < v6.heap.size) xv kid)
    (hown : w9.ownsRow w1.heap.size 26 11 (.slice (some ⟨gg, 0, none⟩) (ks.length + 1) cap) (ks.length + 1) ((vals.flatMap fun x => x.cells.toList) ++ zs)) (hz : zs.length = 11)
    (h7 : Below v6.heap.size v6 v7) (hgrow : v7.grownBy w9 kv.ownBlock) (hat : kv.ownBlock = some gg ∨ gg = v7.heap.size) (hlt : gg < w9.heap.size) (hc : c < w1.heap.size)
    (hkv : ∀ g, kv.ownBlock = some g → w1.heap.size ≤ g ∧ g < u.heap.size) :
    OwnK ((w9.setCells gg (ks.length * 11) xv.cells.toList).setCell ⟨c, 10, none⟩ y) w1.heap.size (.slice (some ⟨gg, 0, none⟩) (ks.length + 1) cap) (ks ++ [kid]) ∧
      Upd c w1 ((w9.setCells gg (ks.length * 11) xv.cells.toList).setCell ⟨c, 10, none⟩ y) ∧
      PrtC ((w9.setCells gg (ks.length * 11) xv.cells.toList).setCell ⟨c, 10, none⟩ y) c typ sub pv id desc enc ap bo fi ln y := by
  have hxs : xv.cells.size = 11 := prtV_size hx
  have hxl : xv.cells.toList.length = 11 := by rw [Array.length_toList]; exact hxs
  have hcz : ∀ x ∈ vals, x.cells.size = 11 := by
    intro x hxm
    obtain ⟨j, hj⟩ := List.mem_iff_getElem?.1 hxm
    have hjl : j < ks.length := by rw [← hlen]; exact (List.getElem?_eq_some_iff.1 hj).1
    obtain ⟨x2, h2, h3, _⟩ := hkids j _ (List.getElem?_eq_getElem hjl)
    rw [hj] at h2
    cases h2
    exact h3
  have hfl := cellsK_length vals hcz
  have hz6 := hb.size
  have hz9 := hgrow.size
  have hz7 := h7.size
  have hzu := hu.size
  have hgg : w1.heap.size ≤ gg := by
    rcases hat with h | h
    · exact (hkv gg h).1
    · omega
  have hcg : c ≠ gg := by omega
  -- all but c, gg: as it was
  have hkeep7 : ∀ b, b < v6.heap.size → kv.ownBlock ≠ some b → w9.heap[b]? = v6.heap[b]? := fun b hbl hn =>
    (hgrow.block b (by omega) (fun e => hn (by rw [e]))).trans (h7.block b hbl)
  have hkeep : ∀ b, b < v6.heap.size → kv.ownBlock ≠ some b → b ≠ c → b ≠ gg → ((w9.setCells gg (ks.length * 11) xv.cells.toList).setCell ⟨c, 10, none⟩ y).heap[b]? = v6.heap[b]? := fun b hbl hn hnc hng => by
    rw [Below.heap_setCell _ _ _ _ (by simpa using hnc), stores_heap gg _ _ _ _ hng]
    exact hkeep7 b hbl hn
  have hfin : w9.heap.size = ((w9.setCells gg (ks.length * 11) xv.cells.toList).setCell ⟨c, 10, none⟩ y).heap.size := by
    simp [World.setCell, stores_size]
  refine ⟨⟨vals ++ [xv], ?_, by simp [hlen], fun j k hj => ?_⟩, ?_, ?_⟩
  · have h1 := stores_row xv.cells.toList w9 _ zs hown (by rw [hxl, hz]; exact Nat.le_refl _)
    rw [hfl, hlen, hxl, List.drop_of_length_le (by omega), List.append_nil] at h1
    have e1 : (ks ++ [kid]).length = ks.length + 1 := by simp
    have e2 : ((vals ++ [xv]).flatMap fun x => x.cells.toList) = (vals.flatMap fun x => x.cells.toList) ++ xv.cells.toList := by simp
    rw [e1, e2]
    refine ⟨h1.1, ?_⟩
    rcases h1.2 with h0 | ⟨g, cp, cur, e, h2, h3, r⟩
    · exact .inl h0
    · refine .inr ⟨g, cp, cur, e, h2, ?_, r⟩
      have eg : gg = g := by simp at e; exact e.1
      rw [← h3]
      exact Below.heap_setCell _ _ _ _ (by simp; omega)
  · have hnb : ∀ b, kv.ownBlock ≠ some b → b < v6.heap.size → (Value.slice (some ⟨gg, 0, none⟩) (ks.length + 1) cap).ownBlock ≠ some b := by
      intro b h1 h2 h3
      have h4 : gg = b := by simpa [Value.ownBlock] using h3
      subst h4
      rcases hat with h | h
      · exact h1 h
      · omega
    have hne : ∀ b, kv.ownBlock ≠ some b → b < v6.heap.size → b ≠ gg := by
      rintro b h1 h2 rfl
      exact hnb b h1 h2 rfl
    rcases Nat.lt_or_ge j ks.length with hjl | hjl
    · rw [List.getElem?_append_left hjl] at hj
      obtain ⟨x, h1, h2, h3⟩ := hkids j k hj
      refine ⟨x, by rw [List.getElem?_append_left (by omega)]; exact h1, h2, ?_⟩
      have h4 := h3.under hb
      have h5 := h4.keep (w' := (w9.setCells gg (ks.length * 11) xv.cells.toList).setCell ⟨c, 10, none⟩ y) (fun b hok hbl => hkeep b hbl hok.2.2 (by omega) (hne b hok.2.2 hbl))
      exact h5.imp (fun b hok _ => ⟨hok.1, by omega, hnb b hok.2.2 (by omega)⟩)
    · have hj0 : j = ks.length := by
        have := (List.getElem?_eq_some_iff.1 hj).1
        simp at this
        omega
      subst hj0
      rw [List.getElem?_append_right (Nat.le_refl _), Nat.sub_self] at hj
      obtain rfl : kid = k := by simpa using hj
      refine ⟨xv, by rw [← hlen, List.getElem?_append_right (Nat.le_refl _), Nat.sub_self]; rfl, hxs, ?_⟩
      have hown6 : ∀ b, u.heap.size ≤ b → kv.ownBlock ≠ some b := fun b h1 h2 => by have := (hkv b h2).2; omega
      have h5 := hx.keep (w' := (w9.setCells gg (ks.length * 11) xv.cells.toList).setCell ⟨c, 10, none⟩ y) (fun b hok hbl => hkeep b hbl (hown6 b hok.1) (by omega) (hne b (hown6 b hok.1) hbl))
      exact h5.imp (fun b hok _ => ⟨by omega, by omega, hnb b (hown6 b hok.1) hok.2⟩)
  · obtain ⟨s1, s2, s3⟩ := stores_rest gg xv.cells.toList w9 (ks.length * 11)
    refine ⟨?_, ?_, ?_, by omega, fun b hbl hnc => ?_⟩
    · show (w9.setCells gg (ks.length * 11) xv.cells.toList).os = _
      rw [s1, hgrow.os, h7.os]
      exact hb.os.trans hu.os
    · show (w9.setCells gg (ks.length * 11) xv.cells.toList).tape = _
      rw [s2, hgrow.tape, h7.tape]
      exact hb.tape.trans hu.tape
    · show (w9.setCells gg (ks.length * 11) xv.cells.toList).output = _
      rw [s3, hgrow.output, h7.output]
      exact hb.output.trans hu.output
    · rw [hkeep b (by omega) (fun e => by have := (hkv b e).1; omega) hnc (by omega), hb.block b (by omega)]
      exact hu.block b hbl hnc
  · have hcc : (w9.setCells gg (ks.length * 11) xv.cells.toList).heap[c]? = u.heap[c]? := by
      rw [stores_heap gg _ _ _ _ hcg, hkeep7 c (by omega) (fun e => by have := (hkv c e).1; omega), hb.block c (by omega)]
    exact (hP.keep hcc).setKids y

/-- the cells behind the old ones -/
theorem row_tail {w : World} {B g n cap : Nat} {e : TypeId} {sz : Nat} {xs zs : List Value} {o : Nat} (h : w.ownsRow B e sz (.slice (some ⟨g, 0, none⟩) n cap) n (xs ++ zs)) (ho : xs.length = o) (i : Nat) (x : Value) (hx : zs[i]? = some x) : w.cell? ⟨g, o + i, none⟩ = some x := by
  subst ho
  have := World.ownsRow.cells h (g := g) rfl (xs.length + i) x (by rw [List.getElem?_append_right (by omega), Nat.add_sub_cancel_left]; exact hx)
  rw [← this]
  by_cases h0 : xs.length + i = 0
  · rw [h0]; rfl
  · have e : (⟨g, 0, none⟩ : Addr).add (xs.length + i) = ⟨g, xs.length + i, none⟩ := by
      unfold Addr.add
      rw [if_neg h0]
      simp
    rw [e]
theorem PtAt.shape {w : World} {ok : Nat → Prop} {v : Value} {p : Prt} (h : PtAt w ok v p) : ∃ typ sub id desc enc pa pn pc ap bo fi ln ka kn kc, v = prtV typ sub (.slice pa pn pc) id desc enc ap bo fi ln (.slice ka kn kc) := by
  cases h with
  | mk typ sub id desc enc pv ps ap bo fi ln ka kc kids kvs hps hka hk =>
    obtain ⟨a, c, rfl, _⟩ := hps
    exact ⟨_, _, _, _, _, _, _, _, _, _, _, _, _, _, _, rfl⟩
/-- a part's cells go into a row's new place -/
theorem store_prt {w : World} {g o : Nat} {typ sub id desc enc : List UInt8} {pa ka : Option Addr} {pn pc kn kc : Nat} {ap bo fi ln : Int} (ht : w.there g o 11) :
    (Instr.storeAt 26 (.pointer (some ⟨g, o, none⟩)) (.agg #[.string (bs typ), .string (bs sub), .slice pa pn pc, .string (bs id), .string (bs desc), .string (bs enc), .int .i64 ap, .int .i64 bo, .int .i64 fi, .int .i64 ln, .slice ka kn kc])).run Tryz.prog w =
      .ok () (w.setCells g o [.string (bs typ), .string (bs sub), .slice pa pn pc, .string (bs id), .string (bs desc), .string (bs enc), .int .i64 ap, .int .i64 bo, .int .i64 fi, .int .i64 ln, .slice ka kn kc]) :=
  run_storeAt_mid w g o 26 _ ht (by kernel_rfl) (by simp [Value.oneCell'])
theorem row_there {w : World} {B g n cap : Nat} {e : TypeId} {sz : Nat} {xs zs : List Value} {o m : Nat} (h : w.ownsRow B e sz (.slice (some ⟨g, 0, none⟩) n cap) n (xs ++ zs)) (ho : xs.length = o) (hm : zs.length = m) : w.there g o m := fun j hj => by
  refine ⟨?_, World.ownsRow.frozenAt h _⟩
  have := row_tail h ho j _ (List.getElem?_eq_getElem (by omega))
  rw [this]
  rfl
/-- behind the append of an empty kid: the row's new place, and what else the rest reads -/
theorem append_facts {U v7 w9 : World} {lo c g9 n cap gg : Nat} {kv x1 x2 : Value} {xs zs : List Value} {typ sub id desc enc : List UInt8} {pv : Value} {ap bo fi ln : Int}
    (hown : w9.ownsRow lo 26 11 (.slice (some ⟨gg, 0, none⟩) (n + 1) cap) (n + 1) (xs ++ zs)) (hfl : xs.length = n * 11) (hz : zs.length = 11)
    (h7 : Below U.heap.size U v7) (hgrow : v7.grownBy w9 kv.ownBlock) (hat : kv.ownBlock = some gg ∨ gg = v7.heap.size) (hkv : ∀ g, kv.ownBlock = some g → lo ≤ g ∧ g < g9) (hg9 : g9 < U.heap.size) (hc : c < lo)
    (hP : PrtC U c typ sub pv id desc enc ap bo fi ln kv) (hq1 : U.cell? ⟨g9, 1, none⟩ = some x1) (hq2 : U.cell? ⟨g9, 2, none⟩ = some x2) (hlg : lo ≤ g9) :
    w9.there gg (n * 11) 11 ∧ (w9.cell? ⟨c, 10, none⟩ = some kv ∧ w9.cell? ⟨g9, 1, none⟩ = some x1 ∧ w9.cell? ⟨g9, 2, none⟩ = some x2) ∧
      (∀ l, (w9.setCells gg (n * 11) l).cell? ⟨c, 10, none⟩ = some kv ∧ (w9.setCells gg (n * 11) l).cell? ⟨g9, 1, none⟩ = some x1 ∧ (w9.setCells gg (n * 11) l).cell? ⟨g9, 2, none⟩ = some x2) ∧ ∀ l, (w9.setCells gg (n * 11) l).frozen? ⟨c, 10, none⟩ = false := by
  have hz7 := h7.size
  have hgg : lo ≤ gg ∧ gg ≠ g9 := by
    rcases hat with h | h
    · have := hkv gg h; omega
    · omega
  have hk9 : ∀ b, b < U.heap.size → kv.ownBlock ≠ some b → w9.heap[b]? = U.heap[b]? := fun b h1 h2 => (hgrow.block b (by omega) (fun e => h2 e.symm)).trans (h7.block b h1)
  have hP9 := hP.keep (hk9 c (by have := hP.lt; omega) (fun e => by have := (hkv c e).1; omega))
  have hPs := fun l => hP9.keep (w' := w9.setCells gg (n * 11) l) (stores_heap gg _ _ _ _ (by omega))
  have e9 := hk9 g9 hg9 (fun e => by have := (hkv g9 e).2; omega)
  refine ⟨row_there hown hfl hz, ⟨hP9.cells.2.2.2.2.2.2.2.2.2.2, (keep_cell e9).trans hq1, (keep_cell e9).trans hq2⟩, fun l => ⟨(hPs l).cells.2.2.2.2.2.2.2.2.2.2, ?_, ?_⟩, fun l => (hPs l).frozen 10⟩
  · exact (keep_cell (stores_heap gg l w9 (n * 11) g9 (Ne.symm hgg.2))).trans ((keep_cell e9).trans hq1)
  · exact (keep_cell (stores_heap gg l w9 (n * 11) g9 (Ne.symm hgg.2))).trans ((keep_cell e9).trans hq2)
theorem takeL_add {α : Type} {sp : List α} {k n : Nat} {s : α} (h : sp[k]? = some s) (hl : ((sp.take k).take n).length < n) : (sp.take (k + 1)).take n = (sp.take k).take n ++ [s] := by
  have hk := (List.getElem?_eq_some_iff.1 h).1
  rw [List.length_take, List.length_take] at hl
  rw [List.take_add_one, h]
  simp only [Option.toList]
  rw [List.take_append, List.length_take, List.take_of_length_le (l := [s]) (by simp; omega)]
theorem takeL_full {α : Type} {sp : List α} {k n : Nat} (hl : ¬ ((sp.take k).take n).length < n) : (sp.take (k + 1)).take n = (sp.take k).take n := by
  rw [List.length_take, List.length_take] at hl
  rw [List.take_take, List.take_take, show min n (k + 1) = n by omega, show min n k = n by omega]

end Go.Proofs.YtalgmnlclflllaaGreatDoor
end

/- errors.Is at errors of errors.New's make, the thirteen errors of package api, and what number each has. (The walks of errors.Is are after the guide's worked text Sentry.) -/
set_option linter.unusedVariables false
set_option linter.unusedSimpArgs false
section
namespace Go.Proofs.YtalgmnlclflllaaGreatDoor
open Go.RowKit Go.Extern.Stop Go.Stop Go.Extern

theorem callTypeOf (v : Value) (w : World) : (callFunc 76 #[.iface 185 v]).run Tryz.prog w = .ok (.value (.iface 132 (.agg #[.pointer (some ⟨19, 185, none⟩)]))) w := by kernel_rfl
theorem callComparable (w : World) : (callFunc 171 #[.agg #[.pointer (some ⟨19, 185, none⟩)]]).run Tryz.prog w = .ok (.value (.bool true)) w := by kernel_rfl
theorem isMethodComparable (v : Value) (w : World) : (Go.method 319 132 v "Comparable").run Tryz.prog w = .ok (171, v) w := by kernel_rfl
theorem isComp : (Tryz.prog.info? 185).map (·.comparable) = some true := by kernel_rfl
theorem isSize : (Tryz.prog.info? 208).map (·.size) = some 1 := by kernel_rfl
theorem noIsE (v : Value) (xT : TypeId) (w : World) : (Instr.typeAssert (.iface 185 v) xT 134 true).run Tryz.prog w = .ok (.tuple #[.nilIface, .bool false]) w := run_typeAssert_lacksB Tryz.underlying134 (by kernel_rfl) (by kernel_rfl) v xT w
theorem noUnwrapE (v : Value) (xT : TypeId) (w : World) : (Instr.typeAssert (.iface 185 v) xT 137 true).run Tryz.prog w = .ok (.tuple #[.nilIface, .bool false]) w := run_typeAssert_lacksB Tryz.underlying137 (by kernel_rfl) (by kernel_rfl) v xT w
theorem noUnwrapsE (v : Value) (xT : TypeId) (w : World) : (Instr.typeAssert (.iface 185 v) xT 139 true).run Tryz.prog w = .ok (.tuple #[.nilIface, .bool false]) w := run_typeAssert_lacksB Tryz.underlying139 (by kernel_rfl) (by kernel_rfl) v xT w

set_option maxRecDepth 100000 in
/-- errors.Is(x, x), x a pointer to an errors.errorString. -/
theorem is_same (a : Addr) (w : World) :
    Calls Tryz.prog 55 #[.iface 185 (.pointer (some a)), .iface 185 (.pointer (some a))] w fun e w' => e = .returned (.bool true) ∧ w' = w := by
  obtain ⟨i, hi, hcmp⟩ := Option.map_eq_some_iff.1 isComp
  obtain ⟨j, hj, hjs⟩ := Option.map_eq_some_iff.1 isSize
  have tT := callTypeOf
  have cT := callComparable
  have mR := isMethodComparable
  have heq := run_eql_iface_ptr_same (P := Tryz.prog) w a Tryz.underlying44 Tryz.underlying185 hi hcmp hj
  go_enter Tryz.func55, Tryz.ntmps55
  go_wp2
  refine wp_loop_rounds 1 ?_
  rw [rounds_succ]
  go_wp2
  go_ret
  exact ⟨rfl, rfl⟩

set_option maxRecDepth 100000 in
/-- errors.Is(x, y), two different pointers to errors.errorString: neither has Is nor Unwrap: false. -/
theorem is_other (a b : Addr) (ca cb : Array Value) (ta tb : TypeId) (w : World) (hne : a ≠ b) (ha : w.heap[a.block]? = some (.cells ca ta (0, 0))) (hb : w.heap[b.block]? = some (.cells cb tb (0, 0))) :
    Calls Tryz.prog 55 #[.iface 185 (.pointer (some a)), .iface 185 (.pointer (some b))] w fun e w' => e = .returned (.bool false) ∧ w' = w := by
  obtain ⟨i, hi, hcmp⟩ := Option.map_eq_some_iff.1 isComp
  obtain ⟨j, hj, hjs⟩ := Option.map_eq_some_iff.1 isSize
  have tT := callTypeOf
  have cT := callComparable
  have mR := isMethodComparable
  have nE := noIsE
  have uE := noUnwrapE
  have vE := noUnwrapsE
  have heq := run_eql_iface_ptr_other (P := Tryz.prog) w Tryz.underlying44 Tryz.underlying185 hi hcmp hj (by rw [hjs]; decide) hne ha hb
  go_enter Tryz.func55, Tryz.ntmps55
  go_wp2
  refine wp_loop_rounds 1 ?_
  rw [rounds_succ]
  go_wp2
  go_ret
  exact ⟨rfl, rfl⟩

/-- the variables of the thirteen errors, in the document's order -/
def errG : Nat → Nat
  | 0 => 1 | 1 => 0 | 2 => 2 | 3 => 3 | 4 => 4 | 5 => 5 | 6 => 6 | 7 => 7 | 8 => 8 | 9 => 9 | 10 => 10 | 11 => 11 | _ => 12

/-- an error of errors.New's make, by where it lies -/
def errV (a : Addr) : Value := .iface 185 (.pointer (some a))

/-- what the listed variables hold: thirteen errors, each in a place of its own -/
structure Errs (w : World) (a : Nat → Addr) : Prop where
  cell : ∀ k, k < 13 → w.cell? ⟨errG k, 0, none⟩ = some (errV (a k))
  row : ∀ k, k < 13 → ∃ c t, w.heap[(a k).block]? = some (.cells c t (0, 0))
  ne : ∀ j k, j < 13 → k < 13 → j ≠ k → a j ≠ a k

theorem Errs.below {w w' : World} {a : Nat → Addr} (h : Errs w a) (hb : Below w.heap.size w w') : Errs w' a where
  cell k hk := by rw [hb.cell (cell_lt (h.cell k hk))]; exact h.cell k hk
  row k hk := by
    obtain ⟨c, t, e⟩ := h.row k hk
    refine ⟨c, t, ?_⟩
    rw [hb.block _ (by
      rcases Nat.lt_or_ge (a k).block w.heap.size with h1 | h1
      · exact h1
      · rw [Array.getElem?_eq_none h1] at e; cases e)]
    exact e
  ne := h.ne

set_option maxRecDepth 100000 in
/-- Num of nil. -/
theorem num_nil (w : World) : Calls Tryz.prog 28 #[.nilIface] w fun e w' => e = .returned (.int .i64 0) ∧ w' = w := by
  go_enter Tryz.func28, Tryz.ntmps28
  go_wp2
  go_ret
  exact ⟨rfl, rfl⟩

/-- the cells of Num's row -/
def errCells (a : Nat → Addr) : Array Value := #[errV (a 0), errV (a 1), errV (a 2), errV (a 3), errV (a 4), errV (a 5), errV (a 6), errV (a 7), errV (a 8), errV (a 9), errV (a 10), errV (a 11), errV (a 12)]

theorem errCells_at (a : Nat → Addr) (i : Nat) (h : i < 13) : (errCells a)[i]? = some (errV (a i)) := by
  rcases (by omega : i = 0 ∨ i = 1 ∨ i = 2 ∨ i = 3 ∨ i = 4 ∨ i = 5 ∨ i = 6 ∨ i = 7 ∨ i = 8 ∨ i = 9 ∨ i = 10 ∨ i = 11 ∨ i = 12) with rfl | rfl | rfl | rfl | rfl | rfl | rfl | rfl | rfl | rfl | rfl | rfl | rfl <;> rfl

set_option maxRecDepth 100000 in
set_option maxHeartbeats 2000000 in
/-- Num of one of the thirteen. -/
theorem num_err (w : World) (a : Nat → Addr) (k : Nat) (hk : k < 13) (hE : Errs w a) : Calls Tryz.prog 28 #[errV (a k)] w fun e w' => e = .returned (.int .i64 ((k : Int) + 1)) ∧ Below w.heap.size w w' := by
  have c0 := hE.cell 0 (by decide)
  have c1 := hE.cell 1 (by decide)
  have c2 := hE.cell 2 (by decide)
  have c3 := hE.cell 3 (by decide)
  have c4 := hE.cell 4 (by decide)
  have c5 := hE.cell 5 (by decide)
  have c6 := hE.cell 6 (by decide)
  have c7 := hE.cell 7 (by decide)
  have c8 := hE.cell 8 (by decide)
  have c9 := hE.cell 9 (by decide)
  have c10 := hE.cell 10 (by decide)
  have c11 := hE.cell 11 (by decide)
  have c12 := hE.cell 12 (by decide)
  simp only [errG, errV] at c0 c1 c2 c3 c4 c5 c6 c7 c8 c9 c10 c11 c12
  obtain ⟨W1, hW1⟩ : ∃ W1, W1 = w.alloc (.cells (errCells a) 44) := ⟨_, rfl⟩
  have hB : Below w.heap.size w W1 := by rw [hW1]; exact (Below.refl _ _).alloc (Nat.le_refl _) _
  have hE1 := hE.below hB
  have hcell : ∀ i : Nat, i < 13 → W1.cell? ⟨w.heap.size, i, none⟩ = some (.iface 185 (.pointer (some (a i)))) := by
    intro i hi
    have e := errCells_at a i hi
    rw [hW1]
    simpa [errV, errCells] using e
  have hfit : Hid (w.alloc (.cells #[.iface 185 (.pointer (some (a 0))), .iface 185 (.pointer (some (a 1))), .iface 185 (.pointer (some (a 2))), .iface 185 (.pointer (some (a 3))), .iface 185 (.pointer (some (a 4))), .iface 185 (.pointer (some (a 5))), .iface 185 (.pointer (some (a 6))), .iface 185 (.pointer (some (a 7))), .iface 185 (.pointer (some (a 8))), .iface 185 (.pointer (some (a 9))), .iface 185 (.pointer (some (a 10))), .iface 185 (.pointer (some (a 11))), .iface 185 (.pointer (some (a 12)))] 44) = W1) := Lib.hid hW1.symm
  clear hW1
  unfold errV
  go_enter Tryz.func28, Tryz.ntmps28
  go_wp2
  rw [hfit.out]
  clear hfit c0 c1 c2 c3 c4 c5 c6 c7 c8 c9 c10 c11 c12
  go_loop [24] (fun i => ∃ m : Nat, m ≤ k ∧ i = .int .i64 m) (fun i => 13 - (intOf i).toNat)
  case atStart => exact ⟨0, Nat.zero_le _, rfl⟩
  case round =>
    obtain ⟨m, hm, rfl⟩ := hrel
    have h13 : (m : Int) < 13 := by omega
    have hc := hcell m (by omega)
    clear hcell
    rcases Nat.lt_or_ge m k with hlt | hge
    · obtain ⟨ca, ta, ra⟩ := hE1.row k hk
      obtain ⟨cb, tb, rb⟩ := hE1.row m (by omega)
      have hne := Lib.hid (hE1.ne k m hk (by omega) (by omega))
      have hra := Lib.hid ra
      have hrb := Lib.hid rb
      clear ra rb
      go_wp2_with (go_at_call 55; refine (is_other (a k) (a m) ca cb ta tb _ hne.out hra.out hrb.out).mono ?_; rintro e w' ⟨rfl, rfl⟩)
      go_round
      case rel => exact ⟨m + 1, by omega, by go_num⟩
      case measure => simp [intOf]; omega
    · obtain rfl : m = k := by omega
      go_wp2_with (go_at_call 55; refine (is_same (a m) _).mono ?_; rintro e w' ⟨rfl, rfl⟩)
      go_ret
      exact ⟨rfl, hB⟩

end Go.Proofs.YtalgmnlclflllaaGreatDoor
end

/- mime.Type's deferred closure. -/
set_option linter.unusedVariables false
set_option linter.unusedSimpArgs false
section
namespace Go.Proofs.YtalgmnlclflllaaGreatDoor
open Go.RowKit Go

theorem tm19 (p q r s x : Value) : #[p, q, r, s] ++ ((Array.replicate 15 undef).setIfInBounds 3 x).setIfInBounds 0 x = #[p, q, r, s, x, undef, undef, x, undef, undef, undef, undef, undef, undef, undef, undef, undef, undef, undef] := by
  simp [Array.replicate]
theorem ta_wrong (v : Value) (w : World) : (Instr.typeAssert (.iface 75 v) 20 75 true).run Tryz.prog w = .ok (.tuple #[v, .bool true]) w := by kernel_rfl

/-- a cell that may be written -/
def VarAt (w : World) (b : Nat) (x : Value) : Prop := w.cell? ⟨b, 0, none⟩ = some x ∧ w.frozen? ⟨b, 0, none⟩ = false
theorem VarAt.lt {w : World} {b : Nat} {x : Value} (h : VarAt w b x) : b < w.heap.size := cell_lt h.1
theorem VarAt.keep {w w' : World} {b : Nat} {x : Value} (h : VarAt w b x) (hb : w'.heap[b]? = w.heap[b]?) : VarAt w' b x := by
  refine ⟨?_, ?_⟩
  · rw [← h.1]; simp only [World.cell?, hb]
  · rw [← h.2]; simp only [World.frozen?, hb]
theorem VarAt.upd {w w' : World} {b c : Nat} {x : Value} (h : VarAt w b x) (hu : Upd c w w') (hn : b ≠ c) : VarAt w' b x := h.keep (hu.block b h.lt hn)
theorem VarAt.below {w w' : World} {b : Nat} {x : Value} (h : VarAt w b x) (hu : Below w.heap.size w w') : VarAt w' b x := h.keep (hu.block b h.lt)

set_option maxRecDepth 100000 in
set_option maxHeartbeats 2000000 in
theorem catchM_bad (g : Nat) (x0 x1 x2 x3 : Value) (a : Addr) (older : List PanicEntry) (w : World) (h0 : VarAt w g x0) (h1 : VarAt w (g + 1) x1) (h2 : VarAt w (g + 2) x2) (h3 : VarAt w (g + 3) x3) (hE : w.cell? ⟨0, 0, none⟩ = some (errV a)) (hg : 0 < g) :
    CallsD Tryz.prog 47 #[.pointer (some ⟨g, 0, none⟩), .pointer (some ⟨g + 1, 0, none⟩), .pointer (some ⟨g + 2, 0, none⟩), .pointer (some ⟨g + 3, 0, none⟩)] (.panicking ({ v := .iface 75 (.agg #[]), recovered := false } :: older)) w fun e u' w' =>
      e = .returned (.tuple #[]) ∧ u' = .panicking ({ v := .iface 75 (.agg #[]), recovered := true } :: older) ∧ (w'.cell? ⟨g, 0, none⟩ = some (.string ⟨#[]⟩) ∧ w'.cell? ⟨g + 1, 0, none⟩ = some (.string ⟨#[]⟩) ∧ w'.cell? ⟨g + 2, 0, none⟩ = some (.slice none 0 0) ∧ w'.cell? ⟨g + 3, 0, none⟩ = some (errV a)) ∧ Below g w w' := by
  refine callsD_of_wpS Tryz.func47 rfl fun c₀ cs hu => ?_
  apply wpS_seq
  apply wpS_region
  simp [wpOpsS, go_sem, recoverD, hu, Tryz.ntmps47, Exit.thenS]
  refine wpS_of_wp ?_
  rw [tm19]
  have hta := ta_wrong (.agg #[])
  obtain ⟨p0, f0⟩ := h0
  obtain ⟨p1, f1⟩ := h1
  obtain ⟨p2, f2⟩ := h2
  obtain ⟨p3, f3⟩ := h3
  have q0 := cell_alloc p0 (.cells #[] 75)
  have q1 := cell_alloc p1 (.cells #[] 75)
  have q2 := cell_alloc p2 (.cells #[] 75)
  have q3 := cell_alloc p3 (.cells #[] 75)
  have qE := cell_alloc hE (.cells #[] 75)
  have hb := (Below.refl _ w).alloc (Nat.le_refl _) (.cells #[] 75)
  have z0 : (w.alloc (.cells #[] 75)).frozen? ⟨g, 0, none⟩ = false := by rw [← f0]; simp only [World.frozen?, hb.block g (cell_lt p0)]
  have z1 : (w.alloc (.cells #[] 75)).frozen? ⟨g + 1, 0, none⟩ = false := by rw [← f1]; simp only [World.frozen?, hb.block (g + 1) (cell_lt p1)]
  have z2 : (w.alloc (.cells #[] 75)).frozen? ⟨g + 2, 0, none⟩ = false := by rw [← f2]; simp only [World.frozen?, hb.block (g + 2) (cell_lt p2)]
  have z3 : (w.alloc (.cells #[] 75)).frozen? ⟨g + 3, 0, none⟩ = false := by rw [← f3]; simp only [World.frozen?, hb.block (g + 3) (cell_lt p3)]
  unfold errV at qE ⊢
  obtain ⟨W, hW⟩ : ∃ W, w.alloc (.cells #[] 75) = W := ⟨_, rfl⟩
  have HW := Lib.hid hW
  have hbg : Below g w W := by rw [← hW]; exact (Below.refl _ w).alloc (Nat.le_of_lt (cell_lt p0)) _
  rw [hW] at q0 q1 q2 q3 qE z0 z1 z2 z3
  clear hb hE p0 p1 p2 p3 f0 f1 f2 f3
  go_wp2
  have hfin : ∀ v0 v1 v2 v3 : Value, ((((W.setCell ⟨g, 0, none⟩ v0).setCell ⟨g + 1, 0, none⟩ v1).setCell ⟨g + 2, 0, none⟩ v2).setCell ⟨g + 3, 0, none⟩ v3).cell? ⟨g, 0, none⟩ = some v0 ∧ ((((W.setCell ⟨g, 0, none⟩ v0).setCell ⟨g + 1, 0, none⟩ v1).setCell ⟨g + 2, 0, none⟩ v2).setCell ⟨g + 3, 0, none⟩ v3).cell? ⟨g + 1, 0, none⟩ = some v1 ∧ ((((W.setCell ⟨g, 0, none⟩ v0).setCell ⟨g + 1, 0, none⟩ v1).setCell ⟨g + 2, 0, none⟩ v2).setCell ⟨g + 3, 0, none⟩ v3).cell? ⟨g + 2, 0, none⟩ = some v2 ∧ ((((W.setCell ⟨g, 0, none⟩ v0).setCell ⟨g + 1, 0, none⟩ v1).setCell ⟨g + 2, 0, none⟩ v2).setCell ⟨g + 3, 0, none⟩ v3).cell? ⟨g + 3, 0, none⟩ = some v3 ∧ Below g w ((((W.setCell ⟨g, 0, none⟩ v0).setCell ⟨g + 1, 0, none⟩ v1).setCell ⟨g + 2, 0, none⟩ v2).setCell ⟨g + 3, 0, none⟩ v3) := by
    intro v0 v1 v2 v3
    have S : ∀ (w : World) (i : Nat) (u v : Value), w.cell? ⟨i, 0, none⟩ = some u → (w.setCell ⟨i, 0, none⟩ v).cell? ⟨i, 0, none⟩ = some v := fun w i u v h => by simp [World.cell?_setCell_same, h]
    have K : ∀ (w : World) (i j : Nat) (u v : Value), i ≠ j → w.cell? ⟨j, 0, none⟩ = some u → (w.setCell ⟨i, 0, none⟩ v).cell? ⟨j, 0, none⟩ = some u := fun w i j u v hn h => (World.cell?_setCell_other w _ _ v (by intro e; exact hn (congrArg Addr.block e))).trans h
    refine ⟨?_, ?_, ?_, ?_, (((hbg.setCell (p := ⟨g, 0, none⟩) (Nat.le_refl _) _).setCell (p := ⟨g + 1, 0, none⟩) (Nat.le_add_right _ _) _).setCell (p := ⟨g + 2, 0, none⟩) (Nat.le_add_right _ _) _).setCell (p := ⟨g + 3, 0, none⟩) (Nat.le_add_right _ _) _⟩
    · exact K _ _ _ _ _ (by omega) (K _ _ _ _ _ (by omega) (K _ _ _ _ _ (by omega) (S _ _ _ _ q0)))
    · exact K _ _ _ _ _ (by omega) (K _ _ _ _ _ (by omega) (S _ _ _ _ (K _ _ _ _ _ (by omega) q1)))
    · exact K _ _ _ _ _ (by omega) (S _ _ _ _ (K _ _ _ _ _ (by omega) (K _ _ _ _ _ (by omega) q2)))
    · exact S _ _ _ _ (K _ _ _ _ _ (by omega) (K _ _ _ _ _ (by omega) (K _ _ _ _ _ (by omega) q3)))
  obtain ⟨e0, e1, e2, e3, eb⟩ := hfin (.string ⟨#[]⟩) (.string ⟨#[]⟩) (.slice none 0 0) (.iface 185 (.pointer (some a)))
  obtain ⟨WF, hWF⟩ : ∃ WF, ((((W.setCell ⟨g, 0, none⟩ (.string ⟨#[]⟩)).setCell ⟨g + 1, 0, none⟩ (.string ⟨#[]⟩)).setCell ⟨g + 2, 0, none⟩ (.slice none 0 0)).setCell ⟨g + 3, 0, none⟩ (.iface 185 (.pointer (some a)))) = WF := ⟨_, rfl⟩
  rw [hWF] at e0 e1 e2 e3 eb ⊢
  clear hfin hWF
  simp [bodyPostS, results, Tryz.results47]
  exact ⟨⟨e0, e1, e2, e3⟩, eb⟩

set_option maxRecDepth 100000 in
theorem catchM_idle (p q r s : Addr) (w : World) :
    CallsD Tryz.prog 47 #[.pointer (some p), .pointer (some q), .pointer (some r), .pointer (some s)] .returning w fun e u' w' => e = .returned (.tuple #[]) ∧ u' = .returning ∧ w' = w := by
  refine callsD_of_wpS Tryz.func47 rfl fun c₀ cs hu => ?_
  apply wpS_seq
  apply wpS_region
  simp [wpOpsS, go_sem, recoverD, hu, Tryz.ntmps47, Exit.thenS]
  refine wpS_of_wp ?_
  rw [tm19]
  go_wp2
  cases c₀
  simp_all [bodyPostS, results, Tryz.results47]

end Go.Proofs.YtalgmnlclflllaaGreatDoor
end
