/- Texts of one walk, merged: XH5 XH6 XEr XH7 XHI XHJ XVU XJs. -/
import Derived.Test.YtifjibgnjjiggaaDoorWe
import Derived.Deep.CutBlock
import Derived.Deep.RegionWith
import Derived.Deep.CutRange
import Derived.Deep.Cut
import Derived.Outline
import Derived.LoopTactic
import Derived.LaidEql
import Derived.Stop.Asserts
import Derived.RowKitTokens

/- header's reader: a field's first line. -/
set_option linter.unusedVariables false
set_option linter.unusedSimpArgs false
section
set_option linter.unusedVariables false
set_option linter.unusedSimpArgs false
namespace Go.Proofs.YtifjibgnjjiggaaDoor
open Go.RowKit


set_option maxRecDepth 100000 in
set_option maxHeartbeats 2000000 in
theorem line_new (w : World) (b B : Nat) (v : Value) (fs : List Fld) (op : Bool) (p : Nat) (l : List UInt8) (c : UInt8) (r : List UInt8) (hk : RdrAt w b v op p) (ho : OwnF w B v fs) (hl : l.length ≤ 1099511627776) (hp : p + l.length ≤ 1099511627776) (ht : textL l = c :: r) (n vv : List UInt8) (hg : goesB (c :: r) = false) (hnm : nameL (c :: r) = some (n, vv)) (hB : B ≤ w.heap.size) (hfl : fs.length ≤ 1099511627776) :
    Calls Tryd.prog 58 #[.pointer (some ⟨b, 0, none⟩), .string (bs l)] w (LineP b B v w (fs ++ [⟨n, vv, p, p + l.length⟩]) true true (p + l.length)) := by
  obtain ⟨i0, hi0, hz0, hz1, hz2⟩ := info_parts info_fld
  have HN := Lib.hid hnm
  have HG := Lib.hid hg
  clear hg hnm
  obtain ⟨c0, c1, c2, f0, f1, f2⟩ := hk.cells
  have HT := Lib.hid ht
  have hkV := hk.set2 (p + l.length)
  have hcast : (p : Int) + (l.length : Int) = ((p + l.length : Nat) : Int) := by omega
  rw [← hcast] at hkV
  have hoV : OwnF (w.setCell ⟨b, 2, none⟩ (.int .i64 ((p : Int) + l.length))) B v fs := ho.later fun k hkk => Below.heap_setCell _ _ _ _ (by simp; rintro rfl; exact hk.not_row ho hkk)
  have hfV : Frm b v w (w.setCell ⟨b, 2, none⟩ (.int .i64 ((p : Int) + l.length))) := (Frm.refl b v w).set 2 _
  have hszV : (w.setCell ⟨b, 2, none⟩ (.int .i64 ((p : Int) + l.length))).heap.size = w.heap.size := by simp [World.setCell]
  obtain ⟨V, hV⟩ : ∃ V, w.setCell ⟨b, 2, none⟩ (.int .i64 ((p : Int) + l.length)) = V := ⟨_, rfl⟩
  rw [hV] at hkV hoV hfV hszV
  have HV := Lib.hid hV
  have HK := Lib.hid hkV
  have htl := textL_len l
  rw [ht] at htl
  have HTL : Hid ((c :: r).length ≤ 1099511627776) := by show _ ≤ _; omega
  clear ht hkV hcast hV htl
  go_enter Tryd.func58, Tryd.ntmps58
  go_wp2_with fail
  refine (text_any l _ hl).mono ?_
  rintro e w' ⟨rfl, rfl⟩
  rw [HT.out]
  go_wp2_with fail
  rw [HV.out]
  refine (name_any (c :: r) _ HTL.out).mono ?_
  rintro e w1 hn
  unfold nameV at hn
  rw [HN.out] at hn
  obtain ⟨rfl, hb1⟩ := hn
  have hk1 := HK.out.below hb1
  have ho1 := hoV.below hb1
  have hf1 := hfV.trans (Frm.of_below (v := v) hb1) (fun k h => .inl h)
  have hnr := hk1.not_row ho1
  obtain ⟨d0, d1, d2, g0, g1, g2⟩ := hk1.cells
  have HK1 := Lib.hid hk1
  have hB1 : B ≤ w1.heap.size := by have := hb1.size; omega
  clear c0 c1 c2 f0 f1 f2 hk1
  go_wp2_with fail
  refine (goesOn_any (c :: r) _).mono ?_
  rintro e w' ⟨rfl, rfl⟩
  rw [HG.out]
  go_wp2
  have A0 := fun o => cell_alloc d0 o
  have A2 := fun o => cell_alloc d2 o
  go_region_law ((refine step_append_lies _ (by rfl) _ _ _ (by rfl) B 87 i0 _ 4 48 Tryd.underlying46 hi0 hz0 hz1 hz2 rfl (by omega) v fs.length (cellsF fs) (by rfl) ((World.ownsRow.alloc ho1 _).drew) ⟨w1.heap.size, 0, none⟩ 1 1 [.string (bs n), .string (bs vv), .int .i64 p, .int .i64 (p + l.length : Nat)] (by rfl) (by rfl) (World.news_of_block (cs := #[.string (bs n), .string (bs vv), .int .i64 p, .int .i64 (p + l.length : Nat)]) (t := 87) (fr := (0, 0)) (heap_new w1 _)) (by simp [Value.oneCell']) (by omega) (by unfold maxLen; omega) (by omega) (by simp; omega) (w1.heap.size + 1) (by simp) ?_; intro gg cap w2 hown2 hgrow hat hlt; have hk2 : RdrAt w2 b v op (p + l.length) := (hgrow.block b (by have := HK1.out.lt; simp; omega) (fun e => hnr e.symm)).trans ((heap_old w1 _ _ HK1.out.lt).trans HK1.out); obtain ⟨a0, a1, a2, y0, y1, y2⟩ := hk2.cells))
  all_goals
    go_wp2
    go_ret
    have hbl := HK1.out.lt
    have hgb : gg ≠ b := by
      rintro rfl
      rcases hat with h1 | h1
      · exact hnr h1
      · omega
    have hown : OwnF w2 B (.slice (some ⟨gg, 0, none⟩) (fs.length + 1) cap) (fs ++ [⟨n, vv, p, p + l.length⟩]) := by
      unfold OwnF
      rw [List.length_append, cellsF_append]
      exact hown2
    have hf2 : Frm b v w1 w2 := ⟨hgrow.os, hgrow.tape, hgrow.output, by have := hgrow.size; simp at this; omega, fun k hk1 hk2 hk3 => (hgrow.block k (by simp; omega) (fun e => hk3 e.symm)).trans (heap_old w1 _ _ hk1)⟩
    refine ⟨_, rfl, (hk2.set0 _).set1 true, hown.later fun k hkk => (Below.heap_setCell _ _ _ _ (by have : gg = k := (by simpa [Value.ownBlock] using hkk); simp; omega)).trans (Below.heap_setCell _ _ _ _ (by have : gg = k := (by simpa [Value.ownBlock] using hkk); simp; omega)), ((hf1.trans hf2 (fun k h => .inl h)).set 0 _).set 1 _, fun k hkk => ?_⟩
    have hkg : gg = k := by simpa [Value.ownBlock] using hkk
    have hs := hf1.size
    rcases hat with h1 | h1
    · left; rw [h1, hkg]
    · right; omega

end Go.Proofs.YtifjibgnjjiggaaDoor
end

/- header's reader over a message's lines. -/
set_option linter.unusedVariables false
set_option linter.unusedSimpArgs false
section
namespace Go.Proofs.YtifjibgnjjiggaaDoor
open Go.RowKit

/-- what is kept between two lines -/
structure Kept (fs : List Fld) (op : Bool) (p : Nat) : Prop where
  open' : op = true → fs ≠ []
  vals : ∀ f ∈ fs, f.value.length ≤ p

theorem line_any (w : World) (b B : Nat) (v : Value) (fs : List Fld) (op : Bool) (p : Nat) (l : List UInt8) (hk : RdrAt w b v op p) (ho : OwnF w B v fs) (hl : l.length ≤ 1099511627776) (hp : p + l.length ≤ 1099511627776) (hB : B ≤ w.heap.size) (hfl : fs.length ≤ 1099511627776) (hkp : Kept fs op p) :
    Calls Tryd.prog 58 #[.pointer (some ⟨b, 0, none⟩), .string (bs l)] w (LineP b B v w (turnL fs op p (p + l.length) (textL l)).1 (turnL fs op p (p + l.length) (textL l)).2.1 (turnL fs op p (p + l.length) (textL l)).2.2 (p + l.length)) := by
  cases ht : textL l with
  | nil => exact line_end w b B v fs op p l hk ho hl hp ht
  | cons c r =>
    by_cases hg : goesB (c :: r) = true
    · cases hop : op with
      | false =>
        have e : turnL fs false p (p + l.length) (c :: r) = (fs, false, true) := by unfold turnL; rw [if_neg (by simp), if_pos hg]
        rw [e]
        subst hop
        exact line_shut w b B v fs false p l c r hk ho hl hp ht hg rfl
      | true =>
        obtain ⟨fs0, f, rfl⟩ : ∃ fs0 f, fs = fs0 ++ [f] := ⟨fs.dropLast, fs.getLast (hkp.open' hop), (List.dropLast_concat_getLast (hkp.open' hop)).symm⟩
        have e : turnL (fs0 ++ [f]) true p (p + l.length) (c :: r) = (fs0 ++ [{ f with value := f.value ++ (c :: r), fin := p + l.length }], true, true) := by unfold turnL; rw [if_neg (by simp), if_pos hg]; simp
        rw [e]
        subst hop
        exact line_more w b B v _ true p l c r hk ho hl hp ht f fs0 rfl (by have := hkp.vals f (by simp); omega) (by simp at hfl; omega) hg rfl
    · have hg' : goesB (c :: r) = false := by simpa using hg
      cases hn : nameL (c :: r) with
      | none =>
        have e : turnL fs op p (p + l.length) (c :: r) = (fs, false, true) := by unfold turnL; rw [if_neg (by simp), if_neg hg, hn]
        rw [e]
        exact line_no w b B v fs op p l c r hk ho hl hp ht hg' hn
      | some q =>
        obtain ⟨n, vv⟩ := q
        have e : turnL fs op p (p + l.length) (c :: r) = (fs ++ [⟨n, vv, p, p + l.length⟩], true, true) := by unfold turnL; rw [if_neg (by simp), if_neg hg, hn]
        rw [e]
        exact line_new w b B v fs op p l c r hk ho hl hp ht n vv hg' hn hB hfl

theorem nameL_len {t n v : List UInt8} (h : nameL t = some (n, v)) : n.length + v.length ≤ t.length := by
  unfold nameL at h
  cases hc : cutC t with
  | none => rw [hc] at h; cases h
  | some q =>
    obtain ⟨a, r⟩ := q
    rw [hc] at h
    simp only at h
    split at h
    · obtain ⟨rfl, rfl⟩ := Prod.mk.inj (Option.some.inj h)
      rw [cutC_some hc]; simp
    · cases h

theorem Kept.turn {fs : List Fld} {op : Bool} {p : Nat} (h : Kept fs op p) (l : List UInt8) : Kept (turnL fs op p (p + l.length) (textL l)).1 (turnL fs op p (p + l.length) (textL l)).2.1 (p + l.length) ∧ (turnL fs op p (p + l.length) (textL l)).1.length ≤ fs.length + 1 := by
  have htl := textL_len l
  have hv : ∀ f ∈ fs, f.value.length ≤ p + l.length := fun f hf => Nat.le_trans (h.vals f hf) (by omega)
  unfold turnL
  by_cases h0 : textL l = []
  · rw [if_pos h0]; exact ⟨⟨h.open', hv⟩, by simp⟩
  · rw [if_neg h0]
    by_cases hg : goesB (textL l) = true
    · rw [if_pos hg]
      cases op with
      | false => exact ⟨⟨fun e => (by cases e), hv⟩, by simp⟩
      | true =>
        have hne := h.open' rfl
        obtain ⟨fs0, f, rfl⟩ : ∃ fs0 f, fs = fs0 ++ [f] := ⟨fs.dropLast, fs.getLast hne, (List.dropLast_concat_getLast hne).symm⟩
        have e : (fs0 ++ [f]).getLast? = some f := by simp
        rw [e]
        refine ⟨⟨fun _ => by simp, fun g hgm => ?_⟩, by simp⟩
        rcases List.mem_append.1 hgm with h1 | h1
        · exact hv g (by simp at h1 ⊢; exact Or.inl h1)
        · rw [List.mem_singleton.1 h1]
          have := h.vals f (by simp)
          simp; omega
    · rw [if_neg hg]
      cases hn : nameL (textL l) with
      | none => exact ⟨⟨fun e => (by cases e), hv⟩, by simp⟩
      | some q =>
        obtain ⟨n, vv⟩ := q
        refine ⟨⟨fun _ => by simp, fun g hgm => ?_⟩, by simp⟩
        rcases List.mem_append.1 hgm with h1 | h1
        · exact hv g h1
        · rw [List.mem_singleton.1 h1]
          have := nameL_len hn
          simp; omega

/-- the lines' slice across a line's turning -/
theorem OwnS.frm {w w' : World} {b B B2 : Nat} {v v2 : Value} {fs : List Fld} {ls : List (List UInt8)} (h : OwnS w B2 v2 ls) (hb : b < B2) (hr : OwnF w B v fs) (hf : Frm b v w w') : OwnS w' B2 v2 ls := by
  refine ⟨h.1, ?_⟩
  rcases h.2 with h0 | ⟨g, cap, cur, rfl, h1, h2, r⟩
  · exact .inl h0
  · refine .inr ⟨g, cap, cur, rfl, h1, (hf.block g (Array.getElem?_eq_some_iff.1 h2).1 (by omega) ?_).trans h2, r⟩
    intro e
    rcases hr.2 with ⟨rfl, _⟩ | ⟨g', cap', cur', rfl, _, hg', _⟩
    · cases e
    · obtain rfl : g' = g := by simpa [Value.ownBlock] using e
      rw [h2] at hg'
      simp at hg'

theorem trim_any (l : List UInt8) (w : World) (hl : l.length ≤ 9223372036854775807) : Calls Tryd.prog 19 #[.string (bs l), .string (bs [32, 9])] w fun e w' => e = .returned (.string (bs (trimB l))) ∧ Below w.heap.size w w' :=
  Any.strings_Trim_laid Tryd.lays160 (by kernel_rfl) (bs l) (bs [32, 9]) w (by rw [bs_size]; exact hl) (by decide) (ascii_of_all (by decide))

/-- what read leaves: a reader in a new block -/
def ReadP (q : Nat) (fs : List Fld) (w : World) (e : Ending) (w' : World) : Prop := ∃ v op, e = .returned (.pointer (some ⟨w.heap.size, 0, none⟩)) ∧ RdrAt w' w.heap.size v op q ∧ OwnF w' w.heap.size v fs ∧ Below w.heap.size w w'

theorem trims_step (fs : List Fld) (k : Nat) (hk : k < fs.length) (f : Fld) (hf : fs[k]? = some f) : ((fs.take k).map trimF ++ fs.drop k).set k { f with value := trimB f.value } = (fs.take (k + 1)).map trimF ++ fs.drop (k + 1) := by
  have hk' : (List.map trimF (List.take k fs)).length = k := by simp; omega
  rw [List.set_append_right _ _ (by omega), hk', Nat.sub_self]
  obtain ⟨_, he⟩ := List.getElem?_eq_some_iff.1 hf
  rw [List.drop_eq_getElem_cons hk, List.set_cons_zero, List.take_add_one, hf]
  simp [trimF]

set_option maxRecDepth 100000 in
set_option maxHeartbeats 4000000 in
theorem read_any (m : List UInt8) (w : World) (hm : m.length ≤ 1000000000) : Calls Tryd.prog 44 #[.string (bs m)] w (ReadP (bodyL m) (fieldsL m) w) := by
  have hll := linesOf_length m
  have hm2 : m.length ≤ 1099511627776 := by omega
  obtain ⟨ls, hls⟩ : ∃ ls, linesOf m = ls := ⟨_, rfl⟩
  obtain ⟨G, hG⟩ : ∃ G, goL [] false 0 ls = G := ⟨_, rfl⟩
  have hbody : bodyL m = G.2 := by unfold bodyL; rw [hls, hG]
  have hfields : fieldsL m = G.1.map trimF := by unfold fieldsL; rw [hls, hG]
  have hflat : ls.flatten = m := by rw [← hls]; exact linesOf_flatten m
  rw [hbody, hfields]
  rw [hls] at hll
  have HLS := Lib.hid hls
  have HG := Lib.hid hG
  have HFL := Lib.hid hflat
  have HM := Lib.hid hm2
  clear hls hG hbody hfields hflat hm2
  go_enter Tryd.func44, Tryd.ntmps44
  go_wp2_with fail
  refine (split_any m _ HM.out).mono ?_
  rintro e w2 ⟨v2, rfl, o2, hb2⟩
  rw [HLS.out] at o2
  have k2 : RdrAt w2 w.heap.size (.slice none 0 0) false 0 := (hb2.block _ (by simp)).trans (heap_new _ _)
  have hB2 : Below w.heap.size w w2 := ((Below.refl _ w).alloc (Nat.le_refl _) _).trans (hb2.mono (by simp))
  rw [size_alloc] at o2
  have hz2 : w.heap.size + 1 ≤ w2.heap.size := by have := hb2.size; simpa using this
  clear hb2
  obtain ⟨a2, n2, cap2, rfl, hn2⟩ := OwnS.form o2
  have hn2' : n2 ≤ 1000000000 := by rw [hn2.out]; omega
  go_upto_block 0 with fail
  go_cut [5] from 12 to 20 (fun _ wc => ∃ v op, RdrAt wc w.heap.size v op G.2 ∧ OwnF wc w.heap.size v G.1 ∧ Below w.heap.size w wc ∧ G.1.length ≤ 1000000000 ∧ ∀ f ∈ G.1, f.value.length ≤ 1000000000)
  case first =>
    go_wp2_with fail
    go_loopw [5, 12] (fun _ c wr => ∃ (k p : Nat) (fs : List Fld) (op : Bool) (v : Value), k ≤ ls.length ∧ c = .int .i64 k ∧ RdrAt wr w.heap.size v op p ∧ OwnF wr w.heap.size v fs ∧ OwnS wr (w.heap.size + 1) (.slice a2 n2 cap2) ls ∧ Below w.heap.size w wr ∧ Kept fs op p ∧ fs.length ≤ k ∧ Hid (goL fs op p (ls.drop k) = G) ∧ Hid (p + (ls.drop k).flatten.length = m.length)) (fun _ c _ => ls.length - (intOf c).toNat)
    case atStart => exact ⟨0, 0, [], false, .slice none 0 0, Nat.zero_le _, rfl, k2, World.ownsRow_nil _ _ _ _, o2, hB2, ⟨fun e => (by cases e), fun f hf => (by cases hf)⟩, Nat.zero_le _, HG.out, by show _ = _; rw [List.drop_zero, HFL.out]; omega⟩
    case round =>
      obtain ⟨k, p, fs, op, v, hk, rfl, hkr, hof, hos, hB, hkp, hfk, hgo, hpl⟩ := hrel
      have hzr := hB.size
      by_cases hlt : k < ls.length
      · obtain ⟨g, cap, hv2, hg⟩ := (OwnS.parts hos).resolve_left (fun h => by have := h.2; rw [this] at hlt; simp at hlt)
        obtain ⟨l, hl⟩ : ∃ l, ls.getD k [] = l := ⟨_, rfl⟩
        have hcell := (OwnS.set (by rw [← hv2]; exact hos) hlt []).1
        rw [hl] at hcell
        have hdrop : ls.drop k = l :: ls.drop (k + 1) := by
          rw [List.drop_eq_getElem_cons hlt, ← hl, List.getD_eq_getElem?_getD, List.getElem?_eq_getElem hlt]; rfl
        have hpl' := hpl.out
        have hgo' := hgo.out
        rw [hdrop] at hpl' hgo'
        rw [List.flatten_cons, List.length_append] at hpl'
        have hkt := hkp.turn l
        have hgo2 : Hid ((if (turnL fs op p (p + l.length) (textL l)).2.2 = true then goL (turnL fs op p (p + l.length) (textL l)).1 (turnL fs op p (p + l.length) (textL l)).2.1 (p + l.length) (ls.drop (k + 1)) else ((turnL fs op p (p + l.length) (textL l)).1, p + l.length)) = G) := by
          show _ = _
          rw [← hgo', goL]
        have hlen : Hid (p + l.length + (ls.drop (k + 1)).flatten.length = m.length) := by show _ = _; omega
        have hll2 : p + l.length ≤ m.length := by omega
        have hcall := line_any wr w.heap.size w.heap.size v fs op p l hkr hof (by omega) (by omega) hzr (by omega) hkp
        obtain ⟨q, hq⟩ : ∃ q, turnL fs op p (p + l.length) (textL l) = q := ⟨_, rfl⟩
        rw [hq] at hkt hgo2 hcall
        obtain ⟨fs', op', go⟩ := q
        have HC := Lib.hid hcall
        have HL := Lib.hid hl
        clear hq hcall hdrop hpl hpl' hgo hgo' hl
        obtain ⟨rfl, rfl, rfl⟩ : a2 = some ⟨g, 0, none⟩ ∧ n2 = ls.length ∧ cap2 = cap := by simpa using hv2
        have hlt' : (k : Int) < ls.length := by omega
        go_wp2_with fail
        refine HC.out.mono ?_
        rintro e w3 ⟨v', rfl, hk3, ho3, hf3, hv3⟩
        have hB3 : Below w.heap.size w w3 := hB.trans (hf3.below (Nat.le_refl _) (fun j hj => (World.ownsRow.lt hof j hj).1) hzr)
        have hos3 := OwnS.frm hos (by omega) hof hf3
        cases go
        · have hG2 := hgo2.out
          rw [if_neg (by simp)] at hG2
          subst hG2
          go_wp2
          go_meet
          case rel => exact ⟨v', op', hk3, ho3, hB3, by have h9 : fs'.length ≤ fs.length + 1 := hkt.2; show fs'.length ≤ _; omega, fun f hf => by have := hkt.1.vals f hf; omega⟩
        · have hG2 := hgo2.out
          rw [if_pos rfl] at hG2
          go_wp2
          go_roundw
          case rel => exact ⟨k + 1, p + l.length, fs', op', v', by omega, by go_num, hk3, ho3, hos3, hB3, hkt.1, by have h9 : fs'.length ≤ fs.length + 1 := hkt.2; omega, hG2, hlen⟩
          case measure => simp [intOf]; omega
      · obtain rfl : k = ls.length := by omega
        have hG2 := hgo.out
        rw [List.drop_length, goL] at hG2
        subst hG2
        have hp2 := hpl.out
        rw [List.drop_length] at hp2
        simp at hp2
        have hge : ¬ (ls.length : Int) < n2 := by rw [hn2.out]; omega
        go_wp2
        go_meet
        case rel => exact ⟨v, op, hkr, hof, hB, by omega, fun f hf => by have := hkp.vals f hf; omega⟩
  case rest =>
    obtain ⟨v, op, hk, ho, hB, hlen, hval⟩ := hcut
    obtain ⟨fs, q⟩ := G
    replace hlen : fs.length ≤ 1000000000 := hlen
    replace hval : ∀ f ∈ fs, f.value.length ≤ 1000000000 := hval
    replace hk : RdrAt wc w.heap.size v op q := hk
    replace ho : OwnF wc w.heap.size v fs := ho
    have hz := hB.size
    obtain ⟨c0, c1, c2, f0, f1, f2⟩ := hk.cells
    rcases ho.parts with ⟨rfl, rfl⟩ | ⟨g, cap, rfl, hBg, hgl⟩
    · go_wp2
      go_loopw [6, 26] (fun _ c wr => c = .int .i64 0 ∧ wr = wc) (fun _ _ _ => 0)
      case atStart => exact ⟨rfl, rfl⟩
      case round =>
        obtain ⟨rfl, rfl⟩ := hrel
        go_wp2
        go_ret
        exact ⟨_, op, rfl, hk, ho, hB⟩
    · have hgb : g ≠ w.heap.size := fun e => hk.not_row ho (by rw [e]; rfl)
      have HV := Lib.hid hval
      clear hval
      go_wp2
      go_loopw [6, 26] (fun _ c wr => ∃ k : Nat, k ≤ fs.length ∧ c = .int .i64 k ∧ RdrAt wr w.heap.size (.slice (some ⟨g, 0, none⟩) fs.length cap) op q ∧ OwnF wr w.heap.size (.slice (some ⟨g, 0, none⟩) fs.length cap) ((fs.take k).map trimF ++ fs.drop k) ∧ Below w.heap.size w wr) (fun _ c _ => fs.length - (intOf c).toNat)
      case atStart => exact ⟨0, Nat.zero_le _, rfl, hk, by simpa using ho, hB⟩
      case round =>
        obtain ⟨k, hkl, rfl, hkr, hof, hBr⟩ := hrel
        have hzr := hBr.size
        by_cases hlt : k < fs.length
        · obtain ⟨f, hf⟩ : ∃ f, fs[k]? = some f := ⟨_, List.getElem?_eq_getElem hlt⟩
          have hfv := HV.out f (List.mem_of_getElem? hf)
          have hfi : ((fs.take k).map trimF ++ fs.drop k)[k]? = some f := by
            rw [List.getElem?_append_right (by simp; omega), List.length_map, List.length_take, Nat.min_eq_left hkl, Nat.sub_self, List.getElem?_drop, Nat.add_zero, hf]
          have e1 : _ = some (Value.string (bs f.value)) := hof.cell k 1 f hfi (by decide)
          obtain ⟨c0, c1, c2, f0, f1, f2⟩ := hkr.cells
          have hlt' : (k : Int) < fs.length := by omega
          have HF := Lib.hid hfi
          have HF0 := Lib.hid hf
          clear hfi hf
          go_wp2
          have hfv2 : f.value.length ≤ 9223372036854775807 := by omega
          go_region_with ((go_at_call 19; refine (trim_any f.value _ hfv2).mono ?_; rintro e w3 ⟨rfl, hb3⟩; have hk3 := RdrAt.below (w := wr.drew) hkr hb3; have ho3 := OwnF.below (w := wr.drew) hof hb3; have hB3 : Below w.heap.size w w3 := (hBr.drew).trans (hb3.mono hzr); obtain ⟨p0, p1, p2, y0, y1, y2⟩ := hk3.cells; have e3 : w3.cell? ⟨g, k * 4 + 1, none⟩ = some (Value.string (bs f.value)) := ho3.cell k 1 f HF.out (by decide); have z3 : w3.frozen? ⟨g, k * 4 + 1, none⟩ = false := frozenF ho3 _; clear hb3))
          all_goals
            have hs3 := ho3.setv k f HF.out (trimB f.value)
            rw [trims_step fs k hlt f HF0.out] at hs3
            go_wp2
            go_roundw
            case rel => exact ⟨k + 1, by omega, by go_num, (Below.heap_setCell _ _ _ _ (by simpa using hgb.symm)).trans hk3, hs3, hB3.setCell (p := ⟨g, k * 4 + 1, none⟩) hBg _⟩
            case measure => simp [intOf]; omega
        · obtain rfl : k = fs.length := by omega
          rw [List.take_length, List.drop_length, List.append_nil] at hof
          go_wp2
          go_ret
          exact ⟨_, op, rfl, hkr, hof, hBr⟩

end Go.Proofs.YtifjibgnjjiggaaDoor
end

/- errors.Is at errors of errors.New's make, the thirteen errors of package api, and what number each has. (The walks of errors.Is are after the guide's worked text Sentry.) -/
set_option linter.unusedVariables false
set_option linter.unusedSimpArgs false
section
namespace Go.Proofs.YtifjibgnjjiggaaDoor
open Go.RowKit Go.Extern.Stop Go.Stop Go.Extern

theorem isComp : (Tryd.prog.info? 126).map (·.comparable) = some true := by kernel_rfl
theorem isSize : (Tryd.prog.info? 141).map (·.size) = some 1 := by kernel_rfl
/-- an error of errors.New's make, by where it lies -/
def errV (a : Addr) : Value := .iface 126 (.pointer (some a))

/-- the cells of Num's row -/
def errCells (a : Nat → Addr) : Array Value := #[errV (a 0), errV (a 1), errV (a 2), errV (a 3), errV (a 4), errV (a 5), errV (a 6), errV (a 7), errV (a 8), errV (a 9), errV (a 10), errV (a 11), errV (a 12)]

theorem errCells_at (a : Nat → Addr) (i : Nat) (h : i < 13) : (errCells a)[i]? = some (errV (a i)) := by
  rcases (by omega : i = 0 ∨ i = 1 ∨ i = 2 ∨ i = 3 ∨ i = 4 ∨ i = 5 ∨ i = 6 ∨ i = 7 ∨ i = 8 ∨ i = 9 ∨ i = 10 ∨ i = 11 ∨ i = 12) with rfl | rfl | rfl | rfl | rfl | rfl | rfl | rfl | rfl | rfl | rfl | rfl | rfl <;> rfl

end Go.Proofs.YtifjibgnjjiggaaDoor
end

/- header.Fields, Body; the statements' example of layer 9. -/
set_option linter.unusedVariables false
set_option linter.unusedSimpArgs false
section
namespace Go.Proofs.YtifjibgnjjiggaaDoor
open Go.RowKit

/-- fields handed back -/
def FieldsP (B : Nat) (fs : List Fld) (w : World) (e : Ending) (w' : World) : Prop := ∃ v, e = .returned (.tuple #[v, .nilIface]) ∧ OwnF w' B v fs ∧ Below B w w'

theorem OwnF.form {w : World} {B : Nat} {v : Value} {fs : List Fld} (h : OwnF w B v fs) : ∃ a n cap, v = .slice a n cap ∧ Hid (n = fs.length) := by
  rcases h.2 with ⟨rfl, h0⟩ | ⟨g, cap, cur, rfl, _⟩
  · exact ⟨none, 0, 0, rfl, h0.symm⟩
  · exact ⟨_, _, _, rfl, rfl⟩

set_option maxRecDepth 100000 in
theorem fields_ok (m : List UInt8) (w : World) (hm : m.length ≤ 1000000000) (hf : (fieldsL m).length ≤ 200) : Calls Tryd.prog 21 #[.string (bs m)] w (FieldsP w.heap.size (fieldsL m) w) := by
  have HM := Lib.hid hm
  obtain ⟨fs, hfs⟩ : ∃ fs, fieldsL m = fs := ⟨_, rfl⟩
  rw [hfs] at hf ⊢
  have HF := Lib.hid hfs
  clear hm hfs
  go_enter Tryd.func21, Tryd.ntmps21
  go_wp2_with fail
  refine (read_any m _ HM.out).mono ?_
  rintro e w1 ⟨v, op, rfl, hk, ho, hB⟩
  rw [HF.out] at ho
  obtain ⟨a, n, cap, rfl, hn⟩ := OwnF.form ho
  have hn2 : n ≤ 200 := by rw [hn.out]; exact hf
  obtain ⟨c0, c1, c2, f0, f1, f2⟩ := hk.cells
  go_wp2
  go_ret2
  exact ⟨_, rfl, ho, hB⟩

set_option maxRecDepth 100000 in
theorem fields_full (m : List UInt8) (w : World) (x : Addr) (hc : w.cell? ⟨0, 0, none⟩ = some (errV x)) (hm : m.length ≤ 1000000000) (hf : 200 < (fieldsL m).length) : Calls Tryd.prog 21 #[.string (bs m)] w fun e w' => e = .returned (.tuple #[.slice none 0 0, errV x]) ∧ Below w.heap.size w w' := by
  have HM := Lib.hid hm
  obtain ⟨fs, hfs⟩ : ∃ fs, fieldsL m = fs := ⟨_, rfl⟩
  rw [hfs] at hf
  have HF := Lib.hid hfs
  clear hm hfs
  go_enter Tryd.func21, Tryd.ntmps21
  go_wp2_with fail
  refine (read_any m _ HM.out).mono ?_
  rintro e w1 ⟨v, op, rfl, hk, ho, hB⟩
  rw [HF.out] at ho
  obtain ⟨a, n, cap, rfl, hn⟩ := OwnF.form ho
  have hn2 : 200 < n := by rw [hn.out]; exact hf
  have hn3 : n ≤ 9223372036854775807 := by
    rcases ho.2 with ⟨h, _⟩ | ⟨g', cap', cur, h, _, _, h1, h2, _⟩
    · simp at h; omega
    · simp at h
      have : cap' ≤ 9223372036854775807 := h2
      rw [← hn.out] at h1
      omega
  have hcx := (hB.cell (cell_lt hc)).trans hc
  obtain ⟨c0, c1, c2, f0, f1, f2⟩ := hk.cells
  go_wp2
  go_quiet (fail)
  go_wp2
  go_ret2
  exact ⟨rfl, below_drewN hB _⟩

def exM : List UInt8 := [65, 58, 32, 120, 13, 10, 32, 121, 13, 10, 66, 58, 122, 13, 10, 13, 10, 98, 111, 100, 121]
theorem ex_fields : fieldsL exM = [⟨[65], [120, 32, 121], 0, 10⟩, ⟨[66], [122], 10, 15⟩] := by rfl
theorem ex_body : bodyL exM = 17 := by rfl

end Go.Proofs.YtifjibgnjjiggaaDoor
end

/- header.All, header.Get, the reference's Get. -/
set_option linter.unusedVariables false
set_option linter.unusedSimpArgs false
section
namespace Go.Proofs.YtifjibgnjjiggaaDoor
open Go.RowKit Go

/-- the values of a name -/
def getL (fs : List Fla) (nm : List UInt8) : List (List UInt8) := (fs.filter fun f => lowL f.name == lowL nm).map fun f => f.value
theorem getL_cons (f : Fla) (fs : List Fla) (nm : List UInt8) : getL (f :: fs) nm = if (lowL f.name == lowL nm) = true then f.value :: getL fs nm else getL fs nm := by
  unfold getL
  rw [List.filter_cons]
  split <;> rfl
theorem getL_length (fs : List Fla) (nm : List UInt8) : (getL fs nm).length ≤ fs.length := by
  unfold getL
  rw [List.length_map]
  exact List.length_filter_le _ _

theorem OwnS.over {w w' : World} {B2 : Nat} {v2 : Value} {ls : List (List UInt8)} (h : OwnS w B2 v2 ls) (hb : Below w.heap.size w w') : OwnS w' B2 v2 ls := by
  refine ⟨h.1, ?_⟩
  rcases h.2 with h0 | ⟨g, cap, cur, rfl, h1, h2, r⟩
  · exact .inl h0
  · exact .inr ⟨g, cap, cur, rfl, h1, (hb.block g (Array.getElem?_eq_some_iff.1 h2).1).trans h2, r⟩
/-- the row that came in, an element's cells -/
theorem ArgF.at {w : World} {b o n c : Nat} {fs : List Fla} (h : ArgF w (.slice (some ⟨b, o, none⟩) n c) fs) (h0 : fs ≠ []) : n = fs.length ∧ b < w.heap.size ∧ ∀ k f, fs[k]? = some f →
    w.cell? ⟨b, o + k * 4, none⟩ = some (.string (bs f.name)) ∧ w.cell? ⟨b, o + k * 4 + 1, none⟩ = some (.string (bs f.value)) ∧ w.cell? ⟨b, o + k * 4 + 2, none⟩ = some (.int .i64 f.pos) ∧ w.cell? ⟨b, o + k * 4 + 3, none⟩ = some (.int .i64 f.fin) := by
  rcases h with ⟨_, _, _, h⟩ | ⟨b', o', c', h, h1, h2, h3⟩
  · exact absurd h h0
  · obtain ⟨⟨rfl, rfl⟩, rfl, rfl⟩ : (b = b' ∧ o = o') ∧ n = fs.length ∧ c = c' := by simpa using h
    refine ⟨rfl, h2, fun k f hf => ?_⟩
    exact ⟨h3 k f hf 0 (by decide), h3 k f hf 1 (by decide), h3 k f hf 2 (by decide), h3 k f hf 3 (by decide)⟩
theorem ArgF.form {w : World} {v : Value} {fs : List Fla} (h : ArgF w v fs) : (∃ a c, v = .slice a 0 c ∧ fs = []) ∨ ∃ b o c, v = .slice (some ⟨b, o, none⟩) fs.length c ∧ fs ≠ [] := by
  rcases h with h | ⟨b, o, c, h, h1, _⟩
  · exact .inl h
  · exact .inr ⟨b, o, c, h, by rintro rfl; simp at h1⟩

set_option maxRecDepth 100000 in
set_option maxHeartbeats 2000000 in
theorem all_any (v : Value) (fs : List Fla) (nm : List UInt8) (w : World) (ha : ArgF w v fs) (hl : fs.length ≤ 1000000) (hn : nm.length ≤ 1000000) (hf : ∀ f ∈ fs, f.name.length ≤ 1000000) :
    Calls Tryd.prog 45 #[v, .string (bs nm)] w (Strs w.heap.size (getL fs nm) w) := by
  obtain ⟨i0, hi, hz0, hz1, hz2⟩ := info_parts info_str
  rcases ha.form with ⟨a, c, rfl, rfl⟩ | ⟨b, o, c, rfl, hne⟩
  · go_enter Tryd.func45, Tryd.ntmps45
    go_wp2
    go_loopw [5, 10] (fun v c wr => c = .int .i64 0 ∧ v = .slice none 0 0 ∧ Below w.heap.size w wr) (fun _ _ _ => 0)
    case atStart => exact ⟨rfl, rfl, Below.refl _ _⟩
    case round =>
      obtain ⟨rfl, rfl, hB⟩ := hrel
      go_wp2
      go_ret
      exact ⟨_, rfl, World.ownsRow_nil _ _ _ _, hB⟩
  · have hn' : nm.length ≤ 1099511627776 := by omega
    have HN := Lib.hid hn'
    have HA := Lib.hid ha
    have HF := Lib.hid hf
    clear ha hf hn'
    go_enter Tryd.func45, Tryd.ntmps45
    go_wp2
    go_loopw [5, 10] (fun out c wr => ∃ (k : Nat) (ls : List (List UInt8)), k ≤ fs.length ∧ c = .int .i64 k ∧ OwnS wr w.heap.size out ls ∧ Hid (ls ++ getL (fs.drop k) nm = getL fs nm) ∧ ls.length ≤ k ∧ Below w.heap.size w wr) (fun _ c _ => fs.length - (intOf c).toNat)
    case atStart => exact ⟨0, [], Nat.zero_le _, rfl, World.ownsRow_nil _ _ _ _, by show _ = _; rfl, Nat.le_refl _, Below.refl _ _⟩
    case round =>
      obtain ⟨k, ls, hk, rfl, hown, hls, hlk, hB⟩ := hrel
      have hzr := hB.size
      by_cases hlt : k < fs.length
      · obtain ⟨f, hfk⟩ : ∃ f, fs[k]? = some f := ⟨_, List.getElem?_eq_getElem hlt⟩
        obtain ⟨_, _, hcells⟩ := (HA.out.below hB).at hne
        obtain ⟨c0, c1, c2, c3⟩ := hcells k f hfk
        have hfn : f.name.length ≤ 1099511627776 := by have := HF.out f (List.mem_of_getElem? hfk); omega
        have hls' := hls.out
        rw [List.drop_eq_getElem_cons hlt, (List.getElem?_eq_some_iff.1 hfk).2, getL_cons] at hls'
        have HLS := Lib.hid hls'
        have HFN := Lib.hid hfn
        have hlt' : (k : Int) < fs.length := by omega
        clear hcells hls' hls hfk hfn
        go_wp2_with fail
        refine (hsame_any f.name nm _ HFN.out HN.out).mono ?_
        rintro e w1 ⟨rfl, hb1⟩
        have hz1' := hb1.size
        rw [size_alloc] at hz1'
        have d1 : w1.cell? ⟨wr.heap.size, 1, none⟩ = some (.string (bs f.value)) := by
          exact (hb1.cell (p := ⟨wr.heap.size, 1, none⟩) (by rw [size_alloc]; exact Nat.lt_succ_self _)).trans (row_cell (heap_new wr _) rfl)
        have hB1 : Below w.heap.size w w1 := (hB.alloc hzr _).trans (hb1.mono (by simp; omega))
        have hown1 : OwnS w1 w.heap.size _ ls := OwnS.over hown ((Below.refl _ wr).alloc (Nat.le_refl _) _ |>.trans (hb1.mono (by simp)))
        rcases hs : (lowL f.name == lowL nm) with _ | _
        · have hl2 := HLS.out
          rw [hs] at hl2
          simp only [Bool.false_eq_true, if_false] at hl2
          have HL2 := Lib.hid hl2
          clear hl2 HLS d1 hs hz1'
          go_wp2
          go_roundw
          case rel => exact ⟨k + 1, ls, by omega, by go_num, hown1, HL2.out, by omega, hB1⟩
          case measure => simp [intOf]; omega
        · have hl2 := HLS.out
          rw [hs] at hl2
          simp only [if_true] at hl2
          have HL2 := Lib.hid hl2
          clear hl2 HLS
          go_wp2_with (at_builtin; refine wpList_append_own _ rfl _ _ 28 rfl w.heap.size 9 i0 (.string ⟨#[]⟩) 1 16 Tryd.underlying28 hi hz0 hz1 hz2 rfl (by decide) _ _ _ rfl (World.ownsRow.alloc hown1 _) ⟨w1.heap.size, 0, none⟩ 1 1 [.string (bs f.value)] rfl rfl ?e1 ?e2 ?e3 ?e4 ?e5 ?_)
          case e1 =>
            intro j u hj
            match j, hj with
            | 0, hj => simp at hj; subst hj; simp [Addr.add]
          case e2 => intro u hu; simp at hu; subst hu; rfl
          case e3 => unfold maxLen; omega
          case e4 => have := hB1.size; omega
          case e5 => have := hB1.size; simp; omega
          intro v' w2 hown' hgrow _
          have R1 : OwnS w2 w.heap.size v' (ls ++ [f.value]) := OwnS.step hown'
          have R2 : Below w.heap.size w w2 := (hB1.alloc hB1.size _).grown hgrow (by have := hB1.size; simp; omega) (fun k e => (World.ownsRow.lt hown1 k e).1)
          have R3 : Hid ((ls ++ [f.value]) ++ getL (fs.drop (k + 1)) nm = getL fs nm) := by
            show _ = _
            rw [← HL2.out]; simp
          clear hown' hgrow hown1 HL2
          go_wp2
          go_roundw
          case rel => exact ⟨k + 1, ls ++ [f.value], by omega, by go_num, R1, R3, by simp; omega, R2⟩
          case measure => simp [intOf]; omega
      · obtain rfl : k = fs.length := by omega
        have hl2 := hls.out
        rw [List.drop_length] at hl2
        have hl3 : ls = getL fs nm := by rw [← hl2]; simp [getL]
        clear hl2 hls
        subst hl3
        go_wp2
        go_ret
        exact ⟨_, rfl, hown, hB⟩

end Go.Proofs.YtifjibgnjjiggaaDoor
end

/- header.Get, the reference's Get; the law HeaderGets. -/
set_option linter.unusedVariables false
set_option linter.unusedSimpArgs false
section
namespace Go.Proofs.YtifjibgnjjiggaaDoor
open Go.RowKit Go

def firstV : List (List UInt8) → Value
  | [] => .tuple #[.string ⟨#[]⟩, .bool false]
  | x :: _ => .tuple #[.string (bs x), .bool true]

set_option maxRecDepth 100000 in
set_option maxHeartbeats 1000000 in
theorem get_any (v : Value) (fs : List Fla) (nm : List UInt8) (w : World) (ha : ArgF w v fs) (hl : fs.length ≤ 1000000) (hn : nm.length ≤ 1000000) (hf : ∀ f ∈ fs, f.name.length ≤ 1000000) :
    Calls Tryd.prog 23 #[v, .string (bs nm)] w fun e w' => e = .returned (firstV (getL fs nm)) ∧ Below w.heap.size w w' := by
  have hall := all_any v fs nm w ha hl hn hf
  obtain ⟨G, hG⟩ : ∃ G, getL fs nm = G := ⟨_, rfl⟩
  have hgl := getL_length fs nm
  rw [hG] at hall hgl ⊢
  have HALL := Lib.hid hall
  clear hall hG hf ha
  go_enter Tryd.func23, Tryd.ntmps23
  go_wp2_with fail
  refine HALL.out.mono ?_
  rintro e w1 ⟨v1, rfl, ho, hB⟩
  cases G with
  | nil =>
    obtain ⟨a, n, cap, rfl, hn0⟩ := OwnS.form ho
    obtain rfl : n = 0 := hn0.out
    go_wp2
    go_loopw [12] (fun c wr => c = .int .i64 0 ∧ Below w.heap.size w wr) (fun _ _ => 0)
    case atStart => exact ⟨rfl, hB⟩
    case round =>
      obtain ⟨rfl, hB⟩ := hrel
      go_wp2
      go_ret2
      exact ⟨rfl, hB⟩
  | cons x G =>
    obtain ⟨g, cap, rfl, _⟩ := (OwnS.parts ho).resolve_left (fun h => by cases h.2)
    have hc := (OwnS.set ho (k := 0) (by simp) []).1
    have hc0 : w1.cell? ⟨g, 0, none⟩ = some (.string (bs x)) := hc
    have hpos : (0 : Int) < ((x :: G).length : Nat) := by simp
    obtain ⟨n, hn⟩ : ∃ n, (x :: G).length = n := ⟨_, rfl⟩
    rw [hn] at hpos ⊢
    clear hc ho hn
    go_wp2
    go_loopw [12] (fun c wr => c = .int .i64 0 ∧ wr.cell? ⟨g, 0, none⟩ = some (.string (bs x)) ∧ Below w.heap.size w wr) (fun _ _ => 0)
    case atStart => exact ⟨rfl, hc0, hB⟩
    case round =>
      obtain ⟨rfl, hc, hB⟩ := hrel
      go_wp2
      go_ret2
      exact ⟨rfl, hB⟩

end Go.Proofs.YtifjibgnjjiggaaDoor
end

/- envelope.Text: what it reads; its closures. -/
set_option linter.unusedVariables false
set_option linter.unusedSimpArgs false
section
namespace Go.Proofs.YtifjibgnjjiggaaDoor
open Go.RowKit Go

def flaOf (f : Fld) : Fla := ⟨f.name, f.value, f.pos, f.fin⟩
theorem OwnF.arg {w : World} {B : Nat} {v : Value} {fs : List Fld} (h : OwnF w B v fs) : ArgF w v (fs.map flaOf) := by
  rcases h.parts with ⟨rfl, rfl⟩ | ⟨g, cap, rfl, _, hg⟩
  · exact .inl ⟨_, _, rfl, rfl⟩
  · by_cases h0 : fs = []
    · subst h0; exact .inl ⟨_, _, rfl, rfl⟩
    · refine .inr ⟨g, 0, cap, by rw [List.length_map], by rw [List.length_map]; exact List.length_pos_iff.2 h0, hg, fun j f hf i hi => ?_⟩
      rw [List.getElem?_map] at hf
      cases hq : fs[j]? with
      | none => rw [hq] at hf; cases hf
      | some y =>
        rw [hq] at hf
        obtain rfl := Option.some.inj hf
        rw [Nat.zero_add]
        exact h.cell j i y hq hi

/-- the first value of a name -/
def getFn (fs : List Fla) (nm : List UInt8) : Option (List UInt8) := (getL fs nm).head?
def ShortA2 (n : Nat) (fs : List Fla) : Prop := ∀ f ∈ fs, f.name.length ≤ n ∧ f.value.length ≤ n
theorem getL_short {n : Nat} {fs : List Fla} (h : ShortA2 n fs) (nm : List UInt8) : ∀ v ∈ getL fs nm, v.length ≤ n := by
  intro v hv
  unfold getL at hv
  obtain ⟨f, hf, rfl⟩ := List.mem_map.1 hv
  exact (h f (List.mem_filter.1 hf).1).2
theorem getFn_short {n : Nat} {fs : List Fla} (h : ShortA2 n fs) {nm v : List UInt8} (hv : getFn fs nm = some v) : v.length ≤ n :=
  getL_short h nm v (List.mem_of_head? hv)

/-- what envelope.Text reads: fields behind a pointer, a length's bound, the table -/
structure EnvAt (w : World) (g : Nat) (fs : List Fla) (m : Int) : Prop where
  cell : ∃ v, w.cell? ⟨g, 0, none⟩ = some v ∧ ArgF w v fs
  max : w.cell? ⟨1, 0, none⟩ = some (.int .i64 m)
  tab : TabQ w
theorem EnvAt.below {w w' : World} {g : Nat} {fs : List Fla} {m : Int} (h : EnvAt w g fs m) (hb : Below w.heap.size w w') : EnvAt w' g fs m := by
  obtain ⟨v, h1, h2⟩ := h.cell
  exact ⟨⟨v, (hb.cell (cell_lt h1)).trans h1, h2.below hb⟩, (hb.cell (p := ⟨1, 0, none⟩) (cell_lt h.max)).trans h.max, TabQ.below h.tab hb⟩

set_option maxRecDepth 100000 in
theorem text1_any (nm : List UInt8) (g : Nat) (fs : List Fla) (m : Int) (w : World) (h : EnvAt w g fs m) (hl : fs.length ≤ 1000) (hs : ShortA2 1000000 fs) (hn : nm.length ≤ 1000) :
    Calls Tryd.prog 22 #[.string (bs nm), .pointer (some ⟨g, 0, none⟩)] w fun e w' => e = .returned (.string (bs (valT (getFn fs) nm))) ∧ Below w.heap.size w w' := by
  have H := Lib.hid h
  obtain ⟨v, hc, ha⟩ := h.cell
  have hg := get_any v fs nm w ha (by omega) (by omega) (fun f hf => (hs f hf).1)
  have hsh := getL_short hs nm
  unfold valT getFn
  obtain ⟨G, hG⟩ : ∃ G, getL fs nm = G := ⟨_, rfl⟩
  rw [hG] at hg hsh ⊢
  have HG := Lib.hid hg
  clear hg hG ha hs hl hn h
  cases G with
  | nil =>
    show Calls _ _ _ _ fun e w' => e = .returned (.string (bs nilL)) ∧ _
    clear hsh
    go_enter Tryd.func22, Tryd.ntmps22
    go_wp2_with fail
    refine HG.out.mono ?_
    rintro e w1 ⟨rfl, hb1⟩
    unfold firstV
    go_wp2_with fail
    refine (orNil_not [] _).mono ?_
    rintro e w2 ⟨rfl, hb2⟩
    go_wp2
    go_ret
    exact ⟨rfl, hb1.trans (hb2.mono hb1.size)⟩
  | cons x r =>
    show Calls _ _ _ _ fun e w' => e = .returned (.string (bs (qtL x))) ∧ _
    have hx := hsh x (by simp)
    clear hsh
    go_enter Tryd.func22, Tryd.ntmps22
    go_wp2_with fail
    refine HG.out.mono ?_
    rintro e w1 ⟨rfl, hb1⟩
    unfold firstV
    have H1 := H.out.below hb1
    have HH := Lib.hid H1
    clear H1
    go_wp2_with fail
    refine (orNil_any x m _ (by omega) HH.out.max HH.out.tab).mono ?_
    rintro e w2 ⟨rfl, hb2⟩
    go_wp2
    go_ret
    exact ⟨rfl, hb1.trans (hb2.mono hb1.size)⟩

set_option maxRecDepth 100000 in
set_option maxHeartbeats 2000000 in
theorem text2_any (ns : List (List UInt8)) (b c g : Nat) (fs : List Fla) (m : Int) (w : World) (h : EnvAt w g fs m) (hl : fs.length ≤ 1000) (hs : ShortA2 1000000 fs) (hn : ∀ n ∈ ns, n.length ≤ 1000) (hnl : ns.length ≤ 1000)
    (hb : b < w.heap.size) (hcs : ∀ k x, ns[k]? = some x → w.cell? ⟨b, k, none⟩ = some (.string (bs x))) :
    Calls Tryd.prog 24 #[.slice (some ⟨b, 0, none⟩) ns.length c, .pointer (some ⟨g, 0, none⟩)] w fun e w' => e = .returned (.string (bs (addrsGo (getFn fs) ns))) ∧ Below w.heap.size w w' := by
  have H := Lib.hid h
  have HC := Lib.hid hcs
  have HN := Lib.hid hn
  have HS := Lib.hid hs
  obtain ⟨R, hR⟩ : ∃ R, addrsGo (getFn fs) ns = R := ⟨_, rfl⟩
  rw [hR]
  have HR := Lib.hid hR
  clear hR hcs hn hs h
  go_enter Tryd.func24, Tryd.ntmps24
  go_wp2
  go_loopw [11] (fun c wr => ∃ k : Nat, k ≤ ns.length ∧ c = .int .i64 k ∧ Hid (addrsGo (getFn fs) (ns.drop k) = R) ∧ Below w.heap.size w wr) (fun c _ => ns.length - (intOf c).toNat)
  case atStart => exact ⟨0, Nat.zero_le _, rfl, HR.out, Below.refl _ _⟩
  case round =>
    obtain ⟨k, hk, rfl, hr, hB⟩ := hrel
    have hzr := hB.size
    by_cases hlt : k < ns.length
    · obtain ⟨x, hx⟩ : ∃ x, ns[k]? = some x := ⟨_, List.getElem?_eq_getElem hlt⟩
      have cx := (hB.cell (p := ⟨b, k, none⟩) hb).trans (HC.out k x hx)
      have hxl := HN.out x (List.mem_of_getElem? hx)
      have hlt' : (k : Int) < ns.length := by omega
      have hdr : ns.drop k = x :: ns.drop (k + 1) := by
        rw [List.drop_eq_getElem_cons hlt]
        congr 1
        exact (List.getElem?_eq_some_iff.1 hx).2
      have hr2 := hr.out
      rw [hdr] at hr2
      have Hr := H.out.below hB
      obtain ⟨fv, hfc, hfa⟩ := Hr.cell
      have hg := get_any fv fs x wr hfa (by omega) (by omega) (fun f hf => (HS.out f hf).1)
      have HSH := Lib.hid (getL_short HS.out x)
      have HHr := Lib.hid Hr
      unfold addrsGo adrOf getFn at hr2
      obtain ⟨G, hG⟩ : ∃ G, getL fs x = G := ⟨_, rfl⟩
      have hshG := HSH.out
      rw [hG] at hg hshG hr2
      obtain ⟨vv, tt, hvv, hvl⟩ : ∃ (vv : List UInt8) (tt : Bool), firstV G = .tuple #[.string (bs vv), .bool tt] ∧ (G.head?).getD [] = vv ∧ vv.length ≤ 1000000 := by
        cases G with
        | nil => exact ⟨[], false, rfl, rfl, by simp⟩
        | cons y r => exact ⟨y, true, rfl, rfl, hshG y (by simp)⟩
      obtain ⟨hv1, hv2⟩ := hvl
      rw [hv1] at hr2
      rw [hvv] at hg
      have HR2 := Lib.hid hr2
      have HGG := Lib.hid hg
      clear hx hdr hr2 hr Hr hfa hg hG hshG hvv hv1 HSH
      go_wp2_with fail
      refine HGG.out.mono ?_
      rintro e w1 ⟨rfl, hb1⟩
      have H1 := Lib.hid (HHr.out.below hb1)
      have hB1 := hB.trans (hb1.mono hzr)
      have hz1 := hB1.size
      clear HGG
      go_wp2_with fail
      refine (addresses_any vv _ (by omega)).mono ?_
      rintro e w2 ⟨⟨av, rfl, hav⟩, hb2⟩
      have H2 := Lib.hid (H1.out.below hb2)
      have hB2 := hB1.trans (hb2.mono hz1)
      have hz2 := hB2.size
      obtain ⟨oa, oc, rfl⟩ := hav.form
      have hadr := hav.adrs
      have hfew := adrsL_few vv
      have hshort := adrsL_short vv
      obtain ⟨A, hA⟩ : ∃ A, adrsL vv = A := ⟨_, rfl⟩
      have hr3 := HR2.out
      rw [hA] at hadr hfew hshort hr3 ⊢
      clear hA hav HR2 H1
      cases A with
      | nil =>
        rw [List.isEmpty_nil, if_pos rfl] at hr3
        have HR3 := Lib.hid hr3
        clear hr3 hadr hshort
        go_wp2
        go_roundw
        case rel => exact ⟨k + 1, by omega, by go_num, HR3.out, hB2⟩
        case measure => simp [intOf]; omega
      | cons a0 r0 =>
        rw [List.isEmpty_cons, if_neg (by simp)] at hr3
        have HLL := Lib.hid (list_any _ (a0 :: r0) m w2 H2.out.max H2.out.tab hadr (by omega) (fun a ha => by have := hshort a ha; exact ⟨Nat.le_trans this.1 hv2, Nat.le_trans this.2.1 hv2, Nat.le_trans this.2.2 hv2⟩))
        have hpos : (0 : Int) < (a0 :: r0).length := by have : 0 < (a0 :: r0).length := by simp
                                                        omega
        subst hr3
        clear hadr hshort hfew
        go_wp2_with fail
        refine HLL.out.mono ?_
        rintro e w3 ⟨rfl, hb3⟩
        go_wp2
        go_ret
        exact ⟨rfl, hB2.trans (hb3.mono hz2)⟩
    · obtain rfl : k = ns.length := by omega
      have hr2 := hr.out
      rw [List.drop_length] at hr2
      subst hr2
      clear hr
      go_wp2
      go_ret
      exact ⟨rfl, hB⟩

end Go.Proofs.YtifjibgnjjiggaaDoor
end

/- strings.Join with a blank between. -/
set_option linter.unusedVariables false
set_option linter.unusedSimpArgs false
section
namespace Go.Proofs.YtifjibgnjjiggaaDoor
open Go.RowKit Go

theorem joinBl_any (w : World) (v : Value) (ls : List (List UInt8)) (hv : StrsAt w v ls) (hn : ls.length ≤ 140737488355328) (hl : (joinSp ls).length ≤ 140737488355328) :
    Calls Tryd.prog 25 #[v, .string (bs [32])] w fun e w' => e = .returned (.string (bs (joinSp ls))) ∧ Below w.heap.size w w' := by
  rcases hv with ⟨rfl, rfl⟩ | ⟨b, o, c, rfl, h1, h2, h3⟩
  · exact (Tryd.strings_Join_none none 0 (bs [32]) w).mono fun _ _ ⟨he, hw⟩ => ⟨he, hw ▸ Below.refl _ _⟩
  · have e : (ls.map bs).map (·.data.toList) = ls := by rw [List.map_map]; exact List.map_id ls
    have hj := Tryd.strings_Join b o c (ls.map bs) (bs [32]) w (fun j x hx => by
      rw [List.getElem?_map] at hx
      cases hq : ls[j]? with
      | none => rw [hq] at hx; cases hx
      | some y =>
        rw [hq] at hx
        obtain rfl := Option.some.inj hx
        have hlt := (List.getElem?_eq_some_iff.1 hq).1
        rw [h3 j hlt]
        simp [List.getD, hq]) h2 (by simpa using hn) (by simpa using h1) (by rw [e]; rw [show (bs [32]).data.toList = [32] by simp, joinSp_lib]; exact hl)
    rw [e, show (bs [32]).data.toList = [32] by simp, joinSp_lib, List.length_map] at hj
    exact hj

end Go.Proofs.YtifjibgnjjiggaaDoor
end
