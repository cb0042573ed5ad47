/- header's reader over a message's lines. -/
import Derived.Test.YthnkgifbbemhfaaGreatDoorH5
import Derived.Test.YthnkgifbbemhfaaGreatDoorSp
import Derived.Deep.CutBlock
import Derived.Deep.RegionWith
import Derived.Deep.CutRange
import Derived.Deep.Cut
import Derived.Outline
import Derived.LoopTactic
set_option linter.unusedVariables false
set_option linter.unusedSimpArgs false
namespace Go.Proofs.YthnkgifbbemhfaaGreatDoor
open Go.RowKit

/-- what is kept between two lines -/
structure Kept (fs : List Fld) (op : Bool) (p : Nat) : Prop where
  open' : op = true → fs ≠ []
  vals : ∀ f ∈ fs, f.value.length ≤ p

theorem line_any (w : World) (b B : Nat) (v : Value) (fs : List Fld) (op : Bool) (p : Nat) (l : List UInt8) (hk : RdrAt w b v op p) (ho : OwnF w B v fs) (hl : l.length ≤ 1099511627776) (hp : p + l.length ≤ 1099511627776) (hB : B ≤ w.heap.size) (hfl : fs.length ≤ 1099511627776) (hkp : Kept fs op p) :
    Calls Tryz.prog 93 #[.pointer (some ⟨b, 0, none⟩), .string (bs l)] w (LineP b B v w (turnL fs op p (p + l.length) (textL l)).1 (turnL fs op p (p + l.length) (textL l)).2.1 (turnL fs op p (p + l.length) (textL l)).2.2 (p + l.length)) := by
  cases ht : textL l with
  | nil => exact line_end w b B v fs op p l hk ho hl hp ht
  | cons c r =>
    by_cases hg : goesB (c :: r) = true
    · cases hop : op with
      | false =>
        have e : turnL fs false p (p + l.length) (c :: r) = (fs, false, true) := by unfold turnL; rw [if_neg (by simp), if_pos hg]
        rw [e]
        subst hop
        exact line_shut w b B v fs false p l c r hk ho hl hp ht hg rfl
      | true =>
        obtain ⟨fs0, f, rfl⟩ : ∃ fs0 f, fs = fs0 ++ [f] := ⟨fs.dropLast, fs.getLast (hkp.open' hop), (List.dropLast_concat_getLast (hkp.open' hop)).symm⟩
        have e : turnL (fs0 ++ [f]) true p (p + l.length) (c :: r) = (fs0 ++ [{ f with value := f.value ++ (c :: r), fin := p + l.length }], true, true) := by unfold turnL; rw [if_neg (by simp), if_pos hg]; simp
        rw [e]
        subst hop
        exact line_more w b B v _ true p l c r hk ho hl hp ht f fs0 rfl (by have := hkp.vals f (by simp); omega) (by simp at hfl; omega) hg rfl
    · have hg' : goesB (c :: r) = false := by simpa using hg
      cases hn : nameL (c :: r) with
      | none =>
        have e : turnL fs op p (p + l.length) (c :: r) = (fs, false, true) := by unfold turnL; rw [if_neg (by simp), if_neg hg, hn]
        rw [e]
        exact line_no w b B v fs op p l c r hk ho hl hp ht hg' hn
      | some q =>
        obtain ⟨n, vv⟩ := q
        have e : turnL fs op p (p + l.length) (c :: r) = (fs ++ [⟨n, vv, p, p + l.length⟩], true, true) := by unfold turnL; rw [if_neg (by simp), if_neg hg, hn]
        rw [e]
        exact line_new w b B v fs op p l c r hk ho hl hp ht n vv hg' hn hB hfl

theorem nameL_len {t n v : List UInt8} (h : nameL t = some (n, v)) : n.length + v.length ≤ t.length := by
  unfold nameL at h
  cases hc : cutC t with
  | none => rw [hc] at h; cases h
  | some q =>
    obtain ⟨a, r⟩ := q
    rw [hc] at h
    simp only at h
    split at h
    · obtain ⟨rfl, rfl⟩ := Prod.mk.inj (Option.some.inj h)
      rw [cutC_some hc]; simp
    · cases h

theorem Kept.turn {fs : List Fld} {op : Bool} {p : Nat} (h : Kept fs op p) (l : List UInt8) : Kept (turnL fs op p (p + l.length) (textL l)).1 (turnL fs op p (p + l.length) (textL l)).2.1 (p + l.length) ∧ (turnL fs op p (p + l.length) (textL l)).1.length ≤ fs.length + 1 := by
  have htl := textL_len l
  have hv : ∀ f ∈ fs, f.value.length ≤ p + l.length := fun f hf => Nat.le_trans (h.vals f hf) (by omega)
  unfold turnL
  by_cases h0 : textL l = []
  · rw [if_pos h0]; exact ⟨⟨h.open', hv⟩, by simp⟩
  · rw [if_neg h0]
    by_cases hg : goesB (textL l) = true
    · rw [if_pos hg]
      cases op with
      | false => exact ⟨⟨fun e => (by cases e), hv⟩, by simp⟩
      | true =>
        have hne := h.open' rfl
        obtain ⟨fs0, f, rfl⟩ : ∃ fs0 f, fs = fs0 ++ [f] := ⟨fs.dropLast, fs.getLast hne, (List.dropLast_concat_getLast hne).symm⟩
        have e : (fs0 ++ [f]).getLast? = some f := by simp
        rw [e]
        refine ⟨⟨fun _ => by simp, fun g hgm => ?_⟩, by simp⟩
        rcases List.mem_append.1 hgm with h1 | h1
        · exact hv g (by simp at h1 ⊢; exact Or.inl h1)
        · rw [List.mem_singleton.1 h1]
          have := h.vals f (by simp)
          simp; omega
    · rw [if_neg hg]
      cases hn : nameL (textL l) with
      | none => exact ⟨⟨fun e => (by cases e), hv⟩, by simp⟩
      | some q =>
        obtain ⟨n, vv⟩ := q
        refine ⟨⟨fun _ => by simp, fun g hgm => ?_⟩, by simp⟩
        rcases List.mem_append.1 hgm with h1 | h1
        · exact hv g h1
        · rw [List.mem_singleton.1 h1]
          have := nameL_len hn
          simp; omega

/-- the lines' slice across a line's turning -/
theorem OwnS.frm {w w' : World} {b B B2 : Nat} {v v2 : Value} {fs : List Fld} {ls : List (List UInt8)} (h : OwnS w B2 v2 ls) (hb : b < B2) (hr : OwnF w B v fs) (hf : Frm b v w w') : OwnS w' B2 v2 ls := by
  refine ⟨h.1, ?_⟩
  rcases h.2 with h0 | ⟨g, cap, cur, rfl, h1, h2, r⟩
  · exact .inl h0
  · refine .inr ⟨g, cap, cur, rfl, h1, (hf.block g (Array.getElem?_eq_some_iff.1 h2).1 (by omega) ?_).trans h2, r⟩
    intro e
    rcases hr.2 with ⟨rfl, _⟩ | ⟨g', cap', cur', rfl, _, hg', _⟩
    · cases e
    · obtain rfl : g' = g := by simpa [Value.ownBlock] using e
      rw [h2] at hg'
      simp at hg'

theorem trim_any (l : List UInt8) (w : World) (hl : l.length ≤ 9223372036854775807) : Calls Tryz.prog 94 #[.string (bs l), .string (bs [32, 9])] w fun e w' => e = .returned (.string (bs (trimB l))) ∧ Below w.heap.size w w' :=
  Any.strings_Trim_laid Tryz.lays160 (by kernel_rfl) (bs l) (bs [32, 9]) w (by rw [bs_size]; exact hl) (by decide) (ascii_of_all (by decide))

/-- what read leaves: a reader in a new block -/
def ReadP (q : Nat) (fs : List Fld) (w : World) (e : Ending) (w' : World) : Prop := ∃ v op, e = .returned (.pointer (some ⟨w.heap.size, 0, none⟩)) ∧ RdrAt w' w.heap.size v op q ∧ OwnF w' w.heap.size v fs ∧ Below w.heap.size w w'

theorem trims_step (fs : List Fld) (k : Nat) (hk : k < fs.length) (f : Fld) (hf : fs[k]? = some f) : ((fs.take k).map trimF ++ fs.drop k).set k { f with value := trimB f.value } = (fs.take (k + 1)).map trimF ++ fs.drop (k + 1) := by
  have hk' : (List.map trimF (List.take k fs)).length = k := by simp; omega
  rw [List.set_append_right _ _ (by omega), hk', Nat.sub_self]
  obtain ⟨_, he⟩ := List.getElem?_eq_some_iff.1 hf
  rw [List.drop_eq_getElem_cons hk, List.set_cons_zero, List.take_add_one, hf]
  simp [trimF]

set_option maxRecDepth 100000 in
set_option maxHeartbeats 4000000 in
theorem read_any (m : List UInt8) (w : World) (hm : m.length ≤ 1000000000) : Calls Tryz.prog 57 #[.string (bs m)] w (ReadP (bodyL m) (fieldsL m) w) := by
  have hll := linesOf_length m
  have hm2 : m.length ≤ 1099511627776 := by omega
  obtain ⟨ls, hls⟩ : ∃ ls, linesOf m = ls := ⟨_, rfl⟩
  obtain ⟨G, hG⟩ : ∃ G, goL [] false 0 ls = G := ⟨_, rfl⟩
  have hbody : bodyL m = G.2 := by unfold bodyL; rw [hls, hG]
  have hfields : fieldsL m = G.1.map trimF := by unfold fieldsL; rw [hls, hG]
  have hflat : ls.flatten = m := by rw [← hls]; exact linesOf_flatten m
  rw [hbody, hfields]
  rw [hls] at hll
  have HLS := Lib.hid hls
  have HG := Lib.hid hG
  have HFL := Lib.hid hflat
  have HM := Lib.hid hm2
  clear hls hG hbody hfields hflat hm2
  go_enter Tryz.func57, Tryz.ntmps57
  go_wp2_with fail
  refine (split_any m _ HM.out).mono ?_
  rintro e w2 ⟨v2, rfl, o2, hb2⟩
  rw [HLS.out] at o2
  have k2 : RdrAt w2 w.heap.size (.slice none 0 0) false 0 := (hb2.block _ (by simp)).trans (heap_new _ _)
  have hB2 : Below w.heap.size w w2 := ((Below.refl _ w).alloc (Nat.le_refl _) _).trans (hb2.mono (by simp))
  rw [size_alloc] at o2
  have hz2 : w.heap.size + 1 ≤ w2.heap.size := by have := hb2.size; simpa using this
  clear hb2
  obtain ⟨a2, n2, cap2, rfl, hn2⟩ := OwnS.form o2
  have hn2' : n2 ≤ 1000000000 := by rw [hn2.out]; omega
  go_upto_block 0 with fail
  go_cut [5] from 12 to 20 (fun _ wc => ∃ v op, RdrAt wc w.heap.size v op G.2 ∧ OwnF wc w.heap.size v G.1 ∧ Below w.heap.size w wc ∧ G.1.length ≤ 1000000000 ∧ ∀ f ∈ G.1, f.value.length ≤ 1000000000)
  case first =>
    go_wp2_with fail
    go_loopw [5, 12] (fun _ c wr => ∃ (k p : Nat) (fs : List Fld) (op : Bool) (v : Value), k ≤ ls.length ∧ c = .int .i64 k ∧ RdrAt wr w.heap.size v op p ∧ OwnF wr w.heap.size v fs ∧ OwnS wr (w.heap.size + 1) (.slice a2 n2 cap2) ls ∧ Below w.heap.size w wr ∧ Kept fs op p ∧ fs.length ≤ k ∧ Hid (goL fs op p (ls.drop k) = G) ∧ Hid (p + (ls.drop k).flatten.length = m.length)) (fun _ c _ => ls.length - (intOf c).toNat)
    case atStart => exact ⟨0, 0, [], false, .slice none 0 0, Nat.zero_le _, rfl, k2, World.ownsRow_nil _ _ _ _, o2, hB2, ⟨fun e => (by cases e), fun f hf => (by cases hf)⟩, Nat.zero_le _, HG.out, by show _ = _; rw [List.drop_zero, HFL.out]; omega⟩
    case round =>
      obtain ⟨k, p, fs, op, v, hk, rfl, hkr, hof, hos, hB, hkp, hfk, hgo, hpl⟩ := hrel
      have hzr := hB.size
      by_cases hlt : k < ls.length
      · obtain ⟨g, cap, hv2, hg⟩ := (OwnS.parts hos).resolve_left (fun h => by have := h.2; rw [this] at hlt; simp at hlt)
        obtain ⟨l, hl⟩ : ∃ l, ls.getD k [] = l := ⟨_, rfl⟩
        have hcell := (OwnS.set (by rw [← hv2]; exact hos) hlt []).1
        rw [hl] at hcell
        have hdrop : ls.drop k = l :: ls.drop (k + 1) := by
          rw [List.drop_eq_getElem_cons hlt, ← hl, List.getD_eq_getElem?_getD, List.getElem?_eq_getElem hlt]; rfl
        have hpl' := hpl.out
        have hgo' := hgo.out
        rw [hdrop] at hpl' hgo'
        rw [List.flatten_cons, List.length_append] at hpl'
        have hkt := hkp.turn l
        have hgo2 : Hid ((if (turnL fs op p (p + l.length) (textL l)).2.2 = true then goL (turnL fs op p (p + l.length) (textL l)).1 (turnL fs op p (p + l.length) (textL l)).2.1 (p + l.length) (ls.drop (k + 1)) else ((turnL fs op p (p + l.length) (textL l)).1, p + l.length)) = G) := by
          show _ = _
          rw [← hgo', goL]
        have hlen : Hid (p + l.length + (ls.drop (k + 1)).flatten.length = m.length) := by show _ = _; omega
        have hll2 : p + l.length ≤ m.length := by omega
        have hcall := line_any wr w.heap.size w.heap.size v fs op p l hkr hof (by omega) (by omega) hzr (by omega) hkp
        obtain ⟨q, hq⟩ : ∃ q, turnL fs op p (p + l.length) (textL l) = q := ⟨_, rfl⟩
        rw [hq] at hkt hgo2 hcall
        obtain ⟨fs', op', go⟩ := q
        have HC := Lib.hid hcall
        have HL := Lib.hid hl
        clear hq hcall hdrop hpl hpl' hgo hgo' hl
        obtain ⟨rfl, rfl, rfl⟩ : a2 = some ⟨g, 0, none⟩ ∧ n2 = ls.length ∧ cap2 = cap := by simpa using hv2
        have hlt' : (k : Int) < ls.length := by omega
        go_wp2_with fail
        refine HC.out.mono ?_
        rintro e w3 ⟨v', rfl, hk3, ho3, hf3, hv3⟩
        have hB3 : Below w.heap.size w w3 := hB.trans (hf3.below (Nat.le_refl _) (fun j hj => (World.ownsRow.lt hof j hj).1) hzr)
        have hos3 := OwnS.frm hos (by omega) hof hf3
        cases go
        · have hG2 := hgo2.out
          rw [if_neg (by simp)] at hG2
          subst hG2
          go_wp2
          go_meet
          case rel => exact ⟨v', op', hk3, ho3, hB3, by have h9 : fs'.length ≤ fs.length + 1 := hkt.2; show fs'.length ≤ _; omega, fun f hf => by have := hkt.1.vals f hf; omega⟩
        · have hG2 := hgo2.out
          rw [if_pos rfl] at hG2
          go_wp2
          go_roundw
          case rel => exact ⟨k + 1, p + l.length, fs', op', v', by omega, by go_num, hk3, ho3, hos3, hB3, hkt.1, by have h9 : fs'.length ≤ fs.length + 1 := hkt.2; omega, hG2, hlen⟩
          case measure => simp [intOf]; omega
      · obtain rfl : k = ls.length := by omega
        have hG2 := hgo.out
        rw [List.drop_length, goL] at hG2
        subst hG2
        have hp2 := hpl.out
        rw [List.drop_length] at hp2
        simp at hp2
        have hge : ¬ (ls.length : Int) < n2 := by rw [hn2.out]; omega
        go_wp2
        go_meet
        case rel => exact ⟨v, op, hkr, hof, hB, by omega, fun f hf => by have := hkp.vals f hf; omega⟩
  case rest =>
    obtain ⟨v, op, hk, ho, hB, hlen, hval⟩ := hcut
    obtain ⟨fs, q⟩ := G
    replace hlen : fs.length ≤ 1000000000 := hlen
    replace hval : ∀ f ∈ fs, f.value.length ≤ 1000000000 := hval
    replace hk : RdrAt wc w.heap.size v op q := hk
    replace ho : OwnF wc w.heap.size v fs := ho
    have hz := hB.size
    obtain ⟨c0, c1, c2, f0, f1, f2⟩ := hk.cells
    rcases ho.parts with ⟨rfl, rfl⟩ | ⟨g, cap, rfl, hBg, hgl⟩
    · go_wp2
      go_loopw [6, 26] (fun _ c wr => c = .int .i64 0 ∧ wr = wc) (fun _ _ _ => 0)
      case atStart => exact ⟨rfl, rfl⟩
      case round =>
        obtain ⟨rfl, rfl⟩ := hrel
        go_wp2
        go_ret
        exact ⟨_, op, rfl, hk, ho, hB⟩
    · have hgb : g ≠ w.heap.size := fun e => hk.not_row ho (by rw [e]; rfl)
      have HV := Lib.hid hval
      clear hval
      go_wp2
      go_loopw [6, 26] (fun _ c wr => ∃ k : Nat, k ≤ fs.length ∧ c = .int .i64 k ∧ RdrAt wr w.heap.size (.slice (some ⟨g, 0, none⟩) fs.length cap) op q ∧ OwnF wr w.heap.size (.slice (some ⟨g, 0, none⟩) fs.length cap) ((fs.take k).map trimF ++ fs.drop k) ∧ Below w.heap.size w wr) (fun _ c _ => fs.length - (intOf c).toNat)
      case atStart => exact ⟨0, Nat.zero_le _, rfl, hk, by simpa using ho, hB⟩
      case round =>
        obtain ⟨k, hkl, rfl, hkr, hof, hBr⟩ := hrel
        have hzr := hBr.size
        by_cases hlt : k < fs.length
        · obtain ⟨f, hf⟩ : ∃ f, fs[k]? = some f := ⟨_, List.getElem?_eq_getElem hlt⟩
          have hfv := HV.out f (List.mem_of_getElem? hf)
          have hfi : ((fs.take k).map trimF ++ fs.drop k)[k]? = some f := by
            rw [List.getElem?_append_right (by simp; omega), List.length_map, List.length_take, Nat.min_eq_left hkl, Nat.sub_self, List.getElem?_drop, Nat.add_zero, hf]
          have e1 : _ = some (Value.string (bs f.value)) := hof.cell k 1 f hfi (by decide)
          obtain ⟨c0, c1, c2, f0, f1, f2⟩ := hkr.cells
          have hlt' : (k : Int) < fs.length := by omega
          have HF := Lib.hid hfi
          have HF0 := Lib.hid hf
          clear hfi hf
          go_wp2
          have hfv2 : f.value.length ≤ 9223372036854775807 := by omega
          go_region_with ((go_at_call 94; refine (trim_any f.value _ hfv2).mono ?_; rintro e w3 ⟨rfl, hb3⟩; have hk3 := RdrAt.below (w := wr.drew) hkr hb3; have ho3 := OwnF.below (w := wr.drew) hof hb3; have hB3 : Below w.heap.size w w3 := (hBr.drew).trans (hb3.mono hzr); obtain ⟨p0, p1, p2, y0, y1, y2⟩ := hk3.cells; have e3 : w3.cell? ⟨g, k * 4 + 1, none⟩ = some (Value.string (bs f.value)) := ho3.cell k 1 f HF.out (by decide); have z3 : w3.frozen? ⟨g, k * 4 + 1, none⟩ = false := frozenF ho3 _; clear hb3))
          all_goals
            have hs3 := ho3.setv k f HF.out (trimB f.value)
            rw [trims_step fs k hlt f HF0.out] at hs3
            go_wp2
            go_roundw
            case rel => exact ⟨k + 1, by omega, by go_num, (Below.heap_setCell _ _ _ _ (by simpa using hgb.symm)).trans hk3, hs3, hB3.setCell (p := ⟨g, k * 4 + 1, none⟩) hBg _⟩
            case measure => simp [intOf]; omega
        · obtain rfl : k = fs.length := by omega
          rw [List.take_length, List.drop_length, List.append_nil] at hof
          go_wp2
          go_ret
          exact ⟨_, op, rfl, hkr, hof, hBr⟩

end Go.Proofs.YthnkgifbbemhfaaGreatDoor
