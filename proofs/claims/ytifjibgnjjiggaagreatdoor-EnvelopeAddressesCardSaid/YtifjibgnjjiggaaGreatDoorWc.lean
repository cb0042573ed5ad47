/- Texts of one walk, merged: XH9 XH2 XHA XVM XVN XVO XGr. -/
import Derived.Test.YtifjibgnjjiggaaGreatDoorWb
import Derived.LoopTactic
import Derived.Laws.AppendOwn
import Derived.Laws.OwnMore
import Derived.Deep.AppendLies
import Derived.Deep.RegionLaw
import Derived.BigRegion
import Derived.Deep.DeepFit
import Derived.Lib.SlTrimSet
import Derived.Lib.LastIndexByte
import Derived.Shelf.Strings.SlTrimAscii
import Derived.Lib.Replace
import Derived.Lib.DecodeNEq
import Derived.Shelf.GgClosure.StringsIndexFunc

/- The reference's Text, colon, blank, trim. -/
set_option linter.unusedVariables false
set_option linter.unusedSimpArgs false
section
set_option linter.unusedVariables false
set_option linter.unusedSimpArgs false
namespace Go.Proofs.YtifjibgnjjiggaaGreatDoor
open Go.RowKit

theorem byte_ne {c d : UInt8} {n : Int} (hn : (d.toNat : Int) = n) (h : c ≠ d) : ((c.toNat : Int) == n) = false := by
  subst hn
  simp
  intro e
  exact h (UInt8.toNat_inj.1 (by omega))

theorem blank_any (c : UInt8) (w : World) : Calls Tryz.prog 57 #[.int .u8 (c.toNat : Int)] w fun e w' => e = .returned (.bool (blankB c)) ∧ w = w' := by
  unfold blankB
  by_cases h1 : c = 32
  · subst h1
    go_enter Tryz.func57, Tryz.ntmps57
    go_wp2
    go_ret
    exact ⟨rfl, rfl⟩
  · have e1 := byte_ne (d := 32) (n := 32) rfl h1
    by_cases h2 : c = 9
    · subst h2
      go_enter Tryz.func57, Tryz.ntmps57
      go_wp2
      go_ret
      exact ⟨rfl, rfl⟩
    · have e2 := byte_ne (d := 9) (n := 9) rfl h2
      have e3 : (c == 32 || c == 9) = false := by simp [h1, h2]
      rw [e3]
      clear h1 h2 e3
      go_enter Tryz.func57, Tryz.ntmps57
      go_wp2
      go_ret
      exact ⟨rfl, rfl⟩

theorem suffix_last (l : List UInt8) (c : UInt8) : Lib.hasSuffix (l ++ [c]) [10] = (c == 10) ∧ (Lib.trimSuffix (l ++ [c]) [10] = if c = 10 then l else l ++ [c]) := by
  have h : Lib.hasSuffix (l ++ [c]) [10] = (c == 10) := by
    unfold Lib.hasSuffix
    rw [Bool.eq_iff_iff, List.isSuffixOf_iff_suffix]
    simp only [beq_iff_eq]
    constructor
    · rintro ⟨t, ht⟩
      have := congrArg List.getLast? ht
      simpa using this.symm
    · rintro rfl; exact ⟨l, rfl⟩
  refine ⟨h, ?_⟩
  unfold Lib.trimSuffix
  rw [h]
  by_cases hc : c = 10
  · subst hc; simp
  · simp [hc]
theorem suffix_last13 (l : List UInt8) (c : UInt8) : Lib.trimSuffix (l ++ [c]) [13] = if c = 13 then l else l ++ [c] := by
  have h : Lib.hasSuffix (l ++ [c]) [13] = (c == 13) := by
    unfold Lib.hasSuffix
    rw [Bool.eq_iff_iff, List.isSuffixOf_iff_suffix]
    simp only [beq_iff_eq]
    constructor
    · rintro ⟨t, ht⟩
      have := congrArg List.getLast? ht
      simpa using this.symm
    · rintro rfl; exact ⟨l, rfl⟩
  unfold Lib.trimSuffix
  rw [h]
  by_cases hc : c = 13
  · subst hc; simp
  · simp [hc]

set_option maxRecDepth 100000 in
theorem refText_any (l : List UInt8) (w : World) (hl : l.length ≤ 1099511627776) : Calls Tryz.prog 55 #[.string (bs l)] w fun e w' => e = .returned (.string (bs (textL l))) ∧ w = w' := by
  rcases List.eq_nil_or_concat l with rfl | ⟨l1, c, rfl⟩
  · go_enter Tryz.func55, Tryz.ntmps55
    go_wp2
    go_ret
    exact ⟨rfl, rfl⟩
  · rw [List.concat_eq_append] at *
    obtain ⟨hs1, hs2⟩ := suffix_last l1 c
    have hlen : (l1 ++ [c]).length = l1.length + 1 := by simp
    have hl1 : l1.length + 1 ≤ 1099511627776 := by omega
    have hx : (bs (l1 ++ [c]))[l1.length]'(by rw [bs_size]; simp) = c := by
      show (l1 ++ [c])[l1.length]'(by simp) = c
      simp
    by_cases hc : c = 10
    · have ht : textL (l1 ++ [c]) = Lib.trimSuffix l1 [13] := by unfold textL; rw [hs1, hs2, if_pos hc]; simp [hc]
      rw [ht]
      subst hc
      have h1 : (bs (l1 ++ [10])).extract 0 l1.length = bs l1 := by rw [bs_take]; simp
      rcases List.eq_nil_or_concat l1 with rfl | ⟨l2, d, rfl⟩
      · clear hs1 hs2 ht hlen
        go_enter Tryz.func55, Tryz.ntmps55
        go_wp2
        go_ret
        exact ⟨rfl, rfl⟩
      · rw [List.concat_eq_append] at *
        rw [suffix_last13]
        clear hs1 hs2 ht hlen h1 hx
        have e0 : (l2 ++ [d]) ++ [10] = l2 ++ [d, 10] := by simp
        rw [e0]
        have hx : (bs (l2 ++ [d, 10]))[l2.length + 1]'(by rw [bs_size]; simp) = 10 := by
          show (l2 ++ [d, 10])[l2.length + 1]'(by simp) = 10
          simp
        have hy : (bs (l2 ++ [d, 10]))[l2.length]'(by rw [bs_size]; simp) = d := by
          show (l2 ++ [d, 10])[l2.length]'(by simp) = d
          simp
        simp only [List.length_append, List.length_singleton] at hl1
        clear hl e0
        by_cases hd : d = 13
        · subst hd
          rw [if_pos rfl]
          go_enter Tryz.func55, Tryz.ntmps55
          go_wp2
          go_ret
          exact ⟨congrArg (fun x => Ending.returned (Value.string x)) (show (bs (l2 ++ [13, 10])).extract 0 (l2.length + 2 - 1 - 1) = bs l2 by rw [bs_take]; simp), rfl⟩
        · rw [if_neg hd]
          have hd2 := byte_ne (d := 13) (n := 13) rfl hd
          go_enter Tryz.func55, Tryz.ntmps55
          go_wp2
          go_ret
          exact ⟨congrArg (fun x => Ending.returned (Value.string x)) (show (bs (l2 ++ [d, 10])).extract 0 (l2.length + 2 - 1) = bs (l2 ++ [d]) by rw [bs_take, show l2 ++ [d, 10] = (l2 ++ [d]) ++ [10] by simp, List.take_left' (by simp)]), rfl⟩
    · have ht : textL (l1 ++ [c]) = l1 ++ [c] := by unfold textL; rw [hs1]; simp [hc]
      rw [ht]
      have hc2 := byte_ne (d := 10) (n := 10) rfl hc
      have h1 : (bs (l1 ++ [c])).extract 0 (l1.length + 1) = bs (l1 ++ [c]) := by rw [bs_take, List.take_of_length_le (by simp)]
      clear hs1 hs2 ht hlen
      go_enter Tryz.func55, Tryz.ntmps55
      go_wp2
      go_ret
      exact ⟨rfl, rfl⟩

/-- where a field's name ends -/
def colonV (t : List UInt8) : Int := match nameL t with | some (n, _) => (n.length : Int) | none => -1

theorem nameL_colon (n r : List UInt8) (hn : ∀ c ∈ n, okC c = true ∧ c ≠ 58) : nameL (n ++ 58 :: r) = if n = [] then none else some (n, r) := by
  have hc : cutC (n ++ 58 :: r) = some (n, r) := by
    induction n with
    | nil => simp [cutC]
    | cons c n ih =>
      have h := hn c (by simp)
      simp [cutC, h.2, ih (fun x hx => hn x (by simp [hx]))]
  unfold nameL
  rw [hc]
  have ha : n.all okC = true := List.all_eq_true.2 fun c h => (hn c h).1
  by_cases h0 : n = [] <;> simp [h0, ha]
theorem nameL_bad (n r : List UInt8) (c : UInt8) (hn : ∀ c ∈ n, okC c = true ∧ c ≠ 58) (hc : okC c = false) (hc2 : c ≠ 58) : nameL (n ++ c :: r) = none := by
  unfold nameL
  cases hq : cutC (n ++ c :: r) with
  | none => rfl
  | some p =>
    obtain ⟨a, b⟩ := p
    have h := cutC_some hq
    simp only
    rw [if_neg]
    rintro ⟨_, h2⟩
    have hlen : n.length < a.length := by
      rcases Nat.lt_or_ge n.length a.length with h3 | h3
      · exact h3
      · have := congrArg (fun l => l[a.length]?) h
        rw [List.getElem?_append_right (Nat.le_refl _), Nat.sub_self] at this
        rcases Nat.lt_or_ge a.length n.length with h4 | h4
        · rw [List.getElem?_append_left h4] at this
          exact absurd rfl (hn 58 (List.mem_of_getElem? this)).2
        · have h5 : a.length = n.length := by omega
          rw [h5, List.getElem?_append_right (Nat.le_refl _), Nat.sub_self] at this
          simp at this
          exact absurd this hc2
    have hca : c ∈ a := by
      have := congrArg (fun l => l[n.length]?) h
      rw [List.getElem?_append_right (Nat.le_refl _), Nat.sub_self, List.getElem?_append_left hlen] at this
      exact List.mem_of_getElem? this.symm
    rw [List.all_eq_true.1 h2 c hca] at hc
    cases hc
theorem nameL_end (n : List UInt8) (hn : ∀ c ∈ n, okC c = true ∧ c ≠ 58) : nameL n = none := by
  have hc : cutC n = none := by
    induction n with
    | nil => rfl
    | cons c n ih =>
      have h := hn c (by simp)
      simp [cutC, h.2, ih (fun x hx => hn x (by simp [hx]))]
  unfold nameL
  rw [hc]

set_option maxRecDepth 100000 in
set_option maxHeartbeats 1000000 in
theorem colon_any (t : List UInt8) (w : World) (hl : t.length ≤ 1099511627776) : Calls Tryz.prog 56 #[.string (bs t)] w fun e w' => e = .returned (.int .i64 (colonV t)) ∧ w = w' := by
  obtain ⟨V, hV⟩ : ∃ V, colonV t = V := ⟨_, rfl⟩
  rw [hV]
  unfold colonV at hV
  have HV := Lib.hid hV
  clear hV
  go_enter Tryz.func56, Tryz.ntmps56
  go_wp2
  go_loop [3] (fun i => ∃ k : Nat, k ≤ t.length ∧ i = .int .i64 k ∧ Hid (∀ c ∈ t.take k, okC c = true ∧ c ≠ 58)) (fun i => t.length - (intOf i).toNat)
  case atStart => exact ⟨0, Nat.zero_le _, rfl, by intro c hc; simp at hc⟩
  case round =>
    obtain ⟨k, hk, rfl, hok⟩ := hrel
    by_cases hlt : k < t.length
    · obtain ⟨c, hc⟩ : ∃ c, (bs t)[k]'(by rw [bs_size]; exact hlt) = c := ⟨_, rfl⟩
      have hsp : t = t.take k ++ c :: t.drop (k + 1) := by
        conv => lhs; rw [← List.take_append_drop k t, List.drop_eq_getElem_cons hlt, show t[k] = c from hc]
      have htk : (t.take k).length = k := by simp; omega
      have HSP := Lib.hid hsp
      have HTK := Lib.hid htk
      clear hsp htk
      by_cases h58 : c = 58
      · have hn := nameL_colon _ (t.drop (k + 1)) hok.out
        have HV2 := HV.out
        rw [HSP.out, h58, hn] at HV2
        by_cases h0 : k = 0
        · have hV2 : V = -1 := by rw [← HV2, if_pos (by rw [h0]; rfl)]
          subst hV2
          subst h58
          subst h0
          clear hn HV2
          go_wp2
          go_ret
          exact ⟨rfl, rfl⟩
        · have hV2 : V = k := by
            rw [← HV2, if_neg (by intro e; have := congrArg List.length e; rw [HTK.out] at this; exact h0 this)]
            simp only
            rw [HTK.out]
          subst hV2
          subst h58
          have hz : ((k : Int) == 0) = false := by rw [beq_eq_false_iff_ne]; omega
          clear hn HV2
          go_wp2
          go_ret
          exact ⟨rfl, rfl⟩
      · have hne := byte_ne (d := 58) (n := 58) rfl h58
        by_cases ho : okC c = true
        · obtain ⟨o1, o2⟩ := (ok_bounds c).1 ho
          have HO := Lib.hid ho
          clear ho
          go_wp2
          go_round
          case rel =>
            refine ⟨k + 1, by omega, by go_num, ?_⟩
            intro x hx
            rw [List.take_add_one, List.getElem?_eq_getElem hlt, show t[k] = c from hc] at hx
            rcases List.mem_append.1 hx with hx | hx
            · exact hok.out x hx
            · have : x = c := by simpa using hx
              rw [this]; exact ⟨HO.out, h58⟩
          case measure => simp [intOf]; omega
        · have hV2 : V = -1 := by
            have := HV.out
            rw [HSP.out, nameL_bad _ _ c hok.out (by simpa using ho) h58] at this
            exact this.symm
          subst hV2
          have hb : (c.toNat : Int) < 33 ∨ 33 ≤ (c.toNat : Int) ∧ 126 < (c.toNat : Int) := by
            have := ok_bounds c
            rcases Int.lt_or_le (c.toNat : Int) 33 with h1 | h1
            · exact .inl h1
            · refine .inr ⟨h1, ?_⟩
              rcases Int.lt_or_le 126 (c.toNat : Int) with h2 | h2
              · exact h2
              · exact absurd (this.2 ⟨h1, h2⟩) ho
          clear ho h58
          rcases hb with hb | ⟨hb, hb'⟩
          all_goals
            go_wp2
            go_ret
            exact ⟨rfl, rfl⟩
    · obtain rfl : k = t.length := by omega
      have hV2 : V = -1 := by
        have := HV.out
        rw [List.take_length] at hok
        rw [nameL_end _ hok.out] at this
        exact this.symm
      subst hV2
      go_wp2
      go_ret
      exact ⟨rfl, rfl⟩

end Go.Proofs.YtifjibgnjjiggaaGreatDoor
end

/- header's reader: where it lies, what a line turns. -/
set_option linter.unusedVariables false
set_option linter.unusedSimpArgs false
section
namespace Go.Proofs.YtifjibgnjjiggaaGreatDoor
open Go.RowKit

theorem info_fld : (Tryz.prog.info? 82).map (fun i => (i.zero, i.size, i.bytes)) = some (some (.agg #[.string ⟨#[]⟩, .string ⟨#[]⟩, .int .i64 0, .int .i64 0]), 4, 48) := by kernel_rfl

def cellsFld (f : Fld) : List Value := [.string (bs f.name), .string (bs f.value), .int .i64 f.pos, .int .i64 f.fin]
/-- fields as cells -/
def cellsF (fs : List Fld) : List Value := fs.flatMap cellsFld
theorem cellsF_length (fs : List Fld) : (cellsF fs).length = fs.length * 4 := by
  induction fs with
  | nil => rfl
  | cons f r ih => simp only [cellsF, List.flatMap_cons, List.length_append, List.length_cons] at ih ⊢; rw [ih]; simp [cellsFld]; omega
theorem cellsF_append (a b : List Fld) : cellsF (a ++ b) = cellsF a ++ cellsF b := by simp [cellsF]
theorem cellsF_at (fs : List Fld) (i j : Nat) (f : Fld) (hf : fs[i]? = some f) (hj : j < 4) : (cellsF fs)[i * 4 + j]? = (cellsFld f)[j]? := by
  induction fs generalizing i with
  | nil => simp at hf
  | cons x r ih =>
    have hc : cellsF (x :: r) = cellsFld x ++ cellsF r := rfl
    have hx : (cellsFld x).length = 4 := rfl
    rw [hc]
    cases i with
    | zero =>
      obtain rfl : x = f := by simpa using hf
      rw [Nat.zero_mul, Nat.zero_add, List.getElem?_append_left (by omega)]
    | succ i =>
      rw [List.getElem?_append_right (by omega), hx, show (i + 1) * 4 + j - 4 = i * 4 + j by omega]
      exact ih i (by simpa using hf)

/-- a slice of fields that the call itself made, in blocks from B on -/
def OwnF (w : World) (B : Nat) (v : Value) (fs : List Fld) : Prop := w.ownsRow B 82 4 v fs.length (cellsF fs)

theorem OwnF.parts {w : World} {B : Nat} {v : Value} {fs : List Fld} (h : OwnF w B v fs) : (v = .slice none 0 0 ∧ fs = []) ∨ ∃ g cap, v = .slice (some ⟨g, 0, none⟩) fs.length cap ∧ B ≤ g ∧ g < w.heap.size := by
  have hlt := World.ownsRow.lt h
  rcases h.2 with ⟨rfl, h0⟩ | ⟨g, cap, cur, rfl, hb, hg, hc, _, _, ht⟩
  · exact .inl ⟨rfl, List.eq_nil_of_length_eq_zero h0⟩
  · exact .inr ⟨g, cap, rfl, hb, (hlt g rfl).2⟩
theorem OwnF.later {w w' : World} {B : Nat} {v : Value} {fs : List Fld} (h : OwnF w B v fs) (hb : ∀ k, v.ownBlock = some k → w'.heap[k]? = w.heap[k]?) : OwnF w' B v fs := by
  refine ⟨h.1, ?_⟩
  rcases h.2 with h0 | ⟨g, cap, cur, rfl, h1, h2, r⟩
  · exact .inl h0
  · exact .inr ⟨g, cap, cur, rfl, h1, (hb g rfl).trans h2, r⟩
theorem OwnF.below {w w' : World} {B : Nat} {v : Value} {fs : List Fld} (h : OwnF w B v fs) (hb : Below w.heap.size w w') : OwnF w' B v fs :=
  h.later fun k hk => hb.block k (World.ownsRow.lt h k hk).2
theorem OwnF.cell {w : World} {B g n cap : Nat} {fs : List Fld} (h : OwnF w B (.slice (some ⟨g, 0, none⟩) n cap) fs) (i j : Nat) (f : Fld) (hf : fs[i]? = some f) (hj : j < 4) : w.cell? ⟨g, i * 4 + j, none⟩ = (cellsFld f)[j]? := by
  have hc := cellsF_at fs i j f hf hj
  have hlt : j < (cellsFld f).length := hj
  rw [List.getElem?_eq_getElem hlt] at hc ⊢
  have := World.ownsRow.cells h (g := g) rfl (i * 4 + j) _ hc
  rw [← this]
  by_cases h0 : i * 4 + j = 0
  · rw [h0]; rfl
  · have e : (⟨g, 0, none⟩ : Addr).add (i * 4 + j) = ⟨g, i * 4 + j, none⟩ := by
      unfold Addr.add
      rw [if_neg h0]
      simp
    rw [e]

theorem frozenF {w : World} {B g n cap : Nat} {fs : List Fld} (h : OwnF w B (.slice (some ⟨g, 0, none⟩) n cap) fs) (j : Nat) : w.frozen? ⟨g, j, none⟩ = false := by
  rcases h.2 with ⟨h', _⟩ | ⟨g', cap', cur, h', _, hg, _⟩
  · simp at h'
  · simp at h'
    obtain ⟨rfl, _⟩ := h'
    simp [World.frozen?, hg]
theorem setF (fs0 : List Fld) (f : Fld) (j : Nat) (x : Value) : (cellsF (fs0 ++ [f])).set (fs0.length * 4 + j) x = cellsF fs0 ++ (cellsFld f).set j x := by
  rw [cellsF_append, List.set_append_right _ _ (by rw [cellsF_length]; omega), cellsF_length, show fs0.length * 4 + j - fs0.length * 4 = j by omega]
  simp [cellsF]
theorem cellsF_setv (fs : List Fld) (i : Nat) (f : Fld) (hf : fs[i]? = some f) (v : List UInt8) : (cellsF fs).set (i * 4 + 1) (.string (bs v)) = cellsF (fs.set i { f with value := v }) := by
  induction fs generalizing i with
  | nil => simp at hf
  | cons x r ih =>
    have hc : cellsF (x :: r) = cellsFld x ++ cellsF r := rfl
    have hx : (cellsFld x).length = 4 := rfl
    rw [hc]
    cases i with
    | zero =>
      obtain rfl : x = f := by simpa using hf
      rfl
    | succ i =>
      rw [List.set_append_right _ _ (by omega), hx, show (i + 1) * 4 + 1 - 4 = i * 4 + 1 by omega, ih i (by simpa using hf)]
      rfl
/-- a field's value turned -/
theorem OwnF.setv {w : World} {B g n cap : Nat} {fs : List Fld} (h : OwnF w B (.slice (some ⟨g, 0, none⟩) n cap) fs) (i : Nat) (f : Fld) (hf : fs[i]? = some f) (v : List UInt8) :
    OwnF (w.setCell ⟨g, i * 4 + 1, none⟩ (.string (bs v))) B (.slice (some ⟨g, 0, none⟩) n cap) (fs.set i { f with value := v }) := by
  obtain rfl : n = fs.length := by
    rcases h.2 with ⟨h', _⟩ | ⟨g', cap', cur, h', _⟩
    · simp at h'
    · simp at h'; exact h'.2.1
  unfold OwnF at *
  rw [List.length_set, ← cellsF_setv fs i f hf v]
  exact (World.ownsRow.stored h (i * 4 + 1) (.string (bs v))).1

/-- the last field's value and end turned -/
theorem OwnF.turn {w : World} {B g cap : Nat} {fs0 : List Fld} {f : Fld} (h : OwnF w B (.slice (some ⟨g, 0, none⟩) (fs0.length + 1) cap) (fs0 ++ [f])) (v : List UInt8) (q : Nat) :
    OwnF ((w.setCell ⟨g, fs0.length * 4 + 1, none⟩ (.string (bs v))).setCell ⟨g, fs0.length * 4 + 3, none⟩ (.int .i64 q)) B (.slice (some ⟨g, 0, none⟩) (fs0.length + 1) cap) (fs0 ++ [{ f with value := v, fin := q }]) := by
  unfold OwnF at *
  have e1 : (fs0 ++ [f]).length = fs0.length + 1 := by simp
  have e2 : (fs0 ++ [{ f with value := v, fin := q }]).length = fs0.length + 1 := by simp
  rw [e1] at h
  rw [e2]
  have h1 := (World.ownsRow.stored h (fs0.length * 4 + 1) (.string (bs v))).1
  have h2 := (World.ownsRow.stored h1 (fs0.length * 4 + 3) (.int .i64 q)).1
  rw [setF, ← show cellsF (fs0 ++ [{ f with value := v }]) = cellsF fs0 ++ (cellsFld f).set 1 (.string (bs v)) by rw [cellsF_append]; simp [cellsF, cellsFld], setF,
    ← show cellsF (fs0 ++ [{ f with value := v, fin := q }]) = cellsF fs0 ++ (cellsFld { f with value := v }).set 3 (.int .i64 q) by rw [cellsF_append]; simp [cellsF, cellsFld]] at h2
  exact h2

/-- the reader at block b: its fields' slice, whether the last one may go on, where it is -/
def RdrAt (w : World) (b : Nat) (v : Value) (op : Bool) (p : Nat) : Prop := w.heap[b]? = some (.cells #[v, .bool op, .int .i64 p] 79 (0, 0))
theorem RdrAt.lt {w : World} {b : Nat} {v : Value} {op : Bool} {p : Nat} (h : RdrAt w b v op p) : b < w.heap.size := (Array.getElem?_eq_some_iff.1 h).1
theorem RdrAt.cells {w : World} {b : Nat} {v : Value} {op : Bool} {p : Nat} (h : RdrAt w b v op p) : w.cell? ⟨b, 0, none⟩ = some v ∧ w.cell? ⟨b, 1, none⟩ = some (.bool op) ∧ w.cell? ⟨b, 2, none⟩ = some (.int .i64 p) ∧ w.frozen? ⟨b, 0, none⟩ = false ∧ w.frozen? ⟨b, 1, none⟩ = false ∧ w.frozen? ⟨b, 2, none⟩ = false := by
  unfold RdrAt at h
  refine ⟨?_, ?_, ?_, ?_, ?_, ?_⟩ <;> simp [World.cell?, World.frozen?, h]
theorem RdrAt.set0 {w : World} {b : Nat} {v : Value} {op : Bool} {p : Nat} (h : RdrAt w b v op p) (v' : Value) : RdrAt (w.setCell ⟨b, 0, none⟩ v') b v' op p := by
  unfold RdrAt at *; simp [World.setCell, Array.getElem?_modify, h]
theorem RdrAt.set1 {w : World} {b : Nat} {v : Value} {op : Bool} {p : Nat} (h : RdrAt w b v op p) (o' : Bool) : RdrAt (w.setCell ⟨b, 1, none⟩ (.bool o')) b v o' p := by
  unfold RdrAt at *; simp [World.setCell, Array.getElem?_modify, h]
theorem RdrAt.set2 {w : World} {b : Nat} {v : Value} {op : Bool} {p : Nat} (h : RdrAt w b v op p) (p' : Nat) : RdrAt (w.setCell ⟨b, 2, none⟩ (.int .i64 p')) b v op p' := by
  unfold RdrAt at *; simp [World.setCell, Array.getElem?_modify, h]
theorem RdrAt.below {w w' : World} {b : Nat} {v : Value} {op : Bool} {p : Nat} (h : RdrAt w b v op p) (hb : Below w.heap.size w w') : RdrAt w' b v op p := (hb.block b h.lt).trans h
theorem RdrAt.not_row {w : World} {b B : Nat} {v u : Value} {op : Bool} {p : Nat} {fs : List Fld} (h : RdrAt w b v op p) (ho : OwnF w B u fs) : u.ownBlock ≠ some b := by
  intro e
  rcases ho.2 with ⟨rfl, _⟩ | ⟨g, cap, cur, rfl, _, hg, _⟩
  · cases e
  · obtain rfl : g = b := by simpa [Value.ownBlock] using e
    unfold RdrAt at h
    rw [hg] at h
    simp at h

/-- of what was there only the reader at b and the row of v may have turned -/
structure Frm (b : Nat) (v : Value) (w w' : World) : Prop where
  os : w'.os = w.os
  tape : w'.tape = w.tape
  output : w'.output = w.output
  size : w.heap.size ≤ w'.heap.size
  block : ∀ k, k < w.heap.size → k ≠ b → v.ownBlock ≠ some k → w'.heap[k]? = w.heap[k]?
theorem Frm.refl (b : Nat) (v : Value) (w : World) : Frm b v w w := ⟨rfl, rfl, rfl, Nat.le_refl _, fun _ _ _ _ => rfl⟩
theorem Frm.of_below {b : Nat} {v : Value} {w w' : World} (h : Below w.heap.size w w') : Frm b v w w' := ⟨h.os, h.tape, h.output, h.size, fun k hk _ _ => h.block k hk⟩
theorem Frm.trans {b : Nat} {v v' : Value} {u w w' : World} (h : Frm b v u w) (k : Frm b v' w w') (hv : ∀ k, v'.ownBlock = some k → v.ownBlock = some k ∨ u.heap.size ≤ k) : Frm b v u w' :=
  ⟨k.os.trans h.os, k.tape.trans h.tape, k.output.trans h.output, Nat.le_trans h.size k.size, fun i hi hb hr => (k.block i (Nat.lt_of_lt_of_le hi h.size) hb (fun e => by rcases hv i e with h1 | h1; exact hr h1; omega)).trans (h.block i hi hb hr)⟩
theorem Frm.set {b : Nat} {v : Value} {w w' : World} (h : Frm b v w w') (i : Nat) (x : Value) : Frm b v w (w'.setCell ⟨b, i, none⟩ x) :=
  ⟨h.os, h.tape, h.output, by simpa [World.setCell] using h.size, fun k hk hb hr => (Below.heap_setCell _ _ _ _ (by simpa using hb)).trans (h.block k hk hb hr)⟩
theorem Frm.setRow {b g : Nat} {v : Value} {w w' : World} (h : Frm b v w w') (hg : v.ownBlock = some g) (i : Nat) (x : Value) : Frm b v w (w'.setCell ⟨g, i, none⟩ x) :=
  ⟨h.os, h.tape, h.output, by simpa [World.setCell] using h.size, fun k hk hb hr => (Below.heap_setCell _ _ _ _ (by simp; rintro rfl; exact hr hg)).trans (h.block k hk hb hr)⟩
theorem Frm.drew {b : Nat} {v : Value} {w w' : World} (h : Frm b v w w') : Frm b v w w'.drew := ⟨h.os, h.tape, h.output, h.size, h.block⟩
theorem Frm.drewN {b : Nat} {v : Value} {w w' : World} (h : Frm b v w w') (n : Nat) : Frm b v w (w'.drewN n) := ⟨h.os, h.tape, h.output, h.size, h.block⟩
theorem Frm.below {b B : Nat} {v : Value} {w w' : World} (h : Frm b v w w') (hb : B ≤ b) (hv : ∀ k, v.ownBlock = some k → B ≤ k) (hB : B ≤ w.heap.size) : Below B w w' :=
  ⟨h.os, h.tape, h.output, h.size, fun k hk => h.block k (by omega) (by omega) (fun e => by have := hv k e; omega)⟩

/-- what a line leaves -/
def LineP (b B : Nat) (v : Value) (w : World) (fs : List Fld) (op go : Bool) (q : Nat) (e : Ending) (w' : World) : Prop :=
  ∃ v', e = .returned (.bool go) ∧ RdrAt w' b v' op q ∧ OwnF w' B v' fs ∧ Frm b v w w' ∧ (∀ k, v'.ownBlock = some k → v.ownBlock = some k ∨ w.heap.size ≤ k)

theorem nameL_goes {t : List UInt8} (h : goesB t = true) : nameL t = none := by
  cases t with
  | nil => cases h
  | cons c r =>
    have hc : c = 32 ∨ c = 9 := by simpa [goesB, blankB] using h
    unfold nameL
    cases hq : cutC (c :: r) with
    | none => rfl
    | some p =>
      obtain ⟨n, s⟩ := p
      have := cutC_some hq
      simp only
      rw [if_neg]
      rintro ⟨h1, h2⟩
      cases n with
      | nil => exact h1 rfl
      | cons x n =>
        obtain ⟨rfl, _⟩ := List.cons.inj this
        simp at h2
        have h3 := h2.1
        rcases hc with rfl | rfl <;> exact absurd h3 (by decide)

end Go.Proofs.YtifjibgnjjiggaaGreatDoor
end

/- The reference's trim, Same. -/
set_option linter.unusedVariables false
set_option linter.unusedSimpArgs false
section
namespace Go.Proofs.YtifjibgnjjiggaaGreatDoor
open Go.RowKit

def dropL (l : List UInt8) : List UInt8 := l.dropWhile blankB
def dropR (l : List UInt8) : List UInt8 := (l.reverse.dropWhile blankB).reverse

theorem dropR_nil : dropR [] = [] := rfl
theorem dropR_snoc (l : List UInt8) (c : UInt8) : dropR (l ++ [c]) = if blankB c = true then dropR l else l ++ [c] := by
  unfold dropR
  rw [List.reverse_append, List.reverse_singleton, List.singleton_append, List.dropWhile_cons]
  by_cases h : blankB c = true
  · rw [if_pos h, if_pos h]
  · rw [if_neg h, if_neg h]; simp
theorem dropR_cons (c : UInt8) (t : List UInt8) : dropR (c :: t) = if dropR t = [] then (if blankB c = true then [] else [c]) else c :: dropR t := by
  unfold dropR
  rw [List.reverse_cons, List.dropWhile_append]
  by_cases h : (t.reverse.dropWhile blankB).isEmpty = true
  · rw [if_pos h]
    have h2 : t.reverse.dropWhile blankB = [] := by simpa using h
    rw [h2, List.reverse_nil, if_pos rfl, List.dropWhile_cons]
    by_cases hc : blankB c = true
    · rw [if_pos hc, if_pos hc]; rfl
    · rw [if_neg hc, if_neg hc]; rfl
  · rw [if_neg h]
    have h2 : (t.reverse.dropWhile blankB).reverse ≠ [] := by
      intro e
      exact h (by simpa using e)
    rw [if_neg h2]; simp
theorem drop_comm (l : List UInt8) : dropL (dropR l) = dropR (dropL l) := by
  induction l with
  | nil => rfl
  | cons c t ih =>
    have hL : dropL (c :: t) = if blankB c = true then dropL t else c :: t := by unfold dropL; rw [List.dropWhile_cons]
    rw [dropR_cons, hL]
    by_cases hc : blankB c = true
    · rw [if_pos hc, if_pos hc]
      by_cases h0 : dropR t = []
      · rw [if_pos h0, ← ih, h0]
      · rw [if_neg h0, ← ih]
        show dropL (c :: dropR t) = _
        unfold dropL; rw [List.dropWhile_cons, if_pos hc]
    · rw [if_neg hc, if_neg hc, dropR_cons, if_neg hc]
      by_cases h0 : dropR t = []
      · rw [if_pos h0]; unfold dropL; rw [List.dropWhile_cons, if_neg hc]
      · rw [if_neg h0]; unfold dropL; rw [List.dropWhile_cons, if_neg hc]
theorem trimB_eq (l : List UInt8) : trimB l = dropR (dropL l) := by
  rw [← drop_comm]
  have hf : (fun c : UInt8 => ([32, 9] : List UInt8).contains c) = blankB := by
    funext c
    by_cases h1 : c = 32 <;> by_cases h2 : c = 9 <;> simp [blankB, h1, h2]
  unfold trimB Lib.trimS Lib.trimLeftS Lib.trimRightS dropL dropR
  rw [hf]

set_option maxRecDepth 100000 in
set_option maxHeartbeats 1000000 in
theorem refTrim_any (l : List UInt8) (w : World) (hl : l.length ≤ 1099511627776) : Calls Tryz.prog 58 #[.string (bs l)] w fun e w' => e = .returned (.string (bs (trimB l))) ∧ w = w' := by
  obtain ⟨T, hT⟩ : ∃ T, trimB l = T := ⟨_, rfl⟩
  rw [hT]
  rw [trimB_eq] at hT
  have HT := Lib.hid hT
  clear hT
  go_enter Tryz.func58, Tryz.ntmps58
  go_wp2
  go_loop [0] (fun s => ∃ r : List UInt8, r.length ≤ l.length ∧ s = .string (bs r) ∧ Hid (dropR (dropL r) = T)) (fun s => match s with | .string x => x.size | _ => 0)
  case atStart => exact ⟨l, Nat.le_refl _, rfl, HT.out⟩
  case round =>
    obtain ⟨r, hr, rfl, hd⟩ := hrel
    by_cases hb : goesB r = true
    · obtain ⟨c, t, rfl⟩ : ∃ c t, r = c :: t := by
        cases r with
        | nil => cases hb
        | cons c t => exact ⟨c, t, rfl⟩
      have hx : (bs (c :: t))[0]'(by rw [bs_size]; simp) = c := rfl
      have hz : (bs (c :: t)).extract 1 (t.length + 1) = bs t := bs_drop (c :: t) 1 (t.length + 1) (by simp)
      have hd2 : Hid (dropR (dropL t) = T) := by
        show _ = _
        rw [← hd.out]
        unfold dropL
        rw [List.dropWhile_cons, if_pos (show blankB c = true from hb)]
      have HB : Hid (blankB c = true) := hb
      simp only [List.length_cons] at hr
      clear hb hd
      go_wp2_with fail
      refine (blank_any c _).mono ?_
      rintro e w' ⟨rfl, rfl⟩
      rw [HB.out]
      go_wp2
      go_round
      case rel => exact ⟨t, by omega, rfl, hd2⟩
      case measure => simp [bs_size]
    · have hdl : dropL r = r := by
        cases r with
        | nil => rfl
        | cons c t => unfold dropL; rw [List.dropWhile_cons, if_neg (show ¬ blankB c = true from hb)]
      have hd2 := hd.out
      rw [hdl] at hd2
      have HD2 := Lib.hid hd2
      clear hd hd2 hdl
      obtain ⟨r0, hr0⟩ : ∃ r0, r = r0 := ⟨_, rfl⟩
      have fin : ∀ (x : List UInt8), Hid (dropR x = T) → x.length ≤ l.length → True := fun _ _ _ => trivial
      cases r with
      | nil =>
        have hT2 : T = [] := by rw [← HD2.out]; rfl
        subst hT2
        clear fin hr0 hb
        go_wp2
        go_loop [0] (fun s => s = .string (bs [])) (fun _ => 0)
        case atStart => rfl
        case round =>
          obtain rfl := hrel
          go_wp2
          go_ret
          exact ⟨rfl, rfl⟩
      | cons c t =>
        have hx : (bs (c :: t))[0]'(by rw [bs_size]; simp) = c := rfl
        have HB : Hid (blankB c = false) := by show _ = _; simpa [goesB] using hb
        clear fin hr0 hb
        go_wp2_with fail
        refine (blank_any c _).mono ?_
        rintro e w' ⟨rfl, rfl⟩
        rw [HB.out]
        clear hx
        go_wp2
        go_loop [0] (fun s => ∃ r : List UInt8, r.length ≤ l.length ∧ s = .string (bs r) ∧ Hid (dropR r = T)) (fun s => match s with | .string x => x.size | _ => 0)
        case atStart => exact ⟨c :: t, hr, rfl, HD2.out⟩
        case round =>
          obtain ⟨r, hr, rfl, hd⟩ := hrel
          rcases List.eq_nil_or_concat r with rfl | ⟨r1, d, rfl⟩
          · have hT2 : T = [] := by rw [← hd.out]; rfl
            subst hT2
            go_wp2
            go_ret
            exact ⟨rfl, rfl⟩
          · rw [List.concat_eq_append] at *
            have hy : (bs (r1 ++ [d]))[r1.length]'(by rw [bs_size]; simp) = d := by
              show (r1 ++ [d])[r1.length]'(by simp) = d
              simp
            have hz : (bs (r1 ++ [d])).extract 0 r1.length = bs r1 := by rw [bs_take]; simp
            have hd2 := hd.out
            rw [dropR_snoc] at hd2
            simp only [List.length_append, List.length_singleton] at hr
            by_cases hb : blankB d = true
            · rw [if_pos hb] at hd2
              have HB2 := Lib.hid hb
              have HD3 := Lib.hid hd2
              clear hb hd hd2
              go_wp2_with fail
              refine (blank_any d _).mono ?_
              rintro e w' ⟨rfl, rfl⟩
              rw [HB2.out]
              go_wp2
              go_round
              case rel => exact ⟨r1, by omega, rfl, HD3.out⟩
              case measure => simp [bs_size]
            · rw [if_neg hb] at hd2
              have HB2 : Hid (blankB d = false) := by show _ = _; simpa using hb
              have HD3 := Lib.hid hd2
              clear hb hd hd2
              go_wp2_with fail
              refine (blank_any d _).mono ?_
              rintro e w' ⟨rfl, rfl⟩
              rw [HB2.out]
              go_wp2
              go_ret
              exact ⟨by rw [← HD3.out]; rfl, rfl⟩

end Go.Proofs.YtifjibgnjjiggaaGreatDoor
end

/- envelope.address: the walk. -/
set_option linter.unusedVariables false
set_option linter.unusedSimpArgs false
section
namespace Go.Proofs.YtifjibgnjjiggaaGreatDoor
open Go.RowKit Go

theorem trimA_any (l : List UInt8) (w : World) (hl : l.length ≤ 1099511627776) : Calls Tryz.prog 14 #[.string (bs l), .string (bs [32, 9])] w fun e w' => e = .returned (.string (bs (trimB l))) ∧ Below w.heap.size w w' :=
  Any.strings_Trim_laid Tryz.lays160 (by kernel_rfl) (bs l) (bs [32, 9]) w (by rw [bs_size]; omega) (by decide) (ascii_of_all (by decide))
theorem trimB_le (l : List UInt8) : (trimB l).length ≤ l.length := by
  rw [trimB_eq]
  unfold dropR dropL
  rw [List.length_reverse]
  refine Nat.le_trans (List.dropWhile_sublist _).length_le ?_
  rw [List.length_reverse]
  exact (List.dropWhile_sublist _).length_le

theorem upTo_cut (t : List UInt8) : upTo62 t = match cutB 62 t with | none => t | some (a, _) => a := by
  induction t with
  | nil => rfl
  | cons c t ih =>
    unfold upTo62 at ih ⊢
    unfold cutB
    rw [List.takeWhile_cons]
    by_cases h : c = 62
    · subst h; rfl
    · rw [if_pos (by simpa using h), if_neg h, ih]
      cases cutB 62 t with
      | none => rfl
      | some q => rfl
theorem cutFirst_any (t : List UInt8) (w : World) (hl : t.length ≤ 1099511627776) : Calls Tryz.prog 42 #[.string (bs t), .string (bs [62])] w fun e w' => (∃ r b, e = .returned (.tuple #[.string (bs (upTo62 t)), .string r, .bool b])) ∧ Below w.heap.size w w' := by
  cases hc : cutB 62 t with
  | none =>
    refine (cutOne_none 62 t w hc).mono ?_
    rintro e w' ⟨rfl, hb⟩
    exact ⟨⟨_, _, by rw [upTo_cut, hc]⟩, hb⟩
  | some q =>
    obtain ⟨a, r⟩ := q
    refine (cutOne_some 62 t a r w hc hl).mono ?_
    rintro e w' ⟨rfl, hb⟩
    exact ⟨⟨_, _, by rw [upTo_cut, hc]⟩, hb⟩
theorem upTo_le (t : List UInt8) : (upTo62 t).length ≤ t.length := (List.takeWhile_sublist _).length_le

def lastV (r : Option Nat) : Int := match r with | none => -1 | some i => (i : Int)
theorem lastIdx_K (l : List UInt8) : ∀ k, k ≤ l.length → Lib.lastIdx (bs l) 64 k = lastV (lastK l k)
  | 0, _ => rfl
  | k + 1, h => by
    have ih := lastIdx_K l k (by omega)
    have hx : ((bs l).data[k]!) = l.getD k 0 := by
      show (l.toArray)[k]! = _
      rw [getElem!_pos l.toArray k (by simp; omega)]
      simp [List.getD_eq_getElem?_getD, List.getElem?_eq_getElem (show k < l.length by omega)]
    rw [Lib.lastIdx, hx, lastK, ih]
    by_cases hc : l.getD k 0 = 64
    · rw [if_pos hc, if_pos (by rw [hc]; rfl)]
      rfl
    · rw [if_neg hc, if_neg]
      intro e
      exact hc (UInt8.toNat_inj.1 (by rw [show (64 : UInt8).toNat = 64 from rfl]; omega))
theorem lastAt_any (l : List UInt8) (w : World) (hl : l.length ≤ 1099511627776) : Calls Tryz.prog 43 #[.string (bs l), .int .u8 64] w fun e w' => e = .returned (.int .i64 (lastV (lastK l l.length))) ∧ w = w' :=
  (Tryz.strings_LastIndexByte (bs l) 64 (by rw [bs_size]; omega) w).mono fun _ _ ⟨h, k⟩ => ⟨by rw [h]; unfold Lib.lastIndexByte; rw [bs_size, lastIdx_K l _ (Nat.le_refl _)], k.symm⟩
theorem mailL2_last (nm p : List UInt8) : mailL2 nm p = match lastK p p.length with | none => ⟨nm, p, []⟩ | some j => ⟨nm, p.take j, p.drop (j + 1)⟩ := by
  unfold mailL2
  rw [cutAt_last]
  cases lastK p p.length with
  | none => rfl
  | some j => rfl

end Go.Proofs.YtifjibgnjjiggaaGreatDoor
end

/- envelope.address: the walk. -/
set_option linter.unusedVariables false
set_option linter.unusedSimpArgs false
section
namespace Go.Proofs.YtifjibgnjjiggaaGreatDoor
open Go.RowKit Go

theorem AdrAt.far {w : World} {b g : Nat} {a : Adr} (h : AdrAt w b a) (hg : b ≠ g) (i : Nat) (x : Value) : AdrAt (w.setCell ⟨g, i, none⟩ x) b a :=
  (Below.heap_setCell _ _ _ _ (by simpa using hg)).trans h
theorem adr_fin {w T : World} {g : Nat} {a : Adr} (h : AdrAt T g a) (hB : Below g w T) (r : Adr) :
    AdrAt (((T.setCell ⟨g, 0, none⟩ (.string (bs r.name))).setCell ⟨g, 1, none⟩ (.string (bs r.loc))).setCell ⟨g, 2, none⟩ (.string (bs r.dom))) g r ∧ Below g w (((T.setCell ⟨g, 0, none⟩ (.string (bs r.name))).setCell ⟨g, 1, none⟩ (.string (bs r.loc))).setCell ⟨g, 2, none⟩ (.string (bs r.dom))) :=
  ⟨((h.set0 _).set1 _).set2 _, below_cell (below_cell (below_cell hB (Nat.le_refl _) _ _) (Nat.le_refl _) _ _) (Nat.le_refl _) _ _⟩

set_option maxRecDepth 100000 in
set_option maxHeartbeats 4000000 in
theorem address_any (p : List UInt8) (w : World) (hl : p.length ≤ 100000000) : Calls Tryz.prog 15 #[.string (bs p)] w fun e w' => e = .returned (adrV (adrL p)) ∧ Below w.heap.size w w' := by
  obtain ⟨R, hR⟩ : ∃ R, adrL p = R := ⟨_, rfl⟩
  rw [hR]
  obtain ⟨i, hi⟩ : ∃ i, braS st0 p = i := ⟨_, rfl⟩
  have hlt : ∀ j, i = some j → j < p.length := fun j h => braS_lt p st0 j (by rw [hi]; exact h)
  unfold adrL at hR
  rw [hi] at hR
  have HR := Lib.hid hR
  have HI := Lib.hid hi
  have HLT := Lib.hid hlt
  clear hi hR hlt
  go_enter Tryz.func15, Tryz.ntmps15
  go_wp2_with fail
  obtain ⟨w0, hw0⟩ : ∃ w0, (w.alloc (.cells #[.string ⟨#[]⟩, .string ⟨#[]⟩, .string ⟨#[]⟩] 30)).alloc (.cells #[.string ⟨#[]⟩, .string ⟨#[]⟩, .string ⟨#[]⟩] 30) = w0 := ⟨_, rfl⟩
  have s2 : AdrAt w0 w.heap.size ⟨[], [], []⟩ := by rw [← hw0]; exact (heap_old _ _ _ (by simp)).trans (heap_new _ _)
  have s3 : AdrAt w0 (w.heap.size + 1) ⟨[], [], []⟩ := by
    rw [← hw0, ← size_alloc w (.cells #[.string ⟨#[]⟩, .string ⟨#[]⟩, .string ⟨#[]⟩] 30)]
    exact heap_new _ _
  have b0 : Below w.heap.size w w0 := by rw [← hw0]; exact ((Below.refl _ _).alloc (Nat.le_refl _) _).alloc (by simp) _
  rw [hw0]
  clear hw0
  obtain ⟨g2, hg2⟩ : ∃ g, w.heap.size = g := ⟨_, rfl⟩
  rw [hg2] at s2 s3 b0 ⊢
  obtain ⟨g3, hg3⟩ : ∃ g, g2 + 1 = g := ⟨_, rfl⟩
  rw [hg3] at s3 ⊢
  have hne : g2 ≠ g3 := by omega
  refine (bracket_any p _ (by omega)).mono ?_
  rintro e w1 ⟨rfl, hb1⟩
  rw [HI.out]
  have s2' := s2.below hb1
  have s3' := s3.below hb1
  have hzz := s2.lt
  have B1 : Below g2 w w1 := b0.trans (hb1.mono (by omega))
  clear s2 s3 b0 hb1 hzz HI
  cases i with
  | none =>
    have hR2 : mailL2 [] p = R := HR.out
    rw [mailL2_last] at hR2
    have HR2 := Lib.hid hR2
    rw [show braV none = -1 from rfl]
    obtain ⟨c0, c1, c2, f0, f1, f2⟩ := s3'.cells
    clear hR2 HR HLT
    go_wp2_with fail
    have t3 := s3'.set1 p
    have t2 := s2'.far hne 1 (.string (bs p))
    have BT := below_cell B1 (show g2 ≤ g3 by omega) 1 (.string (bs p))
    clear c0 c1 c2 f0 f1 f2 s2' s3' B1
    obtain ⟨T, hT⟩ : ∃ T, w1.setCell ⟨g3, 1, none⟩ (.string (bs p)) = T := ⟨_, rfl⟩
    rw [hT] at t2 t3 BT ⊢
    clear hT
    refine (lastAt_any p _ (by omega)).mono ?_
    rintro e w2 ⟨rfl, rfl⟩
    obtain ⟨c0, c1, c2, f0, f1, f2⟩ := t3.cells
    cases hk : lastK p p.length with
    | none =>
      have h3 := HR2.out
      rw [hk] at h3
      subst h3
      rw [show lastV none = -1 from rfl]
      obtain ⟨k0, k1, k2, e0, e1, e2⟩ := t2.cells
      clear hk HR2
      go_wp2
      obtain ⟨r2, rB⟩ := adr_fin t2 BT ⟨[], p, []⟩
      clear k0 k1 k2 e0 e1 e2
      dsimp only at r2 rB
      obtain ⟨w7, hw7⟩ : ∃ w7, ((T.setCell ⟨g2, 0, none⟩ (.string (bs []))).setCell ⟨g2, 1, none⟩ (.string (bs p))).setCell ⟨g2, 2, none⟩ (.string (bs [])) = w7 := ⟨_, rfl⟩
      rw [hw7] at r2 rB ⊢
      obtain ⟨k0, k1, k2, e0, e1, e2⟩ := r2.cells
      refine bodyPost_ret (v := adrV ⟨[], p, []⟩) (by simp [results, Tryz.results15, go_sem, k0, k1, k2, adrV]) rfl ⟨rfl, rB⟩
    | some j =>
      have h3 := HR2.out
      rw [hk] at h3
      subst h3
      rw [show lastV (some j) = (j : Int) from rfl]
      have hj := lastK_lt p _ _ hk
      have hm1 := run_to p j (by omega)
      have hm2 := run_from p (j + 1) (by omega)
      rw [show ((j + 1 : Nat) : Int) = (j : Int) + 1 by omega] at hm2
      clear hk HR2
      go_wp2
      go_region
      have u3 : AdrAt ((T.setCell ⟨g3, 1, none⟩ (.string (bs (p.take j)))).setCell ⟨g3, 2, none⟩ (.string (bs (p.drop (j + 1))))).drew g3 ⟨[], p.take j, p.drop (j + 1)⟩ := (t3.set1 (p.take j)).set2 (p.drop (j + 1))
      have u2 : AdrAt ((T.setCell ⟨g3, 1, none⟩ (.string (bs (p.take j)))).setCell ⟨g3, 2, none⟩ (.string (bs (p.drop (j + 1))))).drew g2 ⟨[], [], []⟩ := (t2.far hne 1 _).far hne 2 _
      have BU := (below_cell (below_cell BT (show g2 ≤ g3 by omega) 1 (.string (bs (p.take j)))) (show g2 ≤ g3 by omega) 2 (.string (bs (p.drop (j + 1))))).drew
      clear c0 c1 c2 f0 f1 f2 hm1 hm2 t2 t3 BT
      obtain ⟨U, hU⟩ : ∃ U, ((T.setCell ⟨g3, 1, none⟩ (.string (bs (p.take j)))).setCell ⟨g3, 2, none⟩ (.string (bs (p.drop (j + 1))))).drew = U := ⟨_, rfl⟩
      rw [hU] at u2 u3 BU ⊢
      clear hU
      obtain ⟨c0, c1, c2, f0, f1, f2⟩ := u3.cells
      obtain ⟨k0, k1, k2, e0, e1, e2⟩ := u2.cells
      go_wp2
      obtain ⟨r2, rB⟩ := adr_fin u2 BU ⟨[], p.take j, p.drop (j + 1)⟩
      clear k0 k1 k2 e0 e1 e2
      dsimp only at r2 rB
      obtain ⟨w7, hw7⟩ : ∃ w7, ((U.setCell ⟨g2, 0, none⟩ (.string (bs []))).setCell ⟨g2, 1, none⟩ (.string (bs (p.take j)))).setCell ⟨g2, 2, none⟩ (.string (bs (p.drop (j + 1)))) = w7 := ⟨_, rfl⟩
      rw [hw7] at r2 rB ⊢
      obtain ⟨k0, k1, k2, e0, e1, e2⟩ := r2.cells
      refine bodyPost_ret (v := adrV ⟨[], (p.take j), (p.drop (j + 1))⟩) (by simp [results, Tryz.results15, go_sem, k0, k1, k2, adrV]) rfl ⟨rfl, rB⟩
  | some i =>
    have hi := HLT.out i rfl
    have hR2 : mailL2 (meantL (trimB (p.take i))) (upTo62 (p.drop (i + 1))) = R := HR.out
    have hql := upTo_le (p.drop (i + 1))
    have htl := trimB_le (p.take i)
    rw [List.length_drop] at hql
    rw [List.length_take] at htl
    obtain ⟨nm, hnm⟩ : ∃ nm, meantL (trimB (p.take i)) = nm := ⟨_, rfl⟩
    obtain ⟨q, hq⟩ : ∃ q, upTo62 (p.drop (i + 1)) = q := ⟨_, rfl⟩
    rw [hnm, hq, mailL2_last] at hR2
    rw [hq] at hql
    have HR2 := Lib.hid hR2
    have HNM := Lib.hid hnm
    have HQ := Lib.hid hq
    have HTL := Lib.hid htl
    rw [show braV (some i) = (i : Int) from rfl]
    have hm1 := run_to p i (by omega)
    have hm2 := run_from p (i + 1) (by omega)
    rw [show ((i + 1 : Nat) : Int) = (i : Int) + 1 by omega] at hm2
    clear hR2 HR HLT hnm hq htl
    go_wp2_with fail
    refine (trimA_any (p.take i) _ (by rw [List.length_take]; omega)).mono ?_
    rintro e w2 ⟨rfl, hb2⟩
    go_wp2_with fail
    refine (meant_any (trimB (p.take i)) _ (by have := HTL.out; omega)).mono ?_
    rintro e w3 ⟨rfl, hb3⟩
    rw [HNM.out]
    have hb13 := hb2.trans (hb3.mono hb2.size)
    have v3 := s3'.below hb13
    have v2 := s2'.below hb13
    have B3 : Below g2 w w3 := B1.trans (hb13.mono (by have := s2'.lt; omega))
    obtain ⟨c0, c1, c2, f0, f1, f2⟩ := v3.cells
    clear s2' s3' hb2 hb3 hb13 B1
    go_wp2_with fail
    have x3 := v3.set0 nm
    have x2 := v2.far hne 0 (.string (bs nm))
    have BX := below_cell B3 (show g2 ≤ g3 by omega) 0 (.string (bs nm))
    obtain ⟨w4, hw4⟩ : ∃ w4, w3.setCell ⟨g3, 0, none⟩ (.string (bs nm)) = w4 := ⟨_, rfl⟩
    rw [hw4] at x2 x3 BX ⊢
    clear hw4 c0 c1 c2 f0 f1 f2 v2 v3 B3
    refine (cutFirst_any (p.drop (i + 1)) _ (by rw [List.length_drop]; omega)).mono ?_
    rintro e w5 ⟨⟨r', b', rfl⟩, hb5⟩
    rw [HQ.out]
    have y3 := x3.below hb5
    have y2 := x2.below hb5
    have BY : Below g2 w w5 := BX.trans (hb5.mono (by have := x2.lt; omega))
    clear x2 x3 BX hb5 hm1 hm2
    obtain ⟨c0, c1, c2, f0, f1, f2⟩ := y3.cells
    go_wp2_with fail
    have t3 := y3.set1 q
    have t2 := y2.far hne 1 (.string (bs q))
    have BT := below_cell BY (show g2 ≤ g3 by omega) 1 (.string (bs q))
    clear c0 c1 c2 f0 f1 f2 y2 y3 BY
    obtain ⟨T, hT⟩ : ∃ T, w5.setCell ⟨g3, 1, none⟩ (.string (bs q)) = T := ⟨_, rfl⟩
    rw [hT] at t2 t3 BT ⊢
    clear hT
    refine (lastAt_any q _ (by omega)).mono ?_
    rintro e w6 ⟨rfl, rfl⟩
    obtain ⟨c0, c1, c2, f0, f1, f2⟩ := t3.cells
    cases hk : lastK q q.length with
    | none =>
      have h3 := HR2.out
      rw [hk] at h3
      subst h3
      rw [show lastV none = -1 from rfl]
      obtain ⟨k0, k1, k2, e0, e1, e2⟩ := t2.cells
      clear hk HR2
      go_wp2
      obtain ⟨r2, rB⟩ := adr_fin t2 BT ⟨nm, q, []⟩
      clear k0 k1 k2 e0 e1 e2
      dsimp only at r2 rB
      obtain ⟨w7, hw7⟩ : ∃ w7, ((T.setCell ⟨g2, 0, none⟩ (.string (bs nm))).setCell ⟨g2, 1, none⟩ (.string (bs q))).setCell ⟨g2, 2, none⟩ (.string (bs [])) = w7 := ⟨_, rfl⟩
      rw [hw7] at r2 rB ⊢
      obtain ⟨k0, k1, k2, e0, e1, e2⟩ := r2.cells
      refine bodyPost_ret (v := adrV ⟨nm, q, []⟩) (by simp [results, Tryz.results15, go_sem, k0, k1, k2, adrV]) rfl ⟨rfl, rB⟩
    | some j =>
      have h3 := HR2.out
      rw [hk] at h3
      subst h3
      rw [show lastV (some j) = (j : Int) from rfl]
      have hj := lastK_lt q _ _ hk
      have hm1 := run_to q j (by omega)
      have hm2 := run_from q (j + 1) (by omega)
      rw [show ((j + 1 : Nat) : Int) = (j : Int) + 1 by omega] at hm2
      clear hk HR2
      go_wp2
      go_region
      have u3 : AdrAt ((T.setCell ⟨g3, 1, none⟩ (.string (bs (q.take j)))).setCell ⟨g3, 2, none⟩ (.string (bs (q.drop (j + 1))))).drew g3 ⟨nm, q.take j, q.drop (j + 1)⟩ := (t3.set1 (q.take j)).set2 (q.drop (j + 1))
      have u2 : AdrAt ((T.setCell ⟨g3, 1, none⟩ (.string (bs (q.take j)))).setCell ⟨g3, 2, none⟩ (.string (bs (q.drop (j + 1))))).drew g2 ⟨[], [], []⟩ := (t2.far hne 1 _).far hne 2 _
      have BU := (below_cell (below_cell BT (show g2 ≤ g3 by omega) 1 (.string (bs (q.take j)))) (show g2 ≤ g3 by omega) 2 (.string (bs (q.drop (j + 1))))).drew
      clear c0 c1 c2 f0 f1 f2 hm1 hm2 t2 t3 BT
      obtain ⟨U, hU⟩ : ∃ U, ((T.setCell ⟨g3, 1, none⟩ (.string (bs (q.take j)))).setCell ⟨g3, 2, none⟩ (.string (bs (q.drop (j + 1))))).drew = U := ⟨_, rfl⟩
      rw [hU] at u2 u3 BU ⊢
      clear hU
      obtain ⟨c0, c1, c2, f0, f1, f2⟩ := u3.cells
      obtain ⟨k0, k1, k2, e0, e1, e2⟩ := u2.cells
      go_wp2
      obtain ⟨r2, rB⟩ := adr_fin u2 BU ⟨nm, q.take j, q.drop (j + 1)⟩
      clear k0 k1 k2 e0 e1 e2
      dsimp only at r2 rB
      obtain ⟨w7, hw7⟩ : ∃ w7, ((U.setCell ⟨g2, 0, none⟩ (.string (bs nm))).setCell ⟨g2, 1, none⟩ (.string (bs (q.take j)))).setCell ⟨g2, 2, none⟩ (.string (bs (q.drop (j + 1)))) = w7 := ⟨_, rfl⟩
      rw [hw7] at r2 rB ⊢
      obtain ⟨k0, k1, k2, e0, e1, e2⟩ := r2.cells
      refine bodyPost_ret (v := adrV ⟨nm, (q.take j), (q.drop (j + 1))⟩) (by simp [results, Tryz.results15, go_sem, k0, k1, k2, adrV]) rfl ⟨rfl, rB⟩

end Go.Proofs.YtifjibgnjjiggaaGreatDoor
end

/- envelope.Addresses: the walk. -/
set_option linter.unusedVariables false
set_option linter.unusedSimpArgs false
section
namespace Go.Proofs.YtifjibgnjjiggaaGreatDoor
open Go.RowKit Go

theorem colL_yes {ps : List (List UInt8)} {p : List UInt8} (h : neB (trimB p) = true) (hl : (colL ps).length < 50) : colL (ps ++ [p]) = colL ps ++ [adrL (trimB p)] := by rw [colL_snoc, if_pos ⟨h, hl⟩]
theorem colL_no {ps : List (List UInt8)} {p : List UInt8} (h : ¬ (neB (trimB p) = true ∧ (colL ps).length < 50)) : colL (ps ++ [p]) = colL ps := by rw [colL_snoc, if_neg h]
theorem colL_le (ps : List (List UInt8)) : (colL ps).length ≤ 50 := by
  unfold colL
  simp
  omega
theorem OwnA.grow {B : Nat} {u w w' : World} {v : Value} {l : List Adr} {o : Obj} (hb : Below B u w) (h : OwnA w B v l) (hg : (w.alloc o).grownBy w' v.ownBlock) (hB : B ≤ w.heap.size) : Below B u w' :=
  (hb.alloc hB o).grown hg (by simp; omega) (fun k e => (World.ownsRow.lt h k e).1)
theorem OwnA.form {w : World} {B : Nat} {v : Value} {l : List Adr} (h : OwnA w B v l) : ∃ a cap, v = .slice a l.length cap := by
  rcases h.parts with ⟨rfl, rfl⟩ | ⟨g, cap, rfl, _⟩
  · exact ⟨_, _, rfl⟩
  · exact ⟨_, _, rfl⟩
theorem adr_news (w : World) (a : Adr) : ∀ j u, (cellsAdr a)[j]? = some u → (w.alloc (.cells #[.string (bs a.name), .string (bs a.loc), .string (bs a.dom)] 30)).cell? ((⟨w.heap.size, 0, none⟩ : Addr).add j) = some u := by
  intro j u hj
  match j, hj with
  | 0, hj => simp [cellsAdr] at hj; subst hj; simp [Addr.add]
  | 1, hj => simp [cellsAdr] at hj; subst hj; simp [Addr.add]
  | 2, hj => simp [cellsAdr] at hj; subst hj; simp [Addr.add]
  | n + 3, hj => simp [cellsAdr] at hj
theorem adr_one (a : Adr) : ∀ u ∈ cellsAdr a, u.oneCell' = true := by
  intro u hu
  simp [cellsAdr] at hu
  rcases hu with rfl | rfl | rfl <;> rfl

set_option maxRecDepth 100000 in
set_option maxHeartbeats 4000000 in
theorem addresses_any (v : List UInt8) (w : World) (hl : v.length ≤ 10000000) : Calls Tryz.prog 6 #[.string (bs v)] w fun e w' => (∃ x, e = .returned x ∧ OwnA w' w.heap.size x (adrsL v)) ∧ Below w.heap.size w w' := by
  obtain ⟨i0, hi0, hz0, hz1, hz2⟩ := info_parts info_adr
  obtain ⟨hp1, hp2⟩ := piecesS_len v st0 []
  rw [adrsL_col]
  have e0 : piecesS st0 [] v = piecesL v := rfl
  rw [e0] at hp1 hp2
  obtain ⟨ls, hls⟩ : ∃ ls, piecesL v = ls := ⟨_, rfl⟩
  rw [hls] at hp1 hp2 ⊢
  have HLS := Lib.hid hls
  have HP2 := Lib.hid hp2
  clear hls hp2 e0
  go_enter Tryz.func6, Tryz.ntmps6
  go_wp2_with fail
  refine (pieces_any v _ (by omega)).mono ?_
  rintro e w1 ⟨pv, rfl, hpv, hb1⟩
  rw [HLS.out] at hpv
  have hst := hpv.strs
  obtain ⟨B, hB0⟩ : ∃ B, w.heap.size = B := ⟨_, rfl⟩
  have hz := hb1.size
  rw [hB0] at hb1 hz
  rcases hst with ⟨rfl, rfl⟩ | ⟨g, o, c, rfl, hlc, hg, hc⟩
  · go_wp2
    go_loopw [3, 9] (fun out i wr => out = .slice none 0 0 ∧ i = .int .i64 0 ∧ wr = w1) (fun _ _ _ => 0)
    case atStart => exact ⟨rfl, rfl, rfl⟩
    case round =>
      obtain ⟨rfl, rfl, rfl⟩ := hrel
      go_wp2
      go_ret
      exact ⟨⟨_, rfl, World.ownsRow_nil _ _ _ _⟩, by rw [hB0]; exact hb1⟩
  · have HC := Lib.hid hc
    clear hc hpv
    go_wp2
    go_loopw [3, 9] (fun out i wr => ∃ (k : Nat), k ≤ ls.length ∧ i = .int .i64 k ∧ OwnA wr w1.heap.size out (colL (ls.take k)) ∧ Below w1.heap.size w1 wr) (fun _ i _ => ls.length - (intOf i).toNat)
    case atStart => exact ⟨0, Nat.zero_le _, rfl, World.ownsRow_nil _ _ _ _, Below.refl _ _⟩
    case round =>
      obtain ⟨k, hk, rfl, hown, hBr⟩ := hrel
      have hzr := hBr.size
      by_cases hlt : k < ls.length
      · obtain ⟨x, hx⟩ : ∃ x, ls[k]? = some x := ⟨_, List.getElem?_eq_getElem hlt⟩
        have hxl := HP2.out x (List.mem_of_getElem? hx)
        simp only [List.length_nil, Nat.zero_add] at hxl
        have hxd : ls.getD k [] = x := by simp [List.getD, hx]
        have cx : wr.cell? ⟨g, o + k, none⟩ = some (.string (bs x)) := by
          rw [← hxd]
          exact (hBr.cell (p := ⟨g, o + k, none⟩) hg).trans (HC.out k hlt)
        have htk : ls.take (k + 1) = ls.take k ++ [x] := by rw [List.take_add_one, hx]; rfl
        have HTK := Lib.hid htk
        have htl := trimB_le x
        have hcl := colL_le (ls.take k)
        have hlt' : (k : Int) < ls.length := by omega
        clear hx hxd htk
        go_wp2_with fail
        refine (trimA_any x _ (by omega)).mono ?_
        rintro e w2 ⟨rfl, hb2⟩
        have hown2 := hown.below hb2
        have hB2 := hBr.trans (hb2.mono hzr)
        obtain ⟨L, hL⟩ : ∃ L, colL (ls.take k) = L := ⟨_, rfl⟩
        rw [hL] at hown2 hcl
        have HL := Lib.hid hL
        obtain ⟨oa, oc, rfl⟩ := hown2.form
        have hzw : w1.heap.size ≤ w2.heap.size := hB2.size
        clear hL hown hBr hb2 cx
        rcases hy : trimB x with _ | ⟨c0, t⟩
        · have hno : colL (ls.take (k + 1)) = L := by
            rw [HTK.out, colL_no (by rw [hy]; simp [neB]), HL.out]
          clear hy htl
          go_wp2
          go_roundw
          case rel => exact ⟨k + 1, by omega, by go_num, by rw [hno]; exact hown2, hB2⟩
          case measure => simp [intOf]; omega
        · by_cases h50 : L.length < 50
          · have hye : colL (ls.take (k + 1)) = L ++ [adrL (c0 :: t)] := by
              rw [HTK.out, colL_yes (by rw [hy]; rfl) (by rw [HL.out]; exact h50), HL.out, hy]
            rw [hy] at htl
            have h50' : (L.length : Int) < 50 := by omega
            have HYE := Lib.hid hye
            clear hy hye
            go_wp2_with fail
            refine (address_any (c0 :: t) _ (by omega)).mono ?_
            rintro e w3 ⟨rfl, hb3⟩
            obtain ⟨A, hA⟩ : ∃ A, adrL (c0 :: t) = A := ⟨_, rfl⟩
            rw [hA]
            have HYE2 := HYE.out
            rw [hA] at HYE2
            have HY := Lib.hid HYE2
            have hown3 := hown2.below hb3
            have hB3 := hB2.trans (hb3.mono hzw)
            have hzx := hB3.size
            have hnews := adr_news w3 A
            have hone := adr_one A
            clear hA HYE HYE2 hown2 hB2 hb3
            unfold adrV
            go_wp2_with (at_builtin; refine wpList_append_own _ rfl _ _ 23 rfl w1.heap.size 30 i0 _ 3 48 Tryz.underlying23 hi0 hz0 hz1 hz2 rfl (by decide) _ _ _ rfl (World.ownsRow.alloc hown3 _) ⟨w3.heap.size, 0, none⟩ 1 1 (cellsAdr A) rfl rfl hnews hone ?c3 ?c4 ?c5 ?_)
            case c3 => unfold maxLen; omega
            case c4 => omega
            case c5 => simp; omega
            intro v' w4 hown4 hgrow _
            have R1 : OwnA w4 w1.heap.size v' (L ++ [A]) := OwnA.step hown4
            have R2 : Below w1.heap.size w1 w4 := OwnA.grow hB3 hown3 hgrow hzx
            clear hown4 hgrow hown3 hnews hone
            go_wp2
            go_roundw
            case rel => exact ⟨k + 1, by omega, by go_num, by rw [HY.out]; exact R1, R2⟩
            case measure => simp [intOf]; omega
          · have hno : colL (ls.take (k + 1)) = L := by
              rw [HTK.out, colL_no (by rw [HL.out]; omega), HL.out]
            have h50' : ¬ (L.length : Int) < 50 := by omega
            clear hy htl
            go_wp2
            go_roundw
            case rel => exact ⟨k + 1, by omega, by go_num, by rw [hno]; exact hown2, hB2⟩
            case measure => simp [intOf]; omega
      · obtain rfl : k = ls.length := by omega
        rw [List.take_length] at hown
        go_wp2
        go_ret
        exact ⟨⟨_, rfl, by rw [hB0]; exact hown.base hz⟩, by rw [hB0]; exact hb1.trans (hBr.mono hz)⟩

end Go.Proofs.YtifjibgnjjiggaaGreatDoor
end

/- How IMAP quotes a text (plain): which runes are printed, one byte replaced. -/
set_option linter.unusedVariables false
set_option linter.unusedSimpArgs false
section
namespace Go.Proofs.YtifjibgnjjiggaaGreatDoor
open Go

/-- a rune that is not printed -/
def oddR (r : Nat) : Bool := decide ((r : Int) < 32) || decide (126 < (r : Int))
theorem odd_byte (c : UInt8) : oddR c.toNat = !printB c := by
  unfold oddR printB
  rw [Bool.eq_iff_iff]
  simp
  omega
theorem decodeN_odd (n b0 b1 b2 b3 : Nat) : (b0 < 128 ∧ Lib.decodeN n b0 b1 b2 b3 = (b0, 1)) ∨ (128 ≤ b0 ∧ 128 ≤ (Lib.decodeN n b0 b1 b2 b3).1) := by
  obtain ⟨D, hD⟩ : ∃ D, Lib.decodeN n b0 b1 b2 b3 = D := ⟨_, rfl⟩
  rw [hD]
  subst hD
  unfold Lib.decodeN
  repeat' split
  all_goals first
    | exact .inl ⟨by assumption, rfl⟩
    | (right; simp only; omega)
theorem get_byte (l : List UInt8) (i : Nat) (c : UInt8) (h : l[i]? = some c) : (bs l).get! i = c := by
  obtain ⟨hlt, hc⟩ := List.getElem?_eq_some_iff.1 h
  show (l.toArray)[i]! = c
  rw [getElem!_pos l.toArray i (by simpa using hlt)]
  simpa using hc
theorem idx_odd (l : List UInt8) : ∀ (f pos : Nat), pos ≤ l.length → l.length ≤ pos + f → (decide (0 ≤ Lib.idxFuncFrom oddR true (bs l) f pos)) = !((l.drop pos).all printB)
  | 0, pos, h1, h2 => by
    have : pos = l.length := by omega
    rw [this, List.drop_length]
    rfl
  | f + 1, pos, h1, h2 => by
    by_cases hlt : pos < l.length
    · obtain ⟨c, hc⟩ : ∃ c, l[pos]? = some c := ⟨_, List.getElem?_eq_getElem hlt⟩
      have hd : l.drop pos = c :: l.drop (pos + 1) := by
        rw [List.drop_eq_getElem_cons hlt, (List.getElem?_eq_some_iff.1 hc).2]
      rw [hd, List.all_cons]
      unfold Lib.idxFuncFrom
      rw [if_pos (by rw [bs_size]; exact hlt), Lib.decode_at, get_byte l pos c hc]
      rcases decodeN_odd ((bs l).size - pos) c.toNat ((bs l).get! (pos + 1)).toNat ((bs l).get! (pos + 2)).toNat ((bs l).get! (pos + 3)).toNat with ⟨h3, h4⟩ | ⟨h3, h4⟩
      · rw [h4]
        simp only
        rw [odd_byte]
        cases hp : printB c with
        | true =>
          simp only [Bool.not_true, Bool.false_eq_true, if_false, Bool.true_and]
          exact idx_odd l f (pos + 1) (by omega) (by omega)
        | false =>
          simp only [Bool.not_false, if_true, Bool.false_and]
          simp
      · have ho : oddR (Lib.decodeN ((bs l).size - pos) c.toNat ((bs l).get! (pos + 1)).toNat ((bs l).get! (pos + 2)).toNat ((bs l).get! (pos + 3)).toNat).1 = true := by
          unfold oddR
          rw [Bool.or_eq_true, decide_eq_true_eq, decide_eq_true_eq]
          right; omega
        have hp : printB c = false := by
          unfold printB
          rw [Bool.and_eq_false_iff]
          right
          simp; omega
        rw [if_pos ho, hp]
        simp
    · have : pos = l.length := by omega
      rw [Lib.idxFuncFrom_end _ _ _ _ _ (by rw [bs_size]; exact hlt), this, List.drop_length]
      rfl
theorem idx_print (l : List UInt8) : decide (0 ≤ Lib.idxFunc oddR true (bs l)) = !(l.all printB) := by
  have := idx_odd l l.length 0 (by omega) (by omega)
  rw [List.drop_zero] at this
  unfold Lib.idxFunc
  rw [bs_size]
  exact this

/-- one byte replaced by a text -/
def repB (c : UInt8) (new : List UInt8) (l : List UInt8) : List UInt8 := l.flatMap fun b => if b = c then new else [b]
theorem index_nil (c : UInt8) : Lib.index [] [c] = -1 := rfl
theorem replaceK_ne (c b : UInt8) (new : List UInt8) (h : b ≠ c) : ∀ (k : Nat) (l : List UInt8), Lib.replaceK [c] new k (b :: l) = b :: Lib.replaceK [c] new k l
  | 0, l => rfl
  | k + 1, l => by
    have hp : ([c] : List UInt8).isPrefixOf (b :: l) = false := by simp [List.isPrefixOf, Ne.symm h]
    have hix : Lib.index (b :: l) [c] = if Lib.index l [c] == -1 then -1 else Lib.index l [c] + 1 := by rw [Lib.index, hp]; simp
    have hge := Lib.index_ge l [c]
    rw [Lib.replaceK, Lib.replaceK, hix]
    by_cases hm : Lib.index l [c] = -1
    · rw [hm]; simp
    · obtain ⟨i, hi⟩ : ∃ i : Nat, Lib.index l [c] = i := ⟨(Lib.index l [c]).toNat, by omega⟩
      rw [hi]
      have e1 : ((i : Int) == -1) = false := by rw [beq_eq_false_iff_ne]; omega
      have e2 : ((i : Int) + 1 == -1) = false := by rw [beq_eq_false_iff_ne]; omega
      rw [e1]
      simp only [Bool.false_eq_true, if_false]
      rw [e2]
      simp only [Bool.false_eq_true, if_false]
      rw [show ((i : Int) + 1).toNat = i + 1 by omega, show ((i : Int)).toNat = i by omega]
      simp only [List.take_succ_cons, List.cons_append, List.length_singleton, List.drop_succ_cons]
theorem replace_one (c : UInt8) (new : List UInt8) : ∀ l : List UInt8, Lib.replaceK [c] new (Lib.count l [c]) l = repB c new l
  | [] => by
    rw [Lib.count_one]
    rfl
  | b :: l => by
    have ih := replace_one c new l
    unfold repB at ih ⊢
    rw [List.flatMap_cons]
    by_cases h : b = c
    · subst h
      rw [Lib.count_cons_eq, if_pos rfl, show 1 + Lib.count l [b] = Lib.count l [b] + 1 by omega]
      have hix : Lib.index (b :: l) [b] = ((0 : Nat) : Int) := by rw [Lib.index]; simp [List.isPrefixOf]
      rw [Lib.replaceK_hit [b] new _ _ 0 hix]
      simp only [List.take_zero, List.nil_append, Nat.zero_add, List.length_singleton, List.drop_succ_cons, List.drop_zero]
      rw [ih]
    · rw [Lib.count_cons_ne b c l h, replaceK_ne c b new h, ih, if_neg h]
      rfl
theorem replaceAll_one (c : UInt8) (new l : List UInt8) (h : ¬ ([c] : List UInt8) == new) : Lib.replaceAll l [c] new = repB c new l := by
  unfold Lib.replaceAll Lib.replace Lib.replaceNum
  rw [if_neg h, if_pos (by omega)]
  exact replace_one c new l
theorem escL_eq (l : List UInt8) : repB 34 [92, 34] (repB 92 [92, 92] l) = escL l := by
  unfold repB escL
  induction l with
  | nil => rfl
  | cons c r ih =>
    rw [List.flatMap_cons, List.flatMap_append, ih, List.flatMap_cons]
    congr 1
    by_cases h1 : c = 92
    · subst h1; rfl
    · by_cases h2 : c = 34
      · subst h2; rfl
      · rw [if_neg h1]
        simp [h1, h2]
theorem repB_len (c : UInt8) (new : List UInt8) (h : new.length ≤ 2) : ∀ l : List UInt8, (repB c new l).length ≤ 2 * l.length
  | [] => by simp [repB]
  | b :: l => by
    have ih := repB_len c new h l
    unfold repB at ih ⊢
    rw [List.flatMap_cons, List.length_append, List.length_cons]
    split
    · omega
    · simp only [List.length_cons, List.length_nil]; omega

end Go.Proofs.YtifjibgnjjiggaaGreatDoor
end
