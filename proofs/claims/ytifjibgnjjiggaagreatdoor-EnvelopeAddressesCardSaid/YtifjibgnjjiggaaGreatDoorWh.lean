/- Texts of one walk, merged: XVD XVE XOi XVF XVG XVP XVQ. -/
import Derived.Test.YtifjibgnjjiggaaGreatDoorWg
import Derived.Laws.AppendOwn
import Derived.Laws.OwnMore
import Derived.Deep.OwnRows
import Derived.Deep.DeepCutAuto
import Derived.Deep.CutBlock
import Derived.Deep.Cut
import Derived.Deep.CutRange

/- The document's meant. -/
set_option linter.unusedVariables false
set_option linter.unusedSimpArgs false
section
set_option linter.unusedVariables false
set_option linter.unusedSimpArgs false
namespace Go.Proofs.YtifjibgnjjiggaaGreatDoor
open Go.RowKit

set_option maxRecDepth 100000 in
set_option maxHeartbeats 4000000 in
theorem refMeant_any (n : List UInt8) (w : World) (hl : n.length ≤ 100000000) :
    Calls Tryz.prog 44 #[.string (bs n)] w fun e w' => e = .returned (.string (bs (meantL n))) ∧ Below w.heap.size w w' := by
  rcases n with _ | ⟨c, _ | ⟨d, r⟩⟩
  · show Calls _ _ _ _ fun e w' => e = .returned (.string (bs [])) ∧ _
    go_enter Tryz.func44, Tryz.ntmps44
    go_wp2
    go_ret
    exact ⟨rfl, Below.refl _ _⟩
  · show Calls _ _ _ _ fun e w' => e = .returned (.string (bs [c])) ∧ _
    go_enter Tryz.func44, Tryz.ntmps44
    go_wp2
    go_ret
    exact ⟨rfl, Below.refl _ _⟩
  · by_cases h34 : c = 34
    · subst h34
      obtain ⟨n, hn⟩ : ∃ n, 34 :: d :: r = n := ⟨_, rfl⟩
      have hm : meantL n = (meantGo [] (n.drop 1)).getD n := by rw [← hn]; rfl
      have h0 : n[0]? = some 34 := by rw [← hn]; rfl
      have h2 : 2 ≤ n.length := by rw [← hn]; simp
      rw [hn] at hl ⊢
      rw [hm]
      clear hm hn
      obtain ⟨hx0, hx⟩ := List.getElem?_eq_some_iff.1 h0
      have hxb : (bs n)[0]'(by rw [bs_size]; exact hx0) = 34 := hx
      obtain ⟨R, hR⟩ : ∃ R, meantGo [] (n.drop 1) = R := ⟨_, rfl⟩
      rw [hR]
      have HR := Lib.hid hR
      clear hR hx h0
      go_enter Tryz.func44, Tryz.ntmps44
      go_wp2
      go_loopw [3, 4] (fun out i wr => ∃ (k : Nat) (acc : List UInt8), 1 ≤ k ∧ k ≤ n.length ∧ i = .int .i64 k ∧ OwnB wr w.heap.size out acc ∧ Hid (meantGo acc (n.drop k) = R) ∧ acc.length ≤ k ∧ Below w.heap.size w wr) (fun _ i _ => n.length - (intOf i).toNat)
      case atStart => exact ⟨1, [], Nat.le_refl _, by omega, rfl, World.ownsRow_lit w #[] 0 (Nat.le_refl _) (by decide) rfl, HR.out, by simp, (Below.refl _ _).alloc (Nat.le_refl _) _⟩
      case round =>
        clear hxb
        obtain ⟨k, acc, hk1, hk, rfl, hown, hd, hal, hB⟩ := hrel
        have hzr := hB.size
        by_cases hlt : k < n.length
        · obtain ⟨c, hc⟩ : ∃ c, (bs n)[k]'(by rw [bs_size]; exact hlt) = c := ⟨_, rfl⟩
          have hc' : n[k]? = some c := List.getElem?_eq_some_iff.2 ⟨hlt, hc⟩
          have h1 := hd.out
          rw [drop_at hc'] at h1
          have hlt' : (k : Int) < n.length := by omega
          by_cases h34 : c = 34
          · subst h34
            by_cases hlast : k + 1 = n.length
            · rw [hlast, List.drop_length, meantGo_end] at h1
              subst h1
              have hcv := convert_bytes hown.bytes
              have hke : ((k : Int) == (n.length : Int) - 1) = true := by rw [beq_iff_eq]; omega
              clear hd
              go_wp2
              go_ret
              exact ⟨rfl, hB⟩
            · obtain ⟨x, hx⟩ : ∃ x, n[k + 1]? = some x := ⟨_, List.getElem?_eq_getElem (by omega)⟩
              rw [drop_at hx, meantGo_quote] at h1
              subst h1
              have hke : ((k : Int) == (n.length : Int) - 1) = false := by rw [beq_eq_false_iff_ne]; omega
              clear hd hx
              go_wp2
              go_ret
              exact ⟨rfl, hB⟩
          · obtain ⟨n1, n2⟩ := chr_ne (d := 34) (n := 34) rfl h34
            by_cases h92 : c = 92
            · subst h92
              by_cases hlast : k + 1 = n.length
              · rw [hlast, List.drop_length, meantGo_esc1] at h1
                have H1 := Lib.hid h1
                have hke : ¬ ((k : Int) + 1 < (n.length : Int)) := by omega
                clear hd h1
                go_wp2_with (at_builtin; refine app_byte _ w.heap.size _ _ 92 _ rfl hown hzr (by omega) rfl _ _ rfl rfl rfl ?_; intro v' w2 own2 ap2)
                go_roundw
                case rel => exact ⟨k + 1, acc ++ [92], by omega, by omega, by go_num, own2, by show _ = _; rw [hlast, List.drop_length]; exact H1.out, by simp; omega, ap2.below _ _ (Nat.le_refl _) hB⟩
                case measure => simp [intOf]; omega
              · have hlt2 : k + 1 < n.length := by omega
                obtain ⟨x, hxc⟩ : ∃ x, (bs n)[k + 1]'(by rw [bs_size]; exact hlt2) = x := ⟨_, rfl⟩
                have hx : n[k + 1]? = some x := List.getElem?_eq_some_iff.2 ⟨hlt2, hxc⟩
                rw [drop_at hx, meantGo_esc] at h1
                have H1 := Lib.hid h1
                have hke : ((k : Int) + 1 < (n.length : Int)) := by omega
                clear hd h1 hx
                go_wp2_with (at_builtin; refine app_byte _ w.heap.size _ _ x _ rfl hown hzr (by omega) rfl _ _ rfl rfl rfl ?_; intro v' w2 own2 ap2)
                go_roundw
                case rel => exact ⟨k + 2, acc ++ [x], by omega, by omega, by go_num, own2, H1.out, by simp; omega, ap2.below _ _ (Nat.le_refl _) hB⟩
                case measure => simp [intOf]; omega
            · obtain ⟨m1, m2⟩ := chr_ne (d := 92) (n := 92) rfl h92
              rw [meantGo_other _ _ _ h34 h92] at h1
              have H1 := Lib.hid h1
              clear hd h1 h34 h92 hc'
              go_wp2_with (at_builtin; refine app_byte _ w.heap.size _ _ c _ rfl hown hzr (by omega) rfl _ _ rfl rfl rfl ?_; intro v' w2 own2 ap2)
              go_roundw
              case rel => exact ⟨k + 1, acc ++ [c], by omega, by omega, by go_num, own2, H1.out, by simp; omega, ap2.below _ _ (Nat.le_refl _) hB⟩
              case measure => simp [intOf]; omega
        · obtain rfl : k = n.length := by omega
          have h1 := hd.out
          rw [List.drop_length, meantGo] at h1
          subst h1
          clear hd
          go_wp2
          go_ret
          exact ⟨rfl, hB⟩
    · have hm : meantL (c :: d :: r) = c :: d :: r := by unfold meantL; simp only; rw [if_neg h34]
      rw [hm]
      obtain ⟨n1, n2⟩ := chr_ne (d := 34) (n := 34) rfl h34
      have hx : (bs (c :: d :: r))[0]'(by rw [bs_size]; simp) = c := rfl
      clear h34 hm
      go_enter Tryz.func44, Tryz.ntmps44
      go_wp2
      go_ret
      exact ⟨rfl, Below.refl _ _⟩

end Go.Proofs.YtifjibgnjjiggaaGreatDoor
end

/- The document's trim. -/
set_option linter.unusedVariables false
set_option linter.unusedSimpArgs false
section
namespace Go.Proofs.YtifjibgnjjiggaaGreatDoor
open Go.RowKit

theorem blank_or {c : UInt8} (h : blankB c = true) : c = 32 ∨ c = 9 := by simpa [blankB] using h
theorem blank_not {c : UInt8} (h : blankB c = false) : c ≠ 32 ∧ c ≠ 9 := by simpa [blankB] using h

set_option maxRecDepth 100000 in
set_option maxHeartbeats 2000000 in
theorem refTrim11_any (l : List UInt8) (w : World) (hl : l.length ≤ 1099511627776) : Calls Tryz.prog 17 #[.string (bs l)] w fun e w' => e = .returned (.string (bs (trimB l))) ∧ w = w' := by
  obtain ⟨T, hT⟩ : ∃ T, trimB l = T := ⟨_, rfl⟩
  rw [hT]
  rw [trimB_eq] at hT
  have HT := Lib.hid hT
  clear hT
  go_enter Tryz.func17, Tryz.ntmps17
  go_wp2
  go_loop [0] (fun s => ∃ r : List UInt8, r.length ≤ l.length ∧ s = .string (bs r) ∧ Hid (dropR (dropL r) = T)) (fun s => match s with | .string x => x.size | _ => 0)
  case atStart => exact ⟨l, Nat.le_refl _, rfl, HT.out⟩
  case round =>
    obtain ⟨r, hr, rfl, hd⟩ := hrel
    by_cases hb : goesB r = true
    · obtain ⟨c, t, rfl⟩ : ∃ c t, r = c :: t := by
        cases r with
        | nil => cases hb
        | cons c t => exact ⟨c, t, rfl⟩
      have hx : (bs (c :: t))[0]'(by rw [bs_size]; simp) = c := rfl
      have hz : (bs (c :: t)).extract 1 (t.length + 1) = bs t := bs_drop (c :: t) 1 (t.length + 1) (by simp)
      have hd2 : Hid (dropR (dropL t) = T) := by
        show _ = _
        rw [← hd.out]
        unfold dropL
        rw [List.dropWhile_cons, if_pos (show blankB c = true from hb)]
      simp only [List.length_cons] at hr
      clear hd
      rcases blank_or (show blankB c = true from hb) with rfl | rfl
      · clear hb
        go_wp2
        go_round
        case rel => exact ⟨t, by omega, rfl, hd2⟩
        case measure => simp [bs_size]
      · clear hb
        go_wp2
        go_round
        case rel => exact ⟨t, by omega, rfl, hd2⟩
        case measure => simp [bs_size]
    · have hdl : dropL r = r := by
        cases r with
        | nil => rfl
        | cons c t => unfold dropL; rw [List.dropWhile_cons, if_neg (show ¬ blankB c = true from hb)]
      have hd2 := hd.out
      rw [hdl] at hd2
      have HD2 := Lib.hid hd2
      clear hd hd2 hdl
      cases r with
      | nil =>
        have hT2 : T = [] := by rw [← HD2.out]; rfl
        subst hT2
        clear hb
        go_wp2
        go_loop [0] (fun s => s = .string (bs [])) (fun _ => 0)
        case atStart => rfl
        case round =>
          obtain rfl := hrel
          go_wp2
          go_ret
          exact ⟨rfl, rfl⟩
      | cons c t =>
        have hx : (bs (c :: t))[0]'(by rw [bs_size]; simp) = c := rfl
        obtain ⟨h32, h9⟩ := blank_not (c := c) (by simpa [goesB] using hb)
        obtain ⟨n1, n2⟩ := chr_ne (d := 32) (n := 32) rfl h32
        obtain ⟨m1, m2⟩ := chr_ne (d := 9) (n := 9) rfl h9
        clear hb h32 h9
        go_wp2
        go_loop [0] (fun s => ∃ r : List UInt8, r.length ≤ l.length ∧ s = .string (bs r) ∧ Hid (dropR r = T)) (fun s => match s with | .string x => x.size | _ => 0)
        case atStart => exact ⟨c :: t, hr, rfl, HD2.out⟩
        case round =>
          clear hx n1 n2 m1 m2
          obtain ⟨r, hr, rfl, hd⟩ := hrel
          rcases List.eq_nil_or_concat r with rfl | ⟨r1, d, rfl⟩
          · have hT2 : T = [] := by rw [← hd.out]; rfl
            subst hT2
            go_wp2
            go_ret
            exact ⟨rfl, rfl⟩
          · rw [List.concat_eq_append] at *
            have hy : (bs (r1 ++ [d]))[r1.length]'(by rw [bs_size]; simp) = d := by
              show (r1 ++ [d])[r1.length]'(by simp) = d
              simp
            have hz : (bs (r1 ++ [d])).extract 0 r1.length = bs r1 := by rw [bs_take]; simp
            have hd2 := hd.out
            rw [dropR_snoc] at hd2
            simp only [List.length_append, List.length_singleton] at hr
            by_cases hb : blankB d = true
            · rw [if_pos hb] at hd2
              have HD3 := Lib.hid hd2
              clear hd hd2
              rcases blank_or hb with rfl | rfl
              · clear hb
                go_wp2
                go_round
                case rel => exact ⟨r1, by omega, rfl, HD3.out⟩
                case measure => simp [bs_size]
              · clear hb
                go_wp2
                go_round
                case rel => exact ⟨r1, by omega, rfl, HD3.out⟩
                case measure => simp [bs_size]
            · rw [if_neg hb] at hd2
              obtain ⟨h32, h9⟩ := blank_not (c := d) (by simpa using hb)
              obtain ⟨n1, n2⟩ := chr_ne (d := 32) (n := 32) rfl h32
              obtain ⟨m1, m2⟩ := chr_ne (d := 9) (n := 9) rfl h9
              have HD3 := Lib.hid hd2
              clear hb hd hd2 h32 h9
              go_wp2
              go_ret
              exact ⟨by rw [← HD3.out]; rfl, rfl⟩

end Go.Proofs.YtifjibgnjjiggaaGreatDoor
end

/- Rows of ints that the call itself made. -/
set_option linter.unusedVariables false
set_option linter.unusedSimpArgs false
section
namespace Go.Proofs.YtifjibgnjjiggaaGreatDoor
open Go.RowKit

theorem info_int : (Tryz.prog.info? 3).map (fun i => (i.zero, i.size, i.bytes)) = some (some (.int .i64 0), 1, 8) := by kernel_rfl
def cellsI (l : List Int) : List Value := l.map fun k => .int .i64 k
def OwnI (w : World) (B : Nat) (v : Value) (l : List Int) : Prop := w.ownsRow B 3 1 v l.length (cellsI l)
theorem OwnI.step {w' : World} {B : Nat} {v' : Value} {ls : List Int} {k : Int} (h : w'.ownsRow B 3 1 v' (ls.length + 1) (cellsI ls ++ [.int .i64 k])) : OwnI w' B v' (ls ++ [k]) := by
  unfold OwnI
  rw [List.length_append]
  simpa [cellsI] using h
theorem OwnI.later {w w' : World} {B : Nat} {v : Value} {l : List Int} (h : OwnI w B v l) (hb : ∀ k, v.ownBlock = some k → w'.heap[k]? = w.heap[k]?) : OwnI w' B v l := by
  refine ⟨h.1, ?_⟩
  rcases h.2 with h0 | ⟨g, cap, cur, rfl, h1, h2, r⟩
  · exact .inl h0
  · exact .inr ⟨g, cap, cur, rfl, h1, (hb g rfl).trans h2, r⟩
theorem OwnI.below {w w' : World} {B : Nat} {v : Value} {l : List Int} (h : OwnI w B v l) (hb : Below w.heap.size w w') : OwnI w' B v l :=
  h.later fun k hk => hb.block k (World.ownsRow.lt h k hk).2
theorem OwnI.parts {w : World} {B : Nat} {v : Value} {l : List Int} (h : OwnI w B v l) (hl : l ≠ []) : ∃ g cap, v = .slice (some ⟨g, 0, none⟩) l.length cap ∧ g < w.heap.size ∧ B ≤ g := by
  have hlt := World.ownsRow.lt h
  rcases h.2 with ⟨rfl, h0⟩ | ⟨g, cap, cur, rfl, hb, hg, hc, _, _, ht⟩
  · exact absurd (List.eq_nil_of_length_eq_zero h0) hl
  · exact ⟨g, cap, rfl, (hlt g rfl).2, (hlt g rfl).1⟩
theorem OwnI.cell {w : World} {B g n cap : Nat} {l : List Int} (h : OwnI w B (.slice (some ⟨g, 0, none⟩) n cap) l) (j : Nat) (k : Int) (hj : l[j]? = some k) : w.cell? ⟨g, j, none⟩ = some (.int .i64 k) := by
  obtain ⟨hlt, _⟩ := List.getElem?_eq_some_iff.1 hj
  have hn : n = l.length := by
    rcases h.2 with ⟨h, _⟩ | ⟨g', cap', cur, h, _⟩
    · cases h
    · simp at h; omega
  have := World.ownsRow.cellAt (n := l.length) (by rw [← hn]; rw [hn]; exact hn ▸ h) j (by omega)
  rw [this]
  simp [cellsI, hj]

end Go.Proofs.YtifjibgnjjiggaaGreatDoor
end

/- The document's marks: the walk. -/
set_option linter.unusedVariables false
set_option linter.unusedSimpArgs false
section
namespace Go.Proofs.YtifjibgnjjiggaaGreatDoor
open Go.RowKit

theorem madeI (n : Nat) : (madeCells #[Value.int .i64 0] n).toList = cellsI (List.replicate n 0) := by
  apply List.ext_getElem?
  intro i
  by_cases h : i < n
  · simp [madeCells, cellsI, h, Nat.mod_one]
  · simp [madeCells, cellsI, h]
theorem OwnI.made (w : World) (B n : Nat) (hB : B ≤ w.heap.size) (hn : n ≤ maxLen) : OwnI (w.alloc (.cells (madeCells #[Value.int .i64 0] n) 3)) B (.slice (some ⟨w.heap.size, 0, none⟩) n n) (List.replicate n 0) := by
  have h := World.ownsRow_lit (base := B) (e := 3) (size := 1) w (madeCells #[Value.int .i64 0] n) n hB hn (by rw [size_madeCells]; omega)
  unfold OwnI
  rw [List.length_replicate, ← madeI]
  exact h
theorem put_rep (A : List Int) (n k : Nat) (x : Int) (hA : A.length = k) (hk : k < n) : (A ++ List.replicate (n - k) 0).set k x = (A ++ [x]) ++ List.replicate (n - (k + 1)) 0 := by
  rw [List.set_append_right _ _ (by omega), hA, Nat.sub_self, show n - k = (n - (k + 1)) + 1 by omega, List.replicate_succ, List.set_cons_zero]
  simp
theorem rep_len {A : List Int} {n k : Nat} (hA : A.length = k) (hk : k ≤ n) : (A ++ List.replicate (n - k) 0).length = n := by simp; omega
theorem skip_rep (A : List Int) (n k : Nat) (hk : k < n) : A ++ List.replicate (n - k) 0 = (A ++ [0]) ++ List.replicate (n - (k + 1)) 0 := by
  rw [show n - k = (n - (k + 1)) + 1 by omega, List.replicate_succ]
  simp
theorem OwnI.put {w : World} {B g n k : Nat} {A : List Int} (h : OwnI w B (.slice (some ⟨g, 0, none⟩) n n) (A ++ List.replicate (n - k) 0)) (hA : A.length = k) (hk : k < n) (x : Int) :
    w.cell? ⟨g, k, none⟩ = some (.int .i64 0) ∧ w.frozen? ⟨g, k, none⟩ = false ∧ OwnI (w.setCell ⟨g, k, none⟩ (.int .i64 x)) B (.slice (some ⟨g, 0, none⟩) n n) ((A ++ [x]) ++ List.replicate (n - (k + 1)) 0) ∧ ∀ m₀ u, m₀ ≤ B → Below m₀ u w → Below m₀ u (w.setCell ⟨g, k, none⟩ (.int .i64 x)) := by
  have hlen := rep_len hA (Nat.le_of_lt hk)
  have h' : w.ownsRow B 3 1 (.slice (some ⟨g, 0, none⟩) n n) n (cellsI (A ++ List.replicate (n - k) 0)) := by
    unfold OwnI at h
    rwa [hlen] at h
  have hgb := (World.ownsRow.lt h' g rfl).1
  refine ⟨?_, World.ownsRow.frozenAt h' k, ?_, fun m₀ u hm hb => hb.setCell (p := ⟨g, k, none⟩) (Nat.le_trans hm hgb) _⟩
  · rw [World.ownsRow.cellAt h' k (by omega)]
    have : (A ++ List.replicate (n - k) 0)[k]? = some 0 := by
      rw [List.getElem?_append_right (by omega), hA, Nat.sub_self, List.getElem?_replicate, if_pos (by omega)]
    unfold cellsI; rw [List.getElem?_map, this]; rfl
  · have h2 := (World.ownsRow.stored h' k (.int .i64 x)).1
    unfold OwnI
    rw [← put_rep A n k x hA hk, List.length_set, hlen]
    have e : (cellsI (A ++ List.replicate (n - k) 0)).set k (.int .i64 x) = cellsI ((A ++ List.replicate (n - k) 0).set k x) := by
      unfold cellsI; rw [List.map_set]
    rw [← e]
    exact h2

def stU : St := ⟨true, false, false⟩
def stV : St := ⟨false, true, false⟩
theorem mv_quote (r : List UInt8) : marksV st0 (34 :: r) = 1 :: marksV stU r := rfl
theorem mv_angle (r : List UInt8) : marksV st0 (60 :: r) = 0 :: marksV stV r := rfl
theorem mv_other {c : UInt8} (h1 : c ≠ 34) (h2 : c ≠ 60) (r : List UInt8) : marksV st0 (c :: r) = 0 :: marksV st0 r := by
  have e1 : outB st0 c = true := by simpa [outB, st0] using h1
  have e2 : stepS st0 c = st0 := by simp [stepS, st0, h1, h2]
  rw [marksV, e2]
  unfold markV
  rw [e1, if_pos rfl]
theorem mv_q_end (r : List UInt8) : marksV stU (34 :: r) = 1 :: marksV st0 r := rfl
theorem mv_q_esc (d : UInt8) (r : List UInt8) : marksV stU (92 :: d :: r) = 1 :: 1 :: marksV stU r := rfl
theorem mv_q_esc1 : marksV stU [92] = 1 :: marksV stU [] := rfl
theorem mv_q_other {c : UInt8} (h1 : c ≠ 34) (h2 : c ≠ 92) (r : List UInt8) : marksV stU (c :: r) = 1 :: marksV stU r := by
  have e1 : outB stU c = false := rfl
  have e2 : stepS stU c = stU := by simp [stepS, stU, h1, h2]
  rw [marksV, e2]
  rfl
theorem mv_a_end (r : List UInt8) : marksV stV (62 :: r) = 2 :: marksV st0 r := rfl
theorem mv_a_other {c : UInt8} (h1 : c ≠ 62) (r : List UInt8) : marksV stV (c :: r) = 2 :: marksV stV r := by
  have e2 : stepS stV c = stV := by simp [stepS, stV, h1]
  rw [marksV, e2]
  rfl

end Go.Proofs.YtifjibgnjjiggaaGreatDoor
end

/- The document's marks: the walk. -/
set_option linter.unusedVariables false
set_option linter.unusedSimpArgs false
section
namespace Go.Proofs.YtifjibgnjjiggaaGreatDoor
open Go.RowKit

set_option maxRecDepth 100000 in
set_option maxHeartbeats 8000000 in
theorem marks_any (s : List UInt8) (w : World) (hl : s.length ≤ 1000000) :
    Calls Tryz.prog 16 #[.string (bs s)] w fun e w' => (∃ v, e = .returned v ∧ OwnI w' w.heap.size v (marksV st0 s)) ∧ Below w.heap.size w w' := by
  have hmk := run_make_row' (P := Tryz.prog) 35 3 (.int .i64 0) 8 Tryz.underlying35 info_int rfl .i64 .i64 s.length (by omega) (by omega)
  obtain ⟨M, hM⟩ : ∃ M, marksV st0 s = M := ⟨_, rfl⟩
  rw [hM]
  have HM := Lib.hid hM
  clear hM
  go_enter Tryz.func16, Tryz.ntmps16
  go_wp2
  obtain ⟨w0, hw0⟩ : ∃ w0, w.alloc (.cells (madeCells #[Value.int .i64 0] s.length) 3) = w0 := ⟨_, rfl⟩
  have o0 : OwnI w0 w.heap.size (.slice (some ⟨w.heap.size, 0, none⟩) s.length s.length) (List.replicate s.length 0) := by rw [← hw0]; exact OwnI.made w _ _ (Nat.le_refl _) (by unfold maxLen; omega)
  have b0 : Below w.heap.size w w0 := by rw [← hw0]; exact (Below.refl _ _).alloc (Nat.le_refl _) _
  rw [hw0]
  clear hw0 hmk
  obtain ⟨g, hg⟩ : ∃ g, w.heap.size = g := ⟨_, rfl⟩
  rw [hg] at o0 b0 ⊢
  obtain ⟨n, hn⟩ : ∃ n, s.length = n := ⟨_, rfl⟩
  rw [hn] at o0 hl ⊢
  have HN := Lib.hid hn
  go_loopw [4] (fun i wr => ∃ (k : Nat) (A : List Int), k ≤ n ∧ i = .int .i64 k ∧ A.length = k ∧ OwnI wr g (.slice (some ⟨g, 0, none⟩) n n) (A ++ List.replicate (n - k) 0) ∧ Hid (A ++ marksV st0 (s.drop k) = M) ∧ Below g w wr) (fun i _ => n - (intOf i).toNat)
  case atStart => exact ⟨0, [], Nat.zero_le _, rfl, rfl, by simpa using o0, by show _ = _; rw [← HM.out]; simp, b0⟩
  case round =>
    clear o0 b0
    obtain ⟨k, A, hk, rfl, hA, hown, hd, hB⟩ := hrel
    by_cases hlt : k < n
    · obtain ⟨c, hc⟩ : ∃ c, (bs s)[k]'(by rw [bs_size]; omega) = c := ⟨_, rfl⟩
      have hc' : s[k]? = some c := List.getElem?_eq_some_iff.2 ⟨by omega, hc⟩
      have h1 := hd.out
      rw [drop_at hc'] at h1
      have hlt' : (k : Int) < n := by omega
      by_cases h34 : c = 34
      · subst h34
        obtain ⟨c0, f0, o1, b1⟩ := hown.put hA hlt 1
        rw [mv_quote] at h1
        have H1 := Lib.hid h1
        have HB := b1 g w (Nat.le_refl _) hB
        clear h1 hd hc' hown b1 hB
        go_wp2
        obtain ⟨w1, hw1⟩ : ∃ w1, wr.setCell ⟨g, k, none⟩ (.int .i64 1) = w1 := ⟨_, rfl⟩
        rw [hw1] at o1 HB ⊢
        clear hw1 c0 f0
        go_loopw [4] (fun i wr => ∃ (j : Nat) (A : List Int), k < j ∧ j ≤ n ∧ i = .int .i64 j ∧ A.length = j ∧ OwnI wr g (.slice (some ⟨g, 0, none⟩) n n) (A ++ List.replicate (n - j) 0) ∧ Hid (A ++ marksV stU (s.drop j) = M) ∧ Below g w wr) (fun i _ => n - (intOf i).toNat)
        case atStart => exact ⟨k + 1, A ++ [1], by omega, by omega, by go_num, by simp; omega, o1, by show _ = _; rw [← H1.out]; simp, HB⟩
        case round =>
          clear H1 HB o1
          obtain ⟨j, A, hkj, hj, rfl, hA, hown, hd, hB⟩ := hrel
          by_cases hlt : j < n
          · obtain ⟨c, hc⟩ : ∃ c, (bs s)[j]'(by rw [bs_size]; omega) = c := ⟨_, rfl⟩
            have hc' : s[j]? = some c := List.getElem?_eq_some_iff.2 ⟨by omega, hc⟩
            have h1 := hd.out
            rw [drop_at hc'] at h1
            have hlt' : (j : Int) < n := by omega
            obtain ⟨c0, f0, o1, b1⟩ := hown.put hA hlt 1
            have HB := b1 g w (Nat.le_refl _) hB
            by_cases h34 : c = 34
            · subst h34
              rw [mv_q_end] at h1
              have H1 := Lib.hid h1
              clear h1 hd hc' hown b1 hB
              go_wp2
              go_roundw
              case rel => exact ⟨j + 1, A ++ [1], by omega, by go_num, by simp; omega, o1, by show _ = _; rw [← H1.out]; simp, HB⟩
              case measure => simp [intOf]; omega
            · obtain ⟨n1, n2⟩ := chr_ne (d := 34) (n := 34) rfl h34
              by_cases h92 : c = 92
              · subst h92
                by_cases hlast : j + 1 = n
                · have hdn : s.drop (j + 1) = [] := by rw [hlast, ← HN.out, List.drop_length]
                  rw [hdn, mv_q_esc1] at h1
                  have H1 := Lib.hid h1
                  have hke : ¬ ((j : Int) + 1 < (n : Int)) := by omega
                  clear h1 hd hc' hown b1 hB
                  go_wp2
                  go_roundw
                  case rel => exact ⟨j + 1, A ++ [1], by omega, by omega, by go_num, by simp; omega, o1, by show _ = _; rw [hdn, ← H1.out]; simp, HB⟩
                  case measure => simp [intOf]; omega
                · have hlt2 : j + 1 < n := by omega
                  obtain ⟨d, hd2⟩ : ∃ d, s[j + 1]? = some d := ⟨_, List.getElem?_eq_getElem (by omega)⟩
                  rw [drop_at hd2, mv_q_esc] at h1
                  have H1 := Lib.hid h1
                  have hke : ((j : Int) + 1 < (n : Int)) := by omega
                  obtain ⟨c2, f2, o2, b2⟩ := o1.put (by simp; omega) hlt2 1
                  have HB2 := b2 g w (Nat.le_refl _) HB
                  clear h1 hd hc' hown b1 hB hd2 b2 HB o1
                  go_wp2
                  go_roundw
                  case rel => exact ⟨j + 2, (A ++ [1]) ++ [1], by omega, by omega, by go_num, by simp; omega, o2, by show _ = _; rw [← H1.out]; simp, HB2⟩
                  case measure => simp [intOf]; omega
              · obtain ⟨m1, m2⟩ := chr_ne (d := 92) (n := 92) rfl h92
                rw [mv_q_other h34 h92] at h1
                have H1 := Lib.hid h1
                clear h1 hd hc' hown b1 hB h34 h92
                go_wp2
                go_roundw
                case rel => exact ⟨j + 1, A ++ [1], by omega, by omega, by go_num, by simp; omega, o1, by show _ = _; rw [← H1.out]; simp, HB⟩
                case measure => simp [intOf]; omega
          · obtain rfl : j = n := by omega
            have hdn : s.drop j = [] := by rw [← HN.out, List.drop_length]
            have h1 := hd.out
            rw [hdn] at h1
            have H1 := Lib.hid h1
            clear h1 hd
            go_wp2
            go_roundw
            case rel => exact ⟨j, A, by omega, rfl, hA, hown, by show _ = _; rw [hdn, ← H1.out]; rfl, hB⟩
            case measure => simp [intOf]; omega
      · obtain ⟨n1, n2⟩ := chr_ne (d := 34) (n := 34) rfl h34
        by_cases h60 : c = 60
        · subst h60
          rw [mv_angle] at h1
          have H1 := Lib.hid h1
          rw [skip_rep A n k hlt] at hown
          clear h1 hd hc' h34
          go_wp2
          go_loopw [4] (fun i wr => ∃ (j : Nat) (A : List Int), k < j ∧ j ≤ n ∧ i = .int .i64 j ∧ A.length = j ∧ OwnI wr g (.slice (some ⟨g, 0, none⟩) n n) (A ++ List.replicate (n - j) 0) ∧ Hid (A ++ marksV stV (s.drop j) = M) ∧ Below g w wr) (fun i _ => n - (intOf i).toNat)
          case atStart => exact ⟨k + 1, A ++ [0], by omega, by omega, by go_num, by simp; omega, hown, by show _ = _; rw [← H1.out]; simp, hB⟩
          case round =>
            clear H1 hown hB hc n1 n2
            obtain ⟨j, A, hkj, hj, rfl, hA, hown, hd, hB⟩ := hrel
            by_cases hlt : j < n
            · obtain ⟨c, hc⟩ : ∃ c, (bs s)[j]'(by rw [bs_size]; omega) = c := ⟨_, rfl⟩
              have hc' : s[j]? = some c := List.getElem?_eq_some_iff.2 ⟨by omega, hc⟩
              have h1 := hd.out
              rw [drop_at hc'] at h1
              have hlt' : (j : Int) < n := by omega
              obtain ⟨c0, f0, o1, b1⟩ := hown.put hA hlt 2
              have HB := b1 g w (Nat.le_refl _) hB
              by_cases h62 : c = 62
              · subst h62
                rw [mv_a_end] at h1
                have H1 := Lib.hid h1
                clear h1 hd hc' hown b1 hB
                go_wp2
                go_roundw
                case rel => exact ⟨j + 1, A ++ [2], by omega, by go_num, by simp; omega, o1, by show _ = _; rw [← H1.out]; simp, HB⟩
                case measure => simp [intOf]; omega
              · obtain ⟨m1, m2⟩ := chr_ne (d := 62) (n := 62) rfl h62
                rw [mv_a_other h62] at h1
                have H1 := Lib.hid h1
                clear h1 hd hc' hown b1 hB h62
                go_wp2
                go_roundw
                case rel => exact ⟨j + 1, A ++ [2], by omega, by omega, by go_num, by simp; omega, o1, by show _ = _; rw [← H1.out]; simp, HB⟩
                case measure => simp [intOf]; omega
            · obtain rfl : j = n := by omega
              have hdn : s.drop j = [] := by rw [← HN.out, List.drop_length]
              have h1 := hd.out
              rw [hdn] at h1
              have H1 := Lib.hid h1
              clear h1 hd
              go_wp2
              go_roundw
              case rel => exact ⟨j, A, by omega, rfl, hA, hown, by show _ = _; rw [hdn, ← H1.out]; rfl, hB⟩
              case measure => simp [intOf]; omega
        · obtain ⟨m1, m2⟩ := chr_ne (d := 60) (n := 60) rfl h60
          rw [mv_other h34 h60] at h1
          have H1 := Lib.hid h1
          rw [skip_rep A n k hlt] at hown
          clear h1 hd hc' h34 h60
          go_wp2
          go_roundw
          case rel => exact ⟨k + 1, A ++ [0], by omega, by go_num, by simp; omega, hown, by show _ = _; rw [← H1.out]; simp, hB⟩
          case measure => simp [intOf]; omega
    · obtain rfl : k = n := by omega
      have h1 := hd.out
      rw [← HN.out, List.drop_length, marksV, List.append_nil] at h1
      subst h1
      rw [Nat.sub_self, List.replicate_zero, List.append_nil] at hown
      clear hd
      go_wp2
      go_ret
      exact ⟨⟨_, rfl, by rw [hg]; exact hown⟩, by rw [hg]; exact hB⟩

end Go.Proofs.YtifjibgnjjiggaaGreatDoor
end

/- The document's one: the walk. -/
set_option linter.unusedVariables false
set_option linter.unusedSimpArgs false
section
namespace Go.Proofs.YtifjibgnjjiggaaGreatDoor
open Go.RowKit Go

theorem braS_runs : ∀ (a : List UInt8) (s : St) (r : List UInt8), braS s (a ++ r) = match braS s a with | some i => some i | none => (braS (runS s a) r).map (· + a.length)
  | [], s, r => by simp [braS, runS]
  | c :: a, s, r => by
    rw [List.cons_append, braS, braS]
    by_cases h : (outB s c && c == 60) = true
    · rw [if_pos h, if_pos h]
    · rw [if_neg h, if_neg h, braS_runs a]
      cases braS (stepS s c) a with
      | some i => rfl
      | none =>
        simp only [Option.map_none]
        show _ = Option.map _ (braS (runS s (c :: a)) r)
        rw [show runS s (c :: a) = runS (stepS s c) a from rfl, Option.map_map]
        congr 1
/-- the address behind the first k bytes -/
def mkA (nm q : List UInt8) (k : Nat) : Adr := match lastK q k with | none => ⟨nm, q, []⟩ | some j => ⟨nm, q.take j, q.drop (j + 1)⟩
theorem mkA_yes (nm q : List UInt8) (k : Nat) (h : q.getD k 0 = 64) : mkA nm q (k + 1) = ⟨nm, q.take k, q.drop (k + 1)⟩ := by unfold mkA; rw [lastK, if_pos h]
theorem mkA_no (nm q : List UInt8) (k : Nat) (h : q.getD k 0 ≠ 64) : mkA nm q (k + 1) = mkA nm q k := by unfold mkA; rw [lastK, if_neg h]
theorem mkA_name (nm q : List UInt8) (k : Nat) : (mkA nm q k).name = nm := by unfold mkA; split <;> rfl
theorem mkA_all (nm q : List UInt8) : mkA nm q q.length = mailL2 nm q := by rw [mailL2_last]; rfl
theorem upTo_no {c : UInt8} (h : c ≠ 62) (r : List UInt8) : upTo62 (c :: r) = c :: upTo62 r := by unfold upTo62; rw [List.takeWhile_cons, if_pos (by simpa using h)]
theorem upTo_yes (r : List UInt8) : upTo62 (62 :: r) = [] := rfl

set_option maxRecDepth 100000 in
set_option maxHeartbeats 8000000 in
theorem refOne_any (p : List UInt8) (w : World) (hl : p.length ≤ 1000000) : Calls Tryz.prog 18 #[.string (bs p)] w fun e w' => e = .returned (adrV (adrL p)) ∧ Below w.heap.size w w' := by
  obtain ⟨R, hR⟩ : ∃ R, adrL p = R := ⟨_, rfl⟩
  rw [hR]
  have HR := Lib.hid hR
  clear hR
  go_enter Tryz.func18, Tryz.ntmps18
  go_wp2_with fail
  obtain ⟨w0, hw0⟩ : ∃ w0, (w.alloc (.cells #[.string ⟨#[]⟩, .string ⟨#[]⟩, .string ⟨#[]⟩] 30)).alloc (.cells #[.string ⟨#[]⟩, .string ⟨#[]⟩, .string ⟨#[]⟩] 30) = w0 := ⟨_, rfl⟩
  have s2 : AdrAt w0 w.heap.size ⟨[], [], []⟩ := by rw [← hw0]; exact (heap_old _ _ _ (by simp)).trans (heap_new _ _)
  have s3 : AdrAt w0 (w.heap.size + 1) ⟨[], [], []⟩ := by
    rw [← hw0, ← size_alloc w (.cells #[.string ⟨#[]⟩, .string ⟨#[]⟩, .string ⟨#[]⟩] 30)]
    exact heap_new _ _
  have b0 : Below w.heap.size w w0 := by rw [← hw0]; exact ((Below.refl _ _).alloc (Nat.le_refl _) _).alloc (by simp) _
  rw [hw0]
  clear hw0
  obtain ⟨g2, hg2⟩ : ∃ g, w.heap.size = g := ⟨_, rfl⟩
  rw [hg2] at s2 s3 b0 ⊢
  obtain ⟨g3, hg3⟩ : ∃ g, g2 + 1 = g := ⟨_, rfl⟩
  rw [hg3] at s3 ⊢
  have hne : g2 ≠ g3 := by omega
  have h23 : g2 ≤ g3 := by omega
  refine (marks_any p _ hl).mono ?_
  rintro e w1 ⟨⟨mv, rfl, hmv⟩, hb1⟩
  have s2' := s2.below hb1
  have s3' := s3.below hb1
  have hzz := s2.lt
  have B1 : Below g2 w w1 := b0.trans (hb1.mono (by omega))
  have hg31 := s3'.lt
  obtain ⟨om, nm0, cm, rfl⟩ : ∃ a n c, mv = .slice a n c := by
    rcases hmv.2 with ⟨rfl, h0⟩ | ⟨g, cap, cur, rfl, _⟩
    · exact ⟨_, _, _, rfl⟩
    · exact ⟨_, _, _, rfl⟩
  clear s2 s3 b0 hb1 hzz
  go_upto_block 0 with fail
  go_cut [0, 5, 6] from 11 to 52 (fun v0 _ _ wc => ∃ nm q : List UInt8, q.length ≤ p.length ∧ v0 = .string (bs q) ∧ AdrAt wc g3 ⟨nm, [], []⟩ ∧ AdrAt wc g2 ⟨[], [], []⟩ ∧ Below g2 w wc ∧ Hid (mailL2 nm q = R))
  case first =>
    go_wp2_with fail
    go_loopw [0, 5] (fun v0 i wr => ∃ k : Nat, k ≤ p.length ∧ v0 = .string (bs p) ∧ i = .int .i64 k ∧ wr = w1 ∧ Hid (braS st0 (p.take k) = none)) (fun _ i _ => p.length - (intOf i).toNat)
    case atStart => exact ⟨0, Nat.zero_le _, rfl, rfl, rfl, rfl⟩
    case round =>
      obtain ⟨k, hk, rfl, rfl, rfl, hbr⟩ := hrel
      by_cases hlt : k < p.length
      · obtain ⟨c, hc⟩ : ∃ c, (bs p)[k]'(by rw [bs_size]; exact hlt) = c := ⟨_, rfl⟩
        have hc' : p[k]? = some c := List.getElem?_eq_some_iff.2 ⟨hlt, hc⟩
        have hpe : p = p.take k ++ c :: p.drop (k + 1) := by rw [← drop_at hc', List.take_append_drop]
        have hmk := marksV_at (p.take k) st0 c (p.drop (k + 1))
        rw [← hpe, List.length_take, show min k p.length = k by omega] at hmk
        obtain ⟨s, hs⟩ : ∃ s, runS st0 (p.take k) = s := ⟨_, rfl⟩
        rw [hs] at hmk
        have hz := mark_zero s c
        obtain ⟨x, hx⟩ : ∃ x, markV s c = x := ⟨_, rfl⟩
        rw [hx] at hz hmk
        obtain ⟨g, rfl, rfl⟩ : ∃ g, om = some ⟨g, 0, none⟩ ∧ nm0 = p.length := by
          rcases hmv.parts (by intro h; rw [h] at hmk; simp at hmk) with ⟨g, cap, h, _⟩
          rw [marksV_len] at h
          simp at h
          exact ⟨g, h.1, h.2.1⟩
        have cm0 := hmv.cell k x hmk
        have hall := braS_runs (p.take k) st0 (c :: p.drop (k + 1))
        rw [← hpe, hbr.out, hs, List.length_take, show min k p.length = k by omega] at hall
        have hone := braS_runs (p.take k) st0 [c]
        rw [hbr.out, hs] at hone
        have htk : p.take (k + 1) = p.take k ++ [c] := by rw [List.take_add_one, hc']; rfl
        rw [← htk] at hone
        have hlt' : (k : Int) < p.length := by omega
        have HALL := Lib.hid hall
        have HONE := Lib.hid hone
        clear hpe hmk hx hall hone htk hs hbr
        cases ho : outB s c with
        | false =>
          rw [ho] at hz
          have hno : Hid (braS st0 (p.take (k + 1)) = none) := by
            show _ = _
            rw [HONE.out]
            simp [braS, ho]
          clear ho HALL HONE
          go_wp2
          go_roundw
          case rel => exact ⟨k + 1, by omega, by trivial, by go_num, by trivial, hno⟩
          case measure => simp [intOf]; omega
        | true =>
          rw [ho] at hz
          by_cases h60 : c = 60
          · subst h60
            have hR1 : braS st0 p = some k := by
              rw [HALL.out]
              simp [braS, ho]
            have hR2 := HR.out
            unfold adrL at hR2
            rw [hR1] at hR2
            simp only at hR2
            obtain ⟨nm, hnm⟩ : ∃ nm, meantL (trimB (p.take k)) = nm := ⟨_, rfl⟩
            rw [hnm] at hR2
            have HNM := Lib.hid hnm
            have HR2 := Lib.hid hR2
            have htl := trimB_le (p.take k)
            rw [List.length_take] at htl
            have HTL := Lib.hid htl
            have hm1 := run_to p k (by omega)
            clear hR1 hR2 hnm htl ho HALL HONE HR hc'
            go_wp2_with fail
            refine (refTrim11_any (p.take k) _ (by rw [List.length_take]; omega)).mono ?_
            rintro e w2 ⟨rfl, rfl⟩
            go_wp2_with fail
            refine (refMeant_any (trimB (p.take k)) _ (by have := HTL.out; omega)).mono ?_
            rintro e w3 ⟨rfl, hb3⟩
            rw [HNM.out]
            have v3 := s3'.below hb3
            have v2 := s2'.below hb3
            have B3 : Below g2 w w3 := B1.trans (hb3.mono (by omega))
            obtain ⟨c0, c1, c2, f0, f1, f2⟩ := v3.cells
            clear s2' s3' hb3 B1 hmv cm0 hm1
            go_wp2
            have x3 := v3.set0 nm
            have x2 := v2.far hne 0 (.string (bs nm))
            have BX := below_cell B3 h23 0 (.string (bs nm))
            obtain ⟨w4, hw4⟩ : ∃ w4, w3.setCell ⟨g3, 0, none⟩ (.string (bs nm)) = w4 := ⟨_, rfl⟩
            rw [hw4] at x2 x3 BX ⊢
            clear hw4 c0 c1 c2 f0 f1 f2 v2 v3 B3
            go_loopw [6] (fun i wr => ∃ j : Nat, k + 1 ≤ j ∧ j ≤ p.length ∧ i = .int .i64 j ∧ wr = w4 ∧ Hid ((p.drop (k + 1)).take (j - (k + 1)) ++ upTo62 (p.drop j) = upTo62 (p.drop (k + 1)))) (fun i _ => p.length - (intOf i).toNat)
            case atStart => exact ⟨k + 1, Nat.le_refl _, by omega, by go_num, rfl, by show _ = _; simp⟩
            case round =>
              obtain ⟨j, hj1, hj, rfl, rfl, hu⟩ := hrel
              have hrm := run_mid p (k + 1) j hj1 hj
              rw [show ((k + 1 : Nat) : Int) = (k : Int) + 1 by omega] at hrm
              by_cases hjl : j < p.length
              · obtain ⟨d, hd⟩ : ∃ d, (bs p)[j]'(by rw [bs_size]; exact hjl) = d := ⟨_, rfl⟩
                have hd' : p[j]? = some d := List.getElem?_eq_some_iff.2 ⟨hjl, hd⟩
                have hu2 := hu.out
                rw [drop_at hd'] at hu2
                have hjl' : (j : Int) < p.length := by omega
                by_cases h62 : d = 62
                · subst h62
                  rw [upTo_yes, List.append_nil] at hu2
                  rw [hu2] at hrm
                  have HU := Lib.hid (upTo_le (p.drop (k + 1)))
                  clear hu hu2 hd'
                  go_wp2
                  go_meet
                  case rel => exact ⟨nm, _, by have := HU.out; rw [List.length_drop] at this; omega, rfl, x3, x2, BX, HR2.out⟩
                · obtain ⟨n1, n2⟩ := chr_ne (d := 62) (n := 62) rfl h62
                  rw [upTo_no h62] at hu2
                  have hu3 : Hid ((p.drop (k + 1)).take (j + 1 - (k + 1)) ++ upTo62 (p.drop (j + 1)) = upTo62 (p.drop (k + 1))) := by
                    show _ = _
                    rw [take_at hj1 hd', ← hu2]
                    simp
                  clear hu hu2 hd' h62 hrm
                  go_wp2
                  go_roundw
                  case rel => exact ⟨j + 1, by omega, by omega, by go_num, by trivial, hu3⟩
                  case measure => simp [intOf]; omega
              · obtain rfl : j = p.length := by omega
                have hu2 := hu.out
                rw [List.drop_length, show upTo62 [] = [] from rfl, List.append_nil] at hu2
                rw [hu2] at hrm
                have HU := Lib.hid (upTo_le (p.drop (k + 1)))
                clear hu hu2
                go_wp2
                go_meet
                case rel => exact ⟨nm, _, by have := HU.out; rw [List.length_drop] at this; omega, rfl, x3, x2, BX, HR2.out⟩
          · obtain ⟨n1, n2⟩ := chr_ne (d := 60) (n := 60) rfl h60
            have hno : Hid (braS st0 (p.take (k + 1)) = none) := by
              show _ = _
              rw [HONE.out]
              simp [braS, h60]
            clear ho HALL HONE h60
            go_wp2
            go_roundw
            case rel => exact ⟨k + 1, by omega, by trivial, by go_num, by trivial, hno⟩
            case measure => simp [intOf]; omega
      · obtain rfl : k = p.length := by omega
        have hR1 := hbr.out
        rw [List.take_length] at hR1
        have hR2 := HR.out
        unfold adrL at hR2
        rw [hR1] at hR2
        have HR2 : Hid (mailL2 [] p = R) := hR2
        clear hR1 hR2 hbr
        go_wp2
        go_meet
        case rel => exact ⟨[], p, Nat.le_refl _, rfl, s3', s2', B1, HR2⟩
  case rest =>
    obtain ⟨nm, q, hq, rfl, t3, t2, BT, hd⟩ := hcut
    clear s2' s3' B1 hmv HR hg31
    have HD : Hid (mkA nm q q.length = R) := by show _ = _; rw [mkA_all]; exact hd.out
    clear hd
    obtain ⟨c0, c1, c2, f0, f1, f2⟩ := t3.cells
    go_wp2
    have y3 := t3.set1 q
    have y2 := t2.far hne 1 (.string (bs q))
    have BY := below_cell BT h23 1 (.string (bs q))
    obtain ⟨T, hT⟩ : ∃ T, wc.setCell ⟨g3, 1, none⟩ (.string (bs q)) = T := ⟨_, rfl⟩
    rw [hT] at y2 y3 BY ⊢
    clear hT c0 c1 c2 f0 f1 f2 t2 t3 BT
    go_loopw [7] (fun i wr => ∃ k : Nat, k ≤ q.length ∧ i = .int .i64 k ∧ AdrAt wr g3 (mkA nm q k) ∧ AdrAt wr g2 ⟨[], [], []⟩ ∧ Below g2 w wr) (fun i _ => q.length - (intOf i).toNat)
    case atStart => exact ⟨0, Nat.zero_le _, rfl, y3, y2, BY⟩
    case round =>
      clear y2 y3 BY
      obtain ⟨k, hk, rfl, t3, t2, BT⟩ := hrel
      obtain ⟨c0, c1, c2, f0, f1, f2⟩ := t3.cells
      by_cases hlt : k < q.length
      · obtain ⟨c, hc⟩ : ∃ c, (bs q)[k]'(by rw [bs_size]; exact hlt) = c := ⟨_, rfl⟩
        have hc' : q[k]? = some c := List.getElem?_eq_some_iff.2 ⟨hlt, hc⟩
        have hgd : q.getD k 0 = c := by simp [List.getD, hc']
        have hlt' : (k : Int) < q.length := by omega
        by_cases h64 : c = 64
        · subst h64
          have hm1 := run_to q k hk
          have hm2 := run_from q (k + 1) (by omega)
          rw [show ((k + 1 : Nat) : Int) = (k : Int) + 1 by omega] at hm2
          have HY := Lib.hid (mkA_yes nm q k hgd)
          have HN := Lib.hid (mkA_name nm q k)
          clear hc' hgd
          go_wp2
          go_region
          have u3 := (t3.set1 (q.take k)).set2 (q.drop (k + 1))
          have u2 := (t2.far hne 1 (.string (bs (q.take k)))).far hne 2 (.string (bs (q.drop (k + 1))))
          have BU := (below_cell (below_cell BT h23 1 (.string (bs (q.take k)))) h23 2 (.string (bs (q.drop (k + 1))))).drew
          rw [HN.out] at u3
          dsimp only at u3
          rw [← HY.out] at u3
          clear c0 c1 c2 f0 f1 f2 hm1 hm2 t2 t3 BT
          go_wp2
          go_roundw
          case rel => exact ⟨k + 1, by omega, by go_num, u3, u2, BU⟩
          case measure => simp [intOf]; omega
        · obtain ⟨n1, n2⟩ := chr_ne (d := 64) (n := 64) rfl h64
          have HN := Lib.hid (mkA_no nm q k (by rw [hgd]; exact h64))
          clear hc' hgd h64
          go_wp2
          go_roundw
          case rel => exact ⟨k + 1, by omega, by go_num, by rw [HN.out]; exact t3, t2, BT⟩
          case measure => simp [intOf]; omega
      · obtain rfl : k = q.length := by omega
        rw [HD.out] at t3 c0 c1 c2
        obtain ⟨k0, k1, k2, e0, e1, e2⟩ := t2.cells
        go_wp2
        obtain ⟨r2, rB⟩ := adr_fin t2 BT R
        clear k0 k1 k2 e0 e1 e2
        obtain ⟨w7, hw7⟩ : ∃ w7, ((wr.setCell ⟨g2, 0, none⟩ (.string (bs R.name))).setCell ⟨g2, 1, none⟩ (.string (bs R.loc))).setCell ⟨g2, 2, none⟩ (.string (bs R.dom)) = w7 := ⟨_, rfl⟩
        rw [hw7] at r2 rB ⊢
        obtain ⟨k0, k1, k2, e0, e1, e2⟩ := r2.cells
        refine bodyPost_ret (v := adrV R) (by simp [results, Tryz.results18, go_sem, k0, k1, k2, adrV]) rfl ⟨rfl, rB⟩

end Go.Proofs.YtifjibgnjjiggaaGreatDoor
end

/- The document's Addresses: the walk. -/
set_option linter.unusedVariables false
set_option linter.unusedSimpArgs false
section
namespace Go.Proofs.YtifjibgnjjiggaaGreatDoor
open Go.RowKit Go

theorem OwnI.not_adr {w : World} {B B' : Nat} {u v : Value} {l : List Int} {ad : List Adr} (h : OwnI w B u l) (k : OwnA w B' v ad) : u.ownBlock = none ∨ u.ownBlock ≠ v.ownBlock := by
  rcases h.2 with ⟨rfl, _⟩ | ⟨g, cap, cur, rfl, _, hg, _⟩
  · exact .inl rfl
  · right
    intro e
    rcases k.2 with ⟨rfl, _⟩ | ⟨g', cap', cur', rfl, _, hg', _⟩
    · cases e
    · obtain rfl : g = g' := by simpa [Value.ownBlock] using e
      rw [hg] at hg'
      simp at hg'
theorem OwnI.grown {w w' : World} {B B' : Nat} {u v : Value} {l : List Int} {ad : List Adr} {o : Obj} (h : OwnI w B u l) (k : OwnA w B' v ad) (hg : (w.alloc o).grownBy w' v.ownBlock) : OwnI w' B u l :=
  World.ownsRow.kept (World.ownsRow.alloc h o) hg (h.not_adr k)

set_option maxRecDepth 100000 in
set_option maxHeartbeats 8000000 in
theorem refAddresses_any (v : List UInt8) (w : World) (hl : v.length ≤ 900000) : Calls Tryz.prog 7 #[.string (bs v)] w fun e w' => (∃ x, e = .returned x ∧ OwnA w' w.heap.size x (adrsL v)) ∧ Below w.heap.size w w' := by
  obtain ⟨i0, hi0, hz0, hz1, hz2⟩ := info_parts info_adr
  rw [adrsL_col]
  obtain ⟨P, hP⟩ : ∃ P, piecesL v = P := ⟨_, rfl⟩
  rw [hP]
  have HP := Lib.hid hP
  clear hP
  go_enter Tryz.func7, Tryz.ntmps7
  go_wp2_with fail
  have o0 : OwnA (w.alloc (.cells #[] 30)) w.heap.size (.slice (some ⟨w.heap.size, 0, none⟩) 0 0) [] := World.ownsRow_lit w #[] 0 (Nat.le_refl _) (by decide) rfl
  have b0 : Below w.heap.size w (w.alloc (.cells #[] 30)) := (Below.refl _ _).alloc (Nat.le_refl _) _
  refine (marks_any v _ (by omega)).mono ?_
  rintro e w1 ⟨⟨mv, rfl, hmv⟩, hb1⟩
  obtain ⟨B, hB0⟩ : ∃ B, w.heap.size = B := ⟨_, rfl⟩
  have o1 := o0.below hb1
  have b1 := b0.trans (hb1.mono (by simp))
  have hmv1 : OwnI w1 B mv (marksV st0 v) := by
    refine ⟨hmv.1, ?_⟩
    rcases hmv.2 with h0 | ⟨g, cap, cur, e, h1, r⟩
    · exact .inl h0
    · exact .inr ⟨g, cap, cur, e, by simp at h1; omega, r⟩
  rw [hB0] at o1 b1
  obtain ⟨om, nm0, cm, rfl⟩ : ∃ a n c, mv = .slice a n c := by
    rcases hmv.2 with ⟨rfl, h0⟩ | ⟨g, cap, cur, rfl, _⟩
    · exact ⟨_, _, _, rfl⟩
    · exact ⟨_, _, _, rfl⟩
  rw [hB0]
  clear o0 b0 hb1 hmv
  go_wp2
  go_loopw [3, 5, 6] (fun out fr i wr => ∃ (k f : Nat) (s : St) (ls : List (List UInt8)), k ≤ v.length + 1 ∧ i = .int .i64 k ∧ fr = .int .i64 f ∧ OwnA wr B out (colL ls) ∧ OwnI wr B (.slice om nm0 cm) (marksV st0 v) ∧ Below B w wr ∧ ((k ≤ v.length ∧ f ≤ k ∧ runS st0 (v.take k) = s ∧ ls ++ piecesS s ((v.drop f).take (k - f)) (v.drop k) = P) ∨ (k = v.length + 1 ∧ ls = P))) (fun _ _ i _ => v.length + 1 - (intOf i).toNat)
  case atStart => exact ⟨0, 0, st0, [], Nat.zero_le _, rfl, rfl, o1, hmv1, b1, .inl ⟨Nat.zero_le _, Nat.le_refl _, rfl, by simpa [piecesL] using HP.out⟩⟩
  case round =>
    clear o1 b1 hmv1
    obtain ⟨k, f, s, ls, hk, rfl, rfl, hown, hmv, hB, hrel⟩ := hrel
    have hzr := hB.size
    rw [hB0] at hzr
    rcases hrel with ⟨hkl, hfk, hs, hd⟩ | ⟨rfl, rfl⟩
    · by_cases hlt : k < v.length
      · obtain ⟨c, hc⟩ : ∃ c, (bs v)[k]'(by rw [bs_size]; exact hlt) = c := ⟨_, rfl⟩
        have hc' : v[k]? = some c := List.getElem?_eq_some_iff.2 ⟨hlt, hc⟩
        have hpe : v = v.take k ++ c :: v.drop (k + 1) := by rw [← drop_at hc', List.take_append_drop]
        have hmk := marksV_at (v.take k) st0 c (v.drop (k + 1))
        rw [← hpe, List.length_take, show min k v.length = k by omega, hs] at hmk
        have hz := mark_zero s c
        obtain ⟨y0, hy0⟩ : ∃ y0, markV s c = y0 := ⟨_, rfl⟩
        rw [hy0] at hz hmk
        have hrun : runS st0 (v.take (k + 1)) = stepS s c := by
          rw [List.take_add_one, hc']
          show runS st0 (v.take k ++ [c]) = _
          rw [runS_snoc, hs]
        obtain ⟨g, rfl, rfl⟩ : ∃ g, om = some ⟨g, 0, none⟩ ∧ nm0 = v.length := by
          rcases hmv.parts (by intro h; rw [h] at hmk; simp at hmk) with ⟨g, cap, h, _⟩
          rw [marksV_len] at h
          simp at h
          exact ⟨g, h.1, h.2.1⟩
        have cm0 := hmv.cell k y0 hmk
        have hta := take_at hfk hc'
        rw [drop_at hc'] at hd
        have hlt' : (k : Int) < v.length := by omega
        have hle' : (k : Int) ≤ v.length := by omega
        clear hpe hmk hy0 hs
        by_cases hsep : (outB s c && c == 44) = true
        · rw [piecesS_yes hsep] at hd
          obtain ⟨hoo, h44⟩ := Bool.and_eq_true_iff.1 hsep
          obtain rfl : c = 44 := by simpa using h44
          rw [hoo] at hz
          have hm := run_mid v f k hfk (by omega)
          have hxl : ((v.drop f).take (k - f)).length ≤ v.length := by simp; omega
          obtain ⟨x, hx⟩ : ∃ x, (v.drop f).take (k - f) = x := ⟨_, rfl⟩
          rw [hx] at hm hd hxl
          have HNX : Hid (runS st0 (v.take (k + 1)) = stepS s 44 ∧ (ls ++ [x]) ++ piecesS (stepS s 44) ((v.drop (k + 1)).take (k + 1 - (k + 1))) (v.drop (k + 1)) = P) := by
            show _ ∧ _
            exact ⟨hrun, by rw [← hd]; simp⟩
          clear hx hd hrun hsep hoo h44 hc' hta
          have htl := trimB_le x
          have hcl := colL_le ls
          obtain ⟨L, hL⟩ : ∃ L, colL ls = L := ⟨_, rfl⟩
          rw [hL] at hown hcl
          have HL := Lib.hid hL
          obtain ⟨oa, oc, rfl⟩ := hown.form
          clear hL
          go_wp2_with fail
          refine (refTrim11_any x _ (by omega)).mono ?_
          rintro e w2 ⟨rfl, rfl⟩
          rcases hy : trimB x with _ | ⟨c0, t⟩
          · have hno : Hid (colL (ls ++ [x]) = L) := by
              show _ = _
              rw [colL_no (by rw [hy]; simp [neB]), HL.out]
            clear hy htl HL
            go_wp2
            go_roundw
            case rel => exact ⟨k + 1, k + 1, _, _, by omega, by go_num, by go_num, by rw [hno.out]; exact hown, hmv, hB, .inl ⟨by omega, by omega, HNX.out⟩⟩
            case measure => simp [intOf] <;> omega
          · by_cases h50 : L.length < 50
            · have hye : colL (ls ++ [x]) = L ++ [adrL (c0 :: t)] := by
                rw [colL_yes (by rw [hy]; rfl) (by rw [HL.out]; exact h50), HL.out, hy]
              rw [hy] at htl
              have h50' : (L.length : Int) < 50 := by omega
              have HYE := Lib.hid hye
              clear hy hye HL
              go_wp2_with fail
              refine (refOne_any (c0 :: t) _ (by omega)).mono ?_
              rintro e w3 ⟨rfl, hb3⟩
              obtain ⟨A, hA⟩ : ∃ A, adrL (c0 :: t) = A := ⟨_, rfl⟩
              rw [hA]
              have HYE2 := HYE.out
              rw [hA] at HYE2
              have HY := Lib.hid HYE2
              have hown3 := hown.below hb3
              have hmv3 := hmv.below hb3
              have hB3 := hB.trans (hb3.mono hzr)
              have hzx := hB3.size
              rw [hB0] at hzx
              have hnews := adr_news w3 A
              have hone := adr_one A
              clear hA HYE HYE2 hown hB hb3 hmv
              unfold adrV
              go_wp2_with (at_builtin; refine wpList_append_own _ rfl _ _ 23 rfl B 30 i0 _ 3 48 Tryz.underlying23 hi0 hz0 hz1 hz2 rfl (by decide) _ _ _ rfl (World.ownsRow.alloc hown3 _) ⟨w3.heap.size, 0, none⟩ 1 1 (cellsAdr A) rfl rfl hnews hone ?c3 ?c4 ?c5 ?_)
              case c3 => unfold maxLen; omega
              case c4 => omega
              case c5 => simp; omega
              intro v' w4 hown4 hgrow _
              have R1 : OwnA w4 B v' (L ++ [A]) := OwnA.step hown4
              have R2 : Below B w w4 := OwnA.grow hB3 hown3 hgrow hzx
              have R3 : OwnI w4 B _ _ := OwnI.grown hmv3 hown3 hgrow
              clear hown4 hgrow hown3 hnews hone hmv3
              go_wp2
              go_roundw
              case rel => exact ⟨k + 1, k + 1, _, _, by omega, by go_num, by go_num, by rw [HY.out]; exact R1, R3, R2, .inl ⟨by omega, by omega, HNX.out⟩⟩
              case measure => simp [intOf] <;> omega
            · have hno : Hid (colL (ls ++ [x]) = L) := by
                show _ = _
                rw [colL_no (by rw [HL.out]; omega), HL.out]
              have h50' : ¬ (L.length : Int) < 50 := by omega
              clear hy htl HL
              go_wp2
              go_roundw
              case rel => exact ⟨k + 1, k + 1, _, _, by omega, by go_num, by go_num, by rw [hno.out]; exact hown, hmv, hB, .inl ⟨by omega, by omega, HNX.out⟩⟩
              case measure => simp [intOf] <;> omega
        · have hsf : (outB s c && c == 44) = false := by simpa using hsep
          rw [piecesS_no hsf, ← hta] at hd
          have HNX : Hid (runS st0 (v.take (k + 1)) = stepS s c ∧ ls ++ piecesS (stepS s c) ((v.drop f).take (k + 1 - f)) (v.drop (k + 1)) = P) := ⟨hrun, hd⟩
          clear hd hrun hc' hta hsep
          by_cases h44 : c = 44
          · subst h44
            have hoo : outB s 44 = false := by
              rw [show ((44 : UInt8) == 44) = true from rfl, Bool.and_true] at hsf
              exact hsf
            rw [hoo] at hz
            have hz2 : (y0 != 0) = true := by
              show (!(y0 == 0)) = true
              rw [hz]; rfl
            clear hsf hoo
            go_wp2
            go_roundw
            case rel => exact ⟨k + 1, f, _, ls, by omega, by go_num, rfl, hown, hmv, hB, .inl ⟨by omega, by omega, HNX.out⟩⟩
            case measure => simp [intOf] <;> omega
          · obtain ⟨n1, n2⟩ := chr_ne (d := 44) (n := 44) rfl h44
            clear hsf h44 hz
            go_wp2
            go_roundw
            case rel => exact ⟨k + 1, f, _, ls, by omega, by go_num, rfl, hown, hmv, hB, .inl ⟨by omega, by omega, HNX.out⟩⟩
            case measure => simp [intOf] <;> omega
      · obtain rfl : k = v.length := by omega
        rw [List.drop_length, piecesS] at hd
        have hm := run_mid v f v.length hfk (Nat.le_refl _)
        have hxl : ((v.drop f).take (v.length - f)).length ≤ v.length := by simp <;> omega
        obtain ⟨x, hx⟩ : ∃ x, (v.drop f).take (v.length - f) = x := ⟨_, rfl⟩
        rw [hx] at hm hd hxl
        have HNX : Hid (ls ++ [x] = P) := hd
        clear hx hd hs hlt
        have htl := trimB_le x
        have hcl := colL_le ls
        obtain ⟨L, hL⟩ : ∃ L, colL ls = L := ⟨_, rfl⟩
        rw [hL] at hown hcl
        have HL := Lib.hid hL
        obtain ⟨oa, oc, rfl⟩ := hown.form
        clear hL
        go_wp2_with fail
        refine (refTrim11_any x _ (by omega)).mono ?_
        rintro e w2 ⟨rfl, rfl⟩
        rcases hy : trimB x with _ | ⟨c0, t⟩
        · have hno : Hid (colL (ls ++ [x]) = L) := by
            show _ = _
            rw [colL_no (by rw [hy]; simp [neB]), HL.out]
          clear hy htl HL
          go_wp2
          go_roundw
          case rel => exact ⟨v.length + 1, v.length + 1, st0, _, by omega, by go_num, by go_num, by rw [hno.out]; exact hown, hmv, hB, .inr ⟨rfl, HNX.out⟩⟩
          case measure => simp [intOf] <;> omega
        · by_cases h50 : L.length < 50
          · have hye : colL (ls ++ [x]) = L ++ [adrL (c0 :: t)] := by
              rw [colL_yes (by rw [hy]; rfl) (by rw [HL.out]; exact h50), HL.out, hy]
            rw [hy] at htl
            have h50' : (L.length : Int) < 50 := by omega
            have HYE := Lib.hid hye
            clear hy hye HL
            go_wp2_with fail
            refine (refOne_any (c0 :: t) _ (by omega)).mono ?_
            rintro e w3 ⟨rfl, hb3⟩
            obtain ⟨A, hA⟩ : ∃ A, adrL (c0 :: t) = A := ⟨_, rfl⟩
            rw [hA]
            have HYE2 := HYE.out
            rw [hA] at HYE2
            have HY := Lib.hid HYE2
            have hown3 := hown.below hb3
            have hmv3 := hmv.below hb3
            have hB3 := hB.trans (hb3.mono hzr)
            have hzx := hB3.size
            rw [hB0] at hzx
            have hnews := adr_news w3 A
            have hone := adr_one A
            clear hA HYE HYE2 hown hB hb3 hmv
            unfold adrV
            go_wp2_with (at_builtin; refine wpList_append_own _ rfl _ _ 23 rfl B 30 i0 _ 3 48 Tryz.underlying23 hi0 hz0 hz1 hz2 rfl (by decide) _ _ _ rfl (World.ownsRow.alloc hown3 _) ⟨w3.heap.size, 0, none⟩ 1 1 (cellsAdr A) rfl rfl hnews hone ?c3 ?c4 ?c5 ?_)
            case c3 => unfold maxLen; omega
            case c4 => omega
            case c5 => simp; omega
            intro v' w4 hown4 hgrow _
            have R1 : OwnA w4 B v' (L ++ [A]) := OwnA.step hown4
            have R2 : Below B w w4 := OwnA.grow hB3 hown3 hgrow hzx
            have R3 : OwnI w4 B _ _ := OwnI.grown hmv3 hown3 hgrow
            clear hown4 hgrow hown3 hnews hone hmv3
            go_wp2
            go_roundw
            case rel => exact ⟨v.length + 1, v.length + 1, st0, _, by omega, by go_num, by go_num, by rw [HY.out]; exact R1, R3, R2, .inr ⟨rfl, HNX.out⟩⟩
            case measure => simp [intOf] <;> omega
          · have hno : Hid (colL (ls ++ [x]) = L) := by
              show _ = _
              rw [colL_no (by rw [HL.out]; omega), HL.out]
            have h50' : ¬ (L.length : Int) < 50 := by omega
            clear hy htl HL
            go_wp2
            go_roundw
            case rel => exact ⟨v.length + 1, v.length + 1, st0, _, by omega, by go_num, by go_num, by rw [hno.out]; exact hown, hmv, hB, .inr ⟨rfl, HNX.out⟩⟩
            case measure => simp [intOf] <;> omega
    · have hgt : ¬ (((v.length + 1 : Nat) : Int) ≤ v.length) := by omega
      go_wp2
      go_ret
      exact ⟨⟨_, rfl, hown⟩, hB⟩

end Go.Proofs.YtifjibgnjjiggaaGreatDoor
end
