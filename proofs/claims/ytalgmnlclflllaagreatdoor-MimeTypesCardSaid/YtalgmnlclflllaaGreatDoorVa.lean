/- Texts of one walk, merged: XIg XIk XIl XIm XJd. -/
import Derived.Test.YtalgmnlclflllaaGreatDoorWj
import Derived.Laws.AppendOwn
import Derived.Laws.OwnMore
import Derived.Deep.AppendLies
import Derived.BigRegion

/- Rows of words that a call made (the document's reading of a content type). -/
set_option linter.unusedVariables false
set_option linter.unusedSimpArgs false
section
set_option linter.unusedVariables false
set_option linter.unusedSimpArgs false
namespace Go.Proofs.YtalgmnlclflllaaGreatDoor
open Go.RowKit Go

theorem info_wrd : (Tryz.prog.info? 87).map (fun i => (i.zero, i.size, i.bytes)) = some (some (.agg #[.int .i64 0, .string ⟨#[]⟩]), 2, 24) := by kernel_rfl

def cellsWrd (f : Wrd) : List Value := [.int .i64 f.kind, .string (bs f.text)]
/-- fields as cells -/
def cellsWd (fs : List Wrd) : List Value := fs.flatMap cellsWrd
theorem cellsWd_length (fs : List Wrd) : (cellsWd fs).length = fs.length * 2 := by
  induction fs with
  | nil => rfl
  | cons f r ih => simp only [cellsWd, List.flatMap_cons, List.length_append, List.length_cons] at ih ⊢; rw [ih]; simp [cellsWrd]; omega
theorem cellsWd_append (a b : List Wrd) : cellsWd (a ++ b) = cellsWd a ++ cellsWd b := by simp [cellsWd]
theorem cellsWd_at (fs : List Wrd) (i j : Nat) (f : Wrd) (hf : fs[i]? = some f) (hj : j < 2) : (cellsWd fs)[i * 2 + j]? = (cellsWrd f)[j]? := by
  induction fs generalizing i with
  | nil => simp at hf
  | cons x r ih =>
    have hc : cellsWd (x :: r) = cellsWrd x ++ cellsWd r := rfl
    have hx : (cellsWrd x).length = 2 := rfl
    rw [hc]
    cases i with
    | zero =>
      obtain rfl : x = f := by simpa using hf
      rw [Nat.zero_mul, Nat.zero_add, List.getElem?_append_left (by omega)]
    | succ i =>
      rw [List.getElem?_append_right (by omega), hx, show (i + 1) * 2 + j - 2 = i * 2 + j by omega]
      exact ih i (by simpa using hf)

/-- a slice of fields that the call itself made, in blocks from B on -/
def OwnWd (w : World) (B : Nat) (v : Value) (fs : List Wrd) : Prop := w.ownsRow B 87 2 v fs.length (cellsWd fs)

theorem OwnWd.parts {w : World} {B : Nat} {v : Value} {fs : List Wrd} (h : OwnWd w B v fs) : (v = .slice none 0 0 ∧ fs = []) ∨ ∃ g cap, v = .slice (some ⟨g, 0, none⟩) fs.length cap ∧ B ≤ g ∧ g < w.heap.size := by
  have hlt := World.ownsRow.lt h
  rcases h.2 with ⟨rfl, h0⟩ | ⟨g, cap, cur, rfl, hb, hg, hc, _, _, ht⟩
  · exact .inl ⟨rfl, List.eq_nil_of_length_eq_zero h0⟩
  · exact .inr ⟨g, cap, rfl, hb, (hlt g rfl).2⟩
theorem OwnWd.later {w w' : World} {B : Nat} {v : Value} {fs : List Wrd} (h : OwnWd w B v fs) (hb : ∀ k, v.ownBlock = some k → w'.heap[k]? = w.heap[k]?) : OwnWd w' B v fs := by
  refine ⟨h.1, ?_⟩
  rcases h.2 with h0 | ⟨g, cap, cur, rfl, h1, h2, r⟩
  · exact .inl h0
  · exact .inr ⟨g, cap, cur, rfl, h1, (hb g rfl).trans h2, r⟩
theorem OwnWd.below {w w' : World} {B : Nat} {v : Value} {fs : List Wrd} (h : OwnWd w B v fs) (hb : Below w.heap.size w w') : OwnWd w' B v fs :=
  h.later fun k hk => hb.block k (World.ownsRow.lt h k hk).2
theorem OwnWd.cell {w : World} {B g n cap : Nat} {fs : List Wrd} (h : OwnWd w B (.slice (some ⟨g, 0, none⟩) n cap) fs) (i j : Nat) (f : Wrd) (hf : fs[i]? = some f) (hj : j < 2) : w.cell? ⟨g, i * 2 + j, none⟩ = (cellsWrd f)[j]? := by
  have hc := cellsWd_at fs i j f hf hj
  have hlt : j < (cellsWrd f).length := hj
  rw [List.getElem?_eq_getElem hlt] at hc ⊢
  have := World.ownsRow.cells h (g := g) rfl (i * 2 + j) _ hc
  rw [← this]
  by_cases h0 : i * 2 + j = 0
  · rw [h0]; rfl
  · have e : (⟨g, 0, none⟩ : Addr).add (i * 2 + j) = ⟨g, i * 2 + j, none⟩ := by
      unfold Addr.add
      rw [if_neg h0]
      simp
    rw [e]


theorem OwnWd.base {w : World} {b b' : Nat} {v : Value} {l : List Wrd} (h : OwnWd w b v l) (hb : b' ≤ b) : OwnWd w b' v l := by
  refine ⟨h.1, ?_⟩
  rcases h.2 with h0 | ⟨g, cap, cur, e, h1, r⟩
  · exact .inl h0
  · exact .inr ⟨g, cap, cur, e, Nat.le_trans hb h1, r⟩
theorem OwnWd.step {w' : World} {base : Nat} {v' : Value} {l : List Wrd} {a : Wrd} (h : w'.ownsRow base 87 2 v' (l.length + 1) (cellsWd l ++ cellsWrd a)) : OwnWd w' base v' (l ++ [a]) := by
  unfold OwnWd
  rw [cellsWd_append, List.length_append]
  have e : cellsWd [a] = cellsWrd a := by simp [cellsWd]
  rw [e]
  exact h
theorem OwnWd.cells {w : World} {B g n cap : Nat} {l : List Wrd} (h : OwnWd w B (.slice (some ⟨g, 0, none⟩) n cap) l) (i : Nat) (a : Wrd) (ha : l[i]? = some a) :
    w.cell? ⟨g, i * 2, none⟩ = some (.int .i64 a.kind) ∧ w.cell? ⟨g, i * 2 + 1, none⟩ = some (.string (bs a.text)) :=
  ⟨h.cell i 0 a ha (by decide), h.cell i 1 a ha (by decide)⟩
theorem OwnWd.form {w : World} {B : Nat} {v : Value} {l : List Wrd} (h : OwnWd w B v l) : ∃ a cap, v = .slice a l.length cap := by
  rcases h.parts with ⟨rfl, rfl⟩ | ⟨g, cap, rfl, _⟩
  · exact ⟨_, _, rfl⟩
  · exact ⟨_, _, rfl⟩

end Go.Proofs.YtalgmnlclflllaaGreatDoor
end

/- The document's words of a content type: the walk. -/
set_option linter.unusedVariables false
set_option linter.unusedSimpArgs false
section
namespace Go.Proofs.YtalgmnlclflllaaGreatDoor
open Go.RowKit Go

theorem blank10_any (c : UInt8) (w : World) : Calls Tryz.prog 74 #[.int .u8 (c.toNat : Int)] w fun e w' => e = .returned (.bool (blankB c)) ∧ w = w' := by
  by_cases h1 : c = 32
  · subst h1
    go_enter Tryz.func74, Tryz.ntmps74
    go_wp2
    go_ret
    exact ⟨rfl, rfl⟩
  by_cases h2 : c = 9
  · subst h2
    go_enter Tryz.func74, Tryz.ntmps74
    go_wp2
    go_ret
    exact ⟨rfl, rfl⟩
  have hb : blankB c = false := by simp [blankB, h1, h2]
  obtain ⟨n1, n2⟩ := num_of (d := 32) (n := 32) rfl h1
  obtain ⟨m1, m2⟩ := num_of (d := 9) (n := 9) rfl h2
  rw [hb]
  clear h1 h2 hb
  go_enter Tryz.func74, Tryz.ntmps74
  go_wp2
  go_ret
  exact ⟨rfl, rfl⟩

theorem notin_num {c : UInt8} : ∀ {l : List UInt8}, l.contains c = false → ∀ (d : UInt8) (n : Int), (d.toNat : Int) = n → d ∈ l → ((c.toNat : Int) == n) = false := by
  intro l h d n hn hd
  refine (num_of hn ?_).1
  rintro rfl
  rw [List.contains_iff_mem.2 hd] at h
  cases h
set_option maxRecDepth 100000 in
set_option maxHeartbeats 2000000 in
theorem plain10_any (c : UInt8) (w : World) : Calls Tryz.prog 75 #[.int .u8 (c.toNat : Int)] w fun e w' => e = .returned (.bool (tokC c)) ∧ w = w' := by
  have HT : tokC c = (decide (33 ≤ c.toNat) && decide (c.toNat ≤ 126) && !(specT.contains c)) := rfl
  by_cases h1 : c.toNat < 33
  · have hb : tokC c = false := by rw [HT]; simp; omega
    rw [hb]
    have h2 : (c.toNat : Int) < 33 := by omega
    clear h1 hb HT
    go_enter Tryz.func75, Tryz.ntmps75
    go_wp2
    go_ret
    exact ⟨rfl, rfl⟩
  by_cases h3 : 126 < c.toNat
  · have hb : tokC c = false := by rw [HT]; simp; omega
    rw [hb]
    have h2 : (33 : Int) ≤ (c.toNat : Int) := by omega
    have h4 : (126 : Int) < (c.toNat : Int) := by omega
    clear h1 h3 hb HT
    go_enter Tryz.func75, Tryz.ntmps75
    go_wp2
    go_ret
    exact ⟨rfl, rfl⟩
  rcases hc : specT.contains c with _ | _
  · have hb : tokC c = true := by rw [HT, hc]; simp; omega
    have N := fun (d : UInt8) (n : Int) => notin_num hc d n
    have n1 := N 40 40 rfl (by decide)
    have n2 := N 41 41 rfl (by decide)
    have n3 := N 60 60 rfl (by decide)
    have n4 := N 62 62 rfl (by decide)
    have n5 := N 64 64 rfl (by decide)
    have n6 := N 44 44 rfl (by decide)
    have n7 := N 59 59 rfl (by decide)
    have n8 := N 58 58 rfl (by decide)
    have n9 := N 92 92 rfl (by decide)
    have n10 := N 34 34 rfl (by decide)
    have n11 := N 47 47 rfl (by decide)
    have n12 := N 91 91 rfl (by decide)
    have n13 := N 93 93 rfl (by decide)
    have n14 := N 63 63 rfl (by decide)
    have n15 := N 61 61 rfl (by decide)
    rw [hb]
    have h2 : (33 : Int) ≤ (c.toNat : Int) := by omega
    have h4 : (c.toNat : Int) ≤ 126 := by omega
    clear h1 h3 hb HT N hc
    go_enter Tryz.func75, Tryz.ntmps75
    go_wp2
    go_ret
    exact ⟨rfl, rfl⟩
  · have hb : tokC c = false := by rw [HT, hc]; simp
    rw [hb]
    have hm : c ∈ specT := List.contains_iff_mem.1 hc
    clear h1 h3 hb HT hc
    simp only [specT, List.mem_cons, List.not_mem_nil, or_false] at hm
    rcases hm with rfl | rfl | rfl | rfl | rfl | rfl | rfl | rfl | rfl | rfl | rfl | rfl | rfl | rfl | rfl
    all_goals
      go_enter Tryz.func75, Tryz.ntmps75
      go_wp2
      go_ret
      exact ⟨rfl, rfl⟩

/-! ### plain: one word ahead -/
theorem wordsT_nil : wordsT [] = some [] := rfl
theorem skipB_blank {c : UInt8} {r : List UInt8} (h : blankB c = true) : skipB (c :: r) = skipB r := by
  unfold skipB
  rw [List.dropWhile_cons, if_pos h]
theorem skipB_not {c : UInt8} {r : List UInt8} (h : blankB c = false) : skipB (c :: r) = c :: r := by
  unfold skipB
  rw [List.dropWhile_cons, if_neg (by rw [h]; simp)]
theorem tok_not_blank {c : UInt8} (h : tokC c = true) : blankB c = false := by
  unfold tokC at h
  simp only [Bool.and_eq_true, decide_eq_true_eq] at h
  unfold blankB
  have h1 := h.1.1
  have a : c ≠ 32 := by rintro rfl; simp at h1
  have b : c ≠ 9 := by rintro rfl; simp at h1
  simp [a, b]
theorem wordsT_blank {c : UInt8} {r : List UInt8} (h : blankB c = true) : wordsT (c :: r) = wordsT r := by
  rw [wordsT_eq (c :: r), wordsT_eq r]
  have : lex1 (c :: r) = lex1 r := by unfold lex1; rw [skipB_blank h]
  rw [this]
theorem wordsT_tok {c : UInt8} {r : List UInt8} (h : tokC c = true) : wordsT (c :: r) = (wordsT ((c :: r).dropWhile tokC)).map (⟨1, (c :: r).takeWhile tokC⟩ :: ·) := by
  rw [wordsT_eq (c :: r)]
  have : lex1 (c :: r) = .one ⟨1, (c :: r).takeWhile tokC⟩ ((c :: r).dropWhile tokC) := by
    unfold lex1
    rw [skipB_not (tok_not_blank h)]
    simp only
    rw [if_pos h]
  rw [this]
theorem wordsT_quo {r : List UInt8} : wordsT (34 :: r) = match qGo [] r with
    | none => none
    | some (t, r2) => (wordsT r2).map (⟨2, t⟩ :: ·) := by
  rw [wordsT_eq (34 :: r)]
  have : lex1 (34 :: r) = match qGo [] r with
      | none => .bad
      | some (t, r2) => .one ⟨2, t⟩ r2 := by
    unfold lex1
    rw [skipB_not (by rfl)]
    rfl
  rw [this]
  cases qGo [] r with
  | none => rfl
  | some q => rfl
theorem wordsT_oth {c : UInt8} {r : List UInt8} (h1 : blankB c = false) (h2 : tokC c = false) (h3 : c ≠ 34) : wordsT (c :: r) = (wordsT r).map (⟨3, [c]⟩ :: ·) := by
  rw [wordsT_eq (c :: r)]
  have : lex1 (c :: r) = .one ⟨3, [c]⟩ r := by
    unfold lex1
    rw [skipB_not h1]
    simp only
    rw [if_neg (by rw [h2]; simp), if_neg h3]
  rw [this]
theorem map_app {α : Type} (o : Option (List α)) (acc : List α) (x : α) : (o.map (x :: ·)).map (acc ++ ·) = o.map ((acc ++ [x]) ++ ·) := by
  cases o <;> simp

/-- what the words leave behind -/
def WordsP (B : Nat) (R : Option (List Wrd)) (w : World) (e : Ending) (w' : World) : Prop :=
  ((∃ ws v, R = some ws ∧ e = .returned (.tuple #[v, .bool true]) ∧ OwnWd w' B v ws ∧ ws.length ≤ 1099511627776) ∨ (R = none ∧ e = .returned (.tuple #[.slice none 0 0, .bool false]))) ∧ Below B w w'

theorem wrd_news (w : World) (f : Wrd) : ∀ j x, (cellsWrd f)[j]? = some x → (w.alloc (.cells #[.int .i64 f.kind, .string (bs f.text)] 87)).cell? ((⟨w.heap.size, 0, none⟩ : Addr).add j) = some x := by
  intro j x h
  match j, h with
  | 0, h => simp [cellsWrd] at h; subst h; simp [Addr.add]
  | 1, h => simp [cellsWrd] at h; subst h; simp [Addr.add]
  | n + 2, h => simp [cellsWrd] at h
theorem wrd_one (f : Wrd) : ∀ x ∈ cellsWrd f, x.oneCell' = true := by
  intro x hx
  simp [cellsWrd] at hx
  rcases hx with rfl | rfl <;> rfl

theorem OwnWd.grow {B : Nat} {u w w' : World} {v : Value} {l : List Wrd} {o : Obj} (hb : Below B u w) (h : OwnWd w B v l) (hg : (w.alloc o).grownBy w' v.ownBlock) (hB : B ≤ w.heap.size) : Below B u w' :=
  (hb.alloc hB o).grown hg (by simp; omega) (fun k e => (World.ownsRow.lt h k e).1)

end Go.Proofs.YtalgmnlclflllaaGreatDoor
end

/- The document's words of a content type: the walk, its loops. -/
set_option linter.unusedVariables false
set_option linter.unusedSimpArgs false
section
namespace Go.Proofs.YtalgmnlclflllaaGreatDoor
open Go.RowKit Go

set_option maxRecDepth 100000 in
set_option maxHeartbeats 4000000 in
theorem words_any (l : List UInt8) (w : World) (hl : l.length ≤ 100000000) : Calls Tryz.prog 54 #[.string (bs l)] w (WordsP w.heap.size (wordsT l) w) := by
  obtain ⟨i0, hi0, hz0, hz1, hz2⟩ := info_parts info_wrd
  obtain ⟨R, hR⟩ : ∃ R, wordsT l = R := ⟨_, rfl⟩
  rw [hR]
  have HR := Lib.hid hR
  clear hR
  obtain ⟨B, hB0⟩ : ∃ B, w.heap.size = B := ⟨_, rfl⟩
  have o0 : OwnWd (w.alloc (.cells #[] 87)) w.heap.size (.slice (some ⟨w.heap.size, 0, none⟩) 0 0) [] := World.ownsRow_lit w #[] 0 (Nat.le_refl _) (by decide) rfl
  have b0 : Below w.heap.size w (w.alloc (.cells #[] 87)) := (Below.refl _ _).alloc (Nat.le_refl _) _
  go_enter Tryz.func54, Tryz.ntmps54
  go_wp2
  rw [hB0] at o0 b0 ⊢
  go_loopw [4, 5] (fun out i wr => ∃ (k : Nat) (acc : List Wrd), k ≤ l.length ∧ i = .int .i64 k ∧ OwnWd wr B out acc ∧ Below B w wr ∧ Hid ((wordsT (l.drop k)).map (acc ++ ·) = R) ∧ acc.length ≤ k) (fun _ i _ => l.length - (intOf i).toNat)
  case atStart => exact ⟨0, [], Nat.zero_le _, rfl, o0, b0, by show _ = _; rw [← HR.out]; simp, Nat.le_refl _⟩
  case round =>
    clear o0 b0
    obtain ⟨k, acc, hk, rfl, hown, hB, hd, hal⟩ := hrel
    have hzr := hB.size
    rw [hB0] at hzr
    obtain ⟨oa, oc, rfl⟩ := hown.form
    by_cases hlt : k < l.length
    · obtain ⟨c, hc⟩ : ∃ c, (bs l)[k]'(by rw [bs_size]; exact hlt) = c := ⟨_, rfl⟩
      have hc' : l[k]? = some c := List.getElem?_eq_some_iff.2 ⟨hlt, hc⟩
      have hd' := hd.out
      rw [at_drop hc'] at hd'
      have hlt' : (k : Int) < l.length := by omega
      rcases hbl : blankB c with _ | _
      case true =>
        rw [wordsT_blank hbl] at hd'
        have HD := Lib.hid hd'
        have HBL := Lib.hid hbl
        clear hd hd' hc' hbl
        go_wp2_with fail
        refine (blank10_any c _).mono ?_
        rintro e w' ⟨rfl, rfl⟩
        rw [HBL.out]
        go_wp2
        go_roundw
        case rel => exact ⟨k + 1, acc, by omega, by go_num, hown, hB, HD.out, by omega⟩
        case measure => first | (simp [intOf]; omega) | (simp [intOf]; done) | omega
      rcases htk : tokC c with _ | _
      case true =>
        rw [wordsT_tok htk, ← at_drop hc'] at hd'
        have HD := Lib.hid hd'
        have HBL := Lib.hid hbl
        have HTK := Lib.hid htk
        have HCC := Lib.hid hc'
        clear hd hd' hc' hbl htk
        go_wp2_with fail
        refine (blank10_any c _).mono ?_
        rintro e w' ⟨rfl, rfl⟩
        rw [HBL.out]
        go_wp2_with fail
        refine (plain10_any c _).mono ?_
        rintro e w' ⟨rfl, rfl⟩
        rw [HTK.out]
        go_wp2
        go_loopw [6] (fun n wi => ∃ q : Nat, k ≤ q ∧ q ≤ l.length ∧ n = .int .i64 q ∧ Hid (((l.drop k).take (q - k)).all tokC = true) ∧ wi = wr) (fun n _ => l.length - (intOf n).toNat)
        case atStart => exact ⟨k, Nat.le_refl _, hk, rfl, by show _ = _; simp, rfl⟩
        case round =>
          obtain ⟨q, hkq, hq, rfl, hall, hW⟩ := hrel
          subst hW
          have hdq : (l.drop k)[q - k]? = l[q]? := by rw [List.getElem?_drop]; congr 1; omega
          by_cases hin : q < l.length ∧ ∃ d, l[q]? = some d ∧ tokC d = true
          · obtain ⟨hlq, d, hdd, htd⟩ := hin
            obtain ⟨hlt0, hd0⟩ := List.getElem?_eq_some_iff.1 hdd
            have hcd : (bs l)[q]'(by rw [bs_size]; exact hlq) = d := hd0
            have hlq' : (q : Int) < l.length := by omega
            have hall2 : Hid (((l.drop k).take (q + 1 - k)).all tokC = true) := by
              show _ = _
              rw [show q + 1 - k = (q - k) + 1 by omega, List.take_add_one, hdq, hdd, List.all_append, hall.out]
              simp [htd]
            have HTD := Lib.hid htd
            clear hall hdq hdd htd hd0
            go_wp2_with (go_at_call 75; refine (plain10_any d _).mono ?_; rintro e w' ⟨rfl, rfl⟩; rw [HTD.out])
            go_roundw
            case rel => exact ⟨q + 1, by omega, by omega, by go_num, hall2, by trivial⟩
            case measure => first | (simp [intOf]; omega) | (simp [intOf]; done) | omega
          · have hstop := tok_stop (l.drop k) (q - k) hall.out (fun d hdd => by
              cases ht : tokC d with
              | false => rfl
              | true =>
                rw [hdq] at hdd
                exact absurd ⟨(List.getElem?_eq_some_iff.1 hdd).1, d, hdd, ht⟩ hin)
            have hd2 := HD.out
            rw [hstop.1, hstop.2, List.drop_drop, show k + (q - k) = q by omega, map_app] at hd2
            obtain ⟨T, hT⟩ : ∃ T, (l.drop k).take (q - k) = T := ⟨_, rfl⟩
            have hm := run_mid l k q hkq hq
            rw [hT] at hm hd2
            have HN := Lib.hid hd2
            have hkk : k < q := by
              rcases Nat.lt_or_ge k q with h | h
              · exact h
              · exfalso
                obtain rfl : q = k := by omega
                exact hin ⟨hlt, c, HCC.out, HTK.out⟩
            have hnews := wrd_news wr ⟨1, T⟩
            have hone := wrd_one ⟨1, T⟩
            rcases Nat.lt_or_ge q l.length with hlq | hlq
            · obtain ⟨d, hdd⟩ : ∃ d, (bs l)[q]'(by rw [bs_size]; exact hlq) = d := ⟨_, rfl⟩
              have htd : tokC d = false := by
                cases ht : tokC d with
                | false => rfl
                | true => exact absurd ⟨hlq, d, List.getElem?_eq_some_iff.2 ⟨hlq, hdd⟩, ht⟩ hin
              have hlq' : (q : Int) < l.length := by omega
              have HTD := Lib.hid htd
              clear hall hdq hin hstop hd2 hT htd
              go_wp2_with (first | (go_at_call 75; refine (plain10_any d _).mono ?_; rintro e w' ⟨rfl, rfl⟩; rw [HTD.out]) | (at_builtin; refine wpList_append_own _ rfl _ _ 83 rfl B 87 i0 _ 2 24 Tryz.underlying83 hi0 hz0 hz1 hz2 rfl (by decide) _ _ _ rfl (World.ownsRow.alloc hown _) ⟨wr.heap.size, 0, none⟩ 1 1 (cellsWrd ⟨1, T⟩) rfl rfl hnews hone ?c3 ?c4 ?c5 ?_))
              case c3 => unfold maxLen; omega
              case c4 => omega
              case c5 => first | omega | (simp; omega)
              intro v' w4 hown4 hgrow _
              have R1 : OwnWd w4 B v' (acc ++ [⟨1, T⟩]) := OwnWd.step hown4
              have R2 : Below B w w4 := OwnWd.grow hB hown hgrow hzr
              clear hown4 hgrow hnews hone
              go_wp2
              go_roundw
              case rel => exact ⟨q, _, by omega, rfl, R1, R2, HN.out, by simp; omega⟩
              case measure => first | (simp [intOf]; omega) | (simp [intOf]; done) | omega
            · have hlq' : (l.length : Int) ≤ q := by omega
              clear hall hdq hin hstop hd2 hT
              go_wp2_with (at_builtin; refine wpList_append_own _ rfl _ _ 83 rfl B 87 i0 _ 2 24 Tryz.underlying83 hi0 hz0 hz1 hz2 rfl (by decide) _ _ _ rfl (World.ownsRow.alloc hown _) ⟨wr.heap.size, 0, none⟩ 1 1 (cellsWrd ⟨1, T⟩) rfl rfl hnews hone ?c3 ?c4 ?c5 ?_)
              case c3 => unfold maxLen; omega
              case c4 => omega
              case c5 => first | omega | (simp; omega)
              intro v' w4 hown4 hgrow _
              have R1 : OwnWd w4 B v' (acc ++ [⟨1, T⟩]) := OwnWd.step hown4
              have R2 : Below B w w4 := OwnWd.grow hB hown hgrow hzr
              clear hown4 hgrow hnews hone
              go_wp2
              go_roundw
              case rel => exact ⟨q, _, by omega, rfl, R1, R2, HN.out, by simp; omega⟩
              case measure => first | (simp [intOf]; omega) | (simp [intOf]; done) | omega
      by_cases h34 : c = 34
      · subst h34
        rw [wordsT_quo] at hd'
        obtain ⟨Q, hQ⟩ : ∃ Q, qGo [] (l.drop (k + 1)) = Q := ⟨_, rfl⟩
        rw [hQ] at hd'
        have HQ := Lib.hid hQ
        have HD := Lib.hid hd'
        have HBL := Lib.hid hbl
        have HTK := Lib.hid htk
        clear hd hd' hc' hbl htk hQ
        go_wp2_with fail
        refine (blank10_any 34 _).mono ?_
        rintro e w' ⟨rfl, rfl⟩
        rw [HBL.out]
        go_wp2_with fail
        refine (plain10_any 34 _).mono ?_
        rintro e w' ⟨rfl, rfl⟩
        rw [HTK.out]
        obtain ⟨W0, hW0⟩ : ∃ W0, W0 = wr := ⟨_, rfl⟩
        subst hW0
        have t0 : OwnB (W0.alloc (.cells #[] 5)) W0.heap.size (.slice (some ⟨W0.heap.size, 0, none⟩) 0 0) [] := World.ownsRow_lit W0 #[] 0 (Nat.le_refl _) (by decide) rfl
        have u0 : Below W0.heap.size W0 (W0.alloc (.cells #[] 5)) := (Below.refl _ _).alloc (Nat.le_refl _) _
        go_wp2
        go_loopw [5, 7] (fun i t wi => ∃ (p : Nat) (ac : List UInt8), i = .int .i64 p ∧ k + 1 ≤ p ∧ OwnB wi W0.heap.size t ac ∧ Below W0.heap.size W0 wi ∧ ac.length ≤ p ∧ ((p ≤ l.length ∧ Hid (qGo ac (l.drop p) = Q)) ∨ (p = l.length + 1 ∧ Q = none))) (fun i _ _ => l.length + 1 - (intOf i).toNat)
        case atStart => exact ⟨k + 1, [], by go_num, Nat.le_refl _, t0, u0, by simp, .inl ⟨by omega, HQ⟩⟩
        case round =>
          clear t0 u0
          obtain ⟨p, ac, rfl, hkp, hob, hBi, hac, hq⟩ := hrel
          have hzi := hBi.size
          have hown2 : OwnWd wr B _ acc := hown.below hBi
          have hB2 : Below B w wr := hB.trans (hBi.mono hzr)
          by_cases hend : p ≥ l.length
          · have hQ : Q = none := by
              rcases hq with ⟨h1, h2⟩ | ⟨_, h2⟩
              · obtain rfl : p = l.length := by omega
                rw [← h2.out, List.drop_length, qGo_nil]
              · exact h2
            have hr := HD.out
            rw [hQ] at hr
            simp only [Option.map_none] at hr
            subst hr
            have hpl : (l.length : Int) ≤ p := by omega
            clear hq HQ HD hQ
            go_wp2
            go_ret2
            subst hB0
            exact ⟨.inr ⟨rfl, rfl⟩, hB2⟩
          · have hpl : p < l.length := by omega
            obtain ⟨_, hq⟩ := hq.resolve_right (by omega)
            obtain ⟨d, hdd⟩ : ∃ d, (bs l)[p]'(by rw [bs_size]; exact hpl) = d := ⟨_, rfl⟩
            have hd1 : l[p]? = some d := List.getElem?_eq_some_iff.2 ⟨hpl, hdd⟩
            have hpl' : (p : Int) < l.length := by omega
            have hq1 := hq.out
            rw [at_drop hd1] at hq1
            by_cases h34 : d = 34
            · subst h34
              rw [qGo_end] at hq1
              have hr := HD.out
              rw [← hq1] at hr
              simp only at hr
              rw [map_app] at hr
              have HN := Lib.hid hr
              have hcv := convert_bytes hob.bytes
              have hnews := wrd_news wr ⟨2, ac⟩
              have hone := wrd_one ⟨2, ac⟩
              clear hq hq1 hr HD HQ hd1
              go_wp2_with (at_builtin; refine wpList_append_own _ rfl _ _ 83 rfl B 87 i0 _ 2 24 Tryz.underlying83 hi0 hz0 hz1 hz2 rfl (by decide) _ _ _ rfl (World.ownsRow.alloc hown2 _) ⟨wr.heap.size, 0, none⟩ 1 1 (cellsWrd ⟨2, ac⟩) rfl rfl hnews hone ?c3 ?c4 ?c5 ?_)
              case c3 => unfold maxLen; omega
              case c4 => omega
              case c5 => first | omega | (simp; omega)
              intro v' w4 hown4 hgrow _
              have R1 : OwnWd w4 B v' (acc ++ [⟨2, ac⟩]) := OwnWd.step hown4
              have R2 : Below B w w4 := OwnWd.grow hB2 hown2 hgrow (by omega)
              clear hown4 hgrow hnews hone
              go_wp2
              go_roundw
              case rel => exact ⟨p + 1, _, by omega, by go_num, R1, R2, HN.out, by simp; omega⟩
              case measure => first | (simp [intOf]; omega) | (simp [intOf]; done) | omega
            · obtain ⟨n1, n2⟩ := num_of (d := 34) (n := 34) rfl h34
              by_cases h92 : d = 92
              · subst h92
                by_cases hlast : p + 1 = l.length
                · rw [hlast, List.drop_length, qGo_esc1] at hq1
                  have hke : ¬ ((p : Int) + 1 < (l.length : Int)) := by omega
                  clear hq hd1 h34
                  go_wp2
                  go_roundw
                  case rel => exact ⟨p + 2, ac, by go_num, by omega, hob, hBi, by omega, .inr ⟨by omega, hq1.symm⟩⟩
                  case measure => first | (simp [intOf]; omega) | (simp [intOf]; done) | omega
                · have hlt2 : p + 1 < l.length := by omega
                  obtain ⟨y, hyc⟩ : ∃ y, (bs l)[p + 1]'(by rw [bs_size]; exact hlt2) = y := ⟨_, rfl⟩
                  have hy : l[p + 1]? = some y := List.getElem?_eq_some_iff.2 ⟨hlt2, hyc⟩
                  rw [at_drop hy, qGo_esc] at hq1
                  have H1 := Lib.hid hq1
                  have hke : ((p : Int) + 1 < (l.length : Int)) := by omega
                  clear hq hq1 hd1 hy h34
                  go_wp2_with (at_builtin; refine app_byte _ W0.heap.size _ _ y _ rfl hob hzi (by omega) rfl _ _ rfl rfl rfl ?_; intro v' w2 own2 ap2)
                  go_roundw
                  case rel => exact ⟨p + 2, ac ++ [y], by go_num, by omega, own2, ap2.below _ _ (Nat.le_refl _) hBi, by simp; omega, .inl ⟨by omega, H1.out⟩⟩
                  case measure => first | (simp [intOf]; omega) | (simp [intOf]; done) | omega
              · obtain ⟨m1, m2⟩ := num_of (d := 92) (n := 92) rfl h92
                rw [qGo_other _ _ _ h34 h92] at hq1
                have H1 := Lib.hid hq1
                clear hq hq1 hd1 h34 h92
                go_wp2_with (at_builtin; refine app_byte _ W0.heap.size _ _ d _ rfl hob hzi (by omega) rfl _ _ rfl rfl rfl ?_; intro v' w2 own2 ap2)
                go_roundw
                case rel => exact ⟨p + 1, ac ++ [d], by go_num, by omega, own2, ap2.below _ _ (Nat.le_refl _) hBi, by simp; omega, .inl ⟨by omega, H1.out⟩⟩
                case measure => first | (simp [intOf]; omega) | (simp [intOf]; done) | omega
      · rw [wordsT_oth hbl htk h34, map_app] at hd'
        have HN := Lib.hid hd'
        have HBL := Lib.hid hbl
        have HTK := Lib.hid htk
        obtain ⟨n1, n2⟩ := num_of (d := 34) (n := 34) rfl h34
        have hm := fun w0 => run_mid l k (k + 1) (by omega) (by omega) w0
        push_cast at hm
        have hT : (l.drop k).take (k + 1 - k) = [c] := by
          rw [at_drop hc', show k + 1 - k = 1 by omega]
          rfl
        rw [hT] at hm
        have hnews := wrd_news wr ⟨3, [c]⟩
        have hone := wrd_one ⟨3, [c]⟩
        clear hd hd' hc' hbl htk h34 hT
        go_wp2_with fail
        refine (blank10_any c _).mono ?_
        rintro e w' ⟨rfl, rfl⟩
        rw [HBL.out]
        go_wp2_with fail
        refine (plain10_any c _).mono ?_
        rintro e w' ⟨rfl, rfl⟩
        rw [HTK.out]
        go_wp2_with (at_builtin; refine wpList_append_own _ rfl _ _ 83 rfl B 87 i0 _ 2 24 Tryz.underlying83 hi0 hz0 hz1 hz2 rfl (by decide) _ _ _ rfl (World.ownsRow.alloc hown _) ⟨wr.heap.size, 0, none⟩ 1 1 (cellsWrd ⟨3, [c]⟩) rfl rfl hnews hone ?c3 ?c4 ?c5 ?_)
        case c3 => unfold maxLen; omega
        case c4 => omega
        case c5 => first | omega | (simp; omega)
        intro v' w4 hown4 hgrow _
        have R1 : OwnWd w4 B v' (acc ++ [⟨3, [c]⟩]) := OwnWd.step hown4
        have R2 : Below B w w4 := OwnWd.grow hB hown hgrow hzr
        clear hown4 hgrow hnews hone
        go_wp2
        go_roundw
        case rel => exact ⟨k + 1, _, by omega, by go_num, R1, R2, HN.out, by simp; omega⟩
        case measure => first | (simp [intOf]; omega) | (simp [intOf]; done) | omega
    · obtain rfl : k = l.length := by omega
      have hr := hd.out
      rw [List.drop_length, wordsT_nil] at hr
      simp only [Option.map_some, List.append_nil] at hr
      subst hr
      clear hd
      go_wp2
      go_ret2
      subst hB0
      exact ⟨.inl ⟨acc, _, rfl, rfl, hown, by omega⟩, hB⟩

end Go.Proofs.YtalgmnlclflllaaGreatDoor
end

/- The document's reading of a content type: the walk. -/
set_option linter.unusedVariables false
set_option linter.unusedSimpArgs false
section
namespace Go.Proofs.YtalgmnlclflllaaGreatDoor
open Go.RowKit Go

theorem parW_mod : ∀ (ws : List Wrd) (ps : List Prm), parW ws = some ps → ws.length % 4 = 0
  | [], _, _ => rfl
  | [_], _, h => by cases h
  | [_, _], _, h => by cases h
  | [_, _, _], _, h => by cases h
  | a :: b :: c :: d :: r, ps, h => by
    rw [parW] at h
    split at h
    · cases hr : parW r with
      | none => rw [hr] at h; cases h
      | some q =>
        have := parW_mod r q hr
        simp only [List.length_cons]
        omega
    · cases h
theorem parW_none {ws : List Wrd} (h : ws.length % 4 ≠ 0) : parW ws = none := by
  cases hp : parW ws with
  | none => rfl
  | some ps => exact absurd (parW_mod ws ps hp) h
theorem typeW_mod {ws : List Wrd} (h : ws.length % 4 ≠ 3 ∨ ws.length < 3) : typeW ws = none := by
  match ws with
  | [] => rfl
  | [_] => rfl
  | [_, _] => rfl
  | a :: b :: c :: r =>
    rw [typeW]
    split
    · rw [parW_none (by simp only [List.length_cons] at h; omega)]
      rfl
    · rfl

/-- what the document's Type leaves behind -/
def RefTypeP (B : Nat) (R : Option (List UInt8 × List UInt8 × List Prm)) (w : World) (e : Ending) (w' : World) : Prop :=
  ((∃ t s ps v, R = some (t, s, ps) ∧ e = .returned (.tuple #[.string (bs t), .string (bs s), v, .bool true]) ∧ OwnPm w' B v ps) ∨ (R = none ∧ e = .returned (.tuple #[.string ⟨#[]⟩, .string ⟨#[]⟩, .slice none 0 0, .bool false]))) ∧ Below B w w'

theorem int_ne {a b : Nat} (h : a ≠ b) : ((a : Int) != (b : Int)) = true ∧ ((a : Int) == (b : Int)) = false := by
  have : ¬ (a : Int) = b := by omega
  simp [this]
theorem lst_ne {a b : List UInt8} (h : a ≠ b) : (!(a == b)) = true := by simp [h]

theorem results_tmp4 {fn : Func} {t u v x : Tmp} (h : fn.results = #[.tmp t, .tmp u, .tmp v, .tmp x]) (tmps : Array Value) (P : Program) (w : World) :
    (results fn tmps).run P w = .ok (.tuple #[tmps.getD t undef, tmps.getD u undef, tmps.getD v undef, tmps.getD x undef]) w := by
  simp [results, h]
theorem qGo_text : ∀ (l acc t r : List UInt8), qGo acc l = some (t, r) → t.length ≤ acc.length + l.length
  | [], acc, t, r, h => by cases h
  | [c], acc, t, r, h => by
    unfold qGo at h
    split at h
    · cases h; simp
    · split at h
      · cases h
      · cases h
  | c :: d :: q, acc, t, r, h => by
    unfold qGo at h
    split at h
    · cases h; simp
    · split at h
      · have := qGo_text q _ t r h
        simp at this ⊢; omega
      · have := qGo_text (d :: q) _ t r h
        simp at this ⊢; omega
theorem takeW_len {α : Type} (p : α → Bool) (l : List α) : (l.takeWhile p).length ≤ l.length := (List.takeWhile_sublist p).length_le
theorem lex1_text {l : List UInt8} {w : Wrd} {r : List UInt8} (h : lex1 l = .one w r) : w.text.length ≤ l.length := by
  have hs := skipB_len l
  unfold lex1 at h
  split at h
  · cases h
  · rename_i c t hc
    rw [hc] at hs
    split at h
    · injection h with h1 h2
      rw [← h1]
      exact Nat.le_trans (takeW_len _ _) hs
    · split at h
      · split at h
        · cases h
        · rename_i hq
          injection h with h1 h2
          have := qGo_text _ _ _ _ hq
          rw [← h1]
          simp at this hs ⊢
          omega
      · injection h with h1 h2
        rw [← h1]
        simp at hs ⊢
        omega
theorem wordsF_short : ∀ (f : Nat) (l : List UInt8) (ws : List Wrd), wordsF f l = some ws → ∀ x ∈ ws, x.text.length ≤ l.length
  | 0, l, ws, h, x, hx => by cases h; cases hx
  | f + 1, l, ws, h, x, hx => by
    rw [wordsF] at h
    cases hl : lex1 l with
    | done => rw [hl] at h; cases h; cases hx
    | bad => rw [hl] at h; cases h
    | one w r =>
      rw [hl] at h
      simp only at h
      cases hr : wordsF f r with
      | none => rw [hr] at h; cases h
      | some q =>
        rw [hr] at h
        obtain rfl : w :: q = ws := Option.some.inj h
        rcases List.mem_cons.1 hx with rfl | hx
        · exact lex1_text hl
        · have := wordsF_short f r q hr x hx
          have := lex1_len hl
          omega
theorem OwnWd.cells0 {w : World} {B g n cap : Nat} {l : List Wrd} (h : OwnWd w B (.slice (some ⟨g, 0, none⟩) n cap) l) (i : Nat) (a : Wrd) (ha : l[i]? = some a) (o p : Nat) (ho : i * 2 = o) (hp : i * 2 + 1 = p) :
    w.cell? ⟨g, o, none⟩ = some (.int .i64 a.kind) ∧ w.cell? ⟨g, p, none⟩ = some (.string (bs a.text)) := by
  subst ho hp
  exact h.cells i a ha
theorem bne_of_ne {a b : Int} (h : a ≠ b) : (a != b) = true := by simp [h]
theorem tm4 (n : Nat) : (n : Int).tmod 4 = ((n % 4 : Nat) : Int) := by rw [Int.tmod_eq_emod_of_nonneg (by omega)]; omega

set_option maxRecDepth 100000 in
set_option maxHeartbeats 8000000 in
theorem refType_any (l : List UInt8) (w : World) (hl : l.length ≤ 100000000) : Calls Tryz.prog 27 #[.string (bs l)] w (RefTypeP w.heap.size ((wordsT l).bind typeW) w) := by
  obtain ⟨i0, hi0, hy0, hy1, hy2⟩ := info_parts info_prm
  obtain ⟨R, hR⟩ : ∃ R, (wordsT l).bind typeW = R := ⟨_, rfl⟩
  rw [hR]
  go_enter Tryz.func27, Tryz.ntmps27
  go_wp2_with fail
  refine (words_any l _ hl).mono ?_
  intro e w1 ⟨hws, hb1⟩
  rcases hws with ⟨ws, v, hw, rfl, hown, hwl⟩ | ⟨hw, rfl⟩
  case inr =>
    rw [hw] at hR
    simp only [Option.bind_none] at hR
    subst hR
    clear hw
    go_wp2
    (try simp only [Exit.inBlock, Exit.then])
    refine bodyPost_ret (results_tmp4 rfl _ _ _) rfl ?_
    exact ⟨.inr ⟨rfl, rfl⟩, hb1⟩
  rw [hw] at hR
  have hlen9 := wordsF_short _ _ _ hw
  simp only [Option.bind_some] at hR
  have hz1 := hb1.size
  obtain ⟨va, vc, rfl⟩ := hown.form
  clear hw
  by_cases h3 : ws.length < 3
  · rw [typeW_mod (.inr h3)] at hR
    subst hR
    have h3' : (ws.length : Int) < 3 := by omega
    clear hown h3
    go_wp2
    (try simp only [Exit.inBlock, Exit.then])
    refine bodyPost_ret (results_tmp4 rfl _ _ _) rfl ?_
    exact ⟨.inr ⟨rfl, rfl⟩, hb1⟩
  have h3' : (3 : Int) ≤ ws.length := by omega
  by_cases h4 : ws.length % 4 = 3
  case neg =>
    rw [typeW_mod (.inl h4)] at hR
    subst hR
    have h4' : ((ws.length : Int) % 4 != 3) = true := bne_of_ne (by omega)
    clear hown h4
    go_wp2
    (try simp only [Exit.inBlock, Exit.then])
    refine bodyPost_ret (results_tmp4 rfl _ _ _) rfl ?_
    exact ⟨.inr ⟨rfl, rfl⟩, hb1⟩
  have h4' : ((ws.length : Int) % 4 != 3) = false := by rw [show (ws.length : Int) % 4 = 3 by omega]; rfl
  obtain ⟨g, cap, hform, hg1, hg2⟩ : ∃ g cap, Value.slice va ws.length vc = .slice (some ⟨g, 0, none⟩) ws.length cap ∧ w.heap.size ≤ g ∧ g < w1.heap.size := by
    rcases hown.parts with ⟨_, h⟩ | h
    · rw [h] at h3; simp at h3
    · exact h
  obtain ⟨rfl, rfl⟩ : va = some ⟨g, 0, none⟩ ∧ vc = cap := by simpa using hform
  clear hform
  obtain ⟨a, b, c, r, hws⟩ : ∃ a b c r, ws = a :: b :: c :: r := by
    match ws, h3 with
    | a :: b :: c :: r, _ => exact ⟨a, b, c, r, rfl⟩
    | [], h => exact absurd (by simp) h
    | [_], h => exact absurd (by simp) h
    | [_, _], h => exact absurd (by simp) h
  have hdr : ws.drop 3 = r := by rw [hws]; rfl
  obtain ⟨k0, x0⟩ := hown.cells0 0 a (by rw [hws]; rfl) 0 1 rfl rfl
  obtain ⟨k1, x1⟩ := hown.cells0 1 b (by rw [hws]; rfl) 2 3 rfl rfl
  obtain ⟨k2, x2⟩ := hown.cells0 2 c (by rw [hws]; rfl) 4 5 rfl rfl
  rw [hws, typeW] at hR
  have HWS := Lib.hid hws
  clear hws
  by_cases ha : a.kind = 1
  case neg =>
    rw [if_neg (fun h => ha h.1)] at hR
    subst hR
    have na : (((a.kind : Nat) : Int) != 1) = true := bne_of_ne (by omega)
    clear hown h4 hdr ha
    go_wp2
    (try simp only [Exit.inBlock, Exit.then])
    refine bodyPost_ret (results_tmp4 rfl _ _ _) rfl ?_
    exact ⟨.inr ⟨rfl, rfl⟩, hb1⟩
  have na : (((a.kind : Nat) : Int) != 1) = false := by rw [ha]; rfl
  by_cases hbt : b.text = [47]
  case neg =>
    rw [if_neg (fun h => hbt h.2.1)] at hR
    subst hR
    have nb : (!(b.text == [47])) = true := lst_ne hbt
    clear hown h4 hdr ha hbt
    go_wp2
    (try simp only [Exit.inBlock, Exit.then])
    refine bodyPost_ret (results_tmp4 rfl _ _ _) rfl ?_
    exact ⟨.inr ⟨rfl, rfl⟩, hb1⟩
  by_cases hbk : b.kind = 3
  case neg =>
    rw [if_neg (fun h => hbk h.2.2.1)] at hR
    subst hR
    have nk : (((b.kind : Nat) : Int) != 3) = true := bne_of_ne (by omega)
    rw [hbt] at x1
    clear hown h4 hdr ha hbt hbk
    go_wp2
    (try simp only [Exit.inBlock, Exit.then])
    refine bodyPost_ret (results_tmp4 rfl _ _ _) rfl ?_
    exact ⟨.inr ⟨rfl, rfl⟩, hb1⟩
  have nk : (((b.kind : Nat) : Int) != 3) = false := by rw [hbk]; rfl
  by_cases hck : c.kind = 1
  case neg =>
    rw [if_neg (fun h => hck h.2.2.2)] at hR
    subst hR
    have nc : (((c.kind : Nat) : Int) != 1) = true := bne_of_ne (by omega)
    rw [hbt] at x1
    clear hown h4 hdr ha hbt hbk hck
    go_wp2
    (try simp only [Exit.inBlock, Exit.then])
    refine bodyPost_ret (results_tmp4 rfl _ _ _) rfl ?_
    exact ⟨.inr ⟨rfl, rfl⟩, hb1⟩
  have nc : (((c.kind : Nat) : Int) != 1) = false := by rw [hck]; rfl
  rw [if_pos ⟨ha, hbt, hbk, hck⟩, ← hdr] at hR
  rw [hbt] at x1
  have HR := Lib.hid hR
  obtain ⟨at9, hat9⟩ : ∃ x, a.text = x := ⟨_, rfl⟩
  obtain ⟨ct9, hct9⟩ : ∃ x, c.text = x := ⟨_, rfl⟩
  rw [hat9, hct9] at HR
  rw [hat9] at x0
  rw [hct9] at x2
  have hsz : at9.length ≤ l.length ∧ ct9.length ≤ l.length ∧ ∀ x ∈ ws, x.text.length ≤ l.length := by
    have := hlen9
    exact ⟨by rw [← hat9]; exact this a (by rw [HWS.out]; simp), by rw [← hct9]; exact this c (by rw [HWS.out]; simp), this⟩
  have HSH := Lib.hid hsz.2.2
  have hs1 := hsz.1
  have hs2 := hsz.2.1
  obtain ⟨P, hP⟩ : ∃ P, parW (ws.drop 3) = P := ⟨_, rfl⟩
  rw [hP] at HR
  have HP := Lib.hid hP
  have o0 : OwnPm (w1.alloc (.cells #[] 51)) w1.heap.size (.slice (some ⟨w1.heap.size, 0, none⟩) 0 0) [] := World.ownsRow_lit w1 #[] 0 (Nat.le_refl _) (by decide) rfl
  have b0 : Below w1.heap.size w1 (w1.alloc (.cells #[] 51)) := (Below.refl _ _).alloc (Nat.le_refl _) _
  have HOWN := Lib.hid hown
  have hm3 : ws.length % 4 = 3 := h4
  have HM3 := Lib.hid hm3
  clear hR hP hdr ha hbt hbk hck h4 hm3 hlen9 hsz hown hat9 hct9 h3
  go_wp2
  go_loopw [8, 9] (fun out i wr => ∃ (k : Nat) (acc : List Prm), k ≤ ws.length ∧ Hid (k % 4 = 3) ∧ i = .int .i64 k ∧ OwnPm wr w1.heap.size out acc ∧ Below w1.heap.size w1 wr ∧ Hid ((parW (ws.drop k)).map (acc ++ ·) = P) ∧ acc.length ≤ k) (fun _ i _ => ws.length - (intOf i).toNat)
  case atStart => exact ⟨3, [], by omega, by show _ = _; rfl, rfl, o0, b0, by show _ = _; rw [← HP.out]; cases parW (ws.drop 3) <;> simp, by simp⟩
  case round =>
    clear o0 b0
    obtain ⟨k, acc, hk, hkm, rfl, hop, hB, hd, hal⟩ := hrel
    have hzr := hB.size
    have hgr : g < wr.heap.size := by omega
    obtain ⟨pa, pc, rfl⟩ := hop.form
    have hcel := fun (p : Nat) (v : Value) (h : w1.cell? ⟨g, p, none⟩ = some v) => (hB.cell (p := ⟨g, p, none⟩) hg2).trans h
    by_cases hlt : k < ws.length
    · obtain ⟨d0, d1, d2, d3, hd0, hd1, hd2, hd3⟩ : ∃ d0 d1 d2 d3, ws[k]? = some d0 ∧ ws[k + 1]? = some d1 ∧ ws[k + 2]? = some d2 ∧ ws[k + 3]? = some d3 := by
        have e1 := hkm.out
        have e2 := HM3.out
        exact ⟨_, _, _, _, List.getElem?_eq_getElem hlt, List.getElem?_eq_getElem (by omega), List.getElem?_eq_getElem (by omega), List.getElem?_eq_getElem (by omega)⟩
      have hk3 : k + 3 < ws.length := (List.getElem?_eq_some_iff.1 hd3).1
      obtain ⟨y0, z0⟩ := HOWN.out.cells k d0 hd0
      obtain ⟨y1, z1⟩ := HOWN.out.cells (k + 1) d1 hd1
      obtain ⟨y2, z2⟩ := HOWN.out.cells (k + 2) d2 hd2
      obtain ⟨y3, z3⟩ := HOWN.out.cells (k + 3) d3 hd3
      replace y0 := hcel _ _ y0
      replace z0 := hcel _ _ z0
      replace y1 := hcel _ _ y1
      replace z1 := hcel _ _ z1
      replace y2 := hcel _ _ y2
      replace z2 := hcel _ _ z2
      replace y3 := hcel _ _ y3
      replace z3 := hcel _ _ z3
      have hdk : ws.drop k = d0 :: d1 :: d2 :: d3 :: ws.drop (k + 4) := by
        have dn : ∀ i (x : Wrd), ws[i]? = some x → ws.drop i = x :: ws.drop (i + 1) := by
          intro i x h
          obtain ⟨h1, h2⟩ := List.getElem?_eq_some_iff.1 h
          rw [List.drop_eq_getElem_cons h1, h2]
        rw [dn k d0 hd0, dn (k + 1) d1 hd1, dn (k + 2) d2 hd2, dn (k + 3) d3 hd3]
      have hp := hd.out
      rw [hdk, parW] at hp
      have l1 := HSH.out d1 (List.mem_of_getElem? hd1)
      have hlt' : (k : Int) < ws.length := by omega
      have hk1' : (k : Int) + 1 < ws.length := by omega
      have hk2' : (k : Int) + 2 < ws.length := by omega
      have hk3' : (k : Int) + 3 < ws.length := by omega
      have HKM := Lib.hid hkm.out
      clear hd0 hd1 hd2 hd3 hdk hd hkm hcel
      by_cases e0 : d0.kind = 3
      case neg =>
        rw [if_neg (fun h => e0 h.1)] at hp
        simp only [Option.map_none] at hp
        have hr := HR.out
        rw [← hp] at hr
        simp only [Option.map_none] at hr
        subst hr
        have n0 : (((d0.kind : Nat) : Int) != 3) = true := bne_of_ne (by omega)
        clear e0 hp
        go_wp2
        (try simp only [Exit.inBlock, Exit.then])
        refine bodyPost_ret (results_tmp4 rfl _ _ _) rfl ?_
        exact ⟨.inr ⟨rfl, rfl⟩, hb1.trans (hB.mono hz1)⟩
      have n0 : (((d0.kind : Nat) : Int) != 3) = false := by rw [e0]; rfl
      by_cases f0 : d0.text = [59]
      case neg =>
        rw [if_neg (fun h => f0 h.2.1)] at hp
        simp only [Option.map_none] at hp
        have hr := HR.out
        rw [← hp] at hr
        simp only [Option.map_none] at hr
        subst hr
        have m0 : (!(d0.text == [59])) = true := lst_ne f0
        clear e0 f0 hp
        go_wp2
        (try simp only [Exit.inBlock, Exit.then])
        refine bodyPost_ret (results_tmp4 rfl _ _ _) rfl ?_
        exact ⟨.inr ⟨rfl, rfl⟩, hb1.trans (hB.mono hz1)⟩
      rw [f0] at z0
      by_cases e1 : d1.kind = 1
      case neg =>
        rw [if_neg (fun h => e1 h.2.2.1)] at hp
        simp only [Option.map_none] at hp
        have hr := HR.out
        rw [← hp] at hr
        simp only [Option.map_none] at hr
        subst hr
        have n1 : (((d1.kind : Nat) : Int) != 1) = true := bne_of_ne (by omega)
        clear e0 f0 e1 hp
        go_wp2
        (try simp only [Exit.inBlock, Exit.then])
        refine bodyPost_ret (results_tmp4 rfl _ _ _) rfl ?_
        exact ⟨.inr ⟨rfl, rfl⟩, hb1.trans (hB.mono hz1)⟩
      have n1 : (((d1.kind : Nat) : Int) != 1) = false := by rw [e1]; rfl
      by_cases e2 : d2.kind = 3
      case neg =>
        rw [if_neg (fun h => e2 h.2.2.2.1)] at hp
        simp only [Option.map_none] at hp
        have hr := HR.out
        rw [← hp] at hr
        simp only [Option.map_none] at hr
        subst hr
        have n2 : (((d2.kind : Nat) : Int) != 3) = true := bne_of_ne (by omega)
        clear e0 f0 e1 e2 hp
        go_wp2
        (try simp only [Exit.inBlock, Exit.then])
        refine bodyPost_ret (results_tmp4 rfl _ _ _) rfl ?_
        exact ⟨.inr ⟨rfl, rfl⟩, hb1.trans (hB.mono hz1)⟩
      have n2 : (((d2.kind : Nat) : Int) != 3) = false := by rw [e2]; rfl
      by_cases f2 : d2.text = [61]
      case neg =>
        rw [if_neg (fun h => f2 h.2.2.2.2.1)] at hp
        simp only [Option.map_none] at hp
        have hr := HR.out
        rw [← hp] at hr
        simp only [Option.map_none] at hr
        subst hr
        have m2 : (!(d2.text == [61])) = true := lst_ne f2
        clear e0 f0 e1 e2 f2 hp
        go_wp2
        (try simp only [Exit.inBlock, Exit.then])
        refine bodyPost_ret (results_tmp4 rfl _ _ _) rfl ?_
        exact ⟨.inr ⟨rfl, rfl⟩, hb1.trans (hB.mono hz1)⟩
      rw [f2] at z2
      by_cases e3 : d3.kind = 3
      case pos =>
        rw [if_neg (fun h => h.2.2.2.2.2 e3)] at hp
        simp only [Option.map_none] at hp
        have hr := HR.out
        rw [← hp] at hr
        simp only [Option.map_none] at hr
        subst hr
        have n3 : (((d3.kind : Nat) : Int) == 3) = true := by rw [e3]; rfl
        clear e0 f0 e1 e2 f2 e3 hp
        go_wp2
        (try simp only [Exit.inBlock, Exit.then])
        refine bodyPost_ret (results_tmp4 rfl _ _ _) rfl ?_
        exact ⟨.inr ⟨rfl, rfl⟩, hb1.trans (hB.mono hz1)⟩
      have n3 : (((d3.kind : Nat) : Int) == 3) = false := by simp; omega
      rw [if_pos ⟨e0, f0, e1, e2, f2, e3⟩, map_app] at hp
      have HN := Lib.hid hp
      obtain ⟨t1, ht1⟩ : ∃ t, d1.text = t := ⟨_, rfl⟩
      obtain ⟨t3, ht3⟩ : ∃ t, d3.text = t := ⟨_, rfl⟩
      rw [ht1] at z1 l1 HN
      rw [ht3] at z3 HN
      have hB5 : Below w1.heap.size w1 wr.drew := below_drewN hB 1
      have hop5 : OwnPm wr.drew w1.heap.size _ acc := World.ownsRow.drew hop
      have HSM := Lib.hid (refSmall_any t1 wr.drew (by omega))
      obtain ⟨j1, hj1⟩ : ∃ j, k + 1 = j := ⟨_, rfl⟩
      obtain ⟨j3, hj3⟩ : ∃ j, k + 3 = j := ⟨_, rfl⟩
      have w1' : IntKind.i64.wrap ((k : Int) + 1) = (j1 : Int) := by rw [IntKind.wrap_i64]; omega
      have w3' : IntKind.i64.wrap ((k : Int) + 3) = (j3 : Int) := by rw [IntKind.wrap_i64]; omega
      have b1' : (j1 : Int) < ws.length := by omega
      have b3' : (j3 : Int) < ws.length := by omega
      rw [hj1] at z1 y1
      rw [hj3] at z3 y3
      clear e0 f0 e1 e2 f2 e3 hp ht1 ht3
      go_wp2_with fail
      go_region_law (first | (refine step_append_lies _ (by rfl) _ _ _ (by rfl) w1.heap.size 51 i0 _ 2 32 Tryz.underlying23 hi0 hy0 hy1 hy2 rfl (by omega) (.slice pa acc.length pc) acc.length (cellsPm acc) (by rfl) (World.ownsRow.alloc hop6 _) ⟨v6.heap.size, 0, none⟩ 1 1 [.string (bs (lowL t1)), .string (bs t3)] (by rfl) (by rfl) (World.news_of_block (cs := #[.string (bs (lowL t1)), .string (bs t3)]) (t := 51) (fr := (0, 0)) (heap_new v6 _)) (by simp [Value.oneCell']) (by omega) (by unfold maxLen; omega) (by omega) (by simp; omega) (v6.heap.size + 1) (by simp) ?_; intro gg cap w9 hown9 hgrow hat hlt9) | (go_simp; go_wp2_with (go_at_call 32; refine HSM.out.mono ?_; rintro e v6 ⟨rfl, hb6⟩; have hop6 := hop5.below hb6; have hz5 := hB5.size; have hz6 := hb6.size; have hlo6 := fun j hj => World.ownsRow.lt hop6 j hj; have hB6 : Below w1.heap.size w1 v6 := hB5.trans (hb6.mono (by omega)); have q3 : v6.cell? ⟨g, j3 * 2 + 1, none⟩ = some (.string (bs t3)) := (hb6.cell (p := ⟨g, j3 * 2 + 1, none⟩) (by simpa using hgr)).trans z3)))
      all_goals
        go_wp2
        go_roundw
        case measure => first | (simp [intOf]; omega) | omega
        case rel =>
          have hp9 : OwnPm w9 w1.heap.size (.slice (some ⟨gg, 0, none⟩) (acc.length + 1) cap) (acc ++ [(lowL t1, t3)]) := OwnPm.step hown9
          refine ⟨k + 4, acc ++ [(lowL t1, t3)], by omega, by show _ = _; have := HKM.out; omega, by go_num, hp9, ?_, HN.out, by simp; omega⟩
          exact hB6.trans ⟨hgrow.os, hgrow.tape, hgrow.output, by have := hgrow.size; simp at this; omega, fun k hk => (hgrow.block k (by simp; omega) (fun e => by have := (hlo6 _ e.symm).1; omega)).trans (heap_old v6 _ _ (by omega))⟩
    · obtain rfl : k = ws.length := by omega
      have hp := hd.out
      rw [List.drop_length] at hp
      simp only [parW, Option.map_some, List.append_nil] at hp
      have hr := HR.out
      rw [← hp] at hr
      simp only [Option.map_some] at hr
      subst hr
      have H1 := Lib.hid (fun G : Grow wr => refSmall_any at9 G.v (by omega))
      have H2 := Lib.hid (fun G : Grow wr => refSmall_any ct9 G.v (by omega))
      have q0 := hcel _ _ x0
      have q2 := hcel _ _ x2
      have g0 := fun G : Grow wr => G.cell q0
      have g2 := fun G : Grow wr => G.cell q2
      clear hd hp hcel x0 x2 k0 k1 k2 x1
      go_wp2
      refine wp_region_grow (by kernel_rfl) (by kernel_rfl) ?_
      repeat (go_big_quiet_step ((first | (go_at_call 32; first | with_reducible exact grow_call (H1.out _) | with_reducible exact grow_call (H2.out _)))))
      refine wpQuiet_nil ?_
      rintro _ ⟨gw, rfl⟩
      go_wp2
      (try simp only [Exit.inBlock, Exit.then])
      refine bodyPost_ret (results_tmp4 rfl _ _ _) rfl ?_
      exact ⟨.inl ⟨_, _, acc, _, rfl, rfl, (OwnPm.below hop gw.h).base hz1⟩, (hb1.trans (hB.mono hz1)).trans (gw.h.mono (by omega))⟩

end Go.Proofs.YtalgmnlclflllaaGreatDoor
end

/- MimeTypes: the law. -/
set_option linter.unusedVariables false
set_option linter.unusedSimpArgs false
section
namespace Go.Proofs.YtalgmnlclflllaaGreatDoor
open Go.RowKit Go

theorem parP_few : ∀ (f : Nat) (acc : List Prm) (l : List UInt8) (ps : List Prm), parP f acc l = some ps → ps.length ≤ acc.length + f
  | 0, acc, l, ps, h => by cases h
  | f + 1, acc, l, ps, h => by
    rw [parP] at h
    split at h
    · cases h1 : tokP (isC 59 l).2 with
      | none => rw [h1] at h; cases h
      | some n =>
        rw [h1] at h
        simp only [Option.bind_some] at h
        split at h
        · cases h2 : valP (isC 61 n.2).2 with
          | none => rw [h2] at h; cases h
          | some v =>
            rw [h2] at h
            simp only [Option.bind_some] at h
            have := parP_few f _ _ _ h
            simp at this
            omega
        · cases h
    · split at h
      · cases h; omega
      · cases h
theorem typeP_few {l t u : List UInt8} {ps : List Prm} (h : typeP l = some (t, u, ps)) : ps.length ≤ l.length + 1 := by
  unfold typeP at h
  cases h1 : tokP l with
  | none => rw [h1] at h; cases h
  | some n =>
    rw [h1] at h
    simp only [Option.bind_some] at h
    split at h
    · cases h2 : tokP (isC 47 n.2).2 with
      | none => rw [h2] at h; cases h
      | some v =>
        rw [h2] at h
        simp only [Option.bind_some] at h
        cases h3 : parP (l.length + 1) [] v.2 with
        | none => rw [h3] at h; cases h
        | some q =>
          rw [h3] at h
          have h4 := parP_few _ _ _ _ h3
          simp only [Option.bind_some, Option.some.injEq, Prod.mk.injEq] at h
          rw [← h.2.2]
          simpa using h4
    · cases h

set_option maxRecDepth 100000 in
set_option maxHeartbeats 4000000 in
theorem mimeTypes_list (s : List UInt8) (a : Nat → Addr) (mx : Int) (w : World) (hE : Errs w a) (h : MimeW w (a 1) (a 10) mx) : Calls Tryz.prog 9 #[.string (bs s)] w fun e w' => e = .returned (.bool true) ∧ Below w.heap.size w w' := by
  have HA := Lib.hid (aliveM_any (a 1) (a 10) mx w h)
  have H := Lib.hid h
  have HE := Lib.hid hE
  have hsz : (bs s).size = s.length := bs_size s
  clear h hE
  by_cases hl : 5000 < s.length
  · have hl' : (5000 : Int) < s.length := by omega
    clear hl
    go_enter Tryz.func9, Tryz.ntmps9
    go_wp2_with fail
    refine HA.out.mono ?_
    rintro e w1 ⟨rfl, hb1⟩
    go_wp2
    go_ret
    exact ⟨rfl, hb1⟩
  have hl' : (s.length : Int) ≤ 5000 := by omega
  have hl2 : s.length ≤ 100000000 := by omega
  clear hl
  have HR := Lib.hid (fun w0 => refType_any s w0 hl2)
  have HTE : typeP s = (wordsT s).bind typeW := type_eq s
  have HTY := Lib.hid (fun w0 (h0 : w0.cell? ⟨0, 0, none⟩ = some (errV (a 1))) => type_any s (a 1) w0 hl2 h0)
  rw [← HTE] at HR
  obtain ⟨R, hR⟩ : ∃ R, typeP s = R := ⟨_, rfl⟩
  rw [hR] at HR HTY
  have hfew : ∀ t u ps, R = some (t, u, ps) → ps.length ≤ 5001 := fun t u ps e => by
    have := typeP_few (hR.trans e)
    omega
  clear HTE hR
  go_enter Tryz.func9, Tryz.ntmps9
  go_wp2_with fail
  refine HA.out.mono ?_
  rintro e w1 ⟨rfl, hb1⟩
  have H1 := H.out.below hb1
  have HE1 := HE.out.below hb1
  go_wp2_with fail
  refine (HTY.out _ H1.env.1).mono ?_
  intro e w2 ht
  cases R with
  | none =>
    clear hfew
    rcases ht with ⟨_, _, _, _, h0, _⟩ | ⟨_, rfl, hb2⟩
    · cases h0
    have HE2 := Lib.hid (HE1.below hb2)
    clear HTY H1 HE1
    go_wp2_with fail
    refine (HR.out _).mono ?_
    rintro e w3 ⟨hr, hb3⟩
    rcases hr with ⟨_, _, _, _, h0, _⟩ | ⟨_, rfl⟩
    · cases h0
    have HN := Lib.hid (num_err w3 a 1 (by decide) (HE2.out.below hb3))
    have hB := (hb1.trans (hb2.mono hb1.size)).trans (hb3.mono (Nat.le_trans hb1.size hb2.size))
    clear HR HE2
    unfold errV at *
    go_wp2_with (go_at_call 28; refine HN.out.mono ?_; rintro e w4 ⟨rfl, hb4⟩)
    go_loopw [63] (fun i wr => i = .int .i64 0 ∧ Below w4.heap.size w4 wr) (fun _ _ => 0)
    case atStart => exact ⟨rfl, Below.refl _ _⟩
    case round =>
      obtain ⟨rfl, hB4⟩ := hrel
      go_wp2
      go_ret
      exact ⟨rfl, hB.trans ((hb4.trans (hB4.mono hb4.size)).mono hB.size)⟩
  | some r =>
    obtain ⟨t, u, ps⟩ := r
    have hpsl := hfew _ _ _ rfl
    clear hfew
    rcases ht with ⟨t1, s1, ps1, pv, h0, rfl, hpv, hb2⟩ | ⟨h0, _⟩
    case inr => cases h0
    cases h0
    have hpm := hpv.pmAt
    obtain ⟨pa, pc, rfl⟩ := hpv.form
    clear HTY H1 HE1
    go_wp2_with fail
    refine (HR.out _).mono ?_
    rintro e w3 ⟨hr, hb3⟩
    rcases hr with ⟨t1, s1, ps1, pv2, h0, rfl, hpv2⟩ | ⟨h0, _⟩
    case inr => cases h0
    cases h0
    have hpm2 := hpv2.pmAt
    obtain ⟨qa, qc, rfl⟩ := hpv2.form
    have hpm1 := hpm.below hb3
    have hB := (hb1.trans (hb2.mono hb1.size)).trans (hb3.mono (Nat.le_trans hb1.size hb2.size))
    obtain ⟨_, _, e1, hf1⟩ := hpm1
    obtain ⟨_, _, e2, hf2⟩ := hpm2
    simp only [Value.slice.injEq] at e1 e2
    obtain ⟨rfl, _, rfl⟩ := e1
    obtain ⟨rfl, _, rfl⟩ := e2
    have HF1 := Lib.hid hf1
    have HF2 := Lib.hid hf2
    clear hf1 hf2 hpm hpv hpv2 HR
    go_wp2
    go_loopw [63] (fun i wr => ∃ k : Nat, k ≤ ps.length ∧ i = .int .i64 k ∧ Below w3.heap.size w3 wr) (fun i _ => ps.length - (intOf i).toNat)
    case atStart => exact ⟨0, Nat.zero_le _, rfl, Below.refl _ _⟩
    case round =>
      obtain ⟨k, hk, rfl, hBr⟩ := hrel
      by_cases hlt : k < ps.length
      · obtain ⟨x, hx⟩ : ∃ x, ps[k]? = some x := ⟨_, List.getElem?_eq_getElem hlt⟩
        obtain ⟨b1, o1, rfl, _, hb1', hc1⟩ := HF1.out (by rintro rfl; simp at hlt)
        obtain ⟨b2, o2, rfl, _, hb2', hc2⟩ := HF2.out (by rintro rfl; simp at hlt)
        obtain ⟨c0, c1⟩ := hc1 k x hx
        obtain ⟨d0, d1⟩ := hc2 k x hx
        replace c0 := (hBr.cell (p := ⟨b1, o1 + k * 2, none⟩) hb1').trans c0
        replace c1 := (hBr.cell (p := ⟨b1, o1 + k * 2 + 1, none⟩) hb1').trans c1
        replace d0 := (hBr.cell (p := ⟨b2, o2 + k * 2, none⟩) hb2').trans d0
        replace d1 := (hBr.cell (p := ⟨b2, o2 + k * 2 + 1, none⟩) hb2').trans d1
        have hlt' : (k : Int) < ps.length := by omega
        have hltn : k + 1 ≤ ps.length := by omega
        obtain ⟨x1, x2⟩ := x
        clear hc1 hc2 hx
        go_wp2
        go_quiet (fail)
        go_wp2
        go_roundw
        case rel => exact ⟨k + 1, hltn, by go_num, below_drewN hBr _⟩
        case measure =>
          first | (simp [intOf]; omega) | omega
      · obtain rfl : k = ps.length := by omega
        go_wp2
        go_ret
        exact ⟨rfl, hB.trans (hBr.mono hB.size)⟩

theorem mimeTypes_any (s : ByteArray) (w : World) (_ : s.size ≤ 9223372036854775807) (a : Nat → Addr) (hE : Errs w a) (hT : TabQ w) (mx : Int) (hm : w.cell? ⟨14, 0, none⟩ = some (.int .i64 mx)) :
    Calls Tryz.prog 9 #[.string s] w fun e w' => e = .returned (.bool true) ∧ Below w.heap.size w w' := by
  have h := mimeTypes_list s.data.toList a mx w hE ⟨⟨hE.cell 1 (by decide), hE.cell 10 (by decide)⟩, hT, hm⟩
  have e : bs s.data.toList = s := by apply ByteArray.ext; simp
  rw [e] at h
  exact h

end Go.Proofs.YtalgmnlclflllaaGreatDoor
end
