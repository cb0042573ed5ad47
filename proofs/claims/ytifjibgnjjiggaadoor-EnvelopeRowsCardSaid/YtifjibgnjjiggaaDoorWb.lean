/- Texts of one walk, merged: XVC XVJ XV2 XV3 XCt XCb XH1 XH9. -/
import Derived.Test.YtifjibgnjjiggaaDoorWa
import Derived.Laws.AppendOwn
import Derived.Laws.OwnMore
import Derived.Deep.AppendLies
import Derived.Test.YtifjibgnjjiggaaDoorShelf
import Derived.BigQuiet
import Derived.Laws.IdiomStrings
import Derived.Shelf.Strings.SlTrimAscii
import Derived.LoopTactic
import Derived.Deep.QuietTactic

/- What a name means: the program's walk, the document's. -/
set_option linter.unusedVariables false
set_option linter.unusedSimpArgs false
section
set_option linter.unusedVariables false
set_option linter.unusedSimpArgs false
namespace Go.Proofs.YtifjibgnjjiggaaDoor
open Go.RowKit

theorem meantGo_end (acc : List UInt8) : meantGo acc [34] = some acc := rfl
theorem meantGo_quote (acc : List UInt8) (d : UInt8) (r : List UInt8) : meantGo acc (34 :: d :: r) = none := by rw [meantGo, if_pos rfl]
theorem meantGo_esc (acc : List UInt8) (d : UInt8) (r : List UInt8) : meantGo acc (92 :: d :: r) = meantGo (acc ++ [d]) r := by rw [meantGo, if_neg (by decide), if_pos rfl]
theorem meantGo_esc1 (acc : List UInt8) : meantGo acc [92] = meantGo (acc ++ [92]) [] := by simp [meantGo]
theorem meantGo_other (acc : List UInt8) (c : UInt8) (r : List UInt8) (h1 : c ≠ 34) (h2 : c ≠ 92) : meantGo acc (c :: r) = meantGo (acc ++ [c]) r := by
  cases r with
  | nil => simp [meantGo, h1]
  | cons d r => rw [meantGo, if_neg h1, if_neg h2]

set_option maxRecDepth 100000 in
set_option maxHeartbeats 4000000 in
theorem meant_any (n : List UInt8) (w : World) (hl : n.length ≤ 100000000) :
    Calls Tryd.prog 41 #[.string (bs n)] w fun e w' => e = .returned (.string (bs (meantL n))) ∧ Below w.heap.size w w' := by
  rcases n with _ | ⟨c, _ | ⟨d, r⟩⟩
  · show Calls _ _ _ _ fun e w' => e = .returned (.string (bs [])) ∧ _
    go_enter Tryd.func41, Tryd.ntmps41
    go_wp2
    go_ret
    exact ⟨rfl, Below.refl _ _⟩
  · show Calls _ _ _ _ fun e w' => e = .returned (.string (bs [c])) ∧ _
    go_enter Tryd.func41, Tryd.ntmps41
    go_wp2
    go_ret
    exact ⟨rfl, Below.refl _ _⟩
  · by_cases h34 : c = 34
    · subst h34
      obtain ⟨n, hn⟩ : ∃ n, 34 :: d :: r = n := ⟨_, rfl⟩
      have hm : meantL n = (meantGo [] (n.drop 1)).getD n := by rw [← hn]; rfl
      have h0 : n[0]? = some 34 := by rw [← hn]; rfl
      have h2 : 2 ≤ n.length := by rw [← hn]; simp
      rw [hn] at hl ⊢
      rw [hm]
      clear hm hn
      obtain ⟨hx0, hx⟩ := List.getElem?_eq_some_iff.1 h0
      have hxb : (bs n)[0]'(by rw [bs_size]; exact hx0) = 34 := hx
      obtain ⟨R, hR⟩ : ∃ R, meantGo [] (n.drop 1) = R := ⟨_, rfl⟩
      rw [hR]
      have HR := Lib.hid hR
      clear hR hx h0
      go_enter Tryd.func41, Tryd.ntmps41
      go_wp2
      go_loopw [3, 4] (fun out i wr => ∃ (k : Nat) (acc : List UInt8), 1 ≤ k ∧ k ≤ n.length ∧ i = .int .i64 k ∧ OwnB wr w.heap.size out acc ∧ Hid (meantGo acc (n.drop k) = R) ∧ acc.length ≤ k ∧ Below w.heap.size w wr) (fun _ i _ => n.length - (intOf i).toNat)
      case atStart => exact ⟨1, [], Nat.le_refl _, by omega, rfl, World.ownsRow_nil _ _ _ _, HR.out, by simp, Below.refl _ _⟩
      case round =>
        clear hxb
        obtain ⟨k, acc, hk1, hk, rfl, hown, hd, hal, hB⟩ := hrel
        have hzr := hB.size
        by_cases hlt : k < n.length
        · obtain ⟨c, hc⟩ : ∃ c, (bs n)[k]'(by rw [bs_size]; exact hlt) = c := ⟨_, rfl⟩
          have hc' : n[k]? = some c := List.getElem?_eq_some_iff.2 ⟨hlt, hc⟩
          have h1 := hd.out
          rw [drop_at hc'] at h1
          have hlt' : (k : Int) < n.length := by omega
          by_cases h34 : c = 34
          · subst h34
            by_cases hlast : k + 1 = n.length
            · rw [hlast, List.drop_length, meantGo_end] at h1
              subst h1
              have hcv := convert_bytes hown.bytes
              have hke : ((k : Int) == (n.length : Int) - 1) = true := by rw [beq_iff_eq]; omega
              clear hd
              go_wp2
              go_ret
              exact ⟨rfl, hB⟩
            · obtain ⟨x, hx⟩ : ∃ x, n[k + 1]? = some x := ⟨_, List.getElem?_eq_getElem (by omega)⟩
              rw [drop_at hx, meantGo_quote] at h1
              subst h1
              have hke : ((k : Int) == (n.length : Int) - 1) = false := by rw [beq_eq_false_iff_ne]; omega
              clear hd hx
              go_wp2
              go_ret
              exact ⟨rfl, hB⟩
          · obtain ⟨n1, n2⟩ := chr_ne (d := 34) (n := 34) rfl h34
            by_cases h92 : c = 92
            · subst h92
              by_cases hlast : k + 1 = n.length
              · rw [hlast, List.drop_length, meantGo_esc1] at h1
                have H1 := Lib.hid h1
                have hke : ¬ ((k : Int) + 1 < (n.length : Int)) := by omega
                clear hd h1
                go_wp2_with (at_builtin; refine app_byte _ w.heap.size _ _ 92 _ rfl hown hzr (by omega) rfl _ _ rfl rfl rfl ?_; intro v' w2 own2 ap2)
                go_roundw
                case rel => exact ⟨k + 1, acc ++ [92], by omega, by omega, by go_num, own2, by show _ = _; rw [hlast, List.drop_length]; exact H1.out, by simp; omega, ap2.below _ _ (Nat.le_refl _) hB⟩
                case measure => simp [intOf]; omega
              · have hlt2 : k + 1 < n.length := by omega
                obtain ⟨x, hxc⟩ : ∃ x, (bs n)[k + 1]'(by rw [bs_size]; exact hlt2) = x := ⟨_, rfl⟩
                have hx : n[k + 1]? = some x := List.getElem?_eq_some_iff.2 ⟨hlt2, hxc⟩
                rw [drop_at hx, meantGo_esc] at h1
                have H1 := Lib.hid h1
                have hke : ((k : Int) + 1 < (n.length : Int)) := by omega
                clear hd h1 hx
                go_wp2_with (at_builtin; refine app_byte _ w.heap.size _ _ x _ rfl hown hzr (by omega) rfl _ _ rfl rfl rfl ?_; intro v' w2 own2 ap2)
                go_roundw
                case rel => exact ⟨k + 2, acc ++ [x], by omega, by omega, by go_num, own2, H1.out, by simp; omega, ap2.below _ _ (Nat.le_refl _) hB⟩
                case measure => simp [intOf]; omega
            · obtain ⟨m1, m2⟩ := chr_ne (d := 92) (n := 92) rfl h92
              rw [meantGo_other _ _ _ h34 h92] at h1
              have H1 := Lib.hid h1
              clear hd h1 h34 h92 hc'
              go_wp2_with (at_builtin; refine app_byte _ w.heap.size _ _ c _ rfl hown hzr (by omega) rfl _ _ rfl rfl rfl ?_; intro v' w2 own2 ap2)
              go_roundw
              case rel => exact ⟨k + 1, acc ++ [c], by omega, by omega, by go_num, own2, H1.out, by simp; omega, ap2.below _ _ (Nat.le_refl _) hB⟩
              case measure => simp [intOf]; omega
        · obtain rfl : k = n.length := by omega
          have h1 := hd.out
          rw [List.drop_length, meantGo] at h1
          subst h1
          clear hd
          go_wp2
          go_ret
          exact ⟨rfl, hB⟩
    · have hm : meantL (c :: d :: r) = c :: d :: r := by unfold meantL; simp only; rw [if_neg h34]
      rw [hm]
      obtain ⟨n1, n2⟩ := chr_ne (d := 34) (n := 34) rfl h34
      have hx : (bs (c :: d :: r))[0]'(by rw [bs_size]; simp) = c := rfl
      clear h34 hm
      go_enter Tryd.func41, Tryd.ntmps41
      go_wp2
      go_ret
      exact ⟨rfl, Below.refl _ _⟩

end Go.Proofs.YtifjibgnjjiggaaDoor
end

/- Rows of addresses that a call made. -/
set_option linter.unusedVariables false
set_option linter.unusedSimpArgs false
section
namespace Go.Proofs.YtifjibgnjjiggaaDoor
open Go.RowKit

theorem info_adr : (Tryd.prog.info? 25).map (fun i => (i.zero, i.size, i.bytes)) = some (some (.agg #[.string ⟨#[]⟩, .string ⟨#[]⟩, .string ⟨#[]⟩]), 3, 48) := by kernel_rfl

def cellsAdr (f : Adr) : List Value := [.string (bs f.name), .string (bs f.loc), .string (bs f.dom)]
/-- fields as cells -/
def cellsA (fs : List Adr) : List Value := fs.flatMap cellsAdr
theorem cellsA_length (fs : List Adr) : (cellsA fs).length = fs.length * 3 := by
  induction fs with
  | nil => rfl
  | cons f r ih => simp only [cellsA, List.flatMap_cons, List.length_append, List.length_cons] at ih ⊢; rw [ih]; simp [cellsAdr]; omega
theorem cellsA_append (a b : List Adr) : cellsA (a ++ b) = cellsA a ++ cellsA b := by simp [cellsA]
theorem cellsA_at (fs : List Adr) (i j : Nat) (f : Adr) (hf : fs[i]? = some f) (hj : j < 3) : (cellsA fs)[i * 3 + j]? = (cellsAdr f)[j]? := by
  induction fs generalizing i with
  | nil => simp at hf
  | cons x r ih =>
    have hc : cellsA (x :: r) = cellsAdr x ++ cellsA r := rfl
    have hx : (cellsAdr x).length = 3 := rfl
    rw [hc]
    cases i with
    | zero =>
      obtain rfl : x = f := by simpa using hf
      rw [Nat.zero_mul, Nat.zero_add, List.getElem?_append_left (by omega)]
    | succ i =>
      rw [List.getElem?_append_right (by omega), hx, show (i + 1) * 3 + j - 3 = i * 3 + j by omega]
      exact ih i (by simpa using hf)

/-- a slice of fields that the call itself made, in blocks from B on -/
def OwnA (w : World) (B : Nat) (v : Value) (fs : List Adr) : Prop := w.ownsRow B 25 3 v fs.length (cellsA fs)

theorem OwnA.parts {w : World} {B : Nat} {v : Value} {fs : List Adr} (h : OwnA w B v fs) : (v = .slice none 0 0 ∧ fs = []) ∨ ∃ g cap, v = .slice (some ⟨g, 0, none⟩) fs.length cap ∧ B ≤ g ∧ g < w.heap.size := by
  have hlt := World.ownsRow.lt h
  rcases h.2 with ⟨rfl, h0⟩ | ⟨g, cap, cur, rfl, hb, hg, hc, _, _, ht⟩
  · exact .inl ⟨rfl, List.eq_nil_of_length_eq_zero h0⟩
  · exact .inr ⟨g, cap, rfl, hb, (hlt g rfl).2⟩
theorem OwnA.later {w w' : World} {B : Nat} {v : Value} {fs : List Adr} (h : OwnA w B v fs) (hb : ∀ k, v.ownBlock = some k → w'.heap[k]? = w.heap[k]?) : OwnA w' B v fs := by
  refine ⟨h.1, ?_⟩
  rcases h.2 with h0 | ⟨g, cap, cur, rfl, h1, h2, r⟩
  · exact .inl h0
  · exact .inr ⟨g, cap, cur, rfl, h1, (hb g rfl).trans h2, r⟩
theorem OwnA.below {w w' : World} {B : Nat} {v : Value} {fs : List Adr} (h : OwnA w B v fs) (hb : Below w.heap.size w w') : OwnA w' B v fs :=
  h.later fun k hk => hb.block k (World.ownsRow.lt h k hk).2
theorem OwnA.cell {w : World} {B g n cap : Nat} {fs : List Adr} (h : OwnA w B (.slice (some ⟨g, 0, none⟩) n cap) fs) (i j : Nat) (f : Adr) (hf : fs[i]? = some f) (hj : j < 3) : w.cell? ⟨g, i * 3 + j, none⟩ = (cellsAdr f)[j]? := by
  have hc := cellsA_at fs i j f hf hj
  have hlt : j < (cellsAdr f).length := hj
  rw [List.getElem?_eq_getElem hlt] at hc ⊢
  have := World.ownsRow.cells h (g := g) rfl (i * 3 + j) _ hc
  rw [← this]
  by_cases h0 : i * 3 + j = 0
  · rw [h0]; rfl
  · have e : (⟨g, 0, none⟩ : Addr).add (i * 3 + j) = ⟨g, i * 3 + j, none⟩ := by
      unfold Addr.add
      rw [if_neg h0]
      simp
    rw [e]


theorem OwnA.base {w : World} {b b' : Nat} {v : Value} {l : List Adr} (h : OwnA w b v l) (hb : b' ≤ b) : OwnA w b' v l := by
  refine ⟨h.1, ?_⟩
  rcases h.2 with h0 | ⟨g, cap, cur, e, h1, r⟩
  · exact .inl h0
  · exact .inr ⟨g, cap, cur, e, Nat.le_trans hb h1, r⟩
theorem OwnA.step {w' : World} {base : Nat} {v' : Value} {l : List Adr} {a : Adr} (h : w'.ownsRow base 25 3 v' (l.length + 1) (cellsA l ++ cellsAdr a)) : OwnA w' base v' (l ++ [a]) := by
  unfold OwnA
  rw [cellsA_append, List.length_append]
  have e : cellsA [a] = cellsAdr a := by simp [cellsA]
  rw [e]
  exact h
theorem OwnA.cells {w : World} {B g n cap : Nat} {l : List Adr} (h : OwnA w B (.slice (some ⟨g, 0, none⟩) n cap) l) (i : Nat) (a : Adr) (ha : l[i]? = some a) :
    w.cell? ⟨g, i * 3, none⟩ = some (.string (bs a.name)) ∧ w.cell? ⟨g, i * 3 + 1, none⟩ = some (.string (bs a.loc)) ∧ w.cell? ⟨g, i * 3 + 2, none⟩ = some (.string (bs a.dom)) :=
  ⟨h.cell i 0 a ha (by decide), h.cell i 1 a ha (by decide), h.cell i 2 a ha (by decide)⟩
def adrV (a : Adr) : Value := .agg #[.string (bs a.name), .string (bs a.loc), .string (bs a.dom)]

/-- an address being made, at block b -/
def AdrAt (w : World) (b : Nat) (a : Adr) : Prop := w.heap[b]? = some (.cells #[.string (bs a.name), .string (bs a.loc), .string (bs a.dom)] 25 (0, 0))
theorem AdrAt.lt {w : World} {b : Nat} {a : Adr} (h : AdrAt w b a) : b < w.heap.size := (Array.getElem?_eq_some_iff.1 h).1
theorem AdrAt.cells {w : World} {b : Nat} {a : Adr} (h : AdrAt w b a) : w.cell? ⟨b, 0, none⟩ = some (.string (bs a.name)) ∧ w.cell? ⟨b, 1, none⟩ = some (.string (bs a.loc)) ∧ w.cell? ⟨b, 2, none⟩ = some (.string (bs a.dom)) ∧ w.frozen? ⟨b, 0, none⟩ = false ∧ w.frozen? ⟨b, 1, none⟩ = false ∧ w.frozen? ⟨b, 2, none⟩ = false := by
  unfold AdrAt at h
  refine ⟨?_, ?_, ?_, ?_, ?_, ?_⟩ <;> simp [World.cell?, World.frozen?, h]
theorem AdrAt.set0 {w : World} {b : Nat} {a : Adr} (h : AdrAt w b a) (x : List UInt8) : AdrAt (w.setCell ⟨b, 0, none⟩ (.string (bs x))) b ⟨x, a.loc, a.dom⟩ := by
  unfold AdrAt at *; simp [World.setCell, Array.getElem?_modify, h]
theorem AdrAt.set1 {w : World} {b : Nat} {a : Adr} (h : AdrAt w b a) (x : List UInt8) : AdrAt (w.setCell ⟨b, 1, none⟩ (.string (bs x))) b ⟨a.name, x, a.dom⟩ := by
  unfold AdrAt at *; simp [World.setCell, Array.getElem?_modify, h]
theorem AdrAt.set2 {w : World} {b : Nat} {a : Adr} (h : AdrAt w b a) (x : List UInt8) : AdrAt (w.setCell ⟨b, 2, none⟩ (.string (bs x))) b ⟨a.name, a.loc, x⟩ := by
  unfold AdrAt at *; simp [World.setCell, Array.getElem?_modify, h]
theorem AdrAt.below {w w' : World} {b : Nat} {a : Adr} (h : AdrAt w b a) (hb : Below w.heap.size w w') : AdrAt w' b a := (hb.block b h.lt).trans h
theorem AdrAt.new (w : World) : AdrAt (w.alloc (.cells #[.string ⟨#[]⟩, .string ⟨#[]⟩, .string ⟨#[]⟩] 25)) w.heap.size ⟨[], [], []⟩ := heap_new _ _
theorem below_cell {w w' : World} {B b : Nat} (h : Below B w w') (hb : B ≤ b) (i : Nat) (x : Value) : Below B w (w'.setCell ⟨b, i, none⟩ x) := h.setCell (p := ⟨b, i, none⟩) hb x

end Go.Proofs.YtifjibgnjjiggaaDoor
end

/- envelope (plain): how addresses are collected; addresses put one behind the other come back. -/
set_option linter.unusedVariables false
set_option linter.unusedSimpArgs false
section
namespace Go.Proofs.YtifjibgnjjiggaaDoor
open Go

/-- what is collected of pieces -/
def colL (ps : List (List UInt8)) : List Adr := (((ps.map trimB).filter neB).take 50).map adrL
theorem adrsL_col (v : List UInt8) : adrsL v = colL (piecesL v) := rfl
theorem colL_snoc (ps : List (List UInt8)) (p : List UInt8) : colL (ps ++ [p]) = if neB (trimB p) = true ∧ (colL ps).length < 50 then colL ps ++ [adrL (trimB p)] else colL ps := by
  unfold colL
  rw [List.map_append, List.filter_append]
  obtain ⟨F, hF⟩ : ∃ F, (ps.map trimB).filter neB = F := ⟨_, rfl⟩
  rw [hF]
  by_cases hn : neB (trimB p) = true
  · have e : ([p].map trimB).filter neB = [trimB p] := by simp [hn]
    rw [e, List.take_append]
    by_cases hl : F.length < 50
    · have h2 : ((F.take 50).map adrL).length < 50 := by simp; omega
      rw [if_pos ⟨hn, h2⟩, List.map_append]
      congr 1
      obtain ⟨k, hk⟩ : ∃ k, 50 - F.length = k + 1 := ⟨49 - F.length, by omega⟩
      rw [hk]; simp
    · have h2 : ¬ ((F.take 50).map adrL).length < 50 := by simp; omega
      rw [if_neg (fun h => h2 h.2), show 50 - F.length = 0 by omega]
      simp
  · have e : ([p].map trimB).filter neB = [] := by simp [hn]
    rw [e, List.append_nil, if_neg (fun h => hn h.1)]

/-! ### addresses without marks of their own -/
def wordC (c : UInt8) : Bool := (decide (97 ≤ c.toNat) && decide (c.toNat ≤ 122)) || (decide (48 ≤ c.toNat) && decide (c.toNat ≤ 57))
def wordP (t : List UInt8) : Prop := t ≠ [] ∧ t.all wordC = true
theorem word_ne {c k : UInt8} (h : wordC c = true) (hk : wordC k = false) : c ≠ k := by
  rintro rfl; rw [h] at hk; cases hk
theorem run_word (f : St) (hf : ∀ c, wordC c = true → stepS f c = f ∧ (outB f c && c == 44) = false) : ∀ (t cur r : List UInt8), t.all wordC = true → piecesS f cur (t ++ r) = piecesS f (cur ++ t) r
  | [], cur, r, _ => by simp
  | c :: t, cur, r, h => by
    rw [List.all_cons, Bool.and_eq_true] at h
    obtain ⟨h1, h2⟩ := hf c h.1
    rw [List.cons_append, piecesS, h2, h1]
    simp only [Bool.false_eq_true, if_false]
    rw [run_word f hf t (cur ++ [c]) r h.2]
    simp
theorem st0_word (c : UInt8) (h : wordC c = true) : stepS st0 c = st0 ∧ (outB st0 c && c == 44) = false := by
  have h1 := word_ne h (show wordC 34 = false by decide)
  have h2 := word_ne h (show wordC 60 = false by decide)
  have h3 := word_ne h (show wordC 44 = false by decide)
  constructor
  · unfold stepS st0
    simp [h1, h2]
  · simp [h3]
def stQ : St := ⟨true, false, false⟩
def stA : St := ⟨false, true, false⟩
theorem stQ_word (c : UInt8) (h : wordC c = true) : stepS stQ c = stQ ∧ (outB stQ c && c == 44) = false := by
  have h1 := word_ne h (show wordC 34 = false by decide)
  have h2 := word_ne h (show wordC 92 = false by decide)
  constructor
  · unfold stepS stQ
    simp [h1, h2]
  · simp [outB, stQ]
theorem stA_word (c : UInt8) (h : wordC c = true) : stepS stA c = stA ∧ (outB stA c && c == 44) = false := by
  have h1 := word_ne h (show wordC 62 = false by decide)
  constructor
  · unfold stepS stA
    simp [h1]
  · simp [outB, stA]
/-- a name as the statement puts it -/
def nameT (i : Nat) (n : List UInt8) : List UInt8 := if i % 2 = 0 then n else [34] ++ n ++ [34]
def itemT (i : Nat) (a : Adr) : List UInt8 := nameT i a.name ++ [32, 60] ++ a.loc ++ [64] ++ a.dom ++ [62]
def rowT : Nat → List Adr → List UInt8
  | _, [] => []
  | i, a :: r => (if i = 0 then [] else [32, 44, 32]) ++ itemT i a ++ rowT (i + 1) r
def AdrP (a : Adr) : Prop := wordP a.name ∧ wordP a.loc ∧ wordP a.dom
theorem run_name (i : Nat) (n cur r : List UInt8) (h : wordP n) : piecesS st0 cur (nameT i n ++ r) = piecesS st0 (cur ++ nameT i n) r := by
  unfold nameT
  split
  · exact run_word st0 st0_word n cur r h.2
  · have e1 : piecesS st0 cur ([34] ++ n ++ [34] ++ r) = piecesS stQ (cur ++ [34]) (n ++ ([34] ++ r)) := by
      simp only [List.append_assoc, List.singleton_append, List.cons_append, List.nil_append]
      rw [piecesS]
      rfl
    rw [e1, run_word stQ stQ_word n _ _ h.2]
    have e2 : piecesS stQ (cur ++ [34] ++ n) ([34] ++ r) = piecesS st0 (cur ++ [34] ++ n ++ [34]) r := by
      rw [List.singleton_append, piecesS]
      rfl
    rw [e2]
    simp
theorem run_item (i : Nat) (a : Adr) (cur r : List UInt8) (h : AdrP a) : piecesS st0 cur (itemT i a ++ r) = piecesS st0 (cur ++ itemT i a) r := by
  unfold itemT
  have e0 : nameT i a.name ++ [32, 60] ++ a.loc ++ [64] ++ a.dom ++ [62] ++ r = nameT i a.name ++ (32 :: 60 :: (a.loc ++ (64 :: (a.dom ++ (62 :: r))))) := by simp
  rw [e0, run_name i a.name cur _ h.1]
  have e1 : ∀ c t, piecesS st0 c (32 :: 60 :: t) = piecesS stA (c ++ [32] ++ [60]) t := fun c t => rfl
  rw [e1, run_word stA stA_word a.loc _ _ h.2.1.2]
  have e2 : ∀ c t, piecesS stA c (64 :: t) = piecesS stA (c ++ [64]) t := fun c t => rfl
  rw [e2, run_word stA stA_word a.dom _ _ h.2.2.2]
  have e3 : ∀ c t, piecesS stA c (62 :: t) = piecesS st0 (c ++ [62]) t := fun c t => rfl
  rw [e3]
  simp

/-- a text that neither begins nor ends with a blank -/
def edgeB (x : List UInt8) : Bool := match x.head?, x.getLast? with
  | some a, some b => !([32, 9] : List UInt8).contains a && !([32, 9] : List UInt8).contains b
  | _, _ => false
theorem trim_edge {x a b : List UInt8} (hx : edgeB x = true) (ha : ∀ c ∈ a, c = 32) (hb : ∀ c ∈ b, c = 32) : trimB (a ++ x ++ b) = x := by
  have drp : ∀ (u v : List UInt8), (∀ c ∈ u, c = 32) → (∀ c, v.head? = some c → ([32, 9] : List UInt8).contains c = false) → (u ++ v).dropWhile (([32, 9] : List UInt8).contains ·) = v := by
    intro u v hu hv
    induction u with
    | nil =>
      cases v with
      | nil => rfl
      | cons c v =>
        rw [List.nil_append, List.dropWhile_cons]
        rw [hv c rfl]
        rfl
    | cons c u ih =>
      rw [List.cons_append, List.dropWhile_cons, hu c (by simp)]
      exact ih (fun d hd => hu d (List.mem_cons_of_mem _ hd))
  unfold edgeB at hx
  cases h1 : x.head? with
  | none => rw [h1] at hx; cases hx
  | some p =>
    cases h2 : x.getLast? with
    | none => rw [h1, h2] at hx; cases hx
    | some q =>
      rw [h1, h2] at hx
      simp only [Bool.and_eq_true, Bool.not_eq_true'] at hx
      unfold trimB Lib.trimS Lib.trimRightS Lib.trimLeftS
      rw [List.reverse_append, drp b.reverse (a ++ x).reverse (fun c hc => hb c (by simpa using hc)) (fun c hc => by
        rw [List.head?_reverse, List.getLast?_append, h2] at hc
        simp at hc
        rw [← hc]; exact hx.2), List.reverse_reverse]
      exact drp a x ha (fun c hc => by rw [h1] at hc; simp at hc; rw [← hc]; exact hx.1)

theorem head_last (x : List UInt8) (c d : UInt8) (m : List UInt8) (h : x = c :: (m ++ [d])) (hc : ([32, 9] : List UInt8).contains c = false) (hd : ([32, 9] : List UInt8).contains d = false) : edgeB x = true := by
  unfold edgeB
  rw [h]
  simp only [List.head?_cons]
  rw [show c :: (m ++ [d]) = (c :: m) ++ [d] by simp, List.getLast?_append]
  simp only [List.getLast?_singleton, Option.some_or]
  rw [hc, hd]
  rfl
theorem word_blank {c : UInt8} (h : wordC c = true) : ([32, 9] : List UInt8).contains c = false := by
  have h1 := word_ne h (show wordC 32 = false by decide)
  have h2 := word_ne h (show wordC 9 = false by decide)
  simp [h1, h2]
theorem item_edge (i : Nat) (a : Adr) (h : AdrP a) : edgeB (itemT i a) = true := by
  obtain ⟨⟨h1, h2⟩, _⟩ := h
  match hn : a.name, h1 with
  | c :: r, _ =>
    rw [hn, List.all_cons, Bool.and_eq_true] at h2
    unfold itemT nameT
    rw [hn]
    split
    · exact head_last _ c 62 (r ++ [32, 60] ++ a.loc ++ [64] ++ a.dom) (by simp) (word_blank h2.1) (by decide)
    · exact head_last _ 34 62 (c :: r ++ [34] ++ [32, 60] ++ a.loc ++ [64] ++ a.dom) (by simp) (by decide) (by decide)

theorem pieces_rows : ∀ (l : List Adr) (i : Nat) (cur : List UInt8), 0 < i → (∀ a ∈ l, AdrP a) → ∃ ps, piecesS st0 cur (rowT i l) = (cur ++ (if l = [] then [] else [32])) :: ps ∧ ps.map trimB = (List.range l.length).map (fun k => itemT (i + k) (l.getD k ⟨[], [], []⟩))
  | [], i, cur, _, _ => ⟨[], by simp [rowT, piecesS], by simp⟩
  | a :: r, i, cur, hi, h => by
    have ha := h a (by simp)
    have e0 : piecesS st0 cur (rowT i (a :: r)) = (cur ++ [32]) :: piecesS st0 ([32] ++ itemT i a) (rowT (i + 1) r) := by
      rw [rowT, if_neg (by omega), List.append_assoc]
      have e : ∀ c t, piecesS st0 c ([32, 44, 32] ++ t) = (c ++ [32]) :: piecesS st0 [32] t := fun c t => rfl
      rw [e, run_item i a [32] _ ha]
    obtain ⟨ps, h1, h2⟩ := pieces_rows r (i + 1) ([32] ++ itemT i a) (by omega) (fun b hb => h b (List.mem_cons_of_mem _ hb))
    refine ⟨piecesS st0 ([32] ++ itemT i a) (rowT (i + 1) r), by rw [e0, if_neg (by simp)], ?_⟩
    rw [h1, List.map_cons, h2]
    have t1 : trimB ([32] ++ itemT i a ++ (if r = [] then [] else [32])) = itemT i a := by
      have := trim_edge (x := itemT i a) (a := [32]) (b := if r = [] then [] else [32]) (item_edge i a ha) (by simp) (by split <;> simp)
      exact this
    rw [t1, List.length_cons, List.range_succ_eq_map, List.map_cons, List.map_map]
    simp only [List.getD_cons_zero, Nat.add_zero, List.cons.injEq, true_and]
    apply List.map_congr_left
    intro k _
    simp only [Function.comp, List.getD_cons_succ]
    rw [show i + 1 + k = i + (k + 1) by omega]

/-! what an item's address is -/
theorem bra_over (f : St) (hf : ∀ c, wordC c = true → stepS f c = f ∧ (outB f c && c == 60) = false) : ∀ (t r : List UInt8), t.all wordC = true → braS f (t ++ r) = (braS f r).map (· + t.length)
  | [], r, _ => by simp
  | c :: t, r, h => by
    rw [List.all_cons, Bool.and_eq_true] at h
    obtain ⟨h1, h2⟩ := hf c h.1
    rw [List.cons_append, braS, h2, h1]
    simp only [Bool.false_eq_true, if_false]
    rw [bra_over f hf t r h.2]
    cases braS f r with
    | none => rfl
    | some k => simp; omega
theorem st0_word2 (c : UInt8) (h : wordC c = true) : stepS st0 c = st0 ∧ (outB st0 c && c == 60) = false := by
  refine ⟨(st0_word c h).1, ?_⟩
  have h3 := word_ne h (show wordC 60 = false by decide)
  simp [h3]
theorem stQ_word2 (c : UInt8) (h : wordC c = true) : stepS stQ c = stQ ∧ (outB stQ c && c == 60) = false := by
  refine ⟨(stQ_word c h).1, ?_⟩
  simp [outB, stQ]
theorem bra_item (i : Nat) (a : Adr) (h : AdrP a) : braS st0 (itemT i a) = some ((nameT i a.name).length + 1) := by
  have e0 : itemT i a = nameT i a.name ++ (32 :: 60 :: (a.loc ++ [64] ++ a.dom ++ [62])) := by simp [itemT]
  rw [e0]
  have e1 : ∀ t, braS st0 (32 :: 60 :: t) = some 1 := fun t => rfl
  unfold nameT
  split
  · rw [bra_over st0 st0_word2 a.name _ h.1.2, e1]
    simp; omega
  · have e2 : [34] ++ a.name ++ [34] ++ (32 :: 60 :: (a.loc ++ [64] ++ a.dom ++ [62])) = 34 :: (a.name ++ (34 :: 32 :: 60 :: (a.loc ++ [64] ++ a.dom ++ [62]))) := by simp
    rw [e2]
    have e3 : ∀ t, braS st0 (34 :: t) = (braS stQ t).map (· + 1) := fun t => rfl
    have e4 : ∀ t, braS stQ (34 :: 32 :: 60 :: t) = some 2 := fun t => rfl
    rw [e3, bra_over stQ stQ_word2 a.name _ h.1.2, e4]
    simp; omega
theorem meant_word : ∀ (n acc : List UInt8), n.all wordC = true → meantGo acc (n ++ [34]) = some (acc ++ n)
  | [], acc, _ => by simp [meantGo]
  | c :: n, acc, h => by
    rw [List.all_cons, Bool.and_eq_true] at h
    have h1 := word_ne h.1 (show wordC 34 = false by decide)
    have h2 := word_ne h.1 (show wordC 92 = false by decide)
    have ih := meant_word n (acc ++ [c]) h.2
    cases n with
    | nil => simp [meantGo, h1, h2]
    | cons d n =>
      rw [List.cons_append, List.cons_append, meantGo, if_neg h1, if_neg h2]
      rw [List.cons_append] at ih
      rw [ih]
      simp
theorem meant_name (i : Nat) (n : List UInt8) (h : wordP n) : meantL (nameT i n) = n := by
  unfold nameT
  obtain ⟨h1, h2⟩ := h
  split
  · match n, h1 with
    | [c], _ => rfl
    | c :: d :: r, _ =>
      rw [List.all_cons, Bool.and_eq_true] at h2
      have h3 := word_ne h2.1 (show wordC 34 = false by decide)
      show (if c = 34 then _ else _) = _
      rw [if_neg h3]
  · have hm := meant_word n [] h2
    match n, h1 with
    | c :: r, _ =>
      have e : [34] ++ c :: r ++ [34] = 34 :: c :: (r ++ [34]) := by simp
      rw [e]
      show (if (34 : UInt8) = 34 then (meantGo [] (c :: (r ++ [34]))).getD (34 :: c :: (r ++ [34])) else 34 :: c :: (r ++ [34])) = c :: r
      rw [if_pos rfl]
      rw [List.cons_append] at hm
      rw [hm]
      simp
theorem upTo_word : ∀ (t r : List UInt8), t.all wordC = true → upTo62 (t ++ r) = t ++ upTo62 r
  | [], r, _ => rfl
  | c :: t, r, h => by
    rw [List.all_cons, Bool.and_eq_true] at h
    have h1 := word_ne h.1 (show wordC 62 = false by decide)
    have ih := upTo_word t r h.2
    unfold upTo62 at ih ⊢
    rw [List.cons_append, List.takeWhile_cons, ih]
    simp [h1]
theorem cutAt_word : ∀ (t : List UInt8), t.all wordC = true → cutAt t = none
  | [], _ => rfl
  | c :: t, h => by
    rw [List.all_cons, Bool.and_eq_true] at h
    have h1 := word_ne h.1 (show wordC 64 = false by decide)
    rw [cutAt, cutAt_word t h.2]
    simp [h1]
theorem cutAt_at : ∀ (a b : List UInt8), a.all wordC = true → b.all wordC = true → cutAt (a ++ 64 :: b) = some (a, b)
  | [], b, _, hb => by
    rw [List.nil_append, cutAt, cutAt_word b hb]
    simp
  | c :: a, b, h, hb => by
    rw [List.all_cons, Bool.and_eq_true] at h
    rw [List.cons_append, cutAt, cutAt_at a b h.2 hb]
theorem name_edge (i : Nat) (n : List UInt8) (h : wordP n) : edgeB (nameT i n) = true := by
  obtain ⟨h1, h2⟩ := h
  unfold nameT
  split
  · match n, h1 with
    | [c], _ =>
      simp only [List.all_cons, List.all_nil, Bool.and_true] at h2
      unfold edgeB
      simp only [List.head?_cons, List.getLast?_singleton]
      rw [word_blank h2]; rfl
    | c :: d :: r, _ =>
      rcases List.eq_nil_or_concat (d :: r) with hh | ⟨m, z, hh⟩
      · cases hh
      · rw [List.concat_eq_append] at hh
        rw [hh] at h2 ⊢
        simp only [List.all_cons, List.all_append, List.all_nil, Bool.and_true, Bool.and_eq_true] at h2
        exact head_last _ c z m (by simp) (word_blank h2.1) (word_blank h2.2.2)
  · exact head_last _ 34 34 n (by simp) (by decide) (by decide)
theorem adr_item (i : Nat) (a : Adr) (h : AdrP a) : adrL (itemT i a) = a := by
  unfold adrL
  rw [bra_item i a h]
  simp only
  have e0 : itemT i a = (nameT i a.name ++ [32]) ++ 60 :: (a.loc ++ ([64] ++ a.dom ++ [62])) := by simp [itemT]
  have e1 : (itemT i a).take ((nameT i a.name).length + 1) = nameT i a.name ++ [32] := by
    rw [e0, List.take_append_of_le_length (by simp), List.take_of_length_le (by simp)]
  have e2 : (itemT i a).drop ((nameT i a.name).length + 1 + 1) = a.loc ++ ([64] ++ a.dom ++ [62]) := by
    rw [e0, ← List.drop_drop, show (nameT i a.name).length + 1 = (nameT i a.name ++ [32]).length by simp, List.drop_left]
    rfl
  rw [e1, e2]
  have e3 : trimB (nameT i a.name ++ [32]) = nameT i a.name := by
    have := trim_edge (x := nameT i a.name) (a := []) (b := [32]) (name_edge i a.name h.1) (by simp) (by simp)
    simpa using this
  rw [e3, meant_name i a.name h.1, upTo_word a.loc _ h.2.1.2]
  have e4 : upTo62 ([64] ++ a.dom ++ [62]) = 64 :: a.dom := by
    have : ([64] : List UInt8) ++ a.dom ++ [62] = 64 :: (a.dom ++ [62]) := by simp
    rw [this]
    have h5 := upTo_word a.dom [62] h.2.2.2
    unfold upTo62 at h5 ⊢
    rw [List.takeWhile_cons, h5]
    simp
  rw [e4]
  unfold mailL2
  rw [cutAt_at a.loc a.dom h.2.1.2 h.2.2.2]
/-- addresses put one behind the other come back -/
theorem rows_back (l : List Adr) (h : ∀ a ∈ l, AdrP a) (hl : l.length ≤ 50) : adrsL (rowT 0 l) = l := by
  cases l with
  | nil => rfl
  | cons a r =>
    have ha := h a (by simp)
    have e0 : piecesL (rowT 0 (a :: r)) = piecesS st0 (itemT 0 a) (rowT 1 r) := by
      unfold piecesL
      rw [rowT, if_pos rfl, List.nil_append, run_item 0 a [] _ ha]
      rfl
    obtain ⟨ps, h1, h2⟩ := pieces_rows r 1 (itemT 0 a) (by omega) (fun b hb => h b (List.mem_cons_of_mem _ hb))
    have t1 : trimB (itemT 0 a ++ (if r = [] then [] else [32])) = itemT 0 a := by
      have := trim_edge (x := itemT 0 a) (a := []) (b := if r = [] then [] else [32]) (item_edge 0 a ha) (by simp) (by split <;> simp)
      simpa using this
    have h3 : (piecesL (rowT 0 (a :: r))).map trimB = (List.range (a :: r).length).map (fun k => itemT k ((a :: r).getD k ⟨[], [], []⟩)) := by
      rw [e0, h1, List.map_cons, t1, h2, List.length_cons, List.range_succ_eq_map, List.map_cons, List.map_map]
      simp only [List.getD_cons_zero, List.cons.injEq, true_and]
      apply List.map_congr_left
      intro k _
      simp only [Function.comp, List.getD_cons_succ]
      rw [show 1 + k = k.succ by omega]
    unfold adrsL
    rw [h3]
    have hm : ∀ k, k < (a :: r).length → AdrP ((a :: r).getD k ⟨[], [], []⟩) := by
      intro k hk
      have : (a :: r).getD k ⟨[], [], []⟩ = (a :: r)[k] := by rw [List.getD_eq_getElem?_getD, List.getElem?_eq_getElem hk]; rfl
      rw [this]
      exact h _ (List.getElem_mem hk)
    have h4 : ((List.range (a :: r).length).map (fun k => itemT k ((a :: r).getD k ⟨[], [], []⟩))).filter neB = (List.range (a :: r).length).map (fun k => itemT k ((a :: r).getD k ⟨[], [], []⟩)) := by
      rw [List.filter_eq_self]
      intro x hx
      obtain ⟨k, hk, rfl⟩ := List.mem_map.1 hx
      unfold neB itemT
      simp
    rw [h4, List.take_of_length_le (by simp; simpa using hl), List.map_map]
    apply List.ext_getElem (by simp)
    intro k h5 h6
    simp only [List.getElem_map, List.getElem_range, Function.comp]
    rw [adr_item k _ (hm k h6), List.getD_eq_getElem?_getD, List.getElem?_eq_getElem h6]
    rfl

end Go.Proofs.YtifjibgnjjiggaaDoor
end

/- envelope (plain): the document's marks; the last "@". -/
set_option linter.unusedVariables false
set_option linter.unusedSimpArgs false
section
namespace Go.Proofs.YtifjibgnjjiggaaDoor
open Go

/-- the document's mark of a byte -/
def markV (s : St) (c : UInt8) : Int := if outB s c = true then 0 else if (s.ang && !s.quo && !s.esc) = true then 2 else 1
def marksV : St → List UInt8 → List Int
  | _, [] => []
  | s, c :: r => markV s c :: marksV (stepS s c) r
theorem marksV_len : ∀ (l : List UInt8) (s : St), (marksV s l).length = l.length
  | [], _ => rfl
  | c :: r, s => by simp [marksV, marksV_len r]
theorem marksV_snoc : ∀ (l : List UInt8) (s : St) (c : UInt8), marksV s (l ++ [c]) = marksV s l ++ [markV (runS s l) c]
  | [], s, c => rfl
  | d :: r, s, c => by
    rw [List.cons_append, marksV, marksV_snoc r]
    rfl
theorem marksV_at : ∀ (a : List UInt8) (s : St) (c : UInt8) (r : List UInt8), (marksV s (a ++ c :: r))[a.length]? = some (markV (runS s a) c)
  | [], s, c, r => rfl
  | d :: a, s, c, r => by
    rw [List.cons_append, marksV, List.length_cons, List.getElem?_cons_succ, marksV_at a]
    rfl
theorem mark_zero (s : St) (c : UInt8) : (markV s c == 0) = outB s c := by
  unfold markV
  cases outB s c with
  | true => rfl
  | false =>
    simp only [Bool.false_eq_true, if_false]
    split <;> rfl

/-- the last "@" among the first k bytes -/
def lastK (l : List UInt8) : Nat → Option Nat
  | 0 => none
  | k + 1 => if l.getD k 0 = 64 then some k else lastK l k
theorem lastK_cons (c : UInt8) (t : List UInt8) : ∀ k, lastK (c :: t) (k + 1) = match lastK t k with
    | some j => some (j + 1)
    | none => if c = 64 then some 0 else none
  | 0 => by simp [lastK]
  | k + 1 => by
    have ih := lastK_cons c t k
    rw [lastK, List.getD_cons_succ, ih, lastK]
    by_cases h : t.getD k 0 = 64
    · rw [if_pos h, if_pos h]
    · rw [if_neg h, if_neg h]
theorem cutAt_last : ∀ l : List UInt8, cutAt l = (lastK l l.length).map fun j => (l.take j, l.drop (j + 1))
  | [] => rfl
  | c :: t => by
    rw [cutAt, cutAt_last t, List.length_cons, lastK_cons]
    cases lastK t t.length with
    | some j => rfl
    | none =>
      simp only [Option.map_none]
      split <;> simp
theorem lastK_lt (l : List UInt8) : ∀ (k j : Nat), lastK l k = some j → j < k
  | 0, j, h => by cases h
  | k + 1, j, h => by
    rw [lastK] at h
    split at h
    · cases h; omega
    · have := lastK_lt l k j h; omega

end Go.Proofs.YtifjibgnjjiggaaDoor
end

/- strings.Cut at a separator of one byte. -/
set_option linter.unusedVariables false
set_option linter.unusedSimpArgs false
section
namespace Go.Proofs.YtifjibgnjjiggaaDoor
open Go.RowKit Go

/-- a text cut at the first byte p -/
def cutB (p : UInt8) : List UInt8 → Option (List UInt8 × List UInt8)
  | [] => none
  | c :: t => if c = p then some ([], t) else match cutB p t with
    | none => none
    | some (a, r) => some (c :: a, r)
theorem indexB (p : UInt8) (t : List UInt8) : Lib.indexByte t p = match cutB p t with | none => -1 | some (a, _) => (a.length : Int) := by
  induction t with
  | nil => rfl
  | cons c t ih =>
    unfold Lib.indexByte cutB
    by_cases hc : c = p
    · simp [hc]
    · simp only [beq_iff_eq, hc, if_false]
      cases hq : cutB p t with
      | none => rw [hq] at ih; simp [ih]
      | some q =>
        obtain ⟨a, b⟩ := q
        rw [hq] at ih
        simp only at ih
        rw [ih, if_neg (by omega)]
        simp
theorem cutB_some {p : UInt8} {t a r : List UInt8} (e : cutB p t = some (a, r)) : t = a ++ p :: r ∧ p ∉ a := by
  induction t generalizing a r with
  | nil => simp [cutB] at e
  | cons c t ih =>
    unfold cutB at e
    by_cases hc : c = p
    · rw [if_pos hc] at e
      obtain ⟨rfl, rfl⟩ := Prod.mk.inj (Option.some.inj e)
      simp [hc]
    · rw [if_neg hc] at e
      cases hq : cutB p t with
      | none => rw [hq] at e; cases e
      | some q =>
        obtain ⟨x, y⟩ := q
        rw [hq] at e
        obtain ⟨rfl, rfl⟩ := Prod.mk.inj (Option.some.inj e)
        obtain ⟨h1, h2⟩ := ih hq
        rw [h1]
        refine ⟨rfl, ?_⟩
        simp only [List.mem_cons, not_or]
        exact ⟨fun h => hc h.symm, h2⟩
theorem cutB_of {p : UInt8} : ∀ (a r : List UInt8), p ∉ a → cutB p (a ++ p :: r) = some (a, r)
  | [], r, _ => by simp [cutB]
  | c :: a, r, h => by
    simp only [List.mem_cons, not_or] at h
    rw [List.cons_append, cutB, if_neg (fun e => h.1 e.symm), cutB_of a r h.2]
theorem cutB_none {p : UInt8} {t : List UInt8} (e : cutB p t = none) : p ∉ t := by
  intro h
  obtain ⟨a, r, rfl, ha⟩ : ∃ a r, t = a ++ p :: r ∧ p ∉ a := by
    clear e
    induction t with
    | nil => cases h
    | cons c t ih =>
      by_cases hc : c = p
      · exact ⟨[], t, by rw [hc]; rfl, by simp⟩
      · obtain ⟨a, r, rfl, ha⟩ := ih (by rcases List.mem_cons.1 h with h | h; exact absurd h.symm hc; exact h)
        exact ⟨c :: a, r, rfl, by simp only [List.mem_cons, not_or]; exact ⟨fun h => hc h.symm, ha⟩⟩
  rw [cutB_of a r ha] at e
  cases e

theorem indexOne_any (p : UInt8) (t : List UInt8) (w : World) : Calls Tryd.prog 67 #[.string (bs t), .string (bs [p])] w fun e w' => e = .returned (.int .i64 (match cutB p t with | none => -1 | some (a, _) => (a.length : Int))) ∧ w = w' :=
  (Tryd.stringslite_Index_one (bs t) p w).mono fun _ _ ⟨h, k⟩ => ⟨by rw [h, ← indexB], k.symm⟩

theorem cutlB_some (p : UInt8) (t a r : List UInt8) (w : World) (hc : cutB p t = some (a, r)) (hl : t.length ≤ 1099511627776) : Calls Tryd.prog 55 #[.string (bs t), .string (bs [p])] w fun e w' => e = .returned (.tuple #[.string (bs a), .string (bs r), .bool true]) ∧ Below w.heap.size w w' := by
  have hi := indexOne_any p t
  rw [hc] at hi
  have ht := (cutB_some hc).1
  have htl : t.length = a.length + 1 + r.length := by rw [ht]; simp; omega
  have h1 := run_to t a.length (by omega)
  have h2 := run_from t (a.length + 1) (by omega)
  rw [show t.take a.length = a by rw [ht]; simp] at h1
  rw [show t.drop (a.length + 1) = r by rw [ht, show a ++ p :: r = (a ++ [p]) ++ r by simp]; exact List.drop_left' (by simp), show ((a.length + 1 : Nat) : Int) = (a.length : Int) + 1 by simp] at h2
  have hal : a.length + 1 ≤ t.length := by omega
  have HI := Lib.hid hi
  have d0 : decide (0 ≤ (a.length : Int)) = true := by simp
  clear hi hc ht htl
  go_enter Tryd.func55, Tryd.ntmps55
  go_wp2_with fail
  refine (HI.out _).mono ?_
  rintro e w' ⟨rfl, rfl⟩
  go_wp2
  go_quiet (fail)
  go_wp2
  go_ret3
  exact ⟨rfl, below_drewN (Below.refl _ _) _⟩
theorem cutlB_none (p : UInt8) (t : List UInt8) (w : World) (hc : cutB p t = none) : Calls Tryd.prog 55 #[.string (bs t), .string (bs [p])] w fun e w' => e = .returned (.tuple #[.string (bs t), .string (bs []), .bool false]) ∧ Below w.heap.size w w' := by
  have hi := indexOne_any p t
  rw [hc] at hi
  have HI := Lib.hid hi
  clear hi hc
  go_enter Tryd.func55, Tryd.ntmps55
  go_wp2_with fail
  refine (HI.out _).mono ?_
  rintro e w' ⟨rfl, rfl⟩
  go_wp2
  go_ret3
  exact ⟨rfl, Below.refl _ _⟩
/-- strings.Cut(t, p) -/
theorem cutOne_some (p : UInt8) (t a r : List UInt8) (w : World) (hc : cutB p t = some (a, r)) (hl : t.length ≤ 1099511627776) : Calls Tryd.prog 42 #[.string (bs t), .string (bs [p])] w fun e w' => e = .returned (.tuple #[.string (bs a), .string (bs r), .bool true]) ∧ Below w.heap.size w w' := by
  have HC := Lib.hid hc
  clear hc
  go_enter Tryd.func42, Tryd.ntmps42
  go_wp2_with fail
  refine (cutlB_some p t a r _ HC.out hl).mono ?_
  rintro e w' ⟨rfl, hb⟩
  go_wp2
  go_ret3
  exact ⟨rfl, hb⟩
theorem cutOne_none (p : UInt8) (t : List UInt8) (w : World) (hc : cutB p t = none) : Calls Tryd.prog 42 #[.string (bs t), .string (bs [p])] w fun e w' => e = .returned (.tuple #[.string (bs t), .string (bs []), .bool false]) ∧ Below w.heap.size w w' := by
  have HC := Lib.hid hc
  clear hc
  go_enter Tryd.func42, Tryd.ntmps42
  go_wp2_with fail
  refine (cutlB_none p t _ HC.out).mono ?_
  rintro e w' ⟨rfl, hb⟩
  go_wp2
  go_ret3
  exact ⟨rfl, hb⟩

end Go.Proofs.YtifjibgnjjiggaaDoor
end

/- []byte(s). -/
set_option linter.unusedVariables false
set_option linter.unusedSimpArgs false
section
namespace Go.Proofs.YtifjibgnjjiggaaDoor
open Go.RowKit

theorem to_bytes (l : List UInt8) (w : World) : ∃ (cap : Nat) (w' : World), (convert 9 34 (.string (bs l))).run Tryd.prog w = .ok (.slice (some ⟨w.heap.size, 0, none⟩) l.length cap) w' ∧
    (∀ i, i < l.length → w'.cell? ⟨w.heap.size, i, none⟩ = some (.int .u8 ((l.getD i 0).toNat : Int))) ∧ Below w.heap.size w w' ∧ w.heap.size < w'.heap.size := by
  have h := run_bytes_of_string (P := Tryd.prog) w 9 34 5 (bs l) Tryd.underlying9 Tryd.underlying34 Tryd.underlying5
  rw [bs_size] at h
  refine ⟨_, _, h, fun i hi => ?_, ((Below.refl _ w).drew).alloc (Nat.le_refl _) _, by simp⟩
  have hb := bytesRow_at (bs l) (grownCap w l.length 0 5) i (by simpa using hi)
  have hn : (w.drew.alloc (.cells (bytesRow (bs l) (grownCap w l.length 0 5)) 5 ((bytesRow (bs l) (grownCap w l.length 0 5)).size, (bytesRow (bs l) (grownCap w l.length 0 5)).size + 1))).heap[w.heap.size]? = some (.cells (bytesRow (bs l) (grownCap w l.length 0 5)) 5 ((bytesRow (bs l) (grownCap w l.length 0 5)).size, (bytesRow (bs l) (grownCap w l.length 0 5)).size + 1)) := heap_new w.drew _
  simp only [World.cell?, hn]
  simp only [Option.isSome_none, Bool.false_eq_true, if_false]
  rw [hb]
  simp [List.getD, hi]

end Go.Proofs.YtifjibgnjjiggaaDoor
end

/- header.text, goesOn, name. -/
set_option linter.unusedVariables false
set_option linter.unusedSimpArgs false
section
namespace Go.Proofs.YtifjibgnjjiggaaDoor
open Go.RowKit

theorem textL_len (l : List UInt8) : (textL l).length ≤ l.length := by
  have h : ∀ (a b : List UInt8), (Lib.trimSuffix a b).length ≤ a.length := by
    intro a b; unfold Lib.trimSuffix; split <;> simp
  unfold textL
  split
  · exact Nat.le_trans (h _ _) (h _ _)
  · exact Nat.le_refl _

theorem cutSuffix_any (l p : List UInt8) (w : World) (hl : l.length ≤ 9223372036854775807) : Calls Tryd.prog 87 #[.string (bs l), .string (bs p)] w fun e w' => e = .returned (.tuple #[.string (bs (Lib.trimSuffix l p)), .bool (Lib.hasSuffix l p)]) ∧ w = w' :=
  (Tryd.strings_CutSuffix (bs l) (bs p) w (by rw [bs_size]; exact hl)).mono fun _ _ ⟨h, k⟩ => ⟨h, k.symm⟩
theorem trimSuffix_any (l p : List UInt8) (w : World) (hl : l.length ≤ 9223372036854775807) : Calls Tryd.prog 88 #[.string (bs l), .string (bs p)] w fun e w' => e = .returned (.string (bs (Lib.trimSuffix l p))) ∧ w = w' :=
  (Tryd.strings_TrimSuffix (bs l) (bs p) w (by rw [bs_size]; exact hl)).mono fun _ _ ⟨h, k⟩ => ⟨h, k.symm⟩

theorem trimSuffix_len (a b : List UInt8) : (Lib.trimSuffix a b).length ≤ a.length := by unfold Lib.trimSuffix; split <;> simp

theorem text_any (l : List UInt8) (w : World) (hl : l.length ≤ 1099511627776) : Calls Tryd.prog 69 #[.string (bs l)] w fun e w' => e = .returned (.string (bs (textL l))) ∧ w = w' := by
  have h1 := trimSuffix_len l [10]
  unfold textL
  obtain ⟨b, hb⟩ : ∃ b, Lib.hasSuffix l [10] = b := ⟨_, rfl⟩
  obtain ⟨t, ht⟩ : ∃ t, Lib.trimSuffix l [10] = t := ⟨_, rfl⟩
  rw [ht] at h1
  have hno : b = false → t = l := by
    rintro rfl
    rw [← ht]; unfold Lib.trimSuffix; rw [hb]; rfl
  rw [hb, ht]
  have HB := Lib.hid hb
  have HT := Lib.hid ht
  clear hb ht
  cases b
  · obtain rfl := hno rfl
    go_enter Tryd.func69, Tryd.ntmps69
    go_wp2_with fail
    refine (cutSuffix_any _ [10] _ (by omega)).mono ?_
    rintro e w' ⟨rfl, rfl⟩
    rw [HB.out, HT.out]
    go_wp2
    go_ret
    exact ⟨rfl, rfl⟩
  · clear hno
    go_enter Tryd.func69, Tryd.ntmps69
    go_wp2_with fail
    refine (cutSuffix_any l [10] _ (by omega)).mono ?_
    rintro e w' ⟨rfl, rfl⟩
    rw [HB.out, HT.out]
    go_wp2_with fail
    refine (trimSuffix_any t [13] _ (by omega)).mono ?_
    rintro e w' ⟨rfl, rfl⟩
    go_wp2
    go_ret
    exact ⟨rfl, rfl⟩

theorem goesOn_any (t : List UInt8) (w : World) : Calls Tryd.prog 71 #[.string (bs t)] w fun e w' => e = .returned (.bool (goesB t)) ∧ w = w' := by
  cases t with
  | nil =>
    go_enter Tryd.func71, Tryd.ntmps71
    go_wp2
    go_ret
    exact ⟨rfl, rfl⟩
  | cons c r =>
    have hx : (bs (c :: r))[0]'(by rw [bs_size]; simp) = c := rfl
    have hib : Lib.indexByte [32, 9] c = if c = 32 then 0 else if c = 9 then 1 else -1 := by
      by_cases h1 : c = 32
      · subst h1; rfl
      · have e1 : ((32 : UInt8) == c) = false := by simpa using fun e : (32 : UInt8) = c => h1 e.symm
        by_cases h2 : c = 9
        · subst h2; rfl
        · have e2 : ((9 : UInt8) == c) = false := by simpa using fun e : (9 : UInt8) = c => h2 e.symm
          simp [Lib.indexByte, e1, e2, h1, h2]
    have hcall : Calls Tryd.prog 80 #[.string ⟨#[32, 9]⟩, .int .u8 (c.toNat : Int)] w fun e w' => e = .returned (.int .i64 (if c = 32 then 0 else if c = 9 then 1 else -1)) ∧ w = w' := by
      refine (Tryd.strings_IndexByte ⟨#[32, 9]⟩ (c.toNat : Int) w).mono fun _ _ ⟨h, k⟩ => ⟨?_, k.symm⟩
      rw [h, ← hib]
      simp
    have HC := Lib.hid hcall
    unfold goesB blankB
    clear hib hcall
    by_cases h1 : c = 32
    · subst h1
      go_enter Tryd.func71, Tryd.ntmps71
      go_wp2_with fail
      refine HC.out.mono ?_
      rintro e w' ⟨rfl, rfl⟩
      go_wp2
      go_ret
      exact ⟨rfl, rfl⟩
    · by_cases h2 : c = 9
      · subst h2
        go_enter Tryd.func71, Tryd.ntmps71
        go_wp2_with fail
        refine HC.out.mono ?_
        rintro e w' ⟨rfl, rfl⟩
        go_wp2
        go_ret
        exact ⟨rfl, rfl⟩
      · go_enter Tryd.func71, Tryd.ntmps71
        go_wp2_with fail
        refine HC.out.mono ?_
        rintro e w' ⟨rfl, rfl⟩
        rw [if_neg h1, if_neg h2]
        go_wp2
        go_ret
        exact ⟨by simp [h1, h2], rfl⟩

theorem index58 (t : List UInt8) : Lib.indexByte t 58 = match cutC t with | none => -1 | some (a, _) => (a.length : Int) := by
  induction t with
  | nil => rfl
  | cons c t ih =>
    unfold Lib.indexByte cutC
    by_cases hc : c = 58
    · simp [hc]
    · simp only [beq_iff_eq, hc, if_false]
      cases hq : cutC t with
      | none => rw [hq] at ih; simp [ih]
      | some p =>
        obtain ⟨a, b⟩ := p
        rw [hq] at ih
        simp only at ih
        rw [ih, if_neg (by omega)]
        simp
theorem cutC_some {t a r : List UInt8} (e : cutC t = some (a, r)) : t = a ++ 58 :: r := by
  induction t generalizing a r with
  | nil => simp [cutC] at e
  | cons c t ih =>
    unfold cutC at e
    by_cases hc : c = 58
    · rw [if_pos hc] at e
      obtain ⟨rfl, rfl⟩ := Prod.mk.inj (Option.some.inj e)
      simp [hc]
    · rw [if_neg hc] at e
      cases hq : cutC t with
      | none => rw [hq] at e; cases e
      | some p =>
        obtain ⟨x, y⟩ := p
        rw [hq] at e
        obtain ⟨rfl, rfl⟩ := Prod.mk.inj (Option.some.inj e)
        rw [ih hq]; rfl

theorem index_one (t : List UInt8) (w : World) : Calls Tryd.prog 67 #[.string (bs t), .string (bs [58])] w fun e w' => e = .returned (.int .i64 (match cutC t with | none => -1 | some (a, _) => (a.length : Int))) ∧ w = w' :=
  (Tryd.stringslite_Index_one (bs t) 58 w).mono fun _ _ ⟨h, k⟩ => ⟨by rw [h, ← index58], k.symm⟩

theorem cutl_some (t a r : List UInt8) (w : World) (hc : cutC t = some (a, r)) (hl : t.length ≤ 1099511627776) : Calls Tryd.prog 55 #[.string (bs t), .string (bs [58])] w fun e w' => e = .returned (.tuple #[.string (bs a), .string (bs r), .bool true]) ∧ Below w.heap.size w w' := by
  have hi := index_one t
  rw [hc] at hi
  have ht := cutC_some hc
  have htl : t.length = a.length + 1 + r.length := by rw [ht]; simp; omega
  have h1 := run_to t a.length (by omega)
  have h2 := run_from t (a.length + 1) (by omega)
  rw [show t.take a.length = a by rw [ht]; simp] at h1
  rw [show t.drop (a.length + 1) = r by rw [ht, show a ++ 58 :: r = (a ++ [58]) ++ r by simp]; exact List.drop_left' (by simp), show ((a.length + 1 : Nat) : Int) = (a.length : Int) + 1 by simp] at h2
  have hal : a.length + 1 ≤ t.length := by omega
  have HI := Lib.hid hi
  have d0 : decide (0 ≤ (a.length : Int)) = true := by simp
  clear hi hc ht htl
  go_enter Tryd.func55, Tryd.ntmps55
  go_wp2_with fail
  refine (HI.out _).mono ?_
  rintro e w' ⟨rfl, rfl⟩
  go_wp2
  go_quiet (fail)
  go_wp2
  go_ret3
  exact ⟨rfl, below_drewN (Below.refl _ _) _⟩
theorem cutl_none (t : List UInt8) (w : World) (hc : cutC t = none) : Calls Tryd.prog 55 #[.string (bs t), .string (bs [58])] w fun e w' => e = .returned (.tuple #[.string (bs t), .string (bs []), .bool false]) ∧ Below w.heap.size w w' := by
  have hi := index_one t
  rw [hc] at hi
  have HI := Lib.hid hi
  clear hi hc
  go_enter Tryd.func55, Tryd.ntmps55
  go_wp2_with fail
  refine (HI.out _).mono ?_
  rintro e w' ⟨rfl, rfl⟩
  go_wp2
  go_ret3
  exact ⟨rfl, Below.refl _ _⟩
theorem cut_some (t a r : List UInt8) (w : World) (hc : cutC t = some (a, r)) (hl : t.length ≤ 1099511627776) : Calls Tryd.prog 42 #[.string (bs t), .string (bs [58])] w fun e w' => e = .returned (.tuple #[.string (bs a), .string (bs r), .bool true]) ∧ Below w.heap.size w w' := by
  have HC := Lib.hid hc
  clear hc
  go_enter Tryd.func42, Tryd.ntmps42
  go_wp2_with fail
  refine (cutl_some t a r _ HC.out hl).mono ?_
  rintro e w' ⟨rfl, hb⟩
  go_wp2
  go_ret3
  exact ⟨rfl, hb⟩
theorem cut_none (t : List UInt8) (w : World) (hc : cutC t = none) : Calls Tryd.prog 42 #[.string (bs t), .string (bs [58])] w fun e w' => e = .returned (.tuple #[.string (bs t), .string (bs []), .bool false]) ∧ Below w.heap.size w w' := by
  have HC := Lib.hid hc
  clear hc
  go_enter Tryd.func42, Tryd.ntmps42
  go_wp2_with fail
  refine (cutl_none t _ HC.out).mono ?_
  rintro e w' ⟨rfl, hb⟩
  go_wp2
  go_ret3
  exact ⟨rfl, hb⟩

theorem ok_bounds (c : UInt8) : okC c = true ↔ 33 ≤ (c.toNat : Int) ∧ (c.toNat : Int) ≤ 126 := by unfold okC; simp; omega

/-- the loop of name over the bytes ahead of the ":" -/
def nameV (t : List UInt8) (e : Ending) (w w' : World) : Prop :=
  (match nameL t with
   | some (n, v) => e = .returned (.tuple #[.string (bs n), .string (bs v), .bool true])
   | none => ∃ x y, e = .returned (.tuple #[.string (bs x), .string (bs y), .bool false])) ∧ Below w.heap.size w w'

set_option maxRecDepth 100000 in
set_option maxHeartbeats 1000000 in
theorem name_any (t : List UInt8) (w : World) (hl : t.length ≤ 1099511627776) : Calls Tryd.prog 70 #[.string (bs t)] w fun e w' => nameV t e w w' := by
  obtain ⟨a, r, is, hcut, hal, hnm⟩ : ∃ (a r : List UInt8) (is : Bool), Hid (∀ w, Calls Tryd.prog 42 #[.string (bs t), .string (bs [58])] w fun e w' => e = .returned (.tuple #[.string (bs a), .string (bs r), .bool is]) ∧ Below w.heap.size w w') ∧ a.length ≤ t.length ∧ nameL t = if is = true ∧ a ≠ [] ∧ a.all okC = true then some (a, r) else none := by
    cases hc : cutC t with
    | none => exact ⟨t, [], false, fun w => cut_none t w hc, Nat.le_refl _, by unfold nameL; rw [hc]; simp⟩
    | some q =>
      obtain ⟨a, r⟩ := q
      refine ⟨a, r, true, fun w => cut_some t a r w hc hl, by rw [cutC_some hc]; simp, ?_⟩
      unfold nameL
      rw [hc]
      simp
  obtain ⟨R, hR⟩ : ∃ R, nameL t = R := ⟨_, rfl⟩
  unfold nameV
  rw [hR]
  rw [hR] at hnm
  have HN := Lib.hid hnm
  clear hnm hR
  go_enter Tryd.func70, Tryd.ntmps70
  go_wp2_with fail
  refine (hcut.out _).mono ?_
  rintro e w1 ⟨rfl, hb1⟩
  obtain ⟨cap, w2, hconv, hcells, hb2, hlt2⟩ := to_bytes a w1
  have HC := Lib.hid hcells
  clear hcells
  go_wp2
  clear hconv
  go_loop [9, 19] (fun _ i => ∃ k : Nat, k ≤ a.length ∧ i = .int .i64 k ∧ Hid (∀ j, j < k → okC (a.getD j 0) = true)) (fun _ i => a.length - (intOf i).toNat)
  case atStart => exact ⟨0, Nat.zero_le _, rfl, by intro j hj; omega⟩
  case round =>
    obtain ⟨k, hk, rfl, hok⟩ := hrel
    by_cases hlt : k < a.length
    · have hck := HC.out k hlt
      have hlt' : (k : Int) < a.length := by omega
      obtain ⟨c, hc⟩ : ∃ c, a.getD k 0 = c := ⟨_, rfl⟩
      rw [hc] at hck
      have hcm : c ∈ a := by rw [← hc, List.getD_eq_getElem?_getD, List.getElem?_eq_getElem hlt]; exact List.getElem_mem hlt
      have HK := Lib.hid hc
      clear hc
      by_cases ho : okC c = true
      · obtain ⟨o1, o2⟩ := (ok_bounds c).1 ho
        have HO := Lib.hid ho
        clear ho
        go_wp2
        go_round
        case rel =>
          refine ⟨k + 1, by omega, by go_num, ?_⟩
          intro j hj
          rcases Nat.lt_or_ge j k with h1 | h1
          · exact hok.out j h1
          · obtain rfl : j = k := by omega
            rw [HK.out]; exact HO.out
        case measure => simp [intOf]; omega
      · have hnone : R = none := by
          rw [HN.out, if_neg]
          rintro ⟨_, _, h⟩
          exact ho (List.all_eq_true.1 h c hcm)
        subst hnone
        have hb : (c.toNat : Int) < 33 ∨ 33 ≤ (c.toNat : Int) ∧ 126 < (c.toNat : Int) := by
          have := ok_bounds c
          rcases Int.lt_or_le (c.toNat : Int) 33 with h1 | h1
          · exact .inl h1
          · refine .inr ⟨h1, ?_⟩
            rcases Int.lt_or_le 126 (c.toNat : Int) with h2 | h2
            · exact h2
            · exact absurd (this.2 ⟨h1, h2⟩) ho
        clear ho hcm
        rcases hb with hb | ⟨hb, hb'⟩
        all_goals
          go_wp2
          go_ret3
          exact ⟨⟨[], [], rfl⟩, hb1.trans (hb2.mono hb1.size)⟩
    · obtain rfl : k = a.length := by omega
      have hall : a.all okC = true := by
        rw [List.all_eq_true]
        intro c hc
        obtain ⟨j, hj, rfl⟩ := List.mem_iff_getElem.1 hc
        have := hok.out j hj
        rwa [List.getD_eq_getElem?_getD, List.getElem?_eq_getElem hj] at this
      have hR2 := HN.out
      rw [hall] at hR2
      clear hall hok
      by_cases h0 : a = []
      · subst h0
        have hR3 : R = none := by rw [hR2]; simp
        subst hR3
        clear hR2
        cases is
        all_goals
          go_wp2
          go_ret3
          exact ⟨⟨_, _, rfl⟩, hb1.trans (hb2.mono hb1.size)⟩
      · have hne : (!a == []) = true := by simp [h0]
        have hne2 : a.isEmpty = false := by simp [h0]
        cases is
        · have hR3 : R = none := by rw [hR2]; simp
          subst hR3
          clear hR2 h0
          go_wp2
          go_ret3
          exact ⟨⟨_, _, rfl⟩, hb1.trans (hb2.mono hb1.size)⟩
        · have hR3 : R = some (a, r) := by rw [hR2, if_pos ⟨rfl, h0, rfl⟩]
          subst hR3
          clear hR2 h0
          go_wp2
          go_ret3
          exact ⟨rfl, hb1.trans (hb2.mono hb1.size)⟩

end Go.Proofs.YtifjibgnjjiggaaDoor
end

/- The reference's Text, colon, blank, trim. -/
set_option linter.unusedVariables false
set_option linter.unusedSimpArgs false
section
namespace Go.Proofs.YtifjibgnjjiggaaDoor
open Go.RowKit

theorem byte_ne {c d : UInt8} {n : Int} (hn : (d.toNat : Int) = n) (h : c ≠ d) : ((c.toNat : Int) == n) = false := by
  subst hn
  simp
  intro e
  exact h (UInt8.toNat_inj.1 (by omega))

theorem suffix_last (l : List UInt8) (c : UInt8) : Lib.hasSuffix (l ++ [c]) [10] = (c == 10) ∧ (Lib.trimSuffix (l ++ [c]) [10] = if c = 10 then l else l ++ [c]) := by
  have h : Lib.hasSuffix (l ++ [c]) [10] = (c == 10) := by
    unfold Lib.hasSuffix
    rw [Bool.eq_iff_iff, List.isSuffixOf_iff_suffix]
    simp only [beq_iff_eq]
    constructor
    · rintro ⟨t, ht⟩
      have := congrArg List.getLast? ht
      simpa using this.symm
    · rintro rfl; exact ⟨l, rfl⟩
  refine ⟨h, ?_⟩
  unfold Lib.trimSuffix
  rw [h]
  by_cases hc : c = 10
  · subst hc; simp
  · simp [hc]
theorem suffix_last13 (l : List UInt8) (c : UInt8) : Lib.trimSuffix (l ++ [c]) [13] = if c = 13 then l else l ++ [c] := by
  have h : Lib.hasSuffix (l ++ [c]) [13] = (c == 13) := by
    unfold Lib.hasSuffix
    rw [Bool.eq_iff_iff, List.isSuffixOf_iff_suffix]
    simp only [beq_iff_eq]
    constructor
    · rintro ⟨t, ht⟩
      have := congrArg List.getLast? ht
      simpa using this.symm
    · rintro rfl; exact ⟨l, rfl⟩
  unfold Lib.trimSuffix
  rw [h]
  by_cases hc : c = 13
  · subst hc; simp
  · simp [hc]

/-- where a field's name ends -/
def colonV (t : List UInt8) : Int := match nameL t with | some (n, _) => (n.length : Int) | none => -1

theorem nameL_colon (n r : List UInt8) (hn : ∀ c ∈ n, okC c = true ∧ c ≠ 58) : nameL (n ++ 58 :: r) = if n = [] then none else some (n, r) := by
  have hc : cutC (n ++ 58 :: r) = some (n, r) := by
    induction n with
    | nil => simp [cutC]
    | cons c n ih =>
      have h := hn c (by simp)
      simp [cutC, h.2, ih (fun x hx => hn x (by simp [hx]))]
  unfold nameL
  rw [hc]
  have ha : n.all okC = true := List.all_eq_true.2 fun c h => (hn c h).1
  by_cases h0 : n = [] <;> simp [h0, ha]
theorem nameL_bad (n r : List UInt8) (c : UInt8) (hn : ∀ c ∈ n, okC c = true ∧ c ≠ 58) (hc : okC c = false) (hc2 : c ≠ 58) : nameL (n ++ c :: r) = none := by
  unfold nameL
  cases hq : cutC (n ++ c :: r) with
  | none => rfl
  | some p =>
    obtain ⟨a, b⟩ := p
    have h := cutC_some hq
    simp only
    rw [if_neg]
    rintro ⟨_, h2⟩
    have hlen : n.length < a.length := by
      rcases Nat.lt_or_ge n.length a.length with h3 | h3
      · exact h3
      · have := congrArg (fun l => l[a.length]?) h
        rw [List.getElem?_append_right (Nat.le_refl _), Nat.sub_self] at this
        rcases Nat.lt_or_ge a.length n.length with h4 | h4
        · rw [List.getElem?_append_left h4] at this
          exact absurd rfl (hn 58 (List.mem_of_getElem? this)).2
        · have h5 : a.length = n.length := by omega
          rw [h5, List.getElem?_append_right (Nat.le_refl _), Nat.sub_self] at this
          simp at this
          exact absurd this hc2
    have hca : c ∈ a := by
      have := congrArg (fun l => l[n.length]?) h
      rw [List.getElem?_append_right (Nat.le_refl _), Nat.sub_self, List.getElem?_append_left hlen] at this
      exact List.mem_of_getElem? this.symm
    rw [List.all_eq_true.1 h2 c hca] at hc
    cases hc
theorem nameL_end (n : List UInt8) (hn : ∀ c ∈ n, okC c = true ∧ c ≠ 58) : nameL n = none := by
  have hc : cutC n = none := by
    induction n with
    | nil => rfl
    | cons c n ih =>
      have h := hn c (by simp)
      simp [cutC, h.2, ih (fun x hx => hn x (by simp [hx]))]
  unfold nameL
  rw [hc]

end Go.Proofs.YtifjibgnjjiggaaDoor
end
