/- Plain facts: a value folded at blanks. -/
import Derived.Test.YtplmekfcnggigaaDoorHE
import Derived.Test.YtplmekfcnggigaaDoorHA
set_option linter.unusedVariables false
set_option linter.unusedSimpArgs false
namespace Go.Proofs.YtplmekfcnggigaaDoor
open Go.RowKit

def sepF (i : Nat) : List UInt8 := if i % 3 = 0 then [13, 10, 32] else if i % 3 = 1 then [32] else [10, 32]
def foldF : Nat → List (List UInt8) → List UInt8
  | _, [] => []
  | i, w :: ws => (sepF i ++ w) ++ foldF (i + 1) ws
def flatF : List (List UInt8) → List UInt8
  | [] => []
  | w :: ws => ([32] ++ w) ++ flatF ws
/-- a word: some bytes that one sees -/
def okW (w : List UInt8) : Prop := w ≠ [] ∧ w.length ≤ 60 ∧ ∀ c ∈ w, okC c = true
def lowOk (a : List UInt8) : Prop := ∀ c ∈ a, 32 ≤ c.toNat

theorem foldF_snoc (ws : List (List UInt8)) (w : List UInt8) : ∀ i, foldF i (ws ++ [w]) = foldF i ws ++ (sepF (i + ws.length) ++ w) := by
  induction ws with
  | nil => intro i; simp [foldF]
  | cons x ws ih => intro i; simp [foldF, ih]; congr 1; omega
theorem flatF_snoc (ws : List (List UInt8)) (w : List UInt8) : flatF (ws ++ [w]) = flatF ws ++ ([32] ++ w) := by
  induction ws with
  | nil => simp [flatF]
  | cons x ws ih => simp [flatF, ih]
theorem sepF_len (i : Nat) : (sepF i).length ≤ 3 := by unfold sepF; split <;> (try split) <;> decide
theorem fold_len (ws : List (List UInt8)) : ∀ i, (∀ w ∈ ws, w.length ≤ 60) → (foldF i ws).length ≤ 63 * ws.length := by
  induction ws with
  | nil => intro i _; simp [foldF]
  | cons x ws ih =>
    intro i h
    have h1 := ih (i + 1) (fun n hn => h n (by simp [hn]))
    have h2 := h x (by simp)
    have h3 := sepF_len i
    simp only [foldF, List.length_append, List.length_cons]
    omega
theorem flat_len (ws : List (List UInt8)) : (∀ w ∈ ws, w.length ≤ 60) → (flatF ws).length ≤ 61 * ws.length := by
  induction ws with
  | nil => intro _; simp [flatF]
  | cons x ws ih =>
    intro h
    have h1 := ih (fun n hn => h n (by simp [hn]))
    have h2 := h x (by simp)
    simp only [flatF, List.length_append, List.length_cons, List.length_nil]
    omega

theorem low_no {a : List UInt8} (h : lowOk a) (d : UInt8) (hd : d.toNat < 32) : ∀ c ∈ a, c ≠ d := by
  rintro c hc rfl
  have := h c hc
  omega
theorem low_app {a b : List UInt8} (ha : lowOk a) (hb : lowOk b) : lowOk (a ++ b) := fun c hc => (List.mem_append.1 hc).elim (ha c) (hb c)
theorem low_word {w : List UInt8} (h : okW w) : lowOk w := fun c hc => by have := okC_ge (h.2.2 c hc); omega
theorem textL_nl (a : List UInt8) (h : lowOk a) : textL (a ++ [10]) = a := by
  obtain ⟨h1, h2⟩ := suffix_last a 10
  unfold textL
  rw [h1, h2]
  rcases List.eq_nil_or_concat a with rfl | ⟨a1, d, rfl⟩
  · rfl
  · rw [List.concat_eq_append] at *
    have hd : d ≠ 13 := low_no h 13 (by decide) d (by simp)
    simp [suffix_last13, hd]

/-- the lines of a text that goes on: what is ahead of the first line's end -/
theorem lines_crlf (a r : List UInt8) (h : lowOk a) : linesOf (a ++ (13 :: 10 :: r)) = (a ++ [13] ++ [10]) :: linesOf r := by
  have := linesOf_nl (a ++ [13]) r (by
    intro c hc
    rcases List.mem_append.1 hc with hc | hc
    · exact low_no h 10 (by decide) c hc
    · have h9 : c = 13 := by simpa using hc
      rw [h9]; decide)
  rw [show a ++ (13 :: 10 :: r) = (a ++ [13]) ++ 10 :: r by simp, this]
theorem lines_lf (a r : List UInt8) (h : lowOk a) : linesOf (a ++ (10 :: r)) = (a ++ [10]) :: linesOf r :=
  linesOf_nl a r (low_no h 10 (by decide))

theorem turn_more (fs : List Fld) (f : Fld) (p q : Nat) (t : List UInt8) (h : goesB t = true) : turnL (fs ++ [f]) true p q t = (fs ++ [{ f with value := f.value ++ t, fin := q }], true, true) := by
  unfold turnL
  rw [if_neg (goesB_ne h), if_pos h]
  simp
theorem turn_new (fs : List Fld) (op : Bool) (p q : Nat) (t n v : List UInt8) (hn : nameL t = some (n, v)) : turnL fs op p q t = (fs ++ [⟨n, v, p, q⟩], true, true) := by
  have h0 : t ≠ [] := by rintro rfl; cases hn
  have hg : goesB t = false := by
    cases hh : goesB t with
    | false => rfl
    | true => rw [nameL_goes hh] at hn; cases hn
  unfold turnL
  rw [if_neg h0, if_neg (by rw [hg]; simp), hn]
theorem goL_step (fs fs' : List Fld) (op op' : Bool) (p : Nat) (l : List UInt8) (ls : List (List UInt8)) (t : List UInt8) (ht : textL l = t) (hu : turnL fs op p (p + l.length) t = (fs', op', true)) : goL fs op p (l :: ls) = goL fs' op' (p + l.length) ls := by
  rw [goL, ht, hu, if_pos rfl]
theorem goesB_app {a b : List UInt8} (h : goesB a = true) : goesB (a ++ b) = true := by
  cases a with
  | nil => cases h
  | cons c r => exact h
theorem nameL_app {a n v : List UInt8} (h : nameL a = some (n, v)) (b : List UInt8) (hn : ∀ c ∈ n, okC c = true ∧ c ≠ 58) (ha : a = n ++ 58 :: v) (hne : n ≠ []) : nameL (a ++ b) = some (n, v ++ b) := by
  rw [ha, show (n ++ 58 :: v) ++ b = n ++ 58 :: (v ++ b) by simp, nameL_colon n _ hn, if_neg hne]

theorem goL_more (fs : List Fld) (r : List UInt8) (ws : List (List UInt8)) : ∀ (i : Nat) (f : Fld) (p : Nat) (a : List UInt8), (∀ w ∈ ws, okW w) → lowOk a → goesB a = true →
    ∃ q, goL (fs ++ [f]) true p (linesOf ((a ++ foldF i ws) ++ (13 :: 10 :: r))) = goL (fs ++ [{ f with value := f.value ++ (a ++ flatF ws), fin := q }]) true q (linesOf r) := by
  induction ws with
  | nil =>
    intro i f p a _ ha hg
    refine ⟨p + (a ++ [13] ++ [10]).length, ?_⟩
    rw [foldF, List.append_nil, lines_crlf a r ha, goL_step _ _ _ _ _ _ _ a (textL_line a) (turn_more fs f p _ a hg)]
    simp [flatF]
  | cons w ws ih =>
    intro i f p a h ha hg
    have hw := low_word (h w (by simp))
    have h' : ∀ x ∈ ws, okW x := fun x hx => h x (by simp [hx])
    have h32 : lowOk ([32] ++ w) := low_app (by unfold lowOk; decide) hw
    have hg2 : goesB ([32] ++ w) = true := rfl
    unfold foldF sepF
    by_cases h0 : i % 3 = 0
    · rw [if_pos h0]
      obtain ⟨q, hq⟩ := ih (i + 1) { f with value := f.value ++ a, fin := p + (a ++ [13] ++ [10]).length } (p + (a ++ [13] ++ [10]).length) ([32] ++ w) h' h32 hg2
      refine ⟨q, ?_⟩
      rw [show (a ++ (([13, 10, 32] ++ w) ++ foldF (i + 1) ws)) ++ (13 :: 10 :: r) = a ++ (13 :: 10 :: ((([32] ++ w) ++ foldF (i + 1) ws) ++ (13 :: 10 :: r))) by simp, lines_crlf a _ ha, goL_step _ _ _ _ _ _ _ a (textL_line a) (turn_more fs f p _ a hg), hq]
      simp [flatF]
    · rw [if_neg h0]
      by_cases h1 : i % 3 = 1
      · rw [if_pos h1]
        obtain ⟨q, hq⟩ := ih (i + 1) f p (a ++ ([32] ++ w)) h' (low_app ha h32) (goesB_app hg)
        refine ⟨q, ?_⟩
        rw [show (a ++ (([32] ++ w) ++ foldF (i + 1) ws)) ++ (13 :: 10 :: r) = ((a ++ ([32] ++ w)) ++ foldF (i + 1) ws) ++ (13 :: 10 :: r) by simp, hq]
        simp [flatF]
      · rw [if_neg h1]
        obtain ⟨q, hq⟩ := ih (i + 1) { f with value := f.value ++ a, fin := p + (a ++ [10]).length } (p + (a ++ [10]).length) ([32] ++ w) h' h32 hg2
        refine ⟨q, ?_⟩
        rw [show (a ++ (([10, 32] ++ w) ++ foldF (i + 1) ws)) ++ (13 :: 10 :: r) = a ++ (10 :: ((([32] ++ w) ++ foldF (i + 1) ws) ++ (13 :: 10 :: r))) by simp, lines_lf a _ ha, goL_step _ _ _ _ _ _ _ a (textL_nl a ha) (turn_more fs f p _ a hg), hq]
        simp [flatF]

theorem goL_first (n : List UInt8) (hn : ∀ c ∈ n, okC c = true ∧ c ≠ 58) (hne : n ≠ []) (fs : List Fld) (op : Bool) (r : List UInt8) (p : Nat) (ws : List (List UInt8)) : ∀ (i : Nat) (v : List UInt8), (∀ w ∈ ws, okW w) → lowOk (n ++ 58 :: v) →
    ∃ q, goL fs op p (linesOf (((n ++ 58 :: v) ++ foldF i ws) ++ (13 :: 10 :: r))) = goL (fs ++ [⟨n, v ++ flatF ws, p, q⟩]) true q (linesOf r) := by
  have hnm : ∀ v, nameL (n ++ 58 :: v) = some (n, v) := fun v => by rw [nameL_colon n v hn, if_neg hne]
  induction ws with
  | nil =>
    intro i v _ ha
    refine ⟨p + ((n ++ 58 :: v) ++ [13] ++ [10]).length, ?_⟩
    rw [foldF, List.append_nil, lines_crlf _ r ha, goL_step _ _ _ _ _ _ _ _ (textL_line _) (turn_new fs op p _ _ n v (hnm v))]
    simp [flatF]
  | cons w ws ih =>
    intro i v h ha
    have hw := low_word (h w (by simp))
    have h' : ∀ x ∈ ws, okW x := fun x hx => h x (by simp [hx])
    have h32 : lowOk ([32] ++ w) := low_app (by unfold lowOk; decide) hw
    have hg2 : goesB ([32] ++ w) = true := rfl
    obtain ⟨a, haa⟩ : ∃ a, n ++ 58 :: v = a := ⟨_, rfl⟩
    unfold foldF sepF
    by_cases h0 : i % 3 = 0
    · rw [if_pos h0]
      obtain ⟨q, hq⟩ := goL_more fs r ws (i + 1) ⟨n, v, p, p + ((n ++ 58 :: v) ++ [13] ++ [10]).length⟩ (p + ((n ++ 58 :: v) ++ [13] ++ [10]).length) ([32] ++ w) h' h32 hg2
      refine ⟨q, ?_⟩
      rw [show ((n ++ 58 :: v) ++ (([13, 10, 32] ++ w) ++ foldF (i + 1) ws)) ++ (13 :: 10 :: r) = (n ++ 58 :: v) ++ (13 :: 10 :: ((([32] ++ w) ++ foldF (i + 1) ws) ++ (13 :: 10 :: r))) by simp, lines_crlf _ _ ha, goL_step _ _ _ _ _ _ _ _ (textL_line _) (turn_new fs op p _ _ n v (hnm v)), hq]
      simp [flatF]
    · rw [if_neg h0]
      by_cases h1 : i % 3 = 1
      · rw [if_pos h1]
        have ha2 : lowOk (n ++ 58 :: (v ++ ([32] ++ w))) := by
          have := low_app ha h32
          simpa using this
        obtain ⟨q, hq⟩ := ih (i + 1) (v ++ ([32] ++ w)) h' ha2
        refine ⟨q, ?_⟩
        rw [show ((n ++ 58 :: v) ++ (([32] ++ w) ++ foldF (i + 1) ws)) ++ (13 :: 10 :: r) = ((n ++ 58 :: (v ++ ([32] ++ w))) ++ foldF (i + 1) ws) ++ (13 :: 10 :: r) by simp, hq]
        simp [flatF]
      · rw [if_neg h1]
        obtain ⟨q, hq⟩ := goL_more fs r ws (i + 1) ⟨n, v, p, p + ((n ++ 58 :: v) ++ [10]).length⟩ (p + ((n ++ 58 :: v) ++ [10]).length) ([32] ++ w) h' h32 hg2
        refine ⟨q, ?_⟩
        rw [show ((n ++ 58 :: v) ++ (([10, 32] ++ w) ++ foldF (i + 1) ws)) ++ (13 :: 10 :: r) = (n ++ 58 :: v) ++ (10 :: ((([32] ++ w) ++ foldF (i + 1) ws) ++ (13 :: 10 :: r))) by simp, lines_lf _ _ ha, goL_step _ _ _ _ _ _ _ _ (textL_nl _ ha) (turn_new fs op p _ _ n v (hnm v)), hq]
        simp [flatF]

/-- a word ahead, words behind -/
def flat0 (w : List UInt8) (ws : List (List UInt8)) : List UInt8 := w ++ flatF ws
theorem okW_blank {w : List UInt8} (h : okW w) : ∀ c ∈ w, blankB c = false := fun c hc => by
  have h1 := h.2.2 c hc
  unfold blankB
  have := okC_no h1 (d := 32) (by decide)
  have := okC_no h1 (d := 9) (by decide)
  simp_all
theorem flat_last (ws : List (List UInt8)) : ∀ w, okW w → (∀ x ∈ ws, okW x) → ∃ l d, flat0 w ws = l ++ [d] ∧ blankB d = false := by
  rcases List.eq_nil_or_concat ws with rfl | ⟨ws1, x, rfl⟩
  · intro w hw _
    rcases List.eq_nil_or_concat w with rfl | ⟨w1, d, rfl⟩
    · exact absurd rfl hw.1
    · exact ⟨w1, d, by simp [flat0, flatF], okW_blank hw d (by simp)⟩
  · intro w hw h
    have hx := h x (by simp)
    rcases List.eq_nil_or_concat x with rfl | ⟨x1, d, rfl⟩
    · exact absurd rfl hx.1
    · exact ⟨w ++ flatF ws1 ++ ([32] ++ x1), d, by simp [flat0, flatF_snoc], okW_blank hx d (by simp)⟩
theorem trim_flat (w : List UInt8) (ws : List (List UInt8)) (hw : okW w) (h : ∀ x ∈ ws, okW x) : trimB (32 :: flat0 w ws) = flat0 w ws := by
  obtain ⟨l, d, e, hd⟩ := flat_last ws w hw h
  rw [trimB_eq]
  have h1 : dropL (32 :: flat0 w ws) = flat0 w ws := by
    unfold dropL
    rw [List.dropWhile_cons, if_pos (by decide)]
    cases w with
    | nil => exact absurd rfl hw.1
    | cons c r =>
      show List.dropWhile blankB (c :: (r ++ flatF ws)) = _
      rw [List.dropWhile_cons, if_neg (by rw [okW_blank hw c (by simp)]; simp)]
      rfl
  rw [h1, e, dropR_snoc, if_neg (by rw [hd]; simp)]

def tailF : List UInt8 := [13, 10, 66, 58, 32, 99, 13, 10, 13, 10]
theorem fields_fold (w : List UInt8) (ws : List (List UInt8)) (hw : okW w) (h : ∀ x ∈ ws, okW x) : ∃ f g, fieldsL ((([65, 58, 32] ++ w) ++ foldF 1 ws) ++ tailF) = [f, g] ∧ f.value = flat0 w ws := by
  have hl : lowOk ([65] ++ 58 :: ([32] ++ w)) := by
    have := low_app (a := [65, 58, 32]) (b := w) (by unfold lowOk; decide) (low_word hw)
    simpa using this
  obtain ⟨q, hq⟩ := goL_first [65] (by decide) (by decide) [] false [66, 58, 32, 99, 13, 10, 13, 10] 0 ws 1 ([32] ++ w) h hl
  have hb : ∀ (fs : List Fld) (q : Nat), ∃ g : Fld, (goL fs true q (linesOf [66, 58, 32, 99, 13, 10, 13, 10])).1 = fs ++ [g] := by
    intro fs q
    have e1 : linesOf [66, 58, 32, 99, 13, 10, 13, 10] = ([66, 58, 32, 99] ++ [13] ++ [10]) :: [[13, 10]] := by decide
    have hn : nameL [66, 58, 32, 99] = some ([66], [32, 99]) := by decide
    rw [e1, goL_step _ _ _ _ _ _ _ _ (textL_line _) (turn_new fs true q _ _ _ _ hn)]
    have ht : textL [13, 10] = [] := textL_line []
    rw [goL, ht]
    refine ⟨⟨[66], [32, 99], q, q + ([66, 58, 32, 99] ++ [13] ++ [10]).length⟩, ?_⟩
    unfold turnL
    rw [if_pos rfl]
    simp
  obtain ⟨g, hg⟩ := hb ([] ++ [⟨[65], ([32] ++ w) ++ flatF ws, 0, q⟩]) q
  refine ⟨trimF ⟨[65], ([32] ++ w) ++ flatF ws, 0, q⟩, trimF g, ?_, ?_⟩
  · unfold fieldsL
    rw [show (([65, 58, 32] ++ w) ++ foldF 1 ws) ++ tailF = ((([65] ++ 58 :: ([32] ++ w)) ++ foldF 1 ws) ++ (13 :: 10 :: [66, 58, 32, 99, 13, 10, 13, 10])) by simp [tailF], hq, hg]
    rfl
  · exact trim_flat w ws hw h

end Go.Proofs.YtplmekfcnggigaaDoor
