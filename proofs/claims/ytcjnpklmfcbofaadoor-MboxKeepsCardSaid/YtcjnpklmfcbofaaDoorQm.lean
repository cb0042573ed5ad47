/- Plain facts on quoted lines. -/
import Derived.Test.YtcjnpklmfcbofaaDoorLp
set_option linter.unusedVariables false
set_option linter.unusedSimpArgs false
namespace Go.Proofs.YtcjnpklmfcbofaaDoor

def fromL : List UInt8 := [70, 114, 111, 109, 32]
/-- a line less the marks ahead of it -/
def unmark (l : List UInt8) : List UInt8 := l.dropWhile (· == 62)
def looks (l : List UInt8) : Bool := fromL.isPrefixOf (unmark l)
def headM : List UInt8 → Bool
  | [] => false
  | c :: _ => c == 62
def sepB (l : List UInt8) : Bool := looks l && !headM l
def quotedB (l : List UInt8) : Bool := looks l && headM l
def quoteL (l : List UInt8) : List UInt8 := if looks l then 62 :: l else l
def unquoteL (l : List UInt8) : List UInt8 := if quotedB l then l.tail else l
def encodeL (m : List UInt8) : List UInt8 := ((linesOf m).map quoteL).flatten ++ [10]
def decodeL (m : List UInt8) : List UInt8 := ((linesOf m).map unquoteL).flatten

theorem unmark_mark (l : List UInt8) : unmark (62 :: l) = unmark l := by unfold unmark; simp [List.dropWhile_cons]
theorem unmark_no (l : List UInt8) (h : headM l = false) : unmark l = l := by
  cases l with
  | nil => rfl
  | cons c r => unfold unmark; unfold headM at h; simp [List.dropWhile_cons, h]
theorem looks_mark (l : List UInt8) : looks (62 :: l) = looks l := by unfold looks; rw [unmark_mark]
theorem looks_nil : looks [] = false := rfl
theorem headM_iff (l : List UInt8) : headM l = true ↔ ∃ r, l = 62 :: r := by
  cases l with
  | nil => simp [headM]
  | cons c r => simp [headM]

/-- the marks, then the rest -/
theorem unmark_length (l : List UInt8) : (unmark l).length ≤ l.length := List.Sublist.length_le (List.dropWhile_sublist _)
theorem unmark_lt (l : List UInt8) : (unmark l).length < l.length ↔ headM l = true := by
  cases l with
  | nil => simp [unmark, headM]
  | cons c r =>
    by_cases h : headM (c :: r) = true
    · obtain ⟨r', e⟩ := (headM_iff _).1 h
      obtain ⟨rfl, rfl⟩ := List.cons.inj e
      rw [unmark_mark]
      have := unmark_length r
      simp [h]; omega
    · rw [unmark_no _ (by simpa using h)]
      simp [h]

theorem unquote_quote (x : List UInt8) : unquoteL (quoteL x) = x := by
  unfold quoteL
  by_cases h : looks x = true
  · rw [if_pos h]; unfold unquoteL quotedB; rw [looks_mark, h]; rfl
  · rw [if_neg h]; unfold unquoteL quotedB; simp [h]
theorem sep_quote (x : List UInt8) : sepB (quoteL x) = false := by
  unfold quoteL
  by_cases h : looks x = true
  · rw [if_pos h]; simp [sepB, headM]
  · rw [if_neg h]; simp [sepB, h]
theorem quote_unquote (x : List UInt8) (h : sepB x = false) : quoteL (unquoteL x) = x := by
  unfold unquoteL
  by_cases hq : quotedB x = true
  · rw [if_pos hq]
    unfold quotedB at hq
    simp at hq
    obtain ⟨r, rfl⟩ := (headM_iff x).1 hq.2
    have := hq.1
    rw [looks_mark] at this
    unfold quoteL
    simp [this]
  · rw [if_neg hq]
    unfold quotedB at hq
    unfold sepB at h
    have : looks x = false := by
      cases hl : looks x
      · rfl
      · rw [hl] at hq h; simp at hq h; rw [h] at hq; cases hq
    unfold quoteL
    simp [this]

theorem quote_form (x : List UInt8) : quoteL x = x ∨ quoteL x = 62 :: x := by
  unfold quoteL
  by_cases h : looks x = true
  · simp [h]
  · simp [h]
theorem unquote_form (x : List UInt8) : unquoteL x = x ∨ ∃ y, y ≠ [] ∧ x = 62 :: y ∧ unquoteL x = y := by
  unfold unquoteL
  by_cases h : quotedB x = true
  · right
    rw [if_pos h]
    unfold quotedB at h
    simp at h
    obtain ⟨r, rfl⟩ := (headM_iff x).1 h.2
    refine ⟨r, ?_, rfl, rfl⟩
    rintro rfl
    have := h.1
    rw [looks_mark, looks_nil] at this
    cases this
  · left; rw [if_neg h]

/-- a turning of lines that keeps their ends -/
def Keeps (f : List UInt8 → List UInt8) : Prop := ∀ x, x ≠ [] → (f x ≠ [] ∧ ((∀ c ∈ x.dropLast, c ≠ 10) → ∀ c ∈ (f x).dropLast, c ≠ 10) ∧ ∀ a, x = a ++ [10] → (∀ c ∈ a, c ≠ 10) → ∃ b, f x = b ++ [10] ∧ ∀ c ∈ b, c ≠ 10)
theorem keeps_quote : Keeps quoteL := by
  intro x hx
  rcases quote_form x with e | e
  · rw [e]; exact ⟨hx, id, fun a ha h => ⟨a, ha, h⟩⟩
  · rw [e]
    refine ⟨by simp, fun h c hc => ?_, fun a ha h => ⟨62 :: a, by rw [ha]; rfl, ?_⟩⟩
    · cases x with
      | nil => exact absurd rfl hx
      | cons d r =>
        rw [List.dropLast_cons_cons] at hc
        rcases List.mem_cons.1 hc with rfl | hc
        · decide
        · exact h c hc
    · intro c hc
      rcases List.mem_cons.1 hc with rfl | hc
      · decide
      · exact h c hc
theorem keeps_unquote : Keeps unquoteL := by
  intro x hx
  rcases unquote_form x with e | ⟨y, hy, rfl, e⟩
  · rw [e]; exact ⟨hx, id, fun a ha h => ⟨a, ha, h⟩⟩
  · rw [e]
    refine ⟨hy, fun h c hc => ?_, fun a ha h => ?_⟩
    · cases y with
      | nil => exact absurd rfl hy
      | cons d r => exact h c (by rw [List.dropLast_cons_cons]; exact List.mem_cons_of_mem _ hc)
    · cases a with
      | nil =>
        have := (List.cons.inj ha).1
        exact absurd this (by decide)
      | cons d a =>
        obtain ⟨rfl, rfl⟩ := List.cons.inj ha
        exact ⟨a, rfl, fun c hc => h c (List.mem_cons_of_mem _ hc)⟩

theorem wf_map {f : List UInt8 → List UInt8} (hf : Keeps f) : ∀ (ls : List (List UInt8)), wfLines ls → wfLines (ls.map f)
  | [], _ => trivial
  | [x], ⟨hx, h⟩ => ⟨(hf x hx).1, (hf x hx).2.1 h⟩
  | x :: y :: r, ⟨⟨a, e, h⟩, hr⟩ => by
    have hx : x ≠ [] := by rw [e]; simp
    exact ⟨(hf x hx).2.2 a e h, wf_map hf (y :: r) hr⟩

theorem linesOf_map {f : List UInt8 → List UInt8} (hf : Keeps f) (l : List UInt8) : linesOf ((linesOf l).map f).flatten = (linesOf l).map f :=
  linesOf_of_wf _ (wf_map hf _ (linesOf_wf l))

/-! ### a line feed behind -/

theorem looks_nl (l : List UInt8) (r : List UInt8) : looks (l ++ 10 :: r) = looks l := by
  unfold looks
  have key : ∀ y : List UInt8, fromL.isPrefixOf (y ++ 10 :: r) = fromL.isPrefixOf y := by
    intro y
    rcases y with _ | ⟨a, _ | ⟨b, _ | ⟨c, _ | ⟨d, _ | ⟨e, y⟩⟩⟩⟩⟩ <;> simp [fromL, List.isPrefixOf]
  have : unmark (l ++ 10 :: r) = unmark l ++ 10 :: r := by
    unfold unmark
    induction l with
    | nil => simp [List.dropWhile_cons]
    | cons c t ih =>
      rw [List.cons_append, List.dropWhile_cons, List.dropWhile_cons]
      by_cases h : (c == 62) = true
      · rw [if_pos h, if_pos h, ih]
      · rw [if_neg h, if_neg h]; rfl
  rw [this, key]
theorem headM_nl (l r : List UInt8) : headM (l ++ 10 :: r) = headM l := by
  cases l with
  | nil => rfl
  | cons c t => rfl
theorem sep_nl (l r : List UInt8) : sepB (l ++ 10 :: r) = sepB l := by unfold sepB; rw [looks_nl, headM_nl]

theorem lines_behind : ∀ (ls : List (List UInt8)), wfLines ls → ∀ x ∈ linesOf (ls.flatten ++ [10]), x = [10] ∨ x ∈ ls ∨ ∃ y ∈ ls, x = y ++ [10]
  | [], _, x, hx => .inl (by simpa [linesOf] using hx)
  | [y], ⟨hy, h⟩, x, hx => by
    simp only [List.flatten_cons, List.flatten_nil, List.append_nil] at hx
    by_cases e : y.getLast hy = 10
    · have ey : y = y.dropLast ++ 10 :: [] := by rw [← e]; exact (List.dropLast_concat_getLast hy).symm
      rw [ey, List.append_assoc, List.cons_append, linesOf_nl _ _ h] at hx
      rcases List.mem_cons.1 hx with rfl | hx
      · exact .inr (.inl (by rw [← ey]; simp))
      · exact .inl (by simpa [linesOf] using hx)
    · rw [linesOf_nl y [] (fun c hc => by
        rw [← List.dropLast_concat_getLast hy] at hc
        rcases List.mem_append.1 hc with hc | hc
        · exact h c hc
        · rw [List.mem_singleton.1 hc]; exact e)] at hx
      exact .inr (.inr ⟨y, by simp, by simpa [linesOf] using hx⟩)
  | y :: z :: r, ⟨⟨a, e, h⟩, hr⟩, x, hx => by
    rw [List.flatten_cons, e, List.append_assoc, List.append_assoc, List.singleton_append, linesOf_nl a _ h] at hx
    rcases List.mem_cons.1 hx with rfl | hx
    · exact .inr (.inl (by rw [e]; simp))
    · rcases lines_behind (z :: r) hr x hx with h1 | h1 | ⟨u, hu, h1⟩
      · exact .inl h1
      · exact .inr (.inl (List.mem_cons_of_mem _ h1))
      · exact .inr (.inr ⟨u, List.mem_cons_of_mem _ hu, h1⟩)

theorem lines_ahead : ∀ (ls : List (List UInt8)), wfLines ls → ∀ x ∈ ls, x ∈ linesOf (ls.flatten ++ [10]) ∨ x ++ [10] ∈ linesOf (ls.flatten ++ [10])
  | [], _, x, hx => by simp at hx
  | [y], ⟨hy, h⟩, x, hx => by
    obtain rfl : x = y := by simpa using hx
    simp only [List.flatten_cons, List.flatten_nil, List.append_nil]
    by_cases e : x.getLast hy = 10
    · have ey : x = x.dropLast ++ 10 :: [] := by rw [← e]; exact (List.dropLast_concat_getLast hy).symm
      left
      have e2 : x ++ [10] = x.dropLast ++ 10 :: [10] := by
        have := congrArg (· ++ [(10 : UInt8)]) ey
        simpa using this
      rw [e2, linesOf_nl _ _ h, show x.dropLast ++ [10] = x from ey.symm]
      simp
    · right
      rw [linesOf_nl x [] (fun c hc => by
        rw [← List.dropLast_concat_getLast hy] at hc
        rcases List.mem_append.1 hc with hc | hc
        · exact h c hc
        · rw [List.mem_singleton.1 hc]; exact e)]
      simp
  | y :: z :: r, ⟨⟨a, e, h⟩, hr⟩, x, hx => by
    rw [List.flatten_cons, e, List.append_assoc, List.append_assoc, List.singleton_append, linesOf_nl a _ h]
    rcases List.mem_cons.1 hx with rfl | hx
    · left; rw [e]; simp
    · rcases lines_ahead (z :: r) hr x hx with h1 | h1
      · left; exact List.mem_cons_of_mem _ h1
      · right; exact List.mem_cons_of_mem _ h1

theorem sep_behind (x : List UInt8) : sepB (x ++ [10]) = sepB x := sep_nl x []

/-- no line of an encoded message looks like a separator -/
theorem encode_nosep (s : List UInt8) : ∀ x ∈ linesOf (encodeL s), sepB x = false := by
  intro x hx
  rcases lines_behind _ (wf_map keeps_quote _ (linesOf_wf s)) x hx with rfl | h | ⟨y, h, rfl⟩
  · rfl
  · obtain ⟨y, _, rfl⟩ := List.mem_map.1 h
    exact sep_quote y
  · obtain ⟨y', _, rfl⟩ := List.mem_map.1 h
    rw [sep_behind]; exact sep_quote y'
theorem decode_encode (s : List UInt8) : decodeL ((linesOf s).map quoteL).flatten = s := by
  unfold decodeL
  rw [linesOf_map keeps_quote, List.map_map, show unquoteL ∘ quoteL = id from funext unquote_quote, List.map_id, linesOf_flatten]
theorem encode_decode (m : List UInt8) (h : ∀ x ∈ linesOf (m ++ [10]), sepB x = false) : encodeL (decodeL m) = m ++ [10] := by
  unfold encodeL decodeL
  rw [linesOf_map keeps_unquote, List.map_map]
  have : (linesOf m).map (quoteL ∘ unquoteL) = linesOf m := by
    conv => rhs; rw [← List.map_id (linesOf m)]
    refine List.map_congr_left fun x hx => quote_unquote x ?_
    have := lines_ahead (linesOf m) (linesOf_wf m) x hx
    rw [linesOf_flatten] at this
    rcases this with h1 | h1
    · exact h x h1
    · rw [← sep_behind]; exact h _ h1
  rw [this, linesOf_flatten]

theorem quote_length (x : List UInt8) : x.length ≤ (quoteL x).length ∧ (quoteL x).length ≤ x.length + 1 := by
  rcases quote_form x with e | e <;> rw [e] <;> simp
theorem quotes_length (ls : List (List UInt8)) : ls.flatten.length ≤ (ls.map quoteL).flatten.length ∧ (ls.map quoteL).flatten.length ≤ ls.flatten.length + ls.length := by
  induction ls with
  | nil => simp
  | cons x r ih =>
    have := quote_length x
    simp only [List.map_cons, List.flatten_cons, List.length_append, List.length_cons]
    omega
theorem encode_length (s : List UInt8) : s.length + 1 ≤ (encodeL s).length ∧ (encodeL s).length ≤ 2 * s.length + 1 := by
  have h1 := quotes_length (linesOf s)
  rw [linesOf_flatten] at h1
  have h2 := linesOf_length s
  unfold encodeL
  simp only [List.length_append, List.length_singleton]
  omega
theorem unquote_length (x : List UInt8) : (unquoteL x).length ≤ x.length := by
  rcases unquote_form x with e | ⟨y, _, rfl, e⟩ <;> rw [e] <;> simp
theorem decode_length (m : List UInt8) : (decodeL m).length ≤ m.length := by
  unfold decodeL
  conv => rhs; rw [← linesOf_flatten m]
  generalize linesOf m = ls
  induction ls with
  | nil => simp
  | cons x r ih =>
    have := unquote_length x
    simp only [List.map_cons, List.flatten_cons, List.length_append]
    omega

/-- at each place where a line begins -/
theorem begins_nosep (t : List UInt8) (h : ∀ x ∈ linesOf t, sepB x = false) : ∀ i, i < t.length → (i = 0 ∨ t[i - 1]? = some 10) → sepB (t.drop i) = false := by
  revert h
  refine lines_induction (p := fun t => (∀ x ∈ linesOf t, sepB x = false) → ∀ i, i < t.length → (i = 0 ∨ t[i - 1]? = some 10) → sepB (t.drop i) = false) (fun _ i hi => by simp at hi) (fun a ha hn h i hi hb => ?_) (fun a r hn ih h i hi hb => ?_) t
  · rcases hb with rfl | hb
    · rw [linesOf_end a hn ha] at h
      simpa using h a (by simp)
    · exact absurd rfl (hn 10 (List.mem_of_getElem? hb))
  · rw [linesOf_nl a r hn] at h
    rcases hb with rfl | hb
    · rw [List.drop_zero, sep_nl, ← sep_behind]
      exact h _ (by simp)
    · rcases Nat.lt_or_ge (i - 1) a.length with h1 | h1
      · rw [List.getElem?_append_left h1] at hb
        exact absurd rfl (hn 10 (List.mem_of_getElem? hb))
      · by_cases hi0 : i = 0
        · subst hi0
          rw [List.drop_zero, sep_nl, ← sep_behind]
          exact h _ (by simp)
        · have hd : (a ++ 10 :: r).drop i = r.drop (i - (a.length + 1)) := by
            rw [List.drop_append, List.drop_eq_nil_of_le (by omega), List.nil_append, show i - a.length = (i - (a.length + 1)) + 1 by omega]; rfl
          rw [hd]
          refine ih (fun x hx => h x (List.mem_cons_of_mem _ hx)) _ (by simp at hi; omega) ?_
          by_cases e : i = a.length + 1
          · left; omega
          · right
            rw [List.getElem?_append_right h1, show i - 1 - a.length = (i - (a.length + 1) - 1) + 1 by omega] at hb
            simpa using hb

/-! ### the document's texts, byte by byte -/

/-- how many marks stand ahead of "From "; -1: that isn't there -/
def marksL (l : List UInt8) : Int := if looks l then ((l.length - (unmark l).length : Nat) : Int) else -1

theorem marks_zero (l : List UInt8) : (marksL l = 0) ↔ sepB l = true := by
  have h1 := unmark_length l
  have h2 := unmark_lt l
  unfold marksL sepB
  cases hl : looks l <;> cases hh : headM l <;> rw [hh] at h2 <;> simp at h2 ⊢ <;> omega
theorem marks_pos (l : List UInt8) : (0 < marksL l) ↔ quotedB l = true := by
  have h1 := unmark_length l
  have h2 := unmark_lt l
  unfold marksL quotedB
  cases hl : looks l <;> cases hh : headM l <;> rw [hh] at h2 <;> simp at h2 ⊢ <;> omega
theorem marks_some (l : List UInt8) : (0 ≤ marksL l) ↔ looks l = true := by
  unfold marksL
  cases hl : looks l <;> simp

def encR : Bool → List UInt8 → List UInt8
  | _, [] => []
  | b, c :: r => (if b && looks (c :: r) then [62] else []) ++ c :: encR (c == 10) r

theorem encR_cons (b : Bool) (c : UInt8) (r : List UInt8) : encR b (c :: r) = (if b && looks (c :: r) then [62] else []) ++ c :: encR (c == 10) r := rfl
theorem encR_false (a r : List UInt8) (h : ∀ c ∈ a, c ≠ 10) : encR false (a ++ 10 :: r) = a ++ 10 :: encR true r := by
  induction a with
  | nil => simp [encR]
  | cons c t ih =>
    have hc : (c == 10) = false := by simpa using h c (by simp)
    rw [List.cons_append]
    rw [encR_cons]
    rw [hc, ih (fun x hx => h x (by simp [hx]))]
    simp
theorem encR_end (a : List UInt8) (h : ∀ c ∈ a, c ≠ 10) : encR false a = a := by
  induction a with
  | nil => simp [encR]
  | cons c t ih =>
    have hc : (c == 10) = false := by simpa using h c (by simp)
    rw [encR_cons]
    rw [hc, ih (fun x hx => h x (by simp [hx]))]
    simp
theorem encR_eq (l : List UInt8) : encR true l = ((linesOf l).map quoteL).flatten := by
  refine lines_induction (p := fun l => encR true l = ((linesOf l).map quoteL).flatten) rfl (fun a ha h => ?_) (fun a r h ih => ?_) l
  · show encR true a = _
    rw [linesOf_end a h ha]
    cases a with
    | nil => exact absurd rfl ha
    | cons c t =>
      have hc : (c == 10) = false := by simpa using h c (by simp)
      rw [encR_cons]
      rw [hc, encR_end t (fun x hx => h x (by simp [hx]))]
      simp only [List.map_cons, List.map_nil, List.flatten_cons, List.flatten_nil, List.append_nil, Bool.true_and]
      unfold quoteL
      by_cases hl : looks (c :: t) = true
      · simp [hl]
      · simp [hl]
  · show encR true (a ++ 10 :: r) = _
    rw [linesOf_nl a r h, List.map_cons, List.flatten_cons, ← ih]
    have hq : quoteL (a ++ [10]) = (if looks (a ++ 10 :: r) then [62] else []) ++ (a ++ [10]) := by
      unfold quoteL
      rw [looks_nl a r, looks_nl a []]
      by_cases hl : looks a = true <;> simp [hl]
    rw [hq]
    cases a with
    | nil =>
      simp only [List.nil_append]
      show encR true (10 :: r) = _
      rw [encR_cons]
      simp
    | cons c t =>
      have hc : (c == 10) = false := by simpa using h c (by simp)
      rw [List.cons_append]
      show encR true (c :: (t ++ 10 :: r)) = _
      rw [encR_cons]
      rw [hc, encR_false t r (fun x hx => h x (by simp [hx]))]
      simp

/-- the message of a text that ends in a line feed; none: a line looks like a separator -/
def decR : Bool → List UInt8 → Option (List UInt8)
  | _, [] => some []
  | b, c :: r => if r = [] then some [] else
      if b && looks (c :: r) then (if c == 62 then decR false r else none)
      else match decR (c == 10) r with
        | none => none
        | some x => some (c :: x)

theorem decR_cons (b : Bool) (c : UInt8) (r : List UInt8) : decR b (c :: r) = if r = [] then some [] else if b && looks (c :: r) then (if c == 62 then decR false r else none) else match decR (c == 10) r with | none => none | some x => some (c :: x) := rfl
theorem decR_false (a r : List UInt8) (h : ∀ c ∈ a, c ≠ 10) (hr : r ≠ []) : decR false (a ++ 10 :: r) = (decR true r).map fun x => a ++ 10 :: x := by
  induction a with
  | nil =>
    simp only [List.nil_append]
    rw [decR_cons]
    rw [if_neg hr]
    simp
    cases decR true r <;> rfl
  | cons c t ih =>
    have hc : (c == 10) = false := by simpa using h c (by simp)
    rw [List.cons_append]
    rw [decR_cons]
    rw [if_neg (by simp), hc, ih (fun x hx => h x (by simp [hx]))]
    simp
    cases decR true r <;> rfl
theorem decR_end (a : List UInt8) (h : ∀ c ∈ a, c ≠ 10) : decR false (a ++ [10]) = some a := by
  induction a with
  | nil => rfl
  | cons c t ih =>
    have hc : (c == 10) = false := by simpa using h c (by simp)
    rw [List.cons_append]
    rw [decR_cons]
    rw [if_neg (by simp), hc, ih (fun x hx => h x (by simp [hx]))]
    simp

theorem decR_line (a r : List UInt8) (h : ∀ c ∈ a, c ≠ 10) (hr : r ≠ []) : decR true (a ++ 10 :: r) = if sepB (a ++ [10]) then none else (decR true r).map fun x => unquoteL (a ++ [10]) ++ x := by
  cases a with
  | nil =>
    simp only [List.nil_append]
    rw [decR_cons]
    have h0 : looks (10 :: r) = false := looks_nl [] r
    rw [if_neg hr, h0]
    have h1 : sepB [10] = false := rfl
    have h2 : unquoteL [10] = [10] := rfl
    rw [h1, h2]
    simp
    cases decR true r <;> rfl
  | cons c t =>
    have hc : (c == 10) = false := by simpa using h c (by simp)
    have ht : ∀ x ∈ t, x ≠ 10 := fun x hx => h x (by simp [hx])
    rw [List.cons_append]
    rw [decR_cons]
    rw [if_neg (by simp), hc, decR_false t r ht hr]
    have hlk : looks (c :: (t ++ 10 :: r)) = looks (c :: (t ++ [10])) := by
      rw [← List.cons_append, looks_nl, ← List.cons_append, looks_nl]
    rw [hlk]
    by_cases hl : looks (c :: (t ++ [10])) = true
    · by_cases h6 : (c == 62) = true
      · have hs : sepB (c :: (t ++ [10])) = false := by unfold sepB headM; simp [h6]
        have hu : unquoteL (c :: (t ++ [10])) = t ++ [10] := by unfold unquoteL quotedB headM; simp [hl, h6]
        rw [List.cons_append, hs, hu, hl, h6]
        simp
      · have hs : sepB (c :: (t ++ [10])) = true := by unfold sepB headM; simp [hl, h6]
        rw [List.cons_append, hs, hl]
        simp [h6]
    · have hs : sepB (c :: (t ++ [10])) = false := by unfold sepB; simp [hl]
      have hu : unquoteL (c :: (t ++ [10])) = c :: (t ++ [10]) := by unfold unquoteL quotedB; simp [hl]
      rw [List.cons_append, hs, hu]
      simp [hl]
      cases decR true r <;> simp
theorem decR_last (a : List UInt8) (h : ∀ c ∈ a, c ≠ 10) (ha : a ≠ []) : decR true (a ++ [10]) = if sepB (a ++ [10]) then none else some (unquoteL a) := by
  cases a with
  | nil => exact absurd rfl ha
  | cons c t =>
    have hc : (c == 10) = false := by simpa using h c (by simp)
    have ht : ∀ x ∈ t, x ≠ 10 := fun x hx => h x (by simp [hx])
    rw [sep_behind]
    rw [List.cons_append]
    rw [decR_cons]
    rw [if_neg (by simp), hc, decR_end t ht]
    have hlk : looks (c :: (t ++ [10])) = looks (c :: t) := by rw [← List.cons_append, looks_nl]
    rw [hlk]
    by_cases hl : looks (c :: t) = true
    · by_cases h6 : (c == 62) = true
      · have hs : sepB (c :: t) = false := by unfold sepB headM; simp [h6]
        have hu : unquoteL (c :: t) = t := by unfold unquoteL quotedB headM; simp [hl, h6]
        rw [hs, hu, hl, h6]
        simp
      · have hs : sepB (c :: t) = true := by unfold sepB headM; simp [hl, h6]
        rw [hs, hl]
        simp [h6]
    · have hs : sepB (c :: t) = false := by unfold sepB; simp [hl]
      have hu : unquoteL (c :: t) = c :: t := by unfold unquoteL quotedB; simp [hl]
      rw [hs, hu]
      simp [hl]

theorem decR_eq (m : List UInt8) : decR true (m ++ [10]) = if (linesOf (m ++ [10])).any sepB then none else some (decodeL m) := by
  refine lines_induction (p := fun m => decR true (m ++ [10]) = if (linesOf (m ++ [10])).any sepB then none else some (decodeL m)) rfl (fun a ha h => ?_) (fun a r h ih => ?_) m
  · show decR true (a ++ [10]) = _
    rw [decR_last a h ha, linesOf_nl a [] h]
    have hd : decodeL a = unquoteL a := by unfold decodeL; rw [linesOf_end a h ha]; simp
    rw [hd, linesOf_nil]
    simp
  · show decR true ((a ++ 10 :: r) ++ [10]) = _
    rw [List.append_assoc, List.cons_append, decR_line a _ h (by simp), ih, linesOf_nl a _ h]
    have hd : decodeL (a ++ 10 :: r) = unquoteL (a ++ [10]) ++ decodeL r := by unfold decodeL; rw [linesOf_nl a r h]; simp
    rw [hd, List.any_cons]
    by_cases hs : sepB (a ++ [10]) = true
    · simp [hs]
    · by_cases hr : (linesOf (r ++ [10])).any sepB = true
      · rw [if_pos hr]; simp [hr]
      · rw [if_neg hr]
        have hr' : (linesOf (r ++ [10])).any sepB = false := by simpa using hr
        have hs' : sepB (a ++ [10]) = false := by simpa using hs
        rw [hs', hr']; simp

end Go.Proofs.YtcjnpklmfcbofaaDoor
