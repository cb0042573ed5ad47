/- mbox (plain): entries one behind the other. -/
import Derived.Test.YtcjnpklmfcbofaaDoorM3
set_option linter.unusedVariables false
set_option linter.unusedSimpArgs false
namespace Go.Proofs.YtcjnpklmfcbofaaDoor

theorem linesOf_ends (r : List UInt8) : ∀ t : List UInt8, (t = [] ∨ t.getLast? = some 10) → linesOf (t ++ r) = linesOf t ++ linesOf r := by
  refine lines_induction ?_ ?_ ?_
  · intro _; rfl
  · intro a ha hn h
    rcases h with h | h
    · exact absurd h ha
    · obtain ⟨m, hm⟩ := last_ten h
      exact absurd rfl (hn 10 (by rw [hm]; simp))
  · intro a t hn ih _
    rw [List.append_assoc, List.cons_append, linesOf_nl a (t ++ r) hn, linesOf_nl a t hn, List.cons_append]
    rename_i h
    by_cases ht : t = []
    · subst ht; rfl
    · rw [ih (.inr ?_)]
      rcases h with h | h
      · simp at h
      · rw [List.getLast?_append, List.getLast?_cons] at h
        cases hl : t.getLast? with
        | none => rw [List.getLast?_eq_none_iff] at hl; exact absurd hl ht
        | some d => rw [hl] at h; simpa using h
/-- an entry's first line -/
def headOk (h : List UInt8) : Prop := sepB h = true ∧ ∃ a, h = a ++ [10] ∧ ∀ c ∈ a, c ≠ 10
def entL (e : List UInt8 × List UInt8) : List UInt8 := e.1 ++ encodeL e.2
def spansOf : Nat → List (List UInt8 × List UInt8) → List Sp
  | _, [] => []
  | p, e :: es => ⟨p, p + e.1.length, p + (entL e).length⟩ :: spansOf (p + (entL e).length) es
theorem encode_ends (m : List UInt8) : (encodeL m).getLast? = some 10 := by unfold encodeL; simp
theorem ent_lines (e : List UInt8 × List UInt8) (h : headOk e.1) (r : List UInt8) : linesOf (entL e ++ r) = e.1 :: (linesOf (encodeL e.2) ++ linesOf r) := by
  obtain ⟨a, ha, hn⟩ := h.2
  unfold entL
  rw [ha, List.append_assoc, List.append_assoc, List.singleton_append, linesOf_nl a _ hn, linesOf_ends r _ (.inr (encode_ends e.2))]
theorem goSp_over (c : Nat × Nat) : ∀ (b : List (List UInt8)) (p : Nat) (ls : List (List UInt8)), (∀ x ∈ b, sepB x = false) → goSp (some c) p (b ++ ls) = goSp (some c) (p + b.flatten.length) ls
  | [], p, ls, _ => by simp
  | x :: b, p, ls, h => by
    rw [List.cons_append, goSp, if_neg (by rw [h x (by simp)]; simp), goSp_over c b (p + x.length) ls (fun y hy => h y (List.mem_cons_of_mem _ hy))]
    congr 1
    simp; omega
theorem goSp_close (c : Nat × Nat) (p : Nat) (ls : List (List UInt8)) (h : ∀ x r, ls = x :: r → sepB x = true) : goSp (some c) p ls = (goSp none p ls).map (⟨c.1, c.2, p⟩ :: ·) := by
  cases ls with
  | nil => rfl
  | cons x r => rw [goSp, if_pos (h x r rfl), goSp, if_pos (h x r rfl)]
theorem goSp_rows : ∀ (es : List (List UInt8 × List UInt8)) (p : Nat), (∀ e ∈ es, headOk e.1) → goSp none p (linesOf (es.map entL).flatten) = some (spansOf p es)
  | [], p, _ => rfl
  | e :: es, p, h => by
    have h1 := h e (by simp)
    have ih := goSp_rows es (p + (entL e).length) (fun y hy => h y (List.mem_cons_of_mem _ hy))
    have hfirst : ∀ x r, linesOf (es.map entL).flatten = x :: r → sepB x = true := by
      intro x r hx
      cases es with
      | nil => cases hx
      | cons e2 es =>
        rw [List.map_cons, List.flatten_cons, ent_lines e2 (h e2 (by simp))] at hx
        cases hx
        exact (h e2 (by simp)).1
    rw [List.map_cons, List.flatten_cons, ent_lines e h1, goSp, if_pos h1.1, goSp_over _ _ _ _ (encode_nosep e.2), linesOf_flatten, goSp_close _ _ _ hfirst,
      show p + e.1.length + (encodeL e.2).length = p + (entL e).length by simp [entL]; omega, ih]
    rfl
/-- what stands at each span -/
theorem spans_at : ∀ (es : List (List UInt8 × List UInt8)) (pre : List UInt8) (p : Nat), pre.length = p → ∀ (k : Nat) (s : Sp), (spansOf p es)[k]? = some s → ∃ e, es[k]? = some e ∧ ((pre ++ (es.map entL).flatten).drop s.head).take (s.fin - s.head) = entL e ∧ ((pre ++ (es.map entL).flatten).drop s.body).take (s.fin - s.body) = encodeL e.2 ∧ s.body = s.head + e.1.length ∧ s.fin = s.head + (entL e).length ∧ s.fin ≤ (pre ++ (es.map entL).flatten).length ∧ (pre ++ (es.map entL).flatten).drop s.head = entL e ++ (pre ++ (es.map entL).flatten).drop s.fin
  | [], _, _, _, k, s, h => by simp [spansOf] at h
  | e :: es, pre, p, hp, 0, s, h => by
    simp only [spansOf, List.getElem?_cons_zero, Option.some.injEq] at h
    subst h
    have hd : (pre ++ ((e :: es).map entL).flatten).drop p = entL e ++ (es.map entL).flatten := by rw [← hp]; simp
    have hd2 : (pre ++ ((e :: es).map entL).flatten).drop (p + e.1.length) = encodeL e.2 ++ (es.map entL).flatten := by
      rw [← List.drop_drop, hd, entL, List.append_assoc, List.drop_left]
    have hd3 : (pre ++ ((e :: es).map entL).flatten).drop (p + (entL e).length) = (es.map entL).flatten := by
      rw [← List.drop_drop, hd, List.drop_left]
    have hle : (entL e).length = e.1.length + (encodeL e.2).length := by simp [entL]
    refine ⟨e, rfl, ?_, ?_, rfl, rfl, ?_, ?_⟩
    · simp only
      rw [hd, show p + (entL e).length - p = (entL e).length by omega, List.take_left]
    · simp only
      rw [hd2, show p + (entL e).length - (p + e.1.length) = (encodeL e.2).length by omega, List.take_left]
    · simp; omega
    · simp only
      rw [hd, hd3]
  | e :: es, pre, p, hp, k + 1, s, h => by
    simp only [spansOf, List.getElem?_cons_succ] at h
    obtain ⟨e2, h1, h2⟩ := spans_at es (pre ++ entL e) (p + (entL e).length) (by simp; omega) k s h
    have e9 : pre ++ entL e ++ (es.map entL).flatten = pre ++ ((e :: es).map entL).flatten := by simp
    rw [e9] at h2
    exact ⟨e2, by rw [List.getElem?_cons_succ]; exact h1, h2⟩
theorem spansOf_len : ∀ (es : List (List UInt8 × List UInt8)) (p : Nat), (spansOf p es).length = es.length
  | [], _ => rfl
  | e :: es, p => by simp [spansOf, spansOf_len es]
theorem decode_ok (m : List UInt8) : decOk (encodeL m) = true ∧ ∃ t, encodeL m = t ++ [10] ∧ decodeL t = m := by
  have he : encodeL m = ((linesOf m).map quoteL).flatten ++ [10] := rfl
  have hd := decode_encode m
  refine ⟨?_, _, he, hd⟩
  have hns := encode_nosep m
  unfold decOk
  rw [encode_ends, he, decR_eq, if_neg]
  · rfl
  · rw [← he]
    intro h
    obtain ⟨x, hx, hx2⟩ := List.any_eq_true.1 h
    rw [hns x hx] at hx2
    cases hx2
/-- entries one behind the other are a file in form -/
theorem scan_rows (es : List (List UInt8 × List UInt8)) (h : ∀ e ∈ es, headOk e.1) : scanL (es.map entL).flatten = some (spansOf 0 es) := by
  unfold scanL
  rw [goSp_rows es 0 h]
  simp only
  rw [if_pos]
  rw [List.all_eq_true]
  intro s hs
  obtain ⟨k, hk⟩ := List.getElem?_of_mem hs
  obtain ⟨e, h1, _, h3, h4, h5, h6, h7⟩ := spans_at es [] 0 rfl k s hk
  rw [List.nil_append] at h3 h6 h7
  unfold okSp
  rw [h3, (decode_ok e.2).1, Bool.and_true, beq_iff_eq]
  obtain ⟨a, ha, _⟩ := (h e (List.mem_of_getElem? h1)).2
  have hl : e.1.length = a.length + 1 := by rw [ha]; simp
  rw [h4, show s.head + e.1.length - 1 = s.head + a.length by omega, ← List.getElem?_drop, h7, entL, ha]
  simp

end Go.Proofs.YtcjnpklmfcbofaaDoor
