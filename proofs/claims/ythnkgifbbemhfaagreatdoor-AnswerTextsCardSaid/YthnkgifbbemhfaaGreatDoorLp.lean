/- Plain facts on a text's lines. -/
import Derived.Test.YthnkgifbbemhfaaGreatDoorLm
set_option linter.unusedVariables false
set_option linter.unusedSimpArgs false
namespace Go.Proofs.YthnkgifbbemhfaaGreatDoor

/-- a text's lines, each with its end -/
def linesOf : List UInt8 → List (List UInt8)
  | [] => []
  | c :: r => if c = 10 then [10] :: linesOf r else match linesOf r with
    | [] => [[c]]
    | x :: xs => (c :: x) :: xs

theorem linesOf_nil : linesOf [] = [] := rfl
theorem linesOf_cons (c : UInt8) (r : List UInt8) : linesOf (c :: r) = if c = 10 then [10] :: linesOf r else match linesOf r with | [] => [[c]] | x :: xs => (c :: x) :: xs := rfl
theorem linesOf_nl (a r : List UInt8) (h : ∀ c ∈ a, c ≠ 10) : linesOf (a ++ 10 :: r) = (a ++ [10]) :: linesOf r := by
  induction a with
  | nil => simp [linesOf]
  | cons c t ih =>
    have hc : c ≠ 10 := h c (by simp)
    rw [List.cons_append]
    rw [linesOf_cons]
    rw [if_neg hc, ih (fun x hx => h x (by simp [hx]))]
    rfl
theorem linesOf_end (a : List UInt8) (h : ∀ c ∈ a, c ≠ 10) (ha : a ≠ []) : linesOf a = [a] := by
  induction a with
  | nil => exact absurd rfl ha
  | cons c t ih =>
    have hc : c ≠ 10 := h c (by simp)
    rw [linesOf_cons]
    rw [if_neg hc]
    cases t with
    | nil => rfl
    | cons d t => rw [ih (fun x hx => h x (by simp [hx])) (by simp)]

/-- by the first line feed -/
theorem linesOf_cut {l s r : List UInt8} (h : cutNl l = some (s, r)) : linesOf l = (s ++ [10]) :: linesOf r := by
  obtain ⟨rfl, h2⟩ := cutNl_some h
  exact linesOf_nl s r h2
theorem linesOf_cutNo {l : List UInt8} (h : cutNl l = none) (hl : l ≠ []) : linesOf l = [l] := linesOf_end l (cutNl_none h) hl

/-- rows that are a text's lines -/
def wfLines : List (List UInt8) → Prop
  | [] => True
  | [x] => x ≠ [] ∧ ∀ c ∈ x.dropLast, c ≠ 10
  | x :: y :: r => (∃ a, x = a ++ [10] ∧ ∀ c ∈ a, c ≠ 10) ∧ wfLines (y :: r)

/-- an induction by a text's lines -/
theorem lines_induction {p : List UInt8 → Prop} (h0 : p []) (h1 : ∀ a, a ≠ [] → (∀ c ∈ a, c ≠ 10) → p a) (h2 : ∀ a r, (∀ c ∈ a, c ≠ 10) → p r → p (a ++ 10 :: r)) : ∀ l, p l := by
  intro l
  induction h : l.length using Nat.strongRecOn generalizing l with
  | ind m ih =>
    subst h
    cases hc : cutNl l with
    | none =>
      by_cases hl : l = []
      · rw [hl]; exact h0
      · exact h1 l hl (cutNl_none hc)
    | some p =>
      obtain ⟨s, r⟩ := p
      obtain ⟨e, hs⟩ := cutNl_some hc
      rw [e]
      exact h2 s r hs (ih r.length (by rw [e]; simp; omega) r rfl)

theorem linesOf_flatten (l : List UInt8) : (linesOf l).flatten = l := by
  refine lines_induction (p := fun l => (linesOf l).flatten = l) rfl (fun a ha h => ?_) (fun a r h ih => ?_) l
  · show (linesOf a).flatten = a
    rw [linesOf_end a h ha]; simp
  · show (linesOf (a ++ 10 :: r)).flatten = a ++ 10 :: r
    rw [linesOf_nl a r h]; simp [ih]

theorem wf_cons (a : List UInt8) (h : ∀ c ∈ a, c ≠ 10) (ls : List (List UInt8)) (hl : wfLines ls) : wfLines ((a ++ [10]) :: ls) := by
  cases ls with
  | nil => exact ⟨by simp, by simpa using h⟩
  | cons y r => exact ⟨⟨a, rfl, h⟩, hl⟩

theorem linesOf_wf (l : List UInt8) : wfLines (linesOf l) := by
  refine lines_induction (p := fun l => wfLines (linesOf l)) trivial (fun a ha h => ?_) (fun a r h ih => ?_) l
  · show wfLines (linesOf a)
    rw [linesOf_end a h ha]
    exact ⟨ha, fun c hc => h c (List.dropLast_subset _ hc)⟩
  · show wfLines (linesOf (a ++ 10 :: r))
    rw [linesOf_nl a r h]
    exact wf_cons a h _ ih

theorem linesOf_single (x : List UInt8) (hx : x ≠ []) (h : ∀ c ∈ x.dropLast, c ≠ 10) : linesOf x = [x] := by
  by_cases e : x.getLast hx = 10
  · have : x = x.dropLast ++ 10 :: [] := by rw [← e]; exact (List.dropLast_concat_getLast hx).symm
    rw [this, linesOf_nl _ _ h]; rfl
  · refine linesOf_end x (fun c hc => ?_) hx
    rw [← List.dropLast_concat_getLast hx] at hc
    rcases List.mem_append.1 hc with hc | hc
    · exact h c hc
    · rw [List.mem_singleton.1 hc]; exact e

theorem linesOf_of_wf : ∀ (ls : List (List UInt8)), wfLines ls → linesOf ls.flatten = ls
  | [], _ => rfl
  | [x], ⟨hx, h⟩ => by simp only [List.flatten_cons, List.flatten_nil, List.append_nil]; exact linesOf_single x hx h
  | x :: y :: r, ⟨⟨a, e, h⟩, hr⟩ => by
    rw [List.flatten_cons, e, List.append_assoc, List.singleton_append, linesOf_nl a _ h, linesOf_of_wf (y :: r) hr]

theorem linesOf_length (l : List UInt8) : (linesOf l).length ≤ l.length := by
  refine lines_induction (p := fun l => (linesOf l).length ≤ l.length) (by simp [linesOf]) (fun a ha h => ?_) (fun a r h ih => ?_) l
  · show (linesOf a).length ≤ a.length
    rw [linesOf_end a h ha]
    cases a with
    | nil => exact absurd rfl ha
    | cons c t => simp
  · show (linesOf (a ++ 10 :: r)).length ≤ (a ++ 10 :: r).length
    rw [linesOf_nl a r h]; simp; omega

theorem linesOf_mem {l x : List UInt8} (h : x ∈ linesOf l) : x ≠ [] ∧ x.length ≤ l.length := by
  revert x
  refine lines_induction (p := fun l => ∀ {x}, x ∈ linesOf l → x ≠ [] ∧ x.length ≤ l.length) (by simp [linesOf]) (fun a ha h => ?_) (fun a r h ih => ?_) l
  · intro x hx
    rw [linesOf_end a h ha] at hx
    obtain rfl := List.mem_singleton.1 hx
    exact ⟨ha, Nat.le_refl _⟩
  · intro x hx
    rw [linesOf_nl a r h] at hx
    rcases List.mem_cons.1 hx with rfl | hx
    · exact ⟨by simp, by simp⟩
    · obtain ⟨h1, h2⟩ := ih hx
      exact ⟨h1, by simp; omega⟩

end Go.Proofs.YthnkgifbbemhfaaGreatDoor
