/- Plain facts: a header of names, and a body. -/
import Derived.Test.YtplmekfcnggigaaDoorHc
import Derived.Test.YtplmekfcnggigaaDoorH9
set_option linter.unusedVariables false
set_option linter.unusedSimpArgs false
namespace Go.Proofs.YtplmekfcnggigaaDoor
open Go.RowKit

def vB (i : Nat) : List UInt8 := if i % 3 = 0 then [120] else if i % 3 = 1 then [121, 32, 122] else []
def lineB (i : Nat) (n : List UInt8) : List UInt8 := ((n ++ [58, 32]) ++ vB i) ++ [13, 10]
def headB : Nat → List (List UInt8) → List UInt8
  | _, [] => []
  | i, n :: ns => lineB i n ++ headB (i + 1) ns
def okN (n : List UInt8) : Prop := n ≠ [] ∧ n.length ≤ 200 ∧ ∀ c ∈ n, okC c = true ∧ c ≠ 58

theorem headB_snoc (ns : List (List UInt8)) (n : List UInt8) : ∀ i, headB i (ns ++ [n]) = headB i ns ++ lineB (i + ns.length) n := by
  induction ns with
  | nil => intro i; simp [headB]
  | cons x ns ih => intro i; simp [headB, ih]; congr 1; omega
theorem vB_len (i : Nat) : (vB i).length ≤ 3 := by unfold vB; split <;> (try split) <;> decide
theorem headB_len (ns : List (List UInt8)) : ∀ i, (∀ n ∈ ns, n.length ≤ 200) → (headB i ns).length ≤ 207 * ns.length := by
  induction ns with
  | nil => intro i _; simp [headB]
  | cons x ns ih =>
    intro i h
    have h1 := ih (i + 1) (fun n hn => h n (by simp [hn]))
    have h2 := h x (by simp)
    have h3 := vB_len i
    simp only [headB, lineB, List.length_append, List.length_cons, List.length_nil]
    omega

theorem okC_ge {c : UInt8} (h : okC c = true) : 33 ≤ c.toNat := by
  unfold okC at h
  simp at h
  exact h.1
theorem okC_no {c d : UInt8} (h : okC c = true) (hd : d.toNat < 33) : c ≠ d := by
  rintro rfl
  have := okC_ge h
  omega
theorem vB_no (i : Nat) : ∀ c ∈ vB i, c ≠ 10 := by unfold vB; split <;> (try split) <;> decide
theorem trim_vB (i : Nat) : trimB (32 :: vB i) = vB i := by unfold vB; split <;> (try split) <;> decide
theorem textL_line (a : List UInt8) : textL ((a ++ [13]) ++ [10]) = a := by
  obtain ⟨h1, h2⟩ := suffix_last (a ++ [13]) 10
  unfold textL
  rw [h1, h2]
  simp [suffix_last13]

theorem goL_head (body : List UInt8) (ns : List (List UInt8)) : ∀ (i : Nat) (fs : List Fld) (op : Bool) (p : Nat), (∀ n ∈ ns, okN n) →
    ∃ fl : List Fld, goL fs op p (linesOf (headB i ns ++ ([13, 10] ++ body))) = (fs ++ fl, p + (headB i ns).length + 2) ∧ fl.length = ns.length ∧ ∀ j, j < ns.length → ∃ f, fl[j]? = some f ∧ f.name = ns.getD j [] ∧ trimB f.value = vB (i + j) := by
  induction ns with
  | nil =>
    intro i fs op p _
    refine ⟨[], ?_, rfl, fun j hj => by simp at hj⟩
    have e : linesOf (headB i [] ++ ([13, 10] ++ body)) = [13, 10] :: linesOf body := linesOf_nl [13] body (by decide)
    have ht : textL [13, 10] = [] := textL_line []
    have hu : turnL fs op p (p + 2) [] = (fs, op, false) := by unfold turnL; rw [if_pos rfl]
    rw [e, goL, ht]
    show (if (turnL fs op p (p + 2) []).2.2 = true then _ else ((turnL fs op p (p + 2) []).1, p + 2)) = _
    rw [hu, if_neg (by simp)]
    simp [headB]
  | cons n ns ih =>
    intro i fs op p h
    obtain ⟨hne, hlen, hall⟩ := h n (by simp)
    have e : linesOf (headB i (n :: ns) ++ ([13, 10] ++ body)) = lineB i n :: linesOf (headB (i + 1) ns ++ ([13, 10] ++ body)) := by
      have h9 := linesOf_nl (((n ++ [58, 32]) ++ vB i) ++ [13]) (headB (i + 1) ns ++ ([13, 10] ++ body)) (by
        intro c hc
        simp only [List.mem_append] at hc
        rcases hc with ((hc | hc) | hc) | hc
        · exact okC_no (hall c hc).1 (by decide)
        · revert c; decide
        · exact vB_no i c hc
        · revert c; decide)
      rw [show headB i (n :: ns) ++ ([13, 10] ++ body) = ((((n ++ [58, 32]) ++ vB i) ++ [13]) ++ 10 :: (headB (i + 1) ns ++ ([13, 10] ++ body))) by simp [headB, lineB], h9]
      simp [lineB]
    have ht : textL (lineB i n) = (n ++ [58, 32]) ++ vB i := by
      rw [show lineB i n = ((((n ++ [58, 32]) ++ vB i) ++ [13]) ++ [10]) by simp [lineB]]
      exact textL_line _
    have hg : goesB ((n ++ [58, 32]) ++ vB i) = false := by
      cases n with
      | nil => exact absurd rfl hne
      | cons c r =>
        have h1 := (hall c (by simp)).1
        show blankB c = false
        unfold blankB
        have := okC_no h1 (d := 32) (by decide)
        have := okC_no h1 (d := 9) (by decide)
        simp_all
    have hnm : nameL ((n ++ [58, 32]) ++ vB i) = some (n, 32 :: vB i) := by
      have h9 := nameL_colon n (32 :: vB i) hall
      rw [if_neg hne] at h9
      rw [← h9]; simp
    have hu : turnL fs op p (p + (lineB i n).length) ((n ++ [58, 32]) ++ vB i) = (fs ++ [⟨n, 32 :: vB i, p, p + (lineB i n).length⟩], true, true) := by
      unfold turnL
      rw [if_neg (by simp), if_neg (by rw [hg]; simp), hnm]
    obtain ⟨fl, h1, h2, h3⟩ := ih (i + 1) (fs ++ [⟨n, 32 :: vB i, p, p + (lineB i n).length⟩]) true (p + (lineB i n).length) (fun x hx => h x (by simp [hx]))
    refine ⟨⟨n, 32 :: vB i, p, p + (lineB i n).length⟩ :: fl, ?_, by simp [h2], ?_⟩
    · rw [e, goL, ht, hu, if_pos rfl, h1]
      simp [headB]; omega
    · intro j hj
      cases j with
      | zero => exact ⟨_, rfl, rfl, trim_vB i⟩
      | succ j =>
        obtain ⟨f, f1, f2, f3⟩ := h3 j (by simpa using hj)
        exact ⟨f, by simpa using f1, by simpa using f2, by rw [f3]; congr 1; omega⟩

theorem fields_head (body : List UInt8) (ns : List (List UInt8)) (h : ∀ n ∈ ns, okN n) : (fieldsL ((headB 0 ns ++ [13, 10]) ++ body)).length = ns.length ∧ bodyL ((headB 0 ns ++ [13, 10]) ++ body) = (headB 0 ns).length + 2 ∧
    ∀ j, j < ns.length → ∃ f, (fieldsL ((headB 0 ns ++ [13, 10]) ++ body))[j]? = some f ∧ f.name = ns.getD j [] ∧ f.value = vB j := by
  obtain ⟨fl, h1, h2, h3⟩ := goL_head body ns 0 [] false 0 h
  rw [show (headB 0 ns ++ [13, 10]) ++ body = headB 0 ns ++ ([13, 10] ++ body) by simp]
  unfold fieldsL bodyL
  rw [h1]
  refine ⟨by simp [h2], by simp, fun j hj => ?_⟩
  obtain ⟨f, f1, f2, f3⟩ := h3 j hj
  refine ⟨trimF f, by simp [f1], f2, ?_⟩
  show trimB f.value = _
  rw [f3, Nat.zero_add]

end Go.Proofs.YtplmekfcnggigaaDoor
