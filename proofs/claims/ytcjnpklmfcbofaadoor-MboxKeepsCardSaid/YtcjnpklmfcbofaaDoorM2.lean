/- mbox (plain): where entries stand. -/
import Derived.Test.YtcjnpklmfcbofaaDoorM1
import Derived.Test.YtcjnpklmfcbofaaDoorQm
set_option linter.unusedVariables false
set_option linter.unusedSimpArgs false
namespace Go.Proofs.YtcjnpklmfcbofaaDoor

/-- the spans: which entry is open (its head and its body), how far we are, the lines that are left -/
def goSp : Option (Nat × Nat) → Nat → List (List UInt8) → Option (List Sp)
  | none, _, [] => some []
  | some c, p, [] => some [⟨c.1, c.2, p⟩]
  | none, p, x :: ls => if sepB x = true then goSp (some (p, p + x.length)) (p + x.length) ls else none
  | some c, p, x :: ls => if sepB x = true then (goSp (some (p, p + x.length)) (p + x.length) ls).map (⟨c.1, c.2, p⟩ :: ·) else goSp (some c) (p + x.length) ls
/-- a text is a message in a file -/
def decOk (l : List UInt8) : Bool := (l.getLast? == some 10) && (decR true l).isSome
theorem last_ten {l : List UInt8} (h : l.getLast? = some 10) : ∃ m, l = m ++ [10] := by
  have hne : l ≠ [] := by rintro rfl; cases h
  refine ⟨l.dropLast, ?_⟩
  have h2 := List.dropLast_concat_getLast hne
  rw [List.getLast?_eq_some_getLast hne] at h
  rw [Option.some.inj h] at h2
  exact h2.symm
theorem dec_yes {l : List UInt8} (h : decOk l = true) : ∃ m, l = m ++ [10] ∧ (∀ x ∈ linesOf (m ++ [10]), sepB x = false) ∧ decR true l = some (decodeL m) := by
  unfold decOk at h
  rw [Bool.and_eq_true, beq_iff_eq] at h
  obtain ⟨m, rfl⟩ := last_ten h.1
  have h2 := h.2
  rw [decR_eq] at h2 ⊢
  by_cases hs : (linesOf (m ++ [10])).any sepB = true
  · rw [if_pos hs] at h2; cases h2
  · rw [if_neg hs]
    refine ⟨m, rfl, fun x hx => ?_, rfl⟩
    have := List.any_eq_false.1 (by simpa using hs) x hx
    simpa using this
theorem dec_no {l : List UInt8} (h : decOk l = false) : (¬ ∃ m, l = m ++ [10]) ∨ ∃ m, l = m ++ [10] ∧ ∃ x ∈ linesOf (m ++ [10]), sepB x = true := by
  by_cases hm : ∃ m, l = m ++ [10]
  · obtain ⟨m, rfl⟩ := hm
    refine .inr ⟨m, rfl, ?_⟩
    unfold decOk at h
    rw [decR_eq] at h
    by_cases hs : (linesOf (m ++ [10])).any sepB = true
    · obtain ⟨x, hx, hx2⟩ := List.any_eq_true.1 hs
      exact ⟨x, hx, hx2⟩
    · rw [if_neg hs] at h
      simp at h
  · exact .inl hm
/-- an entry's first line ends, its text is a message in a file -/
def okSp (file : List UInt8) (s : Sp) : Bool := file[s.body - 1]? == some 10 && decOk ((file.drop s.body).take (s.fin - s.body))
/-- Scan -/
def scanL (file : List UInt8) : Option (List Sp) := match goSp none 0 (linesOf file) with
  | none => none
  | some ss => if ss.all (okSp file) = true then some ss else none
theorem goSp_some : ∀ (ls : List (List UInt8)) (c : Nat × Nat) (p : Nat), ∃ s ss, goSp (some c) p ls = some (s :: ss)
  | [], c, p => ⟨_, _, rfl⟩
  | x :: ls, c, p => by
    unfold goSp
    split
    · obtain ⟨s, ss, h⟩ := goSp_some ls (p, p + x.length) (p + x.length)
      rw [h]
      exact ⟨_, _, rfl⟩
    · exact goSp_some ls c (p + x.length)
theorem goSp_bd : ∀ (ls : List (List UInt8)) (o : Option (Nat × Nat)) (p : Nat) (ss : List Sp), (∀ c, o = some c → c.1 < c.2 ∧ c.2 ≤ p) → (∀ x ∈ ls, x ≠ []) → goSp o p ls = some ss → ∀ s ∈ ss, s.head < s.body ∧ s.body ≤ s.fin ∧ s.fin ≤ p + ls.flatten.length
  | [], none, p, ss, _, _, h, s, hs => by
    cases h; cases hs
  | [], some c, p, ss, hc, _, h, s, hs => by
    cases h
    obtain rfl := List.mem_singleton.1 hs
    have := hc c rfl
    exact ⟨this.1, this.2, by simp⟩
  | x :: ls, none, p, ss, _, hx, h, s, hs => by
    unfold goSp at h
    split at h
    · have hne := List.length_pos_iff.2 (hx x (by simp))
      have := goSp_bd ls (some (p, p + x.length)) (p + x.length) ss (fun c e => by cases e; exact ⟨by simp; omega, by simp⟩) (fun y hy => hx y (List.mem_cons_of_mem _ hy)) h s hs
      simp only [List.flatten_cons, List.length_append]
      omega
    · cases h
  | x :: ls, some c, p, ss, hc, hx, h, s, hs => by
    have hne := List.length_pos_iff.2 (hx x (by simp))
    have hc1 := hc c rfl
    unfold goSp at h
    split at h
    · obtain ⟨tt, ht, he⟩ := Option.map_eq_some_iff.1 h
      subst he
      rcases List.mem_cons.1 hs with rfl | hs
      · simp only [List.flatten_cons, List.length_append]
        exact ⟨hc1.1, hc1.2, by omega⟩
      · have := goSp_bd ls (some (p, p + x.length)) (p + x.length) tt (fun c e => by cases e; exact ⟨by simp; omega, by simp⟩) (fun y hy => hx y (List.mem_cons_of_mem _ hy)) ht s hs
        simp only [List.flatten_cons, List.length_append]
        omega
    · have := goSp_bd ls (some c) (p + x.length) ss (fun c' e => by cases e; exact ⟨hc1.1, by omega⟩) (fun y hy => hx y (List.mem_cons_of_mem _ hy)) h s hs
      simp only [List.flatten_cons, List.length_append]
      omega
theorem goSp_count : ∀ (ls : List (List UInt8)) (o : Option (Nat × Nat)) (p : Nat) (ss : List Sp), goSp o p ls = some ss → ss.length ≤ ls.length + 1
  | [], none, p, ss, h => by cases h; simp
  | [], some c, p, ss, h => by cases h; simp
  | x :: ls, none, p, ss, h => by
    unfold goSp at h
    split at h
    · have := goSp_count ls _ _ ss h; simp; omega
    · cases h
  | x :: ls, some c, p, ss, h => by
    unfold goSp at h
    split at h
    · obtain ⟨tt, ht, he⟩ := Option.map_eq_some_iff.1 h
      subst he
      have := goSp_count ls _ _ tt ht
      simp; omega
    · have := goSp_count ls _ _ ss h; simp; omega
theorem lines_ne (l : List UInt8) : ∀ x ∈ linesOf l, x ≠ [] := fun x hx => (linesOf_mem hx).1
theorem scan_bd {file : List UInt8} {ss : List Sp} (h : scanL file = some ss) : ss.length ≤ file.length + 1 ∧ ∀ s ∈ ss, s.head < s.body ∧ s.body ≤ s.fin ∧ s.fin ≤ file.length ∧ okSp file s = true := by
  unfold scanL at h
  cases hg : goSp none 0 (linesOf file) with
  | none => rw [hg] at h; cases h
  | some tt =>
    rw [hg] at h
    simp only at h
    split at h
    · rename_i hall
      cases h
      have h1 := goSp_count _ _ _ _ hg
      have h2 := linesOf_length file
      refine ⟨by omega, fun s hs => ?_⟩
      have h3 := goSp_bd _ none 0 _ (fun c e => by cases e) (lines_ne file) hg s hs
      rw [linesOf_flatten] at h3
      exact ⟨h3.1, h3.2.1, by omega, List.all_eq_true.1 hall s hs⟩
    · cases h

end Go.Proofs.YtcjnpklmfcbofaaDoor
