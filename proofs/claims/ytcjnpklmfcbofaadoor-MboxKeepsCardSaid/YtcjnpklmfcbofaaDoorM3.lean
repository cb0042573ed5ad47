/- mbox (plain): the document's way to where entries stand is the same. -/
import Derived.Test.YtcjnpklmfcbofaaDoorM2
set_option linter.unusedVariables false
set_option linter.unusedSimpArgs false
namespace Go.Proofs.YtcjnpklmfcbofaaDoor

/-- over the lines that open no entry -/
def skipNo : Nat → List (List UInt8) → Nat × List (List UInt8)
  | p, [] => (p, [])
  | p, x :: ls => if sepB x = true then (p, x :: ls) else skipNo (p + x.length) ls
theorem skip_flat : ∀ (ls : List (List UInt8)) (p : Nat), ∃ b, ls = b ++ (skipNo p ls).2 ∧ (skipNo p ls).1 = p + b.flatten.length
  | [], p => ⟨[], rfl, by simp [skipNo]⟩
  | x :: ls, p => by
    unfold skipNo
    split
    · exact ⟨[], rfl, by simp⟩
    · obtain ⟨b, h1, h2⟩ := skip_flat ls (p + x.length)
      exact ⟨x :: b, by rw [List.cons_append, ← h1], by rw [h2]; simp; omega⟩
theorem skip_len (ls : List (List UInt8)) (p : Nat) : (skipNo p ls).2.length ≤ ls.length := by
  obtain ⟨b, h, _⟩ := skip_flat ls p
  have := congrArg List.length h
  rw [List.length_append] at this
  omega
theorem goSp_skip : ∀ (ls : List (List UInt8)) (c : Nat × Nat) (p : Nat), goSp (some c) p ls = (goSp none (skipNo p ls).1 (skipNo p ls).2).map (⟨c.1, c.2, (skipNo p ls).1⟩ :: ·)
  | [], c, p => rfl
  | x :: ls, c, p => by
    by_cases h : sepB x = true
    · have e : skipNo p (x :: ls) = (p, x :: ls) := by rw [skipNo, if_pos h]
      rw [e]
      simp only
      rw [goSp, if_pos h, goSp, if_pos h]
    · have e : skipNo p (x :: ls) = skipNo (p + x.length) ls := by rw [skipNo, if_neg h]
      rw [e, goSp, if_neg h, goSp_skip ls c (p + x.length)]
/-- the document's Scan, over the lines -/
def refGo (file : List UInt8) : Nat → Nat → List (List UInt8) → Option (List Sp)
  | 0, _, _ => some []
  | _ + 1, _, [] => some []
  | f + 1, p, x :: ls => if sepB x = true ∧ x.getLast? = some 10 then
      (if decOk ((file.drop (p + x.length)).take ((skipNo (p + x.length) ls).1 - (p + x.length))) = true then (refGo file f (skipNo (p + x.length) ls).1 (skipNo (p + x.length) ls).2).map (⟨p, p + x.length, (skipNo (p + x.length) ls).1⟩ :: ·) else none) else none
theorem refGo_cons (file : List UInt8) (f p : Nat) (x : List UInt8) (ls : List (List UInt8)) : refGo file (f + 1) p (x :: ls) = if sepB x = true ∧ x.getLast? = some 10 then
      (if decOk ((file.drop (p + x.length)).take ((skipNo (p + x.length) ls).1 - (p + x.length))) = true then (refGo file f (skipNo (p + x.length) ls).1 (skipNo (p + x.length) ls).2).map (⟨p, p + x.length, (skipNo (p + x.length) ls).1⟩ :: ·) else none) else none := rfl
theorem last_at {file pre x r : List UInt8} {p : Nat} (h : file = pre ++ (x ++ r)) (hp : pre.length = p) (hx : x ≠ []) : file[p + x.length - 1]? = x.getLast? := by
  have hpos := List.length_pos_iff.2 hx
  rw [h, List.getElem?_append_right (by omega), List.getElem?_append_left (by omega), hp, List.getLast?_eq_getElem?]
  congr 1
  omega
theorem refGo_eq (file : List UInt8) : ∀ (f : Nat) (ls : List (List UInt8)) (p : Nat) (pre : List UInt8), ls.length < f → file = pre ++ ls.flatten → pre.length = p → (∀ x ∈ ls, x ≠ []) →
    refGo file f p ls = (goSp none p ls).bind fun ss => if ss.all (okSp file) = true then some ss else none
  | 0, ls, _, _, h, _, _, _ => absurd h (by omega)
  | f + 1, [], p, pre, _, _, _, _ => rfl
  | f + 1, x :: ls, p, pre, hf, hfile, hp, hne => by
    have hx := hne x (by simp)
    have hlast := last_at (file := file) (r := ls.flatten) (by rw [hfile]; simp) hp hx
    obtain ⟨b, hb1, hb2⟩ := skip_flat ls (p + x.length)
    have hsl := skip_len ls (p + x.length)
    have ih := refGo_eq file f (skipNo (p + x.length) ls).2 (skipNo (p + x.length) ls).1 (pre ++ x ++ b.flatten) (by simp at hf; omega) (by
      rw [hfile, List.flatten_cons]
      conv => lhs; rw [hb1]
      simp) (by rw [hb2]; simp; omega) (fun y hy => hne y (List.mem_cons_of_mem _ (by rw [hb1]; exact List.mem_append_right _ hy)))
    rw [refGo_cons, goSp]
    by_cases hs : sepB x = true
    case neg => rw [if_neg hs, if_neg (fun h => hs h.1)]; rfl
    rw [if_pos hs, goSp_skip]
    simp only
    by_cases h10 : x.getLast? = some 10
    case neg =>
      rw [if_neg (fun h => h10 h.2)]
      cases goSp none (skipNo (p + x.length) ls).1 (skipNo (p + x.length) ls).2 with
      | none => rfl
      | some ss =>
        have : (okSp file ⟨p, p + x.length, (skipNo (p + x.length) ls).1⟩) = false := by
          unfold okSp
          simp only
          rw [hlast]
          have : (x.getLast? == some 10) = false := by simpa using h10
          rw [this]; rfl
        show none = if (List.all (_ :: ss) (okSp file)) = true then _ else none
        rw [List.all_cons, this]; rfl
    rw [if_pos ⟨hs, h10⟩, ih]
    cases goSp none (skipNo (p + x.length) ls).1 (skipNo (p + x.length) ls).2 with
    | none => split <;> rfl
    | some ss =>
      have e : okSp file ⟨p, p + x.length, (skipNo (p + x.length) ls).1⟩ = decOk ((file.drop (p + x.length)).take ((skipNo (p + x.length) ls).1 - (p + x.length))) := by
        unfold okSp
        simp only
        rw [hlast, h10]; rfl
      show (if decOk _ = true then (Option.map _ (if ss.all (okSp file) = true then some ss else none)) else none) = if (List.all (_ :: ss) (okSp file)) = true then _ else none
      rw [List.all_cons, e]
      cases decOk ((file.drop (p + x.length)).take ((skipNo (p + x.length) ls).1 - (p + x.length))) with
      | false => rfl
      | true => cases ss.all (okSp file) <;> rfl
/-- both find the same -/
theorem refScan_same (file : List UInt8) : refGo file ((linesOf file).length + 1) 0 (linesOf file) = scanL file := by
  rw [refGo_eq file _ (linesOf file) 0 [] (by omega) (by rw [linesOf_flatten]; rfl) rfl (lines_ne file)]
  unfold scanL
  cases goSp none 0 (linesOf file) <;> rfl

end Go.Proofs.YtcjnpklmfcbofaaDoor
