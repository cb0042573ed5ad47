/- Plain facts on headers. -/
import Derived.Test.YthnkgifbbemhfaaGreatDoorLp
import Derived.Lib.Strings
import Derived.Lib.SlTrimSet
set_option linter.unusedVariables false
set_option linter.unusedSimpArgs false
namespace Go.Proofs.YthnkgifbbemhfaaGreatDoor

/-- a field: its name, its value, where it stands -/
structure Fld where
  name : List UInt8
  value : List UInt8
  pos : Nat
  fin : Nat

/-- a line less its end -/
def textL (l : List UInt8) : List UInt8 := if Lib.hasSuffix l [10] then Lib.trimSuffix (Lib.trimSuffix l [10]) [13] else l
def blankB (c : UInt8) : Bool := c == 32 || c == 9
def goesB : List UInt8 → Bool
  | [] => false
  | c :: _ => blankB c
def okC (c : UInt8) : Bool := decide (33 ≤ c.toNat) && decide (c.toNat ≤ 126)
/-- what is ahead of the first ":", and what is behind it -/
def cutC : List UInt8 → Option (List UInt8 × List UInt8)
  | [] => none
  | c :: r => if c = 58 then some ([], r) else match cutC r with
    | none => none
    | some (a, b) => some (c :: a, b)
/-- a field's name and what is behind the ":" -/
def nameL (t : List UInt8) : Option (List UInt8 × List UInt8) :=
  match cutC t with
  | none => none
  | some (n, r) => if n ≠ [] ∧ n.all okC = true then some (n, r) else none

/-- what a line turns: the fields, whether the last one may go on, whether the header goes on -/
def turnL (fs : List Fld) (op : Bool) (p q : Nat) (t : List UInt8) : List Fld × Bool × Bool :=
  if t = [] then (fs, op, false)
  else if goesB t = true then
    (match op, fs.getLast? with
     | true, some f => (fs.dropLast ++ [{ f with value := f.value ++ t, fin := q }], true, true)
     | _, _ => (fs, op, true))
  else match nameL t with
    | some (n, v) => (fs ++ [⟨n, v, p, q⟩], true, true)
    | none => (fs, false, true)

/-- over the lines -/
def goL (fs : List Fld) (op : Bool) (p : Nat) : List (List UInt8) → List Fld × Nat
  | [] => (fs, p)
  | l :: ls =>
    if (turnL fs op p (p + l.length) (textL l)).2.2 = true then goL (turnL fs op p (p + l.length) (textL l)).1 (turnL fs op p (p + l.length) (textL l)).2.1 (p + l.length) ls
    else ((turnL fs op p (p + l.length) (textL l)).1, p + l.length)

def trimB (l : List UInt8) : List UInt8 := Lib.trimS l [32, 9]
def trimF (f : Fld) : Fld := { f with value := trimB f.value }
/-- a message's fields -/
def fieldsL (m : List UInt8) : List Fld := (goL [] false 0 (linesOf m)).1.map trimF
def bodyL (m : List UInt8) : Nat := (goL [] false 0 (linesOf m)).2

/-! ### the document's fields: a line and those that go on -/

/-- the lines that go on: what they add, where they end, what is left -/
def contL (p : Nat) : List (List UInt8) → List UInt8 × Nat × List (List UInt8)
  | [] => ([], p, [])
  | l :: ls => if goesB (textL l) = true then (textL l ++ (contL (p + l.length) ls).1, (contL (p + l.length) ls).2.1, (contL (p + l.length) ls).2.2) else ([], p, l :: ls)

theorem contL_len (p : Nat) (ls : List (List UInt8)) : (contL p ls).2.2.length ≤ ls.length := by
  induction ls generalizing p with
  | nil => simp [contL]
  | cons l ls ih =>
    unfold contL
    split
    · have := ih (p + l.length); simp; omega
    · simp

def refL (p : Nat) : List (List UInt8) → List Fld × Nat
  | [] => ([], p)
  | l :: ls =>
    if textL l = [] then ([], p + l.length)
    else
      let c := contL (p + l.length) ls
      let r := refL c.2.1 c.2.2
      (match nameL (textL l) with
       | some (n, v) => if goesB (textL l) = true then r.1 else ⟨n, trimB (v ++ c.1), p, c.2.1⟩ :: r.1
       | none => r.1, r.2)
termination_by ls => ls.length
decreasing_by
  have := contL_len (p + l.length) ls
  simp
  omega

theorem refL_cons (p : Nat) (l : List UInt8) (ls : List (List UInt8)) : refL p (l :: ls) =
    if textL l = [] then ([], p + l.length)
    else (match nameL (textL l) with
       | some (n, v) => if goesB (textL l) = true then (refL (contL (p + l.length) ls).2.1 (contL (p + l.length) ls).2.2).1 else ⟨n, trimB (v ++ (contL (p + l.length) ls).1), p, (contL (p + l.length) ls).2.1⟩ :: (refL (contL (p + l.length) ls).2.1 (contL (p + l.length) ls).2.2).1
       | none => (refL (contL (p + l.length) ls).2.1 (contL (p + l.length) ls).2.2).1, (refL (contL (p + l.length) ls).2.1 (contL (p + l.length) ls).2.2).2) := by
  rw [refL]

theorem goesB_ne {t : List UInt8} (h : goesB t = true) : t ≠ [] := by
  rintro rfl; cases h

/-- the lines that go on behind an open field -/
theorem goL_open (fs : List Fld) (f : Fld) (p : Nat) (ls : List (List UInt8)) : (f.fin = p) → goL (fs ++ [f]) true p ls = goL (fs ++ [{ f with value := f.value ++ (contL p ls).1, fin := (contL p ls).2.1 }]) true (contL p ls).2.1 (contL p ls).2.2 := by
  induction ls generalizing f p with
  | nil => rintro rfl; simp [contL, goL]
  | cons l ls ih =>
    intro hp
    by_cases h : goesB (textL l) = true
    · have hc : contL p (l :: ls) = (textL l ++ (contL (p + l.length) ls).1, (contL (p + l.length) ls).2.1, (contL (p + l.length) ls).2.2) := by
        rw [contL, if_pos h]
      have ht : turnL (fs ++ [f]) true p (p + l.length) (textL l) = (fs ++ [{ f with value := f.value ++ textL l, fin := p + l.length }], true, true) := by
        unfold turnL
        rw [if_neg (goesB_ne h), if_pos h]
        simp
      rw [goL, ht, if_pos rfl, ih { f with value := f.value ++ textL l, fin := p + l.length } (p + l.length) rfl, hc]
      simp
    · have hc : contL p (l :: ls) = ([], p, l :: ls) := by rw [contL, if_neg h]
      rw [hc]
      subst hp
      simp
theorem goL_shut (fs : List Fld) (p : Nat) (ls : List (List UInt8)) : goL fs false p ls = goL fs false (contL p ls).2.1 (contL p ls).2.2 := by
  induction ls generalizing p with
  | nil => simp [contL, goL]
  | cons l ls ih =>
    by_cases h : goesB (textL l) = true
    · have hc : contL p (l :: ls) = (textL l ++ (contL (p + l.length) ls).1, (contL (p + l.length) ls).2.1, (contL (p + l.length) ls).2.2) := by
        rw [contL, if_pos h]
      have ht : turnL fs false p (p + l.length) (textL l) = (fs, false, true) := by
        unfold turnL
        rw [if_neg (goesB_ne h), if_pos h]
      rw [goL, ht, if_pos rfl, ih (p + l.length), hc]
    · have hc : contL p (l :: ls) = ([], p, l :: ls) := by rw [contL, if_neg h]
      rw [hc]
/-- where the next line does not go on, it is one whether the last field may go on -/
theorem goL_either (fs : List Fld) (p : Nat) (ls : List (List UInt8)) (h : ∀ l r, ls = l :: r → goesB (textL l) = false) : goL fs true p ls = goL fs false p ls := by
  cases ls with
  | nil => rfl
  | cons l r =>
    have hg := h l r rfl
    have ht : turnL fs true p (p + l.length) (textL l) = ((turnL fs false p (p + l.length) (textL l)).1, (if textL l = [] then true else (turnL fs false p (p + l.length) (textL l)).2.1), (turnL fs false p (p + l.length) (textL l)).2.2) := by
      unfold turnL
      by_cases h0 : textL l = []
      · simp [h0]
      · simp only [h0, if_false, hg]
        cases nameL (textL l) with
        | none => simp
        | some q => simp
    rw [goL, goL, ht]
    by_cases h0 : textL l = []
    · have : (turnL fs false p (p + l.length) (textL l)).2.2 = false := by unfold turnL; simp [h0]
      simp [this]
    · simp [h0]
theorem contL_stop (p : Nat) (ls : List (List UInt8)) : ∀ l r, (contL p ls).2.2 = l :: r → goesB (textL l) = false := by
  induction ls generalizing p with
  | nil => intro l r h; simp [contL] at h
  | cons x ls ih =>
    intro l r h
    unfold contL at h
    by_cases hg : goesB (textL x) = true
    · rw [if_pos hg] at h; exact ih _ l r h
    · rw [if_neg hg] at h
      simp at h
      rw [← h.1]; simpa using hg

/-- the two ways to read a header tell the same -/
theorem goL_ref (n : Nat) : ∀ (ls : List (List UInt8)), ls.length ≤ n → ∀ (fs : List Fld) (p : Nat), ((goL fs false p ls).1.map trimF, (goL fs false p ls).2) = (fs.map trimF ++ (refL p ls).1, (refL p ls).2) := by
  induction n with
  | zero =>
    intro ls hl fs p
    obtain rfl : ls = [] := List.eq_nil_of_length_eq_zero (by omega)
    simp [goL, refL]
  | succ n ih =>
    intro ls hl fs p
    cases ls with
    | nil => simp [goL, refL]
    | cons l ls =>
      simp only [List.length_cons] at hl
      rw [refL_cons]
      by_cases h0 : textL l = []
      · have ht : turnL fs false p (p + l.length) (textL l) = (fs, false, false) := by unfold turnL; rw [if_pos h0]
        rw [goL, ht, if_neg (by simp), if_pos h0]
        simp
      · rw [if_neg h0]
        have hcl := contL_len (p + l.length) ls
        by_cases hg : goesB (textL l) = true
        · have ht : turnL fs false p (p + l.length) (textL l) = (fs, false, true) := by unfold turnL; rw [if_neg h0, if_pos hg]
          rw [goL, ht, if_pos rfl, goL_shut, ih _ (by omega)]
          cases nameL (textL l) with
          | none => rfl
          | some q => simp [hg]
        · have hgf : goesB (textL l) = false := by simpa using hg
          cases hn : nameL (textL l) with
          | none =>
            have ht : turnL fs false p (p + l.length) (textL l) = (fs, false, true) := by unfold turnL; rw [if_neg h0, if_neg hg, hn]
            rw [goL, ht, if_pos rfl, goL_shut, ih _ (by omega)]
          | some q =>
            obtain ⟨nm, v⟩ := q
            have ht : turnL fs false p (p + l.length) (textL l) = (fs ++ [⟨nm, v, p, p + l.length⟩], true, true) := by unfold turnL; rw [if_neg h0, if_neg hg, hn]
            rw [goL, ht, if_pos rfl, goL_open _ _ _ _ rfl, goL_either _ _ _ (contL_stop _ _), ih (contL (p + l.length) ls).2.2 (by omega)]
            simp [hg, trimF]

theorem fields_ref (m : List UInt8) : fieldsL m = (refL 0 (linesOf m)).1 ∧ bodyL m = (refL 0 (linesOf m)).2 := by
  have := goL_ref (linesOf m).length (linesOf m) (Nat.le_refl _) [] 0
  simp only [List.map_nil, List.nil_append] at this
  have h1 := congrArg Prod.fst this
  have h2 := congrArg Prod.snd this
  exact ⟨h1, h2⟩

end Go.Proofs.YthnkgifbbemhfaaGreatDoor
